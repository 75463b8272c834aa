/- The contract of the reference's Update of chapter 54. -/
import Derived.Test.YtlbomlolomcolaaRefP2
import Derived.Test.YtlbomlolomcolaaPar11
import Derived.Deep.QuietTactic
import Derived.BigQuiet
import Derived.StillTailTactics
namespace Go.Proofs.Ytlbomlolomcolaa
open Go.RowKit

theorem parErr_flags {parts : List (List Nat)} {data : Int} (hP : parErr parts data = 0) : longB parts = false ∧ misB parts = false := by
  unfold parErr at hP
  split at hP
  · simp at hP
  split at hP
  · simp at hP
  split at hP
  · simp at hP
  split at hP
  · simp at hP
  rename_i h1 h2
  exact ⟨by simpa using h1, by simpa using h2⟩

theorem ch_get {part pt : List Nat} {x : Nat} (h1 : x < part.length) (h2 : x < pt.length) (b1 : Byt part) (b2 : Byt pt) : bits .xor .u8 (pt.getD x 0) (part.getD x 0) = ((addMul 1 part pt).getD x 0 : Nat) := by
  rw [xor_u8 _ _ (b2.getD x) (b1.getD x)]
  unfold addMul
  rw [List.getD_eq_getElem?_getD (l := List.zipWith _ _ _), List.getElem?_zipWith, getD_some (l := part) (d := 0) h1, getD_some (l := pt) (d := 0) h2]
  show ((_ : Nat) : Int) = ((_ : Nat) : Int)
  congr 1
  show _ = part.getD x 0 ^^^ Gf.gm 1 (pt.getD x 0)
  rw [Gf.one_gm (b2.getD x), Nat.xor_comm]

theorem owns_empty (w : World) (T : Nat) : (w.alloc (.cells #[] T)).ownsRow w.heap.size T 1 (.slice (some ⟨w.heap.size, 0, none⟩) 0 0) 0 [] :=
  ⟨rfl, .inr ⟨w.heap.size, 0, #[], rfl, Nat.le_refl _, (by show (w.heap.push _)[w.heap.size]? = _; simp), Nat.le_refl _, Nat.zero_le _, rfl, rfl⟩⟩

set_option maxRecDepth 100000 in
set_option maxHeartbeats 8000000 in
theorem rUpdate_loop (b o cap L d : Nat) (at' : Int) (parts : List (List Nat)) (ap : Option Addr) (capp : Nat) (part : List Nat) (A : Nat → Option Addr) (C : Nat → Nat) (w : World) (hM : MxAt w b o parts A C) (hm : Mx w (.slice (some ⟨b, o, none⟩) parts.length cap) parts)
    (hp : part = [] ∨ ∃ bp op, ap = some ⟨bp, op, none⟩ ∧ RowAt w bp op part) (hE : parErr parts d = 0) (hLm : ∀ j, j < parts.length → plen parts j ≤ maxLen) (hBy : BytM parts) (hL0 : plen parts 0 = L) (hBp : Byt part) (hpn : part.length ≤ maxLen) (ha1 : -9223372036854775808 ≤ at') (ha2 : at' ≤ 9223372036854775807) :
    Calls Try.prog 27 #[.slice (some ⟨b, o, none⟩) parts.length cap, .int .i64 d, .int .i64 at', .slice ap part.length capp] w (RowsErr (updRows parts d at' part) (updErr parts d at' part) w) := by
  obtain ⟨i0, hi, hz0, hz1, hz2⟩ := info_parts infoByte
  obtain ⟨j0, gi, gz0, gz1, gz2⟩ := info_parts infoBytes
  obtain ⟨q1, q2, q3, q4⟩ := parErr_in hE
  have HM := Lib.hid hM
  have Hm := Lib.hid hm
  have Hp := Lib.hid hp
  have HE := Lib.hid hE
  have HLm := Lib.hid hLm
  have HBy := Lib.hid hBy
  have HL0 := Lib.hid hL0
  have HBp := Lib.hid hBp
  have HE0 := Lib.hid (show updErr parts d at' part = if lostB parts then 26 else if at' < 0 ∨ (d : Int) ≤ at' then 2 else if part.length ≠ plen parts 0 then 23 else 0 by unfold updErr; rw [if_pos hE])
  have hpm := hpn
  unfold maxLen at hpm
  clear hM hm hp hE hLm hBy hL0 hBp hpn
  go_enter Try.func27, Try.ntmps27
  go_wp2_with fail
  refine (rCheck54_any _ parts d _ (by omega) HLm.out Hm.out (by omega) (by omega)).mono ?_
  rintro e w1 ⟨rfl, rfl⟩
  rw [HE.out]
  go_wp2_with fail
  go_loopg [11] parts.length (fun gk i wr => ∃ k : Nat, k + gk = parts.length ∧ i = .int .i64 k ∧ Hid (∀ i, i < k → plen parts i ≠ 0) ∧ w = wr)
  case atStart => exact ⟨0, by omega, rfl, fun i hi => by omega, rfl⟩
  case round =>
    obtain ⟨k, hgk, rfl, hag, rfl⟩ := hrel
    have Hgk := Lib.hid hgk
    have hk : k ≤ parts.length := by omega
    clear hgk
    by_cases hlt : k < parts.length
    · have p1 : w.cell? ⟨b, o + k, none⟩ = some (.slice (A k) (plen parts k) (C k)) := (HM.out k _ (getD_some (d := []) hlt)).1
      have hxm := HLm.out k hlt
      unfold maxLen at hxm
      by_cases x1 : plen parts k = 0
      · have hr := Lib.hid (show updErr parts d at' part = 26 by rw [HE0.out, if_pos]; unfold lostB; rw [List.any_eq_true]; exact ⟨k, List.mem_range.2 hlt, decide_eq_true x1⟩)
        have hr2 := Lib.hid (show updRows parts d at' part = [] by unfold updRows; rw [hr.out]; rfl)
        have x3 : ((plen parts k : Int) == 0) = true := by rw [beq_iff_eq]; omega
        generalize plen parts k = x at *
        clear hag x1
        go_wp2_with fail
        go_ret2
        exact ⟨.slice none 0 0, [], by rw [hr.out]; rfl, by rw [hr2.out]; exact GM.nil _ _, Below.refl _ _⟩
      · have hs : Hid (∀ i, i < k + 1 → plen parts i ≠ 0) := by
          intro i hi
          by_cases hik : i = k
          · rw [hik]; omega
          · exact hag.out i (by omega)
        have x3 : ((plen parts k : Int) == 0) = false := by rw [beq_eq_false_iff_ne]; omega
        generalize plen parts k = x at p1 x1 hxm x3
        clear hag x1
        go_wp2_with fail
        go_roundg (parts.length - k - 1)
        case measure => have := Hgk.out; omega
        case rel => exact ⟨k + 1, by have := Hgk.out; omega, by go_num, hs.out, rfl⟩
    · have hlost : lostB parts = false := by
        unfold lostB
        rw [List.any_eq_false]
        intro i hi
        have := hag.out i (by have := List.mem_range.1 hi; omega)
        simpa using this
      have hE1 := HE0.out
      rw [hlost, if_neg (by simp)] at hE1
      clear hag HE0
      by_cases a1 : at' < 0
      · have t1 : decide (at' < 0) = true := by simp; omega
        rw [if_pos (Or.inl a1)] at hE1
        have hr := Lib.hid hE1
        have hr2 := Lib.hid (show updRows parts d at' part = [] by unfold updRows; rw [hr.out]; rfl)
        clear hE1 hlost
        go_wp2_with fail
        go_ret2
        exact ⟨.slice none 0 0, [], by rw [hr.out]; rfl, by rw [hr2.out]; exact GM.nil _ _, Below.refl _ _⟩
      have t1 : decide (at' < 0) = false := by simp; omega
      by_cases a2 : (d : Int) ≤ at'
      · have t2 : decide ((d : Int) ≤ at') = true := by simp; omega
        rw [if_pos (Or.inr a2)] at hE1
        have hr := Lib.hid hE1
        have hr2 := Lib.hid (show updRows parts d at' part = [] by unfold updRows; rw [hr.out]; rfl)
        clear hE1 hlost
        go_wp2_with fail
        go_ret2
        exact ⟨.slice none 0 0, [], by rw [hr.out]; rfl, by rw [hr2.out]; exact GM.nil _ _, Below.refl _ _⟩
      have t2 : decide ((d : Int) ≤ at') = false := by simp; omega
      rw [if_neg (by omega)] at hE1
      obtain ⟨t, rfl⟩ : ∃ t : Nat, at' = t := ⟨at'.toNat, by omega⟩
      have p0 : w.cell? ⟨b, o, none⟩ = some (.slice (A 0) L (C 0)) := by rw [← HL0.out]; exact (HM.out 0 _ (getD_some (d := []) (by omega))).1
      have hLx := HLm.out 0 (by omega)
      rw [HL0.out] at hLx
      unfold maxLen at hLx
      by_cases a3 : part.length ≠ L
      · have t3 : ((part.length : Int) != (L : Int)) = true := by rw [bne_iff_ne]; omega
        rw [if_pos (by rw [HL0.out]; exact a3)] at hE1
        have hr := Lib.hid hE1
        have hr2 := Lib.hid (show updRows parts d t part = [] by unfold updRows; rw [hr.out]; rfl)
        clear hE1 hlost
        go_wp2_with fail
        go_ret2
        exact ⟨.slice none 0 0, [], by rw [hr.out]; rfl, by rw [hr2.out]; exact GM.nil _ _, Below.refl _ _⟩
      have a4 : part.length = L := by omega
      have t3 : ((part.length : Int) != (L : Int)) = false := by rw [bne_eq_false_iff_eq]; omega
      rw [if_neg (by rw [HL0.out]; exact a3)] at hE1
      have hr := Lib.hid hE1
      have hr2 := Lib.hid (show updRows parts d t part = updM parts d t part by unfold updRows; rw [hr.out]; rfl)
      obtain ⟨hlo, hmi⟩ := parErr_flags HE.out
      obtain ⟨hR, hL1⟩ := lostB_rect HBy.out hlost hmi (by omega)
      rw [HL0.out] at hR hL1
      have hL2 : L ≤ 65536 := by rw [← HL0.out]; exact long_le hlo (by omega)
      obtain ⟨bp, op, rfl, hrow⟩ : ∃ bp op, ap = some ⟨bp, op, none⟩ ∧ RowAt w bp op part := by
        rcases Hp.out with h | h
        · rw [h] at a4; simp at a4; omega
        · exact h
      have HR := Lib.hid hR
      have Hrow := Lib.hid hrow
      have Hpl := Lib.hid a4
      have ht : t < d := by omega
      have hd1 : 1 ≤ d := by omega
      have e1 : ((parts.length : Int) - (d : Int)) = ((parts.length - d : Nat) : Int) := by omega
      rw [a4] at t3 ⊢
      clear hE1 hlost a1 a2 a3 a4 hlo hmi hR hrow hpm ha1 ha2 hLx
      go_wp2_with fail
      refine (rRows_any d (parts.length - d) _ (by omega) (by omega)).mono ?_
      rintro e w4 ⟨vr, hdR, rfl, hG, hB4⟩
      obtain ⟨bR, cR, hvr, hcR, _, hO4⟩ := hG.done (by intro h; have := rowsM_length d (parts.length - d); rw [h] at this; simp at this; omega)
      rw [rowsM_length, show d + (parts.length - d) = parts.length by omega] at hvr hcR
      subst hvr
      have HO4 := Lib.hid hO4
      have HB4 := Lib.hid hB4
      have HM4 := Lib.hid (HM.out.new hB4)
      have hz4 := hB4.size
      have HRl := Lib.hid (show (rowsM d (parts.length - d)).length = parts.length by rw [rowsM_length]; omega)
      have HRr2 := Lib.hid (rowsM_rect d (parts.length - d))
      have hat := HM.out t _ (getD_some (d := []) (by omega))
      have hRt := HR.out.get (i := t) (by omega)
      obtain ⟨bt, ot, hAt, hrt⟩ : ∃ bt ot, A t = some ⟨bt, ot, none⟩ ∧ RowAt w bt ot (parts.getD t []) := by
        rcases hat.2.2.1 with h0 | h
        · rw [h0] at hRt; simp at hRt; omega
        · exact h
      have cat := hat.1
      rw [hAt, hRt.1] at cat
      have Hcat := Lib.hid cat
      have Hrt := Lib.hid hrt
      have HRt := Lib.hid hRt
      generalize hpt : parts.getD t [] = pt at Hrt HRt
      have Hpt := Lib.hid hpt
      obtain ⟨ch, hch⟩ : ∃ ch, addMul 1 part pt = ch := ⟨_, rfl⟩
      have Hch := Lib.hid hch
      have Hcl := Lib.hid (show ch.length = L by rw [← hch, addMul_length, Hpl.out, HRt.out.1]; omega)
      have HchB := Lib.hid (show Byt ch by rw [← hch]; exact addMul_byt HBp.out)
      clear hG hO4 hB4 e1 p0 hat hRt hAt hrt cat hpt hch
      go_wp2_with fail
      go_loopg [13, 14] parts.length (fun gk v i wr => ∃ q : Nat, q + gk = parts.length ∧ i = .int .i64 q ∧ Hid (∃ hd', GM wr w4.heap.size v hd' ((updM parts d t part).take q)) ∧ Hid (Below w4.heap.size w4 wr))
      case atStart => exact ⟨0, by omega, rfl, ⟨[], GM.nil _ _⟩, Below.refl _ _⟩
      case round =>
        obtain ⟨q, hgq, rfl, hG, hB⟩ := hrel
        have Hgq := Lib.hid hgq
        have hq : q ≤ parts.length := by omega
        clear hgq
        by_cases hltq : q < parts.length
        · obtain ⟨hd2, hG⟩ := hG.out
          obtain ⟨wo, rfl⟩ : ∃ wo : World, wo = wr := ⟨_, rfl⟩
          have hrg : (rowsM d (parts.length - d))[q]? = some ((rowsM d (parts.length - d)).getD q []) := getD_some (by rw [HRl.out]; exact hltq)
          obtain ⟨p, hp⟩ : ∃ p, hdR[q]? = some p := ⟨hdR.getD q (0, 0), getD_some (by rw [HO4.out.len, HRl.out]; exact hltq)⟩
          have hrr := HRr2.out.get (i := q) (by rw [HRl.out]; exact hltq)
          have hpc := (HO4.out.outer.below hB.out HO4.out.outer.lt).cell (hvs_get hp hrg)
          have hbR : bR < w4.heap.size := HO4.out.outer.lt
          obtain ⟨hpb, _, hpl⟩ := HO4.out.rows _ p _ hp hrg
          rw [hrr.1] at hpc hpl
          unfold hv at hpc
          have hplt := hpb.lt
          have hprow := (hpb.below hB.out hpb.lt)
          have htk := Lib.hid (updM_take (d := d) (t := t) (part := part) hltq)
          have hat := (HM4.out.new hB.out) q _ (getD_some (d := []) hltq)
          have hRq := HR.out.get (i := q) hltq
          obtain ⟨bq, oq, hAq, hrq⟩ : ∃ bq oq, A q = some ⟨bq, oq, none⟩ ∧ RowAt wo bq oq (parts.getD q []) := by
            rcases hat.2.2.1 with h0 | h
            · rw [h0] at hRq; simp at hRq; omega
            · exact h
          have caq := hat.1
          rw [hAq, hRq.1] at caq
          have Hur := Lib.hid (show updRow parts d t part q = addMul (((rowsM d (parts.length - d)).getD q []).getD t 0) (parts.getD q []) ch by unfold updRow; rw [Hpt.out, Hch.out])
          have hfb := hrr.2.getD t
          have hct := hprow.cell (i := t) (v := bv (((rowsM d (parts.length - d)).getD q []).getD t 0)) (by rw [List.getElem?_map, getD_some (d := 0) (by rw [hrr.1]; exact ht)]; rfl)
          unfold bv at hct
          generalize ((rowsM d (parts.length - d)).getD q []).getD t 0 = f at *
          generalize parts.getD q [] = pq at *
          have hBe : Below wo.heap.size wo (wo.alloc (.cells #[] 5)) := (Below.refl _ wo).alloc (Nat.le_refl _) _
          have Hsrc := Lib.hid (hrq.src hBe)
          have caq' := (hBe.cell (p := ⟨b, o + q, none⟩) (World.block_lt_of_cell? wo _ caq)).trans caq
          have HBe := Lib.hid hBe
          have HRq := Lib.hid hRq
          have HG := Lib.hid hG
          have HBr := Lib.hid hB.out
          have hzz : w4.heap.size ≤ wo.heap.size := hB.out.size
          have Hct := Lib.hid hct
          have Hpc := Lib.hid hpc
          clear hG hB hrg hp hpb hrr hat hAq hrq hRq hprow hct hpc caq hBe
          go_wp2_with (at_builtin; refine wpList_append_own _ rfl _ _ 26 rfl wo.heap.size 5 i0 (.int .u8 0) 1 1 Try.underlying26 hi hz0 hz1 hz2 rfl (by decide) _ 0 [] rfl (owns_empty wo _) ⟨bq, oq, none⟩ L (C q) (pq.map bv) rfl ?c1 ?c2 ?c3 ?c4 ?c5 ?c6 ?_)
          case c1 => simp [HRq.out.1]
          case c2 => exact Hsrc.out
          case c3 => intro u hu; obtain ⟨x, _, rfl⟩ := List.mem_map.1 hu; rfl
          case c4 => unfold maxLen; omega
          case c5 => omega
          case c6 => exact HBe.out.size
          intro v3 w5 hown3 hgr3 _
          have hown3' : w5.ownsRow wo.heap.size 5 1 v3 L (pq.map bv) := by simpa [HRq.out.1] using hown3
          obtain ⟨gq, cq, hv3, q1, q2, q3⟩ := ne_of_owns hown3' (by omega)
          rw [hv3] at hown3' ⊢
          have Hblk5 := Lib.hid (Blk.of_owns hown3')
          have HB5 := Lib.hid (show Below wo.heap.size wo w5 from HBe.out.grown hgr3 HBe.out.size (fun q hq => by simp [Value.ownBlock] at hq; omega))
          have hz5 := HB5.out.size
          have hgq := Hblk5.out.lt
          have HB05 := Lib.hid (HB4.out.trans ((HBr.out.trans (HB5.out.mono hzz)).mono hz4))
          clear hown3 hown3' hgr3 hv3 caq'
          go_wp2_with fail
          go_loopg [16] L (fun gx i wr => ∃ x : Nat, x + gx = L ∧ i = .int .i64 x ∧ Hid (Kept (· = gq) w5 wr) ∧ Hid (Blk wr gq 5 ((amTo f pq ch x).map bv)))
          case atStart => exact ⟨0, by omega, rfl, Kept.refl _ _, by rw [amTo_zero]; exact Hblk5.out⟩
          case round =>
            obtain ⟨x, hgx, rfl, hK, hB⟩ := hrel
            have Hgx := Lib.hid hgx
            have hx : x ≤ L := by omega
            clear hgx
            by_cases hltx : x < L
            · have hl1 := HRq.out.1
              have hl2 := Hcl.out
              have hl3 := HRt.out.1
              have hl4 := Hpl.out
              have nb : ∀ {p : Addr} {v : Value}, w.cell? p = some v → wr.cell? p = some v := fun {p v} h => by
                have hlt := World.block_lt_of_cell? w _ h
                exact hK.out.cell ((HB05.out.cell hlt).trans h) (by omega)
              have d1 : wr.cell? ⟨gq, x, none⟩ = some (.int .u8 (pq.getD x 0)) := hB.out.cell (by rw [List.getElem?_map, amTo_get (by omega) (by omega)]; rfl)
              have f1 := hB.out.frozen x
              have d3 := hK.out.cell ((HB5.out.cell (p := ⟨p.1, t, none⟩) (show p.1 < wo.heap.size by omega)).trans Hct.out) (show ¬ p.1 = gq by omega)
              have d4 := hK.out.cell ((HB5.out.cell (p := ⟨bR, q, none⟩) (show bR < wo.heap.size by omega)).trans Hpc.out) (show ¬ bR = gq by omega)
              have d5 := nb Hcat.out
              have d6 := nb (Hrt.out x _ (getD_some (d := 0) (by omega)))
              have d7 := nb (Hrow.out x _ (getD_some (d := 0) (by omega)))
              unfold bv at d6 d7
              have e1 := HRq.out.2.getD x
              have e2 := HchB.out.getD x
              have e3 := HRt.out.2.getD x
              have e4 := HBp.out.getD x
              have hfx := ch_get (part := part) (pt := pt) (x := x) (by omega) (by omega) HBp.out HRt.out.2
              rw [Hch.out] at hfx
              have HK := Lib.hid hK.out
              have HB := Lib.hid hB.out
              generalize hxx : pq.getD x 0 = px at *
              generalize hyy : ch.getD x 0 = fx at *
              generalize pt.getD x 0 = ptx at *
              generalize part.getD x 0 = ppx at *
              have Hxx := Lib.hid hxx
              have Hyy := Lib.hid hyy
              have i1 : (0 : Int) ≤ (x : Int) := by omega
              have i2 : (x : Int) < (L : Int) := by omega
              have i3 : (0 : Int) ≤ (q : Int) := by omega
              have i4 : (q : Int) < (parts.length : Int) := by omega
              have i5 : (0 : Int) ≤ (t : Int) := by omega
              have i6 : (t : Int) < (parts.length : Int) := by omega
              have i7 : (t : Int) < (d : Int) := by omega
              clear hxx hyy hl1 hl2 hl3 hl4 hK hB nb
              go_wp2_with fail
              go_still_tail 28, (by kernel_rfl)
              refine wpStill_step (fun K hK => ?_)
              go_simp
              refine ⟨_, (rMul_any _ _ _ hfb e2).mono (fun _ _ h => ⟨h.1, h.2.symm⟩), hK _ ?_⟩
              clear hK K
              repeat still_step
              refine wpStill_nil ?_
              have d1' : (wr.drewN 1).cell? ⟨gq, x, none⟩ = some (.int .u8 px) := d1
              have f1' : (wr.drewN 1).frozen? ⟨gq, x, none⟩ = false := f1
              have hst := Lib.hid (red1_step (f := f) 1 (by rw [Hcl.out]; exact hltx) (by rw [HRq.out.1, Hcl.out]) Hxx.out Hyy.out e1 HK.out HB.out)
              change wpList _ _ _ _ _ (wr.drewN 1)
              generalize wr.drewN 1 = wd at *
              go_wp2_with fail
              go_roundg (L - x - 1)
              case measure => have := Hgx.out; omega
              case rel => exact ⟨x + 1, by have := Hgx.out; omega, by go_num, hst.out.1, hst.out.2⟩
            · have hxl : x = ch.length := by rw [Hcl.out]; omega
              have hfin := hB.out
              rw [amTo_all hxl (by rw [HRq.out.1, Hcl.out]), ← Hur.out] at hfin
              have Hurl := Lib.hid (show (updRow parts d t part q).length = L by rw [Hur.out, addMul_length, HRq.out.1, Hcl.out]; omega)
              generalize updRow parts d t part q = pr at *
              have HBx := Lib.hid (HB5.out.trans (hK.out.below (B := wo.heap.size) (by omega) (fun j hj e => by omega)))
              have Hblk := Lib.hid hfin
              have HGo := Lib.hid ((HG.out.new HBx.out).outer)
              have hzr := HBx.out.size
              have Hlk := Lib.hid (show ((updM parts d t part).take q).length = q by rw [List.length_take, updM_length]; omega)
              have Hq2 := Lib.hid q2
              clear hxl hfin hK hB q2 q3
              go_wp2_with (at_builtin; refine wpList_append_own _ rfl _ _ 39 rfl w4.heap.size 26 j0 (.slice none 0 0) 1 24 Try.underlying39 gi gz0 gz1 gz2 rfl (by decide) _ _ _ rfl (HGo.out.alloc _) ⟨wr.heap.size, 0, none⟩ 1 1 [hv L (gq, cq)] rfl rfl ?d1 ?d2 ?d3 ?d4 ?d5 ?_)
              case d1 => exact cell_one_new _ _ _
              case d2 => intro u hu; simp only [List.mem_cons, List.not_mem_nil, or_false] at hu; subst hu; rfl
              case d3 => rw [Hlk.out]; unfold maxLen; omega
              case d4 => rw [Hlk.out]; omega
              case d5 => simp; omega
              intro v' w9 hown hgr _
              have hG9 := HG.out.snoc HBx.out (p := (gq, cq)) (r := pr) Hblk.out q1 HBr.out.size (by rw [Hurl.out]; exact Hq2.out) (by rw [Hlk.out, Hurl.out]; simpa [updM_length, Nat.min_eq_left hq] using hown) (by simpa using hgr)
              rw [← htk.out] at hG9
              have hB9 : Below w4.heap.size w4 w9 := ((HBr.out.trans (HBx.out.mono HBr.out.size)).alloc (by omega) _).grown hgr (by simp; omega) (fun q hq => (owns_block HG.out.outer hq).2.1)
              have HG9 := Lib.hid hG9
              have HB9 := Lib.hid hB9
              clear hown hgr hG9 hB9
              go_wp2_with fail
              go_roundg (parts.length - q - 1)
              case measure => have := Hgq.out; omega
              case rel => exact ⟨q + 1, by have := Hgq.out; omega, by go_num, ⟨_, HG9.out⟩, HB9.out⟩
        · have hkn : (updM parts d t part).take q = updM parts d t part := List.take_of_length_le (by rw [updM_length]; omega)
          obtain ⟨hd2, hG⟩ := hG.out
          rw [hkn] at hG
          have HG := Lib.hid hG
          have HBe := Lib.hid hB.out
          clear hG hkn hB
          go_wp2_with fail
          go_ret2
          exact ⟨_, hd2, by rw [hr.out]; rfl, by rw [hr2.out]; exact HG.out.base hz4, HB4.out.trans (HBe.out.mono hz4)⟩

set_option maxRecDepth 100000 in
set_option maxHeartbeats 2000000 in
theorem rUpdate_any (v : Value) (parts : List (List Nat)) (data at' : Int) (vp : Value) (part : List Nat) (w : World) (hn : parts.length ≤ 1000000000) (hLm : ∀ j, j < parts.length → plen parts j ≤ maxLen) (hBy : BytM parts) (hm : Mx w v parts) (hp : Bs w vp part) (hBp : Byt part) (hpn : part.length ≤ maxLen)
    (hd1 : -9223372036854775808 ≤ data) (hd2 : data ≤ 9223372036854775807) (ha1 : -9223372036854775808 ≤ at') (ha2 : at' ≤ 9223372036854775807) :
    Calls Try.prog 27 #[v, .int .i64 data, .int .i64 at', vp] w (RowsErr (updRows parts data at' part) (updErr parts data at' part) w) := by
  by_cases hE : parErr parts data = 0
  · obtain ⟨q1, q2, q3, q4⟩ := parErr_in hE
    have hm' := hm
    obtain ⟨a, cap, rfl, hcap, h⟩ := hm
    obtain ⟨ap, capp, rfl, hcapp, hp⟩ := hp
    rcases h with h | ⟨b, o, A, C, rfl, hM⟩
    · rw [h] at q3; simp at q3
    obtain ⟨d, rfl⟩ : ∃ d : Nat, data = d := ⟨data.toNat, by omega⟩
    exact rUpdate_loop b o cap _ d at' parts ap capp part A C w hM hm' hp hE hLm hBy rfl hBp hpn ha1 ha2
  · have e1 : updErr parts data at' part = parErr parts data := by unfold updErr; rw [if_neg hE]
    have e2 : updRows parts data at' part = [] := by unfold updRows; rw [e1, if_neg hE]
    rw [e1, e2]
    have Hm := Lib.hid hm
    have HLm := Lib.hid hLm
    obtain ⟨pe, hpe⟩ : ∃ pe, parErr parts data = pe := ⟨_, rfl⟩
    have tP : ((pe : Int) != 0) = true := by rw [bne_iff_ne]; rw [hpe] at hE; omega
    have Hpe := Lib.hid hpe
    obtain ⟨a, cap, rfl, hcap, h⟩ := hm
    obtain ⟨ap, capp, rfl, hcapp, hp⟩ := hp
    clear hE e1 e2 hpe h hBy hp hLm
    go_enter Try.func27, Try.ntmps27
    go_wp2_with fail
    refine (rCheck54_any _ parts data _ (by omega) HLm.out Hm.out hd1 hd2).mono ?_
    rintro e w1 ⟨rfl, rfl⟩
    rw [Hpe.out]
    go_wp2_with fail
    go_ret2
    exact ⟨.slice none 0 0, [], by rw [Hpe.out]; rfl, GM.nil _ _, Below.refl _ _⟩
end Go.Proofs.Ytlbomlolomcolaa
