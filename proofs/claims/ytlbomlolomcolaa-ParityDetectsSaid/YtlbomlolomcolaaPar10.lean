/- The contract of parity.Update. -/
import Derived.Test.YtlbomlolomcolaaPar8
namespace Go.Proofs.Ytlbomlolomcolaa
open Go.RowKit

def lostB (parts : List (List Nat)) : Bool := (List.range parts.length).any fun i => decide (plen parts i = 0)
def updErr (parts : List (List Nat)) (data at' : Int) (part : List Nat) : Nat :=
  if parErr parts data = 0 then if lostB parts then 26 else if at' < 0 ∨ data ≤ at' then 2 else if part.length ≠ plen parts 0 then 23 else 0 else parErr parts data
def updRow (parts : List (List Nat)) (d t : Nat) (part : List Nat) (i : Nat) : List Nat := addMul (((rowsM d (parts.length - d)).getD i []).getD t 0) (parts.getD i []) (addMul 1 part (parts.getD t []))
def updM (parts : List (List Nat)) (d t : Nat) (part : List Nat) : List (List Nat) := (List.range parts.length).map (updRow parts d t part)
def updRows (parts : List (List Nat)) (data at' : Int) (part : List Nat) : List (List Nat) := if updErr parts data at' part = 0 then updM parts data.toNat at'.toNat part else []

theorem updM_length (parts : List (List Nat)) (d t : Nat) (part : List Nat) : (updM parts d t part).length = parts.length := by simp [updM]
theorem updM_take {parts : List (List Nat)} {d t k : Nat} {part : List Nat} (hk : k < parts.length) : (updM parts d t part).take (k + 1) = (updM parts d t part).take k ++ [updRow parts d t part k] := by
  rw [List.take_add_one]; simp [updM, hk]

theorem lostB_rect {parts : List (List Nat)} (hB : BytM parts) (hl : lostB parts = false) (hm : misB parts = false) (h1 : 1 ≤ parts.length) : Rect (plen parts 0) parts ∧ 1 ≤ plen parts 0 := by
  unfold lostB at hl
  rw [List.any_eq_false] at hl
  have h' : ∀ i, i < parts.length → 1 ≤ plen parts i := fun i hi => by
    have := hl i (List.mem_range.2 hi)
    simp only [decide_eq_true_eq] at this
    omega
  refine ⟨fun r hr => ?_, h' 0 (by omega)⟩
  obtain ⟨i, hi⟩ := List.mem_iff_getElem?.1 hr
  have hi1 := (List.getElem?_eq_some_iff.1 hi).1
  have := mis_eq hm ⟨i, hi1, h' i hi1⟩ ⟨0, by omega, h' 0 (by omega)⟩
  unfold plen at this ⊢
  simp only at this
  rw [List.getD_eq_getElem?_getD, hi] at this
  exact ⟨this, hB r hr⟩

theorem x1_step {w1 wr : World} {g T k x y : Nat} {ts fr : List Nat} (hk : k < fr.length) (hl : ts.length = fr.length) (hx : ts.getD k 0 = x) (hy : fr.getD k 0 = y) (b1 : x < 256) (b2 : y < 256)
    (hK : Kept (· = g) w1 wr) (hB : Blk wr g T ((amTo 1 ts fr k).map bv)) :
    Kept (· = g) w1 (wr.setCell ⟨g, k, none⟩ (.int .u8 (bits .xor .u8 x y))) ∧ Blk (wr.setCell ⟨g, k, none⟩ (.int .u8 (bits .xor .u8 x y))) g T ((amTo 1 ts fr (k + 1)).map bv) := by
  refine ⟨hK.setCell (fun _ => rfl) _, ?_⟩
  have h1 := hB.setCell (i := k) (by simpa using (List.getElem?_eq_some_iff.1 (amTo_get (f := 1) hk hl)).1) (.int .u8 (bits .xor .u8 x y))
  rw [xor_u8 _ _ b1 b2] at h1 ⊢
  rw [← amTo_set hk hl, hx, hy, Gf.one_gm b2, List.map_set]
  exact h1

set_option maxRecDepth 100000 in
set_option maxHeartbeats 8000000 in
theorem pUpdate_in (b o cap bp op capp L d t : Nat) (parts : List (List Nat)) (part : List Nat) (A : Nat → Option Addr) (C : Nat → Nat) (w : World) (hM : MxAt w b o parts A C) (hm : Mx w (.slice (some ⟨b, o, none⟩) parts.length cap) parts) (hrow : RowAt w bp op part) (hE : parErr parts d = 0) (hlost : lostB parts = false) (hR : Rect L parts) (hL0 : plen parts 0 = L) (hL1 : 1 ≤ L) (hL2 : L ≤ 65536) (hpl : part.length = L) (hBp : Byt part) (ht : t < d) (h2 : d ≤ parts.length) (h3 : parts.length ≤ 64) :
    Calls Try.prog 26 #[.slice (some ⟨b, o, none⟩) parts.length cap, .int .i64 d, .int .i64 t, .slice (some ⟨bp, op, none⟩) L capp] w (RowsErr (updM parts d t part) 0 w) := by
  obtain ⟨j0, gi, gz0, gz1, gz2⟩ := info_parts infoBytes
  have HM := Lib.hid hM
  have Hm := Lib.hid hm
  have Hrow := Lib.hid hrow
  have HE := Lib.hid hE
  have Hlost := Lib.hid hlost
  have HR := Lib.hid hR
  have HL0 := Lib.hid hL0
  have Hpl := Lib.hid hpl
  have HBp := Lib.hid hBp
  have e1 : ((parts.length : Int) - (d : Int)) = ((parts.length - d : Nat) : Int) := by omega
  have t1 : decide ((t : Int) < 0) = false := by simp
  have t2 : decide ((d : Int) ≤ (t : Int)) = false := by simp; omega
  have t3 : ((L : Int) != (L : Int)) = false := by simp
  have h1 : 1 ≤ d := by omega
  clear hM hm hrow hE hlost hR hL0 hpl hBp
  go_enter Try.func26, Try.ntmps26
  go_wp2_with fail
  refine (pCheck_any _ parts d _ (by omega) Hm.out (by omega) (by omega)).mono ?_
  rintro e w1 ⟨rfl, hB1⟩
  rw [HE.out]
  have HB1 := Lib.hid hB1
  have HM1 := Lib.hid (HM.out.new hB1)
  clear hB1
  go_wp2_with fail
  refine (ContainsFunc_Update1 b o parts.length cap (fun i => .slice (A i) (plen parts i) (C i)) (fun i => decide (plen parts i = 0)) _ (by omega) ?hc ?hf).mono ?_
  case hc => exact fun i hi => (HM1.out i _ (getD_some (d := []) hi)).1
  case hf => exact fun i hi => Update1_any _ _ _ _
  rintro e w1' ⟨rfl, rfl⟩
  rw [any_firstOf, show ((List.range parts.length).any fun i => decide (plen parts i = 0)) = lostB parts from rfl, Hlost.out]
  have hc0 := (HM1.out 0 _ (getD_some (d := []) (by omega))).1
  rw [Nat.add_zero, (HR.out.get (i := 0) (by omega)).1] at hc0
  go_wp2_with fail
  refine (Clone_n bp op L part capp _ Hpl.out (by omega) (by exact (Hrow.out.new HB1.out))).mono ?_
  rintro e w2 ⟨g, cg, rfl, g1, g2, g3, hblk, hB2⟩
  have Hblk2 := Lib.hid hblk
  have HB2 := Lib.hid hB2
  have HM2 := Lib.hid (HM1.out.new hB2)
  have hz2 := hB2.size
  have hz1 := HB1.out.size
  have hat := (HM2.out t _ (getD_some (d := []) (by omega)))
  have hRt := HR.out.get (i := t) (by omega)
  obtain ⟨bt, ot, hAt, hrt⟩ : ∃ bt ot, A t = some ⟨bt, ot, none⟩ ∧ RowAt w2 bt ot (parts.getD t []) := by
    rcases hat.2.2.1 with h0 | h
    · rw [h0] at hRt; simp at hRt; omega
    · exact h
  have cat := hat.1
  rw [hAt, hRt.1] at cat
  have hbt : bt < w1.heap.size := by
    have hx := (HM1.out t _ (getD_some (d := []) (by omega))).2.2.1
    rcases hx with h0 | ⟨b', o', h, hr⟩
    · rw [h0] at hRt; simp at hRt; omega
    · rw [hAt] at h
      simp only [Option.some.injEq, Addr.mk.injEq, and_true] at h
      have h8 := hr 0 _ (getD_some (d := 0) (by rw [hRt.1]; omega))
      have h9 : b' < w1.heap.size := World.block_lt_of_cell? w1 _ h8
      omega
  have Hrt := Lib.hid hrt
  have HRt := Lib.hid hRt
  have HPt := Lib.hid (show parts.getD t [] = parts.getD t [] from rfl)
  generalize hpt : parts.getD t [] = pt at Hrt HRt
  have Hpt := Lib.hid hpt
  clear hblk hB2 hat hRt hAt hrt hc0 HPt hpt
  go_wp2_with fail
  clear cat
  go_loopg [53] L (fun gk i wr => ∃ k : Nat, k + gk = L ∧ i = .int .i64 k ∧ Hid (Kept (· = g) w2 wr) ∧ Hid (Blk wr g 5 ((amTo 1 part pt k).map bv)))
  case atStart => exact ⟨0, by omega, rfl, Kept.refl _ _, by rw [amTo_zero]; exact Hblk2.out⟩
  case round =>
    obtain ⟨k, hgk, rfl, hK, hB⟩ := hrel
    have Hgk := Lib.hid hgk
    have hk : k ≤ L := by omega
    clear hgk
    by_cases hlt : k < L
    · have hl1 := HRt.out.1
      have hl2 := Hpl.out
      have d1 : wr.cell? ⟨g, k, none⟩ = some (.int .u8 (part.getD k 0)) := hB.out.cell (by rw [List.getElem?_map, amTo_get (by omega) (by omega)]; rfl)
      have f1 := hB.out.frozen k
      have d2 := hK.out.cell (Hrt.out k _ (getD_some (d := 0) (by omega))) (by show ¬ bt = g; omega)
      unfold bv at d2
      have e1 := HBp.out.getD k
      have e2 := HRt.out.2.getD k
      have hst := Lib.hid (x1_step (by omega) (by omega) rfl rfl e1 e2 hK.out hB.out)
      generalize part.getD k 0 = px at *
      generalize pt.getD k 0 = fx at *
      clear hK hB hl1 hl2
      go_wp2_with fail
      go_roundg (L - k - 1)
      case measure => have := Hgk.out; omega
      case rel => exact ⟨k + 1, by have := Hgk.out; omega, by go_num, hst.out.1, hst.out.2⟩
    · obtain ⟨w3, rfl⟩ : ∃ w3 : World, w3 = wr := ⟨_, rfl⟩
      have hkl : k = pt.length := by rw [HRt.out.1]; omega
      have hfin := hB.out
      rw [amTo_all hkl (by rw [Hpl.out, HRt.out.1])] at hfin
      obtain ⟨ch, hch⟩ : ∃ ch, addMul 1 part pt = ch := ⟨_, rfl⟩
      rw [hch] at hfin
      have Hch := Lib.hid hch
      have hcl : ch.length = L := by rw [← hch, addMul_length, Hpl.out, HRt.out.1]; omega
      have Hcl := Lib.hid hcl
      have HchB := Lib.hid (show Byt ch by rw [← hch]; exact addMul_byt HBp.out)
      have HbC := Lib.hid hfin
      have HB13 := Lib.hid ((HB2.out.trans (hK.out.below (B := w1.heap.size) (by omega) (fun q hq e => by omega))))
      have HB3 := Lib.hid (HB1.out.trans (HB13.out.mono HB1.out.size))
      have hz3 := hK.out.size
      clear hfin hch hcl hkl hK hB
      go_wp2_with fail
      refine (pmatrix_at d (parts.length - d) _ h1 (by omega)).mono ?_
      rintro e w4 ⟨bR, cR, hdR, rfl, k1, k2, hO4, hB4, _, _⟩
      rw [show d + (parts.length - d) = parts.length by omega] at k1 ⊢
      have HO4 := Lib.hid hO4
      have HB4 := Lib.hid (HB3.out.trans (hB4.mono HB3.out.size))
      have HbC4 := Lib.hid (HbC.out.below hB4 HbC.out.lt)
      have HM4 := Lib.hid (HM.out.new HB4.out)
      have hz4 := hB4.size
      have hgl : g < w4.heap.size := HbC4.out.lt
      have HRl := Lib.hid (show (rowsM d (parts.length - d)).length = parts.length by rw [rowsM_length]; omega)
      have HRr2 := Lib.hid (rowsM_rect d (parts.length - d))
      clear hO4 hB4 e1
      go_wp2_with fail
      go_loopg [14, 73] parts.length (fun gk v i wr => ∃ q : Nat, q + gk = parts.length ∧ i = .int .i64 q ∧ Hid (∃ hd', GM wr w4.heap.size v hd' ((updM parts d t part).take q)) ∧ Hid (Below w4.heap.size w4 wr))
      case atStart => exact ⟨0, by omega, rfl, ⟨[], GM.nil _ _⟩, Below.refl _ _⟩
      case round =>
        obtain ⟨q, hgq, rfl, hG, hB⟩ := hrel
        have Hgq := Lib.hid hgq
        have hq : q ≤ parts.length := by omega
        clear hgq
        by_cases hltq : q < parts.length
        · obtain ⟨hd2, hG⟩ := hG.out
          obtain ⟨wo, rfl⟩ : ∃ wo : World, wo = wr := ⟨_, rfl⟩
          have hrg : (rowsM d (parts.length - d))[q]? = some ((rowsM d (parts.length - d)).getD q []) := getD_some (by rw [HRl.out]; exact hltq)
          obtain ⟨p, hp⟩ : ∃ p, hdR[q]? = some p := ⟨hdR.getD q (0, 0), getD_some (by rw [HO4.out.len, HRl.out]; exact hltq)⟩
          have hrr := HRr2.out.get (i := q) (by rw [HRl.out]; exact hltq)
          have hpc := (HO4.out.outer.below hB.out HO4.out.outer.lt).cell (hvs_get hp hrg)
          obtain ⟨hpb, _, hpl⟩ := HO4.out.rows _ p _ hp hrg
          rw [hrr.1] at hpc hpl
          unfold hv at hpc
          have hplt := hpb.lt
          have hprow := (hpb.below hB.out hpb.lt)
          have htk := Lib.hid (updM_take (d := d) (t := t) (part := part) hltq)
          have hat := (HM4.out.new hB.out) q _ (getD_some (d := []) hltq)
          have hRq := HR.out.get (i := q) hltq
          obtain ⟨bq, oq, hAq, hrq⟩ : ∃ bq oq, A q = some ⟨bq, oq, none⟩ ∧ RowAt wo bq oq (parts.getD q []) := by
            rcases hat.2.2.1 with h0 | h
            · rw [h0] at hRq; simp at hRq; omega
            · exact h
          have caq := hat.1
          rw [hAq, hRq.1] at caq
          have Hur := Lib.hid (show updRow parts d t part q = addMul (((rowsM d (parts.length - d)).getD q []).getD t 0) (parts.getD q []) ch by unfold updRow; rw [Hpt.out, Hch.out])
          have hfb := hrr.2.getD t
          have hct := hprow.cell (i := t) (v := bv (((rowsM d (parts.length - d)).getD q []).getD t 0)) (by rw [List.getElem?_map, getD_some (d := 0) (by rw [hrr.1]; exact ht)]; rfl)
          unfold bv at hct
          generalize ((rowsM d (parts.length - d)).getD q []).getD t 0 = f at *
          generalize parts.getD q [] = pq at *
          have Hrq := Lib.hid hrq
          have HRq := Lib.hid hRq
          have HG := Lib.hid hG
          have HBr := Lib.hid hB.out
          have hzz : w4.heap.size ≤ wo.heap.size := hB.out.size
          have Hct := Lib.hid hct
          clear hG hB hrg hp hpb hrr hat hAq hrq hRq hprow hct
          go_wp2_with fail
          refine (Clone_n bq oq L pq (C q) _ HRq.out.1 (by omega) (by exact Hrq.out)).mono ?_
          rintro e w5 ⟨gq, cq, rfl, q1, q2, q3, hblk, hB5⟩
          have Hblk5 := Lib.hid hblk
          have HB5 := Lib.hid hB5
          have hz5 := hB5.size
          have hgq := hblk.lt
          clear hblk hB5 caq hpc
          go_wp2_with fail
          go_loopg [85] L (fun gx i wr => ∃ x : Nat, x + gx = L ∧ i = .int .i64 x ∧ Hid (Kept (· = gq) w5 wr) ∧ Hid (Blk wr gq 5 ((amTo f pq ch x).map bv)))
          case atStart => exact ⟨0, by omega, rfl, Kept.refl _ _, by rw [amTo_zero]; exact Hblk5.out⟩
          case round =>
            obtain ⟨x, hgx, rfl, hK, hB⟩ := hrel
            have Hgx := Lib.hid hgx
            have hx : x ≤ L := by omega
            clear hgx
            by_cases hltx : x < L
            · have hl1 := HRq.out.1
              have hl2 := Hcl.out
              have d1 : wr.cell? ⟨gq, x, none⟩ = some (.int .u8 (pq.getD x 0)) := hB.out.cell (by rw [List.getElem?_map, amTo_get (by omega) (by omega)]; rfl)
              have f1 := hB.out.frozen x
              have hbc := ((HbC4.out.below HBr.out HbC4.out.lt).below HB5.out (by omega)).kept hK.out (show ¬ g = gq by omega)
              have d2 := hbc.cell (i := x) (v := bv (ch.getD x 0)) (by rw [List.getElem?_map, getD_some (d := 0) (by omega)]; rfl)
              unfold bv at d2
              have d3 := hK.out.cell ((HB5.out.cell (p := ⟨p.1, t, none⟩) (show p.1 < wo.heap.size by omega)).trans Hct.out) (show ¬ p.1 = gq by omega)
              have e1 := HRq.out.2.getD x
              have e2 := HchB.out.getD x
              have HK := Lib.hid hK.out
              have HB := Lib.hid hB.out
              generalize hxx : pq.getD x 0 = px at *
              generalize hyy : ch.getD x 0 = fx at *
              have Hxx := Lib.hid hxx
              have Hyy := Lib.hid hyy
              have hzw : gq < wr.heap.size := hB.out.lt
              have hzp : p.1 < wr.heap.size := by have := hK.out.size; omega
              clear hxx hyy hl1 hl2 hK hB hbc
              go_wp2_with fail
              go_region_with (go_at_call 58; refine (Mul_any _ _ _ hfb e2).mono ?_; rintro e w' ⟨rfl, hB'⟩; have HB' : Hid (Below wr.heap.size wr w') := ⟨hB'.os, hB'.tape, hB'.output, hB'.size, hB'.block⟩; have d1' := (HB'.out.cell (p := ⟨gq, x, none⟩) hzw).trans d1; have f1' := (HB'.out.frozen (p := ⟨gq, x, none⟩) hzw).trans f1; clear hB')
              all_goals
                go_wp2_with fail
                go_roundg (L - x - 1)
                case measure => have := Hgx.out; omega
                case rel =>
                  obtain ⟨r1, r2⟩ := cm_step (f := f) (by rw [Hcl.out]; exact hltx) (by rw [HRq.out.1, Hcl.out]) Hxx.out Hyy.out e1 HK.out HB.out HB'.out
                  exact ⟨x + 1, by have := Hgx.out; omega, by go_num, r1, r2⟩
            · have hxl : x = ch.length := by rw [Hcl.out]; omega
              have hfin := hB.out
              rw [amTo_all hxl (by rw [HRq.out.1, Hcl.out]), ← Hur.out] at hfin
              have Hurl := Lib.hid (show (updRow parts d t part q).length = L by rw [Hur.out, addMul_length, HRq.out.1, Hcl.out]; omega)
              generalize updRow parts d t part q = pr at *
              have HBx := Lib.hid (HB5.out.trans (hK.out.below (B := wo.heap.size) (by omega) (fun j hj e => by omega)))
              have Hblk := Lib.hid hfin
              have HGo := Lib.hid ((HG.out.new HBx.out).outer)
              have hzr := HBx.out.size
              have Hlk := Lib.hid (show ((updM parts d t part).take q).length = q by rw [List.length_take, updM_length]; omega)
              have Hq2 := Lib.hid q2
              clear hxl hfin hK hB q2 q3
              go_wp2_with (at_builtin; refine wpList_append_own _ rfl _ _ 39 rfl w4.heap.size 26 j0 (.slice none 0 0) 1 24 Try.underlying39 gi gz0 gz1 gz2 rfl (by decide) _ _ _ rfl (HGo.out.alloc _) ⟨wr.heap.size, 0, none⟩ 1 1 [hv L (gq, cq)] rfl rfl ?d1 ?d2 ?d3 ?d4 ?d5 ?_)
              case d1 => exact cell_one_new _ _ _
              case d2 => intro u hu; simp only [List.mem_cons, List.not_mem_nil, or_false] at hu; subst hu; rfl
              case d3 => rw [Hlk.out]; unfold maxLen; omega
              case d4 => rw [Hlk.out]; omega
              case d5 => simp; omega
              intro v' w9 hown hgr _
              have hG9 := HG.out.snoc HBx.out (p := (gq, cq)) (r := pr) Hblk.out q1 HBr.out.size (by rw [Hurl.out]; exact Hq2.out) (by rw [Hlk.out, Hurl.out]; simpa [updM_length, Nat.min_eq_left hq] using hown) (by simpa using hgr)
              rw [← htk.out] at hG9
              have hB9 : Below w4.heap.size w4 w9 := ((HBr.out.trans (HBx.out.mono HBr.out.size)).alloc (by omega) _).grown hgr (by simp; omega) (fun q hq => (owns_block HG.out.outer hq).2.1)
              have HG9 := Lib.hid hG9
              have HB9 := Lib.hid hB9
              clear hown hgr hG9 hB9
              go_wp2_with fail
              go_roundg (parts.length - q - 1)
              case measure => have := Hgq.out; omega
              case rel => exact ⟨q + 1, by have := Hgq.out; omega, by go_num, ⟨_, HG9.out⟩, HB9.out⟩
        · have hkn : (updM parts d t part).take q = updM parts d t part := List.take_of_length_le (by rw [updM_length]; omega)
          obtain ⟨hd2, hG⟩ := hG.out
          rw [hkn] at hG
          have HG := Lib.hid hG
          have HBe := Lib.hid hB.out
          clear hG hkn hB
          go_wp2_with fail
          go_ret2
          have hss : w.heap.size ≤ w4.heap.size := HB4.out.size
          exact ⟨_, hd2, rfl, HG.out.base hss, HB4.out.trans (HBe.out.mono hss)⟩
end Go.Proofs.Ytlbomlolomcolaa
