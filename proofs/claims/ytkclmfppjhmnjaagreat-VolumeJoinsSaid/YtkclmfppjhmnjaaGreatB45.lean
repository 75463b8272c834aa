/- The contract of the reference's Repair of chapter 54. -/
import Derived.Test.YtkclmfppjhmnjaaGreatB44
import Derived.Test.YtkclmfppjhmnjaaGreatB32
namespace Go.Proofs.YtkclmfppjhmnjaaGreat
open Go.RowKit

set_option maxRecDepth 100000 in
set_option maxHeartbeats 8000000 in
theorem rRepair_in (b o cap : Nat) (data : Int) (parts out : List (List Nat)) (A : Nat → Option Addr) (C : Nat → Nat) (w : World) (hM : MxAt w b o parts A C) (hm : Mx w (.slice (some ⟨b, o, none⟩) parts.length cap) parts) (hLm : ∀ j, j < parts.length → plen parts j ≤ maxLen) (hBy : BytM parts) (hE : wErr parts data = 0) (hR : wRows parts data = out) (hol : out.length = parts.length) (h1 : 1 ≤ parts.length) (h2 : parts.length ≤ 64) (hlong : longB parts = false) (hd1 : -9223372036854775808 ≤ data) (hd2 : data ≤ 9223372036854775807) :
    Calls Tryz.prog 22 #[.slice (some ⟨b, o, none⟩) parts.length cap, .int .i64 data] w (MxErr (overM parts out) 0 w) := by
  obtain ⟨i0, hi, hz0, hz1, hz2⟩ := info_parts infoByte
  have HM := Lib.hid hM
  have Hm := Lib.hid hm
  have HLm := Lib.hid hLm
  have HBy := Lib.hid hBy
  have HE := Lib.hid hE
  have HR := Lib.hid hR
  have Hol := Lib.hid hol
  have Hlong := Lib.hid hlong
  clear hM hm hLm hBy hE hR hol hlong
  go_enter Tryz.func22, Tryz.ntmps22
  go_wp2_with fail
  refine (rwhole_any _ parts data _ (by omega) HLm.out HBy.out Hm.out hd1 hd2).mono ?_
  rintro e w2 ⟨vo, hd, rfl, hG, hB2⟩
  rw [HE.out]
  rw [HR.out] at hG
  obtain ⟨bo, co, hvo, hco, _, hO⟩ := hG.done (by intro h; have := Hol.out; rw [h] at this; simp at this; omega)
  rw [Hol.out] at hvo hco
  subst hvo
  have HO := Lib.hid hO
  have HB2 := Lib.hid hB2
  have hzw := hB2.size
  clear hG hO hB2
  go_wp2_with fail
  go_loopg [8] parts.length (fun gk i wr => ∃ k : Nat, k + gk = parts.length ∧ i = .int .i64 k ∧ Hid (∃ hd', OM wr w.heap.size bo hd' (overTo parts out (piTo parts k))) ∧ Hid (Below w.heap.size w wr))
  case atStart => exact ⟨0, by omega, rfl, ⟨_, HO.out⟩, HB2.out⟩
  case round =>
    obtain ⟨k, hgk, rfl, hO, hB⟩ := hrel
    have Hgk := Lib.hid hgk
    have hk : k ≤ parts.length := by omega
    clear hgk
    by_cases hlt : k < parts.length
    · obtain ⟨hdW, hOW⟩ := hO.out
      obtain ⟨wo, rfl⟩ : ∃ wo : World, wo = wr := ⟨_, rfl⟩
      have hMk := (HM.out.new hB.out) k _ (getD_some (d := []) hlt)
      have p1 : wo.cell? ⟨b, o + k, none⟩ = some (.slice (A k) (plen parts k) (C k)) := hMk.1
      have hpl := long_le Hlong.out hlt
      have hol := (overTo_length parts out (piTo parts k)).trans Hol.out
      by_cases hp : 1 ≤ plen parts k
      · have x3 : decide ((0 : Int) < (plen parts k : Int)) = true := by simp; omega
        obtain ⟨b', o', hA, hrow⟩ : ∃ b' o', A k = some ⟨b', o', none⟩ ∧ RowAt wo b' o' (parts.getD k []) := by
          rcases hMk.2.2.1 with h0 | h
          · unfold plen at hp; rw [h0] at hp; simp at hp
          · exact h
        rw [hA] at p1
        have hBe : Below wo.heap.size wo (wo.alloc (.cells #[] 5)) := (Below.refl _ wo).alloc (Nat.le_refl _) _
        have Hsrc := Lib.hid (hrow.src hBe)
        have p2 := (hBe.cell (p := ⟨b, o + k, none⟩) (World.block_lt_of_cell? wo _ p1)).trans p1
        have HBe := Lib.hid hBe
        have HOW := Lib.hid hOW
        have HBW := Lib.hid hB.out
        have Hol' := Lib.hid hol
        have hzo := hB.out.size
        have Hpl := Lib.hid (show (parts.getD k []).length = plen parts k from rfl)
        obtain ⟨pk, hpk⟩ : ∃ pk, parts.getD k [] = pk := ⟨_, rfl⟩
        rw [hpk] at Hsrc Hpl
        have Hpk := Lib.hid hpk
        clear hMk hrow hBe hOW hB hO hol hA hpk
        go_wp2_with (at_builtin; refine wpList_append_own _ rfl _ _ 25 rfl wo.heap.size 5 i0 (.int .u8 0) 1 1 Tryz.underlying25 hi hz0 hz1 hz2 rfl (by decide) _ 0 [] rfl (owns_empty wo _) ⟨b', o', none⟩ (plen parts k) (C k) (pk.map bv) rfl ?c1 ?c2 ?c3 ?c4 ?c5 ?c6 ?_)
        case c1 => simp [Hpl.out]
        case c2 => exact Hsrc.out
        case c3 => intro u hu; obtain ⟨x, _, rfl⟩ := List.mem_map.1 hu; rfl
        case c4 => unfold maxLen; omega
        case c5 => omega
        case c6 => exact HBe.out.size
        intro v3 w5 hown3 hgr3 _
        have hown3' : w5.ownsRow wo.heap.size 5 1 v3 (plen parts k) (pk.map bv) := by simpa only [Nat.zero_add, List.nil_append] using hown3
        obtain ⟨gq, cq, hv3, g1, g2, g3⟩ := ne_of_owns hown3' (by omega)
        rw [hv3] at hown3' ⊢
        have Hblk5 := Lib.hid (Blk.of_owns hown3')
        have HB5 := Lib.hid (show Below wo.heap.size wo w5 from HBe.out.grown hgr3 HBe.out.size (fun q hq => by simp [Value.ownBlock] at hq; omega))
        have hko : k < (overTo parts out (piTo parts k)).length := by rw [Hol'.out]; exact hlt
        obtain ⟨q, hq⟩ : ∃ q, hdW[k]? = some q := ⟨hdW.getD k (0, 0), getD_some (by rw [HOW.out.len]; exact hko)⟩
        have hbo := HOW.out.outer.lt
        have cb := (HB5.out.cell (p := ⟨bo, k, none⟩) hbo).trans (HOW.out.outer.cell (hvs_get hq (getD_some (d := []) hko)))
        have fb := (HB5.out.frozen (p := ⟨bo, k, none⟩) hbo).trans (HOW.out.outer.frozen k)
        have hst := HOW.out.setHd HB5.out hko (p := (gq, cq)) (r := pk) Hblk5.out g1 (by rw [Hpl.out]; exact g2) hzo
        rw [← Hpk.out] at hst
        rw [← overTo_snoc parts out (piTo parts k) ⟨k, hlt, hp⟩, ← piTo_yes (parts := parts) ⟨hlt, hp⟩] at hst
        have Hst := Lib.hid hst
        have hBn := Lib.hid ((HBW.out.trans (HB5.out.mono hzo)).setCell (p := ⟨bo, k, none⟩) HOW.out.obase (hv pk.length (gq, cq)))
        rw [← Hpk.out] at hBn
        rw [show (parts.getD k []).length = plen parts k from rfl] at hBn hst
        generalize hv ((overTo parts out (piTo parts k)).getD k []).length q = oldv at cb
        clear hown3 hown3' hgr3 hv3 hst p2 hko hq
        go_wp2_with fail
        go_roundg (parts.length - k - 1)
        case measure => have := Hgk.out; omega
        case rel => exact ⟨k + 1, by have := Hgk.out; omega, by go_num, ⟨_, Hst.out⟩, hBn.out⟩
      · have x3 : decide ((0 : Int) < (plen parts k : Int)) = false := by simp; omega
        have hpz : (plen parts k : Int) ≤ 0 := by omega
        have hn := Lib.hid (show ∃ hd', OM wo w.heap.size bo hd' (overTo parts out (piTo parts (k + 1))) by rw [piTo_no hp]; exact ⟨_, hOW⟩)
        have HBW := Lib.hid hB.out
        clear hMk hOW hB hO hol
        go_wp2_with fail
        go_roundg (parts.length - k - 1)
        case measure => have := Hgk.out; omega
        case rel => exact ⟨k + 1, by have := Hgk.out; omega, by go_num, hn.out, HBW.out⟩
    · obtain ⟨hdW, hOW⟩ := hO.out
      have hkn : k = parts.length := by omega
      rw [hkn] at hOW
      have hol := (overTo_length parts out (piTo parts parts.length)).trans Hol.out
      have HOW := Lib.hid hOW
      have HBW := Lib.hid hB.out
      have Hol' := Lib.hid hol
      clear hO hB hOW hol hkn
      go_wp2_with fail
      go_ret2
      exact ⟨_, rfl, ⟨some ⟨bo, 0, none⟩, co, by unfold overM; rw [Hol'.out]; rfl, by unfold overM; rw [Hol'.out]; exact hco, Or.inr ⟨bo, 0, _, _, rfl, HOW.out.mxAt⟩⟩, HBW.out⟩

set_option maxRecDepth 100000 in
set_option maxHeartbeats 2000000 in
theorem rRepair_any (v : Value) (parts : List (List Nat)) (data : Int) (w : World) (hn : parts.length ≤ 1000000000) (hLm : ∀ j, j < parts.length → plen parts j ≤ maxLen) (hBy : BytM parts) (hm : Mx w v parts) (hd1 : -9223372036854775808 ≤ data) (hd2 : data ≤ 9223372036854775807) :
    Calls Tryz.prog 22 #[v, .int .i64 data] w (MxErr (repRows parts data) (repErr parts data) w) := by
  by_cases hE : wErr parts data = 0
  · obtain ⟨hl, hP⟩ := wRows_length hE
    obtain ⟨q1, q2, q3, q4⟩ := parErr_in hP
    have e1 : repErr parts data = 0 := hE
    have e2 : repRows parts data = overM parts (wRows parts data) := by unfold repRows; rw [if_pos hE]
    rw [e1, e2]
    have hm' := hm
    obtain ⟨a, cap, rfl, hcap, h⟩ := hm
    rcases h with h | ⟨b, o, A, C, rfl, hM⟩
    · rw [h] at q3; simp at q3
    exact rRepair_in b o cap data parts _ A C w hM hm' hLm hBy hE rfl hl q3 q4 (parErr_flags hP).1 hd1 hd2
  · have e1 : repErr parts data = wErr parts data := rfl
    have e2 : repRows parts data = [] := by unfold repRows; rw [if_neg hE]
    rw [e1, e2]
    have Hm := Lib.hid hm
    have HBy := Lib.hid hBy
    have HLm := Lib.hid hLm
    obtain ⟨pe, hpe⟩ : ∃ pe, wErr parts data = pe := ⟨_, rfl⟩
    have tP : ((pe : Int) != 0) = true := by rw [bne_iff_ne]; rw [hpe] at hE; omega
    have Hpe := Lib.hid hpe
    obtain ⟨a, cap, rfl, hcap, h⟩ := hm
    clear hE e1 e2 hpe h hBy hLm
    go_enter Tryz.func22, Tryz.ntmps22
    go_wp2_with fail
    refine (rwhole_any _ parts data _ (by omega) HLm.out HBy.out Hm.out hd1 hd2).mono ?_
    rintro e w2 ⟨vo, hd, rfl, hG, hB2⟩
    obtain ⟨ao, no, co, hvo⟩ : ∃ a n c, vo = .slice a n c := by obtain ⟨a, c, h⟩ := owns_slice hG.outer; exact ⟨a, _, c, h⟩
    subst hvo
    rw [Hpe.out]
    have HB2 := Lib.hid hB2
    clear hB2 hG
    go_wp2_with fail
    go_ret2
    exact ⟨.slice none 0 0, by rw [Hpe.out]; rfl, ⟨none, 0, rfl, Nat.le_refl _, Or.inl rfl⟩, HB2.out⟩
end Go.Proofs.YtkclmfppjhmnjaaGreat
