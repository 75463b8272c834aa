/- Contracts of the reference's Few, Copy and Identity. -/
import Derived.Test.YtlbomlolomcolaaRef2
namespace Go.Proofs.Ytlbomlolomcolaa
open Go.RowKit

/-- What a function that returns rows of its own leaves. -/
def RowsRet (rows : List (List Nat)) (w : World) (e : Ending) (w' : World) : Prop :=
  ∃ v hd, e = .returned v ∧ GM w' w.heap.size v hd rows ∧ Below w.heap.size w w'

def rowFew (r : List Nat) : Prop := ¬ (12 < r.length ∧ r.length ≤ 64 ∨ 200 < r.length)
def fewM (m : List (List Nat)) : Prop := ¬ (12 < m.length ∧ m.length ≤ 64) ∧ (∀ i, i < m.length → rowFew (m.getD i [])) ∧ m.length ≤ 200
instance (r : List Nat) : Decidable (rowFew r) := by unfold rowFew; infer_instance
instance (m : List (List Nat)) : Decidable (fewM m) := by unfold fewM; infer_instance
def fewB (m : List (List Nat)) : Bool := decide (fewM m)

theorem fewB_true {m : List (List Nat)} (h : fewM m) : fewB m = true := by unfold fewB; exact decide_eq_true h
theorem fewB_false {m : List (List Nat)} (h : ¬ fewM m) : fewB m = false := by unfold fewB; exact decide_eq_false h

theorem fewM.small {m : List (List Nat)} (h : fewM m) (hI : isMat m) : m.length ≤ 12 ∧ (m.getD 0 []).length ≤ 12 := by
  have h1 := hI.1
  have h2 := hI.2.1
  have h3 := hI.2.2.2.1
  have h4 := h.2.1 0 (by omega)
  unfold rowFew at h4
  have h5 := h.1
  omega

set_option maxRecDepth 100000 in
set_option maxHeartbeats 2000000 in
theorem rCopy_any (b o cap n : Nat) (m : List (List Nat)) (A : Nat → Option Addr) (C : Nat → Nat) (w : World) (hN : m.length ≤ 1000) (hn : n ≤ 1000) (hn1 : 1 ≤ n) (hR : Rect n m) (hM : MxAt w b o m A C) :
    Calls Try.prog 110 #[.slice (some ⟨b, o, none⟩) m.length cap] w (RowsRet m w) := by
  obtain ⟨i0, hi, hz0, hz1, hz2⟩ := info_parts infoByte
  obtain ⟨j0, gi, gz0, gz1, gz2⟩ := info_parts infoBytes
  have HM := Lib.hid hM
  have HR := Lib.hid hR
  clear hM hR
  go_enter Try.func110, Try.ntmps110
  go_wp2_with fail
  go_loopg [3, 4] m.length (fun gk v i wr => ∃ k : Nat, k + gk = m.length ∧ i = .int .i64 k ∧ Hid (∃ hd, GM wr w.heap.size v hd (m.take k)) ∧ Hid (Below w.heap.size w wr))
  case atStart => exact ⟨0, by omega, rfl, ⟨[], GM.nil _ _⟩, Below.refl _ _⟩
  case round =>
    obtain ⟨k, hgk, rfl, hG, hB⟩ := hrel
    have Hgk := Lib.hid hgk
    have hk : k ≤ m.length := by omega
    clear hgk
    by_cases hlt : k < m.length
    · obtain ⟨hd, hG⟩ := hG.out
      have hmk : m[k]? = some (m.getD k []) := getD_some hlt
      have hrl := (HR.out.get hlt).1
      have hMr := HM.out.new hB.out
      have htk := Lib.hid (take_succ' hmk)
      generalize m.getD k [] = r at *
      have hrne : r ≠ [] := by intro h; rw [h] at hrl; simp at hrl; omega
      obtain ⟨b', o', hA, hrow⟩ := RowAt.of_mx hMr hmk hrne
      have hcell := (hMr k r hmk).1
      rw [hA] at hcell
      have Hsrc := Lib.hid (hrow.src (Below.refl _ wr))
      have hle : r.length ≤ 1000 := by omega
      have hle1 : 1 ≤ r.length := by omega
      have HG := Lib.hid hG
      have HBr := Lib.hid hB.out
      have hzz : w.heap.size ≤ wr.heap.size := hB.out.size
      clear hmk hrl hrow hMr hA hG hrne hB
      go_wp2_with (at_builtin; refine wpList_append_own _ rfl (.tmp 13) (.tmp 17) 26 rfl wr.heap.size 5 i0 (.int .u8 0) 1 1 Try.underlying26 hi hz0 hz1 hz2 rfl (by decide) _ 0 [] rfl (World.ownsRow_nil wr _ _ _) ⟨b', o', none⟩ r.length (C k) (r.map bv) rfl ?c1 ?c2 ?c3 ?c4 ?c5 ?c6 ?_)
      case c1 => simp
      case c2 => exact Hsrc.out
      case c3 => intro u hu; obtain ⟨x, _, rfl⟩ := List.mem_map.1 hu; rfl
      case c4 => unfold maxLen; omega
      case c5 => omega
      case c6 => exact Nat.le_refl _
      intro v3 w3 hown3 hgr3 _
      have hown3' : w3.ownsRow wr.heap.size 5 1 v3 r.length (r.map bv) := by simpa using hown3
      obtain ⟨g, cg, hv3, g1, g3, g4⟩ := ne_of_owns hown3' (by omega)
      rw [hv3] at hown3' ⊢
      have Hblk := Lib.hid (Blk.of_owns hown3')
      have hBw : Below wr.heap.size wr w3 := (Below.refl _ _).grown hgr3 (Nat.le_refl _) (fun q hq => by simp [Value.ownBlock] at hq)
      have HBw := Lib.hid hBw
      have HGo := Lib.hid ((HG.out.new hBw).outer)
      have hz3 : w.heap.size ≤ w3.heap.size := by have := hBw.size; omega
      have hlk : (m.take k).length = k := by rw [List.length_take]; omega
      have Hlk := Lib.hid hlk
      clear hown3 hown3' hgr3 hv3 hBw hlk
      go_wp2_with (at_builtin; refine wpList_append_own _ rfl (.tmp 12) (.tmp 19) 39 rfl w.heap.size 26 j0 (.slice none 0 0) 1 24 Try.underlying39 gi gz0 gz1 gz2 rfl (by decide) _ _ _ rfl (HGo.out.alloc _) ⟨w3.heap.size, 0, none⟩ 1 1 [hv r.length (g, cg)] rfl rfl ?d1 ?d2 ?d3 ?d4 ?d5 ?_)
      case d1 => exact cell_one_new _ _ _
      case d2 => intro u hu; simp only [List.mem_cons, List.not_mem_nil, or_false] at hu; subst hu; rfl
      case d3 => rw [Hlk.out]; unfold maxLen; omega
      case d4 => rw [Hlk.out]; omega
      case d5 => simp; omega
      intro v' w5 hown hgr _
      have hG5 := HG.out.snoc HBw.out (p := (g, cg)) (r := r) Hblk.out g1 HBr.out.size g3 (by rw [Hlk.out]; simpa [Nat.min_eq_left hk] using hown) (by simpa using hgr)
      rw [← htk.out] at hG5
      have hB5 : Below w.heap.size w w5 := ((HBr.out.trans (HBw.out.mono HBr.out.size)).alloc hz3 _).grown hgr (by simp; omega) (fun q hq => (owns_block HG.out.outer hq).2.1)
      have HG5 := Lib.hid hG5
      have HB5 := Lib.hid hB5
      clear hown hgr hG5 hB5
      go_wp2_with fail
      go_roundg (m.length - k - 1)
      case measure => have := Hgk.out; omega
      case rel => exact ⟨k + 1, by have := Hgk.out; omega, by go_num, ⟨_, HG5.out⟩, HB5.out⟩
    · have hkn : m.take k = m := List.take_of_length_le (by omega)
      obtain ⟨hd, hG⟩ := hG.out
      rw [hkn] at hG
      have HG := Lib.hid hG
      clear hG hkn
      go_wp2_with fail
      go_ret
      exact ⟨_, hd, rfl, HG.out, hB.out⟩

def idM (n : Nat) : List (List Nat) := (List.range n).map (unitVec n)
theorem idM_length (n : Nat) : (idM n).length = n := by simp [idM]
theorem idM_take {n k : Nat} (hk : k < n) : (idM n).take (k + 1) = (idM n).take k ++ [unitVec n k] := by
  rw [List.take_add_one]; simp [idM, hk]

set_option maxRecDepth 100000 in
set_option maxHeartbeats 2000000 in
theorem rIdentity_any (n : Nat) (w : World) (hn : n ≤ 1000) : Calls Try.prog 78 #[.int .i64 n] w (RowsRet (idM n) w) := by
  obtain ⟨j0, gi, gz0, gz1, gz2⟩ := info_parts infoBytes
  have mk := mkBytes n (by omega)
  go_enter Try.func78, Try.ntmps78
  go_wp2_with fail
  go_loopg [3, 4] n (fun gk v i wr => ∃ k : Nat, k + gk = n ∧ i = .int .i64 k ∧ Hid (∃ hd, GM wr w.heap.size v hd ((idM n).take k)) ∧ Hid (Below w.heap.size w wr))
  case atStart => exact ⟨0, by omega, rfl, ⟨[], GM.nil _ _⟩, Below.refl _ _⟩
  case round =>
    obtain ⟨k, hgk, rfl, hG, hB⟩ := hrel
    have Hgk := Lib.hid hgk
    have hk : k ≤ n := by omega
    clear hgk
    by_cases hlt : k < n
    · obtain ⟨hd, hG⟩ := hG.out
      have hzk := zs_get hlt
      have htk := Lib.hid (idM_take hlt)
      have hu := Blk.new wr 5 ((zs n).setIfInBounds k (.int .u8 1))
      have hz1 := zs_set n k 1
      rw [show ((1 : Nat) : Int) = 1 from rfl] at hz1
      rw [hz1] at hu
      have Hblk := Lib.hid (show Blk _ _ _ ((unitVec n k).map bv) from hu)
      have hBw : Below wr.heap.size wr (wr.alloc (.cells ((zs n).setIfInBounds k (.int .u8 1)) 5)) := (Below.refl _ _).alloc (Nat.le_refl _) _
      have HBw := Lib.hid hBw
      have HG := Lib.hid hG
      have HGo := Lib.hid ((hG.new hBw).outer)
      have HBr := Lib.hid hB.out
      have hzz : w.heap.size ≤ wr.heap.size := hB.out.size
      have hlk : ((idM n).take k).length = k := by rw [List.length_take, idM_length]; omega
      have Hlk := Lib.hid hlk
      clear hG hB hu hz1 hBw hlk
      go_wp2_with (at_builtin; refine wpList_append_own _ rfl _ _ 39 rfl w.heap.size 26 j0 (.slice none 0 0) 1 24 Try.underlying39 gi gz0 gz1 gz2 rfl (by decide) _ _ _ rfl (HGo.out.alloc _) ⟨wr.heap.size + 1, 0, none⟩ 1 1 [hv n (wr.heap.size, n)] rfl rfl ?d1 ?d2 ?d3 ?d4 ?d5 ?_)
      case d1 =>
        have := cell_one_new (wr.alloc (.cells ((zs n).setIfInBounds k (.int .u8 1)) 5)) (hv n (wr.heap.size, n)) 26
        unfold hv at this ⊢
        simpa using this
      case d2 => intro u hu; simp only [List.mem_cons, List.not_mem_nil, or_false] at hu; subst hu; rfl
      case d3 => rw [Hlk.out]; unfold maxLen; omega
      case d4 => rw [Hlk.out]; omega
      case d5 => simp; omega
      intro v' w5 hown hgr _
      have hG5 := HG.out.snoc HBw.out (p := (wr.heap.size, n)) (r := unitVec n k) Hblk.out (Nat.le_refl _) HBr.out.size (by rw [unitVec_length]; exact Nat.le_refl _) (by rw [Hlk.out, unitVec_length]; simpa [idM_length, Nat.min_eq_left hk] using hown) (by simpa using hgr)
      rw [← htk.out] at hG5
      have hB5 : Below w.heap.size w w5 := ((HBr.out.trans (HBw.out.mono HBr.out.size)).alloc (by simp; omega) _).grown hgr (by simp; omega) (fun q hq => (owns_block HG.out.outer hq).2.1)
      have HG5 := Lib.hid hG5
      have HB5 := Lib.hid hB5
      clear hown hgr hG5 hB5
      go_wp2_with fail
      go_roundg (n - k - 1)
      case measure => have := Hgk.out; omega
      case rel => exact ⟨k + 1, by have := Hgk.out; omega, by go_num, ⟨_, HG5.out⟩, HB5.out⟩
    · have hkn : (idM n).take k = idM n := List.take_of_length_le (by rw [idM_length]; omega)
      obtain ⟨hd, hG⟩ := hG.out
      rw [hkn] at hG
      have HG := Lib.hid hG
      clear hG hkn
      go_wp2_with fail
      go_ret
      exact ⟨_, hd, rfl, HG.out, hB.out⟩
end Go.Proofs.Ytlbomlolomcolaa
