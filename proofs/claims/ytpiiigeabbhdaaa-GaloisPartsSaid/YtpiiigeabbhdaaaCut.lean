/- The contract of the law's cut. -/
import Derived.Test.YtpiiigeabbhdaaaAlg4
import Derived.Laws.CopyOwn
namespace Go.Proofs.Ytpiiigeabbhdaaa
open Go.RowKit

def cutR (n : Nat) (r : List Nat) : List Nat := r.take n ++ List.replicate (n - r.length) 0
theorem cutR_length (n : Nat) (r : List Nat) : (cutR n r).length = n := by simp [cutR]; omega
def cutM (m : List (List Nat)) : List (List Nat) := m.map (cutR m.length)
theorem cutM_length (m : List (List Nat)) : (cutM m).length = m.length := by simp [cutM]
theorem cutM_take {m : List (List Nat)} {k : Nat} {r : List Nat} (h : m[k]? = some r) : (cutM m).take (k + 1) = (cutM m).take k ++ [cutR m.length r] := by
  rw [List.take_add_one]; simp [cutM, h]
theorem cutR_byt {n : Nat} {r : List Nat} (h : Byt r) : Byt (cutR n r) := by
  intro x hx
  unfold cutR at hx
  rcases List.mem_append.1 hx with hx | hx
  · exact h x (List.mem_of_mem_take hx)
  · rw [List.eq_of_mem_replicate hx]; omega

theorem splice_cut (n : Nat) (r : List Nat) : splice (List.replicate n (bv 0)) 0 ((r.take n).map bv) = (cutR n r).map bv := by
  rw [← List.map_replicate]
  unfold splice cutR
  simp only [List.take_zero, List.nil_append, Nat.zero_add, List.length_map, List.length_take, List.map_append]
  congr 1
  rw [← List.map_drop, List.drop_replicate]
  congr 2
  omega

set_option maxRecDepth 100000 in
set_option maxHeartbeats 2000000 in
theorem cut_any (b o cap : Nat) (m : List (List Nat)) (A : Nat → Option Addr) (C : Nat → Nat) (w : World) (hN : m.length ≤ 6) (hM : MxAt w b o m A C) :
    Calls Try.prog 28 #[.slice (some ⟨b, o, none⟩) m.length cap] w (RowsRet (cutM m) w) := by
  obtain ⟨j0, gi, gz0, gz1, gz2⟩ := info_parts infoBytes
  have mk := mkBytes m.length (by omega)
  have HM := Lib.hid hM
  clear hM
  go_enter Try.func28, Try.ntmps28
  go_wp2_with fail
  go_loopg [4, 11] m.length (fun gk v i wr => ∃ k : Nat, k + gk = m.length ∧ i = .int .i64 k ∧ Hid (∃ hd, GM wr w.heap.size v hd ((cutM m).take k)) ∧ Hid (Below w.heap.size w wr))
  case atStart => exact ⟨0, by omega, rfl, ⟨[], GM.nil _ _⟩, Below.refl _ _⟩
  case round =>
    obtain ⟨k, hgk, rfl, hG, hB⟩ := hrel
    have Hgk := Lib.hid hgk
    have hk : k ≤ m.length := by omega
    clear hgk
    by_cases hlt : k < m.length
    · obtain ⟨hd, hG⟩ := hG.out
      have hmk : m[k]? = some (m.getD k []) := getD_some hlt
      have hMr := HM.out.new hB.out
      have htk := Lib.hid (cutM_take hmk)
      generalize m.getD k [] = r at *
      have hMz := hMr.new ((Below.refl wr.heap.size wr).alloc (Nat.le_refl _) (.cells (zs m.length) 5))
      have hcell := (hMz k r hmk).1
      have Hr := Lib.hid (hMz k r hmk).2.2.1
      have HG := Lib.hid hG
      have HBr := Lib.hid hB.out
      have hzz : w.heap.size ≤ wr.heap.size := hB.out.size
      have hcl := cutR_length m.length r
      have Hcl := Lib.hid hcl
      have hlk : ((cutM m).take k).length = k := by rw [List.length_take, cutM_length]; omega
      have Hlk := Lib.hid hlk
      have Hnew := Lib.hid (show (wr.alloc (.cells (zs m.length) 5)).heap[wr.heap.size]? = some (.cells (List.replicate m.length (bv 0)).toArray 5 (0, 0)) by
        show (wr.heap.push _)[wr.heap.size]? = _
        simp [zs])
      have HBz := Lib.hid ((Below.refl wr.heap.size wr).alloc (Nat.le_refl _) (.cells (zs m.length) 5))
      obtain ⟨cs, hcs⟩ : ∃ cs, cs = (r.take m.length).map bv := ⟨_, rfl⟩
      have Hcs := Lib.hid hcs
      have hcn : cs.length = Nat.min r.length m.length := by rw [hcs, List.length_map, List.length_take]; exact Nat.min_comm _ _
      have Hcn := Lib.hid hcn
      clear hmk hMr hMz hG hB hcl hlk hcs hcn
      go_wp2_with (refine wpList_copy_splice rfl (.tmp 16) (.tmp 20) 56 56 rfl 5 Try.underlying56 ?s1 (some ⟨wr.heap.size, 0, none⟩) (A k) m.length m.length r.length (C k) rfl rfl wr.heap.size 0 (List.replicate m.length (bv 0)) 5 Hnew.out cs Hcn.out ?s2 ?s3 ?s4 wr.heap.size wr HBz.out (Nat.le_refl _) ?_)
      case s1 => obtain ⟨i0, hi, hz0, hz1, hz2⟩ := info_parts infoByte; rw [hi]; simp [hz1]
      case s2 =>
        intro hpos
        try refine ⟨rfl, ?_⟩
        rcases Hr.out with h0 | ⟨b', o', hA, hrow⟩
        · have := Hcn.out; rw [h0] at this; simp at this; rw [this] at hpos; simp at hpos
        · rw [hA, Hcs.out]
          exact ⟨_, rfl, (hrow.take m.length).src (Below.refl _ _)⟩
      case s3 => rw [Hcn.out]; simp; try exact Nat.min_le_right _ _
      case s4 => rw [Hcs.out]; intro u hu; obtain ⟨x, _, rfl⟩ := List.mem_map.1 hu; rfl
      intro w3 hg3 hb3
      have hg3 := hg3.out
      rw [Hcs.out, splice_cut] at hg3
      have Hblk := Lib.hid (show Blk w3 wr.heap.size 5 ((cutR m.length r).map bv) from ⟨[], by rw [List.append_nil]; exact hg3⟩)
      have HBw := Lib.hid hb3
      have HGo := Lib.hid ((HG.out.new hb3).outer)
      have hz3 : wr.heap.size < w3.heap.size := Hblk.out.lt
      clear hg3 hb3
      go_wp2_with (at_builtin; refine wpList_append_own _ rfl _ _ 31 rfl w.heap.size 56 j0 (.slice none 0 0) 1 24 Try.underlying31 gi gz0 gz1 gz2 rfl (by decide) _ _ _ rfl (HGo.out.alloc _) ⟨w3.heap.size, 0, none⟩ 1 1 [hv m.length (wr.heap.size, m.length)] rfl rfl ?d1 ?d2 ?d3 ?d4 ?d5 ?_)
      case d1 => exact cell_one_new _ _ _
      case d2 => intro u hu; simp only [List.mem_cons, List.not_mem_nil, or_false] at hu; subst hu; rfl
      case d3 => rw [Hlk.out]; unfold maxLen; omega
      case d4 => rw [Hlk.out]; omega
      case d5 => simp; omega
      intro v' w5 hown hgr _
      have hG5 := HG.out.snoc HBw.out (p := (wr.heap.size, m.length)) (r := cutR m.length r) Hblk.out (Nat.le_refl _) HBr.out.size (by rw [Hcl.out]; exact Nat.le_refl _) (by rw [Hlk.out, Hcl.out]; simpa [cutM_length, Nat.min_eq_left hk] using hown) (by simpa using hgr)
      rw [← htk.out] at hG5
      have hB5 : Below w.heap.size w w5 := ((HBr.out.trans (HBw.out.mono HBr.out.size)).alloc (by omega) _).grown hgr (by simp; omega) (fun q hq => (owns_block HG.out.outer hq).2.1)
      have HG5 := Lib.hid hG5
      have HB5 := Lib.hid hB5
      clear hown hgr hG5 hB5
      go_wp2_with fail
      go_roundg (m.length - k - 1)
      case measure => have := Hgk.out; omega
      case rel => exact ⟨k + 1, by have := Hgk.out; omega, by go_num, ⟨_, HG5.out⟩, HB5.out⟩
    · have hkn : (cutM m).take k = cutM m := List.take_of_length_le (by rw [cutM_length]; omega)
      obtain ⟨hd, hG⟩ := hG.out
      rw [hkn] at hG
      have HG := Lib.hid hG
      clear hG hkn
      go_wp2_with fail
      go_ret
      exact ⟨_, hd, rfl, HG.out, hB.out⟩
end Go.Proofs.Ytpiiigeabbhdaaa
