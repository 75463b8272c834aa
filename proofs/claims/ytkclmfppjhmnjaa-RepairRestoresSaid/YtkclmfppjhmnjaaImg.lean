/- Plain: the image of a disk, and the disk of an image. -/
import Derived.Test.YtkclmfppjhmnjaaW0
namespace Go.Proofs.Ytkclmfppjhmnjaa
namespace Img
open Wire

/-- A page of zeros. -/
def zp : List Nat := List.replicate 16 0
theorem zp_length : zp.length = 16 := by simp [zp]
/-- The error of a disk. -/
def dkErr (n : Nat) (q : List (Int × List Nat)) : Nat := if n < 1 ∨ 8192 < n ∨ ∃ p ∈ q, p.1 < 0 ∨ (n : Int) ≤ p.1 then 2 else 0
/-- The contents of a disk. -/
def cont (l : List (List Nat)) : List (Int × List Nat) → List (List Nat)
  | [] => l
  | p :: q => cont (l.set p.1.toNat p.2) q
theorem cont_length (l : List (List Nat)) (q : List (Int × List Nat)) : (cont l q).length = l.length := by
  induction q generalizing l with
  | nil => rfl
  | cons p q ih => rw [cont, ih, List.length_set]
theorem cont_all {C : List Nat → Prop} {l : List (List Nat)} {q : List (Int × List Nat)} (h : ∀ r ∈ l, C r) (k : ∀ p ∈ q, C p.2) : ∀ r ∈ cont l q, C r := by
  induction q generalizing l with
  | nil => exact h
  | cons p q ih =>
    rw [cont]
    refine ih ?_ (fun x hx => k x (List.mem_cons_of_mem _ hx))
    intro r hr
    rcases List.mem_or_eq_of_mem_set hr with hr | hr
    · exact h r hr
    · rw [hr]; exact k p (List.mem_cons_self ..)
/-- How many pages stand up to the last one that is not zero, of the first n. -/
def cutN (l : List (List Nat)) : Nat → Nat
  | 0 => 0
  | n + 1 => if l.getD n [] = zp then cutN l n else n + 1
theorem cutN_le (l : List (List Nat)) (n : Nat) : cutN l n ≤ n := by
  induction n with
  | zero => exact Nat.le_refl _
  | succ n ih => rw [cutN]; split <;> omega
theorem cutN_last {l : List (List Nat)} {n : Nat} (h : cutN l n ≠ 0) : l.getD (cutN l n - 1) [] ≠ zp := by
  induction n with
  | zero => exact absurd rfl h
  | succ n ih =>
    rw [cutN] at h ⊢
    split
    · rename_i hz; rw [if_pos hz] at h; exact ih h
    · rename_i hz; simpa using hz
theorem cutN_zero {l : List (List Nat)} {n i : Nat} (h : cutN l n ≤ i) (hi : i < n) : l.getD i [] = zp := by
  induction n with
  | zero => omega
  | succ n ih =>
    rw [cutN] at h
    split at h
    · rename_i hz
      by_cases hin : i = n
      · subst hin; exact hz
      · exact ih h (by omega)
    · omega
theorem cutN_eq {l : List (List Nat)} {n k : Nat} (hk : k ≤ n) (h0 : k ≠ 0 → l.getD (k - 1) [] ≠ zp) (h1 : ∀ i, k ≤ i → i < n → l.getD i [] = zp) : cutN l n = k := by
  have h2 := cutN_le l n
  apply Nat.le_antisymm
  · apply Classical.byContradiction
    intro h
    exact cutN_last (l := l) (n := n) (by omega) (h1 _ (by omega) (by omega))
  · apply Classical.byContradiction
    intro h
    exact h0 (by omega) (cutN_zero (l := l) (n := n) (by omega) (by omega))
/-- The image. -/
def imgB (l : List (List Nat)) : List Nat := enc l.length ++ (l.take (cutN l l.length)).flatten
def imErr (l : List (List Nat)) (q : List (Int × List Nat)) : Nat := if dkErr l.length q = 0 then if 65536 < (imgB (cont l q)).length then 5 else 0 else dkErr l.length q
def imRes (l : List (List Nat)) (q : List (Int × List Nat)) : List Nat := if imErr l q = 0 then imgB (cont l q) else []
/-- A page of bytes. -/
def chunk (r : List Nat) (i : Nat) : List Nat := (r.drop (i * 16)).take 16
def pagesOf (r : List Nat) (n : Nat) : List (List Nat) := (List.range n).map fun i => if i < r.length / 16 then chunk r i else zp
theorem pagesOf_length (r : List Nat) (n : Nat) : (pagesOf r n).length = n := by simp [pagesOf]
theorem pagesOf_get {r : List Nat} {n i : Nat} (h : i < n) : (pagesOf r n).getD i [] = if i < r.length / 16 then chunk r i else zp := by
  unfold pagesOf; rw [List.getD_eq_getElem?_getD, List.getElem?_map, List.getElem?_range h]; rfl
/-- The last page that is read. -/
def lastZ (r : List Nat) : Prop := r.length / 16 ≠ 0 ∧ chunk r (r.length / 16 - 1) = zp
instance (r : List Nat) : Decidable (lastZ r) := by unfold lastZ; infer_instance
def reErr (b : List Nat) : Nat :=
  if 65536 < b.length then 5 else if rdErr b ≠ 0 then rdErr b else if rdNum b < 1 ∨ 8192 < rdNum b then 2 else
  if (rdRest b).length % 16 ≠ 0 ∨ rdNum b < (rdRest b).length / 16 then 3 else if lastZ (rdRest b) then 3 else 0
def rePg (b : List Nat) : List (List Nat) := if reErr b = 0 then pagesOf (rdRest b) (rdNum b) else []

theorem flatten_length {l : List (List Nat)} (h : ∀ r ∈ l, r.length = 16) : l.flatten.length = 16 * l.length := by
  induction l with
  | nil => rfl
  | cons a l ih => rw [List.flatten_cons, List.length_append, ih (fun r hr => h r (List.mem_cons_of_mem _ hr)), h a (List.mem_cons_self ..), List.length_cons]; omega
theorem chunk_flatten {l : List (List Nat)} (h : ∀ r ∈ l, r.length = 16) {i : Nat} (hi : i < l.length) : chunk l.flatten i = l.getD i [] := by
  induction l generalizing i with
  | nil => simp at hi
  | cons a l ih =>
    have ha := h a (List.mem_cons_self ..)
    unfold chunk
    cases i with
    | zero =>
      rw [Nat.zero_mul, List.drop_zero, List.flatten_cons, List.take_append_of_le_length (by omega), List.take_of_length_le (by omega)]
      rfl
    | succ i =>
      rw [List.flatten_cons, show (i + 1) * 16 = a.length + i * 16 by omega, List.drop_append, List.drop_of_length_le (by omega), List.nil_append, Nat.add_sub_cancel_left]
      have := ih (fun r hr => h r (List.mem_cons_of_mem _ hr)) (i := i) (by simpa using hi)
      rw [List.getD_cons_succ]
      exact this
/-- All the pages of bytes. -/
theorem flatten_chunks (r : List Nat) (k : Nat) (h : r.length = 16 * k) : ((List.range k).map (chunk r)).flatten = r := by
  induction k generalizing r with
  | zero => simp; exact List.eq_nil_of_length_eq_zero (by omega)
  | succ k ih =>
    rw [List.range_succ_eq_map, List.map_cons, List.flatten_cons, List.map_map]
    have e : (List.range k).map (chunk r ∘ Nat.succ) = (List.range k).map (chunk (r.drop 16)) := by
      apply List.map_congr_left
      intro i _
      show chunk r (i + 1) = _
      unfold chunk
      rw [List.drop_drop]
      congr 2
      omega
    rw [e, ih (r.drop 16) (by rw [List.length_drop]; omega)]
    unfold chunk
    rw [Nat.zero_mul, List.drop_zero, List.take_append_drop]
theorem fur_small {n : Nat} (h : n ≤ 8192) : fur n ≤ 1 := (fur_le n 1).2 (by omega)
theorem imgB_length {l : List (List Nat)} (h : ∀ r ∈ l, r.length = 16) : (imgB l).length = fur l.length + 1 + 16 * cutN l l.length := by
  unfold imgB
  rw [List.length_append, enc_length, flatten_length (fun r hr => h r (List.mem_of_mem_take hr)), List.length_take, Nat.min_eq_left (cutN_le _ _)]

/-- An image is restored. -/
theorem re_img {l : List (List Nat)} (h : ∀ r ∈ l, r.length = 16) (h1 : 1 ≤ l.length) (h2 : l.length ≤ 8192) (hL : (imgB l).length ≤ 65536) : reErr (imgB l) = 0 ∧ rePg (imgB l) = l := by
  obtain ⟨k1, k2, k3⟩ := rd_enc (n := l.length) (Nat.lt_of_le_of_lt h2 (by decide)) (l.take (cutN l l.length)).flatten
  have hle := cutN_le l l.length
  have hlt : (l.take (cutN l l.length)).length = cutN l l.length := by rw [List.length_take, Nat.min_eq_left hle]
  have hF := flatten_length (l := l.take (cutN l l.length)) (fun r hr => h r (List.mem_of_mem_take hr))
  rw [hlt] at hF
  have hch : ∀ i, i < cutN l l.length → chunk (l.take (cutN l l.length)).flatten i = l.getD i [] := by
    intro i hi
    rw [chunk_flatten (fun r hr => h r (List.mem_of_mem_take hr)) (by omega), List.getD_eq_getElem?_getD, List.getElem?_take_of_lt hi, ← List.getD_eq_getElem?_getD]
  have hz : ¬ lastZ (l.take (cutN l l.length)).flatten := by
    unfold lastZ
    rw [hF, show 16 * cutN l l.length / 16 = cutN l l.length by omega]
    rintro ⟨h0, hc⟩
    rw [hch _ (by omega)] at hc
    exact cutN_last h0 hc
  have he : reErr (imgB l) = 0 := by
    unfold reErr
    rw [if_neg (by omega)]
    unfold imgB
    rw [k1, k2, k3, if_neg (by simp), if_neg (by omega), if_neg (by rw [hF]; omega), if_neg hz]
  refine ⟨he, ?_⟩
  unfold rePg
  rw [if_pos he]
  unfold imgB
  rw [k2, k3]
  apply List.ext_getElem?
  intro i
  by_cases hi : i < l.length
  · unfold pagesOf
    rw [List.getElem?_map, List.getElem?_range hi, Option.map_some, hF, show 16 * cutN l l.length / 16 = cutN l l.length by omega]
    have hs : l[i]? = some (l.getD i []) := by rw [List.getD_eq_getElem?_getD, List.getElem?_eq_getElem hi]; rfl
    rw [hs]
    congr 1
    split
    · rename_i hx; exact hch i hx
    · exact (cutN_zero (by omega) hi).symm
  · rw [List.getElem?_eq_none (by rw [pagesOf_length]; omega), List.getElem?_eq_none (by omega)]

theorem pagesOf_16 (r : List Nat) (n : Nat) : ∀ p ∈ pagesOf r n, p.length = 16 := by
  intro p hp
  unfold pagesOf at hp
  obtain ⟨i, _, rfl⟩ := List.mem_map.1 hp
  split
  · unfold chunk; rw [List.length_take, List.length_drop]; omega
  · exact zp_length
theorem zp_byt : ∀ x ∈ zp, x < 256 := by intro x hx; unfold zp at hx; rw [List.eq_of_mem_replicate hx]; decide
theorem pagesOf_byt {r : List Nat} (h : ∀ x ∈ r, x < 256) (n : Nat) : ∀ p ∈ pagesOf r n, ∀ x ∈ p, x < 256 := by
  intro p hp
  unfold pagesOf at hp
  obtain ⟨i, _, rfl⟩ := List.mem_map.1 hp
  split
  · intro x hx; unfold chunk at hx; exact h x (List.mem_of_mem_drop (List.mem_of_mem_take hx))
  · exact zp_byt

/-- What is restored has the bytes as its image. -/
theorem img_re {b : List Nat} (hb : ∀ x ∈ b, x < 256) (h : reErr b = 0) : imgB (rePg b) = b ∧ (rePg b).length = rdNum b ∧ 1 ≤ rdNum b ∧ rdNum b ≤ 8192 ∧ b.length ≤ 65536 := by
  have hp : rePg b = pagesOf (rdRest b) (rdNum b) := by unfold rePg; rw [if_pos h]
  unfold reErr at h
  split at h
  · omega
  rename_i h5
  split at h
  · rename_i h9; exact absurd h h9
  rename_i h9
  split at h
  · omega
  rename_i hn
  split at h
  · omega
  rename_i hf
  split at h
  · omega
  rename_i hz
  have h9' : rdErr b = 0 := by omega
  obtain ⟨_, e⟩ := enc_rd hb h9'
  rw [hp]
  refine ⟨?_, pagesOf_length _ _, by omega, by omega, by omega⟩
  have hc : cutN (pagesOf (rdRest b) (rdNum b)) (rdNum b) = (rdRest b).length / 16 := by
    refine cutN_eq (by omega) ?_ ?_
    · intro h0
      rw [pagesOf_get (by omega), if_pos (by omega)]
      intro hx
      exact hz ⟨h0, hx⟩
    · intro i h1 h2
      rw [pagesOf_get h2, if_neg (by omega)]
  have ht : (pagesOf (rdRest b) (rdNum b)).take ((rdRest b).length / 16) = (List.range ((rdRest b).length / 16)).map (chunk (rdRest b)) := by
    unfold pagesOf
    rw [← List.map_take, List.take_range, Nat.min_eq_left (by omega)]
    apply List.map_congr_left
    intro i hi
    rw [if_pos (List.mem_range.1 hi)]
  unfold imgB
  rw [pagesOf_length, hc, ht, flatten_chunks _ _ (by omega)]
  exact e.symm
end Img
end Go.Proofs.Ytkclmfppjhmnjaa
