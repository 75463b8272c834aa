/- Contracts of galois.Product and of the reference's Product. -/
import Derived.Test.YtlbomlolomcolaaLawC
namespace Go.Proofs.Ytlbomlolomcolaa
open Go.RowKit

/-- The sum of the first i rows of b, times the first i elements of row. -/
def prTo (row : List Nat) (b : List (List Nat)) (cols : Nat) : Nat → List Nat
  | 0 => List.replicate cols 0
  | i + 1 => addMul (row.getD i 0) (prTo row b cols i) (b.getD i [])
def prodM (a b : List (List Nat)) : List (List Nat) := a.map fun row => prTo row b (b.getD 0 []).length b.length
def prodErr (a b : List (List Nat)) : Nat := if isMat a ∧ isMat b then if (a.getD 0 []).length = b.length then 0 else 23 else 6
def prodRows (a b : List (List Nat)) : List (List Nat) := if prodErr a b = 0 then prodM a b else []

theorem prTo_ok {row : List Nat} {b : List (List Nat)} {cols : Nat} (hb : Rect cols b) (i : Nat) (hi : i ≤ b.length) : (prTo row b cols i).length = cols ∧ Byt (prTo row b cols i) := by
  induction i with
  | zero =>
    refine ⟨by simp [prTo], fun x hx => ?_⟩
    have := List.eq_of_mem_replicate hx
    omega
  | succ i ih =>
    have h1 := ih (by omega)
    have h2 := hb.get (i := i) (by omega)
    exact ⟨by show (addMul _ _ _).length = _; rw [addMul_length]; omega, addMul_byt h1.2⟩

theorem prodM_length (a b : List (List Nat)) : (prodM a b).length = a.length := by simp [prodM]
theorem prodM_get {a b : List (List Nat)} {i : Nat} {r : List Nat} (h : a[i]? = some r) : (prodM a b)[i]? = some (prTo r b (b.getD 0 []).length b.length) := by simp [prodM, h]
theorem prodM_byt {a b : List (List Nat)} (hb : Rect (b.getD 0 []).length b) : BytM (prodM a b) := by
  intro r hr
  obtain ⟨row, _, rfl⟩ := List.mem_map.1 hr
  exact (prTo_ok hb _ (Nat.le_refl _)).2

theorem zs_map (n : Nat) : (zs n).toList = (List.replicate n 0).map bv := by
  unfold zs
  rw [List.map_replicate]

/-- galois.Product, where the sizes fit. -/
theorem Product_pre {w : World} {ba oa bb ob : Nat} {a b : List (List Nat)} {A A' : Nat → Option Addr} {C C' : Nat → Nat} (hMa : MxAt w ba oa a A C) (hMb : MxAt w bb ob b A' C') (ha : Rect b.length a) {cols : Nat} (hb : Rect cols b) (hc : 1 ≤ cols) (hbl : 1 ≤ b.length) :
    (∀ i, i < a.length → ∃ b' o', A i = some ⟨b', o', none⟩ ∧ RowAt w b' o' (a.getD i []) ∧ b' < w.heap.size) ∧ (∀ i, i < b.length → ∃ b' o', A' i = some ⟨b', o', none⟩ ∧ RowAt w b' o' (b.getD i []) ∧ b' < w.heap.size) := by
  constructor
  · intro i hi
    obtain ⟨b', o', h1, h2⟩ := RowAt.of_mx hMa (getD_some hi) (ha.nonempty hbl _ (List.mem_of_getElem? (getD_some hi)))
    have h3 := h2 0 _ (getD_some (d := 0) (by rw [(ha.get hi).1]; omega))
    exact ⟨b', o', h1, h2, World.block_lt_of_cell? w _ h3⟩
  · intro i hi
    obtain ⟨b', o', h1, h2⟩ := RowAt.of_mx hMb (getD_some hi) (hb.nonempty hc _ (List.mem_of_getElem? (getD_some hi)))
    have h3 := h2 0 _ (getD_some (d := 0) (by rw [(hb.get hi).1]; omega))
    exact ⟨b', o', h1, h2, World.block_lt_of_cell? w _ h3⟩

end Go.Proofs.Ytlbomlolomcolaa
