/- Slices of ints of the call's own. -/
import Derived.Test.YtkclmfppjhmnjaaB07
namespace Go.Proofs.Ytkclmfppjhmnjaa
open Go.RowKit Wire

theorem infoIntV : (Try.prog.info? 3).map (fun i => (i.zero, i.size, i.bytes)) = some (some (.int .i64 0), 1, 8) := by kernel_rfl
/-- An int as a value. -/
def iv (n : Nat) : Value := .int .i64 n
/-- A slice of ints that owns its block. -/
def IO (w : World) (B : Nat) (v : Value) (l : List Nat) : Prop := w.ownsRow B 3 1 v l.length (l.map iv)
theorem IO.nil (w : World) (B : Nat) : IO w B (.slice none 0 0) [] := ⟨by simp, .inl ⟨rfl, rfl⟩⟩
theorem IO.new {w w' : World} {B : Nat} {v : Value} {l : List Nat} (h : IO w B v l) (k : Below w.heap.size w w') : IO w' B v l :=
  World.ownsRow.kept h (row := none) ⟨k.os, k.tape, k.output, k.size, fun i hi _ => k.block i hi⟩ (by cases v.ownBlock <;> simp)
theorem IO.base {w : World} {B B' : Nat} {v : Value} {l : List Nat} (h : IO w B v l) (hB : B' ≤ B) : IO w B' v l := by
  refine ⟨h.1, ?_⟩
  rcases h.2 with h | ⟨g, cap, cur, hv, hb, rest⟩
  · exact .inl h
  · exact .inr ⟨g, cap, cur, hv, by omega, rest⟩
theorem IO.form {w : World} {B : Nat} {v : Value} {l : List Nat} (h : IO w B v l) : ∃ a cap, v = .slice a l.length cap := by
  rcases h.2 with ⟨rfl, h0⟩ | ⟨g, cap, cur, hv, _⟩
  · exact ⟨none, 0, by rw [h0]⟩
  · exact ⟨_, _, hv⟩
/-- Either nothing, or a block of its own. -/
theorem IO.cases {w : World} {B : Nat} {v : Value} {l : List Nat} (h : IO w B v l) : (v = .slice none 0 0 ∧ l = []) ∨ ∃ g cap, v = .slice (some ⟨g, 0, none⟩) l.length cap ∧ B ≤ g ∧ l.length ≤ cap ∧ Blk w g 3 (l.map iv) := by
  have h' := h
  rcases h.2 with ⟨rfl, h0⟩ | ⟨g, cap, cur, rfl, hb, hg, hn, hc, hs, ht⟩
  · exact .inl ⟨rfl, List.eq_nil_of_length_eq_zero h0⟩
  · exact .inr ⟨g, cap, rfl, hb, hn, Blk.of_owns h'⟩
/-- As whole numbers. -/
def ci (l : List Nat) : List Int := l.map fun n : Nat => (n : Int)
theorem ci_length (l : List Nat) : (ci l).length = l.length := by simp [ci]
theorem iv_cells {w : World} {g : Nat} {l : List Nat} (h : Blk w g 3 (l.map iv)) : ∀ j, j < (ci l).length → w.cell? ⟨g, 0 + j, none⟩ = some (.int .i64 ((ci l).getD j 0)) := by
  intro j hj
  rw [ci_length] at hj
  rw [Nat.zero_add]
  refine h.cell ?_
  unfold ci
  rw [List.getElem?_map, List.getD_eq_getElem?_getD, List.getElem?_map, List.getElem?_eq_getElem hj]
  rfl
/-- An int has been appended. -/
theorem IO.snoc {w w' : World} {B n : Nat} {v v' : Value} {l : List Nat} {o : Obj} (hB : B ≤ w.heap.size) (h : IO w B v l) (hown : w'.ownsRow B 3 1 v' (l.length + 1) (l.map iv ++ [iv n])) (hgr : (w.alloc o).grownBy w' v.ownBlock) :
    IO w' B v' (l ++ [n]) ∧ Below B w w' := by
  refine ⟨?_, (((Below.refl B w).alloc hB o).grown hgr (by simp; omega) (fun q hq => (owns_block h hq).2.1))⟩
  unfold IO
  rw [List.length_append, List.length_singleton, List.map_append]
  exact hown
end Go.Proofs.Ytkclmfppjhmnjaa
