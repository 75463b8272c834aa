/- The rows of an argument are no longer than a slice may be. -/
import Derived.Test.YtkclmfppjhmnjaaGreatB04
import Derived.Test.YtkclmfppjhmnjaaGreatB09
namespace Go.Proofs.YtkclmfppjhmnjaaGreat
open Go.ChangeShapes Go.WideShapes Go.ChangeAt Go.RowKit

set_option maxRecDepth 100000 in
theorem open_mat_bound {H : Type} {enc : TypeId × Value → H} {W : World} {base : Nat} {v : Value} {d : DataW H} {p : List MemPlace} (hv : Value.okWide Tryz.prog W .any base 22 v) (h : DataW.Trod enc Tryz.prog W 0 (fun _ => true) true 22 v d p) {m : List (List Nat)} (hm : Mx W v m) :
    ∀ j, j < m.length → plen m j ≤ maxLen := by
  intro j hj
  obtain ⟨a0, len0, cap0, rfl⟩ := okWide_slice Tryz.underlying22 hv
  obtain ⟨a1, cap1, hv1, hc1, hm⟩ := hm
  simp only [Value.slice.injEq] at hv1
  obtain ⟨rfl, rfl, rfl⟩ := hv1
  rcases hm with hm | ⟨b, o, A, C, rfl, hM⟩
  · rw [hm] at hj; simp at hj
  obtain ⟨fuel, hf⟩ := h
  rcases Go.Deep.open_int_rows Tryz.underlying22 Tryz.underlying25 Tryz.underlying5 (by kernel_rfl) (by kernel_rfl) hf with ⟨hcs, _⟩ | ⟨a, len, cap, A', L, C', Z, hcs, _, hl, hmx, _, hr⟩
  · simp [Value.cells] at hcs
  · simp only [Value.cells] at hcs
    obtain ⟨rfl, rfl, rfl⟩ : (⟨b, o, none⟩ : Addr) = a ∧ m.length = len ∧ cap0 = cap := by simpa using hcs
    obtain ⟨k1, k2, k3, k4, k5, k6, k7⟩ := hr j (by omega)
    rw [add_plain rfl] at k1
    have h2 := (hM j _ (getD_some (d := []) hj)).1
    rw [k1] at h2
    simp only [Option.some.injEq, Value.slice.injEq] at h2
    unfold plen
    rw [← h2.2.1]
    omega
end Go.Proofs.YtkclmfppjhmnjaaGreat
