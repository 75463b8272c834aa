/- How more arguments of the laws are opened: numbers of 16 bits, arrays of three bytes. -/
import Derived.Test.YtkclmfppjhmnjaaB04
import Derived.Test.YtkclmfppjhmnjaaB07
namespace Go.Proofs.Ytkclmfppjhmnjaa
open Go.ChangeShapes Go.WideShapes Go.ChangeAt Go.RowKit

theorem u16_nat {a : Int} (h : (Lit.int .u16 a).wf = true) : ∃ x : Nat, x < 65536 ∧ a = x := by
  have := bounds_u16 h
  exact ⟨a.toNat, by omega, by omega⟩

theorem list_three {α : Type} {l : List α} (h : l.length = 3) : ∃ a b c, l = [a, b, c] := by
  match l, h with
  | [a, b, c], _ => exact ⟨a, b, c, rfl⟩

set_option maxRecDepth 100000 in
theorem open_arr3 {H : Type} {enc : TypeId × Value → H} {W : World} {base : Nat} {v : Value} {d : DataW H} {p : List MemPlace} (hv : Value.okWide Try.prog W .any base 63 v) (h : DataW.Trod enc Try.prog W 0 (fun _ => true) true 63 v d p) :
    ∃ x y z : Nat, v = .agg #[.int .u8 x, .int .u8 y, .int .u8 z] ∧ x < 256 ∧ y < 256 ∧ z < 256 := by
  have hc : ∃ cs : Array Value, v = .agg cs := by
    simp only [Value.okWide, Try.underlying63] at hv
    obtain ⟨cs, h1, _⟩ := hv
    exact ⟨cs, h1⟩
  obtain ⟨⟨l⟩, rfl⟩ := hc
  obtain ⟨fuel, hf⟩ := h
  obtain ⟨h1, h2, h3⟩ := open_arr Try.underlying63 Try.underlying5 (by kernel_rfl) (by kernel_rfl) hf
  simp only [Value.cells] at h1 h2 h3
  obtain ⟨a, b, c, rfl⟩ := list_three h1
  simp only [List.map_cons, List.map_nil, List.cons.injEq, and_true] at h3
  refine ⟨vnat a, vnat b, vnat c, ?_, h2 _ (by simp), h2 _ (by simp), h2 _ (by simp)⟩
  obtain ⟨k1, k2, k3⟩ := h3
  rw [k1, k2, k3]
  rfl
end Go.Proofs.Ytkclmfppjhmnjaa
