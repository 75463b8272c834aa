/- Byte strings as headers; pairs of numbers. -/
import Derived.Test.YtkclmfppjhmnjaaB04
import Derived.Test.YtkclmfppjhmnjaaOpen5
import Derived.Test.YtkclmfppjhmnjaaB32
namespace Go.Proofs.Ytkclmfppjhmnjaa
open Go.ChangeShapes Go.WideShapes Go.ChangeAt Go.RowKit

set_option maxRecDepth 100000 in
theorem open_bytes_hd {H : Type} {enc : TypeId × Value → H} {W : World} {base : Nat} {v : Value} {d : DataW H} {p : List MemPlace} (hv : Value.okWide Try.prog W .any base 26 v) (h : DataW.Trod enc Try.prog W 0 (fun _ => true) true 26 v d p) :
    ∃ l : List Nat, HdOk W v l ∧ Byt l ∧ l.length ≤ maxLen := by
  obtain ⟨l, hB, h1, h2⟩ := open_bytes hv h
  refine ⟨l, ?_, h1, h2⟩
  obtain ⟨a, c, rfl, hc, hr⟩ := hB
  refine ⟨a, c, rfl, hc, hr, fun ha => ?_⟩
  subst ha
  obtain ⟨n, hn⟩ := h
  have hn' : DataW.trod enc Try.prog W 0 (fun _ => true) true n 26 [Value.slice none l.length c] = some (d, p) := hn
  rcases open_ints Try.underlying26 Try.underlying5 (by kernel_rfl) hn' with ⟨hcs, _⟩ | ⟨a', len, cap, zs, hcs, _⟩
  · simp only [List.cons.injEq, and_true, Value.slice.injEq] at hcs
    exact hcs.2.2
  · simp at hcs

theorem list_two {α : Type} {l : List α} (h : l.length = 2) : ∃ a b, l = [a, b] := by
  match l, h with
  | [a, b], _ => exact ⟨a, b, rfl⟩

set_option maxRecDepth 100000 in
theorem open_arr2 {H : Type} {enc : TypeId × Value → H} {W : World} {base : Nat} {v : Value} {d : DataW H} {p : List MemPlace} (hv : Value.okWide Try.prog W .any base 67 v) (h : DataW.Trod enc Try.prog W 0 (fun _ => true) true 67 v d p) :
    ∃ x y : Nat, v = .agg #[.int .u8 x, .int .u8 y] ∧ x < 256 ∧ y < 256 := by
  have hc : ∃ cs : Array Value, v = .agg cs := by
    simp only [Value.okWide, Try.underlying67] at hv
    obtain ⟨cs, h1, _⟩ := hv
    exact ⟨cs, h1⟩
  obtain ⟨⟨l⟩, rfl⟩ := hc
  obtain ⟨fuel, hf⟩ := h
  obtain ⟨h1, h2, h3⟩ := open_arr Try.underlying67 Try.underlying5 (by kernel_rfl) (by kernel_rfl) hf
  simp only [Value.cells] at h1 h2 h3
  obtain ⟨a, b, rfl⟩ := list_two h1
  simp only [List.map_cons, List.map_nil, List.cons.injEq, and_true] at h3
  refine ⟨vnat a, vnat b, ?_, h2 _ (by simp), h2 _ (by simp)⟩
  obtain ⟨k1, k2⟩ := h3
  rw [k1, k2]
  rfl

set_option maxRecDepth 100000 in
theorem open_loss {H : Type} {enc : TypeId × Value → H} {W : World} {base : Nat} {v : Value} {d : DataW H} {p : List MemPlace} (hv : Value.okWide Try.prog W .any base 75 v) (h : DataW.Trod enc Try.prog W 0 (fun _ => true) true 75 v d p) :
    ∃ (vl : Value) (l : List Nat) (x y : Nat) (r : Bool), v = .agg #[vl, .int .u8 x, .int .u8 y, .bool r] ∧ Bs W vl l ∧ Byt l ∧ l.length ≤ maxLen ∧ x < 256 ∧ y < 256 := by
  obtain ⟨c0, c1, c2, c3, y0, y1, y2, y3, m, rfl, rfl, rfl, h0, h1, h2, h3⟩ := Joins.open_agg4 Try.underlying75 (by kernel_rfl) (by kernel_rfl) hv h
  obtain ⟨l, q1, q2, q3⟩ := open_bytes_cell h0
  obtain ⟨a1, e1, _, w1⟩ := DataW.trod_int Try.underlying5 h1
  obtain ⟨a2, e2, _, w2⟩ := DataW.trod_int Try.underlying5 h2
  obtain ⟨b, e3, _⟩ := DataW.trod_bool Try.underlying4 h3
  simp only [List.cons.injEq, and_true] at e1 e2 e3
  obtain ⟨x, hx, rfl⟩ := u8_nat w1
  obtain ⟨y, hy, rfl⟩ := u8_nat w2
  exact ⟨c0, l, x, y, b, by rw [e1, e2, e3], q1, q2, q3, hx, hy⟩
end Go.Proofs.Ytkclmfppjhmnjaa
