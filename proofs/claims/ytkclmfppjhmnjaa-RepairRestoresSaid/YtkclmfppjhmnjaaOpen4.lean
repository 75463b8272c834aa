/- How more arguments of the laws are opened: byte strings, a change of a part. -/
import Derived.Test.YtkclmfppjhmnjaaOpen
import Derived.Lib.SmallJoins
namespace Go.Proofs.Ytkclmfppjhmnjaa
open Go.ChangeShapes Go.WideShapes Go.ChangeAt Go.RowKit

set_option maxRecDepth 100000 in
theorem open_bytes_cell {H : Type} {enc : TypeId × Value → H} {W : World} {n : Nat} {v : Value} {y : DataW H × List MemPlace} (h : DataW.trod enc Try.prog W 0 (fun _ => true) true n 26 [v] = some y) :
    ∃ l : List Nat, Bs W v l ∧ Byt l ∧ l.length ≤ maxLen := by
  rcases open_ints Try.underlying26 Try.underlying5 (by kernel_rfl) h with ⟨hcs, _⟩ | ⟨a, len, cap, zs, hcs, _, hl, hm, hz, _, hc, hw⟩
  · simp only [List.cons.injEq, and_true] at hcs
    subst hcs
    exact ⟨[], ⟨none, 0, rfl, Nat.le_refl _, Or.inl rfl⟩, fun x hx => by simp at hx, Nat.zero_le _⟩
  · simp only [List.cons.injEq, and_true] at hcs
    subst hcs
    simp only [if_true] at hz
    have hb : ∀ i, i < zs.length → (0 : Int) ≤ zs.getD i 0 ∧ zs.getD i 0 < 256 := by
      intro i hi
      have := bounds_u8 (hw (zs.getD i 0) (List.mem_of_getElem? (getD_some hi)))
      omega
    have hlen : ((zs.take len).map Int.toNat).length = len := by simp; omega
    refine ⟨(zs.take len).map Int.toNat, ⟨some a, cap, by rw [hlen], by omega, ?_⟩, ?_, by omega⟩
    · by_cases h0 : len = 0
      · left; subst h0; simp
      · right
        have hp := addr_plain (hc 0 (by omega))
        have hp' : a.spot = none := by
          have : a.add 0 = a := by unfold Addr.add; simp
          rw [this] at hp; exact hp
        refine ⟨a.block, a.off, by obtain ⟨b, o, s⟩ := a; simp only at hp'; subst hp'; rfl, ?_⟩
        intro i x hx
        have hi : i < len := by have := (List.getElem?_eq_some_iff.1 hx).1; omega
        have h1 := hc i (by omega)
        rw [add_plain hp'] at h1
        rw [h1]
        have hb' := hb i (by omega)
        rw [List.getElem?_map, List.getElem?_take_of_lt hi, getD_some (l := zs) (d := 0) (by omega)] at hx
        simp only [Option.map_some, Option.some.injEq] at hx
        unfold bv
        rw [← hx, Int.toNat_of_nonneg hb'.1]
    · intro x hx
      obtain ⟨z, hz', rfl⟩ := List.mem_map.1 hx
      have := bounds_u8 (hw z (List.mem_of_mem_take hz'))
      omega

set_option maxRecDepth 100000 in
theorem open_bytes {H : Type} {enc : TypeId × Value → H} {W : World} {base : Nat} {v : Value} {d : DataW H} {p : List MemPlace} (hv : Value.okWide Try.prog W .any base 26 v) (h : DataW.Trod enc Try.prog W 0 (fun _ => true) true 26 v d p) :
    ∃ l : List Nat, Bs W v l ∧ Byt l ∧ l.length ≤ maxLen := by
  obtain ⟨a0, len0, cap0, rfl⟩ := okWide_slice Try.underlying26 hv
  obtain ⟨fuel, hf⟩ := h
  exact open_bytes_cell hf

end Go.Proofs.Ytkclmfppjhmnjaa
