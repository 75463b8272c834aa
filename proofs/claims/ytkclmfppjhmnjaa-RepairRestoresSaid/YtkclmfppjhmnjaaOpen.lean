/- How the arguments of the laws are opened: numbers, matrices of bytes. -/
import Derived.Test.YtkclmfppjhmnjaaChecked
import Derived.Test.YtkclmfppjhmnjaaMem
import Derived.ProofKit
import Derived.OpenShut
import Derived.Deep.Matrix
namespace Go.Proofs.Ytkclmfppjhmnjaa
open Go.ChangeShapes Go.WideShapes Go.ChangeAt Go.RowKit

theorem ownKnobNone : ownKnob Try.prog.godebug = none := by kernel_rfl
theorem laidOutYes : laidOutB Try.prog = true := by kernel_rfl

theorem u8_nat {a : Int} (h : (Lit.int .u8 a).wf = true) : ∃ x : Nat, x < 256 ∧ a = x := by
  have := bounds_u8 h
  exact ⟨a.toNat, by omega, by omega⟩
theorem i64_bounds {a : Int} (h : (Lit.int .i64 a).wf = true) : -9223372036854775808 ≤ a ∧ a ≤ 9223372036854775807 := bounds_i64 h
theorem i16_bounds {a : Int} (h : (Lit.int .i16 a).wf = true) : -32768 ≤ a ∧ a ≤ 32767 := bounds_i16 h

theorem addr_plain {w : World} {a : Addr} {v : Value} (h : w.cell? a = some v) : a.spot = none := by
  unfold World.cell? at h
  split at h
  · split at h
    · simp at h
    · rename_i hs; simpa using hs
  · simp at h

theorem add_plain {a : Addr} (h : a.spot = none) (i : Nat) : a.add i = ⟨a.block, a.off + i, none⟩ := by
  obtain ⟨b, o, s⟩ := a
  simp only at h
  subst h
  unfold Addr.add
  split
  · rename_i hi; subst hi; rfl
  · rfl

set_option maxRecDepth 100000 in
theorem open_mat {H : Type} {enc : TypeId × Value → H} {W : World} {base : Nat} {v : Value} {d : DataW H} {p : List MemPlace} (hv : Value.okWide Try.prog W .any base 44 v) (h : DataW.Trod enc Try.prog W 0 (fun _ => true) true 44 v d p) :
    ∃ m : List (List Nat), Mx W v m ∧ BytM m ∧ m.length ≤ maxLen := by
  obtain ⟨a0, len0, cap0, rfl⟩ := okWide_slice Try.underlying44 hv
  obtain ⟨fuel, hf⟩ := h
  rcases Go.Deep.open_int_rows Try.underlying44 Try.underlying26 Try.underlying5 (by kernel_rfl) (by kernel_rfl) hf with ⟨hcs, _⟩ | ⟨a, len, cap, A, L, C, Z, hcs, _, hl, hm, _, hr⟩
  · simp only [Value.cells] at hcs
    obtain ⟨rfl, rfl, rfl⟩ : a0 = none ∧ len0 = 0 ∧ cap0 = 0 := by simpa using hcs
    exact ⟨[], ⟨none, 0, rfl, Nat.le_refl _, Or.inl rfl⟩, fun r hr => by simp at hr, Nat.zero_le _⟩
  · simp only [Value.cells] at hcs
    obtain ⟨rfl, rfl, rfl⟩ : a0 = some a ∧ len0 = len ∧ cap0 = cap := by simpa using hcs
    have hget : ∀ i r, ((List.range len0).map fun r => ((Z r).take (L r)).map Int.toNat)[i]? = some r → i < len0 ∧ r = ((Z i).take (L i)).map Int.toNat := by
      intro i r hi
      have h1 := (List.getElem?_eq_some_iff.1 hi).1
      simp only [List.length_map, List.length_range] at h1
      simp [h1] at hi
      exact ⟨h1, by rw [List.map_take]; exact hi.symm⟩
    have hlen : ∀ i, i < len0 → (((Z i).take (L i)).map Int.toNat).length = L i := by
      intro i hi
      obtain ⟨_, h2, _, h4, _⟩ := hr i (by omega)
      simp; omega
    refine ⟨(List.range len0).map fun r => ((Z r).take (L r)).map Int.toNat, ⟨some a, cap0, by simp, by simpa using hl, ?_⟩, ?_, by simp; omega⟩
    · by_cases h0 : len0 = 0
      · subst h0; exact Or.inl rfl
      · right
        have hpl := addr_plain (hr 0 (by omega)).1
        have hpl' : a.spot = none := by
          have : a.add 0 = a := by unfold Addr.add; simp
          rw [this] at hpl; exact hpl
        refine ⟨a.block, a.off, A, C, by obtain ⟨b, o, s⟩ := a; simp only at hpl'; subst hpl'; rfl, ?_⟩
        intro i r hi
        obtain ⟨h1, rfl⟩ := hget i r hi
        obtain ⟨k1, k2, k3, k4, k5, k6, k7⟩ := hr i (by omega)
        rw [add_plain hpl'] at k1
        refine ⟨by rw [hlen i h1]; exact k1, by rw [hlen i h1]; exact k2, ?_, k6⟩
        cases hA : A i with
        | none =>
          left
          have := k6 hA
          apply List.eq_nil_of_length_eq_zero
          rw [hlen i h1]; omega
        | some a' =>
          by_cases hL : L i = 0
          · left
            apply List.eq_nil_of_length_eq_zero
            rw [hlen i h1, hL]
          · right
            have kk := (k7 a' hA).2
            have hp0 := addr_plain (kk 0 (by omega))
            have hp' : a'.spot = none := by
              have : a'.add 0 = a' := by unfold Addr.add; simp
              rw [this] at hp0; exact hp0
            refine ⟨a'.block, a'.off, by obtain ⟨b, o, s⟩ := a'; simp only at hp'; subst hp'; rfl, ?_⟩
            intro j x hj
            have hj1 := (List.getElem?_eq_some_iff.1 hj).1
            rw [hlen i h1] at hj1
            have hc := kk j (by omega)
            rw [add_plain hp'] at hc
            rw [hc]
            have hz : (Z i)[j]? = some ((Z i).getD j 0) := getD_some (by omega)
            have hw := bounds_u8 (k5 _ (List.mem_of_getElem? hz))
            simp only [List.getElem?_map, List.getElem?_take, if_pos hj1, hz, Option.map_some, Option.some.injEq] at hj
            subst hj
            unfold bv
            rw [Int.toNat_of_nonneg hw.1]
    · intro r hr2
      obtain ⟨i, hi⟩ := List.mem_iff_getElem?.1 hr2
      obtain ⟨h1, rfl⟩ := hget i r hi
      intro x hx
      obtain ⟨z, hz, rfl⟩ := List.mem_map.1 hx
      have := bounds_u8 ((hr i (by omega)).2.2.2.2.1 z (List.mem_of_mem_take hz))
      omega
end Go.Proofs.Ytkclmfppjhmnjaa
