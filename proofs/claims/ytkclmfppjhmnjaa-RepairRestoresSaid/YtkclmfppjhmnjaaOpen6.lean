/- How a disk is opened. -/
import Derived.Test.YtkclmfppjhmnjaaOpen4
import Derived.Test.YtkclmfppjhmnjaaDk1
namespace Go.Proofs.Ytkclmfppjhmnjaa
open Go.ChangeShapes Go.WideShapes Go.ChangeAt Go.RowKit

set_option maxRecDepth 100000 in
theorem open_pgs_cell {H : Type} {enc : TypeId × Value → H} {W : World} {fuel : Nat} {v : Value} {y : DataW H × List MemPlace} (h : DataW.trod enc Try.prog W 0 (fun _ => true) true fuel 22 [v] = some y) :
    ∃ l : List (List Nat), Pgs W v 16 l ∧ P16 l ∧ BytM l ∧ l.length ≤ maxLen := by
  have hcn : Try.prog.cellsOf 82 = 16 := by kernel_rfl
  rcases Go.Deep.open_slice Try.underlying22 h with ⟨hcs, _⟩ | ⟨a, len, cap, m, q, D, Pl, hcs, _, hl, hm, hmm, _, hi⟩
  · simp only [List.cons.injEq, and_true] at hcs
    subst hcs
    exact ⟨[], ⟨none, 0, rfl, Nat.le_refl _, Or.inl rfl⟩, fun r hr => by simp at hr, fun r hr => by simp at hr, Nat.zero_le _⟩
  · simp only [List.cons.injEq, and_true] at hcs
    subst hcs
    have hlm : len ≤ m := by rw [hmm]; split <;> omega
    have row : ∀ i : Nat, ∃ s : List Nat, i < len → s.length = 16 ∧ Byt s ∧ ∀ (j x : Nat), s[j]? = some x → W.cell? ((a.add (i * 16)).add j) = some (bv x) := by
      intro i
      by_cases hil : i < len
      · obtain ⟨cs', hc, htr⟩ := hi i (by omega)
        rw [hcn] at hc
        obtain ⟨_, hcl, hat⟩ := World.cells?_some hc
        obtain ⟨k1, k2, k3⟩ := open_arr Try.underlying82 Try.underlying5 (by kernel_rfl) hcn htr
        refine ⟨cs'.map vnat, fun _ => ⟨by simpa using k1, k2, fun j x hx => ?_⟩⟩
        have hj := (List.getElem?_eq_some_iff.1 hx).1
        rw [List.length_map, k1] at hj
        rw [hat j hj]
        rw [k3, List.getElem?_map, hx]
        rfl
      · exact ⟨[], fun h => absurd h hil⟩
    obtain ⟨f, hf⟩ := Classical.axiomOfChoice row
    have hget : ∀ (i : Nat) (r : List Nat), ((List.range len).map f)[i]? = some r → i < len ∧ r = f i := by
      intro i r hr
      have h1 := (List.getElem?_eq_some_iff.1 hr).1
      simp only [List.length_map, List.length_range] at h1
      simp [h1] at hr
      exact ⟨h1, hr.symm⟩
    refine ⟨(List.range len).map f, ⟨some a, cap, by simp, by simpa using hl, ?_⟩, ?_, ?_, by simp; omega⟩
    · by_cases h0 : len = 0
      · subst h0; exact Or.inl rfl
      · right
        have h00 := hf 0 (by omega)
        have hpl := addr_plain (h00.2.2 0 _ (List.getElem?_eq_getElem (by omega)))
        have e0 : (a.add (0 * 16)).add 0 = a := by rw [Nat.zero_mul]; unfold Addr.add; simp
        rw [e0] at hpl
        refine ⟨a.block, a.off, by obtain ⟨b, o, s⟩ := a; simp only at hpl; subst hpl; rfl, ?_⟩
        intro i r hr j x hx
        obtain ⟨h1, rfl⟩ := hget i r hr
        have := (hf i h1).2.2 j x hx
        rw [add_plain hpl, add_plain rfl] at this
        exact this
    · intro r hr
      obtain ⟨i, hi⟩ := List.mem_iff_getElem?.1 hr
      obtain ⟨h1, rfl⟩ := hget i r hi
      exact (hf i h1).1
    · intro r hr
      obtain ⟨i, hi⟩ := List.mem_iff_getElem?.1 hr
      obtain ⟨h1, rfl⟩ := hget i r hi
      exact (hf i h1).2.1

set_option maxRecDepth 100000 in
theorem open_pds_cell {H : Type} {enc : TypeId × Value → H} {W : World} {fuel : Nat} {v : Value} {y : DataW H × List MemPlace} (h : DataW.trod enc Try.prog W 0 (fun _ => true) true fuel 23 [v] = some y) :
    ∃ q : List (Int × List Nat), Pds W v q ∧ Q16 q ∧ (∀ p ∈ q, Byt p.2) ∧ q.length ≤ maxLen := by
  have hcn : Try.prog.cellsOf 96 = 17 := by kernel_rfl
  have hcp : Try.prog.cellsOf 82 = 16 := by kernel_rfl
  have hci : Try.prog.cellsOf 3 = 1 := by kernel_rfl
  rcases Go.Deep.open_slice Try.underlying23 h with ⟨hcs, _⟩ | ⟨a, len, cap, m, q, D, Pl, hcs, _, hl, hm, hmm, _, hi⟩
  · simp only [List.cons.injEq, and_true] at hcs
    subst hcs
    exact ⟨[], ⟨none, 0, rfl, Nat.le_refl _, Or.inl rfl⟩, fun r hr => by simp at hr, fun r hr => by simp at hr, Nat.zero_le _⟩
  · simp only [List.cons.injEq, and_true] at hcs
    subst hcs
    have hlm : len ≤ m := by rw [hmm]; split <;> omega
    have row : ∀ i : Nat, ∃ s : Int × List Nat, i < len → s.2.length = 16 ∧ Byt s.2 ∧ ∀ (j : Nat) (x : Value), (pdv s)[j]? = some x → W.cell? ((a.add (i * 17)).add j) = some x := by
      intro i
      by_cases hil : i < len
      · obtain ⟨cs', hc, htr⟩ := hi i (by omega)
        rw [hcn] at hc
        obtain ⟨_, hcl, hat⟩ := World.cells?_some hc
        obtain ⟨y0, y1, n', _, hlen, h0, h1⟩ := trod_struct2 Try.underlying96 htr
        rw [hcn] at hlen
        have h0' : DataW.trod enc Try.prog W 0 (fun _ => true) true n' 3 ((cs'.drop 0).take 1) = some y0 := h0
        have h1' : DataW.trod enc Try.prog W 0 (fun _ => true) true n' 82 ((cs'.drop 1).take 16) = some y1 := h1
        obtain ⟨z, hz, _, _⟩ := DataW.trod_int Try.underlying3 h0'
        obtain ⟨k1, k2, k3⟩ := open_arr Try.underlying82 Try.underlying5 (by kernel_rfl) hcp h1'
        have hcs : cs' = pdv (z, ((cs'.drop 1).take 16).map vnat) := by
          have e1 : cs' = (cs'.drop 0).take 1 ++ (cs'.drop 1).take 16 := by
            rw [List.drop_zero, List.take_of_length_le (l := cs'.drop 1) (by rw [List.length_drop]; omega), List.take_append_drop]
          unfold pdv
          simp only
          rw [← k3]
          rw [hz] at e1
          exact e1
        refine ⟨(z, ((cs'.drop 1).take 16).map vnat), fun _ => ⟨by simp only [List.length_map]; exact k1, k2, fun j x hx => ?_⟩⟩
        rw [← hcs] at hx
        have hj := (List.getElem?_eq_some_iff.1 hx).1
        rw [hat j (by omega), hx]
      · exact ⟨(0, []), fun h => absurd h hil⟩
    obtain ⟨f, hf⟩ := Classical.axiomOfChoice row
    have hget : ∀ (i : Nat) (r : Int × List Nat), ((List.range len).map f)[i]? = some r → i < len ∧ r = f i := by
      intro i r hr
      have h1 := (List.getElem?_eq_some_iff.1 hr).1
      simp only [List.length_map, List.length_range] at h1
      simp [h1] at hr
      exact ⟨h1, hr.symm⟩
    refine ⟨(List.range len).map f, ⟨some a, cap, by simp, by simpa using hl, ?_⟩, ?_, ?_, by simp; omega⟩
    · by_cases h0 : len = 0
      · subst h0; exact Or.inl rfl
      · right
        have h00 := hf 0 (by omega)
        have hpl := addr_plain (h00.2.2 0 _ rfl)
        have e0 : (a.add (0 * 17)).add 0 = a := by rw [Nat.zero_mul]; unfold Addr.add; simp
        rw [e0] at hpl
        refine ⟨a.block, a.off, by obtain ⟨b, o, s⟩ := a; simp only at hpl; subst hpl; rfl, ?_⟩
        intro i r hr j x hx
        obtain ⟨h1, rfl⟩ := hget i r hr
        have := (hf i h1).2.2 j x hx
        rw [add_plain hpl, add_plain rfl] at this
        exact this
    · intro r hr
      obtain ⟨i, hi⟩ := List.mem_iff_getElem?.1 hr
      obtain ⟨h1, rfl⟩ := hget i r hi
      exact (hf i h1).1
    · intro r hr
      obtain ⟨i, hi⟩ := List.mem_iff_getElem?.1 hr
      obtain ⟨h1, rfl⟩ := hget i r hi
      exact (hf i h1).2.1

set_option maxRecDepth 100000 in
theorem open_disk {H : Type} {enc : TypeId × Value → H} {W : World} {base : Nat} {v : Value} {d : DataW H} {p : List MemPlace} (hv : Value.okWide Try.prog W .any base 25 v) (h : DataW.Trod enc Try.prog W 0 (fun _ => true) true 25 v d p) :
    ∃ (vs vp : Value) (l : List (List Nat)) (q : List (Int × List Nat)), v = .agg #[vs, vp] ∧ (Pgs W vs 16 l ∧ P16 l ∧ BytM l ∧ l.length ≤ maxLen) ∧ (Pds W vp q ∧ Q16 q ∧ (∀ p ∈ q, Byt p.2) ∧ q.length ≤ maxLen) := by
  obtain ⟨c0, c1, y0, y1, m, rfl, rfl, rfl, hy0, hy1⟩ := Joins.open_agg2 Try.underlying25 (by kernel_rfl) (by kernel_rfl) hv h
  obtain ⟨l, hl⟩ := open_pgs_cell hy0
  obtain ⟨q, hq⟩ := open_pds_cell hy1
  exact ⟨c0, c1, l, q, rfl, hl, hq⟩
end Go.Proofs.Ytkclmfppjhmnjaa
