/- Plain: volumes among others. -/
import Derived.Test.YtkclmfppjhmnjaaLos0
namespace Go.Proofs.Ytkclmfppjhmnjaa
open Go.RowKit Wire Vol Crc Alg

theorem hdErr_nil : hdErr [] ≠ 0 := by
  have h : opErr [] = 9 := by unfold opErr; rw [if_neg (by simp), if_pos (by simp)]
  unfold hdErr
  rw [h, if_pos (by decide)]
  decide
/-- The list of VolumeIgnores. -/
def mixL (b o : List Nat) (d r : Nat) : List (List Nat) := [o] ++ (volL b d r).take 1 ++ volL o d r ++ volL b d r ++ volL o d r ++ [[]]
theorem mix_set {b o : List Nat} {d r : Nat} (hB : Byt b) (hl : b.length ≤ 60) (hBo : Byt o) (hlo : o.length ≤ 60) (h1 : 1 ≤ d) (h2 : d + r ≤ 64) (hne : ¬ (crc 0 b = crc 0 o ∧ b.length = o.length)) (ho : hdErr o ≠ 0) :
    clAll (mixL b o d r) = (some (vhz b d r), loseTo [] (allM b d r) (fun _ => false) (d + r)) := by
  obtain ⟨hAr, hAl⟩ := allM_rect hB (show b.length ≤ 65536 by omega) h1 h2
  have hVl : (volL b d r).length = d + r := by rw [volL_length, hAl]
  have h0 : (volL b d r)[0]? = some ((volL b d r).getD 0 []) := getD_some (by rw [hVl]; omega)
  have ht : (volL b d r).take 1 = [(volL b d r).getD 0 []] := by
    rw [List.take_add_one, h0]; rfl
  have e : mixL b o d r = [o] ++ (volL b d r).getD 0 [] :: (volL o d r ++ volL b d r ++ volL o d r ++ [[]]) := by
    unfold mixL; rw [ht]; simp only [List.append_assoc, List.cons_append, List.nil_append]
  have hother : ∀ x ∈ volL o d r, okEl b d r (fun _ => false) x := fun x hx => by
    obtain ⟨i, hi⟩ := List.mem_iff_getElem?.1 hx
    obtain ⟨_, q2, q3, _⟩ := vol_at hBo hlo h1 h2 hi
    refine Or.inr (Or.inl ⟨q2, fun h => hne ?_⟩)
    rw [q3] at h
    unfold hdz vhz at h
    simp only [Prod.mk.injEq] at h
    exact ⟨h.1.symm, h.2.2.2.2.symm⟩
  rw [e]
  refine cl_set hB hl h1 h2 (fun y hy => by rw [List.mem_singleton.1 hy]; exact ho) h0 rfl (fun y hy => ?_) fun i hi _ => ?_
  · simp only [List.mem_append, List.mem_singleton] at hy
    rcases hy with ((hy | hy) | hy) | hy
    · exact hother y hy
    · obtain ⟨i, hi⟩ := List.mem_iff_getElem?.1 hy
      exact Or.inr (Or.inr ⟨i, hi, rfl⟩)
    · exact hother y hy
    · rw [hy]; exact Or.inl hdErr_nil
  · refine ⟨_, ?_, getD_some (d := []) (by rw [hVl]; exact hi)⟩
    have := List.mem_of_getElem? (getD_some (l := volL b d r) (d := []) (i := i) (by rw [hVl]; exact hi))
    refine List.mem_cons_of_mem _ ?_
    simp only [List.mem_append]
    exact Or.inl (Or.inl (Or.inr this))
theorem lostN_none (n : Nat) : lostN (fun _ => false) n = 0 := by
  induction n with
  | zero => rfl
  | succ n ih => unfold lostN; rw [if_neg (by decide)]; exact ih
theorem mixL_len {b o : List Nat} {d r : Nat} (hB : Byt b) (hl : b.length ≤ 60) (hBo : Byt o) (hlo : o.length ≤ 60) (h1 : 1 ≤ d) (h2 : d + r ≤ 20) : (mixL b o d r).length ≤ 128 := by
  have e1 := (allM_rect hB (show b.length ≤ 65536 by omega) h1 (show d + r ≤ 64 by omega)).2
  have e2 := (allM_rect hBo (show o.length ≤ 65536 by omega) h1 (show d + r ≤ 64 by omega)).2
  unfold mixL
  simp only [List.length_append, List.length_take, volL_length, e1, e2, List.length_singleton]
  omega
theorem vol_ok {b : List Nat} {d r : Nat} (hB : Byt b) (hl : b.length ≤ 60) (h1 : 1 ≤ d) (h2 : d + r ≤ 64) : (volL b d r).length = d + r ∧ BytM (volL b d r) ∧ ∀ x ∈ volL b d r, x.length ≤ 200 := by
  refine ⟨by rw [volL_length, (allM_rect hB (show b.length ≤ 65536 by omega) h1 h2).2], fun x hx => ?_, fun x hx => ?_⟩
  · obtain ⟨i, hi⟩ := List.mem_iff_getElem?.1 hx
    exact (vol_at hB hl h1 h2 hi).2.2.2.2.2.1
  · obtain ⟨i, hi⟩ := List.mem_iff_getElem?.1 hx
    exact (vol_at hB hl h1 h2 hi).2.2.2.2.2.2.2.1
theorem mixL_ok {b o : List Nat} {d r : Nat} (hB : Byt b) (hl : b.length ≤ 60) (hBo : Byt o) (hlo : o.length ≤ 60) (h1 : 1 ≤ d) (h2 : d + r ≤ 64) : BytM (mixL b o d r) ∧ ∀ x ∈ mixL b o d r, x.length ≤ 200 := by
  obtain ⟨_, p2, p3⟩ := vol_ok hB hl h1 h2
  obtain ⟨_, q2, q3⟩ := vol_ok hBo hlo h1 h2
  have key : ∀ x ∈ mixL b o d r, Byt x ∧ x.length ≤ 200 := fun x hx => by
    unfold mixL at hx
    simp only [List.mem_append, List.mem_singleton] at hx
    rcases hx with ((((hx | hx) | hx) | hx) | hx) | hx
    · rw [hx]; exact ⟨hBo, by omega⟩
    · have := List.mem_of_mem_take hx; exact ⟨p2 x this, p3 x this⟩
    · exact ⟨q2 x hx, q3 x hx⟩
    · exact ⟨p2 x hx, p3 x hx⟩
    · exact ⟨q2 x hx, q3 x hx⟩
    · rw [hx]; exact ⟨fun y hy => by simp at hy, by simp⟩
  exact ⟨fun x hx => (key x hx).1, fun x hx => (key x hx).2⟩
/-- Among others, Join, Missing answer as if alone. -/
theorem mix_answers {b o : List Nat} {d r : Nat} (hB : Byt b) (hl : b.length ≤ 60) (hBo : Byt o) (hlo : o.length ≤ 60) (h1 : 1 ≤ d) (h2 : d + r ≤ 20) (hne : ¬ (crc 0 b = crc 0 o ∧ b.length = o.length)) (ho : hdErr o ≠ 0) :
    clErr (mixL b o d r) = 0 ∧ jE (mixL b o d r) = 0 ∧ jB (mixL b o d r) = b ∧ missL (clP (mixL b o d r)) = [] := by
  obtain ⟨e1, _, _, e4, e5, e6⟩ := cs_answers hB hl h1 (by omega) (mixL_len hB hl hBo hlo h1 h2) (mix_set hB hl hBo hlo h1 (by omega) hne ho)
  rw [lostN_none] at e4 e5
  rw [if_neg (by omega)] at e4 e5
  refine ⟨e1, e4, e5, ?_⟩
  rw [e6]; simp
end Go.Proofs.Ytkclmfppjhmnjaa
