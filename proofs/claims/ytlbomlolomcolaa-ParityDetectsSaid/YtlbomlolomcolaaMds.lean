/- Plain: any d of the rows of the unit matrix and the Cauchy matrix are independent. No program in sight. -/
import Derived.Test.YtlbomlolomcolaaCauL
import Derived.Test.YtlbomlolomcolaaAlg4
import Derived.Test.YtlbomlolomcolaaPar5
namespace Go.Proofs.Ytlbomlolomcolaa.Alg
open Go.Proofs.Ytlbomlolomcolaa

theorem S_add (a b : Nat) (f : Nat → G) : S (a + b) f = ga (S a f) (S b fun i => f (a + i)) := by
  induction b with
  | zero => exact (ga_zero _).symm
  | succ b ih => show ga (S (a + b) f) (f (a + b)) = ga (S a f) (ga (S b _) (f (a + b))); rw [ih, ga_assoc]

theorem nodup_le : ∀ {L A : List Nat}, L.Nodup → (∀ x ∈ L, x ∈ A) → L.length ≤ A.length
  | [], _, _, _ => Nat.zero_le _
  | x :: L, A, hn, hs => by
    have hx := hs x (by simp)
    have hn' := List.nodup_cons.1 hn
    have := nodup_le (L := L) (A := A.erase x) hn'.2 (fun y hy => (List.mem_erase_of_ne (by intro e; rw [e] at hy; exact hn'.1 hy)).2 (hs y (by simp [hy])))
    rw [List.length_erase_of_mem hx] at this
    have : 0 < A.length := List.length_pos_of_mem hx
    simp only [List.length_cons]
    omega

theorem filter_split (p : Nat → Bool) (l : List Nat) : l.length = (l.filter p).length + (l.filter fun x => !p x).length := by
  induction l with
  | nil => rfl
  | cons x l ih =>
    cases hx : p x <;> simp [hx] <;> omega

/-- Columns that are not in a short list: there are enough of them. -/
theorem free_cols (d : Nat) (A : List Nat) : ∃ K : List Nat, K.Nodup ∧ (∀ j ∈ K, j < d ∧ j ∉ A) ∧ d ≤ K.length + A.length := by
  refine ⟨(List.range d).filter fun j => decide (j ∉ A), List.Pairwise.filter _ List.nodup_range, fun j hj => ?_, ?_⟩
  · rw [List.mem_filter, List.mem_range] at hj
    exact ⟨hj.1, by simpa using hj.2⟩
  · have h1 : ((List.range d).filter fun j => decide (j ∈ A)).length ≤ A.length := nodup_le (List.Pairwise.filter _ List.nodup_range) fun x hx => by
      rw [List.mem_filter] at hx
      simpa using hx.2
    have h2 := filter_split (fun j => decide (j ∈ A)) (List.range d)
    rw [List.length_range] at h2
    have h3 : ((List.range d).filter fun j => !decide (j ∈ A)) = (List.range d).filter fun j => decide (j ∉ A) := by
      congr 1; funext j; simp
    rw [h3] at h2
    omega

theorem split_at (d : Nat) (s : Nat → Nat) (c : Nat) (hs : ∀ i j, i < j → j < d → s i < s j) : ∃ a, a ≤ d ∧ (∀ i, i < a → s i < c) ∧ ∀ i, a ≤ i → i < d → c ≤ s i := by
  induction d with
  | zero => exact ⟨0, Nat.le_refl _, fun i hi => by omega, fun i _ hi => by omega⟩
  | succ d ih =>
    obtain ⟨a, h1, h2, h3⟩ := ih fun i j hij hj => hs i j hij (by omega)
    by_cases ha : a = d
    · by_cases hd : s d < c
      · refine ⟨d + 1, Nat.le_refl _, fun i hi => ?_, fun i hi hi' => by omega⟩
        by_cases hid : i = d
        · rw [hid]; exact hd
        · exact h2 i (by omega)
      · refine ⟨d, by omega, fun i hi => h2 i (by omega), fun i hi hi' => ?_⟩
        have hid : i = d := by omega
        rw [hid]; omega
    · refine ⟨a, by omega, h2, fun i hi hi' => ?_⟩
      by_cases hid : i = d
      · have h4 := h3 a (Nat.le_refl _) (by omega)
        have h5 := hs a i (by omega) (by omega)
        omega
      · exact h3 i hi (by omega)

theorem rows_indep {d r : Nat} (hN : d + r ≤ 64) {s : Nat → Nat} (hs : ∀ i j, i < j → j < d → s i < s j) (hlt : ∀ i, i < d → s i < d + r) {M : Mt}
    (hI : ∀ i j, i < d → j < d → s i < d → M i j = if s i = j then g1 else g0) (hC : ∀ i j, i < d → j < d → d ≤ s i → M i j = gv (ga (tg (s i - d)) (tg (r + j))))
    (u : Nat → G) (hu : ∀ j, j < d → S d (fun i => gx (u i) (M i j)) = g0) : ∀ i, i < d → u i = g0 := by
  obtain ⟨a, ha, h1, h2⟩ := split_at d s d hs
  have inj : ∀ i j, i < d → j < d → s i = s j → i = j := by
    intro i j hi hj e
    rcases Nat.lt_trichotomy i j with h | h | h
    · have := hs i j h hj; omega
    · exact h
    · have := hs j i h hi; omega
  obtain ⟨K, hK1, hK2, hK3⟩ := free_cols d ((List.range a).map s)
  rw [List.length_map, List.length_range] at hK3
  have hKg : ∀ t, t < d - a → K.getD t 0 < d ∧ ∀ i, i < a → s i ≠ K.getD t 0 := by
    intro t ht
    have hm : K.getD t 0 ∈ K := by rw [List.getD_eq_getElem?_getD, List.getElem?_eq_getElem (by omega)]; exact List.getElem_mem _
    obtain ⟨q1, q2⟩ := hK2 _ hm
    exact ⟨q1, fun i hi e => q2 (List.mem_map.2 ⟨i, List.mem_range.2 hi, e⟩)⟩
  have hB : ∀ i, i < d - a → u (a + i) = g0 := by
    refine cauchy_indep (d - a) (fun i => tg (s (a + i) - d)) (fun t => tg (r + K.getD t 0)) (fun i => u (a + i)) ?_ ?_ ?_ ?_
    · intro i j hi hj e
      have b1 := hlt (a + i) (by omega)
      have b2 := hlt (a + j) (by omega)
      have b3 := h2 (a + i) (by omega) (by omega)
      have b4 := h2 (a + j) (by omega) (by omega)
      have := tg_inj (by omega) (by omega) e
      have := inj (a + i) (a + j) (by omega) (by omega) (by omega)
      omega
    · intro i j hi hj e
      have b1 := (hKg i hi).1
      have b2 := (hKg j hj).1
      have := tg_inj (by omega) (by omega) e
      exact nodup_get hK1 (by omega) (by omega) (by omega)
    · intro i j hi hj e
      have b1 := hlt (a + i) (by omega)
      have b3 := h2 (a + i) (by omega) (by omega)
      have b2 := (hKg j hj).1
      have := tg_inj (by omega) (by omega) (ga_eq_zero e)
      omega
    · intro t ht
      obtain ⟨q1, q2⟩ := hKg t ht
      have := hu (K.getD t 0) q1
      rw [show d = a + (d - a) by omega, S_add, S_zero (n := a) (fun i hi => by rw [hI i _ (by omega) (by omega) (h1 i hi), if_neg (q2 i hi), gx_zero]), zero_ga] at this
      rw [← this]
      exact S_congr fun i hi => by rw [hC (a + i) _ (by omega) q1 (h2 (a + i) (by omega) (by omega))]
  intro i hi
  by_cases hia : i < a
  · have hsi := h1 i hia
    have := hu (s i) hsi
    have e : S d (fun k => gx (u k) (M k (s i))) = S d fun k => if k = i then u k else g0 := by
      refine S_congr fun k hk => ?_
      by_cases hka : k < a
      · rw [hI k _ hk hsi (h1 k hka)]
        by_cases hki : k = i
        · rw [if_pos (by rw [hki]), if_pos hki, gx_one]
        · rw [if_neg (fun e => hki (inj k i hk hi e)), if_neg hki, gx_zero]
      · have h0 := hB (k - a) (by omega)
        rw [show a + (k - a) = k by omega] at h0
        rw [h0, zero_gx]
        split <;> rfl
    rw [e, S_one hi] at this
    exact this
  · have h0 := hB (i - a) (by omega)
    rw [show a + (i - a) = i by omega] at h0
    exact h0

theorem ent_rows {d r i j : Nat} (hN : d + r ≤ 64) (hi : i < d + r) (hj : j < d) : ent (rowsM d r) i j = if i < d then (if i = j then g1 else g0) else gv (ga (tg (i - d)) (tg (r + j))) := by
  unfold ent rowsM
  by_cases h : i < d
  · have e0 : (idM d ++ cauM r d).getD i [] = (idM d).getD i [] := by rw [List.getD_eq_getElem?_getD, List.getD_eq_getElem?_getD, List.getElem?_append_left (by rw [idM_length]; exact h)]
    rw [if_pos h, e0]
    exact ent_id h j hj
  · have e : (cauM r d)[i - d]? = some (cauRow r d (i - d)) := by unfold cauM; rw [List.getElem?_map, List.getElem?_range (by omega)]; rfl
    have e0 : (idM d ++ cauM r d).getD i [] = cauRow r d (i - d) := by rw [List.getD_eq_getElem?_getD, List.getElem?_append_right (by rw [idM_length]; omega), idM_length, e]; rfl
    rw [if_neg h, e0, List.getD_eq_getElem?_getD]
    have e2 : (cauRow r d (i - d))[j]? = some (Gf.gi ((i - d) ^^^ (r + j))) := by simp [cauRow, hj]
    rw [e2, Option.getD_some, tg_gi (Gf.xor_lt (by omega) (by omega)), tg_xor (by omega) (by omega)]

/-- Any d rows, in order, have full rank. -/
theorem sel_full {d r : Nat} (hN : d + r ≤ 64) {sel : List Nat} (hl : sel.length = d) (hs : ∀ i j, i < j → j < d → sel.getD i 0 < sel.getD j 0) (hlt : ∀ i, i < d → sel.getD i 0 < d + r) (hR : Rect d (sel.map fun i => (rowsM d r).getD i [])) : (redTo (sel.map fun i => (rowsM d r).getD i []) d).2 = d := by
  have he : ∀ i j, i < d → ent (sel.map fun i => (rowsM d r).getD i []) i j = ent (rowsM d r) (sel.getD i 0) j := by
    intro i j hi
    have e0 : (sel.map fun i => (rowsM d r).getD i []).getD i [] = (rowsM d r).getD (sel.getD i 0) [] := by
      rw [List.getD_eq_getElem?_getD, List.getElem?_map, List.getElem?_eq_getElem (by omega), Option.map_some, Option.getD_some]
      congr 1
      rw [List.getD_eq_getElem?_getD, List.getElem?_eq_getElem (by omega)]
      rfl
    unfold ent
    rw [e0]
  refine full_of_indep hR (by rw [List.length_map, hl]) fun u hu => ?_
  refine rows_indep hN hs hlt (M := ent (sel.map fun i => (rowsM d r).getD i [])) ?_ ?_ u hu
  · intro i j hi hj hsi
    rw [he i j hi, ent_rows hN (hlt i hi) hj, if_pos hsi]
  · intro i j hi hj hsi
    rw [he i j hi, ent_rows hN (hlt i hi) hj, if_neg (by omega)]
end Go.Proofs.Ytlbomlolomcolaa.Alg
