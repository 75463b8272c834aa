/- Plain: what Invert returns is the inverse, and a matrix has one exactly if its rank is full. -/
import Derived.Test.YtlbomlolomcolaaAlg2
import Derived.Test.YtlbomlolomcolaaProd2
namespace Go.Proofs.Ytlbomlolomcolaa.Alg
open Go.Proofs.Ytlbomlolomcolaa

theorem ent_val {n : Nat} {m : List (List Nat)} (hm : Rect n m) {i : Nat} (hi : i < m.length) (j : Nat) : (ent m i j).val = (m.getD i []).getD j 0 := tg_val ((hm.get hi).2.getD j)

/-- Two matrices with the same elements are the same. -/
theorem ent_ext {n c : Nat} {a b : List (List Nat)} (ha : Rect c a) (hb : Rect c b) (la : a.length = n) (lb : b.length = n) (h : Eqv n c (ent a) (ent b)) : a = b := by
  apply List.ext_getElem?
  intro i
  by_cases hi : i < n
  · have h1 : a[i]? = some (a.getD i []) := getD_some (by omega)
    have h2 : b[i]? = some (b.getD i []) := getD_some (by omega)
    rw [h1, h2]
    congr 1
    have ra := ha.get (i := i) (by omega)
    have rb := hb.get (i := i) (by omega)
    apply List.ext_getElem?
    intro j
    by_cases hj : j < c
    · rw [getD_some (l := a.getD i []) (d := 0) (by omega), getD_some (l := b.getD i []) (d := 0) (by omega)]
      have := congrArg Fin.val (h i j hi hj)
      rw [ent_val ha (by omega), ent_val hb (by omega)] at this
      rw [this]
    · rw [List.getElem?_eq_none (by omega), List.getElem?_eq_none (by omega)]
  · rw [List.getElem?_eq_none (by omega), List.getElem?_eq_none (by omega)]

theorem ent_zip2 {n k : Nat} {m o : List (List Nat)} (hm : Rect n m) (h : m.length = o.length) {i : Nat} (hi : i < m.length) (j : Nat) : ent (zip2 m o) i j = if j < n then ent m i j else ent o i (j - n) := by
  have _ := k
  unfold ent
  rw [zip2_getD h]
  have hl := (hm.get hi).1
  by_cases hj : j < n
  · rw [if_pos hj, getD_append_left (by omega)]
  · rw [if_neg hj, List.getD_eq_getElem?_getD, List.getElem?_append_right (by omega), hl, ← List.getD_eq_getElem?_getD]

theorem ent_id {n i : Nat} (hi : i < n) (j : Nat) (hj : j < n) : ent (idM n) i j = one i j := by
  have h1 : (idM n).getD i [] = unitVec n i := getD_get (by simp [idM, hi])
  unfold ent one
  rw [h1]
  unfold unitVec
  rw [getD_set (by simpa using hi)]
  by_cases h : i = j
  · rw [if_pos h.symm, if_pos h]; rfl
  · rw [if_neg fun e => h e.symm, if_neg h, List.getD_eq_getElem?_getD, List.getElem?_replicate]
    rw [if_pos hj]; rfl

/-- What the reduction of a square matrix beside the unit matrix gives. -/
theorem inv_data {n : Nat} {m : List (List Nat)} (hm : Rect n m) (hl : m.length = n) :
    ∃ (P : List (List Nat)) (B : Mt), Rect n P ∧ P.length = n ∧ redTo (wideM m) n = (zip2 (redTo m n).1 P, (redTo m n).2) ∧ Eqv n n (mul n (ent P) B) one ∧ Eqv n n (mul n B (ent P)) one ∧ Eqv n n (ent (redTo m n).1) (mul n (ent P) (ent m)) := by
  have hid := idM_rect n
  have hidl := idM_length n
  have hwide : zip2 m (idM n) = wideM m := by rw [← hl]; exact zip2_id m
  obtain ⟨P, e, hP, hPl⟩ := redTo_zip2 hm hid (by rw [hl, hidl]) n (Nat.le_refl _)
  rw [hwide] at e
  have hWr : Rect (n + n) (wideM m) := by rw [← hwide]; exact zip2_rect hm hid
  have hWl : (wideM m).length = n := by rw [wideM_length, hl]
  obtain ⟨A, B, h1, h2, h3⟩ := redTo_re hWr n
  rw [hWl] at h1 h2 h3
  rw [e, ← hwide] at h3
  have hML : (redTo m n).1.length = n := by rw [redTo_length, hl]
  have hMR := redTo_rect hm n
  have hPA : Eqv n n (ent P) A := by
    intro i j hi hj
    have := h3 i (n + j) hi (by omega)
    rw [ent_zip2 (k := n) hMR (by rw [hML, hPl, hl]) (by omega), if_neg (by omega), show n + j - n = j by omega] at this
    rw [this]
    have e2 : mul n A (ent (zip2 m (idM n))) i (n + j) = mul n A one i j := S_congr fun k hk => by
      rw [ent_zip2 (k := n) hm (by rw [hl, hidl]) (by omega), if_neg (by omega), show n + j - n = j by omega, ent_id hk j hj]
    rw [e2, mul_one hj]
  have hMA : Eqv n n (ent (redTo m n).1) (mul n A (ent m)) := by
    intro i j hi hj
    have := h3 i j hi (by omega)
    rw [ent_zip2 (k := n) hMR (by rw [hML, hPl, hl]) (by omega), if_pos hj] at this
    rw [this]
    exact S_congr fun k hk => by rw [ent_zip2 (k := n) hm (by rw [hl, hidl]) (by omega), if_pos hj]
  exact ⟨P, B, hP, by rw [hPl, hl], e, (hPA.mul (Eqv.refl _ _ _)).trans h1, ((Eqv.refl _ _ _).mul hPA).trans h2, hMA.trans (hPA.symm.mul (Eqv.refl _ _ _))⟩

/-- Full rank: the second matrix is the inverse, on both sides. -/
theorem inv_full {n : Nat} {m : List (List Nat)} (hm : Rect n m) (hl : m.length = n) (hr : (redTo m n).2 = n) :
    ∃ P, Rect n P ∧ P.length = n ∧ (redTo (wideM m) n).1.map (List.drop n) = P ∧ Eqv n n (mul n (ent P) (ent m)) one ∧ Eqv n n (mul n (ent m) (ent P)) one := by
  obtain ⟨P, B, hP, hPl, e, h1, h2, h3⟩ := inv_data hm hl
  have hu : Eqv n n (mul n (ent P) (ent m)) one := fun i j hi hj => by rw [← h3 i j hi hj]; exact redTo_units hm n (Nat.le_refl _) hr i j (by omega) hj
  have hB : Eqv n n (ent m) B := by
    intro i j hi hj
    have e1 : mul n B (mul n (ent P) (ent m)) i j = B i j := by
      rw [mul_congr (A' := B) (B' := one) (fun _ _ => rfl) (fun k hk => hu k j hk hj), mul_one hj]
    rw [← mul_assoc, mul_congr (A' := one) (B' := ent m) (fun k hk => h2 i k hi hk) (fun _ _ => rfl), one_mul hi] at e1
    exact e1
  refine ⟨P, hP, hPl, ?_, hu, ?_⟩
  · rw [e]
    exact zip2_drop (redTo_rect hm n) (by rw [redTo_length, hl, hPl])
  · exact (hB.mul (Eqv.refl _ _ _)).trans h2

/-- A right inverse makes the rank full. -/
theorem full_of_right {n : Nat} {m : List (List Nat)} (hm : Rect n m) (hl : m.length = n) {Y : Mt} (hY : Eqv n n (mul n (ent m) Y) one) : (redTo m n).2 = n := by
  obtain ⟨P, B, hP, hPl, e, h1, h2, h3⟩ := inv_data hm hl
  apply Classical.byContradiction
  intro hne
  have hle := redTo_rank m n
  rw [hl] at hle
  have hn : n - 1 < n := by omega
  have hz : ∀ j, j < n → ent (redTo m n).1 (n - 1) j = g0 := fun j hj => redTo_zeros hm n (Nat.le_refl _) (n - 1) j (by omega) (by omega) hj
  have hP0 : ∀ k, k < n → ent P (n - 1) k = g0 := by
    intro k hk
    have e1 : mul n (ent P) (mul n (ent m) Y) (n - 1) k = ent P (n - 1) k := by
      rw [mul_congr (A' := ent P) (B' := one) (fun _ _ => rfl) (fun l hlk => hY l k hlk hk), mul_one hk]
    rw [← e1, ← mul_assoc]
    exact S_zero fun l hlk => by rw [← h3 (n - 1) l hn hlk, hz l hlk, zero_gx]
  have := h1 (n - 1) (n - 1) hn hn
  rw [show mul n (ent P) B (n - 1) (n - 1) = g0 from S_zero fun l hlk => by rw [hP0 l hlk, zero_gx]] at this
  unfold one at this
  rw [if_pos rfl] at this
  exact g1_ne this.symm

/-- A matrix of given elements. -/
def lst (n : Nat) (A : Mt) : List (List Nat) := (List.range n).map fun i => (List.range n).map fun j => (A i j).val
theorem lst_rect (n : Nat) (A : Mt) : Rect n (lst n A) := by
  intro r hr
  obtain ⟨i, _, rfl⟩ := List.mem_map.1 hr
  refine ⟨by simp, fun x hx => ?_⟩
  obtain ⟨j, _, rfl⟩ := List.mem_map.1 hx
  exact (A i j).2
theorem lst_length (n : Nat) (A : Mt) : (lst n A).length = n := by simp [lst]
theorem lst_ent (n : Nat) (A : Mt) : Eqv n n (ent (lst n A)) A := by
  intro i j hi hj
  have h1 : (lst n A).getD i [] = (List.range n).map fun j => (A i j).val := getD_get (by simp [lst, hi])
  unfold ent
  rw [h1, show ((List.range n).map fun j => (A i j).val).getD j 0 = (A i j).val from getD_get (by simp [hj])]
  exact Fin.ext (tg_val (A i j).2)

/-- So does a left inverse. -/
theorem full_of_left {n : Nat} {m : List (List Nat)} (hm : Rect n m) (hl : m.length = n) {X : Mt} (hX : Eqv n n (mul n X (ent m)) one) : (redTo m n).2 = n := by
  obtain ⟨P, B, hP, hPl, e, h1, h2, h3⟩ := inv_data hm hl
  have hle := redTo_rank m n
  rw [hl] at hle
  apply Classical.byContradiction
  intro hne
  have hn : n - 1 < n := by omega
  -- m = B M
  have hBM : Eqv n n (mul n B (ent (redTo m n).1)) (ent m) := by
    intro i j hi hj
    rw [mul_congr (A' := B) (B' := mul n (ent P) (ent m)) (fun _ _ => rfl) (fun k hk => h3 k j hk hj), ← mul_assoc, mul_congr (A' := one) (B' := ent m) (fun k hk => h2 i k hi hk) (fun _ _ => rfl), one_mul hi]
  have hS : Eqv n n (mul n (ent (lst n (mul n X B))) (ent (redTo m n).1)) one := by
    intro i j hi hj
    rw [mul_congr (A' := mul n X B) (B' := ent (redTo m n).1) (fun k hk => lst_ent n _ i k hi hk) (fun _ _ => rfl), mul_assoc, mul_congr (A' := X) (B' := ent m) (fun _ _ => rfl) (fun k hk => hBM k j hk hj)]
    exact hX i j hi hj
  have hSf := full_of_right (lst_rect n _) (lst_length n _) hS
  obtain ⟨T, hT, hTl, _, t1, t2⟩ := inv_full (lst_rect n _) (lst_length n _) hSf
  -- M = T, so M S = 1, and M has a row of zeros
  have hMT : Eqv n n (ent (redTo m n).1) (ent T) := by
    intro i j hi hj
    have e1 : mul n (ent T) (mul n (ent (lst n (mul n X B))) (ent (redTo m n).1)) i j = ent T i j := by
      rw [mul_congr (A' := ent T) (B' := one) (fun _ _ => rfl) (fun k hk => hS k j hk hj), mul_one hj]
    rw [← mul_assoc, mul_congr (A' := one) (B' := ent (redTo m n).1) (fun k hk => t1 i k hi hk) (fun _ _ => rfl), one_mul hi] at e1
    exact e1
  have hz : ∀ j, j < n → ent T (n - 1) j = g0 := fun j hj => by rw [← hMT _ _ hn hj]; exact redTo_zeros hm n (Nat.le_refl _) (n - 1) j (by omega) (by omega) hj
  have := t1 (n - 1) (n - 1) hn hn
  rw [show mul n (ent T) (ent (lst n (mul n X B))) (n - 1) (n - 1) = g0 from S_zero fun l hlk => by rw [hz l hlk, zero_gx]] at this
  unfold one at this
  rw [if_pos rfl] at this
  exact g1_ne this.symm

theorem ent_prod {n c : Nat} {a b : List (List Nat)} (ha : Rect n a) (hb : Rect c b) (lb : b.length = n) {i j : Nat} (hi : i < a.length) (hj : j < c) (hc : (b.getD 0 []).length = c) : ent (prodM a b) i j = mul n (ent a) (ent b) i j := by
  have h1 : (prodM a b).getD i [] = prTo (a.getD i []) b c b.length := getD_get (by rw [prodM_get (getD_some (d := []) hi), hc])
  have ra := ha.get hi
  have key : ∀ k, k ≤ b.length → tg (acc (a.getD i []) b j k) = S k fun l => gx (ent a i l) (ent b l j) := by
    intro k
    induction k with
    | zero => intro _; rfl
    | succ k ih =>
      intro hk
      have rb := hb.get (i := k) (by omega)
      show tg (acc _ _ _ k ^^^ _) = ga (S k _) _
      rw [tg_xor (acc_lt _ _ _ _) (Gf.gm_lt _ _), ih (by omega), tg_gm (ra.2.getD k) (rb.2.getD j)]
      rfl
  show tg (((prodM a b).getD i []).getD j 0) = _
  rw [h1, getD_get (prTo_acc hb hj b.length (Nat.le_refl _)), key b.length (Nat.le_refl _), lb]
  rfl

end Go.Proofs.Ytlbomlolomcolaa.Alg
