/- Plain: every square part of a Cauchy matrix has full rank. No program in sight. -/
import Derived.Test.YtlbomlolomcolaaAlg3
import Derived.Test.YtlbomlolomcolaaCau
namespace Go.Proofs.Ytlbomlolomcolaa.Alg
open Go.Proofs.Ytlbomlolomcolaa

/-- If no combination of the rows but the empty one vanishes, the rank is full. -/
theorem full_of_indep {n : Nat} {m : List (List Nat)} (hm : Rect n m) (hl : m.length = n) (h : ∀ u : Nat → G, (∀ j, j < n → S n (fun i => gx (u i) (ent m i j)) = g0) → ∀ i, i < n → u i = g0) : (redTo m n).2 = n := by
  obtain ⟨P, B, hP, hPl, e, h1, h2, h3⟩ := inv_data hm hl
  apply Classical.byContradiction
  intro hne
  have hle := redTo_rank m n
  rw [hl] at hle
  have hn : n - 1 < n := by omega
  have hz : ∀ j, j < n → ent (redTo m n).1 (n - 1) j = g0 := fun j hj => redTo_zeros hm n (Nat.le_refl _) (n - 1) j (by omega) (by omega) hj
  have hP0 : ∀ k, k < n → ent P (n - 1) k = g0 := h (fun k => ent P (n - 1) k) fun j hj => by
    have := h3 (n - 1) j hn hj
    rw [hz j hj] at this
    exact this.symm
  have := h1 (n - 1) (n - 1) hn hn
  rw [show mul n (ent P) B (n - 1) (n - 1) = g0 from S_zero fun l hlk => by rw [hP0 l hlk, zero_gx]] at this
  unfold one at this
  rw [if_pos rfl] at this
  exact g1_ne this.symm

theorem ga_cancel (a b c : G) : ga (ga a b) (ga c b) = ga a c := by rw [ga_swap, ga_self, ga_zero]

/-- (c + a)/a + (c + b)/b = (c/b)(a + b)/a. -/
theorem frac_sum {a b c : G} (ha : a ≠ g0) (hb : b ≠ g0) : ga (gx (ga c a) (gv a)) (gx (ga c b) (gv b)) = gx (gx (gx c (gv b)) (gv a)) (ga a b) := by
  rw [ga_gx, ga_gx, gx_gv ha, gx_gv hb, ga_cancel, gx_ga, gx_assoc (gx c (gv b)), gv_gx ha, gx_one, gx_assoc (gx c (gv b)), gx_comm (gv a) b, ← gx_assoc, gx_assoc c, gv_gx hb, gx_one, ga_comm]

theorem cauchy_indep (s : Nat) : ∀ (x y u : Nat → G), (∀ i j, i < s → j < s → x i = x j → i = j) → (∀ i j, i < s → j < s → y i = y j → i = j) → (∀ i j, i < s → j < s → ga (x i) (y j) ≠ g0) →
    (∀ j, j < s → S s (fun i => gx (u i) (gv (ga (x i) (y j)))) = g0) → ∀ i, i < s → u i = g0 := by
  induction s with
  | zero => intro x y u _ _ _ _ i hi; omega
  | succ s ih =>
    intro x y u hx hy hxy h
    have key : ∀ i, i < s → u i = g0 := by
      intro i hi
      have hu := ih x y (fun i => gx (u i) (gx (ga (x s) (x i)) (gv (ga (x i) (y s))))) (fun i j hi hj => hx i j (by omega) (by omega)) (fun i j hi hj => hy i j (by omega) (by omega)) (fun i j hi hj => hxy i j (by omega) (by omega)) (fun j hj => by
        have e1 := h j (by omega)
        have e2 := h s (by omega)
        have e1' : ga (S s fun i => gx (u i) (gv (ga (x i) (y j)))) (gx (u s) (gv (ga (x s) (y j)))) = g0 := e1
        have e2' : ga (S s fun i => gx (u i) (gv (ga (x i) (y s)))) (gx (u s) (gv (ga (x s) (y s)))) = g0 := e2
        have nj := hxy s j (by omega) (by omega)
        have ns := hxy s s (by omega) (by omega)
        -- multiply
        have m1 : ga (S s fun i => gx (gx (u i) (gv (ga (x i) (y j)))) (ga (x s) (y j))) (u s) = g0 := by
          have := congrArg (fun t => gx t (ga (x s) (y j))) e1'
          simp only [zero_gx, ga_gx, S_right] at this
          rw [gx_assoc (u s), gv_gx nj, gx_one] at this
          exact this
        have m2 : ga (S s fun i => gx (gx (u i) (gv (ga (x i) (y s)))) (ga (x s) (y s))) (u s) = g0 := by
          have := congrArg (fun t => gx t (ga (x s) (y s))) e2'
          simp only [zero_gx, ga_gx, S_right] at this
          rw [gx_assoc (u s), gv_gx ns, gx_one] at this
          exact this
        have m3 : S s (fun i => ga (gx (gx (u i) (gv (ga (x i) (y j)))) (ga (x s) (y j))) (gx (gx (u i) (gv (ga (x i) (y s)))) (ga (x s) (y s)))) = g0 := by
          rw [S_ga]
          have := ga_cancel (S s fun i => gx (gx (u i) (gv (ga (x i) (y j)))) (ga (x s) (y j))) (u s) (S s fun i => gx (gx (u i) (gv (ga (x i) (y s)))) (ga (x s) (y s)))
          rw [m1, m2, ga_zero] at this
          exact this.symm
        have hjs : ga (y j) (y s) ≠ g0 := fun e => by have := hy j s (by omega) (by omega) (ga_eq_zero e); omega
        have m4 : gx (S s fun i => gx (gx (u i) (gx (ga (x s) (x i)) (gv (ga (x i) (y s))))) (gv (ga (x i) (y j)))) (ga (y j) (y s)) = g0 := by
          rw [S_right, ← m3]
          refine S_congr fun i hi => ?_
          have na := hxy i j (by omega) (by omega)
          have nb := hxy i s (by omega) (by omega)
          have f := frac_sum (a := ga (x i) (y j)) (b := ga (x i) (y s)) (c := ga (x s) (x i)) na nb
          have r1 : ga (ga (x s) (x i)) (ga (x i) (y j)) = ga (x s) (y j) := by rw [ga_assoc, ← ga_assoc (x i), ga_self, zero_ga]
          have r2 : ga (ga (x s) (x i)) (ga (x i) (y s)) = ga (x s) (y s) := by rw [ga_assoc, ← ga_assoc (x i), ga_self, zero_ga]
          have r3 : ga (ga (x i) (y j)) (ga (x i) (y s)) = ga (y j) (y s) := by rw [ga_swap, ga_self, zero_ga]
          rw [r1, r2, r3] at f
          rw [gx_assoc (u i) (gv (ga (x i) (y j))), gx_assoc (u i) (gv (ga (x i) (y s))), ← gx_ga, gx_comm (gv (ga (x i) (y j))), gx_comm (gv (ga (x i) (y s))), f]
          rw [gx_assoc (u i), gx_assoc (u i)]
        exact gx_eq_zero m4 hjs) i hi
      have n1 : gx (ga (x s) (x i)) (gv (ga (x i) (y s))) ≠ g0 := fun e => by
        have := ga_eq_zero (gx_eq_zero e (gv_ne _))
        have := hx s i (by omega) (by omega) this
        omega
      exact gx_eq_zero hu n1
    intro i hi
    by_cases his : i < s
    · exact key i his
    · have : i = s := by omega
      subst this
      have e2 := h i (by omega)
      have e2' : ga (S i fun k => gx (u k) (gv (ga (x k) (y i)))) (gx (u i) (gv (ga (x i) (y i)))) = g0 := e2
      rw [S_zero (fun k hk => by rw [key k hk, zero_gx]), zero_ga] at e2'
      exact gx_eq_zero e2' (gv_ne _)

/-- The part of the Cauchy matrix with n rows at the rows is and the columns ks. -/
def partM (n : Nat) (is ks : List Nat) : List (List Nat) := is.map fun i => ks.map fun k => Gf.gi (i ^^^ (n + k))

theorem partM_length (n : Nat) (is ks : List Nat) : (partM n is ks).length = is.length := by simp [partM]
theorem partM_rect (n : Nat) (is ks : List Nat) : Rect ks.length (partM n is ks) := by
  intro r hr
  obtain ⟨i, _, rfl⟩ := List.mem_map.1 hr
  refine ⟨by simp, fun x hx => ?_⟩
  obtain ⟨k, _, rfl⟩ := List.mem_map.1 hx
  exact Gf.gi_lt _

theorem nodup_get {l : List Nat} (h : l.Nodup) {i j : Nat} (hi : i < l.length) (hj : j < l.length) (e : l.getD i 0 = l.getD j 0) : i = j := by
  rw [List.getD_eq_getElem?_getD, List.getD_eq_getElem?_getD, List.getElem?_eq_getElem hi, List.getElem?_eq_getElem hj] at e
  simp only [Option.getD_some] at e
  have hp : List.Pairwise (· ≠ ·) l := h
  rw [List.pairwise_iff_getElem] at hp
  rcases Nat.lt_trichotomy i j with hlt | rfl | hgt
  · exact absurd e (hp i j hi hj hlt)
  · rfl
  · exact absurd e.symm (hp j i hj hi hgt)

theorem part_full {n m : Nat} {is ks : List Nat} (hn : n ≤ 64) (hm : m ≤ 64) (hl : is.length = ks.length) (hi : ∀ i ∈ is, i < n) (hk : ∀ k ∈ ks, k < m) (di : is.Nodup) (dk : ks.Nodup) : (redTo (partM n is ks) is.length).2 = is.length := by
  have hR := partM_rect n is ks
  rw [← hl] at hR
  have hi' : ∀ i, i < is.length → is.getD i 0 < n := fun i h => by
    rw [List.getD_eq_getElem?_getD, List.getElem?_eq_getElem h]; exact hi _ (List.getElem_mem h)
  have hk' : ∀ i, i < is.length → ks.getD i 0 < m := fun i h => by
    rw [List.getD_eq_getElem?_getD, List.getElem?_eq_getElem (by omega)]; exact hk _ (List.getElem_mem _)
  have he : ∀ i j, i < is.length → j < is.length → ent (partM n is ks) i j = gv (ga (tg (is.getD i 0)) (tg (n + ks.getD j 0))) := by
    intro i j h1 h2
    have b1 := hi' i h1
    have b2 := hk' j h2
    have : ((partM n is ks).getD i []).getD j 0 = Gf.gi (is.getD i 0 ^^^ (n + ks.getD j 0)) := by
      unfold partM
      rw [List.getD_eq_getElem?_getD, List.getD_eq_getElem?_getD, List.getElem?_map, List.getElem?_eq_getElem h1]
      simp only [Option.map_some, Option.getD_some, List.getElem?_map]
      rw [List.getElem?_eq_getElem (show j < ks.length by omega)]
      simp only [Option.map_some, Option.getD_some]
      rw [List.getD_eq_getElem?_getD, List.getD_eq_getElem?_getD, List.getElem?_eq_getElem h1, List.getElem?_eq_getElem (show j < ks.length by omega)]
      rfl
    unfold ent
    rw [this, tg_gi (Gf.xor_lt (by omega) (by omega)), tg_xor (by omega) (by omega)]
  refine full_of_indep hR (partM_length n is ks) fun u hu => ?_
  refine cauchy_indep is.length (fun i => tg (is.getD i 0)) (fun j => tg (n + ks.getD j 0)) u ?_ ?_ ?_ fun j hj => ?_
  · intro i j h1 h2 e
    exact nodup_get di h1 h2 (tg_inj (by have := hi' i h1; omega) (by have := hi' j h2; omega) e)
  · intro i j h1 h2 e
    have := tg_inj (by have := hk' i h1; omega) (by have := hk' j h2; omega) e
    exact nodup_get dk (by omega) (by omega) (by omega)
  · intro i j h1 h2 e
    have := tg_inj (by have := hi' i h1; omega) (by have := hk' j h2; omega) (ga_eq_zero e)
    have := hi' i h1
    omega
  · rw [← hu j hj]
    exact S_congr fun i h => by rw [he i j h hj]
end Go.Proofs.Ytlbomlolomcolaa.Alg
