/- Plain: what whole computes, in terms of matrices. No program in sight. -/
import Derived.Test.YtlbomlolomcolaaMds
import Derived.Test.YtlbomlolomcolaaPar9
namespace Go.Proofs.Ytlbomlolomcolaa
open Alg

theorem plen_out {parts : List (List Nat)} {k : Nat} (h : parts.length ≤ k) : plen parts k = 0 := by
  unfold plen; rw [List.getD_eq_getElem?_getD, List.getElem?_eq_none h]; rfl

theorem piTo_map (parts : List (List Nat)) (k : Nat) : (piTo parts k).map (·.1) = (List.range k).filter fun i => decide (1 ≤ plen parts i) := by
  induction k with
  | zero => rfl
  | succ k ih =>
    rw [List.range_succ, List.filter_append, ← ih]
    by_cases h : 1 ≤ plen parts k
    · have hk : k < parts.length := by
        by_cases hk : k < parts.length
        · exact hk
        · rw [plen_out (by omega)] at h; omega
      rw [piTo_yes ⟨hk, h⟩, List.map_append]
      simp [h]
    · rw [piTo_no h]
      simp [h]
theorem pidx_eq (parts : List (List Nat)) : pidx parts = (List.range parts.length).filter fun i => decide (1 ≤ plen parts i) := piTo_map parts parts.length

theorem pidx_mem {parts : List (List Nat)} {i : Nat} : i ∈ pidx parts ↔ i < parts.length ∧ 1 ≤ plen parts i := by
  rw [pidx_eq, List.mem_filter, List.mem_range, decide_eq_true_iff]
theorem pidx_lt (parts : List (List Nat)) : (pidx parts).Pairwise (· < ·) := by
  rw [pidx_eq]; exact List.pairwise_lt_range.filter _

theorem take_mono {l : List Nat} (h : l.Pairwise (· < ·)) {d : Nat} (hd : d ≤ l.length) : ∀ i j, i < j → j < d → (l.take d).getD i 0 < (l.take d).getD j 0 := by
  intro i j hij hj
  have h' : (l.take d).Pairwise (· < ·) := h.sublist (List.take_sublist _ _)
  have hlen : (l.take d).length = d := by rw [List.length_take]; omega
  rw [List.getD_eq_getElem?_getD, List.getD_eq_getElem?_getD, List.getElem?_eq_getElem (by omega), List.getElem?_eq_getElem (by omega)]
  exact List.pairwise_iff_getElem.1 h' i j (by omega) (by omega) hij

theorem inv_sel {parts : List (List Nat)} {d : Nat} (h1 : 1 ≤ d) (h2 : d ≤ parts.length) (h3 : parts.length ≤ 64) (hd : d ≤ (pidx parts).length) : invErr (selM parts d) = 0 := by
  have hsq := selM_sq h1 h2 h3 hd
  refine hsq.inv_zero.2 (sel_full (r := parts.length - d) (by omega) (by rw [List.length_take]; omega) (take_mono (pidx_lt parts) hd) (fun i hi => ?_) hsq.rect)
  have hm : ((pidx parts).take d).getD i 0 ∈ pidx parts := by
    refine List.mem_of_mem_take (i := d) (List.mem_of_getElem? (i := i) ?_)
    exact getD_some (by rw [List.length_take]; omega)
  have := (pidx_mem.1 hm).1
  omega

theorem wholeErr_eq {parts : List (List Nat)} {d : Nat} (h1 : 1 ≤ d) (h2 : d ≤ parts.length) (h3 : parts.length ≤ 64) : wholeErr parts d = if (pidx parts).length < d then 26 else 0 := by
  unfold wholeErr
  by_cases h : (pidx parts).length < d
  · rw [if_pos h, if_pos h]
  · rw [if_neg h, if_neg h, inv_sel h1 h2 h3 (by omega)]

theorem row0_of {c : Nat} {b : List (List Nat)} (hb : Rect c b) (h : 1 ≤ b.length) : (b.getD 0 []).length = c := (hb.get (i := 0) (by omega)).1

theorem prod_assoc {n m c : Nat} {a b e : List (List Nat)} (ha : Rect n a) (hb : Rect m b) (lb : b.length = n) (he : Rect c e) (le : e.length = m) (h1 : 1 ≤ n) (h2 : 1 ≤ m) : prodM (prodM a b) e = prodM a (prodM b e) := by
  have hab : Rect m (prodM a b) := prodM_rect hb (by omega)
  have hbe : Rect c (prodM b e) := prodM_rect he (by omega)
  have lbe : (prodM b e).length = n := by rw [prodM_length, lb]
  refine ent_ext (n := a.length) (c := c) (prodM_rect he (by omega)) (prodM_rect hbe (by omega)) (by rw [prodM_length, prodM_length]) (prodM_length _ _) fun i j hi hj => ?_
  rw [ent_prod hab he le (by rw [prodM_length]; exact hi) hj (row0_of he (by omega)), ent_prod ha hbe lbe hi hj (row0_of hbe (by omega))]
  have e1 : mul m (ent (prodM a b)) (ent e) i j = mul m (mul n (ent a) (ent b)) (ent e) i j := mul_congr (fun k hk => ent_prod ha hb lb hi hk (row0_of hb (by omega))) (fun _ _ => rfl)
  have e2 : mul n (ent a) (ent (prodM b e)) i j = mul n (ent a) (mul m (ent b) (ent e)) i j := mul_congr (fun _ _ => rfl) (fun k hk => ent_prod hb he le (by omega) hj (row0_of he (by omega)))
  rw [e1, e2, mul_assoc]

theorem prod_id {d c : Nat} {D : List (List Nat)} (hD : Rect c D) (ld : D.length = d) (h1 : 1 ≤ d) : prodM (Go.Proofs.Ytlbomlolomcolaa.idM d) D = D := by
  refine ent_ext (n := d) (c := c) (prodM_rect hD (by omega)) hD (by rw [prodM_length, idM_length]) ld fun i j hi hj => ?_
  rw [ent_prod (idM_rect d) hD ld (by rw [idM_length]; exact hi) hj (row0_of hD (by omega))]
  rw [mul_congr (fun k hk => ent_id hi k hk) (fun _ _ => rfl), one_mul hi]

/-- The set of d data parts. -/
def setM (d r : Nat) (D : List (List Nat)) : List (List Nat) := prodM (rowsM d r) D
theorem setM_length (d r : Nat) (D : List (List Nat)) : (setM d r D).length = d + r := by unfold setM; rw [prodM_length, rowsM_length]
theorem setM_rect {d r c : Nat} {D : List (List Nat)} (hD : Rect c D) (ld : D.length = d) (h1 : 1 ≤ d) : Rect c (setM d r D) := prodM_rect hD (by omega)

theorem getD_prod {a b : List (List Nat)} {i : Nat} (h : i < a.length) : (prodM a b).getD i [] = prTo (a.getD i []) b (b.getD 0 []).length b.length := by
  rw [List.getD_eq_getElem?_getD, prodM_get (getD_some (d := []) h)]; rfl

/-- Enough parts of a set: the whole set. -/
theorem whole_set {parts D : List (List Nat)} {d r c : Nat} (hD : Rect c D) (ld : D.length = d) (h1 : 1 ≤ d) (h2 : d + r ≤ 64) (hl : parts.length = d + r) (hp : ∀ i, i < d + r → 1 ≤ plen parts i → parts.getD i [] = (setM d r D).getD i []) (hd : d ≤ (pidx parts).length) : wholeM parts d = setM d r D := by
  have hr : parts.length - d = r := by omega
  have hsq := selM_sq h1 (by omega) (by omega) hd
  have hi0 := inv_sel h1 (by omega) (by omega) hd
  have e1 : selP parts d = prodM (selM parts d) D := by
    unfold selP selM prodM
    rw [List.map_map]
    refine List.map_congr_left fun i hi => ?_
    have hm := pidx_mem.1 (List.mem_of_mem_take hi)
    rw [hp i (by omega) hm.2]
    unfold setM
    rw [getD_prod (by rw [rowsM_length]; omega), ← hr]
    rfl
  have hx := (hsq.inv hi0).1
  unfold wholeM
  rw [e1, ← prod_assoc hx.rect hsq.rect hsq.len hD ld h1 h1, hsq.inv_left hi0, prod_id hD ld h1, hr]
  rfl
end Go.Proofs.Ytlbomlolomcolaa
