/- Plain: ranks, inverses and products of square matrices, as the law GaloisReverses asks. -/
import Derived.Test.YtlbomlolomcolaaAlg3
import Derived.Test.YtlbomlolomcolaaLawD
namespace Go.Proofs.Ytlbomlolomcolaa
open Alg

/-- A square matrix of bytes. -/
structure Sq (n : Nat) (m : List (List Nat)) : Prop where
  rect : Rect n m
  len : m.length = n
  lo : 1 ≤ n
  hi : n ≤ 64

theorem Sq.row0 {n : Nat} {m : List (List Nat)} (h : Sq n m) : (m.getD 0 []).length = n := (h.rect.get (i := 0) (by rw [h.len]; exact h.lo)).1
theorem Sq.isMat {n : Nat} {m : List (List Nat)} (h : Sq n m) : isMat m := by
  refine ⟨by rw [h.len]; exact h.lo, by rw [h.len]; exact h.hi, by rw [h.row0]; exact h.lo, by rw [h.row0]; exact h.hi, fun r hr => ?_⟩
  rw [h.row0]; exact (h.rect r hr).1
theorem Sq.bytM {n : Nat} {m : List (List Nat)} (h : Sq n m) : BytM m := fun r hr => (h.rect r hr).2
theorem Sq.rankErr {n : Nat} {m : List (List Nat)} (h : Sq n m) : rankErr m = 0 := if_pos h.isMat
theorem Sq.rankOf {n : Nat} {m : List (List Nat)} (h : Sq n m) : rankOf m = (redTo m n).2 := by
  unfold Go.Proofs.Ytlbomlolomcolaa.rankOf; rw [if_pos h.isMat, h.row0]
theorem Sq.rank_le {n : Nat} {m : List (List Nat)} (h : Sq n m) : (redTo m n).2 ≤ n := by have := redTo_rank m n; rw [h.len] at this; exact this
theorem Sq.wide {n : Nat} {m : List (List Nat)} (h : Sq n m) : (redTo (wideM m) n).2 = (redTo m n).2 := by
  obtain ⟨P, B, _, _, e, _⟩ := inv_data h.rect h.len
  rw [e]
theorem Sq.invErr {n : Nat} {m : List (List Nat)} (h : Sq n m) : invErr m = if (redTo m n).2 = n then 0 else 17 := by
  unfold Go.Proofs.Ytlbomlolomcolaa.invErr
  rw [if_pos h.isMat, if_pos (by rw [h.row0, h.len]), h.len, h.wide]
  have := h.rank_le
  by_cases hr : (redTo m n).2 = n
  · rw [if_neg (by omega), if_pos hr]
  · rw [if_pos (by omega), if_neg hr]
theorem Sq.inv_zero {n : Nat} {m : List (List Nat)} (h : Sq n m) : Go.Proofs.Ytlbomlolomcolaa.invErr m = 0 ↔ (redTo m n).2 = n := by
  rw [h.invErr]
  by_cases hr : (redTo m n).2 = n
  · rw [if_pos hr]; exact ⟨fun _ => hr, fun _ => rfl⟩
  · rw [if_neg hr]; exact ⟨fun e => absurd e (by decide), fun e => absurd e hr⟩

/-- The inverse. -/
theorem Sq.inv {n : Nat} {m : List (List Nat)} (h : Sq n m) (h0 : Go.Proofs.Ytlbomlolomcolaa.invErr m = 0) : Sq n (invRows m) ∧ Eqv n n (mul n (ent (invRows m)) (ent m)) one ∧ Eqv n n (mul n (ent m) (ent (invRows m))) one := by
  obtain ⟨P, hP, hPl, e, h1, h2⟩ := inv_full h.rect h.len (h.inv_zero.1 h0)
  have hr : invRows m = P := by unfold invRows; rw [if_pos h0, h.len]; exact e
  rw [hr]
  exact ⟨⟨hP, hPl, h.lo, h.hi⟩, h1, h2⟩

theorem Sq.prodErr {n : Nat} {a b : List (List Nat)} (ha : Sq n a) (hb : Sq n b) : prodErr a b = 0 := by
  unfold Go.Proofs.Ytlbomlolomcolaa.prodErr; rw [if_pos ⟨ha.isMat, hb.isMat⟩, if_pos (by rw [ha.row0, hb.len])]
theorem Sq.prodRows {n : Nat} {a b : List (List Nat)} (ha : Sq n a) (hb : Sq n b) : prodRows a b = prodM a b := by
  unfold Go.Proofs.Ytlbomlolomcolaa.prodRows; rw [if_pos (ha.prodErr hb)]
theorem Sq.prod {n : Nat} {a b : List (List Nat)} (ha : Sq n a) (hb : Sq n b) : Sq n (prodM a b) := by
  refine ⟨fun r hr => ?_, by rw [prodM_length, ha.len], ha.lo, ha.hi⟩
  obtain ⟨row, _, rfl⟩ := List.mem_map.1 hr
  have hb0 : Rect (b.getD 0 []).length b := by rw [hb.row0]; exact hb.rect
  have := prTo_ok (row := row) hb0 b.length (Nat.le_refl _)
  rw [hb.row0] at this ⊢
  exact this
theorem Sq.prod_ent {n : Nat} {a b : List (List Nat)} (ha : Sq n a) (hb : Sq n b) : Eqv n n (ent (prodM a b)) (mul n (ent a) (ent b)) := fun i j hi hj =>
  ent_prod ha.rect hb.rect hb.len (by rw [ha.len]; exact hi) hj hb.row0

theorem Sq.idM {n : Nat} (h1 : 1 ≤ n) (h2 : n ≤ 64) : Sq n (idM n) := ⟨idM_rect n, idM_length n, h1, h2⟩
theorem Sq.ext {n : Nat} {a b : List (List Nat)} (ha : Sq n a) (hb : Sq n b) (h : Eqv n n (ent a) (ent b)) : a = b := ent_ext ha.rect hb.rect ha.len hb.len h

/-- A product has an inverse exactly if both factors have one. -/
theorem Sq.prod_inv {n : Nat} {a b : List (List Nat)} (ha : Sq n a) (hb : Sq n b) : Go.Proofs.Ytlbomlolomcolaa.invErr (prodM a b) = 0 ↔ (Go.Proofs.Ytlbomlolomcolaa.invErr a = 0 ∧ Go.Proofs.Ytlbomlolomcolaa.invErr b = 0) := by
  constructor
  · intro h
    obtain ⟨hz, z1, z2⟩ := (ha.prod hb).inv h
    have hp := ha.prod_ent hb
    constructor
    · rw [ha.inv_zero]
      refine full_of_right ha.rect ha.len (Y := mul n (ent b) (ent (invRows (prodM a b)))) fun i j hi hj => ?_
      rw [← mul_assoc, mul_congr (A' := ent (prodM a b)) (B' := ent (invRows (prodM a b))) (fun k hk => (hp i k hi hk).symm) (fun _ _ => rfl)]
      exact z2 i j hi hj
    · rw [hb.inv_zero]
      refine full_of_left hb.rect hb.len (X := mul n (ent (invRows (prodM a b))) (ent a)) fun i j hi hj => ?_
      rw [mul_assoc, mul_congr (A' := ent (invRows (prodM a b))) (B' := ent (prodM a b)) (fun _ _ => rfl) (fun k hk => (hp k j hk hj).symm)]
      exact z1 i j hi hj
  · rintro ⟨h1, h2⟩
    obtain ⟨hx, x1, x2⟩ := ha.inv h1
    obtain ⟨hy, y1, y2⟩ := hb.inv h2
    rw [(ha.prod hb).inv_zero]
    refine full_of_right (ha.prod hb).rect (ha.prod hb).len (Y := mul n (ent (invRows b)) (ent (invRows a))) fun i j hi hj => ?_
    rw [mul_congr (A' := mul n (ent a) (ent b)) (B' := mul n (ent (invRows b)) (ent (invRows a))) (fun k hk => ha.prod_ent hb i k hi hk) (fun _ _ => rfl), mul_assoc]
    have e1 : ∀ k, k < n → mul n (ent b) (mul n (ent (invRows b)) (ent (invRows a))) k j = ent (invRows a) k j := fun k hk => by
      rw [← mul_assoc, mul_congr (A' := one) (B' := ent (invRows a)) (fun l hl => y2 k l hk hl) (fun _ _ => rfl), one_mul hk]
    rw [mul_congr (A' := ent a) (B' := ent (invRows a)) (fun _ _ => rfl) e1]
    exact x2 i j hi hj

theorem Sq.inv_left {n : Nat} {a : List (List Nat)} (ha : Sq n a) (h : Go.Proofs.Ytlbomlolomcolaa.invErr a = 0) : prodM (invRows a) a = Go.Proofs.Ytlbomlolomcolaa.idM n := by
  obtain ⟨hx, x1, x2⟩ := ha.inv h
  exact (hx.prod ha).ext (Sq.idM ha.lo ha.hi) fun i j hi hj => by rw [hx.prod_ent ha i j hi hj, x1 i j hi hj, ent_id hi j hj]
theorem Sq.inv_right {n : Nat} {a : List (List Nat)} (ha : Sq n a) (h : Go.Proofs.Ytlbomlolomcolaa.invErr a = 0) : prodM a (invRows a) = Go.Proofs.Ytlbomlolomcolaa.idM n := by
  obtain ⟨hx, x1, x2⟩ := ha.inv h
  exact (ha.prod hx).ext (Sq.idM ha.lo ha.hi) fun i j hi hj => by rw [ha.prod_ent hx i j hi hj, x2 i j hi hj, ent_id hi j hj]

theorem Sq.inv_prod {n : Nat} {a b : List (List Nat)} (ha : Sq n a) (hb : Sq n b) (h : Go.Proofs.Ytlbomlolomcolaa.invErr (prodM a b) = 0) : invRows (prodM a b) = prodM (invRows b) (invRows a) := by
  obtain ⟨h1, h2⟩ := (ha.prod_inv hb).1 h
  obtain ⟨hx, x1, x2⟩ := ha.inv h1
  obtain ⟨hy, y1, y2⟩ := hb.inv h2
  obtain ⟨hz, z1, z2⟩ := (ha.prod hb).inv h
  refine hz.ext (hy.prod hx) fun i j hi hj => ?_
  rw [hy.prod_ent hx i j hi hj]
  -- z = z (ab) (yx) = yx
  have e0 : Eqv n n (mul n (ent (prodM a b)) (mul n (ent (invRows b)) (ent (invRows a)))) one := fun i j hi hj => by
    rw [mul_congr (A' := mul n (ent a) (ent b)) (B' := mul n (ent (invRows b)) (ent (invRows a))) (fun k hk => ha.prod_ent hb i k hi hk) (fun _ _ => rfl), mul_assoc]
    have e1 : ∀ k, k < n → mul n (ent b) (mul n (ent (invRows b)) (ent (invRows a))) k j = ent (invRows a) k j := fun k hk => by
      rw [← mul_assoc, mul_congr (A' := one) (B' := ent (invRows a)) (fun l hl => y2 k l hk hl) (fun _ _ => rfl), one_mul hk]
    rw [mul_congr (A' := ent a) (B' := ent (invRows a)) (fun _ _ => rfl) e1]
    exact x2 i j hi hj
  have e2 : mul n (ent (invRows (prodM a b))) (mul n (ent (prodM a b)) (mul n (ent (invRows b)) (ent (invRows a)))) i j = ent (invRows (prodM a b)) i j := by
    rw [mul_congr (A' := ent (invRows (prodM a b))) (B' := one) (fun _ _ => rfl) (fun k hk => e0 k j hk hj), mul_one hj]
  rw [← e2, ← mul_assoc, mul_congr (A' := one) (B' := mul n (ent (invRows b)) (ent (invRows a))) (fun k hk => z1 i k hi hk) (fun _ _ => rfl), one_mul hi]

end Go.Proofs.Ytlbomlolomcolaa
