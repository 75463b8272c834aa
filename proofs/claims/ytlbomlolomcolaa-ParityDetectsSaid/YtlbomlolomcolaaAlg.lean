/- Plain: the field with 256 elements as a type, finite sums, square matrices, row equivalence. No program in sight. -/
import Derived.Test.YtlbomlolomcolaaGf
namespace Go.Proofs.Ytlbomlolomcolaa.Alg
open Go.Proofs.Ytlbomlolomcolaa

abbrev G := Fin 256
def ga (a b : G) : G := ⟨a.val ^^^ b.val, Gf.xor_lt a.2 b.2⟩
def gx (a b : G) : G := ⟨Gf.gm a.val b.val, Gf.gm_lt _ _⟩
def g0 : G := ⟨0, by decide⟩
def g1 : G := ⟨1, by decide⟩
def gv (a : G) : G := ⟨Gf.gi a.val, Gf.gi_lt _⟩

theorem ga_comm (a b : G) : ga a b = ga b a := Fin.ext (Nat.xor_comm _ _)
theorem ga_assoc (a b c : G) : ga (ga a b) c = ga a (ga b c) := Fin.ext (Nat.xor_assoc _ _ _)
theorem ga_self (a : G) : ga a a = g0 := Fin.ext (Nat.xor_self _)
theorem ga_zero (a : G) : ga a g0 = a := Fin.ext (Nat.xor_zero _)
theorem zero_ga (a : G) : ga g0 a = a := Fin.ext (Nat.zero_xor _)
theorem gx_comm (a b : G) : gx a b = gx b a := Fin.ext (Gf.gm_comm _ _)
theorem gx_assoc (a b c : G) : gx (gx a b) c = gx a (gx b c) := Fin.ext (Gf.gm_assoc a.2 b.2 c.2)
theorem gx_ga (a b c : G) : gx a (ga b c) = ga (gx a b) (gx a c) := Fin.ext (Gf.gm_xor a.2 b.2 c.2)
theorem ga_gx (a b c : G) : gx (ga a b) c = ga (gx a c) (gx b c) := Fin.ext (Gf.xor_gm a.2 b.2 c.2)
theorem gx_one (a : G) : gx a g1 = a := Fin.ext (Gf.gm_one a.2)
theorem one_gx (a : G) : gx g1 a = a := Fin.ext (Gf.one_gm a.2)
theorem gx_zero (a : G) : gx a g0 = g0 := Fin.ext (Gf.gm_zero_right _)
theorem zero_gx (a : G) : gx g0 a = g0 := Fin.ext (Gf.gm_zero_left a.val)
theorem ne_val {a : G} (h : a ≠ g0) : a.val ≠ 0 := fun e => h (Fin.ext e)
theorem gx_gv {a : G} (h : a ≠ g0) : gx a (gv a) = g1 := Fin.ext (Gf.gm_gi a.2 (ne_val h))
theorem gv_gx {a : G} (h : a ≠ g0) : gx (gv a) a = g1 := by rw [gx_comm, gx_gv h]
theorem g1_ne : g1 ≠ g0 := by decide
theorem gv_ne (a : G) : gv a ≠ g0 := fun e => Gf.gi_ne a.val (congrArg Fin.val e)
theorem gx_eq_zero {a b : G} (h : gx a b = g0) (hb : b ≠ g0) : a = g0 := by
  have : gx (gx a b) (gv b) = g0 := by rw [h, zero_gx]
  rw [gx_assoc, gx_gv hb, gx_one] at this
  exact this
theorem ga_eq_zero {a b : G} (h : ga a b = g0) : a = b := by
  have : ga (ga a b) b = b := by rw [h, zero_ga]
  rw [ga_assoc, ga_self, ga_zero] at this
  exact this
theorem ga_swap (a b c d : G) : ga (ga a b) (ga c d) = ga (ga a c) (ga b d) := by
  rw [ga_assoc, ga_assoc, ← ga_assoc b c d, ga_comm b c, ga_assoc c b d]

/-- Sums. -/
def S : Nat → (Nat → G) → G
  | 0, _ => g0
  | n + 1, f => ga (S n f) (f n)

theorem S_congr {n : Nat} {f g : Nat → G} (h : ∀ k, k < n → f k = g k) : S n f = S n g := by
  induction n with
  | zero => rfl
  | succ n ih => show ga (S n f) (f n) = ga (S n g) (g n); rw [ih fun k hk => h k (by omega), h n (by omega)]
theorem S_zero {n : Nat} {f : Nat → G} (h : ∀ k, k < n → f k = g0) : S n f = g0 := by
  induction n with
  | zero => rfl
  | succ n ih => show ga (S n f) (f n) = g0; rw [ih fun k hk => h k (by omega), h n (by omega), ga_zero]
theorem S_ga (n : Nat) (f g : Nat → G) : S n (fun k => ga (f k) (g k)) = ga (S n f) (S n g) := by
  induction n with
  | zero => exact (ga_zero g0).symm
  | succ n ih => show ga (S n _) _ = ga (ga (S n f) (f n)) (ga (S n g) (g n)); rw [ih, ga_swap]
theorem S_left (n : Nat) (a : G) (f : Nat → G) : gx a (S n f) = S n fun k => gx a (f k) := by
  induction n with
  | zero => exact gx_zero a
  | succ n ih => show gx a (ga (S n f) (f n)) = ga (S n _) _; rw [gx_ga, ih]
theorem S_right (n : Nat) (a : G) (f : Nat → G) : gx (S n f) a = S n fun k => gx (f k) a := by
  rw [gx_comm, S_left]; exact S_congr fun k _ => gx_comm _ _
theorem S_comm (n m : Nat) (f : Nat → Nat → G) : S n (fun i => S m fun j => f i j) = S m fun j => S n fun i => f i j := by
  induction n with
  | zero => exact (S_zero fun _ _ => rfl).symm
  | succ n ih => show ga (S n _) _ = _; rw [ih, ← S_ga]; rfl
theorem S_one {n s : Nat} (hs : s < n) (f : Nat → G) : S n (fun k => if k = s then f k else g0) = f s := by
  induction n with
  | zero => omega
  | succ n ih =>
    show ga (S n _) (if n = s then f n else g0) = f s
    by_cases h : n = s
    · subst h
      rw [if_pos rfl, S_zero (fun k hk => if_neg (by omega)), zero_ga]
    · rw [if_neg h, ih (by omega), ga_zero]

/-- Matrices. -/
abbrev Mt := Nat → Nat → G
def mul (n : Nat) (A B : Mt) : Mt := fun i j => S n fun k => gx (A i k) (B k j)
def one : Mt := fun i j => if i = j then g1 else g0

theorem mul_assoc (n m : Nat) (A B C : Mt) (i j : Nat) : mul n (mul m A B) C i j = mul m A (mul n B C) i j := by
  show S n (fun k => gx (S m fun l => gx (A i l) (B l k)) (C k j)) = S m fun l => gx (A i l) (S n fun k => gx (B l k) (C k j))
  have h1 : S n (fun k => gx (S m fun l => gx (A i l) (B l k)) (C k j)) = S n fun k => S m fun l => gx (gx (A i l) (B l k)) (C k j) := S_congr fun k _ => S_right _ _ _
  rw [h1, S_comm]
  exact S_congr fun l _ => by rw [S_left]; exact S_congr fun k _ => gx_assoc _ _ _
theorem mul_congr {n i j : Nat} {A A' B B' : Mt} (hA : ∀ k, k < n → A i k = A' i k) (hB : ∀ k, k < n → B k j = B' k j) : mul n A B i j = mul n A' B' i j :=
  S_congr fun k hk => by rw [hA k hk, hB k hk]
theorem one_mul {n i : Nat} (hi : i < n) (A : Mt) (j : Nat) : mul n one A i j = A i j := by
  show S n (fun k => gx (if i = k then g1 else g0) (A k j)) = A i j
  have : S n (fun k => gx (if i = k then g1 else g0) (A k j)) = S n fun k => if k = i then A k j else g0 := S_congr fun k _ => by
    by_cases h : i = k
    · rw [if_pos h, if_pos h.symm, one_gx]
    · rw [if_neg h, if_neg fun e => h e.symm, zero_gx]
  rw [this, S_one hi fun k => A k j]
theorem mul_one {n j : Nat} (hj : j < n) (A : Mt) (i : Nat) : mul n A one i j = A i j := by
  show S n (fun k => gx (A i k) (if k = j then g1 else g0)) = A i j
  have : S n (fun k => gx (A i k) (if k = j then g1 else g0)) = S n fun k => if k = j then A i k else g0 := S_congr fun k _ => by
    by_cases h : k = j
    · rw [if_pos h, if_pos h, gx_one]
    · rw [if_neg h, if_neg h, gx_zero]
  rw [this, S_one hj fun k => A i k]

/-- Equal in the first r rows and c columns. -/
def Eqv (r c : Nat) (A B : Mt) : Prop := ∀ i j, i < r → j < c → A i j = B i j
theorem Eqv.refl (r c : Nat) (A : Mt) : Eqv r c A A := fun _ _ _ _ => rfl
theorem Eqv.symm {r c : Nat} {A B : Mt} (h : Eqv r c A B) : Eqv r c B A := fun i j hi hj => (h i j hi hj).symm
theorem Eqv.trans {r c : Nat} {A B C : Mt} (h : Eqv r c A B) (k : Eqv r c B C) : Eqv r c A C := fun i j hi hj => (h i j hi hj).trans (k i j hi hj)
theorem Eqv.mul {r n c : Nat} {A A' B B' : Mt} (h : Eqv r n A A') (k : Eqv n c B B') : Eqv r c (mul n A B) (mul n A' B') := fun i j hi hj => mul_congr (fun k hk => h i k hi hk) (fun l hl => k l j hl hj)

/-- The rows of W' are those of W, multiplied by an invertible matrix. -/
def RE (n c : Nat) (W W' : Mt) : Prop := ∃ A B : Mt, Eqv n n (mul n A B) one ∧ Eqv n n (mul n B A) one ∧ Eqv n c W' (mul n A W)

theorem RE.refl (n c : Nat) (W : Mt) : RE n c W W := ⟨one, one, fun _ _ hi _ => one_mul hi _ _, fun _ _ hi _ => one_mul hi _ _, fun _ _ hi _ => (one_mul hi _ _).symm⟩

theorem RE.trans {n c : Nat} {U V W : Mt} (h : RE n c U V) (k : RE n c V W) : RE n c U W := by
  obtain ⟨A, B, h1, h2, h3⟩ := h
  obtain ⟨A', B', k1, k2, k3⟩ := k
  refine ⟨mul n A' A, mul n B B', ?_, ?_, ?_⟩
  · intro i j hi hj
    rw [mul_assoc]
    have e : Eqv n n (mul n A (mul n B B')) B' := fun i j hi hj => by
      rw [← mul_assoc, mul_congr (fun k hk => h1 i k hi hk) (fun _ _ => rfl), one_mul hi]
    rw [mul_congr (fun _ _ => rfl) (fun k hk => e k j hk hj)]
    exact k1 i j hi hj
  · intro i j hi hj
    rw [mul_assoc]
    have e : Eqv n n (mul n B' (mul n A' A)) A := fun i j hi hj => by
      rw [← mul_assoc, mul_congr (fun k hk => k2 i k hi hk) (fun _ _ => rfl), one_mul hi]
    rw [mul_congr (fun _ _ => rfl) (fun k hk => e k j hk hj)]
    exact h2 i j hi hj
  · intro i j hi hj
    rw [mul_assoc, k3 i j hi hj]
    exact mul_congr (fun _ _ => rfl) (fun k hk => h3 k j hk hj)

theorem RE.eqv {n c : Nat} {U V W : Mt} (h : RE n c U V) (k : Eqv n c W V) : RE n c U W := by
  obtain ⟨A, B, h1, h2, h3⟩ := h
  exact ⟨A, B, h1, h2, k.trans h3⟩

/-- A permutation of the rows. -/
theorem RE.perm {n c : Nat} (W : Mt) {σ : Nat → Nat} (hσ : ∀ i, i < n → σ i < n) (hσσ : ∀ i, i < n → σ (σ i) = i) : RE n c W fun i j => W (σ i) j := by
  have key : ∀ (V : Mt) (i j : Nat), i < n → mul n (fun i k => if k = σ i then g1 else g0) V i j = V (σ i) j := by
    intro V i j hi
    show S n (fun k => gx (if k = σ i then g1 else g0) (V k j)) = _
    have : S n (fun k => gx (if k = σ i then g1 else g0) (V k j)) = S n fun k => if k = σ i then V k j else g0 := S_congr fun k _ => by
      by_cases h : k = σ i
      · rw [if_pos h, if_pos h, one_gx]
      · rw [if_neg h, if_neg h, zero_gx]
    rw [this, S_one (hσ i hi) fun k => V k j]
  have hone : Eqv n n (mul n (fun i k => if k = σ i then g1 else g0) (fun i k => if k = σ i then g1 else g0)) one := by
    intro i j hi hj
    rw [key _ i j hi, hσσ i hi]
    unfold one
    by_cases h : i = j
    · rw [if_pos h, if_pos h.symm]
    · rw [if_neg h, if_neg fun e => h e.symm]
  exact ⟨_, _, hone, hone, fun i j hi _ => (key W i j hi).symm⟩

/-- Row i becomes d i times row i, plus f i times row r (f r = 0; d i ≠ 0). -/
theorem RE.comb {n c r : Nat} (hr : r < n) (W : Mt) (d f : Nat → G) (hd : ∀ i, i < n → d i ≠ g0) (hf : f r = g0) : RE n c W fun i j => ga (gx (d i) (W i j)) (gx (f i) (W r j)) := by
  have key : ∀ (d f : Nat → G) (V : Mt) (i j : Nat), i < n → mul n (fun i k => ga (if k = i then d i else g0) (if k = r then f i else g0)) V i j = ga (gx (d i) (V i j)) (gx (f i) (V r j)) := by
    intro d f V i j hi
    show S n (fun k => gx (ga (if k = i then d i else g0) (if k = r then f i else g0)) (V k j)) = _
    have : S n (fun k => gx (ga (if k = i then d i else g0) (if k = r then f i else g0)) (V k j)) = S n fun k => ga (if k = i then gx (d i) (V k j) else g0) (if k = r then gx (f i) (V k j) else g0) := S_congr fun k _ => by
      rw [ga_gx]
      congr 1
      · by_cases h : k = i
        · rw [if_pos h, if_pos h]
        · rw [if_neg h, if_neg h, zero_gx]
      · by_cases h : k = r
        · rw [if_pos h, if_pos h]
        · rw [if_neg h, if_neg h, zero_gx]
    rw [this, S_ga, S_one hi fun k => gx (d i) (V k j), S_one hr fun k => gx (f i) (V k j)]
  -- the inverse: divide by d, and take f i / (d i d r) of row r
  have inv : ∀ (d f d' f' : Nat → G), (∀ i, i < n → gx (d i) (d' i) = g1) → f r = g0 → f' r = g0 → (∀ i, i < n → ga (gx (d i) (f' i)) (gx (f i) (d' r)) = g0) →
      Eqv n n (mul n (fun i k => ga (if k = i then d i else g0) (if k = r then f i else g0)) (fun i k => ga (if k = i then d' i else g0) (if k = r then f' i else g0))) one := by
    intro d f d' f' h1 h2 h3 h4 i j hi hj
    rw [key d f _ i j hi]
    unfold one
    rw [h3]
    have e0 : ga (if j = r then d' r else g0) (if j = r then g0 else g0) = if j = r then d' r else g0 := by split <;> exact ga_zero _
    rw [e0, gx_ga]
    by_cases hij : i = j
    · subst hij
      rw [if_pos rfl, if_pos rfl, h1 i hi]
      by_cases hir : i = r
      · subst hir
        rw [if_pos rfl, if_pos rfl, h3, h2, gx_zero, zero_gx, ga_zero, ga_zero]
      · rw [if_neg hir, if_neg hir, gx_zero, gx_zero, ga_zero, ga_zero]
    · rw [if_neg fun e => hij e.symm, if_neg hij, gx_zero, zero_ga]
      by_cases hjr : j = r
      · rw [if_pos hjr, if_pos hjr]; exact h4 i hi
      · rw [if_neg hjr, if_neg hjr, gx_zero, gx_zero, ga_zero]
  refine ⟨_, fun i k => ga (if k = i then gv (d i) else g0) (if k = r then gx (gx (f i) (gv (d i))) (gv (d r)) else g0), inv d f (fun i => gv (d i)) (fun i => gx (gx (f i) (gv (d i))) (gv (d r))) (fun i hi => gx_gv (hd i hi)) hf (by simp only [hf, zero_gx]) ?_, inv (fun i => gv (d i)) (fun i => gx (gx (f i) (gv (d i))) (gv (d r))) d f (fun i hi => gv_gx (hd i hi)) (by simp only [hf, zero_gx]) hf ?_, fun i j hi _ => (key d f W i j hi).symm⟩
  · intro i hi
    have e : gx (d i) (gx (gx (f i) (gv (d i))) (gv (d r))) = gx (f i) (gv (d r)) := by
      rw [← gx_assoc, gx_comm (f i) (gv (d i)), ← gx_assoc, gx_gv (hd i hi), one_gx]
    rw [e, ga_self]
  · intro i hi
    have e : gx (gx (gx (f i) (gv (d i))) (gv (d r))) (d r) = gx (gv (d i)) (f i) := by
      rw [gx_assoc, gv_gx (hd r hr), gx_one, gx_comm]
    rw [e, ga_self]

end Go.Proofs.Ytlbomlolomcolaa.Alg
