/- Plain arithmetic of the field with 256 elements: powers of 2, logarithms, the product by tables and the product by shifts. No program in sight. -/
namespace Go.Proofs.Ytkclmfppjhmnjaa.Gf

/-- The double of an element. -/
def xt (n : Nat) : Nat := if 255 < 2 * n then (2 * n) ^^^ 285 else 2 * n

/-- The powers of 2. -/
def pw : Nat → Nat
  | 0 => 1
  | k + 1 => xt (pw k)

def pwl : Nat → Nat → List Nat
  | 0, _ => []
  | k + 1, n => n :: pwl k (xt n)

/-- All powers of 2. -/
def pows : List Nat := pwl 255 1

/-- The logarithm; of 0 it is 0. -/
def lg (n : Nat) : Nat := if n = 0 then 0 else pows.idxOf n

/-- The product by tables. -/
def gm (a b : Nat) : Nat := if a = 0 ∨ b = 0 then 0 else pw ((lg a + lg b) % 255)

/-- The inverse by tables. -/
def gi (a : Nat) : Nat := pw ((255 - lg a) % 255)

/-- One round of the product by shifts. -/
def rstep (s : Nat × Nat × Nat) : Nat × Nat × Nat :=
  (if s.2.2 % 2 = 1 then s.1 ^^^ s.2.1 else s.1, xt s.2.1, s.2.2 / 2)

def rst (a b : Nat) : Nat → Nat × Nat × Nat
  | 0 => (0, a, b)
  | k + 1 => rstep (rst a b k)

/-- The product by shifts. -/
def rm (a b : Nat) : Nat := (rst a b 8).1

theorem xor_lt {a b : Nat} (ha : a < 256) (hb : b < 256) : a ^^^ b < 256 := Nat.xor_lt_two_pow (n := 8) ha hb

theorem xt_all : ∀ n : Fin 256, xt n.val < 256 ∧ (n.val ≠ 0 → xt n.val ≠ 0) := by decide +kernel
theorem xt_lt {n : Nat} (h : n < 256) : xt n < 256 := (xt_all ⟨n, h⟩).1
theorem xt_ne {n : Nat} (h : n < 256) (h0 : n ≠ 0) : xt n ≠ 0 := (xt_all ⟨n, h⟩).2 h0

theorem pw_ok (k : Nat) : pw k < 256 ∧ pw k ≠ 0 := by
  induction k with
  | zero => decide
  | succ k ih => exact ⟨xt_lt ih.1, xt_ne ih.1 ih.2⟩
theorem pw_lt (k : Nat) : pw k < 256 := (pw_ok k).1
theorem pw_ne (k : Nat) : pw k ≠ 0 := (pw_ok k).2

theorem pwl_pw (k j : Nat) : pwl k (pw j) = (List.range' j k).map pw := by
  induction k generalizing j with
  | zero => rfl
  | succ k ih =>
    show pw j :: pwl k (xt (pw j)) = _
    rw [show xt (pw j) = pw (j + 1) from rfl, ih (j + 1)]
    simp [List.range'_succ]

theorem pows_eq : pows = (List.range 255).map pw := by
  show pwl 255 (pw 0) = _
  rw [pwl_pw, List.range_eq_range']

theorem pows_get (i : Nat) (h : i < 255) : pows[i]? = some (pw i) := by
  rw [pows_eq]; simp [h]

theorem pows_idx : (List.range 255).all (fun i => pows.idxOf (pows.getD i 0) == i) = true := by decide +kernel
theorem pows_has : (List.range 256).all (fun n => n == 0 || (decide (pows.idxOf n < 255) && (pows.getD (pows.idxOf n) 0 == n))) = true := by decide +kernel

theorem lg_pw (i : Nat) (h : i < 255) : lg (pw i) = i := by
  have h1 := List.all_eq_true.1 pows_idx i (List.mem_range.2 h)
  have h2 := beq_iff_eq.1 h1
  rw [List.getD_eq_getElem?_getD, pows_get i h] at h2
  unfold lg
  rw [if_neg (pw_ne i)]
  exact h2

theorem lg_lt (n : Nat) (h : n < 256) : lg n < 255 := by
  by_cases h0 : n = 0
  · subst h0; decide
  have h1 := List.all_eq_true.1 pows_has n (List.mem_range.2 h)
  simp only [Bool.or_eq_true, beq_iff_eq, Bool.and_eq_true, decide_eq_true_eq] at h1
  unfold lg
  rw [if_neg h0]
  rcases h1 with h1 | h1
  · exact absurd h1 h0
  · exact h1.1

theorem pw_lg (n : Nat) (h : n < 256) (h0 : n ≠ 0) : pw (lg n) = n := by
  have hl := lg_lt n h
  have h1 := List.all_eq_true.1 pows_has n (List.mem_range.2 h)
  simp only [Bool.or_eq_true, beq_iff_eq, Bool.and_eq_true, decide_eq_true_eq] at h1
  unfold lg at hl ⊢
  rw [if_neg h0] at hl ⊢
  rcases h1 with h1 | h1
  · exact absurd h1 h0
  · have h2 := h1.2
    rw [List.getD_eq_getElem?_getD, pows_get _ hl] at h2
    exact h2

theorem pw_255 : pw 255 = 1 := by decide +kernel

theorem pw_add255 (n : Nat) : pw (n + 255) = pw n := by
  induction n with
  | zero => rw [Nat.zero_add, pw_255]; rfl
  | succ n ih =>
    show xt (pw (n + 255)) = xt (pw n)
    rw [ih]

theorem pw_mul255 (n q : Nat) : pw (n + 255 * q) = pw n := by
  induction q with
  | zero => rfl
  | succ q ih => rw [Nat.mul_succ, ← Nat.add_assoc, pw_add255, ih]

theorem pw_mod (n : Nat) : pw (n % 255) = pw n := by
  conv => rhs; rw [← Nat.mod_add_div n 255]
  rw [pw_mul255]

theorem gm_lt (a b : Nat) : gm a b < 256 := by
  unfold gm; split
  · decide
  · exact pw_lt _

theorem gm_zero_left (b : Nat) : gm 0 b = 0 := by simp [gm]
theorem gm_zero_right (a : Nat) : gm a 0 = 0 := by simp [gm]
theorem gm_comm (a b : Nat) : gm a b = gm b a := by
  unfold gm
  rw [Nat.add_comm]
  by_cases h : a = 0 ∨ b = 0
  · rw [if_pos h, if_pos h.symm]
  · rw [if_neg h, if_neg fun k => h k.symm]

theorem gm_pw (i j : Nat) : gm (pw i) (pw j) = pw (i + j) := by
  unfold gm
  rw [if_neg (by simp [pw_ne])]
  rw [← pw_mod i, ← pw_mod j, lg_pw _ (Nat.mod_lt _ (by decide)), lg_pw _ (Nat.mod_lt _ (by decide)), pw_mod]
  rw [← pw_mod, ← Nat.add_mod, pw_mod]

theorem gm_ne {a b : Nat} (ha : a ≠ 0) (hb : b ≠ 0) : gm a b ≠ 0 := by
  unfold gm; rw [if_neg (by simp [ha, hb])]; exact pw_ne _

theorem gm_assoc {a b c : Nat} (ha : a < 256) (hb : b < 256) (hc : c < 256) : gm (gm a b) c = gm a (gm b c) := by
  by_cases a0 : a = 0
  · subst a0; simp [gm_zero_left]
  by_cases b0 : b = 0
  · subst b0; simp [gm_zero_left, gm_zero_right]
  by_cases c0 : c = 0
  · subst c0; simp [gm_zero_right]
  rw [← pw_lg a ha a0, ← pw_lg b hb b0, ← pw_lg c hc c0]
  simp only [gm_pw, Nat.add_assoc]

theorem gm_one {a : Nat} (ha : a < 256) : gm a 1 = a := by
  by_cases a0 : a = 0
  · subst a0; simp [gm_zero_left]
  have h := gm_pw (lg a) 0
  rw [Nat.add_zero, pw_lg a ha a0] at h
  exact h

theorem one_gm {a : Nat} (ha : a < 256) : gm 1 a = a := by rw [gm_comm, gm_one ha]

theorem gi_lt (a : Nat) : gi a < 256 := pw_lt _
theorem gi_ne (a : Nat) : gi a ≠ 0 := pw_ne _
theorem gm_gi {a : Nat} (ha : a < 256) (a0 : a ≠ 0) : gm a (gi a) = 1 := by
  have h := gm_pw (lg a) ((255 - lg a) % 255)
  rw [pw_lg a ha a0] at h
  unfold gi
  rw [h, ← pw_mod]
  have hl := lg_lt a ha
  have : (lg a + (255 - lg a) % 255) % 255 = 0 := by omega
  rw [this]; rfl

/- The product by shifts is the product by tables. -/

theorem xt_xor_all : (List.range 256).all (fun a => (List.range 256).all fun b => xt (a ^^^ b) == xt a ^^^ xt b) = true := by decide +kernel
theorem xt_xor {a b : Nat} (ha : a < 256) (hb : b < 256) : xt (a ^^^ b) = xt a ^^^ xt b := by
  have h1 := List.all_eq_true.1 xt_xor_all a (List.mem_range.2 ha)
  have h2 := List.all_eq_true.1 h1 b (List.mem_range.2 hb)
  exact beq_iff_eq.1 h2

theorem rst_lt {a b : Nat} (ha : a < 256) (k : Nat) : (rst a b k).1 < 256 ∧ (rst a b k).2.1 < 256 := by
  induction k with
  | zero => exact ⟨show 0 < 256 by decide, ha⟩
  | succ k ih =>
    refine ⟨?_, xt_lt ih.2⟩
    show (if (rst a b k).2.2 % 2 = 1 then (rst a b k).1 ^^^ (rst a b k).2.1 else (rst a b k).1) < 256
    split
    · exact xor_lt ih.1 ih.2
    · exact ih.1

theorem rst_le (a b k : Nat) : (rst a b k).2.2 ≤ b := by
  induction k with
  | zero => exact Nat.le_refl _
  | succ k ih => exact Nat.le_trans (Nat.div_le_self _ _) ih

theorem rst_b (a a' b k : Nat) : (rst a b k).2.2 = (rst a' b k).2.2 := by
  induction k with
  | zero => rfl
  | succ k ih =>
    show (rst a b k).2.2 / 2 = (rst a' b k).2.2 / 2
    rw [ih]

theorem rm_lt {a : Nat} (b : Nat) (ha : a < 256) : rm a b < 256 := (rst_lt ha 8).1

theorem xor_swap (p x q y : Nat) : (p ^^^ x) ^^^ (q ^^^ y) = (p ^^^ q) ^^^ (x ^^^ y) := by
  rw [Nat.xor_assoc, Nat.xor_assoc, ← Nat.xor_assoc x q y, Nat.xor_comm x q, Nat.xor_assoc q x y]

theorem rst_xor {a a' : Nat} (b : Nat) (ha : a < 256) (ha' : a' < 256) (k : Nat) :
    (rst (a ^^^ a') b k).1 = (rst a b k).1 ^^^ (rst a' b k).1 ∧ (rst (a ^^^ a') b k).2.1 = (rst a b k).2.1 ^^^ (rst a' b k).2.1 := by
  induction k with
  | zero => exact ⟨(Nat.xor_self 0).symm, rfl⟩
  | succ k ih =>
    constructor
    · show (if (rst (a ^^^ a') b k).2.2 % 2 = 1 then (rst (a ^^^ a') b k).1 ^^^ (rst (a ^^^ a') b k).2.1 else (rst (a ^^^ a') b k).1) =
        (if (rst a b k).2.2 % 2 = 1 then (rst a b k).1 ^^^ (rst a b k).2.1 else (rst a b k).1) ^^^ (if (rst a' b k).2.2 % 2 = 1 then (rst a' b k).1 ^^^ (rst a' b k).2.1 else (rst a' b k).1)
      rw [rst_b (a ^^^ a') a b k, rst_b a' a b k, ih.1, ih.2]
      split
      · rw [xor_swap]
      · rfl
    · show xt (rst (a ^^^ a') b k).2.1 = xt (rst a b k).2.1 ^^^ xt (rst a' b k).2.1
      rw [ih.2, xt_xor (rst_lt ha k).2 (rst_lt ha' k).2]

theorem rm_xor {a a' : Nat} (b : Nat) (ha : a < 256) (ha' : a' < 256) : rm (a ^^^ a') b = rm a b ^^^ rm a' b := (rst_xor b ha ha' 8).1

theorem rst_xt {a : Nat} (b : Nat) (ha : a < 256) (k : Nat) : (rst (xt a) b k).1 = xt (rst a b k).1 ∧ (rst (xt a) b k).2.1 = xt (rst a b k).2.1 := by
  induction k with
  | zero => exact ⟨show 0 = xt 0 by decide, rfl⟩
  | succ k ih =>
    constructor
    · show (if (rst (xt a) b k).2.2 % 2 = 1 then (rst (xt a) b k).1 ^^^ (rst (xt a) b k).2.1 else (rst (xt a) b k).1) =
        xt (if (rst a b k).2.2 % 2 = 1 then (rst a b k).1 ^^^ (rst a b k).2.1 else (rst a b k).1)
      rw [rst_b (xt a) a b k, ih.1, ih.2]
      split
      · rw [xt_xor (rst_lt ha k).1 (rst_lt ha k).2]
      · rfl
    · show xt (rst (xt a) b k).2.1 = xt (xt (rst a b k).2.1)
      rw [ih.2]

theorem rm_xt {a : Nat} (b : Nat) (ha : a < 256) : rm (xt a) b = xt (rm a b) := (rst_xt b ha 8).1

theorem rm_one_all : (List.range 256).all (fun b => rm 1 b == b) = true := by decide +kernel
theorem rm_one {b : Nat} (hb : b < 256) : rm 1 b = b := beq_iff_eq.1 (List.all_eq_true.1 rm_one_all b (List.mem_range.2 hb))

theorem rm_zero_all : (List.range 256).all (fun b => rm 0 b == 0 && rm b 0 == 0) = true := by decide +kernel
theorem rm_zero {b : Nat} (hb : b < 256) : rm 0 b = 0 ∧ rm b 0 = 0 := by
  have := List.all_eq_true.1 rm_zero_all b (List.mem_range.2 hb)
  simpa using this

theorem rm_pw (i j : Nat) : rm (pw i) (pw j) = pw (i + j) := by
  induction i with
  | zero => rw [Nat.zero_add]; exact rm_one (pw_lt j)
  | succ i ih =>
    rw [show pw (i + 1) = xt (pw i) from rfl, rm_xt _ (pw_lt i), ih, Nat.succ_add]; rfl

/-- THE TWO PRODUCTS ARE ONE. -/
theorem rm_eq_gm {a b : Nat} (ha : a < 256) (hb : b < 256) : rm a b = gm a b := by
  by_cases a0 : a = 0
  · subst a0; rw [gm_zero_left, (rm_zero hb).1]
  by_cases b0 : b = 0
  · subst b0; rw [gm_zero_right, (rm_zero ha).2]
  rw [← pw_lg a ha a0, ← pw_lg b hb b0, rm_pw, gm_pw]

theorem xor_gm {a b c : Nat} (ha : a < 256) (hb : b < 256) (hc : c < 256) : gm (a ^^^ b) c = gm a c ^^^ gm b c := by
  rw [← rm_eq_gm (xor_lt ha hb) hc, ← rm_eq_gm ha hc, ← rm_eq_gm hb hc, rm_xor c ha hb]

theorem gm_xor {a b c : Nat} (ha : a < 256) (hb : b < 256) (hc : c < 256) : gm a (b ^^^ c) = gm a b ^^^ gm a c := by
  rw [gm_comm, xor_gm hb hc ha, gm_comm b, gm_comm c]

/-- An inverse is the only one. -/
theorem gi_unique {a b : Nat} (ha : a < 256) (hb : b < 256) (h : gm a b = 1) : b = gi a := by
  have a0 : a ≠ 0 := by intro e; subst e; rw [gm_zero_left] at h; exact absurd h (by decide)
  calc b = gm 1 b := (one_gm hb).symm
    _ = gm (gm a (gi a)) b := by rw [gm_gi ha a0]
    _ = gm (gi a) (gm a b) := by rw [gm_comm a (gi a), gm_assoc (gi_lt a) ha hb]
    _ = gi a := by rw [h, gm_one (gi_lt a)]

/- What Inv returns: the inverse and the number of the error. -/
def gi0 (a : Nat) : Nat := if a = 0 then 0 else gi a
def ge0 (a : Nat) : Nat := if a = 0 then 17 else 0
theorem gi0_ne {a : Nat} (h : a ≠ 0) : gi0 a = gi a := if_neg h
theorem ge0_ne {a : Nat} (h : a ≠ 0) : ge0 a = 0 := if_neg h
theorem gi0_zero : gi0 0 = 0 := rfl
theorem ge0_zero : ge0 0 = 17 := rfl
theorem gi0_lt (a : Nat) : gi0 a < 256 := by
  unfold gi0; split
  · decide
  · exact gi_lt a

/- Powers. -/

def gpn (a : Nat) : Nat → Nat
  | 0 => 1
  | k + 1 => gm (gpn a k) a

theorem gpn_lt (a k : Nat) : gpn a k < 256 := by
  cases k with
  | zero => exact show 1 < 256 by decide
  | succ k => exact gm_lt _ _

theorem gpn_eq {a : Nat} (ha : a < 256) (a0 : a ≠ 0) (k : Nat) : gpn a k = pw (lg a * k) := by
  induction k with
  | zero => rfl
  | succ k ih =>
    show gm (gpn a k) a = _
    have h := gm_pw (lg a * k) (lg a)
    rw [pw_lg a ha a0] at h
    rw [ih, h, Nat.mul_succ]

/-- A power by tables, for every exponent. -/
def gpow (a : Nat) (n : Int) : Nat := if n = 0 then 1 else if a = 0 then 0 else pw (lg a * (n % 255).toNat % 255)

theorem gpow_lt (a : Nat) (n : Int) : gpow a n < 256 := by
  unfold gpow; split
  · decide
  split
  · decide
  · exact pw_lt _

theorem lg_gi {a : Nat} (ha : a < 256) : lg (gi a) = (255 - lg a) % 255 := by
  have := lg_lt a ha
  exact lg_pw _ (Nat.mod_lt _ (by decide))

theorem gpow_zero (a : Nat) : gpow a 0 = 1 := by simp [gpow]
theorem zero_gpow {n : Int} (h : n ≠ 0) : gpow 0 n = 0 := by simp [gpow, h]

theorem gpow_pos {a : Nat} (a0 : a ≠ 0) (n : Int) : gpow a n = pw (lg a * (n % 255).toNat) := by
  unfold gpow
  by_cases h : n = 0
  · subst h; rw [if_pos rfl]; rfl
  · rw [if_neg h, if_neg a0, pw_mod]

theorem gpow_nonneg {a : Nat} (ha : a < 256) (a0 : a ≠ 0) {n : Int} (_h : 0 ≤ n) {k : Nat} (hk : (k : Int) = n % 255) : gpn a k = gpow a n := by
  rw [gpow_pos a0, gpn_eq ha a0, ← hk, Int.toNat_natCast]

theorem pw_congr {i j : Nat} (h : i % 255 = j % 255) : pw i = pw j := by rw [← pw_mod i, ← pw_mod j, h]

theorem gpow_neg {a : Nat} (ha : a < 256) (a0 : a ≠ 0) {n : Int} (_h : n < 0) {k : Nat} (hk : (k : Int) = (-n) % 255) : gpn (gi a) k = gpow a n := by
  rw [gpow_pos a0, gpn_eq (gi_lt a) (gi_ne a), lg_gi ha]
  have hl := lg_lt a ha
  generalize lg a = l at *
  have h0 : 0 ≤ n % 255 := Int.emod_nonneg _ (by decide)
  obtain ⟨m, hm⟩ := Int.eq_ofNat_of_zero_le h0
  rw [hm, Int.toNat_natCast]
  have hs : (k + m) % 255 = 0 := by omega
  apply pw_congr
  -- (255 - l) % 255 * k and l * m agree, for k + m = 0
  have h1 : ((255 - l) % 255 * k) % 255 = ((255 - l) * k) % 255 := by rw [Nat.mul_mod, Nat.mod_mod, ← Nat.mul_mod]
  rw [h1]
  obtain ⟨q, hq⟩ : ∃ q, k + m = 255 * q := ⟨(k + m) / 255, by omega⟩
  have h2 : (255 - l) * k + l * (k + m) = 255 * k + l * m := by
    rw [Nat.sub_mul, Nat.mul_add]
    have : l * k ≤ 255 * k := Nat.mul_le_mul_right _ (by omega)
    omega
  rw [hq, ← Nat.mul_assoc, Nat.mul_comm l 255, Nat.mul_assoc] at h2
  omega

end Go.Proofs.Ytkclmfppjhmnjaa.Gf
