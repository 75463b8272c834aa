/- Plain arithmetic of the field with 256 elements: powers of 2, logarithms, the product by tables and the product by shifts. No program in sight. -/
/- What galois.field makes: the tables of powers and logarithms, in a new block. -/
/- Contracts of galois.Mul, Inv, Power and of the reference's Mul, Inv, Power. -/
/- Memory in plain words: which blocks a call may change, blocks whose first cells are known, slices of bytes and of slices of bytes. -/
/- Plain functions on rows and matrices of bytes: what galois.reduced computes. -/
import Derived.Test.YtkclmfppjhmnjaaProg
import Derived.WalkKit
import Derived.WalkSpells
import Derived.WalkLawsBesides
import Derived.Lib.Hide
import Derived.Deep.QuietTactic
import Derived.BigQuiet
import Derived.WalkSmall
namespace Go.Proofs.Ytkclmfppjhmnjaa.Gf

/-- The double of an element. -/
def xt (n : Nat) : Nat := if 255 < 2 * n then (2 * n) ^^^ 285 else 2 * n

/-- The powers of 2. -/
def pw : Nat → Nat
  | 0 => 1
  | k + 1 => xt (pw k)

def pwl : Nat → Nat → List Nat
  | 0, _ => []
  | k + 1, n => n :: pwl k (xt n)

/-- All powers of 2. -/
def pows : List Nat := pwl 255 1

/-- The logarithm; of 0 it is 0. -/
def lg (n : Nat) : Nat := if n = 0 then 0 else pows.idxOf n

/-- The product by tables. -/
def gm (a b : Nat) : Nat := if a = 0 ∨ b = 0 then 0 else pw ((lg a + lg b) % 255)

/-- The inverse by tables. -/
def gi (a : Nat) : Nat := pw ((255 - lg a) % 255)

/-- One round of the product by shifts. -/
def rstep (s : Nat × Nat × Nat) : Nat × Nat × Nat :=
  (if s.2.2 % 2 = 1 then s.1 ^^^ s.2.1 else s.1, xt s.2.1, s.2.2 / 2)

def rst (a b : Nat) : Nat → Nat × Nat × Nat
  | 0 => (0, a, b)
  | k + 1 => rstep (rst a b k)

/-- The product by shifts. -/
def rm (a b : Nat) : Nat := (rst a b 8).1

theorem xor_lt {a b : Nat} (ha : a < 256) (hb : b < 256) : a ^^^ b < 256 := Nat.xor_lt_two_pow (n := 8) ha hb

theorem xt_all : ∀ n : Fin 256, xt n.val < 256 ∧ (n.val ≠ 0 → xt n.val ≠ 0) := by decide +kernel
theorem xt_lt {n : Nat} (h : n < 256) : xt n < 256 := (xt_all ⟨n, h⟩).1
theorem xt_ne {n : Nat} (h : n < 256) (h0 : n ≠ 0) : xt n ≠ 0 := (xt_all ⟨n, h⟩).2 h0

theorem pw_ok (k : Nat) : pw k < 256 ∧ pw k ≠ 0 := by
  induction k with
  | zero => decide
  | succ k ih => exact ⟨xt_lt ih.1, xt_ne ih.1 ih.2⟩
theorem pw_lt (k : Nat) : pw k < 256 := (pw_ok k).1
theorem pw_ne (k : Nat) : pw k ≠ 0 := (pw_ok k).2

theorem pwl_pw (k j : Nat) : pwl k (pw j) = (List.range' j k).map pw := by
  induction k generalizing j with
  | zero => rfl
  | succ k ih =>
    show pw j :: pwl k (xt (pw j)) = _
    rw [show xt (pw j) = pw (j + 1) from rfl, ih (j + 1)]
    simp [List.range'_succ]

theorem pows_eq : pows = (List.range 255).map pw := by
  show pwl 255 (pw 0) = _
  rw [pwl_pw, List.range_eq_range']

theorem pows_get (i : Nat) (h : i < 255) : pows[i]? = some (pw i) := by
  rw [pows_eq]; simp [h]

theorem pows_idx : (List.range 255).all (fun i => pows.idxOf (pows.getD i 0) == i) = true := by decide +kernel
theorem pows_has : (List.range 256).all (fun n => n == 0 || (decide (pows.idxOf n < 255) && (pows.getD (pows.idxOf n) 0 == n))) = true := by decide +kernel

theorem lg_pw (i : Nat) (h : i < 255) : lg (pw i) = i := by
  have h1 := List.all_eq_true.1 pows_idx i (List.mem_range.2 h)
  have h2 := beq_iff_eq.1 h1
  rw [List.getD_eq_getElem?_getD, pows_get i h] at h2
  unfold lg
  rw [if_neg (pw_ne i)]
  exact h2

theorem lg_lt (n : Nat) (h : n < 256) : lg n < 255 := by
  by_cases h0 : n = 0
  · subst h0; decide
  have h1 := List.all_eq_true.1 pows_has n (List.mem_range.2 h)
  simp only [Bool.or_eq_true, beq_iff_eq, Bool.and_eq_true, decide_eq_true_eq] at h1
  unfold lg
  rw [if_neg h0]
  rcases h1 with h1 | h1
  · exact absurd h1 h0
  · exact h1.1

theorem pw_lg (n : Nat) (h : n < 256) (h0 : n ≠ 0) : pw (lg n) = n := by
  have hl := lg_lt n h
  have h1 := List.all_eq_true.1 pows_has n (List.mem_range.2 h)
  simp only [Bool.or_eq_true, beq_iff_eq, Bool.and_eq_true, decide_eq_true_eq] at h1
  unfold lg at hl ⊢
  rw [if_neg h0] at hl ⊢
  rcases h1 with h1 | h1
  · exact absurd h1 h0
  · have h2 := h1.2
    rw [List.getD_eq_getElem?_getD, pows_get _ hl] at h2
    exact h2

theorem pw_255 : pw 255 = 1 := by decide +kernel

theorem pw_add255 (n : Nat) : pw (n + 255) = pw n := by
  induction n with
  | zero => rw [Nat.zero_add, pw_255]; rfl
  | succ n ih =>
    show xt (pw (n + 255)) = xt (pw n)
    rw [ih]

theorem pw_mul255 (n q : Nat) : pw (n + 255 * q) = pw n := by
  induction q with
  | zero => rfl
  | succ q ih => rw [Nat.mul_succ, ← Nat.add_assoc, pw_add255, ih]

theorem pw_mod (n : Nat) : pw (n % 255) = pw n := by
  conv => rhs; rw [← Nat.mod_add_div n 255]
  rw [pw_mul255]

theorem gm_lt (a b : Nat) : gm a b < 256 := by
  unfold gm; split
  · decide
  · exact pw_lt _

theorem gm_zero_left (b : Nat) : gm 0 b = 0 := by simp [gm]
theorem gm_zero_right (a : Nat) : gm a 0 = 0 := by simp [gm]
theorem gm_comm (a b : Nat) : gm a b = gm b a := by
  unfold gm
  rw [Nat.add_comm]
  by_cases h : a = 0 ∨ b = 0
  · rw [if_pos h, if_pos h.symm]
  · rw [if_neg h, if_neg fun k => h k.symm]

theorem gm_pw (i j : Nat) : gm (pw i) (pw j) = pw (i + j) := by
  unfold gm
  rw [if_neg (by simp [pw_ne])]
  rw [← pw_mod i, ← pw_mod j, lg_pw _ (Nat.mod_lt _ (by decide)), lg_pw _ (Nat.mod_lt _ (by decide)), pw_mod]
  rw [← pw_mod, ← Nat.add_mod, pw_mod]

theorem gm_ne {a b : Nat} (ha : a ≠ 0) (hb : b ≠ 0) : gm a b ≠ 0 := by
  unfold gm; rw [if_neg (by simp [ha, hb])]; exact pw_ne _

theorem gm_assoc {a b c : Nat} (ha : a < 256) (hb : b < 256) (hc : c < 256) : gm (gm a b) c = gm a (gm b c) := by
  by_cases a0 : a = 0
  · subst a0; simp [gm_zero_left]
  by_cases b0 : b = 0
  · subst b0; simp [gm_zero_left, gm_zero_right]
  by_cases c0 : c = 0
  · subst c0; simp [gm_zero_right]
  rw [← pw_lg a ha a0, ← pw_lg b hb b0, ← pw_lg c hc c0]
  simp only [gm_pw, Nat.add_assoc]

theorem gm_one {a : Nat} (ha : a < 256) : gm a 1 = a := by
  by_cases a0 : a = 0
  · subst a0; simp [gm_zero_left]
  have h := gm_pw (lg a) 0
  rw [Nat.add_zero, pw_lg a ha a0] at h
  exact h

theorem one_gm {a : Nat} (ha : a < 256) : gm 1 a = a := by rw [gm_comm, gm_one ha]

theorem gi_lt (a : Nat) : gi a < 256 := pw_lt _
theorem gi_ne (a : Nat) : gi a ≠ 0 := pw_ne _
theorem gm_gi {a : Nat} (ha : a < 256) (a0 : a ≠ 0) : gm a (gi a) = 1 := by
  have h := gm_pw (lg a) ((255 - lg a) % 255)
  rw [pw_lg a ha a0] at h
  unfold gi
  rw [h, ← pw_mod]
  have hl := lg_lt a ha
  have : (lg a + (255 - lg a) % 255) % 255 = 0 := by omega
  rw [this]; rfl

/- The product by shifts is the product by tables. -/

theorem xt_xor_all : (List.range 256).all (fun a => (List.range 256).all fun b => xt (a ^^^ b) == xt a ^^^ xt b) = true := by decide +kernel
theorem xt_xor {a b : Nat} (ha : a < 256) (hb : b < 256) : xt (a ^^^ b) = xt a ^^^ xt b := by
  have h1 := List.all_eq_true.1 xt_xor_all a (List.mem_range.2 ha)
  have h2 := List.all_eq_true.1 h1 b (List.mem_range.2 hb)
  exact beq_iff_eq.1 h2

theorem rst_lt {a b : Nat} (ha : a < 256) (k : Nat) : (rst a b k).1 < 256 ∧ (rst a b k).2.1 < 256 := by
  induction k with
  | zero => exact ⟨show 0 < 256 by decide, ha⟩
  | succ k ih =>
    refine ⟨?_, xt_lt ih.2⟩
    show (if (rst a b k).2.2 % 2 = 1 then (rst a b k).1 ^^^ (rst a b k).2.1 else (rst a b k).1) < 256
    split
    · exact xor_lt ih.1 ih.2
    · exact ih.1

theorem rst_le (a b k : Nat) : (rst a b k).2.2 ≤ b := by
  induction k with
  | zero => exact Nat.le_refl _
  | succ k ih => exact Nat.le_trans (Nat.div_le_self _ _) ih

theorem rst_b (a a' b k : Nat) : (rst a b k).2.2 = (rst a' b k).2.2 := by
  induction k with
  | zero => rfl
  | succ k ih =>
    show (rst a b k).2.2 / 2 = (rst a' b k).2.2 / 2
    rw [ih]

theorem rm_lt {a : Nat} (b : Nat) (ha : a < 256) : rm a b < 256 := (rst_lt ha 8).1

theorem xor_swap (p x q y : Nat) : (p ^^^ x) ^^^ (q ^^^ y) = (p ^^^ q) ^^^ (x ^^^ y) := by
  rw [Nat.xor_assoc, Nat.xor_assoc, ← Nat.xor_assoc x q y, Nat.xor_comm x q, Nat.xor_assoc q x y]

theorem rst_xor {a a' : Nat} (b : Nat) (ha : a < 256) (ha' : a' < 256) (k : Nat) :
    (rst (a ^^^ a') b k).1 = (rst a b k).1 ^^^ (rst a' b k).1 ∧ (rst (a ^^^ a') b k).2.1 = (rst a b k).2.1 ^^^ (rst a' b k).2.1 := by
  induction k with
  | zero => exact ⟨(Nat.xor_self 0).symm, rfl⟩
  | succ k ih =>
    constructor
    · show (if (rst (a ^^^ a') b k).2.2 % 2 = 1 then (rst (a ^^^ a') b k).1 ^^^ (rst (a ^^^ a') b k).2.1 else (rst (a ^^^ a') b k).1) =
        (if (rst a b k).2.2 % 2 = 1 then (rst a b k).1 ^^^ (rst a b k).2.1 else (rst a b k).1) ^^^ (if (rst a' b k).2.2 % 2 = 1 then (rst a' b k).1 ^^^ (rst a' b k).2.1 else (rst a' b k).1)
      rw [rst_b (a ^^^ a') a b k, rst_b a' a b k, ih.1, ih.2]
      split
      · rw [xor_swap]
      · rfl
    · show xt (rst (a ^^^ a') b k).2.1 = xt (rst a b k).2.1 ^^^ xt (rst a' b k).2.1
      rw [ih.2, xt_xor (rst_lt ha k).2 (rst_lt ha' k).2]

theorem rm_xor {a a' : Nat} (b : Nat) (ha : a < 256) (ha' : a' < 256) : rm (a ^^^ a') b = rm a b ^^^ rm a' b := (rst_xor b ha ha' 8).1

theorem rst_xt {a : Nat} (b : Nat) (ha : a < 256) (k : Nat) : (rst (xt a) b k).1 = xt (rst a b k).1 ∧ (rst (xt a) b k).2.1 = xt (rst a b k).2.1 := by
  induction k with
  | zero => exact ⟨show 0 = xt 0 by decide, rfl⟩
  | succ k ih =>
    constructor
    · show (if (rst (xt a) b k).2.2 % 2 = 1 then (rst (xt a) b k).1 ^^^ (rst (xt a) b k).2.1 else (rst (xt a) b k).1) =
        xt (if (rst a b k).2.2 % 2 = 1 then (rst a b k).1 ^^^ (rst a b k).2.1 else (rst a b k).1)
      rw [rst_b (xt a) a b k, ih.1, ih.2]
      split
      · rw [xt_xor (rst_lt ha k).1 (rst_lt ha k).2]
      · rfl
    · show xt (rst (xt a) b k).2.1 = xt (xt (rst a b k).2.1)
      rw [ih.2]

theorem rm_xt {a : Nat} (b : Nat) (ha : a < 256) : rm (xt a) b = xt (rm a b) := (rst_xt b ha 8).1

theorem rm_one_all : (List.range 256).all (fun b => rm 1 b == b) = true := by decide +kernel
theorem rm_one {b : Nat} (hb : b < 256) : rm 1 b = b := beq_iff_eq.1 (List.all_eq_true.1 rm_one_all b (List.mem_range.2 hb))

theorem rm_zero_all : (List.range 256).all (fun b => rm 0 b == 0 && rm b 0 == 0) = true := by decide +kernel
theorem rm_zero {b : Nat} (hb : b < 256) : rm 0 b = 0 ∧ rm b 0 = 0 := by
  have := List.all_eq_true.1 rm_zero_all b (List.mem_range.2 hb)
  simpa using this

theorem rm_pw (i j : Nat) : rm (pw i) (pw j) = pw (i + j) := by
  induction i with
  | zero => rw [Nat.zero_add]; exact rm_one (pw_lt j)
  | succ i ih =>
    rw [show pw (i + 1) = xt (pw i) from rfl, rm_xt _ (pw_lt i), ih, Nat.succ_add]; rfl

/-- THE TWO PRODUCTS ARE ONE. -/
theorem rm_eq_gm {a b : Nat} (ha : a < 256) (hb : b < 256) : rm a b = gm a b := by
  by_cases a0 : a = 0
  · subst a0; rw [gm_zero_left, (rm_zero hb).1]
  by_cases b0 : b = 0
  · subst b0; rw [gm_zero_right, (rm_zero ha).2]
  rw [← pw_lg a ha a0, ← pw_lg b hb b0, rm_pw, gm_pw]

theorem xor_gm {a b c : Nat} (ha : a < 256) (hb : b < 256) (hc : c < 256) : gm (a ^^^ b) c = gm a c ^^^ gm b c := by
  rw [← rm_eq_gm (xor_lt ha hb) hc, ← rm_eq_gm ha hc, ← rm_eq_gm hb hc, rm_xor c ha hb]

theorem gm_xor {a b c : Nat} (ha : a < 256) (hb : b < 256) (hc : c < 256) : gm a (b ^^^ c) = gm a b ^^^ gm a c := by
  rw [gm_comm, xor_gm hb hc ha, gm_comm b, gm_comm c]

/-- An inverse is the only one. -/
theorem gi_unique {a b : Nat} (ha : a < 256) (hb : b < 256) (h : gm a b = 1) : b = gi a := by
  have a0 : a ≠ 0 := by intro e; subst e; rw [gm_zero_left] at h; exact absurd h (by decide)
  calc b = gm 1 b := (one_gm hb).symm
    _ = gm (gm a (gi a)) b := by rw [gm_gi ha a0]
    _ = gm (gi a) (gm a b) := by rw [gm_comm a (gi a), gm_assoc (gi_lt a) ha hb]
    _ = gi a := by rw [h, gm_one (gi_lt a)]

/- What Inv returns: the inverse and the number of the error. -/
def gi0 (a : Nat) : Nat := if a = 0 then 0 else gi a
def ge0 (a : Nat) : Nat := if a = 0 then 17 else 0
theorem gi0_ne {a : Nat} (h : a ≠ 0) : gi0 a = gi a := if_neg h
theorem ge0_ne {a : Nat} (h : a ≠ 0) : ge0 a = 0 := if_neg h
theorem gi0_zero : gi0 0 = 0 := rfl
theorem ge0_zero : ge0 0 = 17 := rfl
theorem gi0_lt (a : Nat) : gi0 a < 256 := by
  unfold gi0; split
  · decide
  · exact gi_lt a

/- Powers. -/

def gpn (a : Nat) : Nat → Nat
  | 0 => 1
  | k + 1 => gm (gpn a k) a

theorem gpn_lt (a k : Nat) : gpn a k < 256 := by
  cases k with
  | zero => exact show 1 < 256 by decide
  | succ k => exact gm_lt _ _

theorem gpn_eq {a : Nat} (ha : a < 256) (a0 : a ≠ 0) (k : Nat) : gpn a k = pw (lg a * k) := by
  induction k with
  | zero => rfl
  | succ k ih =>
    show gm (gpn a k) a = _
    have h := gm_pw (lg a * k) (lg a)
    rw [pw_lg a ha a0] at h
    rw [ih, h, Nat.mul_succ]

/-- A power by tables, for every exponent. -/
def gpow (a : Nat) (n : Int) : Nat := if n = 0 then 1 else if a = 0 then 0 else pw (lg a * (n % 255).toNat % 255)

theorem gpow_lt (a : Nat) (n : Int) : gpow a n < 256 := by
  unfold gpow; split
  · decide
  split
  · decide
  · exact pw_lt _

theorem lg_gi {a : Nat} (ha : a < 256) : lg (gi a) = (255 - lg a) % 255 := by
  have := lg_lt a ha
  exact lg_pw _ (Nat.mod_lt _ (by decide))

theorem gpow_zero (a : Nat) : gpow a 0 = 1 := by simp [gpow]
theorem zero_gpow {n : Int} (h : n ≠ 0) : gpow 0 n = 0 := by simp [gpow, h]

theorem gpow_pos {a : Nat} (a0 : a ≠ 0) (n : Int) : gpow a n = pw (lg a * (n % 255).toNat) := by
  unfold gpow
  by_cases h : n = 0
  · subst h; rw [if_pos rfl]; rfl
  · rw [if_neg h, if_neg a0, pw_mod]

theorem gpow_nonneg {a : Nat} (ha : a < 256) (a0 : a ≠ 0) {n : Int} (_h : 0 ≤ n) {k : Nat} (hk : (k : Int) = n % 255) : gpn a k = gpow a n := by
  rw [gpow_pos a0, gpn_eq ha a0, ← hk, Int.toNat_natCast]

theorem pw_congr {i j : Nat} (h : i % 255 = j % 255) : pw i = pw j := by rw [← pw_mod i, ← pw_mod j, h]

theorem gpow_neg {a : Nat} (ha : a < 256) (a0 : a ≠ 0) {n : Int} (_h : n < 0) {k : Nat} (hk : (k : Int) = (-n) % 255) : gpn (gi a) k = gpow a n := by
  rw [gpow_pos a0, gpn_eq (gi_lt a) (gi_ne a), lg_gi ha]
  have hl := lg_lt a ha
  generalize lg a = l at *
  have h0 : 0 ≤ n % 255 := Int.emod_nonneg _ (by decide)
  obtain ⟨m, hm⟩ := Int.eq_ofNat_of_zero_le h0
  rw [hm, Int.toNat_natCast]
  have hs : (k + m) % 255 = 0 := by omega
  apply pw_congr
  -- (255 - l) % 255 * k and l * m agree, for k + m = 0
  have h1 : ((255 - l) % 255 * k) % 255 = ((255 - l) * k) % 255 := by rw [Nat.mul_mod, Nat.mod_mod, ← Nat.mul_mod]
  rw [h1]
  obtain ⟨q, hq⟩ : ∃ q, k + m = 255 * q := ⟨(k + m) / 255, by omega⟩
  have h2 : (255 - l) * k + l * (k + m) = 255 * k + l * m := by
    rw [Nat.sub_mul, Nat.mul_add]
    have : l * k ≤ 255 * k := Nat.mul_le_mul_right _ (by omega)
    omega
  rw [hq, ← Nat.mul_assoc, Nat.mul_comm l 255, Nat.mul_assoc] at h2
  omega

end Go.Proofs.Ytkclmfppjhmnjaa.Gf

namespace Go.Proofs.Ytkclmfppjhmnjaa
open Go.RowKit

def tb0 : Array Value := Array.replicate 255 (.int .u8 0) ++ Array.replicate 256 (.int .i64 0)
def tb : Nat → Array Value
  | 0 => tb0
  | k + 1 => ((tb k).setIfInBounds k (.int .u8 (Gf.pw k))).setIfInBounds (255 + Gf.pw k) (.int .i64 k)
theorem zeroTab (w : World) : (zeroValue 148).run Try.prog w = .ok (.agg tb0) w := by kernel_rfl
theorem tb_size (k : Nat) : (tb k).size = 511 := by
  induction k with
  | zero => simp [tb, tb0]
  | succ k ih => simp [tb, ih]

theorem bits_xor_i64_nat (a b : Nat) (ha : a < 65536) (hb : b < 65536) : bits .xor .i64 (a : Int) (b : Int) = ((a ^^^ b : Nat) : Int) := by
  have hx : a ^^^ b < 2 ^ 16 := Nat.xor_lt_two_pow (by omega) (by omega)
  have h1 : (BitVec.ofInt 64 (a : Int)).toNat = a := by
    rw [BitVec.ofInt_natCast, BitVec.toNat_ofNat]; exact Nat.mod_eq_of_lt (by omega)
  have h2 : (BitVec.ofInt 64 (b : Int)).toNat = b := by
    rw [BitVec.ofInt_natCast, BitVec.toNat_ofNat]; exact Nat.mod_eq_of_lt (by omega)
  show IntKind.i64.wrap ((BitVec.ofInt 64 (a : Int) ^^^ BitVec.ofInt 64 (b : Int)).toNat : Int) = _
  rw [BitVec.toNat_xor, h1, h2]
  exact IntWalk.i64_in _ (by omega)

theorem pw_step (k : Nat) : (255 < (Gf.pw k : Int) * 2 → bits .xor .i64 ((Gf.pw k : Int) * 2) 285 = (Gf.pw (k + 1) : Int)) ∧ ((Gf.pw k : Int) * 2 ≤ 255 → (Gf.pw k : Int) * 2 = (Gf.pw (k + 1) : Int)) := by
  have hp := Gf.pw_lt k
  constructor
  · intro h
    rw [show Gf.pw (k + 1) = Gf.xt (Gf.pw k) from rfl, Gf.xt, if_pos (by omega)]
    have := bits_xor_i64_nat (2 * Gf.pw k) 285 (by omega) (by omega)
    rw [← this]
    congr 1
    omega
  · intro h
    rw [show Gf.pw (k + 1) = Gf.xt (Gf.pw k) from rfl, Gf.xt, if_neg (by omega)]
    omega

set_option maxRecDepth 100000 in
set_option maxHeartbeats 400000 in
theorem field_any (w : World) :
    Calls Try.prog 80 #[] w fun e w' => e = .returned (.pointer (some ⟨w.heap.size, 0, none⟩)) ∧ w' = w.alloc (.cells (tb 255) 148) := by
  have z := zeroTab
  go_enter Try.func80, Try.ntmps80
  go_wp2
  go_loopw [2, 6] (fun n i wr => ∃ k : Nat, k ≤ 255 ∧ i = .int .i64 k ∧ n = .int .i64 (Gf.pw k) ∧ wr = w.alloc (.cells (tb k) 148)) (fun _ i _ => 255 - (intOf i).toNat)
  case atStart => exact ⟨0, by omega, rfl, rfl, rfl⟩
  case round =>
    obtain ⟨k, hk, rfl, rfl, rfl⟩ := hrel
    clear z
    have hp := Gf.pw_lt k
    have hs := tb_size k
    by_cases hlt : k < 255
    · obtain ⟨v0, hv0⟩ : ∃ v, (tb k)[k]? = some v := ⟨_, Array.getElem?_eq_getElem (by omega)⟩
      obtain ⟨v1, hv1⟩ : ∃ v, ((tb k).setIfInBounds k (.int .u8 (Gf.pw k)))[255 + Gf.pw k]? = some v := ⟨_, Array.getElem?_eq_getElem (by rw [Array.size_setIfInBounds]; omega)⟩
      have hx := Lib.hid (pw_step k)
      go_wp2
      all_goals
        go_roundw
        case rel => exact ⟨k + 1, by omega, by go_num, by first | exact congrArg (Value.int .i64) (hx.out.1 ‹_›) | exact congrArg (Value.int .i64) (hx.out.2 ‹_›), rfl⟩
        case measure => simp [intOf]; omega
    · go_wp2
      go_ret
      obtain rfl : k = 255 := by omega
      exact ⟨rfl, rfl⟩
end Go.Proofs.Ytkclmfppjhmnjaa

namespace Go.Proofs.Ytkclmfppjhmnjaa
open Go.RowKit

/-- The tables lie in block b. -/
def Tab (w : World) (b : Nat) : Prop := (∀ i, i < 255 → w.cell? ⟨b, i, none⟩ = some (.int .u8 (Gf.pw i))) ∧ (∀ n, n < 256 → w.cell? ⟨b, 255 + n, none⟩ = some (.int .i64 (Gf.lg n)))

theorem Tab.of_block {w w' : World} {b : Nat} (h : Tab w b) (e : w'.heap[b]? = w.heap[b]?) : Tab w' b :=
  ⟨fun i hi => by rw [World.cell?_of_block (w := w) e]; exact h.1 i hi, fun i hi => by rw [World.cell?_of_block (w := w) e]; exact h.2 i hi⟩

theorem Tab.below {w w' : World} {b B : Nat} (h : Tab w b) (hb : Below B w w') (hB : b < B) : Tab w' b := h.of_block (hb.block b hB)

theorem tb_pow (k : Nat) (hk : k ≤ 255) (i : Nat) (hi : i < k) : (tb k)[i]? = some (.int .u8 (Gf.pw i)) := by
  induction k with
  | zero => omega
  | succ k ih =>
    show (((tb k).setIfInBounds k (.int .u8 (Gf.pw k))).setIfInBounds (255 + Gf.pw k) (.int .i64 k))[i]? = _
    rw [Array.getElem?_setIfInBounds, if_neg (by omega), Array.getElem?_setIfInBounds]
    by_cases h : k = i
    · rw [if_pos h, if_pos (by rw [tb_size]; omega), h]
    · rw [if_neg h]; exact ih (by omega) (by omega)

theorem tb_log (k : Nat) (hk : k ≤ 255) (i : Nat) (hi : i < k) : (tb k)[255 + Gf.pw i]? = some (.int .i64 i) := by
  induction k with
  | zero => omega
  | succ k ih =>
    show (((tb k).setIfInBounds k (.int .u8 (Gf.pw k))).setIfInBounds (255 + Gf.pw k) (.int .i64 k))[255 + Gf.pw i]? = _
    have hp := Gf.pw_lt i
    rw [Array.getElem?_setIfInBounds]
    by_cases h : k = i
    · subst h; rw [if_pos rfl, if_pos (by rw [Array.size_setIfInBounds, tb_size]; omega)]
    · have hne : 255 + Gf.pw k ≠ 255 + Gf.pw i := by
        intro e
        have e' : Gf.pw k = Gf.pw i := by omega
        have := congrArg Gf.lg e'
        rw [Gf.lg_pw k (by omega), Gf.lg_pw i (by omega)] at this
        exact h this
      rw [if_neg hne, Array.getElem?_setIfInBounds, if_neg (by omega)]
      exact ih (by omega) (by omega)

theorem tb_log0 (k : Nat) (hk : k ≤ 255) : (tb k)[255]? = some (.int .i64 0) := by
  induction k with
  | zero => simp [tb, tb0]
  | succ k ih =>
    show (((tb k).setIfInBounds k (.int .u8 (Gf.pw k))).setIfInBounds (255 + Gf.pw k) (.int .i64 k))[255]? = _
    have hp := Gf.pw_ne k
    rw [Array.getElem?_setIfInBounds, if_neg (by omega), Array.getElem?_setIfInBounds, if_neg (by omega)]
    exact ih (by omega)

theorem Tab.made (w : World) : Tab (w.alloc (.cells (tb 255) 148)) w.heap.size := by
  have hb : (w.alloc (.cells (tb 255) 148)).heap[w.heap.size]? = some (.cells (tb 255) 148) := by
    show (w.heap.push _)[w.heap.size]? = _
    simp
  constructor
  · intro i hi
    simp only [World.cell?, hb]
    exact tb_pow 255 (Nat.le_refl _) i hi
  · intro n hn
    simp only [World.cell?, hb]
    by_cases h0 : n = 0
    · subst h0; exact tb_log0 255 (Nat.le_refl _)
    · have := tb_log 255 (Nat.le_refl _) (Gf.lg n) (Gf.lg_lt n hn)
      rw [Gf.pw_lg n hn h0] at this
      exact this

set_option maxRecDepth 100000 in
set_option maxHeartbeats 400000 in
theorem inv_any (b x : Nat) (w : World) (hx : x < 256) (ht : Tab w b) :
    Calls Try.prog 127 #[.pointer (some ⟨b, 0, none⟩), .int .u8 x] w fun e w' => e = .returned (.int .u8 (Gf.gi x)) ∧ ∃ n, w' = w.drewN n := by
  obtain ⟨h1, h2⟩ := ht
  have hl := Gf.lg_lt x hx
  have c1 := h2 x hx
  have c2 := h1 ((255 - Gf.lg x) % 255) (Nat.mod_lt _ (by decide))
  have e0 : Gf.gi x = Gf.pw ((255 - Gf.lg x) % 255) := rfl
  clear h1 h2
  generalize Gf.lg x = l at *
  have b1 : (0 : Int) ≤ x := by omega
  have b2 : (x : Int) < 256 := by omega
  obtain ⟨k, hk⟩ : ∃ k, k = (255 - l) % 255 := ⟨_, rfl⟩
  rw [← hk] at c2 e0
  have hk1 : k < 255 := by omega
  have hk2 : (k : Int) < 255 := by omega
  have hk0 : 0 ≤ (k : Int) := by omega
  have w1 : IntKind.i64.wrap (255 - (l : Int)) = 255 - l := IntWalk.i64_in _ (by omega)
  have w2 : (255 - (l : Int)).tmod 255 = k := by rw [Int.tmod_eq_emod_of_nonneg (by omega)]; omega
  have E := Lib.hid e0
  clear hk e0 hl
  go_enter Try.func127, Try.ntmps127
  go_wp2
  go_quiet (fail)
  go_wp2
  go_ret
  exact ⟨by rw [E.out]; rfl, _, rfl⟩

set_option maxRecDepth 100000 in
set_option maxHeartbeats 400000 in
theorem mul_any (b x y : Nat) (w : World) (hx : x < 256) (hy : y < 256) (ht : Tab w b) :
    Calls Try.prog 81 #[.pointer (some ⟨b, 0, none⟩), .int .u8 x, .int .u8 y] w fun e w' => e = .returned (.int .u8 (Gf.gm x y)) ∧ ∃ n, w' = w.drewN n := by
  by_cases x0 : x = 0
  · subst x0
    clear ht
    rw [Gf.gm_zero_left]
    go_enter Try.func81, Try.ntmps81
    go_wp2
    go_ret
    exact ⟨rfl, 0, rfl⟩
  have x1 : ((x : Int) == 0) = false := by simp; omega
  by_cases y0 : y = 0
  · subst y0
    clear ht x0
    rw [Gf.gm_zero_right]
    go_enter Try.func81, Try.ntmps81
    go_wp2
    go_ret
    exact ⟨rfl, 0, rfl⟩
  have y1 : ((y : Int) == 0) = false := by simp; omega
  obtain ⟨h1, h2⟩ := ht
  have hl := Gf.lg_lt x hx
  have hl' := Gf.lg_lt y hy
  have c1 := h2 x hx
  have c1' := h2 y hy
  have c2 := h1 ((Gf.lg x + Gf.lg y) % 255) (Nat.mod_lt _ (by decide))
  have e0 : Gf.gm x y = Gf.pw ((Gf.lg x + Gf.lg y) % 255) := by unfold Gf.gm; rw [if_neg (by simp [x0, y0])]
  clear h1 h2 x0 y0
  generalize Gf.lg x = l at *
  generalize Gf.lg y = m at *
  have b1 : (0 : Int) ≤ x := by omega
  have b2 : (x : Int) < 256 := by omega
  have b3 : (0 : Int) ≤ y := by omega
  have b4 : (y : Int) < 256 := by omega
  obtain ⟨k, hk⟩ : ∃ k, k = (l + m) % 255 := ⟨_, rfl⟩
  rw [← hk] at c2 e0
  have hk1 : k < 255 := by omega
  have hk2 : (k : Int) < 255 := by omega
  have hk0 : 0 ≤ (k : Int) := by omega
  have w1 : IntKind.i64.wrap ((l : Int) + m) = l + m := IntWalk.i64_in _ (by omega)
  have w2 : ((l : Int) + m).tmod 255 = k := by rw [Int.tmod_eq_emod_of_nonneg (by omega)]; omega
  have E := Lib.hid e0
  clear hk e0 hl
  go_enter Try.func81, Try.ntmps81
  go_wp2
  go_quiet (fail)
  go_wp2
  go_ret
  exact ⟨by rw [E.out]; rfl, _, rfl⟩

set_option maxRecDepth 100000 in
set_option maxHeartbeats 400000 in
theorem Mul_any (x y : Nat) (w : World) (hx : x < 256) (hy : y < 256) :
    Calls Try.prog 48 #[.int .u8 x, .int .u8 y] w fun e w' => e = .returned (.int .u8 (Gf.gm x y)) ∧ Below w.heap.size w w' := by
  have ht := Lib.hid (Tab.made w)
  go_enter Try.func48, Try.ntmps48
  go_wp2_with fail
  refine (field_any _).mono ?_
  rintro e w' ⟨rfl, rfl⟩
  go_wp2_with fail
  refine (mul_any _ _ _ _ hx hy ht.out).mono ?_
  rintro e w' ⟨rfl, n, rfl⟩
  go_wp2
  go_ret
  exact ⟨rfl, below_drewN ((Below.refl _ _).alloc (Nat.le_refl _) _) n⟩

end Go.Proofs.Ytkclmfppjhmnjaa

namespace Go.Proofs.Ytkclmfppjhmnjaa
open Go.RowKit

/-- Of the blocks of w those outside S are in w' as they were; the streams are as they were; no block has gone. -/
structure Kept (S : Nat → Prop) (w w' : World) : Prop where
  os : w'.os = w.os
  tape : w'.tape = w.tape
  output : w'.output = w.output
  size : w.heap.size ≤ w'.heap.size
  block : ∀ k, k < w.heap.size → ¬ S k → w'.heap[k]? = w.heap[k]?

theorem Kept.refl (S : Nat → Prop) (w : World) : Kept S w w := ⟨rfl, rfl, rfl, Nat.le_refl _, fun _ _ _ => rfl⟩

theorem Kept.trans {S : Nat → Prop} {a b c : World} (h : Kept S a b) (k : Kept S b c) : Kept S a c :=
  ⟨k.os.trans h.os, k.tape.trans h.tape, k.output.trans h.output, Nat.le_trans h.size k.size,
   fun i hi hs => (k.block i (Nat.lt_of_lt_of_le hi h.size) hs).trans (h.block i hi hs)⟩

theorem Kept.mono {S S' : Nat → Prop} {w w' : World} (h : Kept S w w') (hS : ∀ k, k < w.heap.size → S k → S' k) : Kept S' w w' :=
  ⟨h.os, h.tape, h.output, h.size, fun k hk hn => h.block k hk fun hs => hn (hS k hk hs)⟩

/-- What a later part of the run may change is either allowed or did not exist at the start. -/
theorem Kept.then {S S' : Nat → Prop} {a b c : World} (h : Kept S a b) (k : Kept S' b c) (hS : ∀ i, i < a.heap.size → S' i → S i) : Kept S a c :=
  ⟨k.os.trans h.os, k.tape.trans h.tape, k.output.trans h.output, Nat.le_trans h.size k.size,
   fun i hi hs => (k.block i (Nat.lt_of_lt_of_le hi h.size) fun hh => hs (hS i hi hh)).trans (h.block i hi hs)⟩

theorem Kept.drewN {S : Nat → Prop} {a w : World} (h : Kept S a w) (n : Nat) : Kept S a (w.drewN n) := h.trans ⟨rfl, rfl, rfl, Nat.le_refl _, fun _ _ _ => rfl⟩
theorem Kept.drew {S : Nat → Prop} {a w : World} (h : Kept S a w) : Kept S a w.drew := h.trans ⟨rfl, rfl, rfl, Nat.le_refl _, fun _ _ _ => rfl⟩

theorem Kept.alloc {S : Nat → Prop} {a w : World} (h : Kept S a w) (o : Obj) : Kept S a (w.alloc o) :=
  h.trans ⟨rfl, rfl, rfl, by simp, fun k hk _ => Below.heap_alloc _ _ _ hk⟩

theorem Kept.setCell {S : Nat → Prop} {a w : World} (h : Kept S a w) {p : Addr} (hp : p.block < a.heap.size → S p.block) (u : Value) : Kept S a (w.setCell p u) :=
  ⟨h.os, h.tape, h.output, by simpa [World.setCell] using h.size, fun k hk hn => by
    rw [Below.heap_setCell _ _ _ _ (fun e => hn (by subst e; exact hp hk))]; exact h.block k hk hn⟩

theorem Kept.of_below {S : Nat → Prop} {B : Nat} {w w' : World} (h : Below B w w') (hS : ∀ k, k < w.heap.size → B ≤ k → S k) : Kept S w w' :=
  ⟨h.os, h.tape, h.output, h.size, fun k hk hn => h.block k (Nat.lt_of_not_le fun hb => hn (hS k hk hb))⟩

theorem Kept.of_new {S : Nat → Prop} {w w' : World} (h : Below w.heap.size w w') : Kept S w w' := .of_below h fun _ h1 h2 => by omega

theorem Kept.of_grown {w w' : World} {row : Option Nat} (h : w.grownBy w' row) : Kept (fun k => some k = row) w w' :=
  ⟨h.os, h.tape, h.output, h.size, fun k hk hn => h.block k hk hn⟩

theorem Kept.below {S : Nat → Prop} {w w' : World} {B : Nat} (h : Kept S w w') (hB : B ≤ w.heap.size) (hS : ∀ k, k < B → ¬ S k) : Below B w w' :=
  ⟨h.os, h.tape, h.output, h.size, fun k hk => h.block k (by omega) (hS k hk)⟩

/-- Nothing that was there has changed. -/
theorem Kept.new {w w' : World} (h : Kept (fun _ => False) w w') : Below w.heap.size w w' := h.below (Nat.le_refl _) fun _ _ h => h

theorem Kept.cell {S : Nat → Prop} {w w' : World} (h : Kept S w w') {p : Addr} {v : Value} (hc : w.cell? p = some v) (hp : ¬ S p.block) : w'.cell? p = some v := by
  rw [World.cell?_of_block (w := w) (h.block p.block (World.block_lt_of_cell? w p hc) hp)]; exact hc

/-- Block g is a row of elements of type T, not frozen, whose first cells are xs. -/
def Blk (w : World) (g : Nat) (T : TypeId) (xs : List Value) : Prop := ∃ rest : List Value, w.heap[g]? = some (.cells (xs ++ rest).toArray T (0, 0))

theorem Blk.lt {w : World} {g T : Nat} {xs : List Value} (h : Blk w g T xs) : g < w.heap.size := by
  obtain ⟨r, h⟩ := h; exact (Array.getElem?_eq_some_iff.1 h).1

theorem Blk.of_same {w w' : World} {g T : Nat} {xs : List Value} (h : Blk w g T xs) (e : w'.heap[g]? = w.heap[g]?) : Blk w' g T xs := by
  obtain ⟨r, h⟩ := h; exact ⟨r, by rw [e, h]⟩

theorem Blk.kept {S : Nat → Prop} {w w' : World} {g T : Nat} {xs : List Value} (h : Blk w g T xs) (k : Kept S w w') (hg : ¬ S g) : Blk w' g T xs :=
  h.of_same (k.block g h.lt hg)

theorem Blk.below {B : Nat} {w w' : World} {g T : Nat} {xs : List Value} (h : Blk w g T xs) (k : Below B w w') (hg : g < B) : Blk w' g T xs :=
  h.of_same (k.block g hg)

theorem Blk.cell {w : World} {g T : Nat} {xs : List Value} (h : Blk w g T xs) {i : Nat} {v : Value} (hi : xs[i]? = some v) : w.cell? ⟨g, i, none⟩ = some v := by
  obtain ⟨r, h⟩ := h
  have hl := (List.getElem?_eq_some_iff.1 hi).1
  simp only [World.cell?, h]
  simp [List.getElem?_append_left hl, hi]

theorem Blk.frozen {w : World} {g T : Nat} {xs : List Value} (h : Blk w g T xs) (i : Nat) : w.frozen? ⟨g, i, none⟩ = false := by
  obtain ⟨r, h⟩ := h
  simp [World.frozen?, h]

theorem Blk.setCell {w : World} {g T : Nat} {xs : List Value} (h : Blk w g T xs) {i : Nat} (hi : i < xs.length) (u : Value) : Blk (w.setCell ⟨g, i, none⟩ u) g T (xs.set i u) := by
  obtain ⟨r, h⟩ := h
  refine ⟨r, ?_⟩
  simp only [World.setCell, Array.getElem?_modify, if_true, h, Option.map_some]
  simp [List.set_append_left _ _ hi]

theorem Blk.setCell_other {w : World} {g T : Nat} {xs : List Value} (h : Blk w g T xs) {p : Addr} (hp : g ≠ p.block) (u : Value) : Blk (w.setCell p u) g T xs :=
  h.of_same (Below.heap_setCell _ _ _ _ hp)

theorem Blk.alloc {w : World} {g T : Nat} {xs : List Value} (h : Blk w g T xs) (o : Obj) : Blk (w.alloc o) g T xs := h.of_same (Below.heap_alloc _ _ _ h.lt)
theorem Blk.drewN {w : World} {g T : Nat} {xs : List Value} (h : Blk w g T xs) (n : Nat) : Blk (w.drewN n) g T xs := h
theorem Blk.drew {w : World} {g T : Nat} {xs : List Value} (h : Blk w g T xs) : Blk w.drew g T xs := h

theorem Blk.new (w : World) (T : TypeId) (xs : Array Value) : Blk (w.alloc (.cells xs T)) w.heap.size T xs.toList := by
  refine ⟨[], ?_⟩
  show (w.heap.push _)[w.heap.size]? = _
  simp

theorem Blk.of_owns {w : World} {base e : Nat} {g n cap : Nat} {xs : List Value} (h : w.ownsRow base e 1 (.slice (some ⟨g, 0, none⟩) n cap) n xs) : Blk w g e xs := by
  rcases h.2 with ⟨h0, _⟩ | ⟨g', cap', cur, hv, _, hh, _, _, _, ht⟩
  · simp at h0
  · simp only [Value.slice.injEq, Option.some.injEq, Addr.mk.injEq] at hv
    obtain ⟨⟨rfl, _⟩, _, _⟩ := hv
    refine ⟨cur.toList.drop (n * 1), ?_⟩
    rw [hh, ← ht, List.take_append_drop]

theorem getD_some {α : Type} {l : List α} {i : Nat} {d : α} (h : i < l.length) : l[i]? = some (l.getD i d) := by
  rw [List.getD_eq_getElem?_getD, List.getElem?_eq_getElem h]; rfl

/-- A byte as a value. -/
def bv (n : Nat) : Value := .int .u8 n

/-- All elements are bytes. -/
def Byt (l : List Nat) : Prop := ∀ x ∈ l, x < 256

theorem Byt.get {l : List Nat} (h : Byt l) {i x : Nat} (hx : l[i]? = some x) : x < 256 := h x (List.mem_of_getElem? hx)
theorem Byt.getD {l : List Nat} (h : Byt l) (i : Nat) : l.getD i 0 < 256 := by
  rw [List.getD_eq_getElem?_getD]
  cases hx : l[i]? with
  | none => decide
  | some x => exact h.get hx

/-- From address (b, o) on lie the bytes l. -/
def RowAt (w : World) (b o : Nat) (l : List Nat) : Prop := ∀ i x, l[i]? = some x → w.cell? ⟨b, o + i, none⟩ = some (bv x)

theorem RowAt.kept {S : Nat → Prop} {w w' : World} {b o : Nat} {l : List Nat} (h : RowAt w b o l) (k : Kept S w w') (hb : ¬ S b) : RowAt w' b o l :=
  fun i x hx => k.cell (h i x hx) hb

theorem RowAt.drop {w : World} {b o : Nat} {l : List Nat} (h : RowAt w b o l) (k : Nat) : RowAt w b (o + k) (l.drop k) := by
  intro i x hx
  rw [List.getElem?_drop] at hx
  rw [Nat.add_assoc]; exact h _ x hx

theorem RowAt.take {w : World} {b o : Nat} {l : List Nat} (h : RowAt w b o l) (k : Nat) : RowAt w b o (l.take k) := by
  intro i x hx
  rw [List.getElem?_take] at hx
  split at hx
  · exact h _ x hx
  · simp at hx

theorem Blk.row {w : World} {g T : Nat} {l : List Nat} (h : Blk w g T (l.map bv)) : RowAt w g 0 l := by
  intro i x hx
  rw [Nat.zero_add]
  exact h.cell (by simp [hx])

/-- A slice of bytes reads as l. -/
def Bs (w : World) (v : Value) (l : List Nat) : Prop :=
  ∃ (a : Option Addr) (cap : Nat), v = .slice a l.length cap ∧ l.length ≤ cap ∧ (l = [] ∨ ∃ b o, a = some ⟨b, o, none⟩ ∧ RowAt w b o l)

/-- The blocks that a slice value points into. -/
def inBlk (v : Value) (k : Nat) : Prop := v.ownBlock = some k

theorem Bs.kept {S : Nat → Prop} {w w' : World} {v : Value} {l : List Nat} (h : Bs w v l) (k : Kept S w w') (hb : ∀ g, inBlk v g → l ≠ [] → ¬ S g) : Bs w' v l := by
  obtain ⟨a, cap, rfl, hc, h⟩ := h
  refine ⟨a, cap, rfl, hc, ?_⟩
  rcases h with h | ⟨b, o, rfl, hr⟩
  · exact Or.inl h
  · by_cases hl : l = []
    · exact Or.inl hl
    · exact Or.inr ⟨b, o, rfl, hr.kept k (hb b rfl hl)⟩

/-- A slice of slices reads as the row values vs: cells from (b, o) on. -/
def ValsAt (w : World) (b o : Nat) (vs : List Value) : Prop := ∀ i v, vs[i]? = some v → w.cell? ⟨b, o + i, none⟩ = some v

/-- A slice of slices of bytes reads as m: its header and, for each row, the row's header and bytes. -/
def Rw (w : World) (v : Value) (r : List Nat) (a : Option Addr) (c : Nat) : Prop := v = .slice a r.length c ∧ r.length ≤ c ∧ (r = [] ∨ ∃ b o, a = some ⟨b, o, none⟩ ∧ RowAt w b o r)

def MxAt (w : World) (b o : Nat) (m : List (List Nat)) (A : Nat → Option Addr) (C : Nat → Nat) : Prop :=
  ∀ i r, m[i]? = some r → w.cell? ⟨b, o + i, none⟩ = some (.slice (A i) r.length (C i)) ∧ r.length ≤ C i ∧ (r = [] ∨ ∃ b' o', A i = some ⟨b', o', none⟩ ∧ RowAt w b' o' r) ∧ (A i = none → C i = 0)

def Mx (w : World) (v : Value) (m : List (List Nat)) : Prop :=
  ∃ (a : Option Addr) (cap : Nat), v = .slice a m.length cap ∧ m.length ≤ cap ∧ (m = [] ∨ ∃ b o A C, a = some ⟨b, o, none⟩ ∧ MxAt w b o m A C)

theorem MxAt.kept {S : Nat → Prop} {w w' : World} {b o : Nat} {m : List (List Nat)} {A : Nat → Option Addr} {C : Nat → Nat} (h : MxAt w b o m A C) (k : Kept S w w') (hb : ¬ S b) (hr : ∀ i r b' o', m[i]? = some r → A i = some ⟨b', o', none⟩ → r ≠ [] → ¬ S b') : MxAt w' b o m A C := by
  intro i r hi
  obtain ⟨h1, h2, h3, h4⟩ := h i r hi
  refine ⟨k.cell h1 hb, h2, ?_, h4⟩
  rcases h3 with h3 | ⟨b', o', ha, h3⟩
  · exact Or.inl h3
  · by_cases hr0 : r = []
    · exact Or.inl hr0
    · exact Or.inr ⟨b', o', ha, h3.kept k (hr i r b' o' hi ha hr0)⟩

theorem MxAt.new {w w' : World} {b o : Nat} {m : List (List Nat)} {A : Nat → Option Addr} {C : Nat → Nat} (h : MxAt w b o m A C) (k : Below w.heap.size w w') : MxAt w' b o m A C :=
  h.kept (S := fun _ => False) (.of_new k) id fun _ _ _ _ _ _ _ => id

theorem Mx.new {w w' : World} {v : Value} {m : List (List Nat)} (h : Mx w v m) (k : Below w.heap.size w w') : Mx w' v m := by
  obtain ⟨a, cap, hv, hc, h⟩ := h
  refine ⟨a, cap, hv, hc, ?_⟩
  rcases h with h | ⟨b, o, A, C, ha, h⟩
  · exact Or.inl h
  · exact Or.inr ⟨b, o, A, C, ha, h.new k⟩

theorem RowAt.new {w w' : World} {b o : Nat} {l : List Nat} (h : RowAt w b o l) (k : Below w.heap.size w w') : RowAt w' b o l :=
  h.kept (S := fun _ => False) (.of_new k) id

theorem Bs.new {w w' : World} {v : Value} {l : List Nat} (h : Bs w v l) (k : Below w.heap.size w w') : Bs w' v l :=
  h.kept (S := fun _ => False) (.of_new k) fun _ _ _ => id

/-- All elements are bytes. -/
def BytM (m : List (List Nat)) : Prop := ∀ r ∈ m, Byt r

/-- The rows are a matrix with at most 64 rows and columns. -/
def isMat (m : List (List Nat)) : Prop := 1 ≤ m.length ∧ m.length ≤ 64 ∧ 1 ≤ (m.getD 0 []).length ∧ (m.getD 0 []).length ≤ 64 ∧ ∀ r ∈ m, r.length = (m.getD 0 []).length
instance (m : List (List Nat)) : Decidable (isMat m) := by unfold isMat; infer_instance
def isMatB (m : List (List Nat)) : Bool := decide (isMat m)

end Go.Proofs.Ytkclmfppjhmnjaa

namespace Go.Proofs.Ytkclmfppjhmnjaa

/-- Add a multiple of a row to another one. -/
def addMul (f : Nat) (to fr : List Nat) : List Nat := List.zipWith (fun t x => t ^^^ Gf.gm f x) to fr
def amTo (f : Nat) (to fr : List Nat) (k : Nat) : List Nat := (addMul f to fr).take k ++ to.drop k

theorem addMul_length (f : Nat) (to fr : List Nat) : (addMul f to fr).length = min to.length fr.length := by simp [addMul]
theorem amTo_zero (f : Nat) (to fr : List Nat) : amTo f to fr 0 = to := by simp [amTo]
theorem amTo_all {f : Nat} {to fr : List Nat} {k : Nat} (hk : k = fr.length) (hl : to.length = fr.length) : amTo f to fr k = addMul f to fr := by
  unfold amTo
  rw [List.take_of_length_le (by rw [addMul_length]; omega), List.drop_of_length_le (by omega), List.append_nil]
theorem amTo_get {f : Nat} {to fr : List Nat} {k : Nat} (hk : k < fr.length) (hl : to.length = fr.length) : (amTo f to fr k)[k]? = some (to.getD k 0) := by
  have h1 : ((addMul f to fr).take k).length = k := by rw [List.length_take, addMul_length]; omega
  unfold amTo
  rw [List.getElem?_append_right (by omega), h1, Nat.sub_self, List.getElem?_drop, Nat.add_zero, List.getD_eq_getElem?_getD, List.getElem?_eq_getElem (by omega)]
  rfl
theorem amTo_set {f : Nat} {to fr : List Nat} {k : Nat} (hk : k < fr.length) (hl : to.length = fr.length) : (amTo f to fr k).set k (to.getD k 0 ^^^ Gf.gm f (fr.getD k 0)) = amTo f to fr (k + 1) := by
  have h1 : ((addMul f to fr).take k).length = k := by rw [List.length_take, addMul_length]; omega
  have h2 : k < (addMul f to fr).length := by rw [addMul_length]; omega
  have h3 : (addMul f to fr)[k] = to.getD k 0 ^^^ Gf.gm f (fr.getD k 0) := by
    simp [addMul, List.getD_eq_getElem?_getD, List.getElem?_eq_getElem hk, List.getElem?_eq_getElem (show k < to.length by omega)]
  unfold amTo
  rw [List.set_append_right _ _ (by omega), h1, Nat.sub_self, List.take_succ_eq_append_getElem h2, h3, List.drop_eq_getElem_cons (show k < to.length by omega), List.append_assoc]
  rfl


theorem addMul_byt {f : Nat} {to fr : List Nat} (h : Byt to) : Byt (addMul f to fr) := by
  intro x hx
  unfold addMul at hx
  rw [List.mem_iff_getElem?] at hx
  obtain ⟨i, hi⟩ := hx
  rw [List.getElem?_zipWith] at hi
  cases h1 : to[i]? with
  | none => simp [h1] at hi
  | some a =>
    cases h2 : fr[i]? with
    | none => simp [h1, h2] at hi
    | some b =>
      simp only [h1, h2, Option.some.injEq] at hi
      subst hi
      exact Gf.xor_lt (h.get h1) (Gf.gm_lt _ _)

/-- The first index below n at which p holds; -1 if there is none. -/
def firstOf (p : Nat → Bool) (n : Nat) : Int := match (List.range n).find? p with | some i => i | none => -1

theorem firstOf_hit {p : Nat → Bool} {n k : Nat} (hk : k < n) (hp : p k = true) (hn : ∀ j, j < k → p j = false) : firstOf p n = k := by
  have : (List.range n).find? p = some k := by
    rw [List.find?_range_eq_some]
    exact ⟨hp, by simpa using hk, fun j hj => by simp [hn j hj]⟩
  simp [firstOf, this]

theorem firstOf_none {p : Nat → Bool} {n : Nat} (hn : ∀ j, j < n → p j = false) : firstOf p n = -1 := by
  have : (List.range n).find? p = none := by
    rw [List.find?_eq_none]
    intro x hx; simp [hn x (List.mem_range.1 hx)]
  simp [firstOf, this]

theorem firstOf_cases (p : Nat → Bool) (n : Nat) : (firstOf p n = -1 ∧ ∀ j, j < n → p j = false) ∨ ∃ k : Nat, firstOf p n = k ∧ k < n ∧ p k = true ∧ ∀ j, j < k → p j = false := by
  cases h : (List.range n).find? p with
  | none =>
    left
    have h' := List.find?_eq_none.1 h
    have : ∀ j, j < n → p j = false := fun j hj => by simpa using h' j (List.mem_range.2 hj)
    exact ⟨firstOf_none this, this⟩
  | some k =>
    right
    rw [List.find?_range_eq_some] at h
    obtain ⟨h1, h2, h3⟩ := h
    have h2' : k < n := by simpa using h2
    have h3' : ∀ j, j < k → p j = false := fun j hj => by simpa using h3 j hj
    exact ⟨k, firstOf_hit h2' h1 h3', h2', h1, h3'⟩

def swapM (m : List (List Nat)) (i j : Nat) : List (List Nat) := (m.set i (m.getD j [])).set j (m.getD i [])

/-- The row of a pivot, divided by it. -/
def unitRow (c : Nat) (r : List Nat) : List Nat := addMul (Gf.gi (r.getD c 0) ^^^ 1) r r

def elimRow (pv : List Nat) (c rank i : Nat) (row : List Nat) : List Nat := if i = rank then row else addMul (row.getD c 0) row pv
def elimM (pv : List Nat) (c rank : Nat) (m : List (List Nat)) : List (List Nat) := m.mapIdx (elimRow pv c rank)

/-- Where the pivot of column c lies, counted from the row rank on. -/
def pivotAt (m : List (List Nat)) (c rank : Nat) : Int := firstOf (fun j => (m.getD (rank + j) []).getD c 0 != 0) (m.length - rank)

def hitM (m : List (List Nat)) (c rank p : Nat) : List (List Nat) :=
  let m1 := swapM m rank (rank + p)
  let pv := unitRow c (m1.getD rank [])
  elimM pv c rank (m1.set rank pv)

def stepR (c : Nat) (s : List (List Nat) × Nat) : List (List Nat) × Nat :=
  if pivotAt s.1 c s.2 < 0 then s else (hitM s.1 c s.2 (pivotAt s.1 c s.2).toNat, s.2 + 1)

/-- The matrix and its rank after c columns. -/
def redTo (m : List (List Nat)) : Nat → List (List Nat) × Nat
  | 0 => (m, 0)
  | c + 1 => stepR c (redTo m c)

/-- All rows have n bytes. -/
def Rect (n : Nat) (m : List (List Nat)) : Prop := ∀ r ∈ m, r.length = n ∧ Byt r

theorem Rect.get {n : Nat} {m : List (List Nat)} (h : Rect n m) {i : Nat} (hi : i < m.length) : (m.getD i []).length = n ∧ Byt (m.getD i []) := by
  rw [List.getD_eq_getElem?_getD, List.getElem?_eq_getElem hi]
  exact h _ (List.getElem_mem hi)

theorem swapM_length (m : List (List Nat)) (i j : Nat) : (swapM m i j).length = m.length := by simp [swapM]
theorem elimM_length (pv : List Nat) (c rank : Nat) (m : List (List Nat)) : (elimM pv c rank m).length = m.length := by simp [elimM]
theorem hitM_length (m : List (List Nat)) (c rank p : Nat) : (hitM m c rank p).length = m.length := by simp [hitM, elimM_length, swapM_length]
theorem stepR_length (c : Nat) (s : List (List Nat) × Nat) : (stepR c s).1.length = s.1.length := by
  unfold stepR; split
  · rfl
  · exact hitM_length _ _ _ _
theorem redTo_length (m : List (List Nat)) (c : Nat) : (redTo m c).1.length = m.length := by
  induction c with
  | zero => rfl
  | succ c ih => rw [show redTo m (c + 1) = stepR c (redTo m c) from rfl, stepR_length, ih]

theorem Rect.set {n : Nat} {m : List (List Nat)} (h : Rect n m) {r : List Nat} (hr : r.length = n ∧ Byt r) (i : Nat) : Rect n (m.set i r) := by
  intro x hx
  rcases List.mem_or_eq_of_mem_set hx with h1 | h1
  · exact h x h1
  · subst h1; exact hr

theorem swapM_rect {n : Nat} {m : List (List Nat)} (h : Rect n m) {i j : Nat} (hi : i < m.length) (hj : j < m.length) : Rect n (swapM m i j) :=
  (h.set (h.get hj) i).set (h.get hi) j

theorem unitRow_ok {n c : Nat} {r : List Nat} (h : r.length = n ∧ Byt r) : (unitRow c r).length = n ∧ Byt (unitRow c r) :=
  ⟨by unfold unitRow; rw [addMul_length]; omega, addMul_byt h.2⟩

theorem elimM_rect {n : Nat} {pv : List Nat} (hp : pv.length = n) (c rank : Nat) {m : List (List Nat)} (h : Rect n m) : Rect n (elimM pv c rank m) := by
  intro x hx
  unfold elimM at hx
  obtain ⟨i, hi, rfl⟩ := List.mem_mapIdx.1 hx
  have := h _ (List.getElem_mem hi)
  unfold elimRow
  split
  · exact this
  · exact ⟨by rw [addMul_length]; omega, addMul_byt this.2⟩

theorem hitM_rect {n : Nat} {m : List (List Nat)} (h : Rect n m) {c rank p : Nat} (hr : rank + p < m.length) : Rect n (hitM m c rank p) := by
  have h1 : Rect n (swapM m rank (rank + p)) := swapM_rect h (by omega) hr
  have h2 := unitRow_ok (c := c) (h1.get (i := rank) (by rw [swapM_length]; omega))
  exact elimM_rect h2.1 _ _ (h1.set h2 _)

theorem pivotAt_cases (m : List (List Nat)) (c rank : Nat) : pivotAt m c rank = -1 ∨ ∃ k : Nat, pivotAt m c rank = k ∧ rank + k < m.length ∧ (m.getD (rank + k) []).getD c 0 ≠ 0 := by
  rcases firstOf_cases (fun j => (m.getD (rank + j) []).getD c 0 != 0) (m.length - rank) with ⟨h, _⟩ | ⟨k, h, h1, h2, _⟩
  · exact Or.inl h
  · exact Or.inr ⟨k, h, by omega, by simpa using h2⟩

theorem stepR_rect {n : Nat} {s : List (List Nat) × Nat} (h : Rect n s.1) (c : Nat) : Rect n (stepR c s).1 := by
  unfold stepR
  rcases pivotAt_cases s.1 c s.2 with hp | ⟨k, hp, h1, _⟩
  · rw [hp, if_pos (by decide)]; exact h
  · rw [hp, if_neg (by omega), Int.toNat_natCast]; exact hitM_rect h h1

theorem redTo_rect {n : Nat} {m : List (List Nat)} (h : Rect n m) (c : Nat) : Rect n (redTo m c).1 := by
  induction c with
  | zero => exact h
  | succ c ih => exact stepR_rect ih c

theorem stepR_rank {s : List (List Nat) × Nat} (h : s.2 ≤ s.1.length) (c : Nat) : (stepR c s).2 ≤ s.1.length := by
  unfold stepR
  rcases pivotAt_cases s.1 c s.2 with hp | ⟨k, hp, h1, _⟩
  · rw [hp, if_pos (by decide)]; exact h
  · rw [hp, if_neg (by omega)]; show s.2 + 1 ≤ _; omega

theorem redTo_rank (m : List (List Nat)) (c : Nat) : (redTo m c).2 ≤ m.length := by
  induction c with
  | zero => exact Nat.zero_le _
  | succ c ih =>
    have := stepR_rank (s := redTo m c) (by rw [redTo_length]; exact ih) c
    rw [redTo_length] at this
    exact this

/-- Once every row has a pivot nothing changes. -/
theorem redTo_full {m : List (List Nat)} {c : Nat} (h : (redTo m c).2 = m.length) (d : Nat) : redTo m (c + d) = redTo m c := by
  induction d with
  | zero => rfl
  | succ d ih =>
    show stepR (c + d) (redTo m (c + d)) = _
    rw [ih]
    unfold stepR
    have : pivotAt (redTo m c).1 (c + d) (redTo m c).2 = -1 := firstOf_none fun j hj => by rw [redTo_length] at hj; omega
    rw [this, if_pos (by decide)]

end Go.Proofs.Ytkclmfppjhmnjaa
