/- Plain: the field with 256 elements as a type, finite sums, square matrices, row equivalence. No program in sight. -/
/- Contracts of checksum.Open and of the third reference's Open. -/
/- The contract of repair.Restore. -/
import Derived.Test.YtkclmfppjhmnjaaGreatB00
import Derived.Test.YtkclmfppjhmnjaaGreatB19
import Derived.Test.YtkclmfppjhmnjaaGreatB08
import Derived.Test.YtkclmfppjhmnjaaGreatB11
import Derived.Test.YtkclmfppjhmnjaaGreatB15
namespace Go.Proofs.YtkclmfppjhmnjaaGreat.Alg
open Go.Proofs.YtkclmfppjhmnjaaGreat

abbrev G := Fin 256
def ga (a b : G) : G := ⟨a.val ^^^ b.val, Gf.xor_lt a.2 b.2⟩
def gx (a b : G) : G := ⟨Gf.gm a.val b.val, Gf.gm_lt _ _⟩
def g0 : G := ⟨0, by decide⟩
def g1 : G := ⟨1, by decide⟩
def gv (a : G) : G := ⟨Gf.gi a.val, Gf.gi_lt _⟩

theorem ga_comm (a b : G) : ga a b = ga b a := Fin.ext (Nat.xor_comm _ _)
theorem ga_assoc (a b c : G) : ga (ga a b) c = ga a (ga b c) := Fin.ext (Nat.xor_assoc _ _ _)
theorem ga_self (a : G) : ga a a = g0 := Fin.ext (Nat.xor_self _)
theorem ga_zero (a : G) : ga a g0 = a := Fin.ext (Nat.xor_zero _)
theorem zero_ga (a : G) : ga g0 a = a := Fin.ext (Nat.zero_xor _)
theorem gx_comm (a b : G) : gx a b = gx b a := Fin.ext (Gf.gm_comm _ _)
theorem gx_assoc (a b c : G) : gx (gx a b) c = gx a (gx b c) := Fin.ext (Gf.gm_assoc a.2 b.2 c.2)
theorem gx_ga (a b c : G) : gx a (ga b c) = ga (gx a b) (gx a c) := Fin.ext (Gf.gm_xor a.2 b.2 c.2)
theorem ga_gx (a b c : G) : gx (ga a b) c = ga (gx a c) (gx b c) := Fin.ext (Gf.xor_gm a.2 b.2 c.2)
theorem gx_one (a : G) : gx a g1 = a := Fin.ext (Gf.gm_one a.2)
theorem one_gx (a : G) : gx g1 a = a := Fin.ext (Gf.one_gm a.2)
theorem gx_zero (a : G) : gx a g0 = g0 := Fin.ext (Gf.gm_zero_right _)
theorem zero_gx (a : G) : gx g0 a = g0 := Fin.ext (Gf.gm_zero_left a.val)
theorem ne_val {a : G} (h : a ≠ g0) : a.val ≠ 0 := fun e => h (Fin.ext e)
theorem gx_gv {a : G} (h : a ≠ g0) : gx a (gv a) = g1 := Fin.ext (Gf.gm_gi a.2 (ne_val h))
theorem gv_gx {a : G} (h : a ≠ g0) : gx (gv a) a = g1 := by rw [gx_comm, gx_gv h]
theorem g1_ne : g1 ≠ g0 := by decide
theorem gv_ne (a : G) : gv a ≠ g0 := fun e => Gf.gi_ne a.val (congrArg Fin.val e)
theorem gx_eq_zero {a b : G} (h : gx a b = g0) (hb : b ≠ g0) : a = g0 := by
  have : gx (gx a b) (gv b) = g0 := by rw [h, zero_gx]
  rw [gx_assoc, gx_gv hb, gx_one] at this
  exact this
theorem ga_eq_zero {a b : G} (h : ga a b = g0) : a = b := by
  have : ga (ga a b) b = b := by rw [h, zero_ga]
  rw [ga_assoc, ga_self, ga_zero] at this
  exact this
theorem ga_swap (a b c d : G) : ga (ga a b) (ga c d) = ga (ga a c) (ga b d) := by
  rw [ga_assoc, ga_assoc, ← ga_assoc b c d, ga_comm b c, ga_assoc c b d]

/-- Sums. -/
def S : Nat → (Nat → G) → G
  | 0, _ => g0
  | n + 1, f => ga (S n f) (f n)

theorem S_congr {n : Nat} {f g : Nat → G} (h : ∀ k, k < n → f k = g k) : S n f = S n g := by
  induction n with
  | zero => rfl
  | succ n ih => show ga (S n f) (f n) = ga (S n g) (g n); rw [ih fun k hk => h k (by omega), h n (by omega)]
theorem S_zero {n : Nat} {f : Nat → G} (h : ∀ k, k < n → f k = g0) : S n f = g0 := by
  induction n with
  | zero => rfl
  | succ n ih => show ga (S n f) (f n) = g0; rw [ih fun k hk => h k (by omega), h n (by omega), ga_zero]
theorem S_ga (n : Nat) (f g : Nat → G) : S n (fun k => ga (f k) (g k)) = ga (S n f) (S n g) := by
  induction n with
  | zero => exact (ga_zero g0).symm
  | succ n ih => show ga (S n _) _ = ga (ga (S n f) (f n)) (ga (S n g) (g n)); rw [ih, ga_swap]
theorem S_left (n : Nat) (a : G) (f : Nat → G) : gx a (S n f) = S n fun k => gx a (f k) := by
  induction n with
  | zero => exact gx_zero a
  | succ n ih => show gx a (ga (S n f) (f n)) = ga (S n _) _; rw [gx_ga, ih]
theorem S_right (n : Nat) (a : G) (f : Nat → G) : gx (S n f) a = S n fun k => gx (f k) a := by
  rw [gx_comm, S_left]; exact S_congr fun k _ => gx_comm _ _
theorem S_comm (n m : Nat) (f : Nat → Nat → G) : S n (fun i => S m fun j => f i j) = S m fun j => S n fun i => f i j := by
  induction n with
  | zero => exact (S_zero fun _ _ => rfl).symm
  | succ n ih => show ga (S n _) _ = _; rw [ih, ← S_ga]; rfl
theorem S_one {n s : Nat} (hs : s < n) (f : Nat → G) : S n (fun k => if k = s then f k else g0) = f s := by
  induction n with
  | zero => omega
  | succ n ih =>
    show ga (S n _) (if n = s then f n else g0) = f s
    by_cases h : n = s
    · subst h
      rw [if_pos rfl, S_zero (fun k hk => if_neg (by omega)), zero_ga]
    · rw [if_neg h, ih (by omega), ga_zero]

/-- Matrices. -/
abbrev Mt := Nat → Nat → G
def mul (n : Nat) (A B : Mt) : Mt := fun i j => S n fun k => gx (A i k) (B k j)
def one : Mt := fun i j => if i = j then g1 else g0

theorem mul_assoc (n m : Nat) (A B C : Mt) (i j : Nat) : mul n (mul m A B) C i j = mul m A (mul n B C) i j := by
  show S n (fun k => gx (S m fun l => gx (A i l) (B l k)) (C k j)) = S m fun l => gx (A i l) (S n fun k => gx (B l k) (C k j))
  have h1 : S n (fun k => gx (S m fun l => gx (A i l) (B l k)) (C k j)) = S n fun k => S m fun l => gx (gx (A i l) (B l k)) (C k j) := S_congr fun k _ => S_right _ _ _
  rw [h1, S_comm]
  exact S_congr fun l _ => by rw [S_left]; exact S_congr fun k _ => gx_assoc _ _ _
theorem mul_congr {n i j : Nat} {A A' B B' : Mt} (hA : ∀ k, k < n → A i k = A' i k) (hB : ∀ k, k < n → B k j = B' k j) : mul n A B i j = mul n A' B' i j :=
  S_congr fun k hk => by rw [hA k hk, hB k hk]
theorem one_mul {n i : Nat} (hi : i < n) (A : Mt) (j : Nat) : mul n one A i j = A i j := by
  show S n (fun k => gx (if i = k then g1 else g0) (A k j)) = A i j
  have : S n (fun k => gx (if i = k then g1 else g0) (A k j)) = S n fun k => if k = i then A k j else g0 := S_congr fun k _ => by
    by_cases h : i = k
    · rw [if_pos h, if_pos h.symm, one_gx]
    · rw [if_neg h, if_neg fun e => h e.symm, zero_gx]
  rw [this, S_one hi fun k => A k j]
theorem mul_one {n j : Nat} (hj : j < n) (A : Mt) (i : Nat) : mul n A one i j = A i j := by
  show S n (fun k => gx (A i k) (if k = j then g1 else g0)) = A i j
  have : S n (fun k => gx (A i k) (if k = j then g1 else g0)) = S n fun k => if k = j then A i k else g0 := S_congr fun k _ => by
    by_cases h : k = j
    · rw [if_pos h, if_pos h, gx_one]
    · rw [if_neg h, if_neg h, gx_zero]
  rw [this, S_one hj fun k => A i k]

/-- Equal in the first r rows and c columns. -/
def Eqv (r c : Nat) (A B : Mt) : Prop := ∀ i j, i < r → j < c → A i j = B i j
theorem Eqv.refl (r c : Nat) (A : Mt) : Eqv r c A A := fun _ _ _ _ => rfl
theorem Eqv.symm {r c : Nat} {A B : Mt} (h : Eqv r c A B) : Eqv r c B A := fun i j hi hj => (h i j hi hj).symm
theorem Eqv.trans {r c : Nat} {A B C : Mt} (h : Eqv r c A B) (k : Eqv r c B C) : Eqv r c A C := fun i j hi hj => (h i j hi hj).trans (k i j hi hj)
theorem Eqv.mul {r n c : Nat} {A A' B B' : Mt} (h : Eqv r n A A') (k : Eqv n c B B') : Eqv r c (mul n A B) (mul n A' B') := fun i j hi hj => mul_congr (fun k hk => h i k hi hk) (fun l hl => k l j hl hj)

/-- The rows of W' are those of W, multiplied by an invertible matrix. -/
def RE (n c : Nat) (W W' : Mt) : Prop := ∃ A B : Mt, Eqv n n (mul n A B) one ∧ Eqv n n (mul n B A) one ∧ Eqv n c W' (mul n A W)

theorem RE.refl (n c : Nat) (W : Mt) : RE n c W W := ⟨one, one, fun _ _ hi _ => one_mul hi _ _, fun _ _ hi _ => one_mul hi _ _, fun _ _ hi _ => (one_mul hi _ _).symm⟩

theorem RE.trans {n c : Nat} {U V W : Mt} (h : RE n c U V) (k : RE n c V W) : RE n c U W := by
  obtain ⟨A, B, h1, h2, h3⟩ := h
  obtain ⟨A', B', k1, k2, k3⟩ := k
  refine ⟨mul n A' A, mul n B B', ?_, ?_, ?_⟩
  · intro i j hi hj
    rw [mul_assoc]
    have e : Eqv n n (mul n A (mul n B B')) B' := fun i j hi hj => by
      rw [← mul_assoc, mul_congr (fun k hk => h1 i k hi hk) (fun _ _ => rfl), one_mul hi]
    rw [mul_congr (fun _ _ => rfl) (fun k hk => e k j hk hj)]
    exact k1 i j hi hj
  · intro i j hi hj
    rw [mul_assoc]
    have e : Eqv n n (mul n B' (mul n A' A)) A := fun i j hi hj => by
      rw [← mul_assoc, mul_congr (fun k hk => k2 i k hi hk) (fun _ _ => rfl), one_mul hi]
    rw [mul_congr (fun _ _ => rfl) (fun k hk => e k j hk hj)]
    exact h2 i j hi hj
  · intro i j hi hj
    rw [mul_assoc, k3 i j hi hj]
    exact mul_congr (fun _ _ => rfl) (fun k hk => h3 k j hk hj)

theorem RE.eqv {n c : Nat} {U V W : Mt} (h : RE n c U V) (k : Eqv n c W V) : RE n c U W := by
  obtain ⟨A, B, h1, h2, h3⟩ := h
  exact ⟨A, B, h1, h2, k.trans h3⟩

/-- A permutation of the rows. -/
theorem RE.perm {n c : Nat} (W : Mt) {σ : Nat → Nat} (hσ : ∀ i, i < n → σ i < n) (hσσ : ∀ i, i < n → σ (σ i) = i) : RE n c W fun i j => W (σ i) j := by
  have key : ∀ (V : Mt) (i j : Nat), i < n → mul n (fun i k => if k = σ i then g1 else g0) V i j = V (σ i) j := by
    intro V i j hi
    show S n (fun k => gx (if k = σ i then g1 else g0) (V k j)) = _
    have : S n (fun k => gx (if k = σ i then g1 else g0) (V k j)) = S n fun k => if k = σ i then V k j else g0 := S_congr fun k _ => by
      by_cases h : k = σ i
      · rw [if_pos h, if_pos h, one_gx]
      · rw [if_neg h, if_neg h, zero_gx]
    rw [this, S_one (hσ i hi) fun k => V k j]
  have hone : Eqv n n (mul n (fun i k => if k = σ i then g1 else g0) (fun i k => if k = σ i then g1 else g0)) one := by
    intro i j hi hj
    rw [key _ i j hi, hσσ i hi]
    unfold one
    by_cases h : i = j
    · rw [if_pos h, if_pos h.symm]
    · rw [if_neg h, if_neg fun e => h e.symm]
  exact ⟨_, _, hone, hone, fun i j hi _ => (key W i j hi).symm⟩

/-- Row i becomes d i times row i, plus f i times row r (f r = 0; d i ≠ 0). -/
theorem RE.comb {n c r : Nat} (hr : r < n) (W : Mt) (d f : Nat → G) (hd : ∀ i, i < n → d i ≠ g0) (hf : f r = g0) : RE n c W fun i j => ga (gx (d i) (W i j)) (gx (f i) (W r j)) := by
  have key : ∀ (d f : Nat → G) (V : Mt) (i j : Nat), i < n → mul n (fun i k => ga (if k = i then d i else g0) (if k = r then f i else g0)) V i j = ga (gx (d i) (V i j)) (gx (f i) (V r j)) := by
    intro d f V i j hi
    show S n (fun k => gx (ga (if k = i then d i else g0) (if k = r then f i else g0)) (V k j)) = _
    have : S n (fun k => gx (ga (if k = i then d i else g0) (if k = r then f i else g0)) (V k j)) = S n fun k => ga (if k = i then gx (d i) (V k j) else g0) (if k = r then gx (f i) (V k j) else g0) := S_congr fun k _ => by
      rw [ga_gx]
      congr 1
      · by_cases h : k = i
        · rw [if_pos h, if_pos h]
        · rw [if_neg h, if_neg h, zero_gx]
      · by_cases h : k = r
        · rw [if_pos h, if_pos h]
        · rw [if_neg h, if_neg h, zero_gx]
    rw [this, S_ga, S_one hi fun k => gx (d i) (V k j), S_one hr fun k => gx (f i) (V k j)]
  -- the inverse: divide by d, and take f i / (d i d r) of row r
  have inv : ∀ (d f d' f' : Nat → G), (∀ i, i < n → gx (d i) (d' i) = g1) → f r = g0 → f' r = g0 → (∀ i, i < n → ga (gx (d i) (f' i)) (gx (f i) (d' r)) = g0) →
      Eqv n n (mul n (fun i k => ga (if k = i then d i else g0) (if k = r then f i else g0)) (fun i k => ga (if k = i then d' i else g0) (if k = r then f' i else g0))) one := by
    intro d f d' f' h1 h2 h3 h4 i j hi hj
    rw [key d f _ i j hi]
    unfold one
    rw [h3]
    have e0 : ga (if j = r then d' r else g0) (if j = r then g0 else g0) = if j = r then d' r else g0 := by split <;> exact ga_zero _
    rw [e0, gx_ga]
    by_cases hij : i = j
    · subst hij
      rw [if_pos rfl, if_pos rfl, h1 i hi]
      by_cases hir : i = r
      · subst hir
        rw [if_pos rfl, if_pos rfl, h3, h2, gx_zero, zero_gx, ga_zero, ga_zero]
      · rw [if_neg hir, if_neg hir, gx_zero, gx_zero, ga_zero, ga_zero]
    · rw [if_neg fun e => hij e.symm, if_neg hij, gx_zero, zero_ga]
      by_cases hjr : j = r
      · rw [if_pos hjr, if_pos hjr]; exact h4 i hi
      · rw [if_neg hjr, if_neg hjr, gx_zero, gx_zero, ga_zero]
  refine ⟨_, fun i k => ga (if k = i then gv (d i) else g0) (if k = r then gx (gx (f i) (gv (d i))) (gv (d r)) else g0), inv d f (fun i => gv (d i)) (fun i => gx (gx (f i) (gv (d i))) (gv (d r))) (fun i hi => gx_gv (hd i hi)) hf (by simp only [hf, zero_gx]) ?_, inv (fun i => gv (d i)) (fun i => gx (gx (f i) (gv (d i))) (gv (d r))) d f (fun i hi => gv_gx (hd i hi)) (by simp only [hf, zero_gx]) hf ?_, fun i j hi _ => (key d f W i j hi).symm⟩
  · intro i hi
    have e : gx (d i) (gx (gx (f i) (gv (d i))) (gv (d r))) = gx (f i) (gv (d r)) := by
      rw [← gx_assoc, gx_comm (f i) (gv (d i)), ← gx_assoc, gx_gv (hd i hi), one_gx]
    rw [e, ga_self]
  · intro i hi
    have e : gx (gx (gx (f i) (gv (d i))) (gv (d r))) (d r) = gx (gv (d i)) (f i) := by
      rw [gx_assoc, gv_gx (hd r hr), gx_one, gx_comm]
    rw [e, ga_self]

end Go.Proofs.YtkclmfppjhmnjaaGreat.Alg

namespace Go.Proofs.YtkclmfppjhmnjaaGreat
open Go.RowKit Crc

theorem Bs.take {w : World} {a : Option Addr} {n cap k : Nat} {l : List Nat} (h : Bs w (.slice a n cap) l) (hk : k ≤ l.length) : Bs w (.slice a k cap) (l.take k) := by
  obtain ⟨a', cap', hv, hc, hr⟩ := h
  simp only [Value.slice.injEq] at hv
  obtain ⟨rfl, _, rfl⟩ := hv
  refine ⟨a, cap, by rw [List.length_take, Nat.min_eq_left hk], by rw [List.length_take]; omega, ?_⟩
  rcases hr with h | ⟨b, o, ha, hrow⟩
  · subst h; exact Or.inl (by simp)
  · exact Or.inr ⟨b, o, ha, hrow.take k⟩

set_option maxRecDepth 100000 in
set_option maxHeartbeats 2000000 in
theorem cOpen_any (v : Value) (l : List Nat) (w : World) (h : Bs w v l) (hB : Byt l) (hl : l.length ≤ 100000000) : Calls Tryz.prog 32 #[v] w (BsErr (opB l) (opErr l) w) := by
  by_cases h1 : 65536 < l.length
  · have HE := Lib.hid (show opErr l = 5 by unfold opErr; rw [if_pos h1])
    have HP := Lib.hid (show opB l = [] by unfold opB; rw [HE.out]; rfl)
    obtain ⟨a, cap, rfl, hc, hr⟩ := h
    have t1 : decide ((65536 : Int) < (l.length : Int)) = true := by simp; omega
    clear hr hB
    go_enter Tryz.func32, Tryz.ntmps32
    go_wp2_with fail
    go_ret2
    exact ⟨_, by rw [HE.out]; rfl, by rw [HP.out]; exact BO.nil _ _, Below.refl _ _⟩
  have t1 : decide ((65536 : Int) < (l.length : Int)) = false := by simp; omega
  by_cases h2 : l.length < 4
  · have HE := Lib.hid (show opErr l = 9 by unfold opErr; rw [if_neg h1, if_pos h2])
    have HP := Lib.hid (show opB l = [] by unfold opB; rw [HE.out]; rfl)
    obtain ⟨a, cap, rfl, hc, hr⟩ := h
    have t2 : decide ((l.length : Int) < 4) = true := by simp; omega
    have t3 : decide ((l.length : Int) - 4 < 0) = true := by simp; omega
    clear hr hB h1
    go_enter Tryz.func32, Tryz.ntmps32
    go_wp2_with fail
    go_ret2
    exact ⟨_, by rw [HE.out]; rfl, by rw [HP.out]; exact BO.nil _ _, Below.refl _ _⟩
  have t2 : decide ((l.length : Int) < 4) = false := by simp; omega
  have t3 : decide ((l.length : Int) - 4 < 0) = false := by simp; omega
  obtain ⟨k, hk⟩ : ∃ k, l.length = k + 4 := ⟨l.length - 4, by omega⟩
  have HE0 := Lib.hid (show opErr l = if seal4 (l.take k) = l then 0 else 10 by unfold opErr; rw [if_neg h1, if_neg h2, show l.length - 4 = k by omega])
  have HP0 := Lib.hid (show opB l = if opErr l = 0 then l.take k else [] by unfold opB; rw [show l.length - 4 = k by omega])
  have Hlk := Lib.hid hk
  have H := Lib.hid h
  have HBy := Lib.hid hB
  obtain ⟨a, cap, rfl, hc, hr⟩ := h
  have HT := Lib.hid (show Bs w (.slice a k cap) (l.take k) from H.out.take (by omega))
  have HBt := Lib.hid (show Byt (l.take k) from fun x hx => hB x (List.mem_of_mem_take hx))
  have HSL := Lib.hid (show (seal4 (l.take k)).length = k + 4 by rw [seal4_length, List.length_take]; omega)
  have HTL := Lib.hid (show (l.take k).length = k by rw [List.length_take]; omega)
  have HSB := Lib.hid (show Byt (seal4 (l.take k)) from seal4_byt HBt.out)
  have hck : k ≤ cap := by omega
  have hkl : k ≤ 100000000 := by omega
  obtain ⟨n, hn⟩ : ∃ n, l.length = n := ⟨_, rfl⟩
  have Hn := Lib.hid hn
  rw [hn] at H
  rw [hn] at hc t1 t2 t3 hk hl ⊢
  have e1 : (n : Int) - 4 = (k : Int) := by omega
  have hkn : k ≤ n := by omega
  clear hr hB h1 h2 hk hn
  by_cases hq : seal4 (l.take k) = l
  · have HE := Lib.hid (show opErr l = 0 by rw [HE0.out, if_pos hq])
    have HP := Lib.hid (show opB l = l.take k by rw [HP0.out, HE.out]; rfl)
    have HQ := Lib.hid (show decide (seal4 (l.take k) = l) = true from decide_eq_true hq)
    clear hq
    go_enter Tryz.func32, Tryz.ntmps32
    go_wp2_with fail
    refine (cSeal_any _ (l.take k) _ HT.out HBt.out (by rw [HTL.out]; omega)).mono ?_
    rintro e w1 ⟨v1, rfl, hO1, hB1⟩
    have HO1 := Lib.hid hO1.bs
    have HB1 := Lib.hid hB1
    have H1 := Lib.hid (H.out.new hB1)
    clear hO1 hB1
    go_wp2_with fail
    refine (Equal_bs _ _ _ l _ HO1.out H1.out HSB.out HBy.out (by rw [HSL.out]; omega) (by rw [Hlk.out]; omega)).mono ?_
    rintro e w2 ⟨rfl, hB2⟩
    rw [HQ.out]
    have HB2 := Lib.hid (HB1.out.trans (hB2.mono HB1.out.size))
    have HT2 := Lib.hid (HT.out.new HB2.out)
    have hz2 := HB2.out.size
    clear hB2
    go_wp2_with fail
    refine (Clone_bs _ (l.take k) _ HT2.out (by rw [HTL.out]; omega)).mono ?_
    rintro e w3 ⟨v3, rfl, hO3, hB3⟩
    have HO3 := Lib.hid (hO3.base hz2)
    have HB3 := Lib.hid (HB2.out.trans (hB3.mono hz2))
    clear hO3 hB3
    go_wp2_with fail
    go_ret2
    exact ⟨_, by rw [HE.out]; rfl, by rw [HP.out]; exact HO3.out, HB3.out⟩
  · have HE := Lib.hid (show opErr l = 10 by rw [HE0.out, if_neg hq])
    have HP := Lib.hid (show opB l = [] by rw [HP0.out, HE.out]; rfl)
    have HQ := Lib.hid (show decide (seal4 (l.take k) = l) = false from decide_eq_false hq)
    clear hq
    go_enter Tryz.func32, Tryz.ntmps32
    go_wp2_with fail
    refine (cSeal_any _ (l.take k) _ HT.out HBt.out (by rw [HTL.out]; omega)).mono ?_
    rintro e w1 ⟨v1, rfl, hO1, hB1⟩
    have HO1 := Lib.hid hO1.bs
    have HB1 := Lib.hid hB1
    have H1 := Lib.hid (H.out.new hB1)
    clear hO1 hB1
    go_wp2_with fail
    refine (Equal_bs _ _ _ l _ HO1.out H1.out HSB.out HBy.out (by rw [HSL.out]; omega) (by rw [Hlk.out]; omega)).mono ?_
    rintro e w2 ⟨rfl, hB2⟩
    rw [HQ.out]
    have HB2 := Lib.hid (HB1.out.trans (hB2.mono HB1.out.size))
    clear hB2
    go_wp2_with fail
    go_ret2
    exact ⟨_, by rw [HE.out]; rfl, by rw [HP.out]; exact BO.nil _ _, HB2.out⟩

set_option maxRecDepth 100000 in
set_option maxHeartbeats 2000000 in
theorem r3Open_any (v : Value) (l : List Nat) (w : World) (h : Bs w v l) (hB : Byt l) (hl : l.length ≤ 100000000) : Calls Tryz.prog 62 #[v] w (BsErr (opB l) (opErr l) w) := by
  by_cases h1 : 65536 < l.length
  · have HE := Lib.hid (show opErr l = 5 by unfold opErr; rw [if_pos h1])
    have HP := Lib.hid (show opB l = [] by unfold opB; rw [HE.out]; rfl)
    obtain ⟨a, cap, rfl, hc, hr⟩ := h
    have t1 : decide ((65536 : Int) < (l.length : Int)) = true := by simp; omega
    clear hr hB
    go_enter Tryz.func62, Tryz.ntmps62
    go_wp2_with fail
    go_ret2
    exact ⟨_, by rw [HE.out]; rfl, by rw [HP.out]; exact BO.nil _ _, Below.refl _ _⟩
  have t1 : decide ((65536 : Int) < (l.length : Int)) = false := by simp; omega
  by_cases h2 : l.length < 4
  · have HE := Lib.hid (show opErr l = 9 by unfold opErr; rw [if_neg h1, if_pos h2])
    have HP := Lib.hid (show opB l = [] by unfold opB; rw [HE.out]; rfl)
    obtain ⟨a, cap, rfl, hc, hr⟩ := h
    have t2 : decide ((l.length : Int) < 4) = true := by simp; omega
    have t3 : decide ((l.length : Int) - 4 < 0) = true := by simp; omega
    clear hr hB h1
    go_enter Tryz.func62, Tryz.ntmps62
    go_wp2_with fail
    go_ret2
    exact ⟨_, by rw [HE.out]; rfl, by rw [HP.out]; exact BO.nil _ _, Below.refl _ _⟩
  have t2 : decide ((l.length : Int) < 4) = false := by simp; omega
  have t3 : decide ((l.length : Int) - 4 < 0) = false := by simp; omega
  obtain ⟨k, hk⟩ : ∃ k, l.length = k + 4 := ⟨l.length - 4, by omega⟩
  have HE0 := Lib.hid (show opErr l = if seal4 (l.take k) = l then 0 else 10 by unfold opErr; rw [if_neg h1, if_neg h2, show l.length - 4 = k by omega])
  have HP0 := Lib.hid (show opB l = if opErr l = 0 then l.take k else [] by unfold opB; rw [show l.length - 4 = k by omega])
  have Hlk := Lib.hid hk
  have H := Lib.hid h
  have HBy := Lib.hid hB
  obtain ⟨a, cap, rfl, hc, hr⟩ := h
  have HT := Lib.hid (show Bs w (.slice a k cap) (l.take k) from H.out.take (by omega))
  have HBt := Lib.hid (show Byt (l.take k) from fun x hx => hB x (List.mem_of_mem_take hx))
  have HSL := Lib.hid (show (seal4 (l.take k)).length = k + 4 by rw [seal4_length, List.length_take]; omega)
  have HTL := Lib.hid (show (l.take k).length = k by rw [List.length_take]; omega)
  have HSB := Lib.hid (show Byt (seal4 (l.take k)) from seal4_byt HBt.out)
  have hck : k ≤ cap := by omega
  have hkl : k ≤ 100000000 := by omega
  obtain ⟨n, hn⟩ : ∃ n, l.length = n := ⟨_, rfl⟩
  have Hn := Lib.hid hn
  rw [hn] at H
  rw [hn] at hc t1 t2 t3 hk hl ⊢
  have e1 : (n : Int) - 4 = (k : Int) := by omega
  have hkn : k ≤ n := by omega
  clear hr hB h1 h2 hk hn
  by_cases hq : seal4 (l.take k) = l
  · have HE := Lib.hid (show opErr l = 0 by rw [HE0.out, if_pos hq])
    have HP := Lib.hid (show opB l = l.take k by rw [HP0.out, HE.out]; rfl)
    have HQ := Lib.hid (show decide (seal4 (l.take k) = l) = true from decide_eq_true hq)
    clear hq
    go_enter Tryz.func62, Tryz.ntmps62
    go_wp2_with fail
    refine (r3Seal_any _ (l.take k) _ HT.out HBt.out (by rw [HTL.out]; omega)).mono ?_
    rintro e w1 ⟨v1, rfl, hO1, hB1⟩
    have HO1 := Lib.hid hO1.bs
    have HB1 := Lib.hid hB1
    have H1 := Lib.hid (H.out.new hB1)
    clear hO1 hB1
    go_wp2_with fail
    refine (r3Same_bs _ _ _ l _ HO1.out H1.out HSB.out HBy.out (by rw [HSL.out]; omega) (by rw [Hlk.out]; omega)).mono ?_
    rintro e w2 ⟨rfl, hB2⟩
    rw [HQ.out]
    have HB2 := Lib.hid (HB1.out.trans (hB2.mono HB1.out.size))
    have HT2 := Lib.hid (HT.out.new HB2.out)
    have hz2 := HB2.out.size
    clear hB2
    go_wp2_with (at_builtin; refine wpList_append_bs rfl _ _ rfl w.heap.size _ _ [] (l.take k) rfl rfl (BO.nil _ _) HT2.out (by rw [HTL.out]; simp; omega) hz2 ?_)
    intro v3 w3 hO3 hg3
    have HB3 := Lib.hid (bo_below HB2.out hg3 hz2 (BO.nil w2 w.heap.size) (Nat.le_refl _))
    have HO3 := Lib.hid hO3
    clear hO3 hg3
    go_wp2_with fail
    go_ret2
    exact ⟨_, by rw [HE.out]; rfl, by rw [HP.out]; exact HO3.out, HB3.out⟩
  · have HE := Lib.hid (show opErr l = 10 by rw [HE0.out, if_neg hq])
    have HP := Lib.hid (show opB l = [] by rw [HP0.out, HE.out]; rfl)
    have HQ := Lib.hid (show decide (seal4 (l.take k) = l) = false from decide_eq_false hq)
    clear hq
    go_enter Tryz.func62, Tryz.ntmps62
    go_wp2_with fail
    refine (r3Seal_any _ (l.take k) _ HT.out HBt.out (by rw [HTL.out]; omega)).mono ?_
    rintro e w1 ⟨v1, rfl, hO1, hB1⟩
    have HO1 := Lib.hid hO1.bs
    have HB1 := Lib.hid hB1
    have H1 := Lib.hid (H.out.new hB1)
    clear hO1 hB1
    go_wp2_with fail
    refine (r3Same_bs _ _ _ l _ HO1.out H1.out HSB.out HBy.out (by rw [HSL.out]; omega) (by rw [Hlk.out]; omega)).mono ?_
    rintro e w2 ⟨rfl, hB2⟩
    rw [HQ.out]
    have HB2 := Lib.hid (HB1.out.trans (hB2.mono HB1.out.size))
    clear hB2
    go_wp2_with fail
    go_ret2
    exact ⟨_, by rw [HE.out]; rfl, by rw [HP.out]; exact BO.nil _ _, HB2.out⟩
end Go.Proofs.YtkclmfppjhmnjaaGreat

namespace Go.Proofs.YtkclmfppjhmnjaaGreat
open Go.RowKit Img Wire

theorem reErr_long {b : List Nat} (h : 65536 < b.length) : reErr b = 5 := by unfold reErr; rw [if_pos h]
theorem reErr_rd {b : List Nat} (h : b.length ≤ 65536) (h1 : rdErr b ≠ 0) : reErr b = rdErr b := by unfold reErr; rw [if_neg (by omega), if_pos h1]
theorem reErr_num {b : List Nat} (h : b.length ≤ 65536) (h1 : rdErr b = 0) (h2 : rdNum b < 1 ∨ 8192 < rdNum b) : reErr b = 2 := by unfold reErr; rw [if_neg (by omega), if_neg (by omega), if_pos h2]
theorem reErr_form {b : List Nat} (h : b.length ≤ 65536) (h1 : rdErr b = 0) (h2 : ¬ (rdNum b < 1 ∨ 8192 < rdNum b)) (h3 : (rdRest b).length % 16 ≠ 0 ∨ rdNum b < (rdRest b).length / 16) : reErr b = 3 := by unfold reErr; rw [if_neg (by omega), if_neg (by omega), if_neg h2, if_pos h3]
theorem reErr_last {b : List Nat} (h : b.length ≤ 65536) (h1 : rdErr b = 0) (h2 : ¬ (rdNum b < 1 ∨ 8192 < rdNum b)) (h3 : ¬ ((rdRest b).length % 16 ≠ 0 ∨ rdNum b < (rdRest b).length / 16)) : reErr b = if lastZ (rdRest b) then 3 else 0 := by unfold reErr; rw [if_neg (by omega), if_neg (by omega), if_neg h2, if_neg h3]
theorem rePg_no {b : List Nat} {x : Nat} (h : reErr b = x) (hx : x ≠ 0) : rePg b = [] := by unfold rePg; rw [if_neg (by rw [h]; exact hx)]
theorem rdErr_cases (b : List Nat) : rdErr b = 0 ∨ rdErr b = 3 ∨ rdErr b = 9 := by
  unfold rdErr
  split
  · simp
  · split
    · simp
    · split
      · simp
      · split <;> simp

theorem rdRest_length (b : List Nat) : (rdRest b).length ≤ b.length := by
  unfold rdRest
  split
  · rw [List.length_drop]; omega
  · exact Nat.zero_le _
/-- The last page, as the program makes it. -/
abbrev lpv : Array Value := #[.int .u8 1, .int .u8 0, .int .u8 0, .int .u8 0, .int .u8 0, .int .u8 0, .int .u8 0, .int .u8 0, .int .u8 0, .int .u8 0, .int .u8 0, .int .u8 0, .int .u8 0, .int .u8 0, .int .u8 0, .int .u8 0]
theorem sizeByte : (Tryz.prog.info? 5).map (·.size) = some 1 := by kernel_rfl
theorem two_one (a b : Value) (ha : a.oneCell' = true) (hb : b.oneCell' = true) : (#[a, b] : Array Value).all (·.oneCell') = true :=
  all_oneCell_toArray (cs := [a, b]) (by intro v hv; simp only [List.mem_cons, List.not_mem_nil, or_false] at hv; rcases hv with h | h <;> rw [h] <;> assumption)

end Go.Proofs.YtkclmfppjhmnjaaGreat
