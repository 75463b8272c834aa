/- Plain: the field with 256 elements as a type, finite sums, square matrices, row equivalence. No program in sight. -/
/- Contracts of checksum.Open and of the third reference's Open. -/
/- The contract of repair.Restore. -/
import Derived.Test.YtkclmfppjhmnjaaB00
import Derived.Test.YtkclmfppjhmnjaaB19
import Derived.Test.YtkclmfppjhmnjaaB08
import Derived.Test.YtkclmfppjhmnjaaB11
import Derived.Test.YtkclmfppjhmnjaaB15
namespace Go.Proofs.Ytkclmfppjhmnjaa.Alg
open Go.Proofs.Ytkclmfppjhmnjaa

abbrev G := Fin 256
def ga (a b : G) : G := ⟨a.val ^^^ b.val, Gf.xor_lt a.2 b.2⟩
def gx (a b : G) : G := ⟨Gf.gm a.val b.val, Gf.gm_lt _ _⟩
def g0 : G := ⟨0, by decide⟩
def g1 : G := ⟨1, by decide⟩
def gv (a : G) : G := ⟨Gf.gi a.val, Gf.gi_lt _⟩

theorem ga_comm (a b : G) : ga a b = ga b a := Fin.ext (Nat.xor_comm _ _)
theorem ga_assoc (a b c : G) : ga (ga a b) c = ga a (ga b c) := Fin.ext (Nat.xor_assoc _ _ _)
theorem ga_self (a : G) : ga a a = g0 := Fin.ext (Nat.xor_self _)
theorem ga_zero (a : G) : ga a g0 = a := Fin.ext (Nat.xor_zero _)
theorem zero_ga (a : G) : ga g0 a = a := Fin.ext (Nat.zero_xor _)
theorem gx_comm (a b : G) : gx a b = gx b a := Fin.ext (Gf.gm_comm _ _)
theorem gx_assoc (a b c : G) : gx (gx a b) c = gx a (gx b c) := Fin.ext (Gf.gm_assoc a.2 b.2 c.2)
theorem gx_ga (a b c : G) : gx a (ga b c) = ga (gx a b) (gx a c) := Fin.ext (Gf.gm_xor a.2 b.2 c.2)
theorem ga_gx (a b c : G) : gx (ga a b) c = ga (gx a c) (gx b c) := Fin.ext (Gf.xor_gm a.2 b.2 c.2)
theorem gx_one (a : G) : gx a g1 = a := Fin.ext (Gf.gm_one a.2)
theorem one_gx (a : G) : gx g1 a = a := Fin.ext (Gf.one_gm a.2)
theorem gx_zero (a : G) : gx a g0 = g0 := Fin.ext (Gf.gm_zero_right _)
theorem zero_gx (a : G) : gx g0 a = g0 := Fin.ext (Gf.gm_zero_left a.val)
theorem ne_val {a : G} (h : a ≠ g0) : a.val ≠ 0 := fun e => h (Fin.ext e)
theorem gx_gv {a : G} (h : a ≠ g0) : gx a (gv a) = g1 := Fin.ext (Gf.gm_gi a.2 (ne_val h))
theorem gv_gx {a : G} (h : a ≠ g0) : gx (gv a) a = g1 := by rw [gx_comm, gx_gv h]
theorem g1_ne : g1 ≠ g0 := by decide
theorem gv_ne (a : G) : gv a ≠ g0 := fun e => Gf.gi_ne a.val (congrArg Fin.val e)
theorem gx_eq_zero {a b : G} (h : gx a b = g0) (hb : b ≠ g0) : a = g0 := by
  have : gx (gx a b) (gv b) = g0 := by rw [h, zero_gx]
  rw [gx_assoc, gx_gv hb, gx_one] at this
  exact this
theorem ga_eq_zero {a b : G} (h : ga a b = g0) : a = b := by
  have : ga (ga a b) b = b := by rw [h, zero_ga]
  rw [ga_assoc, ga_self, ga_zero] at this
  exact this
theorem ga_swap (a b c d : G) : ga (ga a b) (ga c d) = ga (ga a c) (ga b d) := by
  rw [ga_assoc, ga_assoc, ← ga_assoc b c d, ga_comm b c, ga_assoc c b d]

/-- Sums. -/
def S : Nat → (Nat → G) → G
  | 0, _ => g0
  | n + 1, f => ga (S n f) (f n)

theorem S_congr {n : Nat} {f g : Nat → G} (h : ∀ k, k < n → f k = g k) : S n f = S n g := by
  induction n with
  | zero => rfl
  | succ n ih => show ga (S n f) (f n) = ga (S n g) (g n); rw [ih fun k hk => h k (by omega), h n (by omega)]
theorem S_zero {n : Nat} {f : Nat → G} (h : ∀ k, k < n → f k = g0) : S n f = g0 := by
  induction n with
  | zero => rfl
  | succ n ih => show ga (S n f) (f n) = g0; rw [ih fun k hk => h k (by omega), h n (by omega), ga_zero]
theorem S_ga (n : Nat) (f g : Nat → G) : S n (fun k => ga (f k) (g k)) = ga (S n f) (S n g) := by
  induction n with
  | zero => exact (ga_zero g0).symm
  | succ n ih => show ga (S n _) _ = ga (ga (S n f) (f n)) (ga (S n g) (g n)); rw [ih, ga_swap]
theorem S_left (n : Nat) (a : G) (f : Nat → G) : gx a (S n f) = S n fun k => gx a (f k) := by
  induction n with
  | zero => exact gx_zero a
  | succ n ih => show gx a (ga (S n f) (f n)) = ga (S n _) _; rw [gx_ga, ih]
theorem S_right (n : Nat) (a : G) (f : Nat → G) : gx (S n f) a = S n fun k => gx (f k) a := by
  rw [gx_comm, S_left]; exact S_congr fun k _ => gx_comm _ _
theorem S_comm (n m : Nat) (f : Nat → Nat → G) : S n (fun i => S m fun j => f i j) = S m fun j => S n fun i => f i j := by
  induction n with
  | zero => exact (S_zero fun _ _ => rfl).symm
  | succ n ih => show ga (S n _) _ = _; rw [ih, ← S_ga]; rfl
theorem S_one {n s : Nat} (hs : s < n) (f : Nat → G) : S n (fun k => if k = s then f k else g0) = f s := by
  induction n with
  | zero => omega
  | succ n ih =>
    show ga (S n _) (if n = s then f n else g0) = f s
    by_cases h : n = s
    · subst h
      rw [if_pos rfl, S_zero (fun k hk => if_neg (by omega)), zero_ga]
    · rw [if_neg h, ih (by omega), ga_zero]

/-- Matrices. -/
abbrev Mt := Nat → Nat → G
def mul (n : Nat) (A B : Mt) : Mt := fun i j => S n fun k => gx (A i k) (B k j)
def one : Mt := fun i j => if i = j then g1 else g0

theorem mul_assoc (n m : Nat) (A B C : Mt) (i j : Nat) : mul n (mul m A B) C i j = mul m A (mul n B C) i j := by
  show S n (fun k => gx (S m fun l => gx (A i l) (B l k)) (C k j)) = S m fun l => gx (A i l) (S n fun k => gx (B l k) (C k j))
  have h1 : S n (fun k => gx (S m fun l => gx (A i l) (B l k)) (C k j)) = S n fun k => S m fun l => gx (gx (A i l) (B l k)) (C k j) := S_congr fun k _ => S_right _ _ _
  rw [h1, S_comm]
  exact S_congr fun l _ => by rw [S_left]; exact S_congr fun k _ => gx_assoc _ _ _
theorem mul_congr {n i j : Nat} {A A' B B' : Mt} (hA : ∀ k, k < n → A i k = A' i k) (hB : ∀ k, k < n → B k j = B' k j) : mul n A B i j = mul n A' B' i j :=
  S_congr fun k hk => by rw [hA k hk, hB k hk]
theorem one_mul {n i : Nat} (hi : i < n) (A : Mt) (j : Nat) : mul n one A i j = A i j := by
  show S n (fun k => gx (if i = k then g1 else g0) (A k j)) = A i j
  have : S n (fun k => gx (if i = k then g1 else g0) (A k j)) = S n fun k => if k = i then A k j else g0 := S_congr fun k _ => by
    by_cases h : i = k
    · rw [if_pos h, if_pos h.symm, one_gx]
    · rw [if_neg h, if_neg fun e => h e.symm, zero_gx]
  rw [this, S_one hi fun k => A k j]
theorem mul_one {n j : Nat} (hj : j < n) (A : Mt) (i : Nat) : mul n A one i j = A i j := by
  show S n (fun k => gx (A i k) (if k = j then g1 else g0)) = A i j
  have : S n (fun k => gx (A i k) (if k = j then g1 else g0)) = S n fun k => if k = j then A i k else g0 := S_congr fun k _ => by
    by_cases h : k = j
    · rw [if_pos h, if_pos h, gx_one]
    · rw [if_neg h, if_neg h, gx_zero]
  rw [this, S_one hj fun k => A i k]

/-- Equal in the first r rows and c columns. -/
def Eqv (r c : Nat) (A B : Mt) : Prop := ∀ i j, i < r → j < c → A i j = B i j
theorem Eqv.refl (r c : Nat) (A : Mt) : Eqv r c A A := fun _ _ _ _ => rfl
theorem Eqv.symm {r c : Nat} {A B : Mt} (h : Eqv r c A B) : Eqv r c B A := fun i j hi hj => (h i j hi hj).symm
theorem Eqv.trans {r c : Nat} {A B C : Mt} (h : Eqv r c A B) (k : Eqv r c B C) : Eqv r c A C := fun i j hi hj => (h i j hi hj).trans (k i j hi hj)
theorem Eqv.mul {r n c : Nat} {A A' B B' : Mt} (h : Eqv r n A A') (k : Eqv n c B B') : Eqv r c (mul n A B) (mul n A' B') := fun i j hi hj => mul_congr (fun k hk => h i k hi hk) (fun l hl => k l j hl hj)

/-- The rows of W' are those of W, multiplied by an invertible matrix. -/
def RE (n c : Nat) (W W' : Mt) : Prop := ∃ A B : Mt, Eqv n n (mul n A B) one ∧ Eqv n n (mul n B A) one ∧ Eqv n c W' (mul n A W)

theorem RE.refl (n c : Nat) (W : Mt) : RE n c W W := ⟨one, one, fun _ _ hi _ => one_mul hi _ _, fun _ _ hi _ => one_mul hi _ _, fun _ _ hi _ => (one_mul hi _ _).symm⟩

theorem RE.trans {n c : Nat} {U V W : Mt} (h : RE n c U V) (k : RE n c V W) : RE n c U W := by
  obtain ⟨A, B, h1, h2, h3⟩ := h
  obtain ⟨A', B', k1, k2, k3⟩ := k
  refine ⟨mul n A' A, mul n B B', ?_, ?_, ?_⟩
  · intro i j hi hj
    rw [mul_assoc]
    have e : Eqv n n (mul n A (mul n B B')) B' := fun i j hi hj => by
      rw [← mul_assoc, mul_congr (fun k hk => h1 i k hi hk) (fun _ _ => rfl), one_mul hi]
    rw [mul_congr (fun _ _ => rfl) (fun k hk => e k j hk hj)]
    exact k1 i j hi hj
  · intro i j hi hj
    rw [mul_assoc]
    have e : Eqv n n (mul n B' (mul n A' A)) A := fun i j hi hj => by
      rw [← mul_assoc, mul_congr (fun k hk => k2 i k hi hk) (fun _ _ => rfl), one_mul hi]
    rw [mul_congr (fun _ _ => rfl) (fun k hk => e k j hk hj)]
    exact h2 i j hi hj
  · intro i j hi hj
    rw [mul_assoc, k3 i j hi hj]
    exact mul_congr (fun _ _ => rfl) (fun k hk => h3 k j hk hj)

theorem RE.eqv {n c : Nat} {U V W : Mt} (h : RE n c U V) (k : Eqv n c W V) : RE n c U W := by
  obtain ⟨A, B, h1, h2, h3⟩ := h
  exact ⟨A, B, h1, h2, k.trans h3⟩

/-- A permutation of the rows. -/
theorem RE.perm {n c : Nat} (W : Mt) {σ : Nat → Nat} (hσ : ∀ i, i < n → σ i < n) (hσσ : ∀ i, i < n → σ (σ i) = i) : RE n c W fun i j => W (σ i) j := by
  have key : ∀ (V : Mt) (i j : Nat), i < n → mul n (fun i k => if k = σ i then g1 else g0) V i j = V (σ i) j := by
    intro V i j hi
    show S n (fun k => gx (if k = σ i then g1 else g0) (V k j)) = _
    have : S n (fun k => gx (if k = σ i then g1 else g0) (V k j)) = S n fun k => if k = σ i then V k j else g0 := S_congr fun k _ => by
      by_cases h : k = σ i
      · rw [if_pos h, if_pos h, one_gx]
      · rw [if_neg h, if_neg h, zero_gx]
    rw [this, S_one (hσ i hi) fun k => V k j]
  have hone : Eqv n n (mul n (fun i k => if k = σ i then g1 else g0) (fun i k => if k = σ i then g1 else g0)) one := by
    intro i j hi hj
    rw [key _ i j hi, hσσ i hi]
    unfold one
    by_cases h : i = j
    · rw [if_pos h, if_pos h.symm]
    · rw [if_neg h, if_neg fun e => h e.symm]
  exact ⟨_, _, hone, hone, fun i j hi _ => (key W i j hi).symm⟩

/-- Row i becomes d i times row i, plus f i times row r (f r = 0; d i ≠ 0). -/
theorem RE.comb {n c r : Nat} (hr : r < n) (W : Mt) (d f : Nat → G) (hd : ∀ i, i < n → d i ≠ g0) (hf : f r = g0) : RE n c W fun i j => ga (gx (d i) (W i j)) (gx (f i) (W r j)) := by
  have key : ∀ (d f : Nat → G) (V : Mt) (i j : Nat), i < n → mul n (fun i k => ga (if k = i then d i else g0) (if k = r then f i else g0)) V i j = ga (gx (d i) (V i j)) (gx (f i) (V r j)) := by
    intro d f V i j hi
    show S n (fun k => gx (ga (if k = i then d i else g0) (if k = r then f i else g0)) (V k j)) = _
    have : S n (fun k => gx (ga (if k = i then d i else g0) (if k = r then f i else g0)) (V k j)) = S n fun k => ga (if k = i then gx (d i) (V k j) else g0) (if k = r then gx (f i) (V k j) else g0) := S_congr fun k _ => by
      rw [ga_gx]
      congr 1
      · by_cases h : k = i
        · rw [if_pos h, if_pos h]
        · rw [if_neg h, if_neg h, zero_gx]
      · by_cases h : k = r
        · rw [if_pos h, if_pos h]
        · rw [if_neg h, if_neg h, zero_gx]
    rw [this, S_ga, S_one hi fun k => gx (d i) (V k j), S_one hr fun k => gx (f i) (V k j)]
  -- the inverse: divide by d, and take f i / (d i d r) of row r
  have inv : ∀ (d f d' f' : Nat → G), (∀ i, i < n → gx (d i) (d' i) = g1) → f r = g0 → f' r = g0 → (∀ i, i < n → ga (gx (d i) (f' i)) (gx (f i) (d' r)) = g0) →
      Eqv n n (mul n (fun i k => ga (if k = i then d i else g0) (if k = r then f i else g0)) (fun i k => ga (if k = i then d' i else g0) (if k = r then f' i else g0))) one := by
    intro d f d' f' h1 h2 h3 h4 i j hi hj
    rw [key d f _ i j hi]
    unfold one
    rw [h3]
    have e0 : ga (if j = r then d' r else g0) (if j = r then g0 else g0) = if j = r then d' r else g0 := by split <;> exact ga_zero _
    rw [e0, gx_ga]
    by_cases hij : i = j
    · subst hij
      rw [if_pos rfl, if_pos rfl, h1 i hi]
      by_cases hir : i = r
      · subst hir
        rw [if_pos rfl, if_pos rfl, h3, h2, gx_zero, zero_gx, ga_zero, ga_zero]
      · rw [if_neg hir, if_neg hir, gx_zero, gx_zero, ga_zero, ga_zero]
    · rw [if_neg fun e => hij e.symm, if_neg hij, gx_zero, zero_ga]
      by_cases hjr : j = r
      · rw [if_pos hjr, if_pos hjr]; exact h4 i hi
      · rw [if_neg hjr, if_neg hjr, gx_zero, gx_zero, ga_zero]
  refine ⟨_, fun i k => ga (if k = i then gv (d i) else g0) (if k = r then gx (gx (f i) (gv (d i))) (gv (d r)) else g0), inv d f (fun i => gv (d i)) (fun i => gx (gx (f i) (gv (d i))) (gv (d r))) (fun i hi => gx_gv (hd i hi)) hf (by simp only [hf, zero_gx]) ?_, inv (fun i => gv (d i)) (fun i => gx (gx (f i) (gv (d i))) (gv (d r))) d f (fun i hi => gv_gx (hd i hi)) (by simp only [hf, zero_gx]) hf ?_, fun i j hi _ => (key d f W i j hi).symm⟩
  · intro i hi
    have e : gx (d i) (gx (gx (f i) (gv (d i))) (gv (d r))) = gx (f i) (gv (d r)) := by
      rw [← gx_assoc, gx_comm (f i) (gv (d i)), ← gx_assoc, gx_gv (hd i hi), one_gx]
    rw [e, ga_self]
  · intro i hi
    have e : gx (gx (gx (f i) (gv (d i))) (gv (d r))) (d r) = gx (gv (d i)) (f i) := by
      rw [gx_assoc, gv_gx (hd r hr), gx_one, gx_comm]
    rw [e, ga_self]

end Go.Proofs.Ytkclmfppjhmnjaa.Alg

namespace Go.Proofs.Ytkclmfppjhmnjaa
open Go.RowKit Crc

theorem Bs.take {w : World} {a : Option Addr} {n cap k : Nat} {l : List Nat} (h : Bs w (.slice a n cap) l) (hk : k ≤ l.length) : Bs w (.slice a k cap) (l.take k) := by
  obtain ⟨a', cap', hv, hc, hr⟩ := h
  simp only [Value.slice.injEq] at hv
  obtain ⟨rfl, _, rfl⟩ := hv
  refine ⟨a, cap, by rw [List.length_take, Nat.min_eq_left hk], by rw [List.length_take]; omega, ?_⟩
  rcases hr with h | ⟨b, o, ha, hrow⟩
  · subst h; exact Or.inl (by simp)
  · exact Or.inr ⟨b, o, ha, hrow.take k⟩

set_option maxRecDepth 100000 in
set_option maxHeartbeats 2000000 in
theorem cOpen_any (v : Value) (l : List Nat) (w : World) (h : Bs w v l) (hB : Byt l) (hl : l.length ≤ 100000000) : Calls Try.prog 49 #[v] w (BsErr (opB l) (opErr l) w) := by
  by_cases h1 : 65536 < l.length
  · have HE := Lib.hid (show opErr l = 5 by unfold opErr; rw [if_pos h1])
    have HP := Lib.hid (show opB l = [] by unfold opB; rw [HE.out]; rfl)
    obtain ⟨a, cap, rfl, hc, hr⟩ := h
    have t1 : decide ((65536 : Int) < (l.length : Int)) = true := by simp; omega
    clear hr hB
    go_enter Try.func49, Try.ntmps49
    go_wp2_with fail
    go_ret2
    exact ⟨_, by rw [HE.out]; rfl, by rw [HP.out]; exact BO.nil _ _, Below.refl _ _⟩
  have t1 : decide ((65536 : Int) < (l.length : Int)) = false := by simp; omega
  by_cases h2 : l.length < 4
  · have HE := Lib.hid (show opErr l = 9 by unfold opErr; rw [if_neg h1, if_pos h2])
    have HP := Lib.hid (show opB l = [] by unfold opB; rw [HE.out]; rfl)
    obtain ⟨a, cap, rfl, hc, hr⟩ := h
    have t2 : decide ((l.length : Int) < 4) = true := by simp; omega
    have t3 : decide ((l.length : Int) - 4 < 0) = true := by simp; omega
    clear hr hB h1
    go_enter Try.func49, Try.ntmps49
    go_wp2_with fail
    go_ret2
    exact ⟨_, by rw [HE.out]; rfl, by rw [HP.out]; exact BO.nil _ _, Below.refl _ _⟩
  have t2 : decide ((l.length : Int) < 4) = false := by simp; omega
  have t3 : decide ((l.length : Int) - 4 < 0) = false := by simp; omega
  obtain ⟨k, hk⟩ : ∃ k, l.length = k + 4 := ⟨l.length - 4, by omega⟩
  have HE0 := Lib.hid (show opErr l = if seal4 (l.take k) = l then 0 else 10 by unfold opErr; rw [if_neg h1, if_neg h2, show l.length - 4 = k by omega])
  have HP0 := Lib.hid (show opB l = if opErr l = 0 then l.take k else [] by unfold opB; rw [show l.length - 4 = k by omega])
  have Hlk := Lib.hid hk
  have H := Lib.hid h
  have HBy := Lib.hid hB
  obtain ⟨a, cap, rfl, hc, hr⟩ := h
  have HT := Lib.hid (show Bs w (.slice a k cap) (l.take k) from H.out.take (by omega))
  have HBt := Lib.hid (show Byt (l.take k) from fun x hx => hB x (List.mem_of_mem_take hx))
  have HSL := Lib.hid (show (seal4 (l.take k)).length = k + 4 by rw [seal4_length, List.length_take]; omega)
  have HTL := Lib.hid (show (l.take k).length = k by rw [List.length_take]; omega)
  have HSB := Lib.hid (show Byt (seal4 (l.take k)) from seal4_byt HBt.out)
  have hck : k ≤ cap := by omega
  have hkl : k ≤ 100000000 := by omega
  obtain ⟨n, hn⟩ : ∃ n, l.length = n := ⟨_, rfl⟩
  have Hn := Lib.hid hn
  rw [hn] at H
  rw [hn] at hc t1 t2 t3 hk hl ⊢
  have e1 : (n : Int) - 4 = (k : Int) := by omega
  have hkn : k ≤ n := by omega
  clear hr hB h1 h2 hk hn
  by_cases hq : seal4 (l.take k) = l
  · have HE := Lib.hid (show opErr l = 0 by rw [HE0.out, if_pos hq])
    have HP := Lib.hid (show opB l = l.take k by rw [HP0.out, HE.out]; rfl)
    have HQ := Lib.hid (show decide (seal4 (l.take k) = l) = true from decide_eq_true hq)
    clear hq
    go_enter Try.func49, Try.ntmps49
    go_wp2_with fail
    refine (cSeal_any _ (l.take k) _ HT.out HBt.out (by rw [HTL.out]; omega)).mono ?_
    rintro e w1 ⟨v1, rfl, hO1, hB1⟩
    have HO1 := Lib.hid hO1.bs
    have HB1 := Lib.hid hB1
    have H1 := Lib.hid (H.out.new hB1)
    clear hO1 hB1
    go_wp2_with fail
    refine (Equal_bs _ _ _ l _ HO1.out H1.out HSB.out HBy.out (by rw [HSL.out]; omega) (by rw [Hlk.out]; omega)).mono ?_
    rintro e w2 ⟨rfl, hB2⟩
    rw [HQ.out]
    have HB2 := Lib.hid (HB1.out.trans (hB2.mono HB1.out.size))
    have HT2 := Lib.hid (HT.out.new HB2.out)
    have hz2 := HB2.out.size
    clear hB2
    go_wp2_with fail
    refine (Clone_bs _ (l.take k) _ HT2.out (by rw [HTL.out]; omega)).mono ?_
    rintro e w3 ⟨v3, rfl, hO3, hB3⟩
    have HO3 := Lib.hid (hO3.base hz2)
    have HB3 := Lib.hid (HB2.out.trans (hB3.mono hz2))
    clear hO3 hB3
    go_wp2_with fail
    go_ret2
    exact ⟨_, by rw [HE.out]; rfl, by rw [HP.out]; exact HO3.out, HB3.out⟩
  · have HE := Lib.hid (show opErr l = 10 by rw [HE0.out, if_neg hq])
    have HP := Lib.hid (show opB l = [] by rw [HP0.out, HE.out]; rfl)
    have HQ := Lib.hid (show decide (seal4 (l.take k) = l) = false from decide_eq_false hq)
    clear hq
    go_enter Try.func49, Try.ntmps49
    go_wp2_with fail
    refine (cSeal_any _ (l.take k) _ HT.out HBt.out (by rw [HTL.out]; omega)).mono ?_
    rintro e w1 ⟨v1, rfl, hO1, hB1⟩
    have HO1 := Lib.hid hO1.bs
    have HB1 := Lib.hid hB1
    have H1 := Lib.hid (H.out.new hB1)
    clear hO1 hB1
    go_wp2_with fail
    refine (Equal_bs _ _ _ l _ HO1.out H1.out HSB.out HBy.out (by rw [HSL.out]; omega) (by rw [Hlk.out]; omega)).mono ?_
    rintro e w2 ⟨rfl, hB2⟩
    rw [HQ.out]
    have HB2 := Lib.hid (HB1.out.trans (hB2.mono HB1.out.size))
    clear hB2
    go_wp2_with fail
    go_ret2
    exact ⟨_, by rw [HE.out]; rfl, by rw [HP.out]; exact BO.nil _ _, HB2.out⟩

set_option maxRecDepth 100000 in
set_option maxHeartbeats 2000000 in
theorem r3Open_any (v : Value) (l : List Nat) (w : World) (h : Bs w v l) (hB : Byt l) (hl : l.length ≤ 100000000) : Calls Try.prog 51 #[v] w (BsErr (opB l) (opErr l) w) := by
  by_cases h1 : 65536 < l.length
  · have HE := Lib.hid (show opErr l = 5 by unfold opErr; rw [if_pos h1])
    have HP := Lib.hid (show opB l = [] by unfold opB; rw [HE.out]; rfl)
    obtain ⟨a, cap, rfl, hc, hr⟩ := h
    have t1 : decide ((65536 : Int) < (l.length : Int)) = true := by simp; omega
    clear hr hB
    go_enter Try.func51, Try.ntmps51
    go_wp2_with fail
    go_ret2
    exact ⟨_, by rw [HE.out]; rfl, by rw [HP.out]; exact BO.nil _ _, Below.refl _ _⟩
  have t1 : decide ((65536 : Int) < (l.length : Int)) = false := by simp; omega
  by_cases h2 : l.length < 4
  · have HE := Lib.hid (show opErr l = 9 by unfold opErr; rw [if_neg h1, if_pos h2])
    have HP := Lib.hid (show opB l = [] by unfold opB; rw [HE.out]; rfl)
    obtain ⟨a, cap, rfl, hc, hr⟩ := h
    have t2 : decide ((l.length : Int) < 4) = true := by simp; omega
    have t3 : decide ((l.length : Int) - 4 < 0) = true := by simp; omega
    clear hr hB h1
    go_enter Try.func51, Try.ntmps51
    go_wp2_with fail
    go_ret2
    exact ⟨_, by rw [HE.out]; rfl, by rw [HP.out]; exact BO.nil _ _, Below.refl _ _⟩
  have t2 : decide ((l.length : Int) < 4) = false := by simp; omega
  have t3 : decide ((l.length : Int) - 4 < 0) = false := by simp; omega
  obtain ⟨k, hk⟩ : ∃ k, l.length = k + 4 := ⟨l.length - 4, by omega⟩
  have HE0 := Lib.hid (show opErr l = if seal4 (l.take k) = l then 0 else 10 by unfold opErr; rw [if_neg h1, if_neg h2, show l.length - 4 = k by omega])
  have HP0 := Lib.hid (show opB l = if opErr l = 0 then l.take k else [] by unfold opB; rw [show l.length - 4 = k by omega])
  have Hlk := Lib.hid hk
  have H := Lib.hid h
  have HBy := Lib.hid hB
  obtain ⟨a, cap, rfl, hc, hr⟩ := h
  have HT := Lib.hid (show Bs w (.slice a k cap) (l.take k) from H.out.take (by omega))
  have HBt := Lib.hid (show Byt (l.take k) from fun x hx => hB x (List.mem_of_mem_take hx))
  have HSL := Lib.hid (show (seal4 (l.take k)).length = k + 4 by rw [seal4_length, List.length_take]; omega)
  have HTL := Lib.hid (show (l.take k).length = k by rw [List.length_take]; omega)
  have HSB := Lib.hid (show Byt (seal4 (l.take k)) from seal4_byt HBt.out)
  have hck : k ≤ cap := by omega
  have hkl : k ≤ 100000000 := by omega
  obtain ⟨n, hn⟩ : ∃ n, l.length = n := ⟨_, rfl⟩
  have Hn := Lib.hid hn
  rw [hn] at H
  rw [hn] at hc t1 t2 t3 hk hl ⊢
  have e1 : (n : Int) - 4 = (k : Int) := by omega
  have hkn : k ≤ n := by omega
  clear hr hB h1 h2 hk hn
  by_cases hq : seal4 (l.take k) = l
  · have HE := Lib.hid (show opErr l = 0 by rw [HE0.out, if_pos hq])
    have HP := Lib.hid (show opB l = l.take k by rw [HP0.out, HE.out]; rfl)
    have HQ := Lib.hid (show decide (seal4 (l.take k) = l) = true from decide_eq_true hq)
    clear hq
    go_enter Try.func51, Try.ntmps51
    go_wp2_with fail
    refine (r3Seal_any _ (l.take k) _ HT.out HBt.out (by rw [HTL.out]; omega)).mono ?_
    rintro e w1 ⟨v1, rfl, hO1, hB1⟩
    have HO1 := Lib.hid hO1.bs
    have HB1 := Lib.hid hB1
    have H1 := Lib.hid (H.out.new hB1)
    clear hO1 hB1
    go_wp2_with fail
    refine (r3Same_bs _ _ _ l _ HO1.out H1.out HSB.out HBy.out (by rw [HSL.out]; omega) (by rw [Hlk.out]; omega)).mono ?_
    rintro e w2 ⟨rfl, hB2⟩
    rw [HQ.out]
    have HB2 := Lib.hid (HB1.out.trans (hB2.mono HB1.out.size))
    have HT2 := Lib.hid (HT.out.new HB2.out)
    have hz2 := HB2.out.size
    clear hB2
    go_wp2_with (at_builtin; refine wpList_append_bs rfl _ _ rfl w.heap.size _ _ [] (l.take k) rfl rfl (BO.nil _ _) HT2.out (by rw [HTL.out]; simp; omega) hz2 ?_)
    intro v3 w3 hO3 hg3
    have HB3 := Lib.hid (bo_below HB2.out hg3 hz2 (BO.nil w2 w.heap.size) (Nat.le_refl _))
    have HO3 := Lib.hid hO3
    clear hO3 hg3
    go_wp2_with fail
    go_ret2
    exact ⟨_, by rw [HE.out]; rfl, by rw [HP.out]; exact HO3.out, HB3.out⟩
  · have HE := Lib.hid (show opErr l = 10 by rw [HE0.out, if_neg hq])
    have HP := Lib.hid (show opB l = [] by rw [HP0.out, HE.out]; rfl)
    have HQ := Lib.hid (show decide (seal4 (l.take k) = l) = false from decide_eq_false hq)
    clear hq
    go_enter Try.func51, Try.ntmps51
    go_wp2_with fail
    refine (r3Seal_any _ (l.take k) _ HT.out HBt.out (by rw [HTL.out]; omega)).mono ?_
    rintro e w1 ⟨v1, rfl, hO1, hB1⟩
    have HO1 := Lib.hid hO1.bs
    have HB1 := Lib.hid hB1
    have H1 := Lib.hid (H.out.new hB1)
    clear hO1 hB1
    go_wp2_with fail
    refine (r3Same_bs _ _ _ l _ HO1.out H1.out HSB.out HBy.out (by rw [HSL.out]; omega) (by rw [Hlk.out]; omega)).mono ?_
    rintro e w2 ⟨rfl, hB2⟩
    rw [HQ.out]
    have HB2 := Lib.hid (HB1.out.trans (hB2.mono HB1.out.size))
    clear hB2
    go_wp2_with fail
    go_ret2
    exact ⟨_, by rw [HE.out]; rfl, by rw [HP.out]; exact BO.nil _ _, HB2.out⟩
end Go.Proofs.Ytkclmfppjhmnjaa

namespace Go.Proofs.Ytkclmfppjhmnjaa
open Go.RowKit Img Wire

theorem reErr_long {b : List Nat} (h : 65536 < b.length) : reErr b = 5 := by unfold reErr; rw [if_pos h]
theorem reErr_rd {b : List Nat} (h : b.length ≤ 65536) (h1 : rdErr b ≠ 0) : reErr b = rdErr b := by unfold reErr; rw [if_neg (by omega), if_pos h1]
theorem reErr_num {b : List Nat} (h : b.length ≤ 65536) (h1 : rdErr b = 0) (h2 : rdNum b < 1 ∨ 8192 < rdNum b) : reErr b = 2 := by unfold reErr; rw [if_neg (by omega), if_neg (by omega), if_pos h2]
theorem reErr_form {b : List Nat} (h : b.length ≤ 65536) (h1 : rdErr b = 0) (h2 : ¬ (rdNum b < 1 ∨ 8192 < rdNum b)) (h3 : (rdRest b).length % 16 ≠ 0 ∨ rdNum b < (rdRest b).length / 16) : reErr b = 3 := by unfold reErr; rw [if_neg (by omega), if_neg (by omega), if_neg h2, if_pos h3]
theorem reErr_last {b : List Nat} (h : b.length ≤ 65536) (h1 : rdErr b = 0) (h2 : ¬ (rdNum b < 1 ∨ 8192 < rdNum b)) (h3 : ¬ ((rdRest b).length % 16 ≠ 0 ∨ rdNum b < (rdRest b).length / 16)) : reErr b = if lastZ (rdRest b) then 3 else 0 := by unfold reErr; rw [if_neg (by omega), if_neg (by omega), if_neg h2, if_neg h3]
theorem rePg_no {b : List Nat} {x : Nat} (h : reErr b = x) (hx : x ≠ 0) : rePg b = [] := by unfold rePg; rw [if_neg (by rw [h]; exact hx)]
theorem rdErr_cases (b : List Nat) : rdErr b = 0 ∨ rdErr b = 3 ∨ rdErr b = 9 := by
  unfold rdErr
  split
  · simp
  · split
    · simp
    · split
      · simp
      · split <;> simp

theorem rdRest_length (b : List Nat) : (rdRest b).length ≤ b.length := by
  unfold rdRest
  split
  · rw [List.length_drop]; omega
  · exact Nat.zero_le _
/-- What stands behind a store of a disk. -/
theorem disk_set {w0 w : World} {R : Nat} {xs : List Value} (h : Blk w R 25 xs) (hx : xs.length = 2) (hB : Below w0.heap.size w0 w) (hR : w0.heap.size ≤ R) (a b : Value) :
    (w.setCells R 0 [a, b]).cell? ⟨R, 0, none⟩ = some a ∧ (w.setCells R 0 [a, b]).cell? ⟨R, 1, none⟩ = some b ∧ Below w0.heap.size w0 (w.setCells R 0 [a, b]) := by
  have h1 := h.setCells (o := 0) (vs := [a, b]) (by simp [hx])
  rw [spl_all (by simp [hx])] at h1
  exact ⟨h1.cell (i := 0) rfl, h1.cell (i := 1) rfl, below_setCells hB hR 0 _⟩

/-- The last page, as the program makes it. -/
abbrev lpv : Array Value := #[.int .u8 1, .int .u8 0, .int .u8 0, .int .u8 0, .int .u8 0, .int .u8 0, .int .u8 0, .int .u8 0, .int .u8 0, .int .u8 0, .int .u8 0, .int .u8 0, .int .u8 0, .int .u8 0, .int .u8 0, .int .u8 0]
theorem re_start (w1 : World) (n : Nat) (rest : List Nat) (B : Obj) (xs : List Value) (hB : B = .cells xs.toArray 25) :
    Blk (((w1.alloc (.cells (z16 n) 82)).alloc B).alloc (.cells lpv 82)) w1.heap.size 82 (pgc (pagesTo rest n 0)) ∧
    Blk (((w1.alloc (.cells (z16 n) 82)).alloc B).alloc (.cells lpv 82)) (w1.heap.size + 1) 25 xs ∧
    Blk (((w1.alloc (.cells (z16 n) 82)).alloc B).alloc (.cells lpv 82)) (w1.heap.size + 1 + 1) 82 ((lastP rest 0).map bv) ∧
    Below w1.heap.size w1 (((w1.alloc (.cells (z16 n) 82)).alloc B).alloc (.cells lpv 82)) := by
  subst hB
  refine ⟨?_, ?_, ?_, ?_⟩
  · have h := ((Blk.new w1 82 (z16 n)).alloc (.cells xs.toArray 25)).alloc (.cells lpv 82)
    rw [z16_pgc, ← pagesTo_zero rest n] at h
    exact h
  · have h := (Blk.new (w1.alloc (.cells (z16 n) 82)) 25 xs.toArray).alloc (.cells lpv 82)
    rw [show (w1.alloc (.cells (z16 n) 82)).heap.size = w1.heap.size + 1 by simp] at h
    exact h
  · have h := Blk.new ((w1.alloc (.cells (z16 n) 82)).alloc (.cells xs.toArray 25)) 82 lpv
    rw [show ((w1.alloc (.cells (z16 n) 82)).alloc (.cells xs.toArray 25)).heap.size = w1.heap.size + 1 + 1 by simp] at h
    exact h
  · exact (((Below.refl _ _).alloc (Nat.le_refl _) _).alloc (by simp) _).alloc (by simp; omega) _

theorem sizeByte : (Try.prog.info? 5).map (·.size) = some 1 := by kernel_rfl
theorem two_one (a b : Value) (ha : a.oneCell' = true) (hb : b.oneCell' = true) : (#[a, b] : Array Value).all (·.oneCell') = true :=
  all_oneCell_toArray (cs := [a, b]) (by intro v hv; simp only [List.mem_cons, List.not_mem_nil, or_false] at hv; rcases hv with h | h <;> rw [h] <;> assumption)

set_option maxRecDepth 100000 in
set_option maxHeartbeats 4000000 in
theorem Restore_any (v : Value) (b : List Nat) (w : World) (h : Bs w v b) (hb : Byt b) (hl : b.length ≤ 1000000000) : Calls Try.prog 14 #[v] w (DiskErr (rePg b) (reErr b) w) := by
  have hB := (Below.refl w.heap.size w).alloc (Nat.le_refl _) (.cells #[.slice none 0 0, .slice none 0 0] 25)
  have Hb0 := Lib.hid (Blk.new w 25 #[.slice none 0 0, .slice none 0 0])
  have HB := Lib.hid hB
  have H := Lib.hid (h.new hB)
  have HBy := Lib.hid hb
  obtain ⟨a, cap, rfl, hcap, _⟩ := h
  have hz0 : w.heap.size < (w.alloc (.cells #[.slice none 0 0, .slice none 0 0] 25)).heap.size := by simp
  clear hB hb
  by_cases hL : 65536 < b.length
  · have t1 : decide ((65536 : Int) < (b.length : Int)) = true := by simp; omega
    have E := Lib.hid (reErr_long hL)
    have HD := Lib.hid (disk_set Hb0.out rfl HB.out (Nat.le_refl _) (.slice none 0 0) (.slice none 0 0))
    have Hth := Lib.hid (Hb0.out.there (o := 0) (n := 2) (Nat.le_refl _))
    clear hL
    go_enter Try.func14, Try.ntmps14
    go_wp2_with (refine wpList_store_mid rfl 25 _ _ rfl w.heap.size 0 #[.slice none 0 0, .slice none 0 0] rfl rfl Hth.out sizeDisk (two_one _ _ rfl rfl) ?_)
    (try simp only [Exit.inBlock, Exit.then])
    refine bodyPost_ret (results_disk rfl _ _ w.heap.size (.slice none 0 0) (.slice none 0 0) rfl HD.out.1 HD.out.2.1) rfl ?_
    exact ⟨_, by rw [E.out]; rfl, by rw [rePg_no E.out (by decide)]; exact Pgs.nil _, HD.out.2.2⟩
  have t1 : decide ((65536 : Int) < (b.length : Int)) = false := by simp; omega
  have hL' : b.length ≤ 65536 := by omega
  clear hL
  go_enter Try.func14, Try.ntmps14
  go_wp2_with fail
  generalize w.alloc (.cells #[.slice none 0 0, .slice none 0 0] 25) = W0 at *
  refine (wInt_any _ b _ H.out HBy.out hl).mono ?_
  rintro e w1 ⟨vr, rfl, hO, hB1⟩
  have HO := Lib.hid hO
  have Hb1 := Lib.hid (Hb0.out.below hB1 hz0)
  have HB1 := Lib.hid (HB.out.trans (hB1.mono HB.out.size))
  have Hth := Lib.hid (Hb1.out.there (o := 0) (n := 2) (Nat.le_refl _))
  have HD := Lib.hid (disk_set Hb1.out rfl HB1.out (Nat.le_refl _) (.slice none 0 0) (.slice none 0 0))
  obtain ⟨ar, cr, rfl⟩ := hO.form
  have hz1 := hB1.size
  clear hO hB1
  by_cases hE : rdErr b = 0
  · rw [hE]
    by_cases hN : rdNum b < 1 ∨ 8192 < rdNum b
    · have E := Lib.hid (reErr_num hL' hE hN)
      generalize rdNum b = n at *
      rcases (show n < 1 ∨ (1 ≤ n ∧ 8192 < n) by omega) with h1 | ⟨h0, h1⟩
      · have t2 : decide ((n : Int) < 1) = true := by simp; omega
        clear h1 hN
        go_wp2_with (refine wpList_store_mid rfl 25 _ _ rfl w.heap.size 0 #[.slice none 0 0, .slice none 0 0] rfl rfl Hth.out sizeDisk (two_one _ _ rfl rfl) ?_)
        (try simp only [Exit.inBlock, Exit.then])
        refine bodyPost_ret (results_disk rfl _ _ w.heap.size (.slice none 0 0) (.slice none 0 0) rfl HD.out.1 HD.out.2.1) rfl ?_
        exact ⟨_, by rw [E.out]; rfl, by rw [rePg_no E.out (by decide)]; exact Pgs.nil _, HD.out.2.2⟩
      · have t2 : decide ((n : Int) < 1) = false := by simp; omega
        have t3 : decide ((8192 : Int) < (n : Int)) = true := by simp; omega
        clear h1 h0 hN
        go_wp2_with (refine wpList_store_mid rfl 25 _ _ rfl w.heap.size 0 #[.slice none 0 0, .slice none 0 0] rfl rfl Hth.out sizeDisk (two_one _ _ rfl rfl) ?_)
        (try simp only [Exit.inBlock, Exit.then])
        refine bodyPost_ret (results_disk rfl _ _ w.heap.size (.slice none 0 0) (.slice none 0 0) rfl HD.out.1 HD.out.2.1) rfl ?_
        exact ⟨_, by rw [E.out]; rfl, by rw [rePg_no E.out (by decide)]; exact Pgs.nil _, HD.out.2.2⟩
    have HF := Lib.hid (fun h3 => reErr_form hL' hE hN h3)
    have HLs := Lib.hid (fun h3 => reErr_last hL' hE hN h3)
    have hrl := rdRest_length b
    have HPg := Lib.hid (show rePg b = if reErr b = 0 then pagesOf (rdRest b) (rdNum b) else [] from rfl)
    generalize rdNum b = n at *
    generalize rdRest b = rest at *
    generalize reErr b = xe at *
    generalize rePg b = xp at *
    have t2 : decide ((n : Int) < 1) = false := by simp; omega
    have t3 : decide ((8192 : Int) < (n : Int)) = false := by simp; omega
    have hn1 : 1 ≤ n := by omega
    have hn2 : n ≤ 8192 := by omega
    clear hN hE
    obtain ⟨m, hm⟩ : ∃ m, rest.length = m := ⟨_, rfl⟩
    obtain ⟨rm, hrm⟩ : ∃ rm : Nat, (m : Int) % 16 = (rm : Int) := ⟨m % 16, by omega⟩
    obtain ⟨qm, hqm⟩ : ∃ qm : Nat, (m : Int) / 16 = (qm : Int) := ⟨m / 16, by omega⟩
    rw [hm] at HF HLs hrl HO ⊢
    have Hm := Lib.hid hm
    have hqb : qm ≤ 65536 := by omega
    by_cases hr : rm ≠ 0
    · have t4 : ((rm : Int) != 0) = true := by simp; omega
      have E := Lib.hid (HF.out (Or.inl (by omega)))
      clear hr
      go_wp2_with (refine wpList_store_mid rfl 25 _ _ rfl w.heap.size 0 #[.slice none 0 0, .slice none 0 0] rfl rfl Hth.out sizeDisk (two_one _ _ rfl rfl) ?_)
      (try simp only [Exit.inBlock, Exit.then])
      refine bodyPost_ret (results_disk rfl _ _ w.heap.size (.slice none 0 0) (.slice none 0 0) rfl HD.out.1 HD.out.2.1) rfl ?_
      exact ⟨_, by rw [E.out]; rfl, by rw [HPg.out, if_neg (by rw [E.out]; decide)]; exact Pgs.nil _, HD.out.2.2⟩
    have t4 : ((rm : Int) != 0) = false := by simp; omega
    by_cases hqn : n < qm
    · have t5 : decide ((n : Int) < (qm : Int)) = true := by simp; omega
      have E := Lib.hid (HF.out (Or.inr (by omega)))
      clear hr
      go_wp2_with (refine wpList_store_mid rfl 25 _ _ rfl w.heap.size 0 #[.slice none 0 0, .slice none 0 0] rfl rfl Hth.out sizeDisk (two_one _ _ rfl rfl) ?_)
      (try simp only [Exit.inBlock, Exit.then])
      refine bodyPost_ret (results_disk rfl _ _ w.heap.size (.slice none 0 0) (.slice none 0 0) rfl HD.out.1 HD.out.2.1) rfl ?_
      exact ⟨_, by rw [E.out]; rfl, by rw [HPg.out, if_neg (by rw [E.out]; decide)]; exact Pgs.nil _, HD.out.2.2⟩
    have t5 : decide ((n : Int) < (qm : Int)) = false := by simp; omega
    have HX := Lib.hid (HLs.out (by omega))
    have hqn' : qm ≤ n := by omega
    have hm16 := Lib.hid (show m = qm * 16 by omega)
    have hmk := mkPages n (by omega)
    have hdq := Lib.hid (show rest.length / 16 = qm by omega)
    clear hr HF HLs HD Hth hm
    obtain ⟨hS, hO, hP, hB3⟩ := re_start w1 n rest (.cells #[.slice (some ⟨w1.heap.size, 0, none⟩) n n, .slice none 0 0] 25) _ rfl
    have HS := Lib.hid hS
    have HO3 := Lib.hid hO
    have HP := Lib.hid hP
    have HB3 := Lib.hid hB3
    clear hS hO hP hB3
    go_upto_region 12 with (fail)
    generalize ((w1.alloc (.cells (z16 n) 82)).alloc (.cells #[.slice (some ⟨w1.heap.size, 0, none⟩) n n, .slice none 0 0] 25)).alloc (.cells lpv 82) = W3 at *
    have hR1 := Hb1.out.lt
    go_wp2_with fail
    clear hrm hqm t4 t5
    go_loopg [50] qm (fun gk i wr => ∃ j : Nat, j + gk = qm ∧ i = .int .i64 j ∧ Hid (Blk wr w1.heap.size 82 (pgc (pagesTo rest n j))) ∧ Hid (Blk wr (w1.heap.size + 1 + 1) 82 ((lastP rest j).map bv)) ∧ Hid (Kept (fun k => k = w1.heap.size ∨ k = w1.heap.size + 1 + 1) W3 wr))
    case atStart => exact ⟨0, by omega, rfl, HS.out, HP.out, Kept.refl _ _⟩
    case round =>
      obtain ⟨j, hgk, rfl, hSj, hPj, hKj⟩ := hrel
      have Hgk := Lib.hid hgk
      have hjq : j ≤ qm := by omega
      clear hgk
      have HOj := Lib.hid (HO3.out.kept hKj.out (by omega))
      have c0 := HOj.out.cell (i := 0) rfl
      by_cases hlt : j < qm
      · obtain ⟨gR, har, hgR, hrow, hcr⟩ : ∃ gR, ar = some ⟨gR, 0, none⟩ ∧ gR < w1.heap.size ∧ RowAt w1 gR 0 rest ∧ m ≤ cr := by
          have hbs := HO.out
          rcases hbs.2 with ⟨h, h0⟩ | ⟨g, cap', cur, hv, hb', hg, hn', _⟩
          · have := Hm.out; have := hm16.out; omega
          · simp only [Value.slice.injEq] at hv
            obtain ⟨h1, h2, h3⟩ := hv
            subst h1 h3
            have hh : Blk w1 g 5 (rest.map bv) := Blk.of_owns (by have h := hbs; unfold BO at h; rw [Hm.out] at h; exact h)
            exact ⟨g, rfl, hh.lt, hh.row, by have := Hm.out; omega⟩
        subst har
        have Hsrc := Lib.hid (show RowAt wr gR (j * 16) (chunk rest j) by
          have h := (((hrow.new HB3.out).kept hKj.out (by omega)).drop (j * 16)).take 16
          rw [Nat.zero_add] at h
          exact h)
        have hc16 := chunk_16 (r := rest) (k := j) (by have := Hm.out; have := hm16.out; omega)
        have hjm : j * 16 + 16 ≤ m := by have := hm16.out; omega
        clear hrow
        have Hlp := Lib.hid (lastP_16 (r := rest) (k := j) (by have := Hm.out; omega))
        obtain ⟨J, hJ⟩ : ∃ J, j * 16 = J := ⟨_, rfl⟩
        have e1 : IntKind.i64.wrap ((j : Int) * 16) = (J : Int) := by rw [IntWalk.i64_in _ (by omega)]; omega
        rw [hJ] at Hsrc hjm
        have Hn := Lib.hid (show ((chunk rest j).map bv).length = Nat.min (m - J) 16 by rw [List.length_map, hc16]; exact (Nat.min_eq_right (by omega)).symm)
        have Hsrc2 := Lib.hid (show ∀ i v, ((chunk rest j).map bv)[i]? = some v → wr.cell? ((⟨gR, J, none⟩ : Addr).add i) = some v from Hsrc.out.src (Below.refl _ _))
        have Hth := Lib.hid (show wr.there (w1.heap.size + 1 + 1) 0 ((chunk rest j).map bv).length from hPj.out.there (by rw [List.length_map, List.length_map, hc16, Hlp.out]; decide))
        have Hone := Lib.hid (bv_one (chunk rest j))
        have hle : (J : Int) ≤ (m : Int) := by omega
        have hne2 : ¬ (cr = J) := by omega
        have HJ := Lib.hid hJ
        clear hJ
        go_upto_region 15 with (fail)
        go_region_law (refine step_copy_cells rfl (.tmp 53) (.tmp 57) 26 26 rfl 5 Try.underlying26 sizeByte (w1.heap.size + 1 + 1) 0 16 16 ⟨gR, J, none⟩ (m - J) (cr - J) rfl rfl ((chunk rest j).map bv) Hn.out (by exact Hsrc2.out) (by exact Hth.out) Hone.out ?_)
        have HP4 := Lib.hid (show Blk (wr.drew.setCells (w1.heap.size + 1 + 1) 0 ((chunk rest j).map bv)) (w1.heap.size + 1 + 1) 82 ((lastP rest (j + 1)).map bv) by
          have h := hPj.out.drew.setCells (o := 0) (vs := (chunk rest j).map bv) (by rw [List.length_map, List.length_map, hc16, Hlp.out]; decide)
          rw [spl_all (by rw [List.length_map, List.length_map, hc16, Hlp.out])] at h
          exact h)
        have HS4 := Lib.hid (show Blk (wr.drew.setCells (w1.heap.size + 1 + 1) 0 ((chunk rest j).map bv)) w1.heap.size 82 (pgc (pagesTo rest n j)) from hSj.out.drew.setCells_other (by omega))
        have HK4 := Lib.hid (show Kept (fun k => k = w1.heap.size ∨ k = w1.heap.size + 1 + 1) W3 (wr.drew.setCells (w1.heap.size + 1 + 1) 0 ((chunk rest j).map bv)) from kept_setCells hKj.out.drew (fun _ => Or.inr rfl) 0 _)
        have HO4 := Lib.hid (show Blk (wr.drew.setCells (w1.heap.size + 1 + 1) 0 ((chunk rest j).map bv)) (w1.heap.size + 1) 25 _ from HOj.out.drew.setCells_other (by omega))
        generalize wr.drew.setCells (w1.heap.size + 1 + 1) 0 ((chunk rest j).map bv) = W4 at *
        have d0 := HO4.out.cell (i := 0) rfl
        have Hps := Lib.hid (page_size hc16)
        have Hps2 := Lib.hid (show (Try.prog.info? 82).map (·.size) = some ((chunk rest j).map bv).toArray.size by rw [List.size_toArray]; exact Hps.out)
        have Hone2 := Lib.hid (all_oneCell_toArray (bv_one (chunk rest j)))
        have Hrg := Lib.hid (show W4.rangeAt (w1.heap.size + 1 + 1) 0 ((chunk rest j).map bv) from (show Blk W4 (w1.heap.size + 1 + 1) 82 ((chunk rest j).map bv) from HP4.out).row.range)
        have hp16 := pagesTo_16 (r := rest) (n := n) (k := j) (by have := Hm.out; have := HJ.out; omega)
        have Hp16 := Lib.hid hp16
        have hjn : j < n := by omega
        have hpl : j * 16 + 16 ≤ (pgc (pagesTo rest n j)).length := by rw [pgc_length hp16, pagesTo_length]; omega
        have Hth4 := Lib.hid (show W4.there w1.heap.size (j * 16) ((chunk rest j).map bv).toArray.size from HS4.out.there (by rw [List.size_toArray, List.length_map, hc16]; exact hpl))
        have HS5 := Lib.hid (show Blk (W4.setCells w1.heap.size (j * 16) ((chunk rest j).map bv)) w1.heap.size 82 (pgc (pagesTo rest n (j + 1))) by
          rw [pagesTo_succ, pgc_set Hp16.out (by rw [pagesTo_length]; exact hjn) hc16]
          exact HS4.out.setCells (by rw [List.length_map, hc16]; exact hpl))
        have HP5 := Lib.hid (show Blk (W4.setCells w1.heap.size (j * 16) ((chunk rest j).map bv)) (w1.heap.size + 1 + 1) 82 ((lastP rest (j + 1)).map bv) from HP4.out.setCells_other (by omega))
        have HK5 := Lib.hid (kept_setCells HK4.out (b := w1.heap.size) (fun _ => Or.inl rfl) (j * 16) ((chunk rest j).map bv))
        clear hp16 hpl Hn Hsrc2 Hth Hone Hsrc c0
        go_wp2_with (first
          | (refine wpList_load_want (by rfl) 82 _ rfl (w1.heap.size + 1 + 1) 0 rfl ((chunk rest j).map bv) _ Hrg.out Try.underlying82 rfl Hps.out ?_)
          | (refine wpList_store_mid rfl 82 _ _ rfl w1.heap.size (j * 16) ((chunk rest j).map bv).toArray rfl rfl Hth4.out Hps2.out Hone2.out ?_))
        go_roundg (qm - j - 1)
        case measure => have := Hgk.out; omega
        case rel => exact ⟨j + 1, by have := Hgk.out; omega, by go_num, HS5.out, HP5.out, HK5.out⟩
      · obtain rfl : j = qm := by omega
        have hbR := (Hb1.out.below HB3.out hR1).kept hKj.out (by omega)
        have HbR := Lib.hid hbR
        have Hth := Lib.hid (hbR.there (o := 0) (n := 2) (Nat.le_refl _))
        have HBr := Lib.hid (show Below w.heap.size w wr from (HB1.out.trans (HB3.out.mono HB1.out.size)).trans (hKj.out.below (by have := HB1.out.size; have := HB3.out.size; omega) (fun k hk => by have := HB1.out.size; omega)))
        have hl16 := lastP_16 (r := rest) (k := j) (by have := Hm.out; have := hm16.out; omega)
        have Hps := Lib.hid (page_size hl16)
        have Hrg := Lib.hid (hPj.out.row.range)
        have c1 := HOj.out.cell (i := 1) rfl
        have Hz := Lib.hid (show lastP rest j = zp ↔ lastZ rest by have := lastP_z (r := rest); rw [hdq.out] at this; exact this)
        have HPg' := Lib.hid (show pagesOf rest n = pagesTo rest n j by unfold pagesOf pagesTo; rw [hdq.out])
        have Hp16 := Lib.hid (pagesTo_16 (r := rest) (n := n) (k := j) (by have := Hm.out; have := hm16.out; omega))
        clear hbR
        generalize lastP rest j = lp at *
        by_cases hzz : lp = zp
        · have Hd := Lib.hid (decide_eq_true hzz)
          have E := Lib.hid (show xe = 3 by rw [HX.out, if_pos (Hz.out.1 hzz)])
          have HD := Lib.hid (disk_set HbR.out rfl HBr.out (Nat.le_refl _) (.slice none 0 0) (.slice none 0 0))
          clear hzz
          go_wp2_with (first
            | (refine wpList_load_want (by rfl) 82 _ rfl (w1.heap.size + 1 + 1) 0 rfl (lp.map bv) _ Hrg.out Try.underlying82 rfl Hps.out ?_)
            | (refine wpList_eq_page (by rfl) _ _ _ rfl lp zp rfl rfl hl16 zp_length true Hd.out ?_)
            | (refine wpList_store_mid rfl 25 _ _ rfl w.heap.size 0 #[.slice none 0 0, .slice none 0 0] rfl rfl Hth.out sizeDisk (two_one _ _ rfl rfl) ?_))
          (try simp only [Exit.inBlock, Exit.then])
          refine bodyPost_ret (results_disk rfl _ _ w.heap.size (.slice none 0 0) (.slice none 0 0) rfl HD.out.1 HD.out.2.1) rfl ?_
          exact ⟨_, by rw [E.out]; rfl, by rw [HPg.out, if_neg (by rw [E.out]; decide)]; exact Pgs.nil _, HD.out.2.2⟩
        · have Hd := Lib.hid (decide_eq_false hzz)
          have E := Lib.hid (show xe = 0 by rw [HX.out, if_neg (fun h => hzz (Hz.out.2 h))])
          have HD := Lib.hid (disk_set HbR.out rfl HBr.out (Nat.le_refl _) (.slice (some ⟨w1.heap.size, 0, none⟩) n n) (.slice none 0 0))
          have HSf := Lib.hid (show Blk (wr.setCells w.heap.size 0 [.slice (some ⟨w1.heap.size, 0, none⟩) n n, .slice none 0 0]) w1.heap.size 82 (pgc (pagesTo rest n j)) from hSj.out.setCells_other (by omega))
          clear hzz
          go_wp2_with (first
            | (refine wpList_load_want (by rfl) 82 _ rfl (w1.heap.size + 1 + 1) 0 rfl (lp.map bv) _ Hrg.out Try.underlying82 rfl Hps.out ?_)
            | (refine wpList_eq_page (by rfl) _ _ _ rfl lp zp rfl rfl hl16 zp_length false Hd.out ?_)
            | (refine wpList_store_mid rfl 25 _ _ rfl w.heap.size 0 #[.slice (some ⟨w1.heap.size, 0, none⟩) n n, .slice none 0 0] rfl rfl Hth.out sizeDisk (two_one _ _ rfl rfl) ?_))
          (try simp only [Exit.inBlock, Exit.then])
          refine bodyPost_ret (results_disk rfl _ _ w.heap.size (.slice (some ⟨w1.heap.size, 0, none⟩) n n) (.slice none 0 0) rfl HD.out.1 HD.out.2.1) rfl ?_
          refine ⟨_, by rw [E.out]; rfl, ?_, HD.out.2.2⟩
          rw [HPg.out, if_pos E.out, HPg'.out]
          exact ⟨_, n, by rw [pagesTo_length], by rw [pagesTo_length]; exact Nat.le_refl _, Or.inr ⟨w1.heap.size, 0, rfl, (show Blk _ _ _ ((pagesTo rest n j).flatten.map bv) from HSf.out).row.page Hp16.out⟩⟩
  · have hne : ((rdErr b : Int) != 0) = true := by simp; omega
    have E := Lib.hid (reErr_rd hL' hE)
    have E0 := Lib.hid hE
    have hbd : rdErr b ≤ 9 := by rcases rdErr_cases b with h | h | h <;> omega
    generalize rdErr b = x at *
    generalize rdNum b = n at *
    clear hE
    go_wp2_with (refine wpList_store_mid rfl 25 _ _ rfl w.heap.size 0 #[.slice none 0 0, .slice none 0 0] rfl rfl Hth.out sizeDisk (two_one _ _ rfl rfl) ?_)
    (try simp only [Exit.inBlock, Exit.then])
    refine bodyPost_ret (results_disk rfl _ _ w.heap.size (.slice none 0 0) (.slice none 0 0) rfl HD.out.1 HD.out.2.1) rfl ?_
    exact ⟨_, by rw [E.out]; rfl, by rw [rePg_no E.out E0.out]; exact Pgs.nil _, HD.out.2.2⟩
end Go.Proofs.Ytkclmfppjhmnjaa
