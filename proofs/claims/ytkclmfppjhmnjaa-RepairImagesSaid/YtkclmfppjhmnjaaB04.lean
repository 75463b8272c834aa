/- Plain: the encoding of numbers: bit lengths, further bytes, writing and reading. -/
/- How the arguments of the laws are opened: numbers, matrices of bytes. -/
/- Contracts of math/bits.LeadingZeros8 and of wire.further, number. -/
/- A region that draws its order and makes no call, inside a round of a range over a function: as everywhere else. -/
/- How more arguments of the laws are opened: byte strings, a change of a part. -/
import Derived.Test.YtkclmfppjhmnjaaChecked
import Derived.Test.YtkclmfppjhmnjaaB00
import Derived.ProofKit
import Derived.OpenShut
import Derived.Deep.Matrix
import Derived.Test.YtkclmfppjhmnjaaB03
import Derived.Test.YtkclmfppjhmnjaaProg
import Derived.RangeFuncCalls
import Derived.StillTailTactics
import Derived.OrdersIn
import Derived.TacticsInMore
import Derived.Lib.SmallJoins
namespace Go.Proofs.Ytkclmfppjhmnjaa
namespace Wire

/-- How many binary digits a number has. -/
def bl (n : Nat) : Nat := if n = 0 then 0 else Nat.log2 n + 1
theorem bl_le (n m : Nat) : bl n ≤ m ↔ n < 2 ^ m := by
  unfold bl
  by_cases h : n = 0
  · rw [if_pos h]; subst h; simp [Nat.two_pow_pos]
  · rw [if_neg h]
    constructor
    · intro h1; exact (Nat.log2_lt h).1 (by omega)
    · intro h1; have := (Nat.log2_lt h).2 h1; omega
theorem bl_div (n k : Nat) (h : 2 ^ k ≤ n) : bl n = k + bl (n / 2 ^ k) := by
  have h1 : ∀ m, bl (n / 2 ^ k) ≤ m ↔ bl n ≤ k + m := by
    intro m
    rw [bl_le, bl_le, Nat.div_lt_iff_lt_mul (Nat.two_pow_pos k), Nat.pow_add, Nat.mul_comm]
  have h2 : ¬ bl n ≤ k := by rw [bl_le]; omega
  have h3 := (h1 (bl (n / 2 ^ k))).1 (Nat.le_refl _)
  have h4 := (h1 (bl n - k)).2 (by omega)
  omega
/-- How many further bytes. -/
def fur (n : Nat) : Nat := (bl n - 1) / 7
theorem fur_le (n k : Nat) : fur n ≤ k ↔ n < 2 ^ (7 * k + 7) := by
  rw [← bl_le]; unfold fur; omega
theorem fur_lt8 {n : Nat} (h : n < 2 ^ 53) : fur n ≤ 7 := (fur_le n 7).2 (Nat.lt_of_lt_of_le h (by decide))
/-- What stands for a number that is encoded. -/
def num (n : Int) : Nat := if n < 0 ∨ 9007199254740991 < n then 0 else n.toNat
theorem num_lt (n : Int) : num n < 2 ^ 53 := by
  unfold num
  have : (2:Nat) ^ 53 = 9007199254740992 := by decide
  split <;> omega
theorem num_of {n : Nat} (h : n < 2 ^ 53) : num (n : Int) = n := by
  have : (2:Nat) ^ 53 = 9007199254740992 := by decide
  unfold num
  rw [if_neg (by omega)]
  rfl
/-- The low bytes of a number. -/
def low (n : Nat) : Nat → List Nat
  | 0 => []
  | k + 1 => (n / 2 ^ (8 * k)) % 256 :: low n k
/-- The encoding of a number. -/
def enc (n : Nat) : List Nat := (256 - 2 ^ (8 - fur n) + n / 2 ^ (8 * fur n)) :: low n (fur n)
theorem low_length (n k : Nat) : (low n k).length = k := by
  induction k with
  | zero => rfl
  | succ k ih => rw [low, List.length_cons, ih]
theorem enc_length (n : Nat) : (enc n).length = fur n + 1 := by unfold enc; rw [List.length_cons, low_length]
theorem low_byt (n k : Nat) : ∀ x ∈ low n k, x < 256 := by
  induction k with
  | zero => intro x hx; simp [low] at hx
  | succ k ih =>
    intro x hx
    rw [low] at hx
    rcases List.mem_cons.1 hx with h | h
    · rw [h]; exact Nat.mod_lt _ (by decide)
    · exact ih x h
/-- The head of an encoding. -/
theorem head_lt {n : Nat} (h : n < 2 ^ 53) : n / 2 ^ (8 * fur n) < 2 ^ (7 - fur n) := by
  have h1 := fur_lt8 h
  have h2 := (fur_le n (fur n)).1 (Nat.le_refl _)
  rw [Nat.div_lt_iff_lt_mul (Nat.two_pow_pos _), ← Nat.pow_add]
  by_cases h7 : fur n = 7
  · rw [h7]; exact Nat.lt_of_lt_of_le h (by decide)
  · exact Nat.lt_of_lt_of_le h2 (Nat.pow_le_pow_right (by decide) (by omega))
theorem two_pow_cases {k : Nat} (h : k ≤ 7) : 2 ^ (8 - k) = 2 * 2 ^ (7 - k) ∧ 2 ^ (8 - k) ≤ 256 ∧ 1 ≤ 2 ^ (7 - k) := by
  refine ⟨by rw [← Nat.pow_succ']; congr 1; omega, ?_, Nat.two_pow_pos _⟩
  exact Nat.le_trans (Nat.pow_le_pow_right (by decide) (show 8 - k ≤ 8 by omega)) (by decide)
theorem enc_byt {n : Nat} (h : n < 2 ^ 53) : ∀ x ∈ enc n, x < 256 := by
  intro x hx
  unfold enc at hx
  rcases List.mem_cons.1 hx with h1 | h1
  · have := head_lt h
    have := two_pow_cases (fur_lt8 h)
    omega
  · exact low_byt _ _ x h1

/-- The number of leading ones of a byte. -/
def ones (b : Nat) : Nat := 8 - bl (255 - b)
theorem ones_head {k x : Nat} (hk : k ≤ 7) (hx : x < 2 ^ (7 - k)) : ones (256 - 2 ^ (8 - k) + x) = k := by
  have h := two_pow_cases hk
  unfold ones
  have h1 : bl (255 - (256 - 2 ^ (8 - k) + x)) ≤ 8 - k := by rw [bl_le]; omega
  have h2 : ¬ bl (255 - (256 - 2 ^ (8 - k) + x)) ≤ 7 - k := by rw [bl_le]; omega
  omega
theorem ones_le (b : Nat) : ones b ≤ 8 := by unfold ones; omega
/-- A byte with k leading ones. -/
theorem of_ones {b : Nat} (hb : b < 256) (hk : ones b ≤ 7) : 256 - 2 ^ (8 - ones b) ≤ b ∧ b - (256 - 2 ^ (8 - ones b)) < 2 ^ (7 - ones b) := by
  have h := two_pow_cases hk
  have h8 : bl (255 - b) ≤ 8 := by rw [bl_le]; omega
  have h1 : bl (255 - b) ≤ 8 - ones b := by unfold ones; omega
  have h2 : ¬ bl (255 - b) ≤ 7 - ones b := by
    have : ones b = 8 - bl (255 - b) := rfl
    omega
  rw [bl_le] at h1 h2
  omega
/-- The number that bytes are. -/
def big (n : Nat) : List Nat → Nat
  | [] => n
  | b :: l => big (n * 256 + b) l
theorem big_lin (l : List Nat) (n : Nat) : big n l = n * 2 ^ (8 * l.length) + big 0 l := by
  induction l generalizing n with
  | nil => simp [big]
  | cons b l ih =>
    rw [big, big, ih, ih (0 * 256 + b), List.length_cons, show 8 * (l.length + 1) = 8 * l.length + 8 by omega, Nat.pow_add]
    rw [Nat.zero_mul, Nat.zero_add, Nat.add_mul, Nat.mul_assoc, Nat.mul_comm (2 ^ (8 * l.length)) (2 ^ 8), show (2:Nat) ^ 8 = 256 by decide]
    omega
theorem big_lt {l : List Nat} (h : ∀ x ∈ l, x < 256) : big 0 l < 2 ^ (8 * l.length) := by
  induction l with
  | nil => simp [big]
  | cons b l ih =>
    rw [big, big_lin]
    have h1 := h b (by simp)
    have h2 := ih (fun x hx => h x (by simp [hx]))
    rw [List.length_cons, show 8 * (l.length + 1) = 8 * l.length + 8 by omega, Nat.pow_add]
    have : (0 * 256 + b) * 2 ^ (8 * l.length) ≤ 255 * 2 ^ (8 * l.length) := Nat.mul_le_mul_right _ (by omega)
    omega
theorem big_low (n k : Nat) (h : Nat) : big h (low n k) = h * 2 ^ (8 * k) + n % 2 ^ (8 * k) := by
  induction k generalizing h with
  | zero => simp [big, low, Nat.mod_one]
  | succ k ih =>
    rw [low, big, ih, show 8 * (k + 1) = 8 * k + 8 by omega, Nat.pow_add, Nat.mod_mul, Nat.add_mul, Nat.mul_assoc, Nat.mul_comm 256]
    have : (2:Nat) ^ 8 = 256 := by decide
    rw [this, Nat.mul_comm (2 ^ (8 * k)) (n / 2 ^ (8 * k) % 256)]
    omega
theorem low_big {l : List Nat} (h : ∀ x ∈ l, x < 256) (n : Nat) : low (big n l) l.length = l := by
  induction l generalizing n with
  | nil => rfl
  | cons b l ih =>
    rw [List.length_cons, low, big, ih (fun x hx => h x (by simp [hx]))]
    congr 1
    rw [big_lin, Nat.add_comm, Nat.add_mul_div_right _ _ (Nat.two_pow_pos _), Nat.div_eq_of_lt (big_lt (fun x hx => h x (by simp [hx])))]
    have := h b (by simp)
    omega
/-- What reading a number tells: the error, the number, and the bytes behind it. -/
def rdErr (l : List Nat) : Nat :=
  match l with
  | [] => 9
  | b :: r => if 7 < ones b then 3 else if r.length < ones b then 9 else
    if 9007199254740991 < big (b - (256 - 2 ^ (8 - ones b))) (r.take (ones b)) ∨ fur (big (b - (256 - 2 ^ (8 - ones b))) (r.take (ones b))) ≠ ones b then 3 else 0
def rdRaw (l : List Nat) : Nat :=
  match l with
  | [] => 0
  | b :: r => big (b - (256 - 2 ^ (8 - ones b))) (r.take (ones b))
def rdNum (l : List Nat) : Nat := if rdErr l = 0 then rdRaw l else 0
def rdRest (l : List Nat) : List Nat := if rdErr l = 0 then l.drop (ones (l.headD 0) + 1) else []
/-- What is written is read. -/
theorem rd_enc {n : Nat} (h : n < 2 ^ 53) (r : List Nat) : rdErr (enc n ++ r) = 0 ∧ rdNum (enc n ++ r) = n ∧ rdRest (enc n ++ r) = r := by
  have h53 : (2:Nat) ^ 53 = 9007199254740992 := by decide
  have hf := fur_lt8 h
  have hh := head_lt h
  have ho := ones_head hf hh
  have hb : big (n / 2 ^ (8 * fur n)) (low n (fur n)) = n := by
    rw [big_low, Nat.mul_comm]; exact Nat.div_add_mod n _
  have ht : (low n (fur n) ++ r).take (fur n) = low n (fur n) := by rw [List.take_append_of_le_length (by rw [low_length]; exact Nat.le_refl _), List.take_of_length_le (by rw [low_length]; exact Nat.le_refl _)]
  have hs : 256 - 2 ^ (8 - fur n) + n / 2 ^ (8 * fur n) - (256 - 2 ^ (8 - fur n)) = n / 2 ^ (8 * fur n) := Nat.add_sub_cancel_left _ _
  have hraw : rdRaw (enc n ++ r) = n := by
    unfold enc
    rw [List.cons_append, rdRaw]
    simp only [ho, ht, hs, hb]
  have he : rdErr (enc n ++ r) = 0 := by
    unfold enc
    rw [List.cons_append, rdErr]
    simp only [ho, ht, hs, hb]
    rw [if_neg (by omega), if_neg (by rw [List.length_append, low_length]; omega), if_neg (by omega)]
  refine ⟨he, ?_, ?_⟩
  · unfold rdNum; rw [if_pos he, hraw]
  · unfold rdRest; rw [if_pos he]
    unfold enc
    rw [List.cons_append, List.headD_cons, ho, List.drop_succ_cons, List.drop_append_of_le_length (by rw [low_length]; exact Nat.le_refl _), List.drop_of_length_le (by rw [low_length]; exact Nat.le_refl _)]
    rfl
/-- What is read has been written so. -/
theorem enc_rd {l : List Nat} (hl : ∀ x ∈ l, x < 256) (h : rdErr l = 0) : rdNum l < 2 ^ 53 ∧ l = enc (rdNum l) ++ rdRest l := by
  have h53 : (2:Nat) ^ 53 = 9007199254740992 := by decide
  have hn : rdNum l = rdRaw l := by unfold rdNum; rw [if_pos h]
  have hr : rdRest l = l.drop (ones (l.headD 0) + 1) := by unfold rdRest; rw [if_pos h]
  rw [hn, hr]
  cases l with
  | nil => simp [rdErr] at h
  | cons b r =>
    rw [rdErr] at h
    rw [rdRaw, List.headD_cons, List.drop_succ_cons]
    obtain ⟨k, hk⟩ : ∃ k, ones b = k := ⟨_, rfl⟩
    have hb := hl b (by simp)
    have hof := of_ones hb
    rw [hk] at h hof ⊢
    split at h
    · omega
    · split at h
      · omega
      · split at h
        · omega
        · rename_i h1 h2 h3
          obtain ⟨hof1, hof2⟩ := hof (by omega)
          obtain ⟨x, hx⟩ : ∃ x, b - (256 - 2 ^ (8 - k)) = x := ⟨_, rfl⟩
          obtain ⟨t, ht⟩ : ∃ t, r.take k = t := ⟨_, rfl⟩
          have htl : t.length = k := by rw [← ht, List.length_take]; omega
          have htb : ∀ y ∈ t, y < 256 := fun y hy => hl y (by rw [← ht] at hy; exact List.mem_cons_of_mem _ (List.mem_of_mem_take hy))
          rw [hx, ht] at h3 ⊢
          have hf : fur (big x t) = k := by omega
          refine ⟨by omega, ?_⟩
          unfold enc
          rw [hf]
          have hlow := low_big htb x
          rw [htl] at hlow
          rw [hlow]
          have hdiv : big x t / 2 ^ (8 * k) = x := by
            rw [big_lin, htl, Nat.add_comm, Nat.add_mul_div_right _ _ (Nat.two_pow_pos _), Nat.div_eq_of_lt (by rw [← htl]; exact big_lt htb), Nat.zero_add]
          rw [hdiv, List.cons_append, ← ht, List.take_append_drop]
          congr 1
          omega
end Wire
end Go.Proofs.Ytkclmfppjhmnjaa

namespace Go.Proofs.Ytkclmfppjhmnjaa
open Go.ChangeShapes Go.WideShapes Go.ChangeAt Go.RowKit

theorem ownKnobNone : ownKnob Try.prog.godebug = none := by kernel_rfl
theorem laidOutYes : laidOutB Try.prog = true := by kernel_rfl

theorem u8_nat {a : Int} (h : (Lit.int .u8 a).wf = true) : ∃ x : Nat, x < 256 ∧ a = x := by
  have := bounds_u8 h
  exact ⟨a.toNat, by omega, by omega⟩
theorem i64_bounds {a : Int} (h : (Lit.int .i64 a).wf = true) : -9223372036854775808 ≤ a ∧ a ≤ 9223372036854775807 := bounds_i64 h
theorem i16_bounds {a : Int} (h : (Lit.int .i16 a).wf = true) : -32768 ≤ a ∧ a ≤ 32767 := bounds_i16 h

theorem addr_plain {w : World} {a : Addr} {v : Value} (h : w.cell? a = some v) : a.spot = none := by
  unfold World.cell? at h
  split at h
  · split at h
    · simp at h
    · rename_i hs; simpa using hs
  · simp at h

theorem add_plain {a : Addr} (h : a.spot = none) (i : Nat) : a.add i = ⟨a.block, a.off + i, none⟩ := by
  obtain ⟨b, o, s⟩ := a
  simp only at h
  subst h
  unfold Addr.add
  split
  · rename_i hi; subst hi; rfl
  · rfl

set_option maxRecDepth 100000 in
theorem open_mat {H : Type} {enc : TypeId × Value → H} {W : World} {base : Nat} {v : Value} {d : DataW H} {p : List MemPlace} (hv : Value.okWide Try.prog W .any base 44 v) (h : DataW.Trod enc Try.prog W 0 (fun _ => true) true 44 v d p) :
    ∃ m : List (List Nat), Mx W v m ∧ BytM m ∧ m.length ≤ maxLen := by
  obtain ⟨a0, len0, cap0, rfl⟩ := okWide_slice Try.underlying44 hv
  obtain ⟨fuel, hf⟩ := h
  rcases Go.Deep.open_int_rows Try.underlying44 Try.underlying26 Try.underlying5 (by kernel_rfl) (by kernel_rfl) hf with ⟨hcs, _⟩ | ⟨a, len, cap, A, L, C, Z, hcs, _, hl, hm, _, hr⟩
  · simp only [Value.cells] at hcs
    obtain ⟨rfl, rfl, rfl⟩ : a0 = none ∧ len0 = 0 ∧ cap0 = 0 := by simpa using hcs
    exact ⟨[], ⟨none, 0, rfl, Nat.le_refl _, Or.inl rfl⟩, fun r hr => by simp at hr, Nat.zero_le _⟩
  · simp only [Value.cells] at hcs
    obtain ⟨rfl, rfl, rfl⟩ : a0 = some a ∧ len0 = len ∧ cap0 = cap := by simpa using hcs
    have hget : ∀ i r, ((List.range len0).map fun r => ((Z r).take (L r)).map Int.toNat)[i]? = some r → i < len0 ∧ r = ((Z i).take (L i)).map Int.toNat := by
      intro i r hi
      have h1 := (List.getElem?_eq_some_iff.1 hi).1
      simp only [List.length_map, List.length_range] at h1
      simp [h1] at hi
      exact ⟨h1, by rw [List.map_take]; exact hi.symm⟩
    have hlen : ∀ i, i < len0 → (((Z i).take (L i)).map Int.toNat).length = L i := by
      intro i hi
      obtain ⟨_, h2, _, h4, _⟩ := hr i (by omega)
      simp; omega
    refine ⟨(List.range len0).map fun r => ((Z r).take (L r)).map Int.toNat, ⟨some a, cap0, by simp, by simpa using hl, ?_⟩, ?_, by simp; omega⟩
    · by_cases h0 : len0 = 0
      · subst h0; exact Or.inl rfl
      · right
        have hpl := addr_plain (hr 0 (by omega)).1
        have hpl' : a.spot = none := by
          have : a.add 0 = a := by unfold Addr.add; simp
          rw [this] at hpl; exact hpl
        refine ⟨a.block, a.off, A, C, by obtain ⟨b, o, s⟩ := a; simp only at hpl'; subst hpl'; rfl, ?_⟩
        intro i r hi
        obtain ⟨h1, rfl⟩ := hget i r hi
        obtain ⟨k1, k2, k3, k4, k5, k6, k7⟩ := hr i (by omega)
        rw [add_plain hpl'] at k1
        refine ⟨by rw [hlen i h1]; exact k1, by rw [hlen i h1]; exact k2, ?_, k6⟩
        cases hA : A i with
        | none =>
          left
          have := k6 hA
          apply List.eq_nil_of_length_eq_zero
          rw [hlen i h1]; omega
        | some a' =>
          by_cases hL : L i = 0
          · left
            apply List.eq_nil_of_length_eq_zero
            rw [hlen i h1, hL]
          · right
            have kk := (k7 a' hA).2
            have hp0 := addr_plain (kk 0 (by omega))
            have hp' : a'.spot = none := by
              have : a'.add 0 = a' := by unfold Addr.add; simp
              rw [this] at hp0; exact hp0
            refine ⟨a'.block, a'.off, by obtain ⟨b, o, s⟩ := a'; simp only at hp'; subst hp'; rfl, ?_⟩
            intro j x hj
            have hj1 := (List.getElem?_eq_some_iff.1 hj).1
            rw [hlen i h1] at hj1
            have hc := kk j (by omega)
            rw [add_plain hp'] at hc
            rw [hc]
            have hz : (Z i)[j]? = some ((Z i).getD j 0) := getD_some (by omega)
            have hw := bounds_u8 (k5 _ (List.mem_of_getElem? hz))
            simp only [List.getElem?_map, List.getElem?_take, if_pos hj1, hz, Option.map_some, Option.some.injEq] at hj
            subst hj
            unfold bv
            rw [Int.toNat_of_nonneg hw.1]
    · intro r hr2
      obtain ⟨i, hi⟩ := List.mem_iff_getElem?.1 hr2
      obtain ⟨h1, rfl⟩ := hget i r hi
      intro x hx
      obtain ⟨z, hz, rfl⟩ := List.mem_map.1 hx
      have := bounds_u8 ((hr i (by omega)).2.2.2.2.1 z (List.mem_of_mem_take hz))
      omega
end Go.Proofs.Ytkclmfppjhmnjaa

namespace Go.Proofs.Ytkclmfppjhmnjaa
open Go.RowKit Wire

theorem ret_int {k : IntKind} {a b : Int} (h : a = b) : Ending.returned (.int k a) = .returned (.int k b) := by rw [h]
theorem bl_two {n : Nat} (h0 : n ≠ 0) : bl n = 1 + bl (n / 2) := by
  by_cases h1 : n = 1
  · subst h1; decide
  have h := bl_div n 1 (by rw [Nat.pow_one]; omega)
  rw [Nat.pow_one] at h
  exact h
theorem bitLen_bl (n : Nat) (h : n < 2 ^ 64) : Lib.bitLen n = bl n := by
  induction n using Nat.strongRecOn with
  | _ n ih =>
    by_cases h0 : n = 0
    · subst h0; decide
    · rw [Lib.bitLen_half n h0 h, bl_two h0, ih (n / 2) (by omega) (by omega)]
theorem bl_u8 {n : Nat} (h : n < 256) : bl n ≤ 8 := (bl_le n 8).2 h

set_option maxRecDepth 100000 in
theorem LeadingZeros8_any (n : Nat) (w : World) (hn : n < 256) : Calls Try.prog 70 #[.int .u8 n] w fun e w' => e = .returned (.int .i64 (8 - bl n : Nat)) ∧ w' = w := by
  have h8 := bl_u8 hn
  have hb := bitLen_bl n (by omega)
  have hC : Hid (∀ w, Calls Try.prog 100 #[.int .u8 n] w fun e w' => e = .returned (.int .i64 (bl n)) ∧ w' = w) := by
    intro w
    have h := bits_Len8 n w (by omega) (by omega)
    rw [Int.toNat_natCast, hb] at h
    exact h
  generalize bl n = k at *
  clear hb
  go_enter Try.func70, Try.ntmps70
  go_wp2_with (go_at_call 100; refine (hC.out _).mono ?_; rintro e w' ⟨rfl, rfl⟩)
  go_ret
  exact ⟨ret_int (by omega), rfl⟩

set_option maxRecDepth 100000 in
theorem Len_any (n : Nat) (w : World) (hn : n < 9223372036854775808) : Calls Try.prog 98 #[.int .u64 n] w fun e w' => e = .returned (.int .i64 (bl n)) ∧ w' = w := by
  have h := bits_Len n w (by omega) (by omega)
  rw [Int.toNat_natCast, bitLen_bl n (by omega)] at h
  exact h

set_option maxRecDepth 100000 in
theorem wfurther_any (n : Nat) (w : World) (hn : n < 9223372036854775808) : Calls Try.prog 71 #[.int .i64 n] w fun e w' => e = .returned (.int .i64 (fur n)) ∧ w' = w := by
  have h8 : bl n ≤ 63 := (bl_le n 63).2 hn
  have hC := Lib.hid (Len_any n w hn)
  have hq : Hid (fur n = (bl n - 1) / 7) := rfl
  generalize fur n = q at *
  generalize bl n = k at *
  by_cases hk : 1 ≤ k
  · have t1 : (0 : Int) < (k : Int) - 1 ∨ (k : Int) - 1 = 0 := by omega
    go_enter Try.func71, Try.ntmps71
    go_wp2_with (go_at_call 98; refine hC.out.mono ?_; rintro e w' ⟨rfl, rfl⟩)
    all_goals
      go_ret
      have := hq.out
      exact ⟨ret_int (by omega), rfl⟩
  · go_enter Try.func71, Try.ntmps71
    go_wp2_with (go_at_call 98; refine hC.out.mono ?_; rintro e w' ⟨rfl, rfl⟩)
    all_goals
      go_ret
      have := hq.out
      exact ⟨ret_int (by omega), rfl⟩

set_option maxRecDepth 100000 in
theorem wnumber_any (n : Int) (w : World) : Calls Try.prog 99 #[.int .i64 n] w fun e w' => e = .returned (.int .i64 (num n)) ∧ w' = w := by
  have hq : Hid (num n = if n < 0 ∨ 9007199254740991 < n then 0 else n.toNat) := rfl
  generalize num n = q at *
  go_enter Try.func99, Try.ntmps99
  go_wp2_with fail
  all_goals
    go_ret
    have h := hq.out
    refine ⟨ret_int ?_, rfl⟩
    split at h <;> omega
end Go.Proofs.Ytkclmfppjhmnjaa

namespace Go.Proofs.Ytkclmfppjhmnjaa
open Go.RowKit

/-- An operation that yields a value or stores, and calls nothing. -/
def plainOp (o : Oper) : Bool := match o.op with
  | .move _ | .assign _ | .binOp .. | .unOp .. | .convert .. | .load .. | .store .. | .indexAddr .. | .fieldAddr .. => true
  | _ => false

section
variable {P : Program} {ops : Array Oper} {Q : Exit → Act → World → Prop}
theorem uponIn_value {F : Fence} {n : Nat} {o : Oper} {a : Act} {K : Act → World → Prop} {s : Sem Value} {w : World} (h : o.upon P a K Q ((do pure (Next.value (← s)) : Sem Next).run P w)) : o.uponIn F n P a K Q ((do pure (Next.value (← s)) : Sem Next).run P w) := by
  simp only [Sem.run_bind] at h ⊢
  generalize s.run P w = r at *
  cases r with
  | ok v w' => exact h
  | halt x w' => cases x <;> exact h
theorem uponIn_skip {F : Fence} {n : Nat} {o : Oper} {a : Act} {K : Act → World → Prop} {s : Sem Unit} {w : World} (h : o.upon P a K Q ((do s; pure Next.skip : Sem Next).run P w)) : o.uponIn F n P a K Q ((do s; pure Next.skip : Sem Next).run P w) := by
  simp only [Sem.run_bind] at h ⊢
  generalize s.run P w = r at *
  cases r with
  | ok v w' => exact h
  | halt x w' => cases x <;> exact h
theorem wpIn_plain {l n : Nat} {o : Oper} {a : Act} {w : World} {K : Act → World → Prop} (hp : plainOp o = true) (h : o.wp P a w K Q) : o.wpIn (Fence.wide.inRound l) n P a w K Q := by
  refine ⟨fun _ _ => trivial, ?_⟩
  have hnd : ∀ c, o.op ≠ .defer c := by
    intro c hc
    unfold plainOp at hp
    rw [hc] at hp
    cases hp
  rw [Fence.inRound_round, Oper.semAt_some _ _ _ hnd]
  unfold Oper.wp execOp at h
  unfold execOp
  unfold plainOp at hp
  split at hp
  all_goals first
    | (cases hp; done)
    | (rename_i ho; simp only [ho] at h ⊢; first | exact h | exact uponIn_value h | exact uponIn_skip h)
theorem anyIn_of_any {l n : Nat} {md : Region.Mode} (hL : ¬ LetsOut Q) (hp : ∀ (i : Nat) (o : Oper), ops[i]? = some o → plainOp o = true) : ∀ (fuel : Nat) (listed : Array Bool) (a : Act) (w : World), wpAny P md ops Q fuel listed a w → wpAnyIn (Fence.wide.inRound l) n P md ops Q fuel listed a w := by
  intro fuel
  induction fuel with
  | zero => intro listed a w h; exact h
  | succ fuel ih =>
    intro listed a w h
    refine ⟨h.1, fun i hi => ?_⟩
    have h2 := h.2 i hi
    unfold wpOp at h2
    unfold wpOpIn
    cases ho : ops[i]? with
    | none => rw [ho] at h2; exact ih _ _ _ h2
    | some o =>
      rw [ho] at h2
      simp only at h2 ⊢
      split
      · rename_i hw
        rw [if_pos hw] at h2
        rcases h2 with h2 | h2
        · have := wpIn_plain (l := l) (n := n) (hp i o ho) h2
          exact Oper.wpIn_mono (fun a' w' h' => ih _ a' w' h') this
        · exact absurd h2.2 hL
      · rename_i hw
        rw [if_neg hw] at h2
        exact ⟨fun _ _ => trivial, ih _ _ _ h2⟩
/-- The way on is the only one. -/
def onlyN (Q : Exit → Act → World → Prop) : Exit → Act → World → Prop := fun e a w => e = .normal ∧ Q .normal a w
theorem onlyN_out : ¬ LetsOut (onlyN Q) := by rintro ⟨a, w, h, _⟩; cases h
theorem wpIn_region_still_tail {r m id : Nat} {a : Act} {w : World} {l : List Oper} (n : Nat) (hm : P.follows .mixedOrders = true) (hB : Region.lexTailB .any l.toArray n = true) (hp : l.all plainOp = true)
    (h : wpStill P l.toArray { w with drawn := w.drawn + 1 } (fun a' => wpList P l.toArray (onlyN Q) (l.drop n) a' { w with drawn := w.drawn + 1 }) (l.take n) a) : (Code.region id l.toArray true).wpIn (Fence.wide.inRound r) m P Q a w := by
  simp only [Region.lexTailB, Bool.and_eq_true, decide_eq_true_eq] at hB
  obtain ⟨⟨⟨⟨hsel, hn⟩, hs⟩, hc⟩, hlex⟩ := hB
  have hn' : n < l.length := by simpa using hn
  have htl : (l.take n).length = n := by simp; omega
  have hdl : (l.drop n).length = l.toArray.size - n := by simp
  have inv0 : HeadInv .any l.toArray n (Array.replicate l.toArray.size false) :=
    ⟨by simp, fun j oj _ hl => (by rw [getD_replicate_false] at hl; cases hl), fun t _ ht => getD_in (by simpa using ht) (getD_replicate_false _ _)⟩
  have H := wpAnyL_lex (md := .any) (g := l.toArray.size - n) hsel hs hc hn (l.take n) 0 _ a (fun j hj => by
    have hj' : j < n := by rw [htl] at hj; exact hj
    simp [hj']) (by simpa using htl) inv0 (by rw [htl]; exact hlex) h
  have H2 : wpAny P .any l.toArray (onlyN Q) l.toArray.size (Array.replicate l.toArray.size false) a { w with drawn := w.drawn + 1 } := by
    have := wpAny_of_head (Q' := onlyN Q) (g := l.toArray.size - n) (fun listed a' hL => by
      have := wpAny_of_seq (md := .any) (Q' := onlyN Q) (l.drop n) n listed a' { w with drawn := w.drawn + 1 } (fun j => by simp [List.getElem?_drop]) (by rw [hdl]; exact hL.1) hL.2
      rwa [hdl] at this) _ _ _ H
    rw [htl, show n + (l.toArray.size - n) = l.toArray.size by omega] at this
    exact this
  refine wpIn_mono (Q := onlyN Q) (wpIn_region_any hm (anyIn_of_any onlyN_out (fun i o ho => ?_) _ _ _ _ H2)) (fun e a w hh => by rw [hh.1]; exact hh.2)
  rw [List.all_eq_true] at hp
  exact hp o (by rw [List.getElem?_toArray] at ho; exact List.mem_of_getElem? ho)
end
end Go.Proofs.Ytkclmfppjhmnjaa

namespace Go.Proofs.Ytkclmfppjhmnjaa
open Go.ChangeShapes Go.WideShapes Go.ChangeAt Go.RowKit

set_option maxRecDepth 100000 in
theorem open_bytes_cell {H : Type} {enc : TypeId × Value → H} {W : World} {n : Nat} {v : Value} {y : DataW H × List MemPlace} (h : DataW.trod enc Try.prog W 0 (fun _ => true) true n 26 [v] = some y) :
    ∃ l : List Nat, Bs W v l ∧ Byt l ∧ l.length ≤ maxLen := by
  rcases open_ints Try.underlying26 Try.underlying5 (by kernel_rfl) h with ⟨hcs, _⟩ | ⟨a, len, cap, zs, hcs, _, hl, hm, hz, _, hc, hw⟩
  · simp only [List.cons.injEq, and_true] at hcs
    subst hcs
    exact ⟨[], ⟨none, 0, rfl, Nat.le_refl _, Or.inl rfl⟩, fun x hx => by simp at hx, Nat.zero_le _⟩
  · simp only [List.cons.injEq, and_true] at hcs
    subst hcs
    simp only [if_true] at hz
    have hb : ∀ i, i < zs.length → (0 : Int) ≤ zs.getD i 0 ∧ zs.getD i 0 < 256 := by
      intro i hi
      have := bounds_u8 (hw (zs.getD i 0) (List.mem_of_getElem? (getD_some hi)))
      omega
    have hlen : ((zs.take len).map Int.toNat).length = len := by simp; omega
    refine ⟨(zs.take len).map Int.toNat, ⟨some a, cap, by rw [hlen], by omega, ?_⟩, ?_, by omega⟩
    · by_cases h0 : len = 0
      · left; subst h0; simp
      · right
        have hp := addr_plain (hc 0 (by omega))
        have hp' : a.spot = none := by
          have : a.add 0 = a := by unfold Addr.add; simp
          rw [this] at hp; exact hp
        refine ⟨a.block, a.off, by obtain ⟨b, o, s⟩ := a; simp only at hp'; subst hp'; rfl, ?_⟩
        intro i x hx
        have hi : i < len := by have := (List.getElem?_eq_some_iff.1 hx).1; omega
        have h1 := hc i (by omega)
        rw [add_plain hp'] at h1
        rw [h1]
        have hb' := hb i (by omega)
        rw [List.getElem?_map, List.getElem?_take_of_lt hi, getD_some (l := zs) (d := 0) (by omega)] at hx
        simp only [Option.map_some, Option.some.injEq] at hx
        unfold bv
        rw [← hx, Int.toNat_of_nonneg hb'.1]
    · intro x hx
      obtain ⟨z, hz', rfl⟩ := List.mem_map.1 hx
      have := bounds_u8 (hw z (List.mem_of_mem_take hz'))
      omega

set_option maxRecDepth 100000 in
theorem open_bytes {H : Type} {enc : TypeId × Value → H} {W : World} {base : Nat} {v : Value} {d : DataW H} {p : List MemPlace} (hv : Value.okWide Try.prog W .any base 26 v) (h : DataW.Trod enc Try.prog W 0 (fun _ => true) true 26 v d p) :
    ∃ l : List Nat, Bs W v l ∧ Byt l ∧ l.length ≤ maxLen := by
  obtain ⟨a0, len0, cap0, rfl⟩ := okWide_slice Try.underlying26 hv
  obtain ⟨fuel, hf⟩ := h
  exact open_bytes_cell hf

end Go.Proofs.Ytkclmfppjhmnjaa
