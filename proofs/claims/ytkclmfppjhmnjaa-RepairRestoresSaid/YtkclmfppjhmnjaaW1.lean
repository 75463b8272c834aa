/- Contracts of math/bits.LeadingZeros8 and of wire.further, number. -/
import Derived.Test.YtkclmfppjhmnjaaW0
import Derived.Test.YtkclmfppjhmnjaaField
import Derived.Test.YtkclmfppjhmnjaaLen
namespace Go.Proofs.Ytkclmfppjhmnjaa
open Go.RowKit Wire

theorem ret_int {k : IntKind} {a b : Int} (h : a = b) : Ending.returned (.int k a) = .returned (.int k b) := by rw [h]
theorem bl_two {n : Nat} (h0 : n ≠ 0) : bl n = 1 + bl (n / 2) := by
  by_cases h1 : n = 1
  · subst h1; decide
  have h := bl_div n 1 (by rw [Nat.pow_one]; omega)
  rw [Nat.pow_one] at h
  exact h
theorem bitLen_bl (n : Nat) (h : n < 2 ^ 64) : Lib.bitLen n = bl n := by
  induction n using Nat.strongRecOn with
  | _ n ih =>
    by_cases h0 : n = 0
    · subst h0; decide
    · rw [Lib.bitLen_half n h0 h, bl_two h0, ih (n / 2) (by omega) (by omega)]
theorem bl_u8 {n : Nat} (h : n < 256) : bl n ≤ 8 := (bl_le n 8).2 h

set_option maxRecDepth 100000 in
theorem LeadingZeros8_any (n : Nat) (w : World) (hn : n < 256) : Calls Try.prog 70 #[.int .u8 n] w fun e w' => e = .returned (.int .i64 (8 - bl n : Nat)) ∧ w' = w := by
  have h8 := bl_u8 hn
  have hb := bitLen_bl n (by omega)
  have hC : Hid (∀ w, Calls Try.prog 100 #[.int .u8 n] w fun e w' => e = .returned (.int .i64 (bl n)) ∧ w' = w) := by
    intro w
    have h := bits_Len8 n w (by omega) (by omega)
    rw [Int.toNat_natCast, hb] at h
    exact h
  generalize bl n = k at *
  clear hb
  go_enter Try.func70, Try.ntmps70
  go_wp2_with (go_at_call 100; refine (hC.out _).mono ?_; rintro e w' ⟨rfl, rfl⟩)
  go_ret
  exact ⟨ret_int (by omega), rfl⟩

set_option maxRecDepth 100000 in
theorem Len_any (n : Nat) (w : World) (hn : n < 9223372036854775808) : Calls Try.prog 98 #[.int .u64 n] w fun e w' => e = .returned (.int .i64 (bl n)) ∧ w' = w := by
  have h := bits_Len n w (by omega) (by omega)
  rw [Int.toNat_natCast, bitLen_bl n (by omega)] at h
  exact h

set_option maxRecDepth 100000 in
theorem wfurther_any (n : Nat) (w : World) (hn : n < 9223372036854775808) : Calls Try.prog 71 #[.int .i64 n] w fun e w' => e = .returned (.int .i64 (fur n)) ∧ w' = w := by
  have h8 : bl n ≤ 63 := (bl_le n 63).2 hn
  have hC := Lib.hid (Len_any n w hn)
  have hq : Hid (fur n = (bl n - 1) / 7) := rfl
  generalize fur n = q at *
  generalize bl n = k at *
  by_cases hk : 1 ≤ k
  · have t1 : (0 : Int) < (k : Int) - 1 ∨ (k : Int) - 1 = 0 := by omega
    go_enter Try.func71, Try.ntmps71
    go_wp2_with (go_at_call 98; refine hC.out.mono ?_; rintro e w' ⟨rfl, rfl⟩)
    all_goals
      go_ret
      have := hq.out
      exact ⟨ret_int (by omega), rfl⟩
  · go_enter Try.func71, Try.ntmps71
    go_wp2_with (go_at_call 98; refine hC.out.mono ?_; rintro e w' ⟨rfl, rfl⟩)
    all_goals
      go_ret
      have := hq.out
      exact ⟨ret_int (by omega), rfl⟩

set_option maxRecDepth 100000 in
theorem wnumber_any (n : Int) (w : World) : Calls Try.prog 99 #[.int .i64 n] w fun e w' => e = .returned (.int .i64 (num n)) ∧ w' = w := by
  have hq : Hid (num n = if n < 0 ∨ 9007199254740991 < n then 0 else n.toNat) := rfl
  generalize num n = q at *
  go_enter Try.func99, Try.ntmps99
  go_wp2_with fail
  all_goals
    go_ret
    have h := hq.out
    refine ⟨ret_int ?_, rfl⟩
    split at h <;> omega
end Go.Proofs.Ytkclmfppjhmnjaa
