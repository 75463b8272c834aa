/- Powers add their exponents; 2 generates the field. -/
import Derived.Test.YtpiiigeabbhdaaaGf
namespace Go.Proofs.Ytpiiigeabbhdaaa.Gf

theorem gpow_add {a : Nat} (a0 : a ≠ 0) (n m : Int) : gpow a (n + m) = gm (gpow a n) (gpow a m) := by
  rw [gpow_pos a0, gpow_pos a0, gpow_pos a0, gm_pw]
  apply pw_congr
  have h1 : 0 ≤ n % 255 := Int.emod_nonneg _ (by decide)
  have h2 : 0 ≤ m % 255 := Int.emod_nonneg _ (by decide)
  have h3 : 0 ≤ (n + m) % 255 := Int.emod_nonneg _ (by decide)
  obtain ⟨i, hi⟩ := Int.eq_ofNat_of_zero_le h1
  obtain ⟨j, hj⟩ := Int.eq_ofNat_of_zero_le h2
  obtain ⟨k, hk⟩ := Int.eq_ofNat_of_zero_le h3
  rw [hi, hj, hk, Int.toNat_natCast, Int.toNat_natCast, Int.toNat_natCast, ← Nat.mul_add]
  obtain ⟨q, hq⟩ : ∃ q, i + j = k + 255 * q := ⟨(i + j - k) / 255, by omega⟩
  rw [hq, Nat.mul_add, ← Nat.mul_assoc, Nat.mul_comm (lg a) 255, Nat.mul_assoc, Nat.add_mul_mod_self_left]

theorem gpow_255 {a : Nat} (a0 : a ≠ 0) : gpow a 255 = 1 := by
  rw [gpow_pos a0]; rfl

theorem gpow_one {a : Nat} (ha : a < 256) (a0 : a ≠ 0) : gpow a 1 = a := by
  rw [gpow_pos a0]
  show pw (lg a * 1) = a
  rw [Nat.mul_one, pw_lg a ha a0]

theorem lg_two : lg 2 = 1 := by decide +kernel

theorem gpow_two {k : Nat} (hk : k < 255) : gpow 2 k = pw k := by
  rw [gpow_pos (by decide), lg_two, Nat.one_mul]
  congr 1
  omega

end Go.Proofs.Ytpiiigeabbhdaaa.Gf
