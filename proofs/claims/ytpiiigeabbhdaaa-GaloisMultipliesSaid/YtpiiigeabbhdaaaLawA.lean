/- Walks of the laws GaloisMultiplies and GaloisField. -/
import Derived.Test.YtpiiigeabbhdaaaAwk
namespace Go.Proofs.Ytpiiigeabbhdaaa
open Go.RowKit

set_option maxRecDepth 100000 in
set_option maxHeartbeats 2000000 in
theorem GaloisMultiplies_walk (x y : Nat) (n : Int) (w : World) (hx : x < 256) (hy : y < 256) (h1 : -9223372036854775808 ≤ n) (h2 : n ≤ 9223372036854775807) :
    Calls Try.prog 3 #[.int .u8 x, .int .u8 y, .int .i64 n] w fun e w' => e = .returned (.bool true) ∧ Below w.heap.size w w' := by
  have g1 := Gf.gi0_lt x
  have g2 : Gf.ge0 x ≤ 17 := by unfold Gf.ge0; split <;> decide
  have t1 : ((Gf.gm x y : Int) == (Gf.gm x y : Int)) = true := by simp
  have t2 : ((Gf.gi0 x : Int) == (Gf.gi0 x : Int)) = true := by simp
  have t3 : ((Gf.ge0 x : Int) == (Gf.ge0 x : Int)) = true := by simp
  have t4 : ((Gf.gpow x n : Int) == (Gf.gpow x n : Int)) = true := by simp
  go_enter Try.func3, Try.ntmps3
  go_wp2_with fail
  refine (Inv_any x _ hx).mono ?_
  rintro e w1 ⟨rfl, hB1⟩
  have B1 := Lib.hid hB1
  clear hB1
  go_wp2_with fail
  refine (rInv_any x _ hx).mono ?_
  rintro e w2 ⟨rfl, rfl⟩
  go_wp2_with fail
  refine (Mul_any x y _ hx hy).mono ?_
  rintro e w3 ⟨rfl, hB⟩
  have B3 := Lib.hid (B1.out.trans (hB.mono B1.out.size))
  clear hB B1
  go_wp2_with fail
  refine (rMul_any x y _ hx hy).mono ?_
  rintro e w4 ⟨rfl, rfl⟩
  go_wp2_with fail
  refine (Power_any x n _ hx h1 h2).mono ?_
  rintro e w5 ⟨rfl, hB⟩
  have B5 := Lib.hid (B3.out.trans (hB.mono B3.out.size))
  clear hB B3
  go_wp2_with fail
  refine (rPower_any x n _ hx h1 h2).mono ?_
  rintro e w6 ⟨rfl, rfl⟩
  go_wp2_with fail
  refine (awake_any _).mono ?_
  rintro e w7 ⟨rfl, hB⟩
  have B7 := Lib.hid (B5.out.trans (hB.mono B5.out.size))
  clear hB B5
  go_wp2_with fail
  go_ret
  exact ⟨rfl, B7.out⟩
end Go.Proofs.Ytpiiigeabbhdaaa
