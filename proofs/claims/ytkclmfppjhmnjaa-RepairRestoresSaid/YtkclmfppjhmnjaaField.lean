/- What galois.field makes: the tables of powers and logarithms, in a new block. -/
import Derived.Test.YtkclmfppjhmnjaaProg
import Derived.Test.YtkclmfppjhmnjaaGf
import Derived.WalkKit
import Derived.WalkSpells
import Derived.WalkLawsBesides
import Derived.Lib.Hide
namespace Go.Proofs.Ytkclmfppjhmnjaa
open Go.RowKit

def tb0 : Array Value := Array.replicate 255 (.int .u8 0) ++ Array.replicate 256 (.int .i64 0)
def tb : Nat → Array Value
  | 0 => tb0
  | k + 1 => ((tb k).setIfInBounds k (.int .u8 (Gf.pw k))).setIfInBounds (255 + Gf.pw k) (.int .i64 k)
theorem zeroTab (w : World) : (zeroValue 148).run Try.prog w = .ok (.agg tb0) w := by kernel_rfl
theorem tb_size (k : Nat) : (tb k).size = 511 := by
  induction k with
  | zero => simp [tb, tb0]
  | succ k ih => simp [tb, ih]

theorem bits_xor_i64_nat (a b : Nat) (ha : a < 65536) (hb : b < 65536) : bits .xor .i64 (a : Int) (b : Int) = ((a ^^^ b : Nat) : Int) := by
  have hx : a ^^^ b < 2 ^ 16 := Nat.xor_lt_two_pow (by omega) (by omega)
  have h1 : (BitVec.ofInt 64 (a : Int)).toNat = a := by
    rw [BitVec.ofInt_natCast, BitVec.toNat_ofNat]; exact Nat.mod_eq_of_lt (by omega)
  have h2 : (BitVec.ofInt 64 (b : Int)).toNat = b := by
    rw [BitVec.ofInt_natCast, BitVec.toNat_ofNat]; exact Nat.mod_eq_of_lt (by omega)
  show IntKind.i64.wrap ((BitVec.ofInt 64 (a : Int) ^^^ BitVec.ofInt 64 (b : Int)).toNat : Int) = _
  rw [BitVec.toNat_xor, h1, h2]
  exact IntWalk.i64_in _ (by omega)

theorem pw_step (k : Nat) : (255 < (Gf.pw k : Int) * 2 → bits .xor .i64 ((Gf.pw k : Int) * 2) 285 = (Gf.pw (k + 1) : Int)) ∧ ((Gf.pw k : Int) * 2 ≤ 255 → (Gf.pw k : Int) * 2 = (Gf.pw (k + 1) : Int)) := by
  have hp := Gf.pw_lt k
  constructor
  · intro h
    rw [show Gf.pw (k + 1) = Gf.xt (Gf.pw k) from rfl, Gf.xt, if_pos (by omega)]
    have := bits_xor_i64_nat (2 * Gf.pw k) 285 (by omega) (by omega)
    rw [← this]
    congr 1
    omega
  · intro h
    rw [show Gf.pw (k + 1) = Gf.xt (Gf.pw k) from rfl, Gf.xt, if_neg (by omega)]
    omega

set_option maxRecDepth 100000 in
set_option maxHeartbeats 400000 in
theorem field_any (w : World) :
    Calls Try.prog 80 #[] w fun e w' => e = .returned (.pointer (some ⟨w.heap.size, 0, none⟩)) ∧ w' = w.alloc (.cells (tb 255) 148) := by
  have z := zeroTab
  go_enter Try.func80, Try.ntmps80
  go_wp2
  go_loopw [2, 6] (fun n i wr => ∃ k : Nat, k ≤ 255 ∧ i = .int .i64 k ∧ n = .int .i64 (Gf.pw k) ∧ wr = w.alloc (.cells (tb k) 148)) (fun _ i _ => 255 - (intOf i).toNat)
  case atStart => exact ⟨0, by omega, rfl, rfl, rfl⟩
  case round =>
    obtain ⟨k, hk, rfl, rfl, rfl⟩ := hrel
    clear z
    have hp := Gf.pw_lt k
    have hs := tb_size k
    by_cases hlt : k < 255
    · obtain ⟨v0, hv0⟩ : ∃ v, (tb k)[k]? = some v := ⟨_, Array.getElem?_eq_getElem (by omega)⟩
      obtain ⟨v1, hv1⟩ : ∃ v, ((tb k).setIfInBounds k (.int .u8 (Gf.pw k)))[255 + Gf.pw k]? = some v := ⟨_, Array.getElem?_eq_getElem (by rw [Array.size_setIfInBounds]; omega)⟩
      have hx := Lib.hid (pw_step k)
      go_wp2
      all_goals
        go_roundw
        case rel => exact ⟨k + 1, by omega, by go_num, by first | exact congrArg (Value.int .i64) (hx.out.1 ‹_›) | exact congrArg (Value.int .i64) (hx.out.2 ‹_›), rfl⟩
        case measure => simp [intOf]; omega
    · go_wp2
      go_ret
      obtain rfl : k = 255 := by omega
      exact ⟨rfl, rfl⟩
end Go.Proofs.Ytkclmfppjhmnjaa
