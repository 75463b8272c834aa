/- Walk of the law GaloisCauchys. -/
import Derived.Test.YtlbomlolomcolaaAwk
import Derived.Test.YtlbomlolomcolaaRef2
namespace Go.Proofs.Ytlbomlolomcolaa
open Go.RowKit

set_option maxRecDepth 100000 in
set_option maxHeartbeats 4000000 in
theorem Cauchy_out (n m : Int) (w : World) (h : n < 1 ∨ 64 < n ∨ m < 1 ∨ 64 < m) :
    Calls Try.prog 77 #[.int .i64 n, .int .i64 m] w (RowsErr [] 2 w) := by
  have tri : n < m ∨ m < n ∨ (¬ n < m ∧ ¬ m < n) := by omega
  rcases h with h | h | h | h
  all_goals
    rcases tri with tr | tr | ⟨tr, tr'⟩
    all_goals
      go_enter Try.func77, Try.ntmps77
      go_wp2_with fail
      all_goals
        go_ret2
        exact ⟨.slice none 0 0, [], rfl, GM.nil _ _, Below.refl _ _⟩

set_option maxRecDepth 100000 in
set_option maxHeartbeats 4000000 in
theorem rCauchy_out (n m : Int) (w : World) (h : n < 1 ∨ 64 < n ∨ m < 1 ∨ 64 < m) :
    Calls Try.prog 79 #[.int .i64 n, .int .i64 m] w (RowsErr [] 2 w) := by
  rcases h with h | h | h | h
  all_goals
    go_enter Try.func79, Try.ntmps79
    go_wp2_with fail
    all_goals
      go_ret2
      exact ⟨.slice none 0 0, [], rfl, GM.nil _ _, Below.refl _ _⟩

/-- What Cauchy returns. -/
def cauRows (n m : Int) : List (List Nat) := if 1 ≤ n ∧ n ≤ 64 ∧ 1 ≤ m ∧ m ≤ 64 then cauM n.toNat m.toNat else []
def cauErr (n m : Int) : Nat := if 1 ≤ n ∧ n ≤ 64 ∧ 1 ≤ m ∧ m ≤ 64 then 0 else 2

theorem cauM_byt (n m : Nat) : BytM (cauM n m) := by
  intro r hr
  obtain ⟨i, _, rfl⟩ := List.mem_map.1 hr
  intro x hx
  obtain ⟨k, _, rfl⟩ := List.mem_map.1 hx
  exact Gf.gi_lt _
theorem cauRows_byt (n m : Int) : BytM (cauRows n m) := by
  unfold cauRows; split
  · exact cauM_byt _ _
  · intro r hr; simp at hr
theorem cauRows_length (n m : Int) : (cauRows n m).length ≤ 64 := by
  unfold cauRows; split
  · rw [cauM_length]; omega
  · exact Nat.zero_le _

theorem Cauchy_any (n m : Int) (w : World) : Calls Try.prog 77 #[.int .i64 n, .int .i64 m] w (RowsErr (cauRows n m) (cauErr n m) w) := by
  unfold cauRows cauErr
  by_cases h : 1 ≤ n ∧ n ≤ 64 ∧ 1 ≤ m ∧ m ≤ 64
  · rw [if_pos h, if_pos h]
    obtain ⟨a, rfl⟩ := Int.eq_ofNat_of_zero_le (show 0 ≤ n by omega)
    obtain ⟨b, rfl⟩ := Int.eq_ofNat_of_zero_le (show 0 ≤ m by omega)
    rw [Int.toNat_natCast, Int.toNat_natCast]
    exact Cauchy_in a b w (by omega) (by omega) (by omega) (by omega)
  · rw [if_neg h, if_neg h]
    exact Cauchy_out n m w (by omega)
theorem rCauchy_any (n m : Int) (w : World) : Calls Try.prog 79 #[.int .i64 n, .int .i64 m] w (RowsErr (cauRows n m) (cauErr n m) w) := by
  unfold cauRows cauErr
  by_cases h : 1 ≤ n ∧ n ≤ 64 ∧ 1 ≤ m ∧ m ≤ 64
  · rw [if_pos h, if_pos h]
    obtain ⟨a, rfl⟩ := Int.eq_ofNat_of_zero_le (show 0 ≤ n by omega)
    obtain ⟨b, rfl⟩ := Int.eq_ofNat_of_zero_le (show 0 ≤ m by omega)
    rw [Int.toNat_natCast, Int.toNat_natCast]
    exact rCauchy_in a b w (by omega) (by omega) (by omega) (by omega)
  · rw [if_neg h, if_neg h]
    exact rCauchy_out n m w (by omega)

theorem sameB_self (m : List (List Nat)) : sameB m m = true := decide_eq_true rfl

end Go.Proofs.Ytlbomlolomcolaa
