/- Walk of the law GaloisCauchys. -/
import Derived.Test.YtpiiigeabbhdaaaAwk
import Derived.Test.YtpiiigeabbhdaaaRef2
namespace Go.Proofs.Ytpiiigeabbhdaaa
open Go.RowKit

set_option maxRecDepth 100000 in
set_option maxHeartbeats 4000000 in
theorem Cauchy_out (n m : Int) (w : World) (h : n < 1 ∨ 64 < n ∨ m < 1 ∨ 64 < m) :
    Calls Try.prog 18 #[.int .i64 n, .int .i64 m] w (RowsErr [] 2 w) := by
  have tri : n < m ∨ m < n ∨ (¬ n < m ∧ ¬ m < n) := by omega
  rcases h with h | h | h | h
  all_goals
    rcases tri with tr | tr | ⟨tr, tr'⟩
    all_goals
      go_enter Try.func18, Try.ntmps18
      go_wp2_with fail
      all_goals
        go_ret2
        exact ⟨.slice none 0 0, [], rfl, GM.nil _ _, Below.refl _ _⟩

set_option maxRecDepth 100000 in
set_option maxHeartbeats 4000000 in
theorem rCauchy_out (n m : Int) (w : World) (h : n < 1 ∨ 64 < n ∨ m < 1 ∨ 64 < m) :
    Calls Try.prog 19 #[.int .i64 n, .int .i64 m] w (RowsErr [] 2 w) := by
  rcases h with h | h | h | h
  all_goals
    go_enter Try.func19, Try.ntmps19
    go_wp2_with fail
    all_goals
      go_ret2
      exact ⟨.slice none 0 0, [], rfl, GM.nil _ _, Below.refl _ _⟩

/-- What Cauchy returns. -/
def cauRows (n m : Int) : List (List Nat) := if 1 ≤ n ∧ n ≤ 64 ∧ 1 ≤ m ∧ m ≤ 64 then cauM n.toNat m.toNat else []
def cauErr (n m : Int) : Nat := if 1 ≤ n ∧ n ≤ 64 ∧ 1 ≤ m ∧ m ≤ 64 then 0 else 2

theorem cauM_byt (n m : Nat) : BytM (cauM n m) := by
  intro r hr
  obtain ⟨i, _, rfl⟩ := List.mem_map.1 hr
  intro x hx
  obtain ⟨k, _, rfl⟩ := List.mem_map.1 hx
  exact Gf.gi_lt _
theorem cauRows_byt (n m : Int) : BytM (cauRows n m) := by
  unfold cauRows; split
  · exact cauM_byt _ _
  · intro r hr; simp at hr
theorem cauRows_length (n m : Int) : (cauRows n m).length ≤ 64 := by
  unfold cauRows; split
  · rw [cauM_length]; omega
  · exact Nat.zero_le _

theorem Cauchy_any (n m : Int) (w : World) : Calls Try.prog 18 #[.int .i64 n, .int .i64 m] w (RowsErr (cauRows n m) (cauErr n m) w) := by
  unfold cauRows cauErr
  by_cases h : 1 ≤ n ∧ n ≤ 64 ∧ 1 ≤ m ∧ m ≤ 64
  · rw [if_pos h, if_pos h]
    obtain ⟨a, rfl⟩ := Int.eq_ofNat_of_zero_le (show 0 ≤ n by omega)
    obtain ⟨b, rfl⟩ := Int.eq_ofNat_of_zero_le (show 0 ≤ m by omega)
    rw [Int.toNat_natCast, Int.toNat_natCast]
    exact Cauchy_in a b w (by omega) (by omega) (by omega) (by omega)
  · rw [if_neg h, if_neg h]
    exact Cauchy_out n m w (by omega)
theorem rCauchy_any (n m : Int) (w : World) : Calls Try.prog 19 #[.int .i64 n, .int .i64 m] w (RowsErr (cauRows n m) (cauErr n m) w) := by
  unfold cauRows cauErr
  by_cases h : 1 ≤ n ∧ n ≤ 64 ∧ 1 ≤ m ∧ m ≤ 64
  · rw [if_pos h, if_pos h]
    obtain ⟨a, rfl⟩ := Int.eq_ofNat_of_zero_le (show 0 ≤ n by omega)
    obtain ⟨b, rfl⟩ := Int.eq_ofNat_of_zero_le (show 0 ≤ m by omega)
    rw [Int.toNat_natCast, Int.toNat_natCast]
    exact rCauchy_in a b w (by omega) (by omega) (by omega) (by omega)
  · rw [if_neg h, if_neg h]
    exact rCauchy_out n m w (by omega)

theorem sameB_self (m : List (List Nat)) : sameB m m = true := decide_eq_true rfl

set_option maxRecDepth 100000 in
set_option maxHeartbeats 2000000 in
theorem GaloisCauchys_walk (n m : Int) (w : World) (n1 : -9223372036854775808 ≤ n) (n2 : n ≤ 9223372036854775807) (m1 : -9223372036854775808 ≤ m) (m2 : m ≤ 9223372036854775807) :
    Calls Try.prog 4 #[.int .i64 n, .int .i64 m] w fun e w' => e = .returned (.bool true) ∧ Below w.heap.size w w' := by
  by_cases hs : 20 < n ∧ n ≤ 64 ∨ 20 < m ∧ m ≤ 64
  · have hs' : (20 < n ∧ n ≤ 64) ∨ (n ≤ 20 ∧ 20 < m ∧ m ≤ 64) ∨ (64 < n ∧ 20 < m ∧ m ≤ 64) := by omega
    rcases hs' with ⟨q1, q2⟩ | ⟨q1, q2, q3⟩ | ⟨q1, q2, q3⟩
    all_goals
      clear hs
      go_enter Try.func4, Try.ntmps4
      go_wp2_with fail
      refine (awake_any _).mono ?_
      rintro e w1 ⟨rfl, hB⟩
      go_wp2_with fail
      go_ret
      exact ⟨rfl, hB⟩
  · have hs' : (n ≤ 20 ∧ m ≤ 20) ∨ (n ≤ 20 ∧ 64 < m) ∨ (64 < n ∧ m ≤ 20) ∨ (64 < n ∧ 64 < m) := by omega
    have t1 : ((cauErr n m : Int) == (cauErr n m : Int)) = true := by simp
    have t0 : cauErr n m ≤ 2 := by unfold cauErr; split <;> decide
    have hlen := cauRows_length n m
    rcases hs' with ⟨q1, q2⟩ | ⟨q1, q2⟩ | ⟨q1, q2⟩ | ⟨q1, q2⟩
    all_goals
      clear hs
      go_enter Try.func4, Try.ntmps4
      go_wp2_with fail
      refine (Cauchy_any n m _).mono ?_
      rintro e w1 ⟨v1, hd1, rfl, hG1, hB1⟩
      have B1 := Lib.hid hB1
      have G1 := Lib.hid hG1.mx
      clear hB1 hG1
      go_wp2_with fail
      refine (rCauchy_any n m _).mono ?_
      rintro e w2 ⟨v2, hd2, rfl, hG2, hB2⟩
      have B2 := Lib.hid (B1.out.trans (hB2.mono B1.out.size))
      have G3 := Lib.hid (G1.out.new hB2)
      have G2 := Lib.hid hG2.mx
      clear hB2 hG2 B1 G1
      go_wp2_with fail
      refine (rSame_any v1 v2 (cauRows n m) (cauRows n m) _ (by omega) (cauRows_byt n m) (cauRows_byt n m) G3.out G2.out).mono ?_
      rintro e w3 ⟨rfl, q, rfl⟩
      rw [sameB_self]
      have B3 := Lib.hid (below_drewN B2.out q)
      clear B2 G2 G3
      generalize w2.drewN q = w3 at *
      go_wp2_with fail
      refine (awake_any _).mono ?_
      rintro e w4 ⟨rfl, hB⟩
      have B4 := Lib.hid (B3.out.trans (hB.mono B3.out.size))
      clear hB B3
      go_wp2_with fail
      go_ret
      exact ⟨rfl, B4.out⟩
end Go.Proofs.Ytpiiigeabbhdaaa
