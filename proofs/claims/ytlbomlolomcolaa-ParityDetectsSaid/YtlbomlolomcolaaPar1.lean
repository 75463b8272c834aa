/- Contracts of slices.IndexFunc and ContainsFunc at the functions of parity, and of those. -/
import Derived.Test.YtlbomlolomcolaaGal3
namespace Go.Proofs.Ytlbomlolomcolaa
open Go.RowKit

set_option maxRecDepth 100000 in
set_option maxHeartbeats 400000 in
theorem IndexFunc_Recovery1 (b o n cap : Nat) (V : Nat → Value) (c : Value) (p : Nat → Bool) (w : World) (hn : n ≤ 1000000000) (hc : Hid (∀ i, i < n → w.cell? ⟨b, o + i, none⟩ = some (V i)))
    (hf : Hid (∀ i, i < n → Calls Try.prog 49 #[V i, c] w fun e w' => e = .returned (.bool (p i)) ∧ w = w')) :
    Calls Try.prog 75 #[.slice (some ⟨b, o, none⟩) n cap, .func (.func 49) #[] #[c]] w fun e w' => e = .returned (.int .i64 (firstOf p n)) ∧ w = w' := by
  go_enter Try.func75, Try.ntmps75
  go_wp2
  go_loop [8] (fun i => ∃ k : Nat, k ≤ n ∧ i = .int .i64 k ∧ Hid (∀ j, j < k → p j = false)) (fun i => n - (intOf i).toNat)
  case atStart => exact ⟨0, by omega, rfl, fun j h => by omega⟩
  case round =>
    obtain ⟨k, hk, rfl, hp⟩ := hrel
    by_cases hlt : k < n
    · have hcell := hc.out k hlt
      have hcall := Lib.hid (hf.out k hlt)
      cases hpk : p k with
      | true =>
        have Hpk := Lib.hid hpk
        clear hpk
        go_wp2_with fail
        refine hcall.out.mono ?_
        rintro e w' ⟨rfl, rfl⟩
        rw [Hpk.out]
        go_wp2_with fail
        go_ret
        exact ⟨by rw [firstOf_hit hlt Hpk.out hp.out]; rfl, rfl⟩
      | false =>
        have Hpk := Lib.hid hpk
        clear hpk
        go_wp2_with fail
        refine hcall.out.mono ?_
        rintro e w' ⟨rfl, rfl⟩
        rw [Hpk.out]
        go_wp2_with fail
        go_round
        case rel =>
          refine ⟨k + 1, by omega, by go_num, fun j hj => ?_⟩
          by_cases h : j = k
          · subst h; exact Hpk.out
          · exact hp.out j (by omega)
        case measure => simp [intOf]; omega
    · go_wp2_with fail
      go_ret
      exact ⟨by rw [firstOf_none (fun j hj => hp.out j (by omega))]; rfl, rfl⟩
set_option maxRecDepth 100000 in
set_option maxHeartbeats 400000 in
theorem IndexFunc_long (b o n cap : Nat) (V : Nat → Value) (p : Nat → Bool) (w : World) (hn : n ≤ 1000000000) (hc : Hid (∀ i, i < n → w.cell? ⟨b, o + i, none⟩ = some (V i)))
    (hf : Hid (∀ i, i < n → Calls Try.prog 48 #[V i] w fun e w' => e = .returned (.bool (p i)) ∧ w = w')) :
    Calls Try.prog 75 #[.slice (some ⟨b, o, none⟩) n cap, .func (.func 48) #[] #[]] w fun e w' => e = .returned (.int .i64 (firstOf p n)) ∧ w = w' := by
  go_enter Try.func75, Try.ntmps75
  go_wp2
  go_loop [8] (fun i => ∃ k : Nat, k ≤ n ∧ i = .int .i64 k ∧ Hid (∀ j, j < k → p j = false)) (fun i => n - (intOf i).toNat)
  case atStart => exact ⟨0, by omega, rfl, fun j h => by omega⟩
  case round =>
    obtain ⟨k, hk, rfl, hp⟩ := hrel
    by_cases hlt : k < n
    · have hcell := hc.out k hlt
      have hcall := Lib.hid (hf.out k hlt)
      cases hpk : p k with
      | true =>
        have Hpk := Lib.hid hpk
        clear hpk
        go_wp2_with fail
        refine hcall.out.mono ?_
        rintro e w' ⟨rfl, rfl⟩
        rw [Hpk.out]
        go_wp2_with fail
        go_ret
        exact ⟨by rw [firstOf_hit hlt Hpk.out hp.out]; rfl, rfl⟩
      | false =>
        have Hpk := Lib.hid hpk
        clear hpk
        go_wp2_with fail
        refine hcall.out.mono ?_
        rintro e w' ⟨rfl, rfl⟩
        rw [Hpk.out]
        go_wp2_with fail
        go_round
        case rel =>
          refine ⟨k + 1, by omega, by go_num, fun j hj => ?_⟩
          by_cases h : j = k
          · subst h; exact Hpk.out
          · exact hp.out j (by omega)
        case measure => simp [intOf]; omega
    · go_wp2_with fail
      go_ret
      exact ⟨by rw [firstOf_none (fun j hj => hp.out j (by omega))]; rfl, rfl⟩
set_option maxRecDepth 100000 in
set_option maxHeartbeats 400000 in
theorem IndexFunc_Update1 (b o n cap : Nat) (V : Nat → Value) (p : Nat → Bool) (w : World) (hn : n ≤ 1000000000) (hc : Hid (∀ i, i < n → w.cell? ⟨b, o + i, none⟩ = some (V i)))
    (hf : Hid (∀ i, i < n → Calls Try.prog 56 #[V i] w fun e w' => e = .returned (.bool (p i)) ∧ w = w')) :
    Calls Try.prog 75 #[.slice (some ⟨b, o, none⟩) n cap, .func (.func 56) #[] #[]] w fun e w' => e = .returned (.int .i64 (firstOf p n)) ∧ w = w' := by
  go_enter Try.func75, Try.ntmps75
  go_wp2
  go_loop [8] (fun i => ∃ k : Nat, k ≤ n ∧ i = .int .i64 k ∧ Hid (∀ j, j < k → p j = false)) (fun i => n - (intOf i).toNat)
  case atStart => exact ⟨0, by omega, rfl, fun j h => by omega⟩
  case round =>
    obtain ⟨k, hk, rfl, hp⟩ := hrel
    by_cases hlt : k < n
    · have hcell := hc.out k hlt
      have hcall := Lib.hid (hf.out k hlt)
      cases hpk : p k with
      | true =>
        have Hpk := Lib.hid hpk
        clear hpk
        go_wp2_with fail
        refine hcall.out.mono ?_
        rintro e w' ⟨rfl, rfl⟩
        rw [Hpk.out]
        go_wp2_with fail
        go_ret
        exact ⟨by rw [firstOf_hit hlt Hpk.out hp.out]; rfl, rfl⟩
      | false =>
        have Hpk := Lib.hid hpk
        clear hpk
        go_wp2_with fail
        refine hcall.out.mono ?_
        rintro e w' ⟨rfl, rfl⟩
        rw [Hpk.out]
        go_wp2_with fail
        go_round
        case rel =>
          refine ⟨k + 1, by omega, by go_num, fun j hj => ?_⟩
          by_cases h : j = k
          · subst h; exact Hpk.out
          · exact hp.out j (by omega)
        case measure => simp [intOf]; omega
    · go_wp2_with fail
      go_ret
      exact ⟨by rw [firstOf_none (fun j hj => hp.out j (by omega))]; rfl, rfl⟩
set_option maxRecDepth 100000 in
set_option maxHeartbeats 400000 in
theorem ContainsFunc_Recovery1 (b o n cap : Nat) (V : Nat → Value) (c : Value) (p : Nat → Bool) (w : World) (hn : n ≤ 1000000000) (hc : Hid (∀ i, i < n → w.cell? ⟨b, o + i, none⟩ = some (V i)))
    (hf : Hid (∀ i, i < n → Calls Try.prog 49 #[V i, c] w fun e w' => e = .returned (.bool (p i)) ∧ w = w')) :
    Calls Try.prog 47 #[.slice (some ⟨b, o, none⟩) n cap, .func (.func 49) #[] #[c]] w fun e w' => e = .returned (.bool (decide (0 ≤ firstOf p n))) ∧ w = w' := by
  go_enter Try.func47, Try.ntmps47
  go_wp2_with fail
  refine (IndexFunc_Recovery1 b o n cap V c p w hn hc hf).mono ?_
  rintro e w' ⟨rfl, rfl⟩
  go_wp2_with fail
  go_ret
  exact ⟨rfl, rfl⟩

set_option maxRecDepth 100000 in
set_option maxHeartbeats 400000 in
theorem ContainsFunc_long (b o n cap : Nat) (V : Nat → Value) (p : Nat → Bool) (w : World) (hn : n ≤ 1000000000) (hc : Hid (∀ i, i < n → w.cell? ⟨b, o + i, none⟩ = some (V i)))
    (hf : Hid (∀ i, i < n → Calls Try.prog 48 #[V i] w fun e w' => e = .returned (.bool (p i)) ∧ w = w')) :
    Calls Try.prog 47 #[.slice (some ⟨b, o, none⟩) n cap, .func (.func 48) #[] #[]] w fun e w' => e = .returned (.bool (decide (0 ≤ firstOf p n))) ∧ w = w' := by
  go_enter Try.func47, Try.ntmps47
  go_wp2_with fail
  refine (IndexFunc_long b o n cap V p w hn hc hf).mono ?_
  rintro e w' ⟨rfl, rfl⟩
  go_wp2_with fail
  go_ret
  exact ⟨rfl, rfl⟩

set_option maxRecDepth 100000 in
set_option maxHeartbeats 400000 in
theorem ContainsFunc_Update1 (b o n cap : Nat) (V : Nat → Value) (p : Nat → Bool) (w : World) (hn : n ≤ 1000000000) (hc : Hid (∀ i, i < n → w.cell? ⟨b, o + i, none⟩ = some (V i)))
    (hf : Hid (∀ i, i < n → Calls Try.prog 56 #[V i] w fun e w' => e = .returned (.bool (p i)) ∧ w = w')) :
    Calls Try.prog 47 #[.slice (some ⟨b, o, none⟩) n cap, .func (.func 56) #[] #[]] w fun e w' => e = .returned (.bool (decide (0 ≤ firstOf p n))) ∧ w = w' := by
  go_enter Try.func47, Try.ntmps47
  go_wp2_with fail
  refine (IndexFunc_Update1 b o n cap V p w hn hc hf).mono ?_
  rintro e w' ⟨rfl, rfl⟩
  go_wp2_with fail
  go_ret
  exact ⟨rfl, rfl⟩


set_option maxRecDepth 100000 in
set_option maxHeartbeats 400000 in
theorem long_any (a : Option Addr) (n c : Nat) (w : World) : Calls Try.prog 48 #[.slice a n c] w fun e w' => e = .returned (.bool (decide (65536 < n))) ∧ w = w' := by
  go_enter Try.func48, Try.ntmps48
  go_wp2
  all_goals
    go_ret
    refine ⟨?_, rfl⟩
    show Ending.returned (.bool (decide ((65536 : Int) < (n : Int)))) = _
    congr 2
    rw [Bool.eq_iff_iff]; simp; omega

set_option maxRecDepth 100000 in
set_option maxHeartbeats 400000 in
theorem Update1_any (a : Option Addr) (n c : Nat) (w : World) : Calls Try.prog 56 #[.slice a n c] w fun e w' => e = .returned (.bool (decide (n = 0))) ∧ w = w' := by
  go_enter Try.func56, Try.ntmps56
  go_wp2
  all_goals
    go_ret
    refine ⟨?_, rfl⟩
    show Ending.returned (.bool ((n : Int) == 0)) = _
    congr 2
    rw [Bool.eq_iff_iff]; simp

set_option maxRecDepth 100000 in
set_option maxHeartbeats 400000 in
theorem Recovery1_any (a a0 : Option Addr) (n c pc b o m cap n0 c0 : Nat) (w : World) (hm : 0 < m) (hp : w.cell? ⟨pc, 0, none⟩ = some (.slice (some ⟨b, o, none⟩) m cap)) (hc : w.cell? ⟨b, o, none⟩ = some (.slice a0 n0 c0)) :
    Calls Try.prog 49 #[.slice a n c, .pointer (some ⟨pc, 0, none⟩)] w fun e w' => e = .returned (.bool (decide (n = 0 ∨ n ≠ n0))) ∧ w = w' := by
  by_cases h0 : n = 0
  · have t1 : ((n : Int) == 0) = true := by rw [beq_iff_eq]; omega
    have e1 := Lib.hid (show decide (n = 0 ∨ n ≠ n0) = true from decide_eq_true (Or.inl h0))
    clear h0
    go_enter Try.func49, Try.ntmps49
    go_wp2
    go_ret
    exact ⟨by rw [e1.out]; rfl, rfl⟩
  · have t1 : ((n : Int) == 0) = false := by rw [beq_eq_false_iff_ne]; omega
    by_cases h1 : n = n0
    · have t2 : ((n : Int) != (n0 : Int)) = false := by rw [bne_eq_false_iff_eq]; omega
      have e1 := Lib.hid (show decide (n = 0 ∨ n ≠ n0) = false from decide_eq_false (by omega))
      clear h0 h1
      go_enter Try.func49, Try.ntmps49
      go_wp2
      go_ret
      exact ⟨by rw [e1.out]; rfl, rfl⟩
    · have t2 : ((n : Int) != (n0 : Int)) = true := by rw [bne_iff_ne]; omega
      have e1 := Lib.hid (show decide (n = 0 ∨ n ≠ n0) = true from decide_eq_true (by omega))
      clear h0 h1
      go_enter Try.func49, Try.ntmps49
      go_wp2
      go_ret
      exact ⟨by rw [e1.out]; rfl, rfl⟩
end Go.Proofs.Ytlbomlolomcolaa
