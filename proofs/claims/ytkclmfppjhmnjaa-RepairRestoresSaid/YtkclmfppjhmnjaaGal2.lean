/- Contracts of galois.Power and of the reference's Mul, Inv, Power. -/
import Derived.Test.YtkclmfppjhmnjaaGal1
namespace Go.Proofs.Ytkclmfppjhmnjaa
open Go.RowKit

theorem rstep_x (s : Nat × Nat × Nat) (hp : s.1 < 256) (hx : s.2.1 < 256) :
    ((s.2.2 : Int) % 2 = 1 → bits .xor .i64 (s.1 : Int) (s.2.1 : Int) = ((Gf.rstep s).1 : Int)) ∧ (¬ (s.2.2 : Int) % 2 = 1 → (s.1 : Int) = ((Gf.rstep s).1 : Int)) ∧
    (256 ≤ 2 * (s.2.1 : Int) → bits .xor .i64 (2 * (s.2.1 : Int)) 285 = ((Gf.rstep s).2.1 : Int)) ∧ (2 * (s.2.1 : Int) < 256 → 2 * (s.2.1 : Int) = ((Gf.rstep s).2.1 : Int)) ∧
    (s.2.2 : Int) / 2 = ((Gf.rstep s).2.2 : Int) := by
  obtain ⟨p, x, y⟩ := s
  dsimp only at hp hx ⊢
  refine ⟨fun h => ?_, fun h => ?_, fun h => ?_, fun h => ?_, ?_⟩
  · rw [bits_xor_i64_nat _ _ (by omega) (by omega)]
    show _ = (((if y % 2 = 1 then p ^^^ x else p : Nat)) : Int)
    rw [if_pos (by omega)]
  · show _ = (((if y % 2 = 1 then p ^^^ x else p : Nat)) : Int)
    rw [if_neg (by omega)]
  · show _ = ((Gf.xt x : Nat) : Int)
    rw [Gf.xt, if_pos (by omega), ← bits_xor_i64_nat _ _ (by omega) (by omega)]
    congr 1
  · show _ = ((Gf.xt x : Nat) : Int)
    rw [Gf.xt, if_neg (by omega)]
    omega
  · show _ = ((y / 2 : Nat) : Int)
    omega

set_option maxRecDepth 100000 in
set_option maxHeartbeats 400000 in
theorem rMul_any (a b : Nat) (w : World) (ha : a < 256) (hb : b < 256) :
    Calls Try.prog 109 #[.int .u8 a, .int .u8 b] w fun e w' => e = .returned (.int .u8 (Gf.gm a b)) ∧ w = w' := by
  rw [← Gf.rm_eq_gm ha hb]
  go_enter Try.func109, Try.ntmps109
  go_wp2
  go_loop [5, 6, 7, 8] (fun p x y i => ∃ k : Nat, k ≤ 8 ∧ i = .int .i64 k ∧ p = .int .i64 (Gf.rst a b k).1 ∧ x = .int .i64 (Gf.rst a b k).2.1 ∧ y = .int .i64 (Gf.rst a b k).2.2) (fun _ _ _ i => 8 - (intOf i).toNat)
  case atStart => exact ⟨0, by omega, rfl, rfl, rfl, rfl⟩
  case round =>
    obtain ⟨k, hk, rfl, rfl, rfl, rfl⟩ := hrel
    obtain ⟨q1, q2⟩ := Gf.rst_lt (b := b) ha k
    have q3 := Gf.rst_le a b k
    by_cases hlt : k < 8
    · have hx := Lib.hid (rstep_x _ q1 q2)
      have hr := Lib.hid (show Gf.rst a b (k + 1) = Gf.rstep (Gf.rst a b k) from rfl)
      generalize Gf.rst a b k = s at *
      go_wp2
      all_goals
        go_round
        case rel =>
          obtain ⟨x1, x2, x3, x4, x5⟩ := hx.out
          refine ⟨k + 1, by omega, by go_num, ?_, ?_, ?_⟩
          all_goals rw [hr.out]
          · first | exact congrArg (Value.int .i64) (x1 (by simp_all)) | exact congrArg (Value.int .i64) (x2 (by simp_all))
          · first | exact congrArg (Value.int .i64) (x3 ‹_›) | exact congrArg (Value.int .i64) (x4 ‹_›)
          · exact congrArg (Value.int .i64) x5
        case measure => simp [intOf]; omega
    · have he := Lib.hid (show Gf.rm a b = (Gf.rst a b k).1 by rw [show k = 8 by omega]; rfl)
      generalize Gf.rst a b k = s at *
      go_wp2
      go_ret
      exact ⟨by rw [he.out]; rfl, rfl⟩

set_option maxRecDepth 100000 in
set_option maxHeartbeats 400000 in
theorem rInv_any (a : Nat) (w : World) (ha : a < 256) :
    Calls Try.prog 128 #[.int .u8 a] w fun e w' => e = .returned (.tuple #[.int .u8 (Gf.gi0 a), .int .i64 (Gf.ge0 a)]) ∧ w = w' := by
  go_enter Try.func128, Try.ntmps128
  go_wp2
  go_loop [4] (fun i => ∃ k : Nat, 1 ≤ k ∧ k ≤ 256 ∧ i = .int .i64 k ∧ Hid (∀ j, 1 ≤ j → j < k → Gf.gm a j ≠ 1)) (fun i => 256 - (intOf i).toNat)
  case atStart => exact ⟨1, by omega, by omega, rfl, fun j h1 h2 => by omega⟩
  case round =>
    obtain ⟨k, hk1, hk2, rfl, hn⟩ := hrel
    by_cases hlt : k < 256
    · by_cases h1 : Gf.gm a k = 1
      · have hb : ((Gf.gm a k : Int) == 1) = true := by rw [h1]; rfl
        have H1 := Lib.hid h1
        clear h1 hn
        go_wp2_with fail
        refine (rMul_any _ _ _ ha hlt).mono ?_
        rintro e w' ⟨rfl, rfl⟩
        go_wp2_with fail
        go_ret2
        have a0 : a ≠ 0 := by intro h; have := H1.out; rw [h, Gf.gm_zero_left] at this; exact absurd this (by decide)
        rw [Gf.gi0_ne a0, Gf.ge0_ne a0, ← Gf.gi_unique ha hlt H1.out]
        exact ⟨rfl, rfl⟩
      · have hb : ((Gf.gm a k : Int) == 1) = false := by simp; omega
        have H1 := Lib.hid h1
        clear h1
        go_wp2_with fail
        refine (rMul_any _ _ _ ha hlt).mono ?_
        rintro e w' ⟨rfl, rfl⟩
        go_wp2_with fail
        go_round
        case rel =>
          refine ⟨k + 1, by omega, by omega, by go_num, fun j h1 h2 => ?_⟩
          by_cases hj : j = k
          · subst hj; exact H1.out
          · exact hn.out j h1 (by omega)
        case measure => simp [intOf]; omega
    · go_wp2_with fail
      go_ret2
      have a0 : a = 0 := by
        apply Classical.byContradiction
        intro a0
        have := Gf.gi_lt a
        exact hn.out (Gf.gi a) (Nat.pos_of_ne_zero (Gf.gi_ne a)) (by omega) (Gf.gm_gi ha a0)
      rw [a0, Gf.gi0_zero, Gf.ge0_zero]
      exact ⟨rfl, rfl⟩

/-- The reference's power where the base is not 0: k rounds of products. -/
theorem gpn_succ (a k : Nat) : Gf.gpn a (k + 1) = Gf.gm (Gf.gpn a k) a := rfl

end Go.Proofs.Ytkclmfppjhmnjaa
