/- Contracts of galois.Power and of the reference's Mul, Inv, Power. -/
import Derived.Test.YtpiiigeabbhdaaaGal1
namespace Go.Proofs.Ytpiiigeabbhdaaa
open Go.RowKit

set_option maxRecDepth 100000 in
set_option maxHeartbeats 400000 in
theorem Power_any (x : Nat) (n : Int) (w : World) (hx : x < 256) (h1 : -9223372036854775808 ≤ n) (h2 : n ≤ 9223372036854775807) :
    Calls Try.prog 15 #[.int .u8 x, .int .i64 n] w fun e w' => e = .returned (.int .u8 (Gf.gpow x n)) ∧ Below w.heap.size w w' := by
  by_cases n0 : n = 0
  · subst n0
    rw [Gf.gpow_zero]
    go_enter Try.func15, Try.ntmps15
    go_wp2
    go_ret
    exact ⟨rfl, Below.refl _ _⟩
  have n1 : (n == 0) = false := by simpa using n0
  by_cases x0 : x = 0
  · subst x0
    rw [Gf.zero_gpow n0]
    clear n0
    go_enter Try.func15, Try.ntmps15
    go_wp2
    go_ret
    exact ⟨rfl, Below.refl _ _⟩
  have x1 : ((x : Int) == 0) = false := by simp; omega
  have hl := Gf.lg_lt x hx
  obtain ⟨tp, tl⟩ := Tab.made w
  have c1 := tl x hx
  have c2 := tp (Gf.lg x * (n % 255).toNat % 255) (Nat.mod_lt _ (by decide))
  have e0 : Gf.gpow x n = Gf.pw (Gf.lg x * (n % 255).toNat % 255) := by unfold Gf.gpow; rw [if_neg n0, if_neg x0]
  clear tp tl n0 x0
  generalize Gf.lg x = l at *
  have b1 : (0 : Int) ≤ x := by omega
  have b2 : (x : Int) < 256 := by omega
  have hm0 : 0 ≤ n % 255 := Int.emod_nonneg _ (by decide)
  have hm1 : n % 255 < 255 := Int.emod_lt_of_pos _ (by decide)
  obtain ⟨m, hm⟩ : ∃ m : Nat, n % 255 = m := ⟨(n % 255).toNat, by omega⟩
  obtain ⟨t, ht⟩ : ∃ t : Int, n.tmod 255 = t := ⟨_, rfl⟩
  have ht' : -255 < t ∧ t < 255 ∧ (t + 255) % 255 = m := by
    subst ht
    have a1 := Int.tmod_lt_of_pos n (b := 255) (by decide)
    have a2 := Int.lt_tmod_of_pos n (b := 255) (by decide)
    have a3 := Int.mul_tdiv_add_tmod n 255
    generalize n.tmod 255 = t at *
    generalize n.tdiv 255 = q at *
    omega
  rw [hm, Int.toNat_natCast] at c2 e0
  rw [hm] at hm1 hm0
  obtain ⟨k, hk⟩ : ∃ k, k = l * m % 255 := ⟨_, rfl⟩
  rw [← hk] at c2 e0
  have hlm : l * m ≤ 254 * 254 := Nat.mul_le_mul (by omega) (by omega)
  have hk1 : k < 255 := by omega
  have hk2 : (k : Int) < 255 := by omega
  have hk0 : 0 ≤ (k : Int) := by omega
  have w0 : (t + 255).tmod 255 = m := by rw [Int.tmod_eq_emod_of_nonneg (by omega)]; exact ht'.2.2
  have w1 : IntKind.i64.wrap ((l : Int) * m) = (l : Int) * m := IntWalk.i64_in _ (by rw [← Int.natCast_mul]; omega)
  have w2 : ((l : Int) * m).tmod 255 = k := by rw [← Int.natCast_mul, Int.tmod_eq_emod_of_nonneg (by omega)]; omega
  have E := Lib.hid e0
  have t1 := ht'.1
  have t2 := ht'.2.1
  have w0' : (t + 255) % 255 = m := ht'.2.2
  clear hk e0 hl hm ht' hlm hm0 hm1
  go_enter Try.func15, Try.ntmps15
  go_wp2_with fail
  refine (field_any _).mono ?_
  rintro e w' ⟨rfl, rfl⟩
  go_wp2
  go_quiet (fail)
  go_wp2
  go_ret
  exact ⟨by rw [E.out]; rfl, below_drewN ((Below.refl _ _).alloc (Nat.le_refl _) _) _⟩

theorem rstep_x (s : Nat × Nat × Nat) (hp : s.1 < 256) (hx : s.2.1 < 256) :
    ((s.2.2 : Int) % 2 = 1 → bits .xor .i64 (s.1 : Int) (s.2.1 : Int) = ((Gf.rstep s).1 : Int)) ∧ (¬ (s.2.2 : Int) % 2 = 1 → (s.1 : Int) = ((Gf.rstep s).1 : Int)) ∧
    (256 ≤ 2 * (s.2.1 : Int) → bits .xor .i64 (2 * (s.2.1 : Int)) 285 = ((Gf.rstep s).2.1 : Int)) ∧ (2 * (s.2.1 : Int) < 256 → 2 * (s.2.1 : Int) = ((Gf.rstep s).2.1 : Int)) ∧
    (s.2.2 : Int) / 2 = ((Gf.rstep s).2.2 : Int) := by
  obtain ⟨p, x, y⟩ := s
  dsimp only at hp hx ⊢
  refine ⟨fun h => ?_, fun h => ?_, fun h => ?_, fun h => ?_, ?_⟩
  · rw [bits_xor_i64_nat _ _ (by omega) (by omega)]
    show _ = (((if y % 2 = 1 then p ^^^ x else p : Nat)) : Int)
    rw [if_pos (by omega)]
  · show _ = (((if y % 2 = 1 then p ^^^ x else p : Nat)) : Int)
    rw [if_neg (by omega)]
  · show _ = ((Gf.xt x : Nat) : Int)
    rw [Gf.xt, if_pos (by omega), ← bits_xor_i64_nat _ _ (by omega) (by omega)]
    congr 1
  · show _ = ((Gf.xt x : Nat) : Int)
    rw [Gf.xt, if_neg (by omega)]
    omega
  · show _ = ((y / 2 : Nat) : Int)
    omega

set_option maxRecDepth 100000 in
set_option maxHeartbeats 400000 in
theorem rMul_any (a b : Nat) (w : World) (ha : a < 256) (hb : b < 256) :
    Calls Try.prog 14 #[.int .u8 a, .int .u8 b] w fun e w' => e = .returned (.int .u8 (Gf.gm a b)) ∧ w = w' := by
  rw [← Gf.rm_eq_gm ha hb]
  go_enter Try.func14, Try.ntmps14
  go_wp2
  go_loop [5, 6, 7, 8] (fun p x y i => ∃ k : Nat, k ≤ 8 ∧ i = .int .i64 k ∧ p = .int .i64 (Gf.rst a b k).1 ∧ x = .int .i64 (Gf.rst a b k).2.1 ∧ y = .int .i64 (Gf.rst a b k).2.2) (fun _ _ _ i => 8 - (intOf i).toNat)
  case atStart => exact ⟨0, by omega, rfl, rfl, rfl, rfl⟩
  case round =>
    obtain ⟨k, hk, rfl, rfl, rfl, rfl⟩ := hrel
    obtain ⟨q1, q2⟩ := Gf.rst_lt (b := b) ha k
    have q3 := Gf.rst_le a b k
    by_cases hlt : k < 8
    · have hx := Lib.hid (rstep_x _ q1 q2)
      have hr := Lib.hid (show Gf.rst a b (k + 1) = Gf.rstep (Gf.rst a b k) from rfl)
      generalize Gf.rst a b k = s at *
      go_wp2
      all_goals
        go_round
        case rel =>
          obtain ⟨x1, x2, x3, x4, x5⟩ := hx.out
          refine ⟨k + 1, by omega, by go_num, ?_, ?_, ?_⟩
          all_goals rw [hr.out]
          · first | exact congrArg (Value.int .i64) (x1 (by simp_all)) | exact congrArg (Value.int .i64) (x2 (by simp_all))
          · first | exact congrArg (Value.int .i64) (x3 ‹_›) | exact congrArg (Value.int .i64) (x4 ‹_›)
          · exact congrArg (Value.int .i64) x5
        case measure => simp [intOf]; omega
    · have he := Lib.hid (show Gf.rm a b = (Gf.rst a b k).1 by rw [show k = 8 by omega]; rfl)
      generalize Gf.rst a b k = s at *
      go_wp2
      go_ret
      exact ⟨by rw [he.out]; rfl, rfl⟩

set_option maxRecDepth 100000 in
set_option maxHeartbeats 400000 in
theorem rInv_any (a : Nat) (w : World) (ha : a < 256) :
    Calls Try.prog 12 #[.int .u8 a] w fun e w' => e = .returned (.tuple #[.int .u8 (Gf.gi0 a), .int .i64 (Gf.ge0 a)]) ∧ w = w' := by
  go_enter Try.func12, Try.ntmps12
  go_wp2
  go_loop [4] (fun i => ∃ k : Nat, 1 ≤ k ∧ k ≤ 256 ∧ i = .int .i64 k ∧ Hid (∀ j, 1 ≤ j → j < k → Gf.gm a j ≠ 1)) (fun i => 256 - (intOf i).toNat)
  case atStart => exact ⟨1, by omega, by omega, rfl, fun j h1 h2 => by omega⟩
  case round =>
    obtain ⟨k, hk1, hk2, rfl, hn⟩ := hrel
    by_cases hlt : k < 256
    · by_cases h1 : Gf.gm a k = 1
      · have hb : ((Gf.gm a k : Int) == 1) = true := by rw [h1]; rfl
        have H1 := Lib.hid h1
        clear h1 hn
        go_wp2_with fail
        refine (rMul_any _ _ _ ha hlt).mono ?_
        rintro e w' ⟨rfl, rfl⟩
        go_wp2_with fail
        go_ret2
        have a0 : a ≠ 0 := by intro h; have := H1.out; rw [h, Gf.gm_zero_left] at this; exact absurd this (by decide)
        rw [Gf.gi0_ne a0, Gf.ge0_ne a0, ← Gf.gi_unique ha hlt H1.out]
        exact ⟨rfl, rfl⟩
      · have hb : ((Gf.gm a k : Int) == 1) = false := by simp; omega
        have H1 := Lib.hid h1
        clear h1
        go_wp2_with fail
        refine (rMul_any _ _ _ ha hlt).mono ?_
        rintro e w' ⟨rfl, rfl⟩
        go_wp2_with fail
        go_round
        case rel =>
          refine ⟨k + 1, by omega, by omega, by go_num, fun j h1 h2 => ?_⟩
          by_cases hj : j = k
          · subst hj; exact H1.out
          · exact hn.out j h1 (by omega)
        case measure => simp [intOf]; omega
    · go_wp2_with fail
      go_ret2
      have a0 : a = 0 := by
        apply Classical.byContradiction
        intro a0
        have := Gf.gi_lt a
        exact hn.out (Gf.gi a) (Nat.pos_of_ne_zero (Gf.gi_ne a)) (by omega) (Gf.gm_gi ha a0)
      rw [a0, Gf.gi0_zero, Gf.ge0_zero]
      exact ⟨rfl, rfl⟩

/-- The reference's power where the base is not 0: k rounds of products. -/
theorem gpn_succ (a k : Nat) : Gf.gpn a (k + 1) = Gf.gm (Gf.gpn a k) a := rfl

set_option maxRecDepth 100000 in
set_option maxHeartbeats 400000 in
theorem rPower_pos (x : Nat) (n : Int) (w : World) (hx : x < 256) (h1 : 0 ≤ n) (h2 : n ≤ 9223372036854775807) (hc : Hid (n = 0 ∨ x ≠ 0)) :
    Calls Try.prog 16 #[.int .u8 x, .int .i64 n] w fun e w' => e = .returned (.int .u8 (Gf.gpow x n)) ∧ w = w' := by
  have hb : (n != 0) = true ∧ ((x : Int) == 0) = false ∨ (n != 0) = false := by
    rcases hc.out with h | h
    · exact Or.inr (by simpa using h)
    · by_cases hn : n = 0
      · exact Or.inr (by simpa using hn)
      · exact Or.inl ⟨by simpa using hn, by simp; omega⟩
  have hm1 : n % 255 < 255 := Int.emod_lt_of_pos _ (by decide)
  have hm0 : 0 ≤ n % 255 := Int.emod_nonneg _ (by decide)
  have hfin : ∀ m : Nat, (m : Int) = n % 255 → Gf.gpn x m = Gf.gpow x n := by
    intro m hm
    rcases hb with hb | hb
    · have hx0 : x ≠ 0 := by intro h; rw [h] at hb; simp at hb
      exact Gf.gpow_nonneg hx hx0 h1 hm
    · have hn : n = 0 := by simpa using hb
      subst hn; rw [Gf.gpow_zero, show m = 0 by omega]; rfl
  have Hfin := Lib.hid hfin
  clear hfin hc
  rcases hb with ⟨hb, hb2⟩ | hb
  all_goals
    go_enter Try.func16, Try.ntmps16
    go_wp2_with fail
    go_loop [5, 7] (fun o i => ∃ k : Nat, (k : Int) ≤ n % 255 ∧ i = .int .i64 k ∧ o = .int .u8 (Gf.gpn x k)) (fun _ i => 255 - (intOf i).toNat)
    case atStart => exact ⟨0, by omega, rfl, rfl⟩
    case round =>
      obtain ⟨k, hk1, rfl, rfl⟩ := hrel
      have hg := Gf.gpn_lt x k
      by_cases hlt : (k : Int) < n % 255
      · have hs := Lib.hid (gpn_succ x k)
        go_wp2_with fail
        refine (rMul_any _ _ _ hg hx).mono ?_
        rintro e w' ⟨rfl, rfl⟩
        go_wp2_with fail
        go_round
        case rel => exact ⟨k + 1, by omega, by go_num, by rw [hs.out]⟩
        case measure => simp [intOf]; omega
      · have he := Lib.hid (show (k : Int) = n % 255 by omega)
        go_wp2_with fail
        go_ret
        exact ⟨by rw [← Hfin.out k he.out]; rfl, rfl⟩

set_option maxRecDepth 100000 in
set_option maxHeartbeats 400000 in
theorem rPower_zero (n : Int) (w : World) (hc : Hid (n ≠ 0)) :
    Calls Try.prog 16 #[.int .u8 0, .int .i64 n] w fun e w' => e = .returned (.int .u8 0) ∧ w = w' := by
  have hb : (n != 0) = true := by simpa using hc.out
  by_cases hn : n < 0
  all_goals
    go_enter Try.func16, Try.ntmps16
    go_wp2_with fail
    go_ret
    exact ⟨rfl, rfl⟩

set_option maxRecDepth 100000 in
set_option maxHeartbeats 400000 in
theorem rPower_neg (x : Nat) (n : Int) (w : World) (hx : x < 256) (h1 : n < 0) (h2 : -9223372036854775808 ≤ n) (hc : Hid (x ≠ 0)) :
    Calls Try.prog 16 #[.int .u8 x, .int .i64 n] w fun e w' => e = .returned (.int .u8 (Gf.gpow x n)) ∧ w = w' := by
  have hb1 : ((x : Int) == 0) = false := by have := hc.out; simp; omega
  have hb2 : (n != 0) = true := by simp; omega
  have hg := Gf.gi_lt x
  have hg0 := Gf.gi_ne x
  have hb3 : ((Gf.gi x : Int) == 0) = false := by simp; omega
  have hm1 : n.tmod 255 ≤ 0 := by
    have a1 := Int.neg_tmod (-n) 255
    rw [Int.neg_neg] at a1
    have a2 := Int.tmod_nonneg (a := -n) 255 (by omega)
    omega
  have hm0 : -255 < n.tmod 255 := Int.lt_tmod_of_pos n (b := 255) (by decide)
  have hfin : ∀ m : Nat, (m : Int) = - n.tmod 255 → Gf.gpn (Gf.gi x) m = Gf.gpow x n := by
    intro m hm
    refine Gf.gpow_neg hx hc.out h1 ?_
    have a3 := Int.mul_tdiv_add_tmod n 255
    omega
  have Hfin := Lib.hid hfin
  clear hfin
  by_cases hr : n.tmod 255 < 0
  all_goals
    go_enter Try.func16, Try.ntmps16
    go_wp2_with fail
    refine (rInv_any _ _ hx).mono ?_
    rintro e w' ⟨rfl, rfl⟩
    rw [Gf.gi0_ne hc.out, Gf.ge0_ne hc.out]
    go_wp2_with fail
    go_loop [5, 7] (fun o i => ∃ k : Nat, (k : Int) ≤ - n.tmod 255 ∧ i = .int .i64 k ∧ o = .int .u8 (Gf.gpn (Gf.gi x) k)) (fun _ i => 255 - (intOf i).toNat)
    case atStart => exact ⟨0, by omega, rfl, rfl⟩
    case round =>
      obtain ⟨k, hk1, rfl, rfl⟩ := hrel
      have hgk := Gf.gpn_lt (Gf.gi x) k
      by_cases hlt : (k : Int) < - n.tmod 255
      · have hs := Lib.hid (gpn_succ (Gf.gi x) k)
        go_wp2_with fail
        all_goals
          refine (rMul_any _ _ _ hgk hg).mono ?_
          rintro e w' ⟨rfl, rfl⟩
          go_wp2_with fail
          go_round
          case rel => exact ⟨k + 1, by omega, by go_num, by rw [hs.out]⟩
          case measure => simp [intOf]; omega
      · have he := Lib.hid (show (k : Int) = - n.tmod 255 by omega)
        go_wp2_with fail
        go_ret
        exact ⟨by rw [← Hfin.out k he.out]; rfl, rfl⟩

theorem rPower_any (x : Nat) (n : Int) (w : World) (hx : x < 256) (h1 : -9223372036854775808 ≤ n) (h2 : n ≤ 9223372036854775807) :
    Calls Try.prog 16 #[.int .u8 x, .int .i64 n] w fun e w' => e = .returned (.int .u8 (Gf.gpow x n)) ∧ w = w' := by
  by_cases hc : n = 0 ∨ x ≠ 0
  · by_cases h0 : 0 ≤ n
    · exact rPower_pos x n w hx h0 h2 hc
    · exact rPower_neg x n w hx (by omega) h1 (by show x ≠ 0; omega)
  · have hx0 : x = 0 := by omega
    have hn0 : n ≠ 0 := by omega
    subst hx0
    rw [Gf.zero_gpow hn0]
    exact rPower_zero n w hn0
end Go.Proofs.Ytpiiigeabbhdaaa
