/- Contracts of galois.Mul, Inv, Power and of the reference's Mul, Inv, Power. -/
import Derived.Test.YtkclmfppjhmnjaaField
import Derived.Deep.QuietTactic
import Derived.BigQuiet
namespace Go.Proofs.Ytkclmfppjhmnjaa
open Go.RowKit

/-- The tables lie in block b. -/
def Tab (w : World) (b : Nat) : Prop := (∀ i, i < 255 → w.cell? ⟨b, i, none⟩ = some (.int .u8 (Gf.pw i))) ∧ (∀ n, n < 256 → w.cell? ⟨b, 255 + n, none⟩ = some (.int .i64 (Gf.lg n)))

theorem Tab.of_block {w w' : World} {b : Nat} (h : Tab w b) (e : w'.heap[b]? = w.heap[b]?) : Tab w' b :=
  ⟨fun i hi => by rw [World.cell?_of_block (w := w) e]; exact h.1 i hi, fun i hi => by rw [World.cell?_of_block (w := w) e]; exact h.2 i hi⟩

theorem Tab.below {w w' : World} {b B : Nat} (h : Tab w b) (hb : Below B w w') (hB : b < B) : Tab w' b := h.of_block (hb.block b hB)

theorem tb_pow (k : Nat) (hk : k ≤ 255) (i : Nat) (hi : i < k) : (tb k)[i]? = some (.int .u8 (Gf.pw i)) := by
  induction k with
  | zero => omega
  | succ k ih =>
    show (((tb k).setIfInBounds k (.int .u8 (Gf.pw k))).setIfInBounds (255 + Gf.pw k) (.int .i64 k))[i]? = _
    rw [Array.getElem?_setIfInBounds, if_neg (by omega), Array.getElem?_setIfInBounds]
    by_cases h : k = i
    · rw [if_pos h, if_pos (by rw [tb_size]; omega), h]
    · rw [if_neg h]; exact ih (by omega) (by omega)

theorem tb_log (k : Nat) (hk : k ≤ 255) (i : Nat) (hi : i < k) : (tb k)[255 + Gf.pw i]? = some (.int .i64 i) := by
  induction k with
  | zero => omega
  | succ k ih =>
    show (((tb k).setIfInBounds k (.int .u8 (Gf.pw k))).setIfInBounds (255 + Gf.pw k) (.int .i64 k))[255 + Gf.pw i]? = _
    have hp := Gf.pw_lt i
    rw [Array.getElem?_setIfInBounds]
    by_cases h : k = i
    · subst h; rw [if_pos rfl, if_pos (by rw [Array.size_setIfInBounds, tb_size]; omega)]
    · have hne : 255 + Gf.pw k ≠ 255 + Gf.pw i := by
        intro e
        have e' : Gf.pw k = Gf.pw i := by omega
        have := congrArg Gf.lg e'
        rw [Gf.lg_pw k (by omega), Gf.lg_pw i (by omega)] at this
        exact h this
      rw [if_neg hne, Array.getElem?_setIfInBounds, if_neg (by omega)]
      exact ih (by omega) (by omega)

theorem tb_log0 (k : Nat) (hk : k ≤ 255) : (tb k)[255]? = some (.int .i64 0) := by
  induction k with
  | zero => simp [tb, tb0]
  | succ k ih =>
    show (((tb k).setIfInBounds k (.int .u8 (Gf.pw k))).setIfInBounds (255 + Gf.pw k) (.int .i64 k))[255]? = _
    have hp := Gf.pw_ne k
    rw [Array.getElem?_setIfInBounds, if_neg (by omega), Array.getElem?_setIfInBounds, if_neg (by omega)]
    exact ih (by omega)

theorem Tab.made (w : World) : Tab (w.alloc (.cells (tb 255) 148)) w.heap.size := by
  have hb : (w.alloc (.cells (tb 255) 148)).heap[w.heap.size]? = some (.cells (tb 255) 148) := by
    show (w.heap.push _)[w.heap.size]? = _
    simp
  constructor
  · intro i hi
    simp only [World.cell?, hb]
    exact tb_pow 255 (Nat.le_refl _) i hi
  · intro n hn
    simp only [World.cell?, hb]
    by_cases h0 : n = 0
    · subst h0; exact tb_log0 255 (Nat.le_refl _)
    · have := tb_log 255 (Nat.le_refl _) (Gf.lg n) (Gf.lg_lt n hn)
      rw [Gf.pw_lg n hn h0] at this
      exact this

set_option maxRecDepth 100000 in
set_option maxHeartbeats 400000 in
theorem inv_any (b x : Nat) (w : World) (hx : x < 256) (ht : Tab w b) :
    Calls Try.prog 127 #[.pointer (some ⟨b, 0, none⟩), .int .u8 x] w fun e w' => e = .returned (.int .u8 (Gf.gi x)) ∧ ∃ n, w' = w.drewN n := by
  obtain ⟨h1, h2⟩ := ht
  have hl := Gf.lg_lt x hx
  have c1 := h2 x hx
  have c2 := h1 ((255 - Gf.lg x) % 255) (Nat.mod_lt _ (by decide))
  have e0 : Gf.gi x = Gf.pw ((255 - Gf.lg x) % 255) := rfl
  clear h1 h2
  generalize Gf.lg x = l at *
  have b1 : (0 : Int) ≤ x := by omega
  have b2 : (x : Int) < 256 := by omega
  obtain ⟨k, hk⟩ : ∃ k, k = (255 - l) % 255 := ⟨_, rfl⟩
  rw [← hk] at c2 e0
  have hk1 : k < 255 := by omega
  have hk2 : (k : Int) < 255 := by omega
  have hk0 : 0 ≤ (k : Int) := by omega
  have w1 : IntKind.i64.wrap (255 - (l : Int)) = 255 - l := IntWalk.i64_in _ (by omega)
  have w2 : (255 - (l : Int)).tmod 255 = k := by rw [Int.tmod_eq_emod_of_nonneg (by omega)]; omega
  have E := Lib.hid e0
  clear hk e0 hl
  go_enter Try.func127, Try.ntmps127
  go_wp2
  go_quiet (fail)
  go_wp2
  go_ret
  exact ⟨by rw [E.out]; rfl, _, rfl⟩

set_option maxRecDepth 100000 in
set_option maxHeartbeats 400000 in
theorem mul_any (b x y : Nat) (w : World) (hx : x < 256) (hy : y < 256) (ht : Tab w b) :
    Calls Try.prog 81 #[.pointer (some ⟨b, 0, none⟩), .int .u8 x, .int .u8 y] w fun e w' => e = .returned (.int .u8 (Gf.gm x y)) ∧ ∃ n, w' = w.drewN n := by
  by_cases x0 : x = 0
  · subst x0
    clear ht
    rw [Gf.gm_zero_left]
    go_enter Try.func81, Try.ntmps81
    go_wp2
    go_ret
    exact ⟨rfl, 0, rfl⟩
  have x1 : ((x : Int) == 0) = false := by simp; omega
  by_cases y0 : y = 0
  · subst y0
    clear ht x0
    rw [Gf.gm_zero_right]
    go_enter Try.func81, Try.ntmps81
    go_wp2
    go_ret
    exact ⟨rfl, 0, rfl⟩
  have y1 : ((y : Int) == 0) = false := by simp; omega
  obtain ⟨h1, h2⟩ := ht
  have hl := Gf.lg_lt x hx
  have hl' := Gf.lg_lt y hy
  have c1 := h2 x hx
  have c1' := h2 y hy
  have c2 := h1 ((Gf.lg x + Gf.lg y) % 255) (Nat.mod_lt _ (by decide))
  have e0 : Gf.gm x y = Gf.pw ((Gf.lg x + Gf.lg y) % 255) := by unfold Gf.gm; rw [if_neg (by simp [x0, y0])]
  clear h1 h2 x0 y0
  generalize Gf.lg x = l at *
  generalize Gf.lg y = m at *
  have b1 : (0 : Int) ≤ x := by omega
  have b2 : (x : Int) < 256 := by omega
  have b3 : (0 : Int) ≤ y := by omega
  have b4 : (y : Int) < 256 := by omega
  obtain ⟨k, hk⟩ : ∃ k, k = (l + m) % 255 := ⟨_, rfl⟩
  rw [← hk] at c2 e0
  have hk1 : k < 255 := by omega
  have hk2 : (k : Int) < 255 := by omega
  have hk0 : 0 ≤ (k : Int) := by omega
  have w1 : IntKind.i64.wrap ((l : Int) + m) = l + m := IntWalk.i64_in _ (by omega)
  have w2 : ((l : Int) + m).tmod 255 = k := by rw [Int.tmod_eq_emod_of_nonneg (by omega)]; omega
  have E := Lib.hid e0
  clear hk e0 hl
  go_enter Try.func81, Try.ntmps81
  go_wp2
  go_quiet (fail)
  go_wp2
  go_ret
  exact ⟨by rw [E.out]; rfl, _, rfl⟩

set_option maxRecDepth 100000 in
set_option maxHeartbeats 400000 in
theorem Mul_any (x y : Nat) (w : World) (hx : x < 256) (hy : y < 256) :
    Calls Try.prog 48 #[.int .u8 x, .int .u8 y] w fun e w' => e = .returned (.int .u8 (Gf.gm x y)) ∧ Below w.heap.size w w' := by
  have ht := Lib.hid (Tab.made w)
  go_enter Try.func48, Try.ntmps48
  go_wp2_with fail
  refine (field_any _).mono ?_
  rintro e w' ⟨rfl, rfl⟩
  go_wp2_with fail
  refine (mul_any _ _ _ _ hx hy ht.out).mono ?_
  rintro e w' ⟨rfl, n, rfl⟩
  go_wp2
  go_ret
  exact ⟨rfl, below_drewN ((Below.refl _ _).alloc (Nat.le_refl _) _) n⟩

end Go.Proofs.Ytkclmfppjhmnjaa
