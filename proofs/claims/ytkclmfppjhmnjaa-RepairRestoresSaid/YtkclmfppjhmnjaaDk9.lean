/- Contracts of the reference's Same (at disks without pending writes) and of chapter 59's awake. -/
import Derived.Test.YtkclmfppjhmnjaaDk7
import Derived.Test.YtkclmfppjhmnjaaDk8
import Derived.Test.YtkclmfppjhmnjaaApz
namespace Go.Proofs.Ytkclmfppjhmnjaa
open Go.RowKit Img Wire

theorem disk_cells (w : World) (va vb : Value) : (w.alloc (.cells #[va, vb] 25)).cell? ⟨w.heap.size, 0, none⟩ = some va ∧ (w.alloc (.cells #[va, vb] 25)).cell? ⟨w.heap.size, 1, none⟩ = some vb ∧ Below w.heap.size w (w.alloc (.cells #[va, vb] 25)) :=
  ⟨(Blk.new w 25 #[va, vb]).cell rfl, (Blk.new w 25 #[va, vb]).cell rfl, (Below.refl _ _).alloc (Nat.le_refl _) _⟩

set_option maxRecDepth 100000 in
set_option maxHeartbeats 400000 in
theorem Same48_nil (va vb : Value) (a b : List (List Nat)) (w : World) (h1 : Pgs w va 16 a) (h2 : Pgs w vb 16 b) (ha : P16 a) (hb : P16 b) (hl : a.length ≤ 1000000000) :
    Calls Try.prog 22 #[.agg #[va, .slice none 0 0], .agg #[vb, .slice none 0 0]] w fun e w' => e = .returned (.bool (decide (a = b))) ∧ Below w.heap.size w w' := by
  obtain ⟨c0, c1, hB0⟩ := disk_cells w va (.slice none 0 0)
  obtain ⟨d0, d1, hB1⟩ := disk_cells (w.alloc (.cells #[va, .slice none 0 0] 25)) vb (.slice none 0 0)
  have hB := hB0.trans (hB1.mono hB0.size)
  have e0 := (hB1.cell (p := ⟨w.heap.size, 0, none⟩) (World.block_lt_of_cell? _ _ c0)).trans c0
  have e1 := (hB1.cell (p := ⟨w.heap.size, 1, none⟩) (World.block_lt_of_cell? _ _ c1)).trans c1
  have HC := Lib.hid (SamePages_any va vb a b _ (h1.new hB) (h2.new hB) ha hb hl)
  have HB := Lib.hid hB
  rw [show (w.alloc (.cells #[va, .slice none 0 0] 25)).heap.size = w.heap.size + 1 by simp] at d0 d1
  obtain ⟨a1, k1, rfl, _, _⟩ := h1
  obtain ⟨a2, k2, rfl, _, _⟩ := h2
  clear hB0 hB1 hB c0 c1 ha hb
  cases hx : decide (a = b) with
  | true =>
    rw [hx] at HC
    clear hx
    go_enter Try.func22, Try.ntmps22
    go_wp2_with fail
    refine HC.out.mono ?_
    rintro e w' ⟨rfl, n, rfl⟩
    go_wp2_with fail
    go_loop [5] (fun i => i = .int .i64 0) (fun _ => 0)
    case atStart => rfl
    case round =>
      subst hrel
      go_wp2_with fail
      go_ret
      exact ⟨rfl, below_drewN HB.out n⟩
  | false =>
    rw [hx] at HC
    clear hx
    go_enter Try.func22, Try.ntmps22
    go_wp2_with fail
    refine HC.out.mono ?_
    rintro e w' ⟨rfl, n, rfl⟩
    go_wp2_with fail
    go_ret
    exact ⟨rfl, below_drewN HB.out n⟩

/-- The pages of the example. -/
def pg0 : List (List Nat) := List.replicate 3 zp
def pg1 : List (List Nat) := [zp, 7 :: List.replicate 15 0, zp]
theorem im0 : imErr pg0 [] = 0 ∧ imRes pg0 [] = [3] := by decide +kernel
theorem im1 : imErr pg1 [] = 0 ∧ imRes pg1 [] = 3 :: (zp ++ 7 :: List.replicate 15 0) := by decide +kernel
theorem re1 : reErr (3 :: (zp ++ 7 :: List.replicate 15 0)) = 0 ∧ rePg (3 :: (zp ++ 7 :: List.replicate 15 0)) = pg1 := by decide +kernel
theorem re2 : reErr (3 :: List.replicate 16 0) = 3 := by decide +kernel
theorem re3 : reErr [0] = 2 := by decide +kernel
end Go.Proofs.Ytkclmfppjhmnjaa
