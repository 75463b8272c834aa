/- The contract of awake: the examples of chapter 53 hold. -/
import Derived.Test.YtpiiigeabbhdaaaGal2
import Derived.Test.YtpiiigeabbhdaaaGal8
import Derived.Test.YtpiiigeabbhdaaaCau
import Derived.Test.YtpiiigeabbhdaaaRef1
namespace Go.Proofs.Ytpiiigeabbhdaaa
open Go.RowKit

/-- A matrix of two rows of two bytes, as a literal lays it. -/
def W22 (w : World) (a b c d : Nat) : World :=
  ((w.alloc (.cells #[.int .u8 a, .int .u8 b] 5)).alloc (.cells #[.int .u8 c, .int .u8 d] 5)).alloc (.cells #[.slice (some ⟨w.heap.size, 0, none⟩) 2 2, .slice (some ⟨w.heap.size + 1, 0, none⟩) 2 2] 56)

theorem W22_size (w : World) (a b c d : Nat) : (W22 w a b c d).heap.size = w.heap.size + 3 := by simp [W22]
theorem W22_below (w : World) (a b c d : Nat) : Below w.heap.size w (W22 w a b c d) := (((Below.refl _ _).alloc (Nat.le_refl _) _).alloc (by simp) _).alloc (by simp; omega) _

theorem Mx22 (w : World) (a b c d : Nat) : Mx (W22 w a b c d) (.slice (some ⟨w.heap.size + 2, 0, none⟩) 2 2) [[a, b], [c, d]] := by
  have h1 := ((Blk.new w 5 #[.int .u8 a, .int .u8 b]).alloc (.cells #[.int .u8 c, .int .u8 d] 5)).alloc (.cells #[.slice (some ⟨w.heap.size, 0, none⟩) 2 2, .slice (some ⟨w.heap.size + 1, 0, none⟩) 2 2] 56)
  have h2 := (Blk.new (w.alloc (.cells #[.int .u8 a, .int .u8 b] 5)) 5 #[.int .u8 c, .int .u8 d]).alloc (.cells #[.slice (some ⟨w.heap.size, 0, none⟩) 2 2, .slice (some ⟨w.heap.size + 1, 0, none⟩) 2 2] 56)
  have h3 := Blk.new ((w.alloc (.cells #[.int .u8 a, .int .u8 b] 5)).alloc (.cells #[.int .u8 c, .int .u8 d] 5)) 56 #[.slice (some ⟨w.heap.size, 0, none⟩) 2 2, .slice (some ⟨w.heap.size + 1, 0, none⟩) 2 2]
  have s1 : (w.alloc (.cells #[.int .u8 a, .int .u8 b] 5)).heap.size = w.heap.size + 1 := by simp
  have s2 : ((w.alloc (.cells #[.int .u8 a, .int .u8 b] 5)).alloc (.cells #[.int .u8 c, .int .u8 d] 5)).heap.size = w.heap.size + 2 := by simp
  rw [s1] at h2
  rw [s2] at h3
  refine ⟨_, 2, rfl, by simp, Or.inr ⟨w.heap.size + 2, 0, _, _, rfl, MxAt.two (r := [a, b]) (s := [c, d]) (h3.cell rfl) (h3.cell rfl) ⟨by simp, Or.inr ⟨w.heap.size, 0, rfl, ?_⟩, by simp⟩ ⟨by simp, Or.inr ⟨w.heap.size + 1, 0, rfl, ?_⟩, by simp⟩⟩⟩
  · exact Blk.row (l := [a, b]) h1
  · exact Blk.row (l := [c, d]) h2

/-- A matrix of one row of two bytes. -/
def W12 (w : World) (a b : Nat) : World :=
  (w.alloc (.cells #[.int .u8 a, .int .u8 b] 5)).alloc (.cells #[.slice (some ⟨w.heap.size, 0, none⟩) 2 2] 56)
theorem W12_below (w : World) (a b : Nat) : Below w.heap.size w (W12 w a b) := ((Below.refl _ _).alloc (Nat.le_refl _) _).alloc (by simp) _
theorem Mx12 (w : World) (a b : Nat) : Mx (W12 w a b) (.slice (some ⟨w.heap.size + 1, 0, none⟩) 1 1) [[a, b]] := by
  have h1 := (Blk.new w 5 #[.int .u8 a, .int .u8 b]).alloc (.cells #[.slice (some ⟨w.heap.size, 0, none⟩) 2 2] 56)
  have h3 := Blk.new (w.alloc (.cells #[.int .u8 a, .int .u8 b] 5)) 56 #[.slice (some ⟨w.heap.size, 0, none⟩) 2 2]
  have s1 : (w.alloc (.cells #[.int .u8 a, .int .u8 b] 5)).heap.size = w.heap.size + 1 := by simp
  rw [s1] at h3
  refine ⟨_, 1, rfl, by simp, Or.inr ⟨w.heap.size + 1, 0, fun _ => some ⟨w.heap.size, 0, none⟩, fun _ => 2, rfl, ?_⟩⟩
  intro i r hi
  match i, hi with
  | 0, hi =>
    simp only [List.getElem?_cons_zero, Option.some.injEq] at hi
    subst hi
    exact ⟨h3.cell rfl, by simp, Or.inr ⟨w.heap.size, 0, rfl, Blk.row (l := [a, b]) h1⟩, by simp⟩
  | i + 1, hi => simp at hi

theorem GM.mx {w : World} {B : Nat} {v : Value} {hd : List (Nat × Nat)} {m : List (List Nat)} (h : GM w B v hd m) : Mx w v m := by
  by_cases hm : m = []
  · subst hm
    rcases h.outer.2 with ⟨rfl, _⟩ | ⟨g, cap, cur, rfl, _⟩
    · exact ⟨none, 0, rfl, Nat.le_refl _, Or.inl rfl⟩
    · exact ⟨some ⟨g, 0, none⟩, cap, rfl, Nat.zero_le _, Or.inl rfl⟩
  · obtain ⟨bo, cap, rfl, h1, _, hO⟩ := h.done hm
    exact ⟨_, cap, rfl, h1, Or.inr ⟨bo, 0, _, _, rfl, hO.mxAt⟩⟩

theorem ex1 : invErr [[1, 1], [0, 1]] = 0 ∧ invRows [[1, 1], [0, 1]] = [[1, 1], [0, 1]] ∧ rankOf [[2, 4], [1, 2]] = 1 ∧ rankErr [[2, 4], [1, 2]] = 0 ∧ cauM 1 2 = [[1, 142]] := by decide +kernel
theorem ex2 : Gf.gm 2 128 = 29 ∧ Gf.gm 3 7 = 9 ∧ Gf.gm 16 16 = 29 ∧ Gf.gm 29 2 = 58 ∧ Gf.gpow 2 8 = 29 ∧ Gf.gpow 2 (-1) = 142 ∧ Gf.gi0 2 = 142 ∧ Gf.ge0 2 = 0 := by decide +kernel

theorem Byt2 {a b : Nat} (ha : a < 256) (hb : b < 256) : Byt [a, b] := by
  intro x hx
  simp at hx
  omega
theorem BytM22 {a b c d : Nat} (ha : a < 256) (hb : b < 256) (hc : c < 256) (hd : d < 256) : BytM [[a, b], [c, d]] := by
  intro r hr
  simp at hr
  rcases hr with rfl | rfl
  · exact Byt2 ha hb
  · exact Byt2 hc hd
theorem BytM12 {a b : Nat} (ha : a < 256) (hb : b < 256) : BytM [[a, b]] := by
  intro r hr
  simp at hr
  subst hr
  exact Byt2 ha hb

set_option maxRecDepth 100000 in
set_option maxHeartbeats 2000000 in
theorem awake_any (w : World) : Calls Try.prog 17 #[] w fun e w' => e = .returned (.bool true) ∧ Below w.heap.size w w' := by
  obtain ⟨x1, x2, x3, x4, x5⟩ := ex1
  obtain ⟨y1, y2, y3, y4, y5, y6, y7, y8⟩ := ex2
  have X := Lib.hid (And.intro x1 (And.intro x2 (And.intro x3 (And.intro x4 x5))))
  have Y1 := Lib.hid y1
  have Y2 := Lib.hid y2
  have Y3 := Lib.hid y3
  have Y4 := Lib.hid y4
  have Y5 := Lib.hid y5
  have Y6 := Lib.hid y6
  have Y7 := Lib.hid (And.intro y7 y8)
  clear x1 x2 x3 x4 x5 y1 y2 y3 y4 y5 y6 y7 y8
  go_enter Try.func17, Try.ntmps17
  go_wp2_with fail
  refine (Inv_any 2 _ (by decide)).mono ?_
  rintro e w1 ⟨rfl, hB⟩
  rw [Y7.out.1, Y7.out.2]
  have B1 := Lib.hid hB
  clear hB
  go_wp2_with fail
  refine (Inv_any 0 _ (by decide)).mono ?_
  rintro e w2 ⟨rfl, hB⟩
  rw [Gf.gi0_zero, Gf.ge0_zero]
  have B2 := Lib.hid (B1.out.trans (hB.mono B1.out.size))
  clear hB B1
  go_wp2_with fail
  refine (Invert_any _ [[1, 1], [0, 1]] _ (by decide) (BytM22 (by decide) (by decide) (by decide) (by decide)) (by exact Mx22 w2 1 1 0 1)).mono ?_
  rintro e w3 ⟨v3, hd3, rfl, hG, hB⟩
  rw [X.out.1]
  rw [X.out.2.1] at hG
  have B3 := Lib.hid ((B2.out.trans ((W22_below w2 1 1 0 1).mono B2.out.size)).trans (hB.mono (by have h1 := B2.out.size; have h2 := W22_size w2 1 1 0 1; show w.heap.size ≤ (W22 w2 1 1 0 1).heap.size; omega)))
  have G3 := Lib.hid hG.mx
  clear hB hG B2
  go_wp2_with fail
  refine (Rank_any _ [[2, 4], [1, 2]] _ (by decide) (BytM22 (by decide) (by decide) (by decide) (by decide)) (by exact Mx22 w3 2 4 1 2)).mono ?_
  rintro e w4 ⟨rfl, hB⟩
  rw [X.out.2.2.1, X.out.2.2.2.1]
  have B34 : Below w3.heap.size w3 w4 := (W22_below w3 2 4 1 2).trans (hB.mono (by have h2 := W22_size w3 2 4 1 2; show w3.heap.size ≤ (W22 w3 2 4 1 2).heap.size; omega))
  have G4 := Lib.hid (G3.out.new B34)
  have B4 := Lib.hid (B3.out.trans (B34.mono B3.out.size))
  clear hB B34 G3 B3
  go_wp2_with fail
  refine (Cauchy_in 1 2 _ (by decide) (by decide) (by decide) (by decide)).mono ?_
  rintro e w5 ⟨v5, hd5, rfl, hG, hB⟩
  rw [X.out.2.2.2.2] at hG
  have G5 := Lib.hid (G4.out.new hB)
  have K5 := Lib.hid hG.mx
  have B5 := Lib.hid (B4.out.trans (hB.mono B4.out.size))
  clear hB hG G4 B4
  go_wp2_with fail
  refine (Mul_any 2 128 _ (by decide) (by decide)).mono ?_
  rintro e w6 ⟨rfl, hB⟩
  rw [Y1.out]
  have G6 := Lib.hid (G5.out.new hB)
  have K6 := Lib.hid (K5.out.new hB)
  have B6 := Lib.hid (B5.out.trans (hB.mono B5.out.size))
  clear hB G5 K5 B5
  go_wp2_with fail
  refine (Mul_any 3 7 _ (by decide) (by decide)).mono ?_
  rintro e w7 ⟨rfl, hB⟩
  rw [Y2.out]
  have G7 := Lib.hid (G6.out.new hB)
  have K7 := Lib.hid (K6.out.new hB)
  have B7 := Lib.hid (B6.out.trans (hB.mono B6.out.size))
  clear hB G6 K6 B6
  go_wp2_with fail
  refine (Mul_any 16 16 _ (by decide) (by decide)).mono ?_
  rintro e w8 ⟨rfl, hB⟩
  rw [Y3.out]
  have G8 := Lib.hid (G7.out.new hB)
  have K8 := Lib.hid (K7.out.new hB)
  have B8 := Lib.hid (B7.out.trans (hB.mono B7.out.size))
  clear hB G7 K7 B7
  go_wp2_with fail
  refine (Mul_any 29 2 _ (by decide) (by decide)).mono ?_
  rintro e w9 ⟨rfl, hB⟩
  rw [Y4.out]
  have G9 := Lib.hid (G8.out.new hB)
  have K9 := Lib.hid (K8.out.new hB)
  have B9 := Lib.hid (B8.out.trans (hB.mono B8.out.size))
  clear hB G8 K8 B8
  go_wp2_with fail
  refine (Power_any 2 8 _ (by decide) (by decide) (by decide)).mono ?_
  rintro e wa ⟨rfl, hB⟩
  rw [Y5.out]
  have Ga := Lib.hid (G9.out.new hB)
  have Ka := Lib.hid (K9.out.new hB)
  have Ba := Lib.hid (B9.out.trans (hB.mono B9.out.size))
  clear hB G9 K9 B9
  go_wp2_with fail
  refine (Power_any 2 (-1) _ (by decide) (by decide) (by decide)).mono ?_
  rintro e wb ⟨rfl, hB⟩
  rw [Y6.out]
  have Gb := Lib.hid (Ga.out.new hB)
  have Kb := Lib.hid (Ka.out.new hB)
  have Bb := Lib.hid (Ba.out.trans (hB.mono Ba.out.size))
  clear hB Ga Ka Ba
  go_wp2_with fail
  have hW := W22_below wb 1 1 0 1
  have hWs := W22_size wb 1 1 0 1
  have Gc := Lib.hid (Gb.out.new hW)
  have Kc := Lib.hid (Kb.out.new hW)
  have Bc := Lib.hid (Bb.out.trans (hW.mono Bb.out.size))
  have HWs := Lib.hid hWs
  clear hW hWs Gb Kb Bb
  refine (rSame_any _ _ [[1, 1], [0, 1]] [[1, 1], [0, 1]] _ (by decide) (BytM22 (by decide) (by decide) (by decide) (by decide)) (BytM22 (by decide) (by decide) (by decide) (by decide)) (by exact Gc.out) (by exact Mx22 wb 1 1 0 1)).mono ?_
  rintro e wc ⟨rfl, n, rfl⟩
  rw [show sameB [[1, 1], [0, 1]] [[1, 1], [0, 1]] = true from by decide]
  have Kd := Lib.hid (Kc.out.new (below_drewN (Below.refl _ _) n))
  have Bd := Lib.hid (below_drewN Bc.out n)
  unfold W22 at Kd Bd
  generalize (((wb.alloc (.cells #[.int .u8 ((1 : Nat) : Int), .int .u8 ((1 : Nat) : Int)] 5)).alloc (.cells #[.int .u8 ((0 : Nat) : Int), .int .u8 ((1 : Nat) : Int)] 5)).alloc (.cells #[.slice (some ⟨wb.heap.size, 0, none⟩) 2 2, .slice (some ⟨wb.heap.size + 1, 0, none⟩) 2 2] 56)).drewN n = wd at Kd Bd
  clear Gc Kc Bc HWs
  go_wp2_with fail
  have hW := W12_below wd 1 142
  have Ke := Lib.hid (Kd.out.new hW)
  have Be := Lib.hid (Bd.out.trans (hW.mono Bd.out.size))
  clear hW Kd Bd
  refine (rSame_any _ _ [[1, 142]] [[1, 142]] _ (by decide) (BytM12 (by decide) (by decide)) (BytM12 (by decide) (by decide)) (by exact Ke.out) (by exact Mx12 wd 1 142)).mono ?_
  rintro e wf ⟨rfl, k, rfl⟩
  rw [show sameB [[1, 142]] [[1, 142]] = true from by decide]
  go_wp2_with fail
  go_ret
  exact ⟨rfl, below_drewN Be.out k⟩
end Go.Proofs.Ytpiiigeabbhdaaa
