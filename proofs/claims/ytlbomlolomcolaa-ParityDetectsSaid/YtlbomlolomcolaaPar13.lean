/- The contract of chapter 54's awake. -/
import Derived.Test.YtlbomlolomcolaaPar12
namespace Go.Proofs.Ytlbomlolomcolaa
open Go.RowKit

set_option maxRecDepth 100000 in
set_option maxHeartbeats 4000000 in
theorem awake54_any (w : World) : Calls Try.prog 20 #[] w fun e w' => e = .returned (.bool true) ∧ Below w.heap.size w w' := by
  go_enter Try.func20, Try.ntmps20
  go_wp2_with fail
  have L1 := Lib.hid (lit2_mx w 1 2)
  refine (pRecovery_any _ [[1], [2]] 1 _ (by decide) (bytM_small (by decide)) (by exact L1.out.1) (by decide) (by decide)).mono ?_
  rintro e w1 ⟨v1, hd1, rfl, hG, hB⟩
  rw [x54a.1]
  rw [x54a.2] at hG
  have G1 := Lib.hid hG.mx
  have B1 := Lib.hid (L1.out.2.trans (hB.mono L1.out.2.size))
  clear hG hB L1
  go_wp2_with fail
  have L2 := Lib.hid (litN_mx w1 2 0)
  have G1' := Lib.hid (G1.out.new L2.out.2)
  refine (pRepair_any _ [[], [2], [0]] 2 _ (by decide) (bytM_small (by decide)) (by exact L2.out.1) (by decide) (by decide)).mono ?_
  rintro e w2 ⟨v2, rfl, hG, hB⟩
  rw [x54b.1]
  rw [x54b.2] at hG
  have G12 := Lib.hid (G1'.out.new hB)
  have G2 := Lib.hid hG
  have B2 := Lib.hid ((B1.out.trans (L2.out.2.mono B1.out.size)).trans (hB.mono (Nat.le_trans B1.out.size L2.out.2.size)))
  clear hG hB L2 G1 G1' B1
  go_wp2_with fail
  have L3 := Lib.hid (litNN_mx w2 0)
  have G13' := Lib.hid (G12.out.new L3.out.2)
  have G23' := Lib.hid (G2.out.new L3.out.2)
  refine (pRepair_any _ [[], [], [0]] 2 _ (by decide) (bytM_small (by decide)) (by exact L3.out.1) (by decide) (by decide)).mono ?_
  rintro e w3 ⟨v3, rfl, hG, hB⟩
  rw [x54c.1]
  have G13 := Lib.hid (G13'.out.new hB)
  have G23 := Lib.hid (G23'.out.new hB)
  have B3 := Lib.hid ((B2.out.trans (L3.out.2.mono B2.out.size)).trans (hB.mono (Nat.le_trans B2.out.size L3.out.2.size)))
  clear hG hB L3 G12 G2 B2 G13' G23'
  go_wp2_with fail
  have L4 := Lib.hid (lit3_mx w3 1 2 0)
  have hs4 : (lit3 w3 1 2 0).heap.size = w3.heap.size + 1 + 1 + 1 + 1 := by simp [lit3, one8]
  have B4' : Hid (Below (lit3 w3 1 2 0).heap.size (lit3 w3 1 2 0) (one8 (lit3 w3 1 2 0) 4)) := al _ _
  have G14' := Lib.hid ((G13.out.new L4.out.2).new B4'.out)
  have G24' := Lib.hid ((G23.out.new L4.out.2).new B4'.out)
  have M4 := Lib.hid (L4.out.1.new B4'.out)
  have P4 : Hid (Bs (one8 (lit3 w3 1 2 0) 4) (.slice (some ⟨w3.heap.size + 1 + 1 + 1 + 1, 0, none⟩) 1 1) [4]) := ⟨_, 1, rfl, by simp, Or.inr ⟨_, 0, rfl, by rw [← hs4]; exact one8_row (lit3 w3 1 2 0) 4⟩⟩
  have B34 := Lib.hid (L4.out.2.trans (B4'.out.mono L4.out.2.size))
  clear hs4
  refine (pUpdate_any _ [[1], [2], [0]] 2 0 _ [4] _ (by decide) (bytM_small (by decide)) (by exact M4.out) (by exact P4.out) (fun x hx => by simp at hx; omega) (by decide) (by decide) (by decide) (by decide) (by decide)).mono ?_
  rintro e w4 ⟨v4, hd4, rfl, hG, hB⟩
  rw [x54d.1]
  rw [x54d.2] at hG
  have G14 := Lib.hid (G14'.out.new hB)
  have G24 := Lib.hid (G24'.out.new hB)
  have G4 := Lib.hid hG.mx
  have B4 := Lib.hid ((B3.out.trans (B34.out.mono B3.out.size)).trans (hB.mono (Nat.le_trans B3.out.size B34.out.size)))
  clear hG hB L4 B4' G13 G23 B3 G14' G24' M4 P4 B34
  go_wp2_with fail
  have L5 := Lib.hid (lit1_mx w4 0)
  have G15 := Lib.hid (G14.out.new L5.out.2)
  have G25 := Lib.hid (G24.out.new L5.out.2)
  have G45 := Lib.hid (G4.out.new L5.out.2)
  refine (rSame_any v1 _ [[0]] [[0]] _ (by decide) (bytM_small (by decide)) (bytM_small (by decide)) (by exact G15.out) (by exact L5.out.1)).mono ?_
  rintro e w5 ⟨rfl, q5, hq5⟩
  rw [show sameB [[0]] [[0]] = true from by decide]
  have hB5 : Below w4.heap.size w4 w5 := by rw [hq5]; exact below_drewN L5.out.2 _
  have hB5' : Below (lit1 w4 0).heap.size (lit1 w4 0) w5 := by rw [hq5]; exact below_drewN (Below.refl _ _) _
  have G26 := Lib.hid (G25.out.new hB5')
  have G46 := Lib.hid (G45.out.new hB5')
  have B5 := Lib.hid (B4.out.trans (hB5.mono B4.out.size))
  clear hB5 hB5' hq5 L5 G14 G24 G4 G15 G25 G45 B4
  go_wp2_with fail
  have L6 := Lib.hid (lit3_mx w5 1 2 0)
  have G27 := Lib.hid (G26.out.new L6.out.2)
  have G47 := Lib.hid (G46.out.new L6.out.2)
  refine (rSame_any v2 _ [[1], [2], [0]] [[1], [2], [0]] _ (by decide) (bytM_small (by decide)) (bytM_small (by decide)) (by exact G27.out) (by exact L6.out.1)).mono ?_
  rintro e w6 ⟨rfl, q6, hq6⟩
  rw [show sameB [[1], [2], [0]] [[1], [2], [0]] = true from by decide]
  have hB6 : Below w5.heap.size w5 w6 := by rw [hq6]; exact below_drewN L6.out.2 _
  have hB6' : Below (lit3 w5 1 2 0).heap.size (lit3 w5 1 2 0) w6 := by rw [hq6]; exact below_drewN (Below.refl _ _) _
  have G48 := Lib.hid (G47.out.new hB6')
  have B6 := Lib.hid (B5.out.trans (hB6.mono B5.out.size))
  clear hB6 hB6' hq6 L6 G26 G46 G27 G47 B5
  go_wp2_with fail
  have L7 := Lib.hid (lit3_mx w6 4 2 5)
  have G49 := Lib.hid (G48.out.new L7.out.2)
  refine (rSame_any v4 _ [[4], [2], [5]] [[4], [2], [5]] _ (by decide) (bytM_small (by decide)) (bytM_small (by decide)) (by exact G49.out) (by exact L7.out.1)).mono ?_
  rintro e w7 ⟨rfl, q7, hq7⟩
  rw [show sameB [[4], [2], [5]] [[4], [2], [5]] = true from by decide]
  have hB7 : Below w6.heap.size w6 w7 := by rw [hq7]; exact below_drewN L7.out.2 _
  have B7 := Lib.hid (B6.out.trans (hB7.mono B6.out.size))
  clear hB7 hq7
  go_wp2_with fail
  go_ret
  exact ⟨rfl, B7.out⟩
end Go.Proofs.Ytlbomlolomcolaa
