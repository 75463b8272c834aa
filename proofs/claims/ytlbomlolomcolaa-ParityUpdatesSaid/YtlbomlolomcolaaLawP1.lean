/- The walk of the law ParityRecovers. -/
import Derived.Test.YtlbomlolomcolaaRefP3
import Derived.Test.YtlbomlolomcolaaPar13
import Derived.Test.YtlbomlolomcolaaLawC
namespace Go.Proofs.Ytlbomlolomcolaa
open Go.RowKit

theorem recRows_byt {data : List (List Nat)} {count : Int} (hB : BytM data) : BytM (recRows data count) := by
  unfold recRows
  split
  · rename_i h
    have hne : 1 ≤ data.length ∧ longB data = false ∧ badB data = false := by
      unfold recErr at h
      split at h
      · simp at h
      split at h
      · simp at h
      split at h
      · simp at h
      rename_i h1 h2 h3
      exact ⟨by omega, by simpa using h2, by simpa using h3⟩
    have hR := (badB_rect hB hne.2.2 hne.2.1 hne.1).1
    exact prodM_byt hR
  · intro r hr; simp at hr
theorem recRows_length {data : List (List Nat)} {count : Int} : (recRows data count).length ≤ 64 := by
  unfold recRows
  split
  · rename_i h
    rw [prodM_length, cauM_length]
    unfold recErr at h
    split at h
    · simp at h
    omega
  · simp
theorem recErr_le (data : List (List Nat)) (count : Int) : recErr data count ≤ 23 := by
  unfold recErr
  split
  · decide
  split
  · decide
  split <;> decide
theorem parErr_le (data : List (List Nat)) (count : Int) : parErr data count ≤ 23 := by
  unfold parErr
  split
  · decide
  split
  · decide
  split
  · decide
  split <;> decide

set_option maxRecDepth 100000 in
set_option maxHeartbeats 4000000 in
theorem ParityRecovers_walk (v : Value) (m : List (List Nat)) (count : Int) (w : World) (hm : Mx w v m) (hB : BytM m) (hl : m.length ≤ maxLen) (hL : ∀ j, j < m.length → plen m j ≤ maxLen) (hd1 : -9223372036854775808 ≤ count) (hd2 : count ≤ 9223372036854775807) :
    Calls Try.prog 4 #[v, .int .i64 count] w fun e w' => e = .returned (.bool true) ∧ Below w.heap.size w w' := by
  have HM := Lib.hid hm
  have HB := Lib.hid hB
  have HL := Lib.hid hl
  have HLr := Lib.hid hL
  obtain ⟨re, hre⟩ : ∃ re, recErr m count = re := ⟨_, rfl⟩
  obtain ⟨pe, hpe⟩ : ∃ pe, parErr m count = pe := ⟨_, rfl⟩
  have t1 : ((re : Int) == (re : Int)) = true := by simp
  have t2 : ((pe : Int) == (pe : Int)) = true := by simp
  have t3 : re ≤ 23 := by rw [← hre]; exact recErr_le _ _
  have t4 : pe ≤ 23 := by rw [← hpe]; exact parErr_le _ _
  have Hre := Lib.hid hre
  have Hpe := Lib.hid hpe
  clear hm hB hl hL hre hpe
  by_cases hF : few54 m
  · have HF := Lib.hid hF
    have hlen : m.length ≤ 100 := hF.2
    clear hF
    go_enter Try.func4, Try.ntmps4
    go_wp2_with fail
    refine (rFew54_any v m _ HL.out HM.out).mono ?_
    rintro e w1 ⟨rfl, rfl⟩
    rw [few54B_true HF.out]
    go_wp2_with fail
    refine (pRecovery_any v m count _ (by omega) HB.out HM.out hd1 hd2).mono ?_
    rintro e w1 ⟨v1, hd1', rfl, hG1, hB1⟩
    rw [Hre.out]
    have B1 := Lib.hid hB1
    have M1 := Lib.hid (HM.out.new hB1)
    have G1 := Lib.hid hG1.mx
    clear hB1 hG1
    go_wp2_with fail
    refine (rRecovery_any v m count _ (by omega) HLr.out HB.out M1.out hd1 hd2).mono ?_
    rintro e w2 ⟨v2, hd2', rfl, hG2, hB2⟩
    rw [Hre.out]
    have B2 := Lib.hid (B1.out.trans (hB2.mono B1.out.size))
    have M2 := Lib.hid (M1.out.new hB2)
    have G12 := Lib.hid (G1.out.new hB2)
    have G2 := Lib.hid hG2.mx
    clear hB2 hG2 B1 M1 G1
    go_wp2_with fail
    refine (awake54_any _).mono ?_
    rintro e w3 ⟨rfl, hB3⟩
    have B3 := Lib.hid (B2.out.trans (hB3.mono B2.out.size))
    have M3 := Lib.hid (M2.out.new hB3)
    have G13 := Lib.hid (G12.out.new hB3)
    have G23 := Lib.hid (G2.out.new hB3)
    clear hB3 B2 M2 G12 G2
    go_wp2_with fail
    refine (rSame_any v1 v2 (recRows m count) (recRows m count) _ (by have := recRows_length (data := m) (count := count); omega) (recRows_byt HB.out) (recRows_byt HB.out) G13.out G23.out).mono ?_
    rintro e w5 ⟨rfl, q, hq⟩
    rw [sameB_self]
    have hB5 : Below w3.heap.size w3 w5 := by rw [hq]; exact below_drewN (Below.refl _ _) q
    have B5 := Lib.hid (B3.out.trans (hB5.mono B3.out.size))
    have M5 := Lib.hid (M3.out.new hB5)
    clear hB5 hq B3 M3 G13 G23
    go_wp2_with fail
    refine (pCheck_any v m count _ (by omega) M5.out hd1 hd2).mono ?_
    rintro e w6 ⟨rfl, hB6⟩
    rw [Hpe.out]
    have B6 := Lib.hid (B5.out.trans (hB6.mono B5.out.size))
    have M6 := Lib.hid (M5.out.new hB6)
    clear hB6 B5 M5
    go_wp2_with fail
    refine (rCheck54_any v m count _ (by omega) HLr.out M6.out hd1 hd2).mono ?_
    rintro e w7 ⟨rfl, rfl⟩
    rw [Hpe.out]
    go_wp2_with fail
    go_ret
    exact ⟨rfl, B6.out⟩
  · have HF := Lib.hid hF
    clear hF
    go_enter Try.func4, Try.ntmps4
    go_wp2_with fail
    refine (rFew54_any v m _ HL.out HM.out).mono ?_
    rintro e w1 ⟨rfl, rfl⟩
    rw [few54B_false HF.out]
    go_wp2_with fail
    refine (awake54_any _).mono ?_
    rintro e w6 ⟨rfl, hB6⟩
    go_wp2_with fail
    go_ret
    exact ⟨rfl, hB6⟩
end Go.Proofs.Ytlbomlolomcolaa
