/- The contracts of parity.Recovery and parity.Update for all arguments. -/
import Derived.Test.YtlbomlolomcolaaPar9
import Derived.Test.YtlbomlolomcolaaPar10
namespace Go.Proofs.Ytlbomlolomcolaa
open Go.RowKit

set_option maxRecDepth 100000 in
set_option maxHeartbeats 4000000 in
theorem pRecovery_any (v : Value) (data : List (List Nat)) (count : Int) (w : World) (hn : data.length ≤ 1000000000) (hBy : BytM data) (hm : Mx w v data) (hd1 : -9223372036854775808 ≤ count) (hd2 : count ≤ 9223372036854775807) :
    Calls Try.prog 21 #[v, .int .i64 count] w (RowsErr (recRows data count) (recErr data count) w) := by
  obtain ⟨a, cap, rfl, hcap, h⟩ := hm
  by_cases hc : data.length < 1 ∨ 64 < data.length ∨ count < 0 ∨ 64 - (data.length : Int) < count
  · have e1 : recErr data count = 6 := by unfold recErr; rw [if_pos hc]
    have e2 : recRows data count = [] := by unfold recRows; rw [e1]; rfl
    rw [e1, e2]
    clear e1 e2 h
    by_cases h1 : data.length < 1
    · have t1 : decide ((data.length : Int) < 1) = true := by simp; omega
      clear hc
      go_enter Try.func21, Try.ntmps21
      go_wp2_with fail
      go_ret2
      exact ⟨.slice none 0 0, [], rfl, GM.nil _ _, (Below.refl _ _).alloc (Nat.le_refl _) _⟩
    have t1 : decide ((data.length : Int) < 1) = false := by simp; omega
    by_cases h2 : 64 < data.length
    · have t2 : decide ((64 : Int) < (data.length : Int)) = true := by simp; omega
      clear hc
      go_enter Try.func21, Try.ntmps21
      go_wp2_with fail
      go_ret2
      exact ⟨.slice none 0 0, [], rfl, GM.nil _ _, (Below.refl _ _).alloc (Nat.le_refl _) _⟩
    have t2 : decide ((64 : Int) < (data.length : Int)) = false := by simp; omega
    by_cases h3 : count < 0
    · have t3 : decide (count < 0) = true := by simp; omega
      clear hc
      go_enter Try.func21, Try.ntmps21
      go_wp2_with fail
      go_ret2
      exact ⟨.slice none 0 0, [], rfl, GM.nil _ _, (Below.refl _ _).alloc (Nat.le_refl _) _⟩
    have t3 : decide (count < 0) = false := by simp; omega
    have t4 : decide ((64 : Int) - (data.length : Int) < count) = true := by simp; omega
    have t5 : (64 : Int) - (data.length : Int) < count := by omega
    clear hc
    go_enter Try.func21, Try.ntmps21
    go_wp2_with fail
    go_ret2
    exact ⟨.slice none 0 0, [], rfl, GM.nil _ _, (Below.refl _ _).alloc (Nat.le_refl _) _⟩
  rcases h with h | ⟨b, o, A, C, rfl, hM⟩
  · rw [h] at hc; simp at hc
  have t1 : decide ((data.length : Int) < 1) = false := by simp; omega
  have t2 : decide ((64 : Int) < (data.length : Int)) = false := by simp; omega
  have t3 : decide (count < 0) = false := by simp; omega
  have t4 : decide ((64 : Int) - (data.length : Int) < count) = false := by simp; omega
  have t5 : ¬ (64 : Int) - (data.length : Int) < count := by omega
  have t6 : 0 ≤ count := by omega
  have t7 : 1 ≤ data.length := by omega
  have t8 : data.length ≤ 64 := by omega
  cases hL : longB data with
  | true =>
    have e1 : recErr data count = 5 := by unfold recErr; rw [if_neg hc, hL]; rfl
    have e2 : recRows data count = [] := by unfold recRows; rw [e1]; rfl
    rw [e1, e2]
    have HL := Lib.hid hL
    have HM := Lib.hid (hM.new ((Below.refl w.heap.size w).alloc (Nat.le_refl _) (.cells #[.slice (some ⟨b, o, none⟩) data.length cap] 39)))
    clear e1 e2 hL hM hc
    go_enter Try.func21, Try.ntmps21
    go_wp2_with fail
    refine (ContainsFunc_long b o data.length cap (fun i => .slice (A i) (plen data i) (C i)) (fun i => decide (65536 < plen data i)) _ (by omega) ?hc ?hf).mono ?_
    case hc => exact fun i hi => (HM.out i _ (getD_some (d := []) hi)).1
    case hf => exact fun i hi => long_any _ _ _ _
    rintro e w1 ⟨rfl, rfl⟩
    rw [any_firstOf, show ((List.range data.length).any fun i => decide (65536 < plen data i)) = longB data from rfl, HL.out]
    go_wp2_with fail
    go_ret2
    exact ⟨.slice none 0 0, [], rfl, GM.nil _ _, (Below.refl _ _).alloc (Nat.le_refl _) _⟩
  | false =>
    cases hbad : badB data with
    | true =>
      have e1 : recErr data count = 23 := by unfold recErr; rw [if_neg hc, hL, hbad]; rfl
      have e2 : recRows data count = [] := by unfold recRows; rw [e1]; rfl
      rw [e1, e2]
      have HL := Lib.hid hL
      have Hbad := Lib.hid hbad
      have HM := Lib.hid (hM.new ((Below.refl w.heap.size w).alloc (Nat.le_refl _) (.cells #[.slice (some ⟨b, o, none⟩) data.length cap] 39)))
      have Hbox := Lib.hid (Blk.new w 39 #[.slice (some ⟨b, o, none⟩) data.length cap])
      clear e1 e2 hL hM hc hbad
      go_enter Try.func21, Try.ntmps21
      go_wp2_with fail
      refine (ContainsFunc_long b o data.length cap (fun i => .slice (A i) (plen data i) (C i)) (fun i => decide (65536 < plen data i)) _ (by omega) ?hc3 ?hf3).mono ?_
      case hc3 => exact fun i hi => (HM.out i _ (getD_some (d := []) hi)).1
      case hf3 => exact fun i hi => long_any _ _ _ _
      rintro e w1 ⟨rfl, rfl⟩
      rw [any_firstOf, show ((List.range data.length).any fun i => decide (65536 < plen data i)) = longB data from rfl, HL.out]
      go_wp2_with fail
      refine (ContainsFunc_Recovery1 b o data.length cap (fun i => .slice (A i) (plen data i) (C i)) _ (fun i => decide (plen data i = 0 ∨ plen data i ≠ plen data 0)) _ (by omega) ?hc2 ?hf2).mono ?_
      case hc2 => exact fun i hi => (HM.out i _ (getD_some (d := []) hi)).1
      case hf2 =>
        intro i hi
        refine Recovery1_any _ (A 0) _ _ _ b o data.length cap (plen data 0) (C 0) _ (by omega) (Hbox.out.cell rfl) ?_
        have := (HM.out 0 _ (getD_some (d := []) (by omega))).1
        rw [Nat.add_zero] at this
        exact this
      rintro e w1 ⟨rfl, rfl⟩
      rw [any_firstOf, show ((List.range data.length).any fun i => decide (plen data i = 0 ∨ plen data i ≠ plen data 0)) = badB data from rfl, Hbad.out]
      go_wp2_with fail
      go_ret2
      exact ⟨.slice none 0 0, [], rfl, GM.nil _ _, (Below.refl _ _).alloc (Nat.le_refl _) _⟩
    | false =>
      obtain ⟨hR, hL1, hL2⟩ := badB_rect hBy hbad hL t7
      have e1 : recErr data count = 0 := by unfold recErr; rw [if_neg hc, hL, hbad]; rfl
      have e2 : recRows data count = prodM (cauM count.toNat data.length) data := by unfold recRows; rw [e1]; rfl
      rw [e1, e2]
      obtain ⟨r, rfl⟩ : ∃ r : Nat, count = r := ⟨count.toNat, by omega⟩
      rw [Int.toNat_natCast]
      exact pRecovery_in b o cap (plen data 0) r data A C w hcap hM t7 (by omega) hL hbad hR rfl hL1 hL2

set_option maxRecDepth 100000 in
set_option maxHeartbeats 4000000 in
theorem pUpdate_any (v : Value) (parts : List (List Nat)) (data at' : Int) (vp : Value) (part : List Nat) (w : World) (hn : parts.length ≤ 1000000000) (hBy : BytM parts) (hm : Mx w v parts) (hp : Bs w vp part) (hBp : Byt part) (hpn : part.length ≤ maxLen)
    (hd1 : -9223372036854775808 ≤ data) (hd2 : data ≤ 9223372036854775807) (ha1 : -9223372036854775808 ≤ at') (ha2 : at' ≤ 9223372036854775807) :
    Calls Try.prog 26 #[v, .int .i64 data, .int .i64 at', vp] w (RowsErr (updRows parts data at' part) (updErr parts data at' part) w) := by
  have Hm := Lib.hid hm
  obtain ⟨a, cap, rfl, hcap, h⟩ := hm
  obtain ⟨ap, capp, rfl, hcp, hrp⟩ := hp
  by_cases hE : parErr parts data = 0
  · obtain ⟨q1, q2, q3, q4⟩ := parErr_in hE
    obtain ⟨d, rfl⟩ : ∃ d : Nat, data = d := ⟨data.toNat, by omega⟩
    obtain ⟨hlo, hmi⟩ := parErr_zero hE
    rcases h with h | ⟨b, o, A, C, rfl, hM⟩
    · rw [h] at q3; simp at q3
    have HE := Lib.hid hE
    have HM := Lib.hid hM
    cases hlost : lostB parts with
    | true =>
      have e1 : updErr parts d at' part = 26 := by unfold updErr; rw [if_pos hE, hlost]; rfl
      have e2 : updRows parts d at' part = [] := by unfold updRows; rw [e1]; rfl
      rw [e1, e2]
      have Hlost := Lib.hid hlost
      clear e1 e2 hE hM hlost hlo hmi hrp
      go_enter Try.func26, Try.ntmps26
      go_wp2_with fail
      refine (pCheck_any _ parts d _ (by omega) Hm.out (by omega) (by omega)).mono ?_
      rintro e w1 ⟨rfl, hB1⟩
      rw [HE.out]
      have HB1 := Lib.hid hB1
      have HM1 := Lib.hid (HM.out.new hB1)
      clear hB1
      go_wp2_with fail
      refine (ContainsFunc_Update1 b o parts.length cap (fun i => .slice (A i) (plen parts i) (C i)) (fun i => decide (plen parts i = 0)) _ (by omega) ?hc ?hf).mono ?_
      case hc => exact fun i hi => (HM1.out i _ (getD_some (d := []) hi)).1
      case hf => exact fun i hi => Update1_any _ _ _ _
      rintro e w1' ⟨rfl, rfl⟩
      rw [any_firstOf, show ((List.range parts.length).any fun i => decide (plen parts i = 0)) = lostB parts from rfl, Hlost.out]
      go_wp2_with fail
      go_ret2
      exact ⟨.slice none 0 0, [], rfl, GM.nil _ _, HB1.out⟩
    | false =>
      have Hlost := Lib.hid hlost
      obtain ⟨hR, hL1⟩ := lostB_rect hBy hlost hmi q3
      have hL2 := long_le hlo (show 0 < parts.length by omega)
      by_cases hat : at' < 0 ∨ (d : Int) ≤ at'
      · have e1 : updErr parts d at' part = 2 := by unfold updErr; rw [if_pos hE, hlost, if_neg (by simp), if_pos hat]
        have e2 : updRows parts d at' part = [] := by unfold updRows; rw [e1]; rfl
        rw [e1, e2]
        clear e1 e2 hE hM hlost hlo hmi hrp hR
        by_cases ha : at' < 0
        · have t1 : decide (at' < 0) = true := by simp; omega
          clear hat
          go_enter Try.func26, Try.ntmps26
          go_wp2_with fail
          refine (pCheck_any _ parts d _ (by omega) Hm.out (by omega) (by omega)).mono ?_
          rintro e w1 ⟨rfl, hB1⟩
          rw [HE.out]
          have HB1 := Lib.hid hB1
          have HM1 := Lib.hid (HM.out.new hB1)
          clear hB1
          go_wp2_with fail
          refine (ContainsFunc_Update1 b o parts.length cap (fun i => .slice (A i) (plen parts i) (C i)) (fun i => decide (plen parts i = 0)) _ (by omega) ?hc4 ?hf4).mono ?_
          case hc4 => exact fun i hi => (HM1.out i _ (getD_some (d := []) hi)).1
          case hf4 => exact fun i hi => Update1_any _ _ _ _
          rintro e w1' ⟨rfl, rfl⟩
          rw [any_firstOf, show ((List.range parts.length).any fun i => decide (plen parts i = 0)) = lostB parts from rfl, Hlost.out]
          go_wp2_with fail
          go_ret2
          exact ⟨.slice none 0 0, [], rfl, GM.nil _ _, HB1.out⟩
        · have t1 : decide (at' < 0) = false := by simp; omega
          have t2 : decide ((d : Int) ≤ at') = true := by simp; omega
          have t3 : (d : Int) ≤ at' := by omega
          clear hat
          go_enter Try.func26, Try.ntmps26
          go_wp2_with fail
          refine (pCheck_any _ parts d _ (by omega) Hm.out (by omega) (by omega)).mono ?_
          rintro e w1 ⟨rfl, hB1⟩
          rw [HE.out]
          have HB1 := Lib.hid hB1
          have HM1 := Lib.hid (HM.out.new hB1)
          clear hB1
          go_wp2_with fail
          refine (ContainsFunc_Update1 b o parts.length cap (fun i => .slice (A i) (plen parts i) (C i)) (fun i => decide (plen parts i = 0)) _ (by omega) ?hc5 ?hf5).mono ?_
          case hc5 => exact fun i hi => (HM1.out i _ (getD_some (d := []) hi)).1
          case hf5 => exact fun i hi => Update1_any _ _ _ _
          rintro e w1' ⟨rfl, rfl⟩
          rw [any_firstOf, show ((List.range parts.length).any fun i => decide (plen parts i = 0)) = lostB parts from rfl, Hlost.out]
          go_wp2_with fail
          go_ret2
          exact ⟨.slice none 0 0, [], rfl, GM.nil _ _, HB1.out⟩
      · obtain ⟨t, rfl⟩ : ∃ t : Nat, at' = t := ⟨at'.toNat, by omega⟩
        by_cases hpl : part.length = plen parts 0
        · have e1 : updErr parts d t part = 0 := by unfold updErr; rw [if_pos hE, hlost, if_neg (by simp), if_neg hat, if_neg (by omega)]
          have e2 : updRows parts d t part = updM parts d t part := by unfold updRows; rw [e1]; rfl
          rw [e1, e2]
          rcases hrp with h0 | ⟨bp, op, rfl, hrow⟩
          · rw [h0] at hpl; simp at hpl; omega
          rw [hpl]
          exact pUpdate_in b o cap bp op capp (plen parts 0) d t parts part A C w hM Hm.out hrow hE hlost hR rfl hL1 hL2 hpl hBp (by omega) (by omega) q4
        · have e1 : updErr parts d t part = 23 := by unfold updErr; rw [if_pos hE, hlost, if_neg (by simp), if_neg hat, if_pos (by omega)]
          have e2 : updRows parts d t part = [] := by unfold updRows; rw [e1]; rfl
          rw [e1, e2]
          have t1 : decide ((t : Int) < 0) = false := by simp
          have t2 : decide ((d : Int) ≤ (t : Int)) = false := by simp; omega
          have t3 : ((part.length : Int) != (plen parts 0 : Int)) = true := by rw [bne_iff_ne]; omega
          have t4 : t < d := by omega
          clear e1 e2 hE hM hlost hlo hmi hrp hR hat hpl
          have hpm := hpn
          unfold maxLen at hpm
          clear hpn
          go_enter Try.func26, Try.ntmps26
          go_wp2_with fail
          refine (pCheck_any _ parts d _ (by omega) Hm.out (by omega) (by omega)).mono ?_
          rintro e w1 ⟨rfl, hB1⟩
          rw [HE.out]
          have HB1 := Lib.hid hB1
          have HM1 := Lib.hid (HM.out.new hB1)
          clear hB1
          go_wp2_with fail
          refine (ContainsFunc_Update1 b o parts.length cap (fun i => .slice (A i) (plen parts i) (C i)) (fun i => decide (plen parts i = 0)) _ (by omega) ?hc6 ?hf6).mono ?_
          case hc6 => exact fun i hi => (HM1.out i _ (getD_some (d := []) hi)).1
          case hf6 => exact fun i hi => Update1_any _ _ _ _
          rintro e w1' ⟨rfl, rfl⟩
          rw [any_firstOf, show ((List.range parts.length).any fun i => decide (plen parts i = 0)) = lostB parts from rfl, Hlost.out]
          have hc0 : w1.cell? ⟨b, o, none⟩ = some (.slice (A 0) (plen parts 0) (C 0)) := (HM1.out 0 _ (getD_some (d := []) (by omega))).1
          go_wp2_with fail
          go_ret2
          exact ⟨.slice none 0 0, [], rfl, GM.nil _ _, HB1.out⟩
  · have e1 : updErr parts data at' part = parErr parts data := by unfold updErr; rw [if_neg hE]
    have e2 : updRows parts data at' part = [] := by unfold updRows; rw [e1, if_neg hE]
    rw [e1, e2]
    obtain ⟨pe, hpe⟩ : ∃ pe, parErr parts data = pe := ⟨_, rfl⟩
    have tP : ((pe : Int) != 0) = true := by rw [bne_iff_ne]; rw [hpe] at hE; omega
    have Hpe := Lib.hid hpe
    clear hE e1 e2 hpe h hrp
    go_enter Try.func26, Try.ntmps26
    go_wp2_with fail
    refine (pCheck_any _ parts data _ (by omega) Hm.out hd1 hd2).mono ?_
    rintro e w1 ⟨rfl, hB1⟩
    rw [Hpe.out]
    have HB1 := Lib.hid hB1
    clear hB1
    go_wp2_with fail
    go_ret2
    exact ⟨.slice none 0 0, [], by rw [Hpe.out]; rfl, GM.nil _ _, HB1.out⟩
end Go.Proofs.Ytlbomlolomcolaa
