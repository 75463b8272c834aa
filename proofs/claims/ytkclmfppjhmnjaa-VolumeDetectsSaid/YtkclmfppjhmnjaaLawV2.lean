/- The walk of the law VolumeSplits. -/
import Derived.Test.YtkclmfppjhmnjaaB43
import Derived.Test.YtkclmfppjhmnjaaB41
namespace Go.Proofs.Ytkclmfppjhmnjaa
open Go.RowKit Wire Vol Crc

theorem spL_ok {b : List Nat} (hB : Byt b) (data rec : Int) : BytM (spL b data rec) ∧ (spL b data rec).length ≤ 64 ∧ ∀ r ∈ spL b data rec, r.length ≤ 65536 := by
  by_cases hE : spErr b data rec = 0
  · have hL : ¬ 65536 < b.length := fun h => by rw [spErr_long h] at hE; simp at hE
    have hbad : ¬ spBad data rec := fun h => by rw [spErr_bad hL h] at hE; simp at hE
    have hb2 := hbad
    unfold spBad at hb2
    obtain ⟨d, rfl⟩ : ∃ d : Nat, data = d := ⟨data.toNat, by omega⟩
    obtain ⟨r, rfl⟩ : ∃ r : Nat, rec = r := ⟨rec.toNat, by omega⟩
    have hS : spL b (d : Int) (r : Int) = volL b d r := by
      unfold spL
      rw [if_pos hE, Int.toNat_natCast, Int.toNat_natCast]
    obtain ⟨hAr, hAl⟩ := allM_rect hB (show b.length ≤ 65536 by omega) (show 1 ≤ d by omega) (show d + r ≤ 64 by omega)
    rw [hS]
    have hget : ∀ x ∈ volL b d r, ∃ i, (volL b d r)[i]? = some x ∧ i < d + r := fun x hx => by
      obtain ⟨i, hi⟩ := List.mem_iff_getElem?.1 hx
      refine ⟨i, hi, ?_⟩
      have := (List.getElem?_eq_some_iff.1 hi).1
      rw [volL_length, hAl] at this
      exact this
    refine ⟨fun x hx => ?_, by rw [volL_length, hAl]; omega, fun x hx => ?_⟩
    · obtain ⟨i, hi, hlt⟩ := hget x hx
      have hp := getD_some (l := allM b d r) (d := []) (i := i) (by rw [hAl]; exact hlt)
      rw [volL_get hp] at hi
      simp only [Option.some.injEq] at hi
      rw [← hi]
      exact putB_byt (vhd_small (by omega) (by omega) (by omega) (by omega)) (hAr _ (List.mem_of_getElem? hp)).2
    · obtain ⟨i, hi, _⟩ := hget x hx
      by_cases h : x.length ≤ 65536
      · exact h
      · rw [spErr_any hL hbad hi (by omega)] at hE
        simp at hE
  · unfold spL
    rw [if_neg hE]
    exact ⟨fun x hx => by simp at hx, by simp, fun x hx => by simp at hx⟩

set_option maxRecDepth 100000 in
set_option maxHeartbeats 4000000 in
theorem VolumeSplits_walk (v : Value) (l : List Nat) (data rec : Int) (w : World) (h : Bs w v l) (hB : Byt l) (_hl : l.length ≤ maxLen) (hd1 : -9223372036854775808 ≤ data) (hd2 : data ≤ 9223372036854775807) (hr1 : -9223372036854775808 ≤ rec) (hr2 : rec ≤ 9223372036854775807) : Calls Try.prog 6 #[v, .int .i64 data, .int .i64 rec] w fun e w' => e = .returned (.bool true) ∧ Below w.heap.size w w' := by
  have H := Lib.hid h
  have HBy := Lib.hid hB
  obtain ⟨a, cap, rfl, hc, _⟩ := h
  by_cases h3 : 100 < l.length
  · have t1 : decide ((100 : Int) < (l.length : Int)) = true := by simp; omega
    have HA := Lib.hid (awake55_any w)
    clear hB h3
    go_enter Try.func6, Try.ntmps6
    go_wp2_with fail
    refine HA.out.mono ?_
    rintro e w1 ⟨rfl, hB1⟩
    have HB1 := Lib.hid hB1
    clear hB1
    go_wp2_with fail
    go_ret
    exact ⟨rfl, HB1.out⟩
  · have t1 : decide ((100 : Int) < (l.length : Int)) = false := by simp; omega
    have HL := Lib.hid (show l.length ≤ 100 by omega)
    have HD := Lib.hid (And.intro hd1 hd2)
    have HR := Lib.hid (And.intro hr1 hr2)
    clear hB h3 hd1 hd2 hr1 hr2
    go_enter Try.func6, Try.ntmps6
    go_wp2_with fail
    refine (vSplit_any _ l data rec _ H.out HBy.out (by have := HL.out; omega) HD.out.1 HD.out.2 HR.out.1 HR.out.2).mono ?_
    rintro e w1 ⟨v1, hd1, rfl, hG1, hB1⟩
    have H1 := Lib.hid (H.out.new hB1)
    have G1 := Lib.hid hG1.mx
    have B1 := Lib.hid hB1
    clear hG1 hB1 H
    go_wp2_with fail
    refine (r5Split_any _ l data rec _ H1.out HBy.out (by have := HL.out; omega) HD.out.1 HD.out.2 HR.out.1 HR.out.2).mono ?_
    rintro e w2 ⟨v2, hd2, rfl, hG2, hB2⟩
    have G12 := Lib.hid (G1.out.new hB2)
    have G2 := Lib.hid hG2.mx
    have B2 := Lib.hid (B1.out.trans (hB2.mono B1.out.size))
    have hok := spL_ok HBy.out data rec
    have Hok := Lib.hid hok
    have t2 : ((spErr l data rec : Int) == (spErr l data rec : Int)) = true := by simp
    clear hG2 hB2 H1 G1 B1 hok
    generalize spErr l data rec = er at *
    generalize spL l data rec = M at *
    go_wp2_with fail
    refine (r5Same_eq v1 v2 M _ G12.out G2.out Hok.out.1 (by have := Hok.out.2.1; omega) (fun r hr => by have := Hok.out.2.2 r hr; omega)).mono ?_
    rintro e w3 ⟨rfl, hB3⟩
    have B3 := Lib.hid (B2.out.trans (hB3.mono B2.out.size))
    have HA := Lib.hid (awake55_any w3)
    clear hB3 G12 G2 Hok B2
    go_wp2_with fail
    refine HA.out.mono ?_
    rintro e w4 ⟨rfl, hB4⟩
    have B4 := Lib.hid (B3.out.trans (hB4.mono B3.out.size))
    clear hB4 HA B3
    go_wp2_with fail
    go_ret
    exact ⟨rfl, B4.out⟩
end Go.Proofs.Ytkclmfppjhmnjaa
