/- Contracts of slices.Equal at ints: the shelf's, laid at the great seat by lay-shelf.mjs and lay-plain.mjs of the kit (that seat's numbers). -/
/- The contract of slices.Equal at ints of the call's own (the great seat). -/
/- The walk of the law VolumeSplits. -/
/- The walk of the law VolumeJoins. -/
import Derived.Shelf.Slices.Equal
import Derived.Shelf.Slices.Empties2
import Derived.Test.YtkclmfppjhmnjaaGreatChecked
import Derived.Test.YtkclmfppjhmnjaaGreatB47
import Derived.Test.YtkclmfppjhmnjaaGreatB43
import Derived.Test.YtkclmfppjhmnjaaGreatB41
namespace Go.Proofs.YtkclmfppjhmnjaaGreat
open Go.Shelf
def Tryz.lays111_ren : Go.Shelf.Ren := ⟨fun | 111 => 14 | n => n, fun | 28 => 35 | 3 => 3 | 4 => 4 | 0 => 0 | n => n, fun | n => n⟩
theorem Tryz.lays111 : Go.Proofs.Lays.n111 Tryz.prog Tryz.lays111_ren := {
  mixed := by kernel_rfl
  f111 := Tryz.func14.trans (congrArg some (by kernel_rfl))
  t0 := Tryz.underlying0
  a0 := Tryz.isAgg0
  z0 := Tryz.sizeOf0
  v0 := Tryz.zeroValue0
  t3 := Tryz.underlying3
  a3 := Tryz.isAgg3
  z3 := Tryz.sizeOf3
  v3 := Tryz.zeroValue3
  t4 := Tryz.underlying4
  a4 := Tryz.isAgg4
  z4 := Tryz.sizeOf4
  v4 := Tryz.zeroValue4
  t28 := Tryz.underlying35
  a28 := Tryz.isAgg35
  z28 := Tryz.sizeOf35
  v28 := Tryz.zeroValue35 }
open Go.RowKit Go.Lib in
/-- slices.Equal at []int: "Equal reports whether two slices are equal: the same length and all elements equal. If the lengths are different, Equal returns false. Otherwise, the elements are compared in increasing index order, and the comparison stops at the first unequal pair. Empty and nil slices are considered equal.": IT RETURNS WHETHER THE TWO LISTS OF ELEMENTS ARE ONE; the world is as it was but for the count of draws (the test 's1[i] != s2[i]' has two reads, whose order the model draws, once a round). 'xs', 'ys': what the cells behind the two addresses hold (the spare capacity too, if you have it); 'xs.take n', 'ys.take m': the elements. THE TWO SLICES MAY OVERLAP. (LAID: no walk: one application.) -/
theorem Tryz.slices_Equal_int (b1 o1 n c b2 o2 m d : Nat) (xs ys : List Int) (w : World) (hx : n ≤ xs.length) (hy : m ≤ ys.length) (hbig : n ≤ 9223372036854775807) (hbig2 : m ≤ 9223372036854775807) (hc1 : ∀ j, j < xs.length → w.cell? ⟨b1, o1 + j, none⟩ = some (.int .i64 (xs.getD j 0))) (hc2 : ∀ j, j < ys.length → w.cell? ⟨b2, o2 + j, none⟩ = some (.int .i64 (ys.getD j 0))) :
    Calls Tryz.prog 14 #[.slice (some ⟨b1, o1, none⟩) n c, .slice (some ⟨b2, o2, none⟩) m d] w fun e w' => e = .returned (.bool (xs.take n == ys.take m)) ∧ ∃ q, w' = w.drewN q := Any.slices_Equal_int Tryz.lays111 b1 o1 n c b2 o2 m d xs ys w hx hy hbig hbig2 hc1 hc2
open Go.RowKit Go.Lib in
/-- The same where the first is of length 0 (a nil one too): no cell is asked for. (LAID: no walk: one application.) -/
theorem Tryz.slices_Equal_int_empty (a1 a2 : Option Addr) (c m d : Nat) (w : World) (hbig2 : m ≤ 9223372036854775807) :
    Calls Tryz.prog 14 #[.slice a1 0 c, .slice a2 m d] w fun e w' => e = .returned (.bool (decide (m = 0))) ∧ w' = w := Any.slices_Equal_int_empty Tryz.lays111 a1 a2 c m d w hbig2
open Go.RowKit Go.Lib in
theorem Tryz.slices_Equal_int_lens (a1 a2 : Option Addr) (n c m d : Nat) (w : World) (hnm : n ≠ m) :
    Calls Tryz.prog 14 #[.slice a1 n c, .slice a2 m d] w fun e w' => e = .returned (.bool false) ∧ w' = w := Any.slices_Equal_int_lens Tryz.lays111 a1 a2 n c m d w hnm
end Go.Proofs.YtkclmfppjhmnjaaGreat

namespace Go.Proofs.YtkclmfppjhmnjaaGreat
open Go.RowKit

theorem ci_take (l : List Nat) : (ci l).take l.length = ci l := List.take_of_length_le (by rw [ci_length]; exact Nat.le_refl _)
theorem Equal_io {w : World} {B B' : Nat} {v v' : Value} {l : List Nat} (h : IO w B v l) (h' : IO w B' v' l) (hl : l.length ≤ 1000000000) : Calls Tryz.prog 14 #[v, v'] w fun e w' => e = .returned (.bool true) ∧ Below w.heap.size w w' := by
  rcases h.cases with ⟨rfl, rfl⟩ | ⟨g, cap, rfl, _, _, hb⟩
  · obtain ⟨a, c, rfl⟩ := h'.form
    exact (Tryz.slices_Equal_int_empty none a 0 0 c w (by omega)).mono fun e w' ⟨h1, h2⟩ => ⟨by rw [h1]; rfl, by rw [h2]; exact Below.refl _ _⟩
  · rcases h'.cases with ⟨rfl, rfl⟩ | ⟨g', cap', rfl, _, _, hb'⟩
    · exact (Tryz.slices_Equal_int_empty _ none cap 0 0 w (by omega)).mono fun e w' ⟨h1, h2⟩ => ⟨by rw [h1]; rfl, by rw [h2]; exact Below.refl _ _⟩
    · refine (Tryz.slices_Equal_int g 0 l.length cap g' 0 l.length cap' (ci l) (ci l) w (by rw [ci_length]; exact Nat.le_refl _) (by rw [ci_length]; exact Nat.le_refl _) (by omega) (by omega) (iv_cells hb) (iv_cells hb')).mono fun e w' ⟨h1, q, h2⟩ => ⟨?_, ?_⟩
      · rw [h1, beq_self_eq_true]
      · rw [h2]; exact ⟨rfl, rfl, rfl, Nat.le_refl _, fun _ _ => rfl⟩
end Go.Proofs.YtkclmfppjhmnjaaGreat

namespace Go.Proofs.YtkclmfppjhmnjaaGreat
open Go.RowKit Wire Vol Crc

theorem spL_ok {b : List Nat} (hB : Byt b) (data rec : Int) : BytM (spL b data rec) ∧ (spL b data rec).length ≤ 64 ∧ ∀ r ∈ spL b data rec, r.length ≤ 65536 := by
  by_cases hE : spErr b data rec = 0
  · have hL : ¬ 65536 < b.length := fun h => by rw [spErr_long h] at hE; simp at hE
    have hbad : ¬ spBad data rec := fun h => by rw [spErr_bad hL h] at hE; simp at hE
    have hb2 := hbad
    unfold spBad at hb2
    obtain ⟨d, rfl⟩ : ∃ d : Nat, data = d := ⟨data.toNat, by omega⟩
    obtain ⟨r, rfl⟩ : ∃ r : Nat, rec = r := ⟨rec.toNat, by omega⟩
    have hS : spL b (d : Int) (r : Int) = volL b d r := by
      unfold spL
      rw [if_pos hE, Int.toNat_natCast, Int.toNat_natCast]
    obtain ⟨hAr, hAl⟩ := allM_rect hB (show b.length ≤ 65536 by omega) (show 1 ≤ d by omega) (show d + r ≤ 64 by omega)
    rw [hS]
    have hget : ∀ x ∈ volL b d r, ∃ i, (volL b d r)[i]? = some x ∧ i < d + r := fun x hx => by
      obtain ⟨i, hi⟩ := List.mem_iff_getElem?.1 hx
      refine ⟨i, hi, ?_⟩
      have := (List.getElem?_eq_some_iff.1 hi).1
      rw [volL_length, hAl] at this
      exact this
    refine ⟨fun x hx => ?_, by rw [volL_length, hAl]; omega, fun x hx => ?_⟩
    · obtain ⟨i, hi, hlt⟩ := hget x hx
      have hp := getD_some (l := allM b d r) (d := []) (i := i) (by rw [hAl]; exact hlt)
      rw [volL_get hp] at hi
      simp only [Option.some.injEq] at hi
      rw [← hi]
      exact putB_byt (vhd_small (by omega) (by omega) (by omega) (by omega)) (hAr _ (List.mem_of_getElem? hp)).2
    · obtain ⟨i, hi, _⟩ := hget x hx
      by_cases h : x.length ≤ 65536
      · exact h
      · rw [spErr_any hL hbad hi (by omega)] at hE
        simp at hE
  · unfold spL
    rw [if_neg hE]
    exact ⟨fun x hx => by simp at hx, by simp, fun x hx => by simp at hx⟩

end Go.Proofs.YtkclmfppjhmnjaaGreat

namespace Go.Proofs.YtkclmfppjhmnjaaGreat
open Go.RowKit Wire Vol Crc

theorem jB_byt {L : List (List Nat)} (hB : BytM L) : Byt (jB L) := by
  unfold jB
  by_cases h : clErr L = 0
  · rw [if_neg (by rw [h]; simp)]
    exact (jB_ok (setOk_cl hB h).1).1
  · rw [if_pos h]; exact fun x hx => by simp at hx
theorem rvL_ok {L : List (List Nat)} (hB : BytM L) : BytM (rvL L) ∧ (rvL L).length ≤ 64 ∧ ∀ r ∈ rvL L, r.length ≤ 65536 := by
  unfold rvL
  by_cases h : jE L = 0
  · rw [if_neg (by rw [h]; simp)]; exact spL_ok (jB_byt hB) _ _
  · rw [if_pos h]; exact ⟨fun x hx => by simp at hx, by simp, fun x hx => by simp at hx⟩
theorem miL_len {L : List (List Nat)} (hB : BytM L) : (miL L).length ≤ 64 := by
  unfold miL
  by_cases h : clErr L = 0
  · rw [if_pos h]
    have k := (setOk_cl hB h).1
    have h1 := missTo_len (clP L) (clP L).length
    rw [missTo_all] at h1
    have := k.len
    have := k.dr
    omega
  · rw [if_neg h]; simp

set_option maxRecDepth 100000 in
set_option maxHeartbeats 8000000 in
theorem VolumeJoins_walk (v : Value) (L : List (List Nat)) (w : World) (hM : Mx w v L) (hB : BytM L) (_hl : L.length ≤ maxLen) (_hr : ∀ j, j < L.length → plen L j ≤ maxLen) : Calls Tryz.prog 3 #[v] w fun e w' => e = .returned (.bool true) ∧ Below w.heap.size w w' := by
  have HM := Lib.hid hM
  have HBy := Lib.hid hB
  have HFw := Lib.hid (r5Few_any v L w hM)
  obtain ⟨a, cap, rfl, hc, _⟩ := hM
  clear hB
  cases hf : few55 L with
  | false =>
    have HF := Lib.hid hf
    have HA := Lib.hid (awake55_any w)
    clear hf
    go_enter Tryz.func3, Tryz.ntmps3
    go_wp2_with fail
    refine HFw.out.mono ?_
    rintro e w1 ⟨rfl, hw1⟩
    rw [HF.out]
    subst hw1
    go_wp2_with fail
    refine HA.out.mono ?_
    rintro e w1 ⟨rfl, hB1⟩
    have HB1 := Lib.hid hB1
    clear hB1
    go_wp2_with fail
    go_ret
    exact ⟨rfl, HB1.out⟩
  | true =>
    have HF := Lib.hid hf
    have hfe : L.length ≤ 140 ∧ ∀ r ∈ L, r.length ≤ 200 := of_decide_eq_true hf
    have HLl := Lib.hid (show L.length ≤ 1000000000 by omega)
    have HLr := Lib.hid (show ∀ r ∈ L, r.length ≤ 100000000 from fun r hr => by have := hfe.2 r hr; omega)
    have HR := Lib.hid (rvL_ok HBy.out)
    have HJb := Lib.hid (jB_byt HBy.out)
    have HMi := Lib.hid (miL_len HBy.out)
    clear hf hfe
    go_enter Tryz.func3, Tryz.ntmps3
    go_wp2_with fail
    refine HFw.out.mono ?_
    rintro e w1 ⟨rfl, hw1⟩
    rw [HF.out]
    subst hw1
    clear HFw HF
    go_wp2_with fail
    refine (vJoin_any _ L _ HM.out HBy.out HLl.out HLr.out).mono ?_
    rintro e w1 ⟨v1, rfl, hS1, hB1⟩
    have HM1 := Lib.hid (HM.out.new hB1)
    have HS1 := Lib.hid hS1
    have B1 := Lib.hid hB1
    obtain ⟨j1, k1, rfl, _⟩ := hS1
    clear hB1 HM
    go_wp2_with fail
    refine (r5Join_any _ L _ HM1.out HBy.out HLl.out HLr.out).mono ?_
    rintro e w2 ⟨v2, rfl, hS2, hB2⟩
    have HM2 := Lib.hid (HM1.out.new hB2)
    have HS12 := Lib.hid (HS1.out.new hB2)
    have HS2 := Lib.hid hS2
    have B2 := Lib.hid (B1.out.trans (hB2.mono B1.out.size))
    obtain ⟨j2, k2, rfl, _⟩ := hS2
    clear hB2 HM1 HS1 B1
    go_wp2_with fail
    refine (vRepair_any _ L _ HM2.out HBy.out HLl.out HLr.out).mono ?_
    rintro e w3 ⟨v3, hd3, rfl, hG3, hB3⟩
    have HM3 := Lib.hid (HM2.out.new hB3)
    have HS13 := Lib.hid (HS12.out.new hB3)
    have HS23 := Lib.hid (HS2.out.new hB3)
    have HG3 := Lib.hid hG3.mx
    have B3 := Lib.hid (B2.out.trans (hB3.mono B2.out.size))
    clear hB3 HM2 HS12 HS2 B2 hG3
    go_wp2_with fail
    refine (r5Repair_any _ L _ HM3.out HBy.out HLl.out HLr.out).mono ?_
    rintro e w4 ⟨v4, hd4, rfl, hG4, hB4⟩
    have HM4 := Lib.hid (HM3.out.new hB4)
    have HS14 := Lib.hid (HS13.out.new hB4)
    have HS24 := Lib.hid (HS23.out.new hB4)
    have HG34 := Lib.hid (HG3.out.new hB4)
    have HG4 := Lib.hid hG4.mx
    have B4 := Lib.hid (B3.out.trans (hB4.mono B3.out.size))
    clear hB4 HM3 HS13 HS23 B3 HG3 hG4
    go_wp2_with fail
    refine (vMissing_any _ L _ HM4.out HBy.out HLl.out HLr.out).mono ?_
    rintro e w5 ⟨v5, rfl, hI5, hB5⟩
    have HM5 := Lib.hid (HM4.out.new hB5)
    have HS15 := Lib.hid (HS14.out.new hB5)
    have HS25 := Lib.hid (HS24.out.new hB5)
    have HG35 := Lib.hid (HG34.out.new hB5)
    have HG45 := Lib.hid (HG4.out.new hB5)
    have HI5 := Lib.hid hI5
    have B5 := Lib.hid (B4.out.trans (hB5.mono B4.out.size))
    clear hB5 HM4 HS14 HS24 B4 HG34 HG4 hI5
    go_wp2_with fail
    refine (r5Missing_any _ L _ HM5.out HBy.out HLl.out HLr.out).mono ?_
    rintro e w6 ⟨v6, rfl, hI6, hB6⟩
    have HS16 := Lib.hid (HS15.out.new hB6)
    have HS26 := Lib.hid (HS25.out.new hB6)
    have HG36 := Lib.hid (HG35.out.new hB6)
    have HG46 := Lib.hid (HG45.out.new hB6)
    have HI56 := Lib.hid (HI5.out.new hB6)
    have HI6 := Lib.hid hI6
    have B6 := Lib.hid (B5.out.trans (hB6.mono B5.out.size))
    have t1 : ((jE L : Int) == (jE L : Int)) = true := by simp
    have t2 : ((rvE L : Int) == (rvE L : Int)) = true := by simp
    have t3 : ((clErr L : Int) == (clErr L : Int)) = true := by simp
    clear hB6 HM5 HS15 HS25 B5 HG35 HG45 hI6 HI5
    generalize jE L = e1 at *
    generalize rvE L = e2 at *
    generalize clErr L = e3 at *
    generalize jB L = J at *
    generalize rvL L = R at *
    generalize miL L = M at *
    go_wp2_with fail
    refine (bEqual_any _ _ J J _ HS16.out HS26.out HJb.out HJb.out).mono ?_
    rintro e w7 ⟨rfl, hw7⟩
    rw [decide_eq_true rfl]
    subst hw7
    clear HS16 HS26
    go_wp2_with fail
    refine (r5Same_eq _ _ R _ HG36.out HG46.out HR.out.1 (by have := HR.out.2.1; omega) (fun r hr => by have := HR.out.2.2 r hr; omega)).mono ?_
    rintro e w8 ⟨rfl, hB8⟩
    have HI58 := Lib.hid (HI56.out.new hB8)
    have HI68 := Lib.hid (HI6.out.new hB8)
    have B8 := Lib.hid (B6.out.trans (hB8.mono B6.out.size))
    clear hB8 HG36 HG46 B6 HI56 HI6
    go_wp2_with fail
    refine (Equal_io HI58.out HI68.out (by have := HMi.out; omega)).mono ?_
    rintro e w9 ⟨rfl, hB9⟩
    have B9 := Lib.hid (B8.out.trans (hB9.mono B8.out.size))
    have HA := Lib.hid (awake55_any w9)
    clear hB9 HI58 HI68 B8
    go_wp2_with fail
    refine HA.out.mono ?_
    rintro e w10 ⟨rfl, hB10⟩
    have B10 := Lib.hid (B9.out.trans (hB10.mono B9.out.size))
    clear hB10 HA
    go_wp2_with fail
    go_ret
    exact ⟨rfl, B10.out⟩
end Go.Proofs.YtkclmfppjhmnjaaGreat
