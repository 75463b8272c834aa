/- The walk of the law RepairRestores. -/
import Derived.Test.YtkclmfppjhmnjaaDk10
namespace Go.Proofs.Ytkclmfppjhmnjaa
open Go.RowKit Img Wire

theorem enc_byt' {n : Nat} (h : n ≤ 8192) : Byt (enc n) := fun x hx => enc_byt (Nat.lt_of_le_of_lt h (by decide)) x hx
theorem imRes_byt {l : List (List Nat)} {q : List (Int × List Nat)} (hl : BytM l) (hq : ∀ p ∈ q, Byt p.2) : Byt (imRes l q) := by
  unfold imRes
  split
  · rename_i h
    have hd : dkErr l.length q = 0 := by
      unfold imErr at h
      split at h
      · assumption
      · exact h
    obtain ⟨h1, h2, _⟩ := dkErr_ok hd
    have hc : BytM (cont l q) := cont_all hl hq
    intro x hx
    unfold imgB at hx
    rcases List.mem_append.1 hx with hx | hx
    · rw [cont_length] at hx; exact enc_byt' h2 x hx
    · obtain ⟨r, hr, hxr⟩ := List.mem_flatten.1 hx
      exact hc r (List.mem_of_mem_take hr) x hxr
  · intro x hx; cases hx
theorem im_re {l : List (List Nat)} {q : List (Int × List Nat)} (h16 : P16 l) (hq16 : Q16 q) (h : imErr l q = 0) : reErr (imRes l q) = 0 ∧ rePg (imRes l q) = cont l q ∧ dkErr l.length q = 0 := by
  have hr : imRes l q = imgB (cont l q) := by unfold imRes; rw [if_pos h]
  unfold imErr at h
  split at h
  · rename_i hd
    split at h
    · cases h
    · rename_i hL
      obtain ⟨h1, h2, _⟩ := dkErr_ok hd
      obtain ⟨k1, k2⟩ := re_img (l := cont l q) (cont_all h16 (fun p hp => hq16 p hp)) (by rw [cont_length]; exact h1) (by rw [cont_length]; exact h2) (by omega)
      rw [hr]
      exact ⟨k1, k2, hd⟩
  · rename_i hd; exact absurd h hd
theorem imRes_len (l : List (List Nat)) (q : List (Int × List Nat)) : (imRes l q).length ≤ 65536 := by
  unfold imRes
  split
  · rename_i h
    unfold imErr at h
    split at h
    · split at h
      · cases h
      · omega
    · rename_i hd; exact absurd h hd
  · exact Nat.zero_le _
theorem imErr_le (l : List (List Nat)) (q : List (Int × List Nat)) : imErr l q ≤ 5 := by
  unfold imErr dkErr
  repeat' split
  all_goals omega
theorem re_im {b : List Nat} (hb : Byt b) (h : reErr b = 0) : imErr (rePg b) [] = 0 ∧ imRes (rePg b) [] = b ∧ P16 (rePg b) ∧ (rePg b).length ≤ 8192 := by
  obtain ⟨h1, h2, h3, h4, h5⟩ := img_re hb h
  have hd : dkErr (rePg b).length [] = 0 := by
    unfold dkErr
    rw [h2, if_neg]
    rintro (h | h | ⟨p, hp, _⟩)
    · omega
    · omega
    · cases hp
  have he : imErr (rePg b) [] = 0 := by
    unfold imErr
    rw [if_pos hd, if_neg]
    show ¬ 65536 < (imgB (rePg b)).length
    rw [h1]; omega
  refine ⟨he, ?_, ?_, by omega⟩
  · unfold imRes; rw [if_pos he]; exact h1
  · have : rePg b = pagesOf (rdRest b) (rdNum b) := by unfold rePg; rw [if_pos h]
    rw [this]; exact pagesOf_16 _ _

set_option maxRecDepth 100000 in
set_option maxHeartbeats 8000000 in
theorem RepairRestores_walk (vs vp : Value) (l : List (List Nat)) (q : List (Int × List Nat)) (vb : Value) (b : List Nat) (w : World) (hv : Pgs w vs 16 l) (h16 : P16 l) (hBl : BytM l) (hl : l.length ≤ maxLen) (hq : Pds w vp q) (hq16 : Q16 q) (hBq : ∀ p ∈ q, Byt p.2) (hqn : q.length ≤ maxLen) (hb : Bs w vb b) (hBb : Byt b) (hbl : b.length ≤ maxLen) :
    Calls Try.prog 3 #[.agg #[vs, vp], vb] w fun e w' => e = .returned (.bool true) ∧ Below w.heap.size w w' := by
  obtain ⟨c0, c1, hB0⟩ := disk_cells w vs vp
  have HV := Lib.hid (hv.new hB0)
  have HQ := Lib.hid (hq.new hB0)
  have HBb := Lib.hid (hb.new hB0)
  have HB0 := Lib.hid hB0
  have HBk := Lib.hid (Blk.new w 25 #[vs, vp])
  have H16 := Lib.hid h16
  have HBl := Lib.hid hBl
  have Hq16 := Lib.hid hq16
  have HBq := Lib.hid hBq
  have HBy := Lib.hid hBb
  obtain ⟨av, cv, rfl, hcv, _⟩ := hv
  obtain ⟨aq, cq, rfl, hcq, _⟩ := hq
  obtain ⟨ab, cb, rfl, hcb, _⟩ := hb
  unfold maxLen at hl hqn hbl
  have hz0 : w.heap.size < (w.alloc (.cells #[.slice av l.length cv, .slice aq q.length cq] 25)).heap.size := by simp
  clear h16 hBl hq16 hBq hBb hB0
  go_enter Try.func3, Try.ntmps3
  go_wp2_with fail
  generalize w.alloc (.cells #[.slice av l.length cv, .slice aq q.length cq] 25) = W0 at *
  refine (Few48_any av aq l.length q.length cv cq _ hl hqn).mono ?_
  rintro e w1 ⟨rfl, hB1⟩
  have HB1 := Lib.hid (HB0.out.trans (hB1.mono HB0.out.size))
  have HBb1 := Lib.hid (HBb.out.new hB1)
  by_cases hf : ¬ (l.length ≤ 500 ∧ q.length ≤ 200)
  · rw [decide_eq_false hf]
    clear hf hB1
    go_wp2_with fail
    refine (awake59_any _).mono ?_
    rintro e w2 ⟨rfl, hB2⟩
    have HB2 := Lib.hid (HB1.out.trans (hB2.mono HB1.out.size))
    clear hB2
    go_wp2_with fail
    go_ret
    exact ⟨rfl, HB2.out⟩
  have hf' := Classical.not_not.1 hf
  rw [decide_eq_true hf']
  obtain ⟨hf1, hf2⟩ := hf'
  clear hf
  by_cases hb3 : 300 < b.length
  · have t1 : decide ((300 : Int) < (b.length : Int)) = true := by simp; omega
    clear hb3 hB1
    go_wp2_with fail
    refine (awake59_any _).mono ?_
    rintro e w2 ⟨rfl, hB2⟩
    have HB2 := Lib.hid (HB1.out.trans (hB2.mono HB1.out.size))
    clear hB2
    go_wp2_with fail
    go_ret
    exact ⟨rfl, HB2.out⟩
  have t1 : decide ((300 : Int) < (b.length : Int)) = false := by simp; omega
  have HV1 := Lib.hid (HV.out.new hB1)
  have HQ1 := Lib.hid (HQ.out.new hB1)
  have HBk1 := Lib.hid (HBk.out.below hB1 hz0)
  have c0' := HBk1.out.cell (i := 0) rfl
  have c1' := HBk1.out.cell (i := 1) rfl
  have hz1 := HBk1.out.lt
  clear hB1 HV HQ HBb HBk c0 c1 HB0
  go_wp2_with fail
  refine (Image_any _ _ l q _ HV1.out H16.out (by omega) HQ1.out Hq16.out (by omega)).mono ?_
  rintro e w2 ⟨v2, rfl, hO2, hB2⟩
  have HB2 := Lib.hid (HB1.out.trans (hB2.mono HB1.out.size))
  have HBb2 := Lib.hid (HBb1.out.new hB2)
  have HV2 := Lib.hid (HV1.out.new hB2)
  have HQ2 := Lib.hid (HQ1.out.new hB2)
  have HBk2 := Lib.hid (HBk1.out.below hB2 hz1)
  have d0 := HBk2.out.cell (i := 0) rfl
  have d1 := HBk2.out.cell (i := 1) rfl
  have hz2 := HBk2.out.lt
  have HO2 := Lib.hid hO2
  have HIm := Lib.hid (fun h => im_re (l := l) (q := q) H16.out Hq16.out h)
  have HIb := Lib.hid (imRes_byt HBl.out HBq.out)
  obtain ⟨a2, k2, rfl⟩ := hO2.form
  clear hO2 hB2 HV1 HQ1 HBb1 HBk1 c0' c1' HB1
  go_upto_if 30 with (fail)
  go_cut [] (fun wx => Hid (Bs wx (.slice ab b.length cb) b ∧ Below w.heap.size w wx))
  case first =>
    have hle := imErr_le l q
    have HLn := Lib.hid (imRes_len l q)
    by_cases hE : imErr l q = 0
    · obtain ⟨j1, j2, j3⟩ := HIm.out hE
      have J1 := Lib.hid j1
      have J2 := Lib.hid j2
      have t2 : ((imErr l q : Int) == 0) = true := by rw [hE]; rfl
      obtain ⟨e1, e2⟩ := dr_all l q
      rw [if_pos j3] at e2
      rw [j3] at e1
      have E1 := Lib.hid e1
      have E2 := Lib.hid e2
      have HC16 := Lib.hid (show P16 (cont l q) from cont_all H16.out (fun p hp => Hq16.out p hp))
      have HCl := Lib.hid (cont_length l q)
      clear j1 j2 j3 hE HIm e1 e2
      generalize imErr l q = xe at *
      go_wp2_with fail
      refine (Restore_any _ (imRes l q) _ HO2.out.bs HIb.out (by have := HLn.out; omega)).mono ?_
      rintro e w3 ⟨v3, rfl, hP3, hB3⟩
      rw [J1.out]
      rw [J2.out] at hP3
      obtain ⟨x0, x1, hB4⟩ := disk_cells w3 v3 (.slice none 0 0)
      have hB34 := hB3.trans (hB4.mono hB3.size)
      have hz4 := hB34.size
      have HP4 := Lib.hid (hP3.new hB4)
      have HBk4 := Lib.hid (HBk2.out.below hB34 hz2)
      have y0 := HBk4.out.cell (i := 0) rfl
      have y1 := HBk4.out.cell (i := 1) rfl
      have HV4 := Lib.hid (HV2.out.new hB34)
      have HQ4 := Lib.hid (HQ2.out.new hB34)
      have HBb4 := Lib.hid (HBb2.out.new hB34)
      have HB4 := Lib.hid (HB2.out.trans (hB34.mono HB2.out.size))
      have X0 := Lib.hid x0
      have X1 := Lib.hid x1
      obtain ⟨a3, k3, rfl, _, _⟩ := hP3
      have Hzw := Lib.hid (show w3.heap.size < (w3.alloc (.cells #[.slice a3 (cont l q).length k3, .slice none 0 0] 25)).heap.size by simp)
      clear hB3 hB4 hB34 x0 x1 d0 d1
      go_wp2_with fail
      generalize w3.alloc (.cells #[.slice a3 (cont l q).length k3, .slice none 0 0] 25) = W4 at *
      refine (dRead_any _ _ l q 0 l.length _ HV4.out H16.out (by omega) HQ4.out Hq16.out (by omega) (by decide)).mono ?_
      rintro e w5 ⟨v5, rfl, hO5, hB5⟩
      rw [E1.out]
      rw [E2.out] at hO5
      have x0 := cell_new hB5 X0.out
      have x1 := cell_new hB5 X1.out
      have HP5 := Lib.hid (HP4.out.new hB5)
      have HBb5 := Lib.hid (HBb4.out.new hB5)
      have HB5 := Lib.hid (HB4.out.trans (hB5.mono HB4.out.size))
      have HQ5 := Lib.hid (hO5.pgs HC16.out)
      obtain ⟨a5, k5, rfl, _, _⟩ := hO5.pgs HC16.out
      clear hO5 hB5 y0 y1 HV4 HQ4 HBk4 HP4 HB4 HBb4
      go_wp2_with fail
      refine (SamePages_any _ _ (cont l q) (cont l q) _ HP5.out HQ5.out HC16.out HC16.out (by have := HCl.out; omega)).mono ?_
      rintro e w6 ⟨rfl, n6, rfl⟩
      rw [decide_eq_true rfl]
      go_wp2_with fail
      go_meet
      exact ⟨HBb5.out, below_drewN HB5.out n6⟩
    · have t2 : ((imErr l q : Int) == 0) = false := by rw [beq_eq_false_iff_ne]; omega
      clear hE HIm
      go_wp2_with fail
      go_meet
      exact ⟨HBb2.out, HB2.out⟩
  case rest =>
  obtain ⟨hBx, hB⟩ := hcut.out
  have HBx := Lib.hid hBx
  have HB := Lib.hid hB
  clear hcut hBx hB HBb2 HB2 HV2 HQ2 HBk2 HO2 HIm HIb d0 d1
  go_wp2_with fail
  refine (Restore_any _ b _ HBx.out HBy.out (by omega)).mono ?_
  rintro e w3 ⟨v3, rfl, hP3, hB3⟩
  obtain ⟨x0, x1, hB4⟩ := disk_cells w3 v3 (.slice none 0 0)
  have hB34 := hB3.trans (hB4.mono hB3.size)
  have HP4 := Lib.hid (hP3.new hB4)
  have HB4 := Lib.hid (HB.out.trans (hB34.mono HB.out.size))
  have HBb4 := Lib.hid (HBx.out.new hB34)
  obtain ⟨a3, k3, rfl, _, _⟩ := hP3
  clear hB3 hB4 hB34
  by_cases hE : reErr b = 0
  · obtain ⟨j1, j2, j3, j4⟩ := re_im HBy.out hE
    have J1 := Lib.hid j1
    have J2 := Lib.hid j2
    have J3 := Lib.hid j3
    have J4 := Lib.hid j4
    rw [hE]
    clear j1 j2 j3 j4 hE
    go_wp2_with fail
    generalize w3.alloc (.cells #[.slice a3 (rePg b).length k3, .slice none 0 0] 25) = W4 at *
    refine (Image_any _ _ (rePg b) [] _ HP4.out J3.out (by have := J4.out; omega) (pds_nil _) (by intro p hp; cases hp) (by decide)).mono ?_
    rintro e w5 ⟨v5, rfl, hO5, hB5⟩
    rw [J1.out]
    rw [J2.out] at hO5
    have HO5 := Lib.hid hO5.bs
    have HBb5 := Lib.hid (HBb4.out.new hB5)
    have HB5 := Lib.hid (HB4.out.trans (hB5.mono HB4.out.size))
    obtain ⟨a5, k5, rfl⟩ := hO5.form
    clear hO5 hB5
    go_wp2_with fail
    refine (bEqual_any _ _ b b _ HO5.out HBb5.out HBy.out HBy.out).mono ?_
    rintro e w6 ⟨rfl, rfl⟩
    rw [decide_eq_true rfl]
    go_wp2_with fail
    refine (awake59_any _).mono ?_
    rintro e w7 ⟨rfl, hB7⟩
    have HB7 := Lib.hid (HB5.out.trans (hB7.mono HB5.out.size))
    clear hB7
    go_wp2_with fail
    go_ret
    exact ⟨rfl, HB7.out⟩
  · have t2 : ((reErr b : Int) != 0) = true := by rw [bne_iff_ne]; omega
    have hle : reErr b ≤ 9 := by
      unfold reErr
      rcases rdErr_cases b with h | h | h <;> (repeat' split) <;> omega
    generalize reErr b = xe at *
    clear hE
    go_wp2_with fail
    generalize w3.alloc (.cells #[.slice a3 (rePg b).length k3, .slice none 0 0] 25) = W4 at *
    refine (awake59_any _).mono ?_
    rintro e w7 ⟨rfl, hB7⟩
    have HB7 := Lib.hid (HB4.out.trans (hB7.mono HB4.out.size))
    clear hB7
    go_wp2_with fail
    go_ret
    exact ⟨rfl, HB7.out⟩
end Go.Proofs.Ytkclmfppjhmnjaa
