/- The contracts of Product and of the reference's for all arguments; the walk of the law GaloisProducts. -/
import Derived.Test.YtpiiigeabbhdaaaProd2
namespace Go.Proofs.Ytpiiigeabbhdaaa
open Go.RowKit

set_option maxRecDepth 100000 in
set_option maxHeartbeats 1000000 in
theorem Product_any (va vb : Value) (a b : List (List Nat)) (w : World) (hna : a.length ≤ 1000000000) (hnb : b.length ≤ 1000000000) (hBa : BytM a) (hBb : BytM b) (hma : Mx w va a) (hmb : Mx w vb b) :
    Calls Try.prog 26 #[va, vb] w (RowsErr (prodRows a b) (prodErr a b) w) := by
  have Ma := Lib.hid hma
  have Mb := Lib.hid hmb
  by_cases hIa : isMat a
  · by_cases hIb : isMat b
    · have a1 := hIa.1
      have b1 := hIb.1
      obtain ⟨xa, ca, rfl, hca, ha⟩ := hma
      obtain ⟨xb, cb, rfl, hcb, hb⟩ := hmb
      rcases ha with ha | ⟨ba, oa, A, C, rfl, hMa⟩
      · subst ha; exact absurd hIa.1 (by decide)
      rcases hb with hb | ⟨bb, ob, A', C', rfl, hMb⟩
      · subst hb; exact absurd hIb.1 (by decide)
      by_cases hsq : (a.getD 0 []).length = b.length
      · have e1 : prodErr a b = 0 := by unfold prodErr; rw [if_pos ⟨hIa, hIb⟩, if_pos hsq]
        have e2 : prodRows a b = prodM a b := by unfold prodRows; rw [e1]; rfl
        rw [e1, e2]
        exact Product_fit ba oa ca bb ob cb _ a b A A' C C' w hca hcb hIa hIb hsq rfl hBa hBb hMa hMb
      have e1 : prodErr a b = 23 := by unfold prodErr; rw [if_pos ⟨hIa, hIb⟩, if_neg hsq]
      have e2 : prodRows a b = [] := by unfold prodRows; rw [e1]; rfl
      rw [e1, e2]
      have hne : (((a.getD 0 []).length : Int) != (b.length : Int)) = true := by rw [bne_iff_ne]; omega
      have HIa := Lib.hid hIa
      have HIb := Lib.hid hIb
      have HMa := Lib.hid hMa
      have H0 := Lib.hid (getD_some (l := a) (i := 0) (d := []) (by omega))
      generalize hr0 : (a.getD 0 []).length = r0 at *
      have Hr0 := Lib.hid hr0
      clear e1 e2 hsq hr0 hIa hIb hMa hMb
      go_enter Try.func26, Try.ntmps26
      go_wp2_with fail
      refine (isMatrix_any _ a _ hna Ma.out).mono ?_
      rintro e w1 ⟨rfl, hB1⟩
      rw [isMatB_true HIa.out]
      have Mb1 := Lib.hid (Mb.out.new hB1)
      go_wp2_with fail
      refine (isMatrix_any _ b _ hnb Mb1.out).mono ?_
      rintro e w2 ⟨rfl, hB2⟩
      rw [isMatB_true HIb.out]
      have hB12 := hB1.trans (hB2.mono hB1.size)
      have hcell := ((HMa.out.new hB12) 0 _ H0.out).1
      rw [Nat.add_zero, Hr0.out] at hcell
      have HB12 := Lib.hid hB12
      clear hB12 hB1 hB2
      go_wp2_with fail
      go_ret2
      exact ⟨.slice none 0 0, [], rfl, GM.nil _ _, HB12.out⟩
    · have e1 : prodErr a b = 6 := by unfold prodErr; rw [if_neg fun h => hIb h.2]
      have e2 : prodRows a b = [] := by unfold prodRows; rw [e1]; rfl
      rw [e1, e2]
      have HIa := Lib.hid hIa
      have HIb := Lib.hid hIb
      clear e1 e2 hIa hIb
      go_enter Try.func26, Try.ntmps26
      go_wp2_with fail
      refine (isMatrix_any _ a _ hna Ma.out).mono ?_
      rintro e w1 ⟨rfl, hB1⟩
      rw [isMatB_true HIa.out]
      have Mb1 := Lib.hid (Mb.out.new hB1)
      go_wp2_with fail
      refine (isMatrix_any _ b _ hnb Mb1.out).mono ?_
      rintro e w2 ⟨rfl, hB2⟩
      rw [isMatB_no HIb.out]
      have HB12 := Lib.hid (hB1.trans (hB2.mono hB1.size))
      clear hB1 hB2
      go_wp2_with fail
      go_ret2
      exact ⟨.slice none 0 0, [], rfl, GM.nil _ _, HB12.out⟩
  · have e1 : prodErr a b = 6 := by unfold prodErr; rw [if_neg fun h => hIa h.1]
    have e2 : prodRows a b = [] := by unfold prodRows; rw [e1]; rfl
    rw [e1, e2]
    have HIa := Lib.hid hIa
    clear e1 e2 hIa
    go_enter Try.func26, Try.ntmps26
    go_wp2_with fail
    refine (isMatrix_any _ a _ hna Ma.out).mono ?_
    rintro e w1 ⟨rfl, hB1⟩
    rw [isMatB_no HIa.out]
    have HB1 := Lib.hid hB1
    clear hB1
    go_wp2_with fail
    go_ret2
    exact ⟨.slice none 0 0, [], rfl, GM.nil _ _, HB1.out⟩

set_option maxRecDepth 100000 in
set_option maxHeartbeats 1000000 in
theorem rProduct_any (va vb : Value) (a b : List (List Nat)) (w : World) (hna : a.length ≤ 1000000000) (hnb : b.length ≤ 1000000000) (hBa : BytM a) (hBb : BytM b) (hma : Mx w va a) (hmb : Mx w vb b) :
    Calls Try.prog 27 #[va, vb] w (RowsErr (prodRows a b) (prodErr a b) w) := by
  have Ma := Lib.hid hma
  have Mb := Lib.hid hmb
  by_cases hIa : isMat a
  · by_cases hIb : isMat b
    · have a1 := hIa.1
      have b1 := hIb.1
      obtain ⟨xa, ca, rfl, hca, ha⟩ := hma
      obtain ⟨xb, cb, rfl, hcb, hb⟩ := hmb
      rcases ha with ha | ⟨ba, oa, A, C, rfl, hMa⟩
      · subst ha; exact absurd hIa.1 (by decide)
      rcases hb with hb | ⟨bb, ob, A', C', rfl, hMb⟩
      · subst hb; exact absurd hIb.1 (by decide)
      by_cases hsq : (a.getD 0 []).length = b.length
      · have e1 : prodErr a b = 0 := by unfold prodErr; rw [if_pos ⟨hIa, hIb⟩, if_pos hsq]
        have e2 : prodRows a b = prodM a b := by unfold prodRows; rw [e1]; rfl
        rw [e1, e2]
        exact rProduct_fit ba oa ca bb ob cb _ a b A A' C C' w hca hcb hIa hIb hsq rfl hBa hBb hMa hMb
      have e1 : prodErr a b = 23 := by unfold prodErr; rw [if_pos ⟨hIa, hIb⟩, if_neg hsq]
      have e2 : prodRows a b = [] := by unfold prodRows; rw [e1]; rfl
      rw [e1, e2]
      have hne : (((a.getD 0 []).length : Int) != (b.length : Int)) = true := by rw [bne_iff_ne]; omega
      have HIa := Lib.hid hIa
      have HIb := Lib.hid hIb
      have HMa := Lib.hid hMa
      have H0 := Lib.hid (getD_some (l := a) (i := 0) (d := []) (by omega))
      generalize hr0 : (a.getD 0 []).length = r0 at *
      have Hr0 := Lib.hid hr0
      clear e1 e2 hsq hr0 hIa hIb hMa hMb
      go_enter Try.func27, Try.ntmps27
      go_wp2_with fail
      refine (rIs_any _ a _ hna Ma.out).mono ?_
      rintro e w1 ⟨rfl, n1, rfl⟩
      have hB1 : Below w.heap.size w (w.drewN n1) := below_drewN (Below.refl _ _) n1
      generalize w.drewN n1 = w1 at *
      rw [isMatB_true HIa.out]
      have Mb1 := Lib.hid (Mb.out.new hB1)
      go_wp2_with fail
      refine (rIs_any _ b _ hnb Mb1.out).mono ?_
      rintro e w2 ⟨rfl, n2, rfl⟩
      have hB2 : Below w1.heap.size w1 (w1.drewN n2) := below_drewN (Below.refl _ _) n2
      generalize w1.drewN n2 = w2 at *
      rw [isMatB_true HIb.out]
      have hB12 := hB1.trans (hB2.mono hB1.size)
      have hcell := ((HMa.out.new hB12) 0 _ H0.out).1
      rw [Nat.add_zero, Hr0.out] at hcell
      have HB12 := Lib.hid hB12
      clear hB12 hB1 hB2
      go_wp2_with fail
      go_ret2
      exact ⟨.slice none 0 0, [], rfl, GM.nil _ _, HB12.out⟩
    · have e1 : prodErr a b = 6 := by unfold prodErr; rw [if_neg fun h => hIb h.2]
      have e2 : prodRows a b = [] := by unfold prodRows; rw [e1]; rfl
      rw [e1, e2]
      have HIa := Lib.hid hIa
      have HIb := Lib.hid hIb
      clear e1 e2 hIa hIb
      go_enter Try.func27, Try.ntmps27
      go_wp2_with fail
      refine (rIs_any _ a _ hna Ma.out).mono ?_
      rintro e w1 ⟨rfl, n1, rfl⟩
      have hB1 : Below w.heap.size w (w.drewN n1) := below_drewN (Below.refl _ _) n1
      generalize w.drewN n1 = w1 at *
      rw [isMatB_true HIa.out]
      have Mb1 := Lib.hid (Mb.out.new hB1)
      go_wp2_with fail
      refine (rIs_any _ b _ hnb Mb1.out).mono ?_
      rintro e w2 ⟨rfl, n2, rfl⟩
      have hB2 : Below w1.heap.size w1 (w1.drewN n2) := below_drewN (Below.refl _ _) n2
      generalize w1.drewN n2 = w2 at *
      rw [isMatB_no HIb.out]
      have HB12 := Lib.hid (hB1.trans (hB2.mono hB1.size))
      clear hB1 hB2
      go_wp2_with fail
      go_ret2
      exact ⟨.slice none 0 0, [], rfl, GM.nil _ _, HB12.out⟩
  · have e1 : prodErr a b = 6 := by unfold prodErr; rw [if_neg fun h => hIa h.1]
    have e2 : prodRows a b = [] := by unfold prodRows; rw [e1]; rfl
    rw [e1, e2]
    have HIa := Lib.hid hIa
    clear e1 e2 hIa
    go_enter Try.func27, Try.ntmps27
    go_wp2_with fail
    refine (rIs_any _ a _ hna Ma.out).mono ?_
    rintro e w1 ⟨rfl, n1, rfl⟩
    have hB1 : Below w.heap.size w (w.drewN n1) := below_drewN (Below.refl _ _) n1
    generalize w.drewN n1 = w1 at *
    rw [isMatB_no HIa.out]
    have HB1 := Lib.hid hB1
    clear hB1
    go_wp2_with fail
    go_ret2
    exact ⟨.slice none 0 0, [], rfl, GM.nil _ _, HB1.out⟩

theorem prodRows_byt {a b : List (List Nat)} (hB : BytM b) : BytM (prodRows a b) := by
  unfold prodRows
  split
  · rename_i h
    have hI : isMat b := by
      apply Classical.byContradiction
      intro hI
      unfold prodErr at h
      rw [if_neg fun h => hI h.2] at h
      exact absurd h (by decide)
    exact prodM_byt (hI.rect hB)
  · intro r hr; simp at hr
theorem prodRows_length (a b : List (List Nat)) : (prodRows a b).length ≤ a.length := by
  unfold prodRows
  split
  · rw [prodM_length]; omega
  · exact Nat.zero_le _

set_option maxRecDepth 100000 in
set_option maxHeartbeats 2000000 in
theorem GaloisProducts_walk (va : Value) (a : List (List Nat)) (vb : Value) (b : List (List Nat)) (w : World) (hma : Mx w va a) (hBa : BytM a) (hla : a.length ≤ maxLen) (hmb : Mx w vb b) (hBb : BytM b) (hlb : b.length ≤ maxLen) :
    Calls Try.prog 8 #[va, vb] w fun e w' => e = .returned (.bool true) ∧ Below w.heap.size w w' := by
  have Ma := Lib.hid hma
  have Ba := Lib.hid hBa
  have La := Lib.hid hla
  have Mb := Lib.hid hmb
  have Bb := Lib.hid hBb
  have Lb := Lib.hid hlb
  have t1 : ((prodErr a b : Int) == (prodErr a b : Int)) = true := by simp
  have t4 : prodErr a b ≤ 23 := by unfold prodErr; (repeat split) <;> decide
  clear hma hBa hla hmb hBb hlb
  by_cases hFa : fewM a
  · have HFa := Lib.hid hFa
    have hlena : a.length ≤ 200 := hFa.2.2
    clear hFa
    by_cases hFb : fewM b
    · have HFb := Lib.hid hFb
      have hlenb : b.length ≤ 200 := hFb.2.2
      clear hFb
      go_enter Try.func8, Try.ntmps8
      go_wp2_with fail
      refine (rFew_any va a _ La.out Ma.out).mono ?_
      rintro e w1 ⟨rfl, rfl⟩
      rw [fewB_true HFa.out]
      go_wp2_with fail
      refine (rFew_any vb b _ Lb.out Mb.out).mono ?_
      rintro e w1 ⟨rfl, rfl⟩
      rw [fewB_true HFb.out]
      go_wp2_with fail
      refine (Product_any va vb a b _ (by omega) (by omega) Ba.out Bb.out Ma.out Mb.out).mono ?_
      rintro e w1 ⟨v1, hd1, rfl, hG1, hB1⟩
      have B1 := Lib.hid hB1
      have Ma1 := Lib.hid (Ma.out.new hB1)
      have Mb1 := Lib.hid (Mb.out.new hB1)
      have G1 := Lib.hid hG1.mx
      clear hB1 hG1
      go_wp2_with fail
      refine (rProduct_any va vb a b _ (by omega) (by omega) Ba.out Bb.out Ma1.out Mb1.out).mono ?_
      rintro e w2 ⟨v2, hd2, rfl, hG2, hB2⟩
      have B2 := Lib.hid (B1.out.trans (hB2.mono B1.out.size))
      have G12 := Lib.hid (G1.out.new hB2)
      have G2 := Lib.hid hG2.mx
      clear hB2 hG2 B1 Ma1 Mb1 G1
      go_wp2_with fail
      refine (rSame_any v1 v2 (prodRows a b) (prodRows a b) _ (by have := prodRows_length a b; omega) (prodRows_byt Bb.out) (prodRows_byt Bb.out) G12.out G2.out).mono ?_
      rintro e w5 ⟨rfl, q, rfl⟩
      rw [sameB_self]
      have B5 := Lib.hid (below_drewN B2.out q)
      clear B2 G12 G2
      generalize w2.drewN q = w5 at *
      go_wp2_with fail
      refine (awake_any _).mono ?_
      rintro e w6 ⟨rfl, hB6⟩
      have B6 := Lib.hid (B5.out.trans (hB6.mono B5.out.size))
      clear hB6 B5
      go_wp2_with fail
      go_ret
      exact ⟨rfl, B6.out⟩
    · have HFb := Lib.hid hFb
      clear hFb
      go_enter Try.func8, Try.ntmps8
      go_wp2_with fail
      refine (rFew_any va a _ La.out Ma.out).mono ?_
      rintro e w1 ⟨rfl, rfl⟩
      rw [fewB_true HFa.out]
      go_wp2_with fail
      refine (rFew_any vb b _ Lb.out Mb.out).mono ?_
      rintro e w1 ⟨rfl, rfl⟩
      rw [fewB_false HFb.out]
      go_wp2_with fail
      refine (awake_any _).mono ?_
      rintro e w6 ⟨rfl, hB6⟩
      go_wp2_with fail
      go_ret
      exact ⟨rfl, hB6⟩
  · have HFa := Lib.hid hFa
    clear hFa
    go_enter Try.func8, Try.ntmps8
    go_wp2_with fail
    refine (rFew_any va a _ La.out Ma.out).mono ?_
    rintro e w1 ⟨rfl, rfl⟩
    rw [fewB_false HFa.out]
    go_wp2_with fail
    refine (awake_any _).mono ?_
    rintro e w6 ⟨rfl, hB6⟩
    go_wp2_with fail
    go_ret
    exact ⟨rfl, hB6⟩
end Go.Proofs.Ytpiiigeabbhdaaa
