/- The walk of the law GaloisReverses. -/
import Derived.Test.YtpiiigeabbhdaaaCut
namespace Go.Proofs.Ytpiiigeabbhdaaa
open Go.RowKit

theorem cutM_sq {m : List (List Nat)} {n : Nat} (hB : BytM m) (h1 : 1 ≤ n) (h2 : n ≤ m.length) (h3 : n ≤ 6) : Sq n (cutM (m.take n)) := by
  have hl : (m.take n).length = n := by rw [List.length_take]; omega
  refine ⟨fun r hr => ?_, by rw [cutM_length, hl], h1, by omega⟩
  unfold cutM at hr
  obtain ⟨x, hx, rfl⟩ := List.mem_map.1 hr
  rw [hl]
  exact ⟨cutR_length _ _, cutR_byt (hB x (List.mem_of_mem_take hx))⟩

theorem MxAt.take {w : World} {b o : Nat} {m : List (List Nat)} {A : Nat → Option Addr} {C : Nat → Nat} (h : MxAt w b o m A C) (n : Nat) : MxAt w b o (m.take n) A C := by
  intro i r hr
  rw [List.getElem?_take] at hr
  split at hr
  · exact h i r hr
  · simp at hr

theorem cut_n (b o cap n : Nat) (m : List (List Nat)) (A : Nat → Option Addr) (C : Nat → Nat) (w : World) (hl : m.length = n) (hN : n ≤ 6) (hM : MxAt w b o m A C) :
    Calls Try.prog 28 #[.slice (some ⟨b, o, none⟩) n cap] w (RowsRet (cutM m) w) := by
  subst hl; exact cut_any b o cap m A C w hN hM

theorem Invert_e (v : Value) (m : List (List Nat)) (e : Nat) (w : World) (he : invErr m = e) (hn : m.length ≤ 1000000000) (hB : BytM m) (hm : Mx w v m) : Calls Try.prog 22 #[v] w (RowsErr (invRows m) e w) := by
  subst he; exact Invert_any v m w hn hB hm
theorem Rank_e (v : Value) (m : List (List Nat)) (k : Nat) (w : World) (hk : rankOf m = k) (hr : rankErr m = 0) (hn : m.length ≤ 1000000000) (hB : BytM m) (hm : Mx w v m) :
    Calls Try.prog 24 #[v] w fun e w' => e = .returned (.tuple #[.int .i64 k, .int .i64 (0 : Nat)]) ∧ Below w.heap.size w w' := by
  subst hk; rw [← hr]; exact Rank_any v m w hn hB hm
theorem Product_e (va vb : Value) (a b p : List (List Nat)) (n : Nat) (w : World) (ha : Sq n a) (hb : Sq n b) (hp : prodM a b = p) (hma : Mx w va a) (hmb : Mx w vb b) : Calls Try.prog 26 #[va, vb] w (RowsErr p 0 w) := by
  subst hp
  have h := Product_any va vb a b w (by have := ha.len; have := ha.hi; omega) (by have := hb.len; have := hb.hi; omega) ha.bytM hb.bytM hma hmb
  rw [ha.prodRows hb, ha.prodErr hb] at h
  exact h
theorem Same_e (va vb : Value) (m : List (List Nat)) (n : Nat) (w : World) (hm : Sq n m) (hma : Mx w va m) (hmb : Mx w vb m) : Calls Try.prog 20 #[va, vb] w fun e w' => e = .returned (.bool true) ∧ ∃ q, w.drewN q = w' := by
  have h := rSame_any va vb m m w (by have := hm.len; have := hm.hi; omega) hm.bytM hm.bytM hma hmb
  rw [sameB_self] at h
  exact h.mono fun e w' ⟨he, q, hq⟩ => ⟨he, q, by first | exact hq | exact hq.symm⟩

/-- How the errors and ranks of two square matrices hang together. -/
theorem rev_cases {n : Nat} {A B : List (List Nat)} (hA : Sq n A) (hB : Sq n B) :
    (invErr A = 0 ∧ rankOf A = n ∧ invErr B = 0 ∧ invErr (prodM A B) = 0) ∨ (invErr A ≠ 0 ∧ rankOf A ≠ n ∧ invErr (prodM A B) ≠ 0) ∨ (invErr A = 0 ∧ rankOf A = n ∧ invErr B ≠ 0 ∧ invErr (prodM A B) ≠ 0) := by
  have h1 := hA.inv_zero
  rw [← hA.rankOf] at h1
  have h2 := hA.prod_inv hB
  by_cases a : invErr A = 0
  · by_cases b : invErr B = 0
    · exact Or.inl ⟨a, h1.1 a, b, h2.2 ⟨a, b⟩⟩
    · exact Or.inr (Or.inr ⟨a, h1.1 a, b, fun e => b (h2.1 e).2⟩)
  · exact Or.inr (Or.inl ⟨a, fun e => a (h1.2 e), fun e => a (h2.1 e).1⟩)

set_option maxRecDepth 100000 in
set_option maxHeartbeats 8000000 in
theorem rev_main (b o cap b' o' cap' n : Nat) (a c : List (List Nat)) (A A' : Nat → Option Addr) (C C' : Nat → Nat) (w : World) (hma : MxAt w b o a A C) (hmc : MxAt w b' o' c A' C') (hca : a.length ≤ cap) (hcc : c.length ≤ cap') (hBa : BytM a) (hBc : BytM c)
    (hFa : fewM a) (hFc : fewM c) (h1 : 1 ≤ n) (hn : (n = a.length ∧ a.length ≤ c.length ∧ a.length ≤ 6) ∨ (n = c.length ∧ c.length < a.length ∧ c.length ≤ 6) ∨ (n = 6 ∧ 6 < a.length ∧ 6 < c.length)) :
    Calls Try.prog 9 #[.slice (some ⟨b, o, none⟩) a.length cap, .slice (some ⟨b', o', none⟩) c.length cap'] w fun e w' => e = .returned (.bool true) ∧ Below w.heap.size w w' := by
  have hla : a.length ≤ 200 := hFa.2.2
  have hlc : c.length ≤ 200 := hFc.2.2
  have Ma := Lib.hid (show Mx w (.slice (some ⟨b, o, none⟩) a.length cap) a from ⟨_, _, rfl, hca, Or.inr ⟨b, o, A, C, rfl, hma⟩⟩)
  have Mc := Lib.hid (show Mx w (.slice (some ⟨b', o', none⟩) c.length cap') c from ⟨_, _, rfl, hcc, Or.inr ⟨b', o', A', C', rfl, hmc⟩⟩)
  have HFa := Lib.hid hFa
  have HFc := Lib.hid hFc
  have Hn := Lib.hid hn
  have hn1 : n ≤ a.length := by omega
  have hn2 : n ≤ c.length := by omega
  have hn3 : n ≤ 6 := by omega
  have hn4 : n ≤ cap := by omega
  have hn5 : n ≤ cap' := by omega
  have HmaT := Lib.hid (hma.take n)
  have HmcT := Lib.hid (hmc.take n)
  have Hla := Lib.hid (show (a.take n).length = n by rw [List.length_take]; omega)
  have Hlc := Lib.hid (show (c.take n).length = n by rw [List.length_take]; omega)
  have SA := Lib.hid (cutM_sq hBa h1 hn1 hn3)
  have SB := Lib.hid (cutM_sq hBc h1 hn2 hn3)
  have ha1 : 1 ≤ a.length := by omega
  have hc1 : 1 ≤ c.length := by omega
  have ha0 : ((a.length : Int) == 0) = false := by rw [beq_eq_false_iff_ne]; omega
  have hc0 : ((c.length : Int) == 0) = false := by rw [beq_eq_false_iff_ne]; omega
  clear hma hmc hFa hFc hn
  go_enter Try.func9, Try.ntmps9
  go_wp2_with fail
  refine (rFew_any _ a _ (by unfold maxLen; omega) Ma.out).mono ?_
  rintro e w1 ⟨rfl, rfl⟩
  rw [fewB_true HFa.out]
  go_wp2_with fail
  refine (rFew_any _ c _ (by unfold maxLen; omega) Mc.out).mono ?_
  rintro e w1 ⟨rfl, rfl⟩
  rw [fewB_true HFc.out]
  go_upto_region 3 with (fail)
  go_cut [5] (fun s5 wx => s5 = .int .i64 n ∧ w = wx)
  case first =>
    have hn := Hn.out
    rcases hn with ⟨e1, e2, e3⟩ | ⟨e1, e2, e3⟩ | ⟨e1, e2, e3⟩
    all_goals
      have E1 := Lib.hid e1
      clear e1
      go_wp2_with fail
      go_meet
      exact ⟨by rw [E1.out]; first | done | rfl, rfl⟩
  case rest =>
  obtain ⟨rfl, rfl⟩ := hcut
  go_upto_region 4 with (fail)
  go_cut [0, 1] (fun s0 s1 wx => Hid (Mx wx s0 (cutM (a.take n))) ∧ Hid (Mx wx s1 (cutM (c.take n))) ∧ Hid (Below w.heap.size w wx))
  case first =>
    go_region_with (first
      | (go_at_call_of 28 (Addr.mk b o none); refine (cut_n b o _ n (a.take n) A C _ Hla.out hn3 (by exact HmaT.out)).mono ?_; rintro e w2 ⟨v2, hd2, rfl, hG2, hB2⟩; have HB2 : Hid (Below w.heap.size w w2) := ⟨hB2.os, hB2.tape, hB2.output, hB2.size, hB2.block⟩; have HX2 := Lib.hid hG2.mx; have HmcT2 := Lib.hid (HmcT.out.new HB2.out); clear hG2 hB2)
      | (go_at_call_of 28 (Addr.mk b' o' none); refine (cut_n b' o' _ n (c.take n) A' C' _ Hlc.out hn3 (by exact HmcT2.out)).mono ?_; rintro e w3 ⟨v3, hd3, rfl, hG3, hB3⟩; have HB3 : Hid (Below w2.heap.size w2 w3) := ⟨hB3.os, hB3.tape, hB3.output, hB3.size, hB3.block⟩; have HX3 := Lib.hid hG3.mx; clear hG3 hB3))
    all_goals
      go_wp2_with fail
      go_meet
      exact ⟨HX2.out.new HB3.out, HX3.out, HB2.out.trans (HB3.out.mono HB2.out.size)⟩
  case rest =>
  obtain ⟨HXA, HXB, HB⟩ := hcut
  have HC := Lib.hid (rev_cases SA.out SB.out)
  have lA := SA.out.len
  have lB := SB.out.len
  generalize cutM (a.take n) = MA at *
  generalize cutM (c.take n) = MB at *
  have bA : MA.length ≤ 1000000000 := by omega
  have bB : MB.length ≤ 1000000000 := by omega
  have SP := Lib.hid (SA.out.prod SB.out)
  have bP : (prodM MA MB).length ≤ 1000000000 := by have := SP.out.len; omega
  clear lA lB Hn Hla Hlc HmaT HmcT Ma Mc HFa HFc
  rcases HC.out with ⟨eA, rA, eB, eP⟩ | ⟨eA, rA, eP⟩ | ⟨eA, rA, eB, eP⟩
  · have B3 := HB
    have XA3 := HXA
    have XB3 := HXB
    clear HB HXA HXB HC
    have Hea := Lib.hid eA
    have Hrk := Lib.hid rA
    have Heb := Lib.hid eB
    have Hep := Lib.hid eP
    have KA := Lib.hid eA
    have KB := Lib.hid eB
    have KP := Lib.hid eP
    clear eA rA eP eB
    go_wp2_with fail
    refine (Invert_e u0 MA 0 _ Hea.out bA SA.out.bytM XA3.out).mono ?_
    rintro e w4 ⟨vx, hdx, rfl, hG4, hB4⟩
    have B4 := Lib.hid (B3.out.trans (hB4.mono B3.out.size))
    have XA4 := Lib.hid (XA3.out.new hB4)
    have XB4 := Lib.hid (XB3.out.new hB4)
    have GX4 := Lib.hid hG4.mx
    clear hB4 B3 XA3 XB3 hG4
    go_wp2_with fail
    refine (Invert_e u1 MB 0 _ Heb.out bB SB.out.bytM XB4.out).mono ?_
    rintro e w5 ⟨vy, hdy, rfl, hG5, hB5⟩
    have B5 := Lib.hid (B4.out.trans (hB5.mono B4.out.size))
    have XA5 := Lib.hid (XA4.out.new hB5)
    have XB5 := Lib.hid (XB4.out.new hB5)
    have GX5 := Lib.hid (GX4.out.new hB5)
    have GY5 := Lib.hid hG5.mx
    clear hB5 B4 XA4 XB4 GX4 hG5
    go_wp2_with fail
    refine (Rank_e u0 MA n _ Hrk.out SA.out.rankErr bA SA.out.bytM XA5.out).mono ?_
    rintro e w6 ⟨rfl, hB6⟩
    have B6 := Lib.hid (B5.out.trans (hB6.mono B5.out.size))
    have XA6 := Lib.hid (XA5.out.new hB6)
    have XB6 := Lib.hid (XB5.out.new hB6)
    have GX6 := Lib.hid (GX5.out.new hB6)
    have GY6 := Lib.hid (GY5.out.new hB6)
    clear hB6 B5 XA5 XB5 GX5 GY5
    go_wp2_with fail
    refine (Product_e u0 u1 MA MB (prodM MA MB) n _ SA.out SB.out rfl XA6.out XB6.out).mono ?_
    rintro e w7 ⟨vp, hdp, rfl, hG7, hB7⟩
    have B7 := Lib.hid (B6.out.trans (hB7.mono B6.out.size))
    have XA7 := Lib.hid (XA6.out.new hB7)
    have XB7 := Lib.hid (XB6.out.new hB7)
    have GX7 := Lib.hid (GX6.out.new hB7)
    have GY7 := Lib.hid (GY6.out.new hB7)
    have GP7 := Lib.hid hG7.mx
    clear hB7 B6 XA6 XB6 GX6 GY6 hG7
    go_wp2_with fail
    refine (Invert_e vp (prodM MA MB) 0 _ Hep.out bP SP.out.bytM GP7.out).mono ?_
    rintro e w8 ⟨vz, hdz, rfl, hG8, hB8⟩
    have B8 := Lib.hid (B7.out.trans (hB8.mono B7.out.size))
    have XA8 := Lib.hid (XA7.out.new hB8)
    have XB8 := Lib.hid (XB7.out.new hB8)
    have GX8 := Lib.hid (GX7.out.new hB8)
    have GY8 := Lib.hid (GY7.out.new hB8)
    have GP8 := Lib.hid (GP7.out.new hB8)
    have GZ8 := Lib.hid hG8.mx
    clear hB8 B7 XA7 XB7 GX7 GY7 GP7 hG8
    go_wp2_with fail
    refine (Product_e vx u0 (invRows MA) MA (idM n) n _ (SA.out.inv KA.out).1 SA.out (SA.out.inv_left KA.out) GX8.out XA8.out).mono ?_
    rintro e w9 ⟨vl, hdl, rfl, hG9, hB9⟩
    have B9 := Lib.hid (B8.out.trans (hB9.mono B8.out.size))
    have XA9 := Lib.hid (XA8.out.new hB9)
    have XB9 := Lib.hid (XB8.out.new hB9)
    have GX9 := Lib.hid (GX8.out.new hB9)
    have GY9 := Lib.hid (GY8.out.new hB9)
    have GP9 := Lib.hid (GP8.out.new hB9)
    have GZ9 := Lib.hid (GZ8.out.new hB9)
    have GL9 := Lib.hid hG9.mx
    clear hB9 B8 XA8 XB8 GX8 GY8 GP8 GZ8 hG9
    go_wp2_with fail
    refine (Product_e u0 vx MA (invRows MA) (idM n) n _ SA.out (SA.out.inv KA.out).1 (SA.out.inv_right KA.out) XA9.out GX9.out).mono ?_
    rintro e w10 ⟨vr, hdr, rfl, hG10, hB10⟩
    have B10 := Lib.hid (B9.out.trans (hB10.mono B9.out.size))
    have XA10 := Lib.hid (XA9.out.new hB10)
    have XB10 := Lib.hid (XB9.out.new hB10)
    have GX10 := Lib.hid (GX9.out.new hB10)
    have GY10 := Lib.hid (GY9.out.new hB10)
    have GP10 := Lib.hid (GP9.out.new hB10)
    have GZ10 := Lib.hid (GZ9.out.new hB10)
    have GL10 := Lib.hid (GL9.out.new hB10)
    have GR10 := Lib.hid hG10.mx
    clear hB10 B9 XA9 XB9 GX9 GY9 GP9 GZ9 GL9 hG10
    go_wp2_with fail
    refine (Product_e vy vx (invRows MB) (invRows MA) (invRows (prodM MA MB)) n _ (SB.out.inv KB.out).1 (SA.out.inv KA.out).1 (SA.out.inv_prod SB.out KP.out).symm GY10.out GX10.out).mono ?_
    rintro e w11 ⟨vq, hdq, rfl, hG11, hB11⟩
    have B11 := Lib.hid (B10.out.trans (hB11.mono B10.out.size))
    have XA11 := Lib.hid (XA10.out.new hB11)
    have XB11 := Lib.hid (XB10.out.new hB11)
    have GX11 := Lib.hid (GX10.out.new hB11)
    have GY11 := Lib.hid (GY10.out.new hB11)
    have GP11 := Lib.hid (GP10.out.new hB11)
    have GZ11 := Lib.hid (GZ10.out.new hB11)
    have GL11 := Lib.hid (GL10.out.new hB11)
    have GR11 := Lib.hid (GR10.out.new hB11)
    have GQ11 := Lib.hid hG11.mx
    clear hB11 B10 XA10 XB10 GX10 GY10 GP10 GZ10 GL10 GR10 hG11
    go_wp2_with fail
    refine (rIdentity_any n _ (by omega)).mono ?_
    rintro e w12 ⟨vi, hdi, rfl, hG12, hB12⟩
    have B12 := Lib.hid (B11.out.trans (hB12.mono B11.out.size))
    have XA12 := Lib.hid (XA11.out.new hB12)
    have XB12 := Lib.hid (XB11.out.new hB12)
    have GX12 := Lib.hid (GX11.out.new hB12)
    have GY12 := Lib.hid (GY11.out.new hB12)
    have GP12 := Lib.hid (GP11.out.new hB12)
    have GZ12 := Lib.hid (GZ11.out.new hB12)
    have GL12 := Lib.hid (GL11.out.new hB12)
    have GR12 := Lib.hid (GR11.out.new hB12)
    have GQ12 := Lib.hid (GQ11.out.new hB12)
    have GI12 := Lib.hid hG12.mx
    clear hB12 B11 XA11 XB11 GX11 GY11 GP11 GZ11 GL11 GR11 GQ11 hG12
    go_wp2_with fail
    refine (Same_e vl vi (idM n) n _ (Sq.idM h1 (by omega)) GL12.out GI12.out).mono ?_
    rintro e w13 ⟨rfl, q13, hq13⟩
    have hB13 : Below w12.heap.size w12 w13 := by rw [← hq13]; exact below_drewN (Below.refl _ _) _
    have B13 := Lib.hid (B12.out.trans (hB13.mono B12.out.size))
    have XA13 := Lib.hid (XA12.out.new hB13)
    have XB13 := Lib.hid (XB12.out.new hB13)
    have GX13 := Lib.hid (GX12.out.new hB13)
    have GY13 := Lib.hid (GY12.out.new hB13)
    have GP13 := Lib.hid (GP12.out.new hB13)
    have GZ13 := Lib.hid (GZ12.out.new hB13)
    have GL13 := Lib.hid (GL12.out.new hB13)
    have GR13 := Lib.hid (GR12.out.new hB13)
    have GQ13 := Lib.hid (GQ12.out.new hB13)
    have GI13 := Lib.hid (GI12.out.new hB13)
    clear hB13 hq13 B12 XA12 XB12 GX12 GY12 GP12 GZ12 GL12 GR12 GQ12 GI12
    go_wp2_with fail
    refine (Same_e vr vl (idM n) n _ (Sq.idM h1 (by omega)) GR13.out GL13.out).mono ?_
    rintro e w14 ⟨rfl, q14, hq14⟩
    have hB14 : Below w13.heap.size w13 w14 := by rw [← hq14]; exact below_drewN (Below.refl _ _) _
    have B14 := Lib.hid (B13.out.trans (hB14.mono B13.out.size))
    have XA14 := Lib.hid (XA13.out.new hB14)
    have XB14 := Lib.hid (XB13.out.new hB14)
    have GX14 := Lib.hid (GX13.out.new hB14)
    have GY14 := Lib.hid (GY13.out.new hB14)
    have GP14 := Lib.hid (GP13.out.new hB14)
    have GZ14 := Lib.hid (GZ13.out.new hB14)
    have GL14 := Lib.hid (GL13.out.new hB14)
    have GR14 := Lib.hid (GR13.out.new hB14)
    have GQ14 := Lib.hid (GQ13.out.new hB14)
    have GI14 := Lib.hid (GI13.out.new hB14)
    clear hB14 hq14 B13 XA13 XB13 GX13 GY13 GP13 GZ13 GL13 GR13 GQ13 GI13
    go_wp2_with fail
    refine (Same_e vz vq (invRows (prodM MA MB)) n _ (SP.out.inv KP.out).1 GZ14.out GQ14.out).mono ?_
    rintro e w15 ⟨rfl, q15, hq15⟩
    have hB15 : Below w14.heap.size w14 w15 := by rw [← hq15]; exact below_drewN (Below.refl _ _) _
    have B15 := Lib.hid (B14.out.trans (hB15.mono B14.out.size))
    have XA15 := Lib.hid (XA14.out.new hB15)
    have XB15 := Lib.hid (XB14.out.new hB15)
    have GX15 := Lib.hid (GX14.out.new hB15)
    have GY15 := Lib.hid (GY14.out.new hB15)
    have GP15 := Lib.hid (GP14.out.new hB15)
    have GZ15 := Lib.hid (GZ14.out.new hB15)
    have GL15 := Lib.hid (GL14.out.new hB15)
    have GR15 := Lib.hid (GR14.out.new hB15)
    have GQ15 := Lib.hid (GQ14.out.new hB15)
    have GI15 := Lib.hid (GI14.out.new hB15)
    clear hB15 hq15 B14 XA14 XB14 GX14 GY14 GP14 GZ14 GL14 GR14 GQ14 GI14
    go_wp2_with fail
    refine (awake_any _).mono ?_
    rintro e wz ⟨rfl, hBz⟩
    have Bz := Lib.hid (B15.out.trans (hBz.mono B15.out.size))
    clear hBz
    go_wp2_with fail
    go_ret
    exact ⟨rfl, Bz.out⟩
  · have B3 := HB
    have XA3 := HXA
    have XB3 := HXB
    clear HB HXA HXB HC
    obtain ⟨ea, hea⟩ : ∃ t, invErr MA = t := ⟨_, rfl⟩
    rw [hea] at eA
    have Hea := Lib.hid hea
    clear hea
    obtain ⟨rk, hrk⟩ : ∃ t, rankOf MA = t := ⟨_, rfl⟩
    rw [hrk] at rA
    have Hrk := Lib.hid hrk
    clear hrk
    obtain ⟨eb, heb⟩ : ∃ t, invErr MB = t := ⟨_, rfl⟩
    have Heb := Lib.hid heb
    clear heb
    obtain ⟨ep, hep⟩ : ∃ t, invErr (prodM MA MB) = t := ⟨_, rfl⟩
    rw [hep] at eP
    have Hep := Lib.hid hep
    clear hep
    have tA : ((ea : Int) == 0) = false := by rw [beq_eq_false_iff_ne]; omega
    have tR : ((rk : Int) == (n : Int)) = false := by rw [beq_eq_false_iff_ne]; omega
    have tP : ((ep : Int) == 0) = false := by rw [beq_eq_false_iff_ne]; omega
    have tQ : ((ep : Int) != 0) = true := by rw [bne_iff_ne]; omega
    clear eA rA eP
    go_wp2_with fail
    refine (Invert_e u0 MA ea _ Hea.out bA SA.out.bytM XA3.out).mono ?_
    rintro e w4 ⟨vx, hdx, rfl, hG4, hB4⟩
    have B4 := Lib.hid (B3.out.trans (hB4.mono B3.out.size))
    have XA4 := Lib.hid (XA3.out.new hB4)
    have XB4 := Lib.hid (XB3.out.new hB4)
    have GX4 := Lib.hid hG4.mx
    clear hB4 B3 XA3 XB3 hG4
    go_wp2_with fail
    refine (Invert_e u1 MB eb _ Heb.out bB SB.out.bytM XB4.out).mono ?_
    rintro e w5 ⟨vy, hdy, rfl, hG5, hB5⟩
    have B5 := Lib.hid (B4.out.trans (hB5.mono B4.out.size))
    have XA5 := Lib.hid (XA4.out.new hB5)
    have XB5 := Lib.hid (XB4.out.new hB5)
    have GX5 := Lib.hid (GX4.out.new hB5)
    have GY5 := Lib.hid hG5.mx
    clear hB5 B4 XA4 XB4 GX4 hG5
    go_wp2_with fail
    refine (Rank_e u0 MA rk _ Hrk.out SA.out.rankErr bA SA.out.bytM XA5.out).mono ?_
    rintro e w6 ⟨rfl, hB6⟩
    have B6 := Lib.hid (B5.out.trans (hB6.mono B5.out.size))
    have XA6 := Lib.hid (XA5.out.new hB6)
    have XB6 := Lib.hid (XB5.out.new hB6)
    have GX6 := Lib.hid (GX5.out.new hB6)
    have GY6 := Lib.hid (GY5.out.new hB6)
    clear hB6 B5 XA5 XB5 GX5 GY5
    go_wp2_with fail
    refine (Product_e u0 u1 MA MB (prodM MA MB) n _ SA.out SB.out rfl XA6.out XB6.out).mono ?_
    rintro e w7 ⟨vp, hdp, rfl, hG7, hB7⟩
    have B7 := Lib.hid (B6.out.trans (hB7.mono B6.out.size))
    have XA7 := Lib.hid (XA6.out.new hB7)
    have XB7 := Lib.hid (XB6.out.new hB7)
    have GX7 := Lib.hid (GX6.out.new hB7)
    have GY7 := Lib.hid (GY6.out.new hB7)
    have GP7 := Lib.hid hG7.mx
    clear hB7 B6 XA6 XB6 GX6 GY6 hG7
    go_wp2_with fail
    refine (Invert_e vp (prodM MA MB) ep _ Hep.out bP SP.out.bytM GP7.out).mono ?_
    rintro e w8 ⟨vz, hdz, rfl, hG8, hB8⟩
    have B8 := Lib.hid (B7.out.trans (hB8.mono B7.out.size))
    have XA8 := Lib.hid (XA7.out.new hB8)
    have XB8 := Lib.hid (XB7.out.new hB8)
    have GX8 := Lib.hid (GX7.out.new hB8)
    have GY8 := Lib.hid (GY7.out.new hB8)
    have GP8 := Lib.hid (GP7.out.new hB8)
    have GZ8 := Lib.hid hG8.mx
    clear hB8 B7 XA7 XB7 GX7 GY7 GP7 hG8
    go_wp2_with fail
    refine (awake_any _).mono ?_
    rintro e wz ⟨rfl, hBz⟩
    have Bz := Lib.hid (B8.out.trans (hBz.mono B8.out.size))
    clear hBz
    go_wp2_with fail
    go_ret
    exact ⟨rfl, Bz.out⟩
  · have B3 := HB
    have XA3 := HXA
    have XB3 := HXB
    clear HB HXA HXB HC
    have Hea := Lib.hid eA
    have Hrk := Lib.hid rA
    obtain ⟨eb, heb⟩ : ∃ t, invErr MB = t := ⟨_, rfl⟩
    rw [heb] at eB
    have Heb := Lib.hid heb
    clear heb
    obtain ⟨ep, hep⟩ : ∃ t, invErr (prodM MA MB) = t := ⟨_, rfl⟩
    rw [hep] at eP
    have Hep := Lib.hid hep
    clear hep
    have tB : ((eb : Int) == 0) = false := by rw [beq_eq_false_iff_ne]; omega
    have tP : ((ep : Int) == 0) = false := by rw [beq_eq_false_iff_ne]; omega
    have tQ : ((ep : Int) != 0) = true := by rw [bne_iff_ne]; omega
    clear eA rA eP eB
    go_wp2_with fail
    refine (Invert_e u0 MA 0 _ Hea.out bA SA.out.bytM XA3.out).mono ?_
    rintro e w4 ⟨vx, hdx, rfl, hG4, hB4⟩
    have B4 := Lib.hid (B3.out.trans (hB4.mono B3.out.size))
    have XA4 := Lib.hid (XA3.out.new hB4)
    have XB4 := Lib.hid (XB3.out.new hB4)
    have GX4 := Lib.hid hG4.mx
    clear hB4 B3 XA3 XB3 hG4
    go_wp2_with fail
    refine (Invert_e u1 MB eb _ Heb.out bB SB.out.bytM XB4.out).mono ?_
    rintro e w5 ⟨vy, hdy, rfl, hG5, hB5⟩
    have B5 := Lib.hid (B4.out.trans (hB5.mono B4.out.size))
    have XA5 := Lib.hid (XA4.out.new hB5)
    have XB5 := Lib.hid (XB4.out.new hB5)
    have GX5 := Lib.hid (GX4.out.new hB5)
    have GY5 := Lib.hid hG5.mx
    clear hB5 B4 XA4 XB4 GX4 hG5
    go_wp2_with fail
    refine (Rank_e u0 MA n _ Hrk.out SA.out.rankErr bA SA.out.bytM XA5.out).mono ?_
    rintro e w6 ⟨rfl, hB6⟩
    have B6 := Lib.hid (B5.out.trans (hB6.mono B5.out.size))
    have XA6 := Lib.hid (XA5.out.new hB6)
    have XB6 := Lib.hid (XB5.out.new hB6)
    have GX6 := Lib.hid (GX5.out.new hB6)
    have GY6 := Lib.hid (GY5.out.new hB6)
    clear hB6 B5 XA5 XB5 GX5 GY5
    go_wp2_with fail
    refine (Product_e u0 u1 MA MB (prodM MA MB) n _ SA.out SB.out rfl XA6.out XB6.out).mono ?_
    rintro e w7 ⟨vp, hdp, rfl, hG7, hB7⟩
    have B7 := Lib.hid (B6.out.trans (hB7.mono B6.out.size))
    have XA7 := Lib.hid (XA6.out.new hB7)
    have XB7 := Lib.hid (XB6.out.new hB7)
    have GX7 := Lib.hid (GX6.out.new hB7)
    have GY7 := Lib.hid (GY6.out.new hB7)
    have GP7 := Lib.hid hG7.mx
    clear hB7 B6 XA6 XB6 GX6 GY6 hG7
    go_wp2_with fail
    refine (Invert_e vp (prodM MA MB) ep _ Hep.out bP SP.out.bytM GP7.out).mono ?_
    rintro e w8 ⟨vz, hdz, rfl, hG8, hB8⟩
    have B8 := Lib.hid (B7.out.trans (hB8.mono B7.out.size))
    have XA8 := Lib.hid (XA7.out.new hB8)
    have XB8 := Lib.hid (XB7.out.new hB8)
    have GX8 := Lib.hid (GX7.out.new hB8)
    have GY8 := Lib.hid (GY7.out.new hB8)
    have GP8 := Lib.hid (GP7.out.new hB8)
    have GZ8 := Lib.hid hG8.mx
    clear hB8 B7 XA7 XB7 GX7 GY7 GP7 hG8
    go_wp2_with fail
    refine (awake_any _).mono ?_
    rintro e wz ⟨rfl, hBz⟩
    have Bz := Lib.hid (B8.out.trans (hBz.mono B8.out.size))
    clear hBz
    go_wp2_with fail
    go_ret
    exact ⟨rfl, Bz.out⟩
end Go.Proofs.Ytpiiigeabbhdaaa
