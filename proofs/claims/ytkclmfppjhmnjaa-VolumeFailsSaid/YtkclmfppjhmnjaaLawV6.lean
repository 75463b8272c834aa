/- The walk of the law VolumeFails. -/
import Derived.Test.YtkclmfppjhmnjaaB43
import Derived.Test.YtkclmfppjhmnjaaB45
namespace Go.Proofs.Ytkclmfppjhmnjaa
open Go.RowKit Wire Vol Crc Alg

set_option maxRecDepth 100000 in
set_option maxHeartbeats 8000000 in
theorem VolumeFails_walk (v : Value) (l : List Nat) (x y : Nat) (s : Value) (lost : List Nat) (p q : Nat) (rev : Bool) (w : World) (h : Bs w v l) (hB : Byt l) (_hl : l.length ≤ maxLen) (_hx : x < 256) (_hy : y < 256) (hs : Bs w s lost) (hsB : Byt lost) (_hsL : lost.length ≤ maxLen) (hp : p < 256) (hq : q < 256) :
    Calls Try.prog 10 #[v, .agg #[.int .u8 x, .int .u8 y], .agg #[s, .int .u8 p, .int .u8 q, .bool rev]] w fun e w' => e = .returned (.bool true) ∧ Below w.heap.size w w' := by
  obtain ⟨a, cap, rfl, hc, hrl⟩ := h
  obtain ⟨sa, sc, rfl, hsc, hrs⟩ := hs
  have h : Bs w (.slice a l.length cap) l := ⟨a, cap, rfl, hc, hrl⟩
  have hs : Bs w (.slice sa lost.length sc) lost := ⟨sa, sc, rfl, hsc, hrs⟩
  have hB1 := al w (.cells #[.int .u8 x, .int .u8 y] 67)
  have hB2 := hB1.trans ((al (w.alloc (.cells #[.int .u8 x, .int .u8 y] 67)) (.cells #[.slice sa lost.length sc, .int .u8 p, .int .u8 q, .bool rev] 75)).mono hB1.size)
  have hz1 : (w.alloc (.cells #[.int .u8 x, .int .u8 y] 67)).heap.size = w.heap.size + 1 := by simp
  have hbx : Blk (w.alloc (.cells #[.int .u8 x, .int .u8 y] 67)) w.heap.size 67 [.int .u8 x, .int .u8 y] := Blk.new w 67 [.int .u8 x, .int .u8 y].toArray
  have hbx2 := hbx.alloc (.cells #[.slice sa lost.length sc, .int .u8 p, .int .u8 q, .bool rev] 75)
  have hlx : Blk ((w.alloc (.cells #[.int .u8 x, .int .u8 y] 67)).alloc (.cells #[.slice sa lost.length sc, .int .u8 p, .int .u8 q, .bool rev] 75)) (w.heap.size + 1) 75 [.slice sa lost.length sc, .int .u8 p, .int .u8 q, .bool rev] := by
    rw [← hz1]
    exact Blk.new (w.alloc (.cells #[.int .u8 x, .int .u8 y] 67)) 75 [.slice sa lost.length sc, .int .u8 p, .int .u8 q, .bool rev].toArray
  have H := Lib.hid (h.new hB2)
  have HSs := Lib.hid (hs.new hB2)
  have HBy := Lib.hid hB
  have HsB := Lib.hid hsB
  have BX := Lib.hid hB2
  have c0 := hbx2.cell (i := 0) rfl
  have c1 := hbx2.cell (i := 1) rfl
  have HLx := Lib.hid hlx
  have hzz := hlx.lt
  have HA := Lib.hid (awake55_any ((w.alloc (.cells #[.int .u8 x, .int .u8 y] 67)).alloc (.cells #[.slice sa lost.length sc, .int .u8 p, .int .u8 q, .bool rev] 75)))
  clear hB hsB hbx hbx2 hlx hB1 hB2 hrl hrs h hs hz1
  by_cases h3 : 60 < l.length
  · have t1 : decide ((60 : Int) < (l.length : Int)) = true := by simp; omega
    clear h3
    go_enter Try.func10, Try.ntmps10
    go_wp2_with fail
    refine HA.out.mono ?_
    rintro e w1 ⟨rfl, hB1⟩
    have HB1 := Lib.hid (BX.out.trans (hB1.mono BX.out.size))
    clear hB1
    go_wp2_with fail
    go_ret
    exact ⟨rfl, HB1.out⟩
  have t1 : decide ((60 : Int) < (l.length : Int)) = false := by simp; omega
  have HL := Lib.hid (show l.length ≤ 60 by omega)
  clear h3
  by_cases h4 : 20 < lost.length
  · have t2 : decide ((20 : Int) < (lost.length : Int)) = true := by simp; omega
    clear h4
    go_enter Try.func10, Try.ntmps10
    go_wp2_with fail
    refine HA.out.mono ?_
    rintro e w1 ⟨rfl, hB1⟩
    have HB1 := Lib.hid (BX.out.trans (hB1.mono BX.out.size))
    clear hB1
    go_wp2_with fail
    go_ret
    exact ⟨rfl, HB1.out⟩
  have t2 : decide ((20 : Int) < (lost.length : Int)) = false := by simp; omega
  have HLs := Lib.hid (show lost.length ≤ 20 by omega)
  clear h4 HA
  go_enter Try.func10, Try.ntmps10
  go_wp2_with fail
  generalize (w.alloc (.cells #[.int .u8 x, .int .u8 y] 67)).alloc (.cells #[.slice sa lost.length sc, .int .u8 p, .int .u8 q, .bool rev] 75) = W0 at *
  clear t1 t2
  go_region_held3 (fun w' => w'.cell? ⟨w.heap.size, 0, none⟩ = some (.int .u8 (x : Nat)) ∧ w'.cell? ⟨w.heap.size, 1, none⟩ = some (.int .u8 (y : Nat)))
    (first
      | exact ⟨c0, c1⟩)
    (fail)
  clear c0 c1
  have e1 : IntKind.i64.wrap (IntKind.i64.wrap ((x : Int).tmod 6) + 1) = ((x % 6 + 1 : Nat) : Int) := by
    have h6 : (x : Int).tmod 6 = ((x % 6 : Nat) : Int) := rfl
    have h7 : IntKind.i64.wrap ((x % 6 : Nat) : Int) = ((x % 6 : Nat) : Int) := IntWalk.i64_in _ (by omega)
    rw [h6, h7]
    exact IntWalk.i64_in _ (by omega)
  have e2 : IntKind.i64.wrap ((y : Int).tmod 5) = ((y % 5 : Nat) : Int) := by
    have h5 : (y : Int).tmod 5 = ((y % 5 : Nat) : Int) := rfl
    rw [h5]
    exact IntWalk.i64_in _ (by omega)
  rw [e1, e2]
  obtain ⟨d, hdd⟩ : ∃ d, x % 6 + 1 = d := ⟨_, rfl⟩
  obtain ⟨r, hrr⟩ : ∃ r, y % 5 = r := ⟨_, rfl⟩
  have hd1 : 1 ≤ d := by omega
  have hd6 : d ≤ 6 := by omega
  have hr4 : r ≤ 4 := by omega
  rw [hdd, hrr]
  have hbad : ¬ spBad ((d : Nat) : Int) ((r : Nat) : Int) := by unfold spBad; omega
  obtain ⟨vl, vb, vs'⟩ := vol_ok HBy.out HL.out hd1 (show d + r ≤ 64 by omega)
  have HSp := Lib.hid (spErr_ok (b := l) (d := d) (r := r) (by have := HL.out; omega) hbad (fun z hz => by have := vs' z hz; omega))
  have HVl := Lib.hid vl
  have HVb := Lib.hid vb
  have HVs := Lib.hid vs'
  have HVr := Lib.hid (show ∀ z ∈ volL l d r, Byt z ∧ 1 ≤ z.length ∧ z.length ≤ 1000 from fun z hz => by
    obtain ⟨i, hi⟩ := List.mem_iff_getElem?.1 hz
    have := vol_at HBy.out HL.out hd1 (show d + r ≤ 64 by omega) hi
    exact ⟨this.2.2.2.2.2.1, this.2.2.2.2.2.2.1, by have := this.2.2.2.2.2.2.2.1; omega⟩)
  clear e1 e2 hdd hrr hbad vl vb vs'
  go_wp2_with fail
  refine (vSplit_any _ l (d : Nat) (r : Nat) _ (bs_drew H.out) HBy.out (by have := HL.out; omega) (by omega) (by omega) (by omega) (by omega)).mono ?_
  rintro e w1 ⟨v1, hd1', rfl, hG, hB⟩
  rw [HSp.out.1]
  rw [HSp.out.2] at hG
  have hB' : Below W0.heap.size W0 w1 := ((Below.refl W0.heap.size W0).drew).trans (show Below W0.heap.size W0.drew w1 from hB)
  obtain ⟨b1, k1, rfl, hk1, _, hOM⟩ := (show GM w1 W0.heap.size v1 hd1' (volL l d r) from hG).done (by intro e; have := HVl.out; rw [e] at this; simp at this; omega)
  have HG := Lib.hid hG
  have hLx1 := HLx.out.below hB' hzz
  have M1 := Lib.hid hLx1.range
  have B1 := Lib.hid (BX.out.trans (hB'.mono BX.out.size))
  have H1 := Lib.hid (H.out.new hB')
  have hlose := lose_any b1 k1 (volL l d r) (hvs hd1' (volL l d r)) (.slice sa lost.length sc) lost p q (d + r - 1) rev w1 hG.hdsT (fun i u hu => hOM.outer.cell hu) (HSs.out.new hB') HsB.out (by have := HLs.out; omega) hp hq (by rw [HVl.out]; omega) (by rw [HVl.out]; omega) hk1 (by omega) HVr.out
  rw [HVl.out] at hlose
  rw [show ((d + r - 1 : Nat) : Int) = (d : Int) + (r : Int) - 1 by omega] at hlose
  have hgo := goTo_ok (n := d + r) (most := (d + r - 1)) (by omega) lost lost.length
  obtain ⟨G, hGd⟩ : ∃ G, goTo (d + r) (d + r - 1) lost lost.length = G := ⟨_, rfl⟩
  rw [hGd] at hlose hgo
  obtain ⟨L, hLd⟩ : ∃ L, turn rev (leftTo (volL l d r) G p q (d + r)) = L := ⟨_, rfl⟩
  have HAn := Lib.hid (left_answers rev HBy.out HL.out hd1 (show d + r ≤ 64 by omega) hq hgo (by omega) hLd)
  have hok := leftTo_ok (g := G) (p := p) rev HBy.out HL.out hd1 (show d + r ≤ 64 by omega) hq
  rw [hLd] at hlose hok
  have HLo := Lib.hid hlose
  have HOk := Lib.hid hok
  have hGl := hgo.le
  have hgo' := hgo
  rw [HVl.out]
  clear hG hB hB' hOM hlose hok hgo hGd hLd HLx hzz H HSs HSp HVr BX hLx1
  have t3 : (((d + r : Nat) : Int) != (d : Int) + (r : Int)) = false := by rw [bne_eq_false_iff_eq]; omega
  go_wp2_with (first
    | ((with_reducible show wpList _ _ _ (Oper.mk _ (Op.load 75 (.tmp 5)) _ _ _ _ :: _) _ _); refine wpList_load_mid rfl 75 (.tmp 5) rfl (w.heap.size + 1) 0 rfl [.slice sa lost.length sc, .int .u8 p, .int .u8 q, .bool rev] _ M1.out Try.underlying75 rfl sizeLoss ?_))
  clear t3
  refine HLo.out.mono ?_
  rintro e w2 ⟨vo, vg, rfl, hX2, hI2, hB2⟩
  have HG2 := Lib.hid (HG.out.new hB2)
  have B2 := Lib.hid (B1.out.trans (hB2.mono B1.out.size))
  have H2 := Lib.hid (H1.out.new hB2)
  have HX2 := Lib.hid hX2
  have HI2 := Lib.hid hI2
  obtain ⟨oa, oc, rfl, _⟩ := hX2
  obtain ⟨ga, gc, rfl⟩ := hI2.form
  clear hB2 hI2 HG B1 H1 HLo M1
  have hFG : ((List.range (d + r)).filter fun i => decide (i ∈ G)).length = G.length := (gone_perm hgo').length_eq
  rw [hFG]
  by_cases t4 : r < G.length
  rotate_left
  · have HA := Lib.hid (awake55_any w2)
    have t5 : decide ((G.length : Int) ≤ (r : Int)) = true := by simp; omega
    clear HAn
    go_wp2_with fail
    refine HA.out.mono ?_
    rintro e w9 ⟨rfl, hB9⟩
    have B9 := Lib.hid (B2.out.trans (hB9.mono B2.out.size))
    clear hB9 HA
    go_wp2_with fail
    go_ret
    exact ⟨rfl, B9.out⟩
  have t5 : decide ((G.length : Int) ≤ (r : Int)) = false := by simp; omega
  obtain ⟨n1, n2, n3, n4, n5, n6⟩ := HAn.out
  rw [if_pos t4] at n2 n3 n4 n5
  have N1 := Lib.hid n1
  have N2 := Lib.hid n2
  have N3 := Lib.hid n3
  have N4 := Lib.hid n4
  have N5 := Lib.hid n5
  have N6 := Lib.hid n6
  clear n1 n2 n3 n4 n5 n6 HAn
  clear t5
  have t5 : decide ((G.length : Int) ≤ (r : Int)) = false := by simp; omega
  go_wp2_with fail
  refine (vJoin_any _ L _ HX2.out HOk.out.1 (by have := HOk.out.2.2; omega) (fun b hb => by have := HOk.out.2.1 b hb; omega)).mono ?_
  rintro e w3 ⟨vj, rfl, hS3, hB3⟩
  rw [N2.out]
  rw [N3.out] at hS3
  have HS3 := Lib.hid hS3
  have HX3 := Lib.hid (HX2.out.new hB3)
  have HI3 := Lib.hid (HI2.out.new hB3)
  have HG3 := Lib.hid (HG2.out.new hB3)
  have H3 := Lib.hid (H2.out.new hB3)
  have B3 := Lib.hid (B2.out.trans (hB3.mono B2.out.size))
  obtain ⟨ja, jk, rfl, _⟩ := hS3
  clear hB3 HX2 HI2 HG2 H2 B2
  go_wp2_with fail
  refine (vRepair_any _ L _ HX3.out HOk.out.1 (by have := HOk.out.2.2; omega) (fun b hb => by have := HOk.out.2.1 b hb; omega)).mono ?_
  rintro e w4 ⟨vr, hd4, rfl, hR4, hB4⟩
  rw [N4.out]
  rw [N5.out] at hR4
  have HR4 := Lib.hid hR4.mx
  have HS4 := Lib.hid (HS3.out.new hB4)
  have HX4 := Lib.hid (HX3.out.new hB4)
  have HI4 := Lib.hid (HI3.out.new hB4)
  have HG4 := Lib.hid (HG3.out.new hB4)
  have H4 := Lib.hid (H3.out.new hB4)
  have B4 := Lib.hid (B3.out.trans (hB4.mono B3.out.size))
  obtain ⟨ra, rc, rfl⟩ := owns_slice hR4.outer
  clear hB4 hR4 HX3 HI3 HG3 H3 B3 HS3
  go_wp2_with fail
  refine (vMissing_any _ L _ HX4.out HOk.out.1 (by have := HOk.out.2.2; omega) (fun b hb => by have := HOk.out.2.1 b hb; omega)).mono ?_
  rintro e w5 ⟨vm, rfl, hM5, hB5⟩
  rw [N1.out]
  rw [N6.out] at hM5
  have HM5 := Lib.hid hM5
  have HR5 := Lib.hid (HR4.out.new hB5)
  have HS5 := Lib.hid (HS4.out.new hB5)
  have HI5 := Lib.hid (HI4.out.new hB5)
  have HG5 := Lib.hid (HG4.out.new hB5).mx
  have H5 := Lib.hid (H4.out.new hB5)
  have B5 := Lib.hid (B4.out.trans (hB5.mono B4.out.size))
  have HFl := Lib.hid (show ((List.range (d + r)).filter fun i => decide (i ∈ G)).length ≤ 1000000000 from by
    have := List.length_filter_le (fun i => decide (i ∈ G)) (List.range (d + r))
    rw [List.length_range] at this
    omega)
  obtain ⟨ma, mk, rfl⟩ := hM5.form
  rw [hFG]
  rw [hFG] at HM5 HI5
  generalize ((List.range (d + r)).filter fun i => decide (i ∈ G)) = F at *
  clear hB5 hM5 HX4 HI4 HG4 H4 B4 HS4 HR4
  go_wp2_with fail
  have HM7 := HM5
  have HI7 := HI5
  have B7 := B5
  refine (Equal_io HM7.out HI7.out HFl.out).mono ?_
  rintro e w8 ⟨rfl, hB8⟩
  have B8 := Lib.hid (B7.out.trans (hB8.mono B7.out.size))
  have HA := Lib.hid (awake55_any w8)
  clear hB8 HM7 HI7 B7
  go_wp2_with fail
  refine HA.out.mono ?_
  rintro e w9 ⟨rfl, hB9⟩
  have B9 := Lib.hid (B8.out.trans (hB9.mono B8.out.size))
  clear hB9 HA
  go_wp2_with fail
  go_ret
  exact ⟨rfl, B9.out⟩
end Go.Proofs.Ytkclmfppjhmnjaa
