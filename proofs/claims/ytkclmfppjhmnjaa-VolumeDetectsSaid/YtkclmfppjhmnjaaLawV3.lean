/- The walk of the law VolumeDetects. -/
import Derived.Test.YtkclmfppjhmnjaaB43
import Derived.Test.YtkclmfppjhmnjaaB41
import Derived.Test.YtkclmfppjhmnjaaLawV2
namespace Go.Proofs.Ytkclmfppjhmnjaa
open Go.RowKit Wire Vol Crc

theorem Bs.row0 {w : World} {g c : Nat} {l : List Nat} (h : Bs w (.slice (some ⟨g, 0, none⟩) l.length c) l) (h0 : l ≠ []) : RowAt w g 0 l := by
  obtain ⟨a, k, hv, _, hr⟩ := h
  simp only [Value.slice.injEq] at hv
  obtain ⟨rfl, _, rfl⟩ := hv
  rcases hr with hr | ⟨b, o, ha, hr⟩
  · exact absurd hr h0
  · simp only [Option.some.injEq, Addr.mk.injEq] at ha
    obtain ⟨rfl, rfl, _⟩ := ha
    exact hr

set_option maxRecDepth 100000 in
set_option maxHeartbeats 4000000 in
theorem VolumeDetects_walk (v : Value) (l : List Nat) (x y z by' : Nat) (w : World) (h : Bs w v l) (hB : Byt l) (_hl : l.length ≤ maxLen) (_hx : x < 256) (_hy : y < 256) (hz : z < 256) (hb : by' < 256) : Calls Try.prog 7 #[v, .agg #[.int .u8 x, .int .u8 y, .int .u8 z], .int .u8 by'] w fun e w' => e = .returned (.bool true) ∧ Below w.heap.size w w' := by
  have hBx := al w (.cells #[.int .u8 x, .int .u8 y, .int .u8 z] 63)
  have hbx : Blk (w.alloc (.cells #[.int .u8 x, .int .u8 y, .int .u8 z] 63)) w.heap.size 63 [.int .u8 x, .int .u8 y, .int .u8 z] := Blk.new w 63 [.int .u8 x, .int .u8 y, .int .u8 z].toArray
  have H := Lib.hid (h.new hBx)
  have HBy := Lib.hid hB
  have BX := Lib.hid hBx
  have c0 := hbx.cell (i := 0) rfl
  have c1 := hbx.cell (i := 1) rfl
  have c2 := hbx.cell (i := 2) rfl
  obtain ⟨a, cap, rfl, hc, _⟩ := h
  by_cases h3 : 60 < l.length ∨ by' = 0
  · have HA := Lib.hid (awake55_any (w.alloc (.cells #[.int .u8 x, .int .u8 y, .int .u8 z] 63)))
    by_cases h4 : 60 < l.length
    · have t1 : decide ((60 : Int) < (l.length : Int)) = true := by simp; omega
      clear hB h3 h4 hBx
      go_enter Try.func7, Try.ntmps7
      go_wp2_with fail
      refine HA.out.mono ?_
      rintro e w1 ⟨rfl, hB1⟩
      have HB1 := Lib.hid (BX.out.trans (hB1.mono BX.out.size))
      clear hB1
      go_wp2_with fail
      go_ret
      exact ⟨rfl, HB1.out⟩
    · obtain rfl : by' = 0 := by omega
      have t1 : decide ((60 : Int) < (l.length : Int)) = false := by simp; omega
      clear hB h3 h4 hBx
      go_enter Try.func7, Try.ntmps7
      go_wp2_with fail
      refine HA.out.mono ?_
      rintro e w1 ⟨rfl, hB1⟩
      have HB1 := Lib.hid (BX.out.trans (hB1.mono BX.out.size))
      clear hB1
      go_wp2_with fail
      go_ret
      exact ⟨rfl, HB1.out⟩
  · have t1 : decide ((60 : Int) < (l.length : Int)) = false := by simp; omega
    have t2 : ((by' : Int) == 0) = false := by rw [beq_eq_false_iff_ne]; omega
    have HL := Lib.hid (show l.length ≤ 60 by omega)
    have Hb := Lib.hid (And.intro hb (show by' ≠ 0 by omega))
    clear hB h3 hBx
    go_enter Try.func7, Try.ntmps7
    go_wp2_with fail
    generalize w.alloc (.cells #[.int .u8 x, .int .u8 y, .int .u8 z] 63) = W0 at *
    go_region_held3 (fun w' => w'.cell? ⟨w.heap.size, 0, none⟩ = some (.int .u8 (x : Nat)) ∧ w'.cell? ⟨w.heap.size, 1, none⟩ = some (.int .u8 (y : Nat)))
      (first
        | exact ⟨c0, c1⟩)
      (fail)
    have e1 : IntKind.i64.wrap (IntKind.i64.wrap ((x : Int).tmod 6) + 1) = ((x % 6 + 1 : Nat) : Int) := by
      have h6 : (x : Int).tmod 6 = ((x % 6 : Nat) : Int) := rfl
      have h7 : IntKind.i64.wrap ((x % 6 : Nat) : Int) = ((x % 6 : Nat) : Int) := IntWalk.i64_in _ (by omega)
      rw [h6, h7]
      exact IntWalk.i64_in _ (by omega)
    have e2 : IntKind.i64.wrap ((y : Int).tmod 5) = ((y % 5 : Nat) : Int) := by
      have h5 : (y : Int).tmod 5 = ((y % 5 : Nat) : Int) := rfl
      rw [h5]
      exact IntWalk.i64_in _ (by omega)
    rw [e1, e2]
    obtain ⟨d, hdd⟩ : ∃ d, x % 6 + 1 = d := ⟨_, rfl⟩
    obtain ⟨r, hrr⟩ : ∃ r, y % 5 = r := ⟨_, rfl⟩
    have hd1 : 1 ≤ d := by omega
    have hd6 : d ≤ 6 := by omega
    have hr4 : r ≤ 4 := by omega
    rw [hdd, hrr]
    have C2 := Lib.hid c2
    have hz0 : w.heap.size < W0.heap.size := World.block_lt_of_cell? _ _ c2
    have hbad : ¬ spBad ((d : Nat) : Int) ((r : Nat) : Int) := by unfold spBad; omega
    have hsp := spErr_ok (b := l) (d := d) (r := r) (by have := HL.out; omega) hbad (fun z hz => by
      obtain ⟨i, hi⟩ := List.mem_iff_getElem?.1 hz
      have := (vol_at HBy.out HL.out hd1 (by omega) hi).2.2.2.2.2.2.2.1
      omega)
    have HS := Lib.hid hsp
    have hVl : (volL l d r).length = d + r := by rw [volL_length, (allM_rect HBy.out (by have := HL.out; omega) hd1 (by omega)).2]
    have HVl := Lib.hid hVl
    clear e1 e2 hdd hrr c0 c1 c2 hbad hsp hVl hbx
    go_wp2_with fail
    refine (vSplit_any _ l (d : Nat) (r : Nat) _ (bs_drew H.out) HBy.out (by have := HL.out; omega) (by omega) (by omega) (by omega) (by omega)).mono ?_
    rintro e w1 ⟨v1, hd1', rfl, hG, hB⟩
    rw [HS.out.1]
    rw [HS.out.2] at hG
    have HVV := Lib.hid (fun i X (hX : (volL l d r)[i]? = some X) => vol_at HBy.out HL.out hd1 (show d + r ≤ 64 by omega) hX)
    generalize volL l d r = V at *
    obtain ⟨b1, k1, rfl, hb1, hb1', hk1, hR⟩ := hG.loads (by intro e; have := HVl.out; rw [e] at this; simp at this; omega)
    have hBw : Below W0.heap.size W0 w1 := ((Below.refl W0.heap.size W0).drew).trans (show Below W0.heap.size W0.drew w1 from hB)
    have c2 := cell_nw hBw C2.out hz0
    have hz1 := Nat.lt_of_lt_of_le hz0 hBw.size
    have B1 := Lib.hid (BX.out.trans (hBw.mono BX.out.size))
    have H1 := Lib.hid (H.out.new hBw)
    have HR := Lib.hid hR
    have C2' := Lib.hid c2
    rw [HVl.out] at hk1 ⊢
    have t3 : (((d + r : Nat) : Int) != (d : Int) + (r : Int)) = false := by rw [bne_eq_false_iff_eq]; omega
    clear hG hB hBw hR HS C2 c2 hz0 BX H hd1'
    go_wp2_with fail
    go_loopg [56] (d + r) (fun gk i wr => ∃ k : Nat, k + gk = d + r ∧ i = .int .i64 k ∧ Hid (Below w1.heap.size w1 wr))
    case atStart => exact ⟨0, by omega, rfl, Below.refl _ _⟩
    case round =>
      obtain ⟨k, hgk, rfl, hB⟩ := hrel
      have Hgk := Lib.hid hgk
      have hk : k ≤ d + r := by omega
      clear hgk
      by_cases hlt : k < d + r
      · have hkr := getD_some (l := V) (d := []) (show k < V.length by rw [HVl.out]; exact hlt)
        obtain ⟨g, c, hcell, hlc, hBs⟩ := HR.out k _ hkr
        obtain ⟨_, q2, q3, _, q5, q6, q7, q8, q9⟩ := HVV.out k _ hkr
        generalize V.getD k [] = X at *
        have x1 := cell_nw hB.out hcell hb1'
        have S1 := Lib.hid (hBs.new hB.out)
        have SL := Lib.hid (H1.out.new hB.out)
        have hz := Nat.lt_of_lt_of_le hz1 hB.out.size
        have D2 := Lib.hid (cell_nw hB.out C2'.out hz1)
        have Q2 := Lib.hid (And.intro q2 q3)
        have Q5 := Lib.hid q5
        have Q6 := Lib.hid q6
        have Q9 := Lib.hid q9
        have i1 : (0 : Int) ≤ (k : Int) := by omega
        have i2 : (k : Int) < ((d + r : Nat) : Int) := by omega
        have t4 : ((X.length : Int) == 0) = false := by rw [beq_eq_false_iff_ne]; omega
        clear hkr hcell hBs q2 q3 q5 q6 q9
        go_wp2_with fail
        refine (vHeader_any _ X _ S1.out Q6.out (by omega)).mono ?_
        rintro e w4 ⟨vp, rfl, hOp, hB4⟩
        rw [Q2.out.1, Q2.out.2]
        obtain ⟨pa, pk, rfl⟩ := hOp.form
        rw [Q5.out]
        obtain ⟨q, hq⟩ : ∃ q, crc 0 l = q := ⟨_, rfl⟩
        have Hq := Lib.hid hq
        rw [hq]
        have hN5 : Blk (w4.alloc (.cells #[.int .u32 q, .int .i64 k, .int .i64 d, .int .i64 r, .int .i64 l.length] 54)) w4.heap.size 54 (hdL (q, k, d, r, l.length)) := Blk.new w4 54 (hdL (q, k, d, r, l.length)).toArray
        have hB45 := hB4.trans ((al w4 (.cells #[.int .u32 q, .int .i64 k, .int .i64 d, .int .i64 r, .int .i64 l.length] 54)).mono hB4.size)
        have B5 := Lib.hid (hB.out.trans (hB45.mono hB.out.size))
        have S5 := Lib.hid (S1.out.new hB45)
        have SL5 := Lib.hid (SL.out.new hB45)
        have E2 := Lib.hid (cell_nw hB45 D2.out hz)
        have hz5 := Nat.lt_of_lt_of_le hz hB45.size
        have k0 := hN5.cell (i := 0) rfl
        have k1' := hN5.cell (i := 1) rfl
        have k4 := hN5.cell (i := 4) rfl
        have hg5 := hN5.lt
        clear hq hN5 hB45 hOp hB4 Q2 S1 SL D2 x1
        unfold hdV hdL
        go_wp2_with fail
        generalize w4.alloc (.cells #[.int .u32 q, .int .i64 k, .int .i64 d, .int .i64 r, .int .i64 l.length] 54) = W5 at *
        generalize w4.heap.size = g5 at *
        have z1 : ¬ ((d : Int) = 0) := by omega
        have z3 : ¬ (d = 0) := by omega
        have z0 : ((d : Int) == 0) = false := by rw [beq_eq_false_iff_ne]; omega
        obtain ⟨qq, hqq⟩ : ∃ qq, (l.length + d - 1) / d = qq := ⟨_, rfl⟩
        have e5 : ((l.length : Int) + (d : Int) - 1) / (d : Int) = (qq : Int) := by rw [← hqq, Int.natCast_ediv]; congr 1; omega
        have e6 : Int.tdiv ((l.length : Int) + (d : Int) - 1) (d : Int) = (qq : Int) := by rw [← e5]; exact Int.tdiv_eq_ediv_of_nonneg (by omega)
        have hqs : qq ≤ l.length + d - 1 := by rw [← hqq]; exact Nat.div_le_self _ _
        have hll := HL.out
        have w1' : IntKind.i64.wrap ((l.length : Int) + (d : Int)) = (l.length : Int) + (d : Int) := IntWalk.i64_in _ (by omega)
        have w2' : IntKind.i64.wrap ((l.length : Int) + (d : Int) - 1) = (l.length : Int) + (d : Int) - 1 := IntWalk.i64_in _ (by omega)
        have w3' : IntKind.i64.wrap (Int.tdiv ((l.length : Int) + (d : Int) - 1) (d : Int)) = (qq : Int) := by rw [e6]; exact IntWalk.i64_in _ (by omega)
        have t5 : ((szP l.length d : Int) != max (1 : Int) (qq : Int)) = false := by
          rw [bne_eq_false_iff_eq]; unfold szP; rw [hqq]; omega
        have t6 : ((k : Int) != (k : Int)) = false := by simp
        have t7 : ((l.length : Int) != (l.length : Int)) = false := by simp
        have t8 : ((q : Int) != (q : Int)) = false := by simp
        have w4' : IntKind.i64.wrap (qq : Int) = (qq : Int) := IntWalk.i64_in _ (by omega)
        clear hqq
        generalize szP l.length d = sz at *
        go_region_held3 (fun w' => w'.cell? ⟨g5, 0, none⟩ = some (.int .u32 (q : Nat)) ∧ w'.cell? ⟨g5, 1, none⟩ = some (.int .i64 (k : Nat)) ∧ w'.cell? ⟨g5, 4, none⟩ = some (.int .i64 (l.length : Nat)))
          (first
            | exact ⟨cell_nw HB6.out k0 hg5, cell_nw HB6.out k1' hg5, cell_nw HB6.out k4 hg5⟩
            | exact ⟨k0, k1', k4⟩)
          (first
            | (go_at_call 29
               refine (cSum_any (.slice a l.length cap) l _ (bs_drew SL5.out) HBy.out (by have := HL.out; omega)).mono ?_
               rintro e w6 ⟨rfl, hB6'⟩
               rw [Hq.out]
               have HB6 := Lib.hid (((Below.refl W5.heap.size W5).drew).trans (show Below W5.heap.size W5.drew w6 from hB6'))
               clear hB6'))
        have B6 := Lib.hid (B5.out.trans (HB6.out.mono B5.out.size))
        have F2 := Lib.hid (cell_nw HB6.out E2.out hz5)
        have hz6 := Nat.lt_of_lt_of_le hz5 HB6.out.size
        have R6 := Lib.hid ((S5.out.new HB6.out).row0 (by intro e; rw [e] at q7; simp at q7))
        clear k0 k1' k4 hg5 HB6 S5 SL5 E2 hz5 B5 e5 e6 hqs t5 t6 t7 t8 z0 z1 z3 Hq w1' w2' w3' w4'
        go_wp2_with fail
        refine (Clone_any g 0 X c _ (by omega) R6).mono ?_
        rintro e w7 ⟨g7, k7, rfl, hg7, hl7, _, hb7, hB7⟩
        have hz7 := Nat.lt_of_lt_of_le hz6 hB7.size
        have G2 := cell_nw hB7 F2.out hz6
        have B7 := Lib.hid (B6.out.trans (hB7.mono B6.out.size))
        obtain ⟨j, hj⟩ : ∃ j, z % X.length = j := ⟨_, rfl⟩
        have hjl : j < X.length := by rw [← hj]; exact Nat.mod_lt _ (by omega)
        have e7 : (z : Int).tmod (X.length : Int) = (j : Int) := by rw [← hj]; rfl
        have e8 : (z : Int) % (X.length : Int) = (j : Int) := by rw [← hj]; rfl
        have G3 : w7.cell? ⟨g7, j, none⟩ = some (.int .u8 (X.getD j 0 : Nat)) := hb7.cell (by rw [List.getElem?_map, getD_some (d := 0) hjl]; rfl)
        have hxb := Q6.out.getD j
        have hbb := Hb.out.1
        have e9 : bits .xor .u8 (X.getD j 0 : Int) (by' : Int) = ((X.getD j 0 ^^^ by' : Nat) : Int) := xor_u8 _ _ hxb hbb
        have Hq10 := Lib.hid (Q9.out j by' hbb Hb.out.2 hjl)
        have hxl : X.getD j 0 ^^^ by' < 256 := Nat.xor_lt_two_pow (n := 8) hxb hbb
        have Hset := Lib.hid (show Blk (w7.setCell ⟨g7, j, none⟩ (bv (X.getD j 0 ^^^ by'))) g7 5 ((X.set j (X.getD j 0 ^^^ by')).map bv) from by
          rw [List.map_set]; exact hb7.setCell (by rw [List.length_map]; exact hjl) _)
        have Hfr := hb7.frozen j
        have hg0 : w1.heap.size ≤ g7 := by have := B6.out.size; omega
        have B8 := Lib.hid (show Below w1.heap.size w1 (w7.setCell ⟨g7, j, none⟩ (bv (X.getD j 0 ^^^ by'))) from B7.out.setCell hg0 _)
        have i3 : (0 : Int) ≤ (j : Int) := by omega
        have i4 : (j : Int) < (X.length : Int) := by omega
        have HXb := Lib.hid (show Byt (X.set j (X.getD j 0 ^^^ by')) from fun q hq => by
          rcases List.mem_or_eq_of_mem_set hq with h | h
          · exact Q6.out q h
          · rw [h]; exact hxl)
        clear hb7 hB7 hj F2 Q9
        obtain ⟨y0, hy0⟩ : ∃ y0, X.getD j 0 = y0 := ⟨_, rfl⟩
        rw [hy0] at G3 e9 Hq10 Hset B8 HXb
        clear hy0 hxb hxl
        go_wp2_with fail
        refine (vHeader_any (.slice (some ⟨g7, 0, none⟩) X.length k7) (X.set j (y0 ^^^ by')) _ ⟨_, k7, by rw [List.length_set], by rw [List.length_set]; exact hl7, Or.inr ⟨g7, 0, rfl, Hset.out.row⟩⟩ HXb.out (by rw [List.length_set]; omega)).mono ?_
        rintro e w9 ⟨vq, rfl, hOq, hB9⟩
        obtain ⟨no1, no2⟩ := hdErr_no Hq10.out (by decide)
        rw [no1, Hq10.out]
        rw [no2] at hOq
        obtain ⟨qa, qk, rfl⟩ := hOq.form
        have B9 := Lib.hid (B8.out.trans (hB9.mono B8.out.size))
        have B10 := Lib.hid (B9.out.alloc B9.out.size (.cells #[.int .u32 0, .int .i64 0, .int .i64 0, .int .i64 0, .int .i64 0] 54))
        clear hOq hB9 no1 no2 Hq10 B8 B9 HXb Hset
        unfold hdV hdL hd0
        go_wp2_with fail
        go_roundg (d + r - k - 1)
        case measure => have := Hgk.out; omega
        case rel => exact ⟨k + 1, by have := Hgk.out; omega, by go_num, B10.out⟩
      · obtain rfl : k = d + r := by omega
        have BW := Lib.hid (B1.out.trans (hB.out.mono B1.out.size))
        have HA := Lib.hid (awake55_any wr)
        go_wp2_with fail
        refine HA.out.mono ?_
        rintro e w6 ⟨rfl, hB6⟩
        have B6 := Lib.hid (BW.out.trans (hB6.mono BW.out.size))
        clear hB6 HA BW
        go_wp2_with fail
        go_ret
        exact ⟨rfl, B6.out⟩
end Go.Proofs.Ytkclmfppjhmnjaa
