/- The examples of the chapter: what awake returns. -/
import Derived.Test.YtkclmfppjhmnjaaB42
import Derived.Test.YtkclmfppjhmnjaaB18
import Derived.Test.YtkclmfppjhmnjaaB41
namespace Go.Proofs.Ytkclmfppjhmnjaa
open Go.RowKit Wire Vol Crc Go.Maps

theorem byt_small {l : List Nat} (h : (l.all fun x => decide (x < 256)) = true) : Byt l := fun x hx => of_decide_eq_true (List.all_eq_true.1 h x hx)
theorem byt_nil : Byt [] := fun x hx => by simp at hx
theorem HdOk.ofBs {w : World} {g c : Nat} {l : List Nat} (hn : l.length ≤ c) (h : Bs w (.slice (some ⟨g, 0, none⟩) l.length c) l) : HdOk w (.slice (some ⟨g, 0, none⟩) l.length c) l := by
  obtain ⟨a, k, hv, _, hr⟩ := h
  simp only [Value.slice.injEq] at hv
  obtain ⟨rfl, _, rfl⟩ := hv
  exact ⟨_, c, rfl, hn, hr, by simp⟩
theorem GM.loads {w : World} {B : Nat} {v : Value} {hd : List (Nat × Nat)} {m : List (List Nat)} (h : GM w B v hd m) (hm : m ≠ []) : ∃ bo cap, v = .slice (some ⟨bo, 0, none⟩) m.length cap ∧ B ≤ bo ∧ bo < w.heap.size ∧ m.length ≤ cap ∧
    ∀ i r, m[i]? = some r → ∃ g c, w.cell? ⟨bo, i, none⟩ = some (.slice (some ⟨g, 0, none⟩) r.length c) ∧ r.length ≤ c ∧ Bs w (.slice (some ⟨g, 0, none⟩) r.length c) r := by
  obtain ⟨bo, cap, hv, h1, _, hO⟩ := h.done hm
  refine ⟨bo, cap, hv, hO.obase, hO.outer.lt, h1, fun i r hr => ?_⟩
  have hi : i < hd.length := by rw [h.len]; exact (List.getElem?_eq_some_iff.1 hr).1
  have hp := getD_some (d := (0, 0)) hi
  obtain ⟨k1, _, k3⟩ := h.rows i _ r hp hr
  exact ⟨_, _, hO.outer.cell (hvs_get hp hr), k3, _, _, rfl, k3, Or.inr ⟨_, 0, rfl, k1.row⟩⟩

set_option maxRecDepth 100000 in
set_option maxHeartbeats 4000000 in
theorem awake55_any (w : World) : Calls Try.prog 24 #[] w fun e w' => e = .returned (.bool true) ∧ Below w.heap.size w w' := by
  go_enter Try.func24, Try.ntmps24
  go_wp2_with fail
  have B0 := Lib.hid (al w (.cells #[.int .u8 5, .int .u8 6, .int .u8 7] 5))
  have S0 := Lib.hid (bs_new w [5, 6, 7])
  have Z0 := Lib.hid (vSplit_any (.slice (some ⟨w.heap.size, 0, none⟩) 3 3) [5, 6, 7] 2 1 _ S0.out (byt_small (by decide)) (by decide) (by decide) (by decide) (by decide) (by decide))
  refine Z0.out.mono ?_
  rintro e w1 ⟨v1, hd1, rfl, hG, hB⟩
  rw [aw_s]
  obtain ⟨b1, k1, rfl, hb1, hb1', hk1, hR⟩ := hG.loads (by intro h; have := aw_l; rw [h] at this; simp at this)
  rw [aw_l] at hk1 ⊢
  obtain ⟨VBm, VLl⟩ := aw_bm
  have VL := aw_l
  have A1 := aw_1
  have A2 := aw_2
  have AJ := aw_j
  obtain ⟨V, hVd⟩ : ∃ V, spL [5, 6, 7] 2 1 = V := ⟨_, rfl⟩
  rw [hVd] at hR VBm VLl VL A1 A2 AJ
  have g0 := getD_some (l := V) (d := []) (i := 0) (by omega)
  have g1 := getD_some (l := V) (d := []) (i := 1) (by omega)
  have g2 := getD_some (l := V) (d := []) (i := 2) (by omega)
  obtain ⟨x0, y0, c0, z0, s0⟩ := hR 0 _ g0
  obtain ⟨x1, y1, c1, z1, s1⟩ := hR 1 _ g1
  obtain ⟨x2, y2, c2, z2, s2⟩ := hR 2 _ g2
  have P0 := Lib.hid (And.intro (VBm _ (List.mem_of_getElem? g0)) (VLl _ (List.mem_of_getElem? g0)))
  have P1 := Lib.hid (And.intro (VBm _ (List.mem_of_getElem? g1)) (VLl _ (List.mem_of_getElem? g1)))
  have P2 := Lib.hid (And.intro (VBm _ (List.mem_of_getElem? g2)) (VLl _ (List.mem_of_getElem? g2)))
  generalize V.getD 0 [] = V0 at *
  generalize V.getD 1 [] = V1 at *
  generalize V.getD 2 [] = V2 at *
  obtain ⟨q, hq⟩ : ∃ q, crc 0 [5, 6, 7] = q := ⟨_, rfl⟩
  rw [hq] at A1
  have Hq := Lib.hid hq
  have A1 := Lib.hid A1
  have A2 := Lib.hid A2
  have AJ := Lib.hid AJ
  have B1 := Lib.hid (B0.out.trans (hB.mono B0.out.size))
  have C0 := Lib.hid c0
  have C1 := Lib.hid c1
  have C2 := Lib.hid c2
  have S0' := Lib.hid s0
  have S1' := Lib.hid s1
  have S2' := Lib.hid s2
  clear hq Z0 S0 B0 hG hB hR VBm VLl VL hVd g0 g1 g2 c0 c1 c2 s0 s1 s2 V hd1
  go_wp2_with fail
  refine (vSplit_any (.slice none 0 0) [] 1 0 _ (bs_nil _) byt_nil (by decide) (by decide) (by decide) (by decide) (by decide)).mono ?_
  rintro e w2 ⟨v2, hd2, rfl, hG, hB⟩
  rw [aw_n.1]
  obtain ⟨nE, nL, n10⟩ := aw_n
  have nB := aw_nb
  obtain ⟨b2, k2, rfl, hb2, hb2', hk2, hR⟩ := hG.loads (by intro h; rw [h] at nL; simp at nL)
  have nl1 : (spL [] 1 0).length = 1 := by rw [nL]; rfl
  rw [nl1] at hk2 ⊢
  have g0 := getD_some (l := spL [] 1 0) (d := []) (i := 0) (by omega)
  have n6 : ((spL [] 1 0).getD 0 []).take 6 = [0, 0, 1, 0, 0, 0] := by rw [nL]; rfl
  obtain ⟨xn, yn, cn, zn, sn⟩ := hR 0 _ g0
  have PN := Lib.hid (nB _ (List.mem_of_getElem? g0))
  generalize (spL [] 1 0).getD 0 [] = N at *
  have hB2 := Lib.hid (B1.out.trans (hB.mono B1.out.size))
  have hB12 := Lib.hid hB
  have c0 := cell_nw hB C0.out hb1'
  have c1 := cell_nw hB C1.out hb1'
  have c2 := cell_nw hB C2.out hb1'
  have S0 := Lib.hid (S0'.out.new hB)
  have S1 := Lib.hid (S1'.out.new hB)
  have S2 := Lib.hid (S2'.out.new hB)
  have hb1w := Nat.lt_of_lt_of_le hb1' hB.size
  have N10 := Lib.hid n10
  rw [n10] at cn zn sn
  have i6 : (6 : Int) ≤ (yn : Int) := by omega
  have t10 : ((10 : Int) != 10) = false := rfl
  have N6 := Lib.hid n6
  have SN := Lib.hid sn
  have Bn := Lib.hid (al w2 (.cells #[.int .u8 0, .int .u8 0, .int .u8 1, .int .u8 0, .int .u8 0, .int .u8 0] 5))
  clear nE nL n10 nB hG hR hB nl1 g0 n6 sn S0' S1' S2' C0 C1 C2 hb1' hB12
  go_wp2_with fail
  refine (bEqual_any _ _ (N.take 6) [0, 0, 1, 0, 0, 0] _ (Bs.take (SN.out.new Bn.out) (by rw [N10.out]; decide)) (by exact bs_new w2 [0, 0, 1, 0, 0, 0]) (fun x hx => PN.out x (List.mem_of_mem_take hx)) (byt_small (by decide))).mono ?_
  rintro e w3 ⟨rfl, hw3⟩
  rw [N6.out]
  have hB23 : Below w2.heap.size w2 w3 := by rw [← hw3]; exact Bn.out
  have d0 := cell_nw hB23 c0 hb1w
  have d1 := cell_nw hB23 c1 hb1w
  have d2 := cell_nw hB23 c2 hb1w
  have T0 := Lib.hid (S0.out.new hB23)
  have T1 := Lib.hid (S1.out.new hB23)
  have T2 := Lib.hid (S2.out.new hB23)
  have B3 := Lib.hid (hB2.out.trans (hB23.mono hB2.out.size))
  have hb3 := Nat.lt_of_lt_of_le hb1w hB23.size
  have te : decide ([0, 0, 1, 0, 0, 0] = ([0, 0, 1, 0, 0, 0] : List Nat)) = true := rfl
  rw [te]
  clear c0 c1 c2 S0 S1 S2 hB2 hb1w hB23 hw3 N6 N10 SN Bn PN cn zn i6 te
  go_wp2_with fail
  refine (vHeader_any _ V1 _ T1.out P1.out.1 (by have := P1.out.2; omega)).mono ?_
  rintro e w4 ⟨vp, rfl, hOp, hB4⟩
  rw [A1.out.2.1, A1.out.1]
  have hOp2 := hOp.bs
  rw [A1.out.2.2] at hOp2
  obtain ⟨pa, pk, rfl, _⟩ := hOp2
  have hN5 : Blk (w4.alloc (.cells #[.int .u32 q, .int .i64 1, .int .i64 2, .int .i64 1, .int .i64 3] 54)) w4.heap.size 54 (hdL (q, 1, 2, 1, 3)) := Blk.new w4 54 (hdL (q, 1, 2, 1, 3)).toArray
  have hB45 := hB4.trans ((al w4 (.cells #[.int .u32 q, .int .i64 1, .int .i64 2, .int .i64 1, .int .i64 3] 54)).mono hB4.size)
  have c0 := cell_nw hB45 d0 hb3
  have c2 := cell_nw hB45 d2 hb3
  have S0 := Lib.hid (T0.out.new hB45)
  have S2 := Lib.hid (T2.out.new hB45)
  have Sp := Lib.hid (by have := hOp.bs; rw [A1.out.2.2] at this; exact this.new (al w4 (.cells #[.int .u32 q, .int .i64 1, .int .i64 2, .int .i64 1, .int .i64 3] 54)))
  have B5 := Lib.hid (B3.out.trans (hB45.mono B3.out.size))
  have hb5 := Nat.lt_of_lt_of_le hb3 hB45.size
  have N5 := Lib.hid hN5
  clear d0 d1 d2 T0 T1 T2 hb3 hB4 hB45 hN5 hOp A1
  unfold hdV hdL
  go_wp2_with fail
  generalize w4.alloc (.cells #[.int .u32 q, .int .i64 1, .int .i64 2, .int .i64 1, .int .i64 3] 54) = W5 at *
  generalize w4.heap.size = g5 at *
  refine (vHeader_any _ V2 _ S2.out P2.out.1 (by have := P2.out.2; omega)).mono ?_
  rintro e w6 ⟨vq, rfl, hOq, hB6⟩
  rw [A2.out.1]
  have hOq2 := hOq.bs
  rw [A2.out.2] at hOq2
  obtain ⟨qa, qk, rfl, _⟩ := hOq2
  obtain ⟨⟨r1, r2, r3, r4, r5⟩, hr⟩ : ∃ r, hdOf V2 = r := ⟨_, rfl⟩
  rw [hr]
  have hB67 := hB6.trans ((al w6 (.cells #[.int .u32 r1, .int .i64 r2, .int .i64 r3, .int .i64 r4, .int .i64 r5] 54)).mono hB6.size)
  have d0 := cell_nw hB67 c0 hb5
  have d2 := cell_nw hB67 c2 hb5
  have T0 := Lib.hid (S0.out.new hB67)
  have T2 := Lib.hid (S2.out.new hB67)
  have Tp := Lib.hid (Sp.out.new hB67)
  have Tq := Lib.hid (by have := hOq.bs; rw [A2.out.2] at this; exact this.new (al w6 (.cells #[.int .u32 r1, .int .i64 r2, .int .i64 r3, .int .i64 r4, .int .i64 r5] 54)))
  have B7 := Lib.hid (B5.out.trans (hB67.mono B5.out.size))
  have hb7 := Nat.lt_of_lt_of_le hb5 hB67.size
  have N7 := Lib.hid (N5.out.below hB67 N5.out.lt)
  clear c0 c2 S0 S2 Sp hb5 hB6 hB67 hOq hr N5
  unfold hdV hdL
  go_wp2_with fail
  generalize w6.alloc (.cells #[.int .u32 r1, .int .i64 r2, .int .i64 r3, .int .i64 r4, .int .i64 r5] 54) = W7 at *
  generalize w6.heap.size = g7 at *
  have HA := Lib.hid (show Below W7.heap.size W7 (W7.drew.alloc (.cells #[.slice (some ⟨x2, 0, none⟩) V2.length y2, .slice (some ⟨x0, 0, none⟩) V0.length y0] 26)) from ((Below.refl W7.heap.size W7).drew).trans (al W7.drew _))
  have HMx := Lib.hid (show Mx (W7.drew.alloc (.cells #[.slice (some ⟨x2, 0, none⟩) V2.length y2, .slice (some ⟨x0, 0, none⟩) V0.length y0] 26)) (.slice (some ⟨W7.heap.size, 0, none⟩) 2 2) [V2, V0] from
    HdsOk.mx (m := [V2, V0]) (vs := [.slice (some ⟨x2, 0, none⟩) V2.length y2, .slice (some ⟨x0, 0, none⟩) V0.length y0]) (cap := 2) (T := 26)
      ((HdsOk.one (HdOk.ofBs z2 (T2.out.new HA.out))).append (HdsOk.one (HdOk.ofBs z0 (T0.out.new HA.out)))) (Blk.new W7.drew 26 _) (by simp))
  have HBm := Lib.hid (show BytM [V2, V0] from fun r hr => by
    simp only [List.mem_cons, List.not_mem_nil, or_false] at hr
    rcases hr with h | h
    · rw [h]; exact P2.out.1
    · rw [h]; exact P0.out.1)
  have HLm := Lib.hid (show ∀ b ∈ [V2, V0], b.length ≤ 100000000 from fun r hr => by
    have h2 := P2.out.2
    have h0 := P0.out.2
    simp only [List.mem_cons, List.not_mem_nil, or_false] at hr
    rcases hr with h | h <;> rw [h] <;> omega)
  clear z0 z1 z2
  go_region_held3 (fun w' => w'.cell? ⟨b1, 2, none⟩ = some (.slice (some ⟨x2, 0, none⟩) V2.length y2) ∧ w'.cell? ⟨b1, 0, none⟩ = some (.slice (some ⟨x0, 0, none⟩) V0.length y0))
    (first
      | exact ⟨cell_nw HB8.out d2 hb7, cell_nw HB8.out d0 hb7⟩
      | exact ⟨cell_nw HA.out d2 hb7, cell_nw HA.out d0 hb7⟩
      | exact ⟨d2, d0⟩)
    (first
      | (go_at_call 32
         refine (vJoin_any _ [V2, V0] _ HMx.out HBm.out (by simp) HLm.out).mono ?_
         rintro e w8 ⟨vj, rfl, hS8, hB8⟩
         rw [AJ.out.1]
         rw [AJ.out.2] at hS8
         have HS8 := Lib.hid hS8
         have HB8 := Lib.hid (HA.out.trans (hB8.mono HA.out.size))
         obtain ⟨ja, jk, rfl, _⟩ := hS8
         clear hB8))
  have B8 := Lib.hid (B7.out.trans (HB8.out.mono B7.out.size))
  have Up := Lib.hid (Tp.out.new HB8.out)
  have Uq := Lib.hid (Tq.out.new HB8.out)
  have N8 := Lib.hid (N7.out.below HB8.out N7.out.lt)
  clear d0 d2 T0 T2 Tp Tq HB8 HA HMx HBm HLm hb7 N7 AJ
  go_wp2_with fail
  have k0 := N8.out.cell (i := 0) rfl
  have k1' := N8.out.cell (i := 1) rfl
  have k2' := N8.out.cell (i := 2) rfl
  have k3 := N8.out.cell (i := 3) rfl
  have k4 := N8.out.cell (i := 4) rfl
  have hg5 := N8.out.lt
  have hng := noGuardV
  have heq : ∀ w : World, (Op.equalIn 10000 54 (.agg #[.int .u32 q, .int .i64 1, .int .i64 2, .int .i64 1, .int .i64 3]) (.agg #[.int .u32 q, .int .i64 1, .int .i64 2, .int .i64 1, .int .i64 3])).run Try.prog w = .ok true w := fun w => by
    have h := eqIn_hd 9998 q 1 2 1 3 q 1 2 1 3 w
    simpa using h
  have HA9 := Lib.hid (show Below w8.heap.size w8 (w8.drew.alloc (.cells #[.int .u8 5, .int .u8 6, .int .u8 7] 5)) from ((Below.refl w8.heap.size w8).drew).trans (al w8.drew _))
  go_region_held3 (fun w' => w'.cell? ⟨g5, 0, none⟩ = some (.int .u32 (q : Nat)) ∧ w'.cell? ⟨g5, 1, none⟩ = some (.int .i64 1) ∧ w'.cell? ⟨g5, 2, none⟩ = some (.int .i64 2) ∧ w'.cell? ⟨g5, 3, none⟩ = some (.int .i64 1) ∧ w'.cell? ⟨g5, 4, none⟩ = some (.int .i64 3))
    (first
      | exact ⟨cell_nw HBE3.out k0 hg5, cell_nw HBE3.out k1' hg5, cell_nw HBE3.out k2' hg5, cell_nw HBE3.out k3 hg5, cell_nw HBE3.out k4 hg5⟩
      | exact ⟨cell_nw HBX3.out k0 hg5, cell_nw HBX3.out k1' hg5, cell_nw HBX3.out k2' hg5, cell_nw HBX3.out k3 hg5, cell_nw HBX3.out k4 hg5⟩
      | exact ⟨cell_nw HBE2.out k0 hg5, cell_nw HBE2.out k1' hg5, cell_nw HBE2.out k2' hg5, cell_nw HBE2.out k3 hg5, cell_nw HBE2.out k4 hg5⟩
      | exact ⟨cell_nw HBX2.out k0 hg5, cell_nw HBX2.out k1' hg5, cell_nw HBX2.out k2' hg5, cell_nw HBX2.out k3 hg5, cell_nw HBX2.out k4 hg5⟩
      | exact ⟨cell_nw HBM.out k0 hg5, cell_nw HBM.out k1' hg5, cell_nw HBM.out k2' hg5, cell_nw HBM.out k3 hg5, cell_nw HBM.out k4 hg5⟩
      | exact ⟨cell_nw HBE1.out k0 hg5, cell_nw HBE1.out k1' hg5, cell_nw HBE1.out k2' hg5, cell_nw HBE1.out k3 hg5, cell_nw HBE1.out k4 hg5⟩
      | exact ⟨cell_nw HBX1.out k0 hg5, cell_nw HBX1.out k1' hg5, cell_nw HBX1.out k2' hg5, cell_nw HBX1.out k3 hg5, cell_nw HBX1.out k4 hg5⟩
      | exact ⟨cell_nw HB9.out k0 hg5, cell_nw HB9.out k1' hg5, cell_nw HB9.out k2' hg5, cell_nw HB9.out k3 hg5, cell_nw HB9.out k4 hg5⟩
      | exact ⟨cell_nw HA9.out k0 hg5, cell_nw HA9.out k1' hg5, cell_nw HA9.out k2' hg5, cell_nw HA9.out k3 hg5, cell_nw HA9.out k4 hg5⟩
      | exact ⟨k0, k1', k2', k3, k4⟩)
    (first
      | (go_at_call 29
         refine (cSum_any _ [5, 6, 7] _ (by exact bs_new w8.drew [5, 6, 7]) (byt_small (by decide)) (by decide)).mono ?_
         rintro e w9 ⟨rfl, hB9⟩
         rw [Hq.out]
         have HB9 := Lib.hid (HA9.out.trans (hB9.mono HA9.out.size))
         have HBX1 := Lib.hid (HB9.out.trans ((al w9 (.cells #[.int .u8 7, .int .u8 0] 5)).mono HB9.out.size))
         have Up9 := Lib.hid (Up.out.new HBX1.out)
         clear hB9)
      | (go_at_call 17
         refine (bEqual_any _ _ [7, 0] [7, 0] _ (by exact Up9.out) (by exact bs_new w9 [7, 0]) (byt_small (by decide)) (byt_small (by decide))).mono ?_
         rintro e wE1 ⟨rfl, hwE1⟩
         rw [show decide ([7, 0] = ([7, 0] : List Nat)) = true from rfl]
         have HBE1 := Lib.hid (show Below w8.heap.size w8 wE1 by rw [← hwE1]; exact HBX1.out)
         clear hwE1)
      | (go_at_call 48
         refine (Mul_any 142 7 _ (by decide) (by decide)).mono ?_
         rintro e wM ⟨rfl, hBM⟩
         rw [aw_m]
         have HBM := Lib.hid (HBE1.out.trans (hBM.mono HBE1.out.size))
         have HBX2 := Lib.hid (HBM.out.trans ((al wM (.cells #[.int .u8 136, .int .u8 6] 5)).mono HBM.out.size))
         have UqM := Lib.hid (Uq.out.new HBX2.out)
         clear hBM)
      | (go_at_call 17
         refine (bEqual_any _ _ [136, 6] [136, 6] _ (by exact UqM.out) (by exact bs_new wM [136, 6]) (byt_small (by decide)) (byt_small (by decide))).mono ?_
         rintro e wE2 ⟨rfl, hwE2⟩
         rw [show decide ([136, 6] = ([136, 6] : List Nat)) = true from rfl]
         have HBE2 := Lib.hid (show Below w8.heap.size w8 wE2 by rw [← hwE2]; exact HBX2.out)
         have HBX3 := Lib.hid (HBE2.out.trans ((al wE2 (.cells #[.int .u8 5, .int .u8 6, .int .u8 7] 5)).mono HBE2.out.size))
         have Uj3 := Lib.hid (HS8.out.new HBX3.out)
         clear hwE2)
      | (go_at_call 17
         refine (bEqual_any _ _ [5, 6, 7] [5, 6, 7] _ (by exact Uj3.out) (by exact bs_new wE2 [5, 6, 7]) (byt_small (by decide)) (byt_small (by decide))).mono ?_
         rintro e wE3 ⟨rfl, hwE3⟩
         rw [show decide ([5, 6, 7] = ([5, 6, 7] : List Nat)) = true from rfl]
         have HBE3 := Lib.hid (show Below w8.heap.size w8 wE3 by rw [← hwE3]; exact HBX3.out)
         clear hwE3))
  have BZ := Lib.hid (B8.out.trans (HBE3.out.mono B8.out.size))
  go_wp2_with fail
  go_ret
  exact ⟨rfl, BZ.out⟩
end Go.Proofs.Ytkclmfppjhmnjaa
