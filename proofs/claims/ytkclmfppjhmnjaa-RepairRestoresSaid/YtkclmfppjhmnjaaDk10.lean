/- The contract of chapter 59's awake. -/
import Derived.Test.YtkclmfppjhmnjaaDk9
namespace Go.Proofs.Ytkclmfppjhmnjaa
open Go.RowKit Img Wire

/-- The 33 bytes of the example. -/
def b33 : List Nat := 3 :: (zp ++ 7 :: List.replicate 15 0)
structure Aw (b0 : Nat) (v2 v4 vs5 : Value) (r6 : Nat) (W : World) : Prop where
  p1 : Bs W v2 [3]
  p2 : Bs W v4 b33
  p3 : W.cell? ⟨b0 + 1, 0, none⟩ = some (.slice (some ⟨b0, 0, none⟩) 3 3)
  p4 : W.cell? ⟨b0 + 1, 1, none⟩ = some (.slice none 0 0)
  p5 : Pgs W (.slice (some ⟨b0, 0, none⟩) 3 3) 16 pg1
  p6 : Pgs W vs5 16 pg1
  p7 : W.cell? ⟨r6, 0, none⟩ = some vs5
  p8 : W.cell? ⟨r6, 1, none⟩ = some (.slice none 0 0)
theorem cell_new {W W' : World} (k : Below W.heap.size W W') {p : Addr} {v : Value} (h : W.cell? p = some v) : W'.cell? p = some v := (k.cell (World.block_lt_of_cell? W p h)).trans h
theorem Aw.new {b0 : Nat} {v2 v4 vs5 : Value} {r6 : Nat} {W W' : World} (h : Aw b0 v2 v4 vs5 r6 W) (k : Below W.heap.size W W') : Aw b0 v2 v4 vs5 r6 W' :=
  ⟨h.p1.new k, h.p2.new k, cell_new k h.p3, cell_new k h.p4, h.p5.new k, h.p6.new k, cell_new k h.p7, cell_new k h.p8⟩
theorem aw_start (w : World) :
    Blk ((w.alloc (.cells (z16 3) 82)).alloc (.cells #[.slice (some ⟨w.heap.size, 0, none⟩) 3 3, .slice none 0 0] 25)) w.heap.size 82 (pgc pg0) ∧
    Blk ((w.alloc (.cells (z16 3) 82)).alloc (.cells #[.slice (some ⟨w.heap.size, 0, none⟩) 3 3, .slice none 0 0] 25)) (w.heap.size + 1) 25 [.slice (some ⟨w.heap.size, 0, none⟩) 3 3, .slice none 0 0] ∧
    Below w.heap.size w ((w.alloc (.cells (z16 3) 82)).alloc (.cells #[.slice (some ⟨w.heap.size, 0, none⟩) 3 3, .slice none 0 0] 25)) := by
  refine ⟨(Blk.new w 82 (z16 3)).alloc _, ?_, ((Below.refl _ _).alloc (Nat.le_refl _) _).alloc (by simp) _⟩
  have h := Blk.new (w.alloc (.cells (z16 3) 82)) 25 #[.slice (some ⟨w.heap.size, 0, none⟩) 3 3, .slice none 0 0]
  rw [show (w.alloc (.cells (z16 3) 82)).heap.size = w.heap.size + 1 by simp] at h
  exact h
theorem pg0_16 : P16 pg0 := by unfold P16; decide
theorem pg1_16 : P16 pg1 := by unfold P16; decide
theorem pgs_blk {w : World} {g n : Nat} {l : List (List Nat)} (hb : Blk w g 82 (pgc l)) (h : P16 l) (hn : l.length = n) : Pgs w (.slice (some ⟨g, 0, none⟩) n n) 16 l :=
  ⟨_, n, by rw [hn], by omega, Or.inr ⟨g, 0, rfl, (show Blk w g 82 (l.flatten.map bv) from hb).row.page h⟩⟩
theorem pds_nil (w : World) : Pds w (.slice none 0 0) [] := ⟨none, 0, rfl, Nat.le_refl _, Or.inl rfl⟩
theorem set16 : (pgc pg0).set 16 (.int .u8 7) = pgc pg1 := rfl
theorem b33_byt : Byt b33 := by unfold Byt; decide
theorem one_bs (w : World) (x : Nat) : Bs (w.alloc (.cells #[.int .u8 x] 5)) (.slice (some ⟨w.heap.size, 0, none⟩) 1 1) [x] :=
  ⟨_, 1, rfl, Nat.le_refl _, Or.inr ⟨w.heap.size, 0, rfl, (show Blk (w.alloc (.cells #[.int .u8 x] 5)) w.heap.size 5 ([x].map bv) from Blk.new w 5 #[.int .u8 x]).row⟩⟩

theorem zeroCells_one (z : Value) (n : Nat) : Builtin.zeroCells #[z] n = (List.replicate n z).toArray := by
  apply Array.ext
  · simp [Builtin.zeroCells]
  · intro i h1 h2
    simp [Builtin.zeroCells, Nat.mod_one]
theorem apz_cells (k : Nat) : [Value.int .u8 3].toArray ++ Builtin.zeroCells (Value.cells (.int .u8 0)) 16 ++ Builtin.zeroCells (Value.cells (.int .u8 0)) k = ((3 :: List.replicate 16 0).map bv ++ List.replicate k (Value.int .u8 0)).toArray := by
  rw [show Value.cells (.int .u8 0) = #[.int .u8 0] from rfl, zeroCells_one, zeroCells_one, List.append_toArray, List.append_toArray]
  rfl
theorem apz_bs (w : World) (k c : Nat) (hc : 17 ≤ c) : Bs (w.alloc (.cells ([Value.int .u8 3].toArray ++ Builtin.zeroCells (Value.cells (.int .u8 0)) 16 ++ Builtin.zeroCells (Value.cells (.int .u8 0)) k) 5)) (.slice (some ⟨w.heap.size, 0, none⟩) 17 c) (3 :: List.replicate 16 0) := by
  refine ⟨_, c, rfl, hc, Or.inr ⟨w.heap.size, 0, rfl, ?_⟩⟩
  refine Blk.row (T := 5) ⟨List.replicate k (Value.int .u8 0), ?_⟩
  rw [apz_cells]
  show (w.heap.push _)[w.heap.size]? = _
  simp
theorem wpList_z17 {ops : Array Oper} {rest : List Oper} {o : Oper} {a : Act} {Q : Exit → Act → World → Prop} {W : World} (hgd : o.guard = none) (s x : Operand)
    (ho : o.op = .call { callee := .builtin .append, args := #[s, x], argTypes := #[26, 3] }) (hs : a.eval s = .slice (some ⟨W.heap.size, 0, none⟩) 1 1) (hx : a.eval x = .int .i64 16)
    (h : ∀ g c w', Bs w' (.slice (some ⟨g, 0, none⟩) 17 c) (3 :: List.replicate 16 0) → Below W.heap.size W w' → wpList Try.prog ops Q rest (a.put o.dst (.slice (some ⟨g, 0, none⟩) 17 c)) w') : wpList Try.prog ops Q (o :: rest) a (W.alloc (.cells #[.int .u8 3] 5)) := by
  obtain ⟨i0, hi, hz0, hz1, hz2⟩ := info_parts infoByte
  refine Lib.wpList_append_run _ hgd s x 26 3 ho _ _ hs hx _ _ (run_append_zeros (W.alloc (.cells #[.int .u8 3] 5)) 26 3 _ 5 i0 (.int .u8 0) .i64 .i64 Try.underlying26 Try.underlying3 hi hz0 16 1 1 (by decide) hz1 hz2 (by decide) (by decide) (by decide) ⟨W.heap.size, 0, none⟩ [.int .u8 3] rfl (cell1 _ _ _)) ?_
  exact h _ _ _ (apz_bs (W.alloc (.cells #[.int .u8 3] 5)).drew _ _ (grownCap_ge (W.alloc (.cells #[.int .u8 3] 5)) (1 + 16) 1 5))
    ((((Below.refl _ _).alloc (Nat.le_refl _) _).drew).alloc (by show W.heap.size ≤ (W.alloc _).heap.size; simp) _)
theorem z17_byt : Byt (3 :: List.replicate 16 0) := by unfold Byt; decide

set_option maxRecDepth 100000 in
set_option maxHeartbeats 4000000 in
theorem awake59_any (w : World) : Calls Try.prog 12 #[] w fun e w' => e = .returned (.bool true) ∧ Below w.heap.size w w' := by
  obtain ⟨i0, hi, hz0, hz1, hz2⟩ := info_parts infoByte
  have mk : ∀ w, (Instr.makeSlice 22 (.int .i64 3) (.int .i64 3)).run Try.prog w = .ok (.slice (some ⟨w.heap.size, 0, none⟩) 3 3) (w.alloc (.cells (z16 3) 82)) := fun w => mkPages 3 (by omega) w
  obtain ⟨hS, hD, hB⟩ := aw_start w
  have c0 := hD.cell (i := 0) rfl
  have c1 := hD.cell (i := 1) rfl
  have HS := Lib.hid hS
  have HD := Lib.hid hD
  have HB := Lib.hid hB
  clear hS hD hB
  go_enter Try.func12, Try.ntmps12
  go_wp2_with fail
  generalize (w.alloc (.cells (z16 3) 82)).alloc (.cells #[.slice (some ⟨w.heap.size, 0, none⟩) 3 3, .slice none 0 0] 25) = W1 at *
  refine (Image_any _ _ pg0 [] _ (pgs_blk HS.out pg0_16 rfl) pg0_16 (by decide) (pds_nil _) (by intro p hp; cases hp) (by decide)).mono ?_
  rintro e w2 ⟨v2, rfl, hO2, hB2⟩
  rw [im0.1]
  rw [im0.2] at hO2
  have HS2 := Lib.hid (HS.out.below hB2 HS.out.lt)
  have HD2 := Lib.hid (HD.out.below hB2 HD.out.lt)
  have HB2 := Lib.hid (HB.out.trans (hB2.mono HB.out.size))
  have hlt1 := HS.out.lt
  have d0 := HD2.out.cell (i := 0) rfl
  have d1 := HD2.out.cell (i := 1) rfl
  have x16 := HS2.out.cell (i := 16) (v := .int .u8 0) rfl
  have f16 := HS2.out.frozen 16
  have HS3 := Lib.hid (show Blk (w2.setCell ⟨w.heap.size, 16, none⟩ (.int .u8 7)) w.heap.size 82 (pgc pg1) from HS2.out.setCell (i := 16) (by decide) (.int .u8 7))
  have HD3 := Lib.hid (show Blk (w2.setCell ⟨w.heap.size, 16, none⟩ (.int .u8 7)) (w.heap.size + 1) 25 _ from HD2.out.setCell_other (p := ⟨w.heap.size, 16, none⟩) (by show w.heap.size + 1 ≠ w.heap.size; omega) _)
  have HB3 := Lib.hid (HB2.out.setCell (p := ⟨w.heap.size, 16, none⟩) (Nat.le_refl _) (.int .u8 7))
  have HV2 := Lib.hid (show Bs (w2.setCell ⟨w.heap.size, 16, none⟩ (.int .u8 7)) v2 [3] from
    hO2.bs.kept (S := fun k => k = w.heap.size) ((Kept.refl (fun k => k = w.heap.size) w2).setCell (p := ⟨w.heap.size, 16, none⟩) (fun _ => rfl) _) (fun g hg _ h => by have := hO2.block g hg; omega))
  obtain ⟨a2, k2, rfl⟩ := hO2.form
  clear hO2 hB2 HS HD c0 c1
  go_wp2_with fail
  generalize w2.setCell ⟨w.heap.size, 16, none⟩ (.int .u8 7) = W3 at *
  refine (Image_any _ _ pg1 [] _ (pgs_blk HS3.out pg1_16 rfl) pg1_16 (by decide) (pds_nil _) (by intro p hp; cases hp) (by decide)).mono ?_
  rintro e w4 ⟨v4, rfl, hO4, hB4⟩
  rw [im1.1]
  rw [im1.2] at hO4
  have HV4 := Lib.hid (show Bs w4 v4 b33 from hO4.bs)
  have HV24 := Lib.hid (HV2.out.new hB4)
  have HS4 := Lib.hid (HS3.out.below hB4 HS3.out.lt)
  have HD4 := Lib.hid (HD3.out.below hB4 HD3.out.lt)
  have HB4 := Lib.hid (HB3.out.trans (hB4.mono HB3.out.size))
  obtain ⟨a4, k4, hv4⟩ := hO4.form
  have hv4' : v4 = .slice a4 33 k4 := hv4
  subst hv4'
  clear hv4 hO4 hB4 HV2 HS3 HD3 HB3 d0 d1 x16 f16 HS2 HD2 HB2
  go_wp2_with fail
  refine (Restore_any _ b33 _ HV4.out b33_byt (by decide)).mono ?_
  rintro e w5 ⟨vs5, rfl, hP5, hB5⟩
  rw [show reErr b33 = 0 from re1.1]
  rw [show rePg b33 = pg1 from re1.2] at hP5
  obtain ⟨e0, e1, hB6⟩ := disk_cells w5 vs5 (.slice none 0 0)
  have hB56 := hB5.trans (hB6.mono hB5.size)
  have HD5 := HD4.out.below hB56 HD4.out.lt
  have HA := Lib.hid (show Aw w.heap.size (.slice a2 1 k2) (.slice a4 33 k4) vs5 w5.heap.size (w5.alloc (.cells #[vs5, .slice none 0 0] 25)) from
    ⟨HV24.out.new hB56, HV4.out.new hB56, HD5.cell (i := 0) rfl, HD5.cell (i := 1) rfl, pgs_blk (HS4.out.below hB56 HS4.out.lt) pg1_16 rfl, hP5.new hB6, e0, e1⟩)
  have HB6 := Lib.hid (HB4.out.trans (hB56.mono HB4.out.size))
  obtain ⟨a5, k5, hv5, _, _⟩ := hP5
  have hv5' : vs5 = .slice a5 3 k5 := hv5
  subst hv5'
  clear hv5
  clear hB5 hB6 hB56 HD5 HV24 HV4 HS4 HD4 HB4 e0 e1
  go_upto_region 6 with (fail)
  generalize w5.alloc (.cells #[.slice a5 3 k5, .slice none 0 0] 25) = W6 at *
  go_wp2_with (at_builtin; refine wpList_z17 rfl _ _ rfl rfl rfl ?_)
  intro g7 c7 w7 hV7 hB7
  have HV7 := Lib.hid hV7
  have HA7 := Lib.hid (HA.out.new hB7)
  have HB7 := Lib.hid (HB6.out.trans (hB7.mono HB6.out.size))
  clear hV7 hB7 HA HB6
  go_wp2_with fail
  refine (Restore_any _ (3 :: List.replicate 16 0) _ HV7.out z17_byt (by decide)).mono ?_
  rintro e w8 ⟨vs8, rfl, hP8, hB8⟩
  rw [re2]
  rw [rePg_no re2 (by decide)] at hP8
  obtain ⟨_, _, hB9⟩ := disk_cells w8 vs8 (.slice none 0 0)
  have hB89 := hB8.trans (hB9.mono hB8.size)
  have HA9 := Lib.hid (HA7.out.new hB89)
  have HB9 := Lib.hid (HB7.out.trans (hB89.mono HB7.out.size))
  obtain ⟨a8, k8, hv8, _, _⟩ := hP8
  have hv8' : vs8 = .slice a8 0 k8 := hv8
  subst hv8'
  clear hv8
  clear hB8 hB9 hB89 HA7 HB7 HV7
  go_upto_region 7 with (fail)
  generalize w8.alloc (.cells #[.slice a8 0 k8, .slice none 0 0] 25) = W9 at *
  have hB10 := (Below.refl W9.heap.size W9).alloc (Nat.le_refl _) (.cells #[.int .u8 0] 5)
  have HV10 := Lib.hid (one_bs W9 0)
  have HA10 := Lib.hid (HA9.out.new hB10)
  have HB10 := Lib.hid (HB9.out.trans (hB10.mono HB9.out.size))
  clear hB10 HA9 HB9
  go_wp2_with fail
  refine (Restore_any _ [0] _ HV10.out (by unfold Byt; decide) (by decide)).mono ?_
  rintro e w11 ⟨vs11, rfl, hP11, hB11⟩
  rw [re3]
  rw [rePg_no re3 (by decide)] at hP11
  obtain ⟨_, _, hB12⟩ := disk_cells w11 vs11 (.slice none 0 0)
  have hB112 := hB11.trans (hB12.mono hB11.size)
  have HA12 := Lib.hid (HA10.out.new hB112)
  have HB12 := Lib.hid (HB10.out.trans (hB112.mono HB10.out.size))
  obtain ⟨a11, k11, hv11, _, _⟩ := hP11
  have hv11' : vs11 = .slice a11 0 k11 := hv11
  subst hv11'
  clear hv11 hB11 hB12 hB112 HA10 HB10 HV10
  go_upto_region 8 with (fail)
  generalize w11.alloc (.cells #[.slice a11 0 k11, .slice none 0 0] 25) = W12 at *
  have hB13 := (Below.refl W12.heap.size W12).alloc (Nat.le_refl _) (.cells #[.int .u8 3] 5)
  have HV13 := Lib.hid (one_bs W12 3)
  have HA13 := Lib.hid (HA12.out.new hB13)
  have HB13 := Lib.hid (HB12.out.trans (hB13.mono HB12.out.size))
  clear hB13 HA12 HB12
  go_wp2_with fail
  refine (bEqual_any _ _ [3] [3] _ HA13.out.p1 HV13.out (by unfold Byt; decide) (by unfold Byt; decide)).mono ?_
  rintro e w14 ⟨rfl, rfl⟩
  generalize W12.alloc (.cells #[.int .u8 3] 5) = W13 at *
  obtain ⟨b4, o4, rfl, h4⟩ : ∃ b4 o4, a4 = some ⟨b4, o4, none⟩ ∧ RowAt W13 b4 o4 b33 := by
    obtain ⟨a', c', e1, _, e3⟩ := HA13.out.p2
    simp only [Value.slice.injEq] at e1
    rcases e3 with h | ⟨b, o, ha, h⟩
    · cases h
    · exact ⟨b, o, by rw [e1.1, ha], h⟩
  have y0 := h4 0 3 rfl
  have y17 := h4 17 7 rfl
  rw [Nat.add_zero] at y0
  unfold bv at y0 y17
  have z0 := HA13.out.p3
  have z1 := HA13.out.p4
  have z2 := HA13.out.p7
  have z3 := HA13.out.p8
  rw [show decide (([3] : List Nat) = [3]) = true from rfl]
  clear h4
  go_wp2_with fail
  refine (Same48_nil _ _ pg1 pg1 _ HA13.out.p6 HA13.out.p5 pg1_16 pg1_16 (by decide)).mono ?_
  rintro e w15 ⟨rfl, hB15⟩
  rw [show decide (pg1 = pg1) = true from decide_eq_true rfl]
  have HB15 := Lib.hid (HB13.out.trans (hB15.mono HB13.out.size))
  clear hB15
  go_wp2_with fail
  go_ret
  exact ⟨rfl, HB15.out⟩
end Go.Proofs.Ytkclmfppjhmnjaa
