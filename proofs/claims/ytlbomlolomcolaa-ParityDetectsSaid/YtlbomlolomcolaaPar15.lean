/- The contract of parity.Consistent. -/
import Derived.Test.YtlbomlolomcolaaPar14
namespace Go.Proofs.Ytlbomlolomcolaa
open Go.RowKit Go.Shelf

attribute [local go_sem] Oper.semAt_some

/-- Are the parts, those that are not lost, the rows of another list? -/
def conB (parts out : List (List Nat)) : Bool := (List.range parts.length).all fun i => decide (1 ≤ plen parts i → parts.getD i [] = out.getD i [])
def conRes (parts : List (List Nat)) (data : Int) : Bool := decide (wErr parts data = 0) && conB parts (wRows parts data)
def BoolErr (b : Bool) (e : Nat) (w : World) : Ending → World → Prop := fun x w' => x = .returned (.tuple #[.bool b, .int .i64 e]) ∧ Below w.heap.size w w'

theorem conB_no {parts out : List (List Nat)} {i : Nat} (h1 : i < parts.length) (h2 : 1 ≤ plen parts i) (h : parts.getD i [] ≠ out.getD i []) : conB parts out = false := by
  unfold conB
  rw [List.all_eq_false]
  exact ⟨i, List.mem_range.2 h1, by simpa [h2] using h⟩
theorem conB_yes {parts out : List (List Nat)} (h : ∀ i, i < parts.length → 1 ≤ plen parts i → parts.getD i [] = out.getD i []) : conB parts out = true := by
  unfold conB
  rw [List.all_eq_true]
  exact fun i hi => decide_eq_true (h i (List.mem_range.1 hi))

/-- What holds between two rounds of Consistent's loop. -/
structure CoI (parts : List (List Nat)) (w W1 : World) (z bo B6 n co : Nat) (out : List (List Nat)) (pre : List (PI parts)) (W : World) : Prop where
  ok : ∀ x ∈ pre, parts.getD x.1 [] = out.getD x.1 []
  K : Below w.heap.size w W
  sz : W1.heap.size ≤ W.heap.size
  k4 : Blk W w.heap.size 4 [.bool false]
  k5 : Blk W (w.heap.size + 1) 29 [.int .i64 0]
  k6 : Blk W B6 39 [.slice (some ⟨bo, 0, none⟩) n co]
  om : ∃ hd, OM W z bo hd out
structure CoX (parts : List (List Nat)) (w : World) (out : List (List Nat)) (c : Code) (_ : List (PI parts)) (W : World) : Prop where
  c : c = .ret
  no : conB parts out = false
  K : Below w.heap.size w W
  k4 : Blk W w.heap.size 4 [.bool false]
  k5 : Blk W (w.heap.size + 1) 29 [.int .i64 0]

theorem CoI.own (parts : List (List Nat)) (w W1 : World) (z bo B6 n co : Nat) (out : List (List Nat)) (hw : w.heap.size ≤ W1.heap.size) : OwnFrom W1.heap.size (CoI parts w W1 z bo B6 n co out) := by
  rintro s W W' row ⟨h0, h1, h2, h4, h5, h6, hd, h7⟩ hg hr
  have hr' : ∀ r, row = some r → ∃ o : Obj, W.heap[r]? = some o ∧ o.isCells = false := fun r e => (hr r e).2
  exact ⟨h0, h1.grown hg (by omega) fun k e => by have := (hr k e).1; omega, by have := hg.size; omega, h4.kept (Kept.of_grown hg) (blk_turn h4 hg hr'), h5.kept (Kept.of_grown hg) (blk_turn h5 hg hr'), h6.kept (Kept.of_grown hg) (blk_turn h6 hg hr'), hd, h7.turn hg hr'⟩
theorem CoX.own (parts : List (List Nat)) (w W1 : World) (out : List (List Nat)) (hw : w.heap.size ≤ W1.heap.size) (c : Code) : OwnFrom W1.heap.size (CoX parts w out c) := by
  rintro s W W' row ⟨h0, h1, h2, h4, h5⟩ hg hr
  have hr' : ∀ r, row = some r → ∃ o : Obj, W.heap[r]? = some o ∧ o.isCells = false := fun r e => (hr r e).2
  exact ⟨h0, h1, h2.grown hg (by have := h2.size; omega) fun k e => by have := (hr k e).1; omega, h4.kept (Kept.of_grown hg) (blk_turn h4 hg hr'), h5.kept (Kept.of_grown hg) (blk_turn h5 hg hr')⟩

theorem CoI.step {parts : List (List Nat)} {w W1 : World} {z bo B6 n co : Nat} {out : List (List Nat)} {pre : List (PI parts)} {W W' : World} (h : CoI parts w W1 z bo B6 n co out pre W) (x : PI parts) (he : parts.getD x.1 [] = out.getD x.1 []) (hB : Below W.heap.size W W') : CoI parts w W1 z bo B6 n co out (pre ++ [x]) W' := by
  obtain ⟨h0, h1, h2, h4, h5, h6, hd, h7⟩ := h
  have hz := h1.size
  have hs := hB.size
  refine ⟨fun y hy => ?_, h1.trans (hB.mono hz), by omega, h4.below hB h4.lt, h5.below hB h5.lt, h6.below hB h6.lt, hd, h7.new hB⟩
  rcases List.mem_append.1 hy with hy | hy
  · exact h0 y hy
  · rw [List.mem_singleton.1 hy]; exact he

theorem wRows_ok {parts : List (List Nat)} {data : Int} (hE : wErr parts data = 0) (hBy : BytM parts) (hlo : longB parts = false) (hmi : misB parts = false) : BytM (wRows parts data) ∧ ∀ i, i < (wRows parts data).length → ((wRows parts data).getD i []).length ≤ 1000000000 := by
  obtain ⟨_, hP⟩ := wRows_length hE
  obtain ⟨q1, q2, q3, q4⟩ := parErr_in hP
  have hW : wholeErr parts data.toNat = 0 := by unfold wErr at hE; rw [if_pos hP] at hE; exact hE
  have hd : data.toNat ≤ (pidx parts).length := by
    unfold wholeErr at hW
    by_cases h : (pidx parts).length < data.toNat
    · rw [if_pos h] at hW; simp at hW
    · omega
  have e : wRows parts data = wholeM parts data.toNat := by unfold wRows wholeRows; rw [if_pos hP, if_pos hW]
  have hne : pidx parts ≠ [] := by intro h; rw [h] at hd; simp at hd; omega
  obtain ⟨x, hx⟩ : ∃ x, x ∈ piTo parts parts.length := by
    have : piTo parts parts.length ≠ [] := by intro h; apply hne; unfold pidx; rw [h]; rfl
    exact List.exists_mem_of_ne_nil _ this
  have hR := selP_rect (d := data.toNat) hBy hmi (x := x)
  have hsl : (selP parts data.toNat).length = data.toNat := by unfold selP; rw [List.length_map, List.length_take]; omega
  have hsq := selM_sq (d := data.toNat) (by omega) (by omega) q4 hd
  have hiv : invErr (selM parts data.toNat) = 0 := by unfold wholeErr at hW; rw [if_neg (by omega)] at hW; exact hW
  have hi := (hsq.inv hiv).1
  have hR2 : Rect (plen parts x.1) (wholeM parts data.toNat) := prodM_rect (prodM_rect hR (by omega)) (by rw [prodM_length, hi.len]; omega)
  rw [e]
  exact ⟨fun r hr => (hR2 r hr).2, fun i hi => by rw [(hR2.get hi).1]; have := long_le hlo x.2.1; omega⟩

set_option maxRecDepth 100000 in
set_option maxHeartbeats 8000000 in
theorem pConsistent_in (b o cap : Nat) (data : Int) (parts out : List (List Nat)) (A : Nat → Option Addr) (C : Nat → Nat) (w : World) (hM : MxAt w b o parts A C) (hm : Mx w (.slice (some ⟨b, o, none⟩) parts.length cap) parts) (hBy : BytM parts) (hByO : BytM out) (hE : wErr parts data = 0) (hR : wRows parts data = out) (hol : out.length = parts.length) (h1 : 1 ≤ parts.length) (h2 : parts.length ≤ 64) (hlong : longB parts = false) (hd1 : -9223372036854775808 ≤ data) (hd2 : data ≤ 9223372036854775807) (hol2 : ∀ i, i < out.length → (out.getD i []).length ≤ 1000000000) :
    Calls Try.prog 33 #[.slice (some ⟨b, o, none⟩) parts.length cap, .int .i64 data] w (BoolErr (conB parts out) 0 w) := by
  have HM := Lib.hid hM
  have Hm := Lib.hid hm
  have HBy := Lib.hid hBy
  have HByO := Lib.hid hByO
  have HE := Lib.hid hE
  have HR := Lib.hid hR
  have Hol := Lib.hid hol
  have Hol2 := Lib.hid hol2
  have Hlong := Lib.hid hlong
  have hbw : b < w.heap.size := World.block_lt_of_cell? w _ (hM 0 _ (getD_some (d := []) (by omega))).1
  clear hM hm hBy hE hR hol hlong hByO hol2
  refine (callsIn_wide (n := 3)).1 ?_
  refine callsIn_of_wp_marks Try.func33 rfl trivial ?_ rfl
  simp only [Try.ntmps33, List.size_toArray, List.length_cons, List.length_nil, Nat.reduceAdd, Nat.reduceSub, Array.replicate_succ, Array.replicate_zero, List.push_toArray, List.append_toArray, List.nil_append, List.cons_append]
  gi_wp2_with fail
  have QA := Lib.hid ((Blk.new w 4 #[.bool false]).alloc (.cells #[.int .i64 0] 29))
  have QB := Lib.hid (Blk.new (w.alloc (.cells #[.bool false] 4)) 29 #[.int .i64 0])
  have HB0 := Lib.hid (((Below.refl w.heap.size w).alloc (Nat.le_refl _) (.cells #[.bool false] 4)).alloc (by simp) (.cells #[.int .i64 0] 29))
  have s1 : (w.alloc (.cells #[.bool false] 4)).heap.size = w.heap.size + 1 := by simp
  have s2 : ((w.alloc (.cells #[.bool false] 4)).alloc (.cells #[.int .i64 0] 29)).heap.size = w.heap.size + 1 + 1 := by simp
  rw [s1] at QB
  obtain ⟨W0, hW0⟩ : ∃ W0, (w.alloc (.cells #[.bool false] 4)).alloc (.cells #[.int .i64 0] 29) = W0 := ⟨_, rfl⟩
  rw [hW0] at QA HB0 s2 ⊢
  rw [hW0] at QB
  clear hW0 s1
  have Hm0 := Lib.hid (Hm.out.new HB0.out)
  refine ⟨trivial, ?_⟩
  refine (callsIn_wide.2 (whole_any _ parts data _ (by omega) HBy.out Hm0.out hd1 hd2)).mono ?_
  rintro e w2 ⟨vo, hd, rfl, hG, hB2⟩
  rw [HE.out]
  rw [HR.out] at hG
  obtain ⟨bo, co, hvo, hco, _, hO⟩ := hG.done (by intro h; have := Hol.out; rw [h] at this; simp at this; omega)
  rw [Hol.out] at hvo hco
  subst hvo
  have HO := Lib.hid hO
  have HB2 := Lib.hid hB2
  have hz2 := hB2.size
  clear hG hO hB2
  gi_wp2_with fail
  refine ⟨trivial, ?_⟩
  refine (present_in Fence.wide _ trivial rfl _ _ _ _).mono ?_
  rintro e w1 ⟨rfl, rfl⟩
  gi_wp2_with fail
  have Q6 := Lib.hid ((Blk.new w2 39 #[.slice (some ⟨bo, 0, none⟩) parts.length co]).alloc (.cells #[.slice (some ⟨b, o, none⟩) parts.length cap] 39))
  have QP := Lib.hid (Blk.new (w2.alloc (.cells #[.slice (some ⟨bo, 0, none⟩) parts.length co] 39)) 39 #[.slice (some ⟨b, o, none⟩) parts.length cap])
  have HB21 := Lib.hid (((Below.refl w2.heap.size w2).alloc (Nat.le_refl _) (.cells #[.slice (some ⟨bo, 0, none⟩) parts.length co] 39)).alloc (by simp) (.cells #[.slice (some ⟨b, o, none⟩) parts.length cap] 39))
  have s1 : (w2.alloc (.cells #[.slice (some ⟨bo, 0, none⟩) parts.length co] 39)).heap.size = w2.heap.size + 1 := by simp
  have s3 : ((w2.alloc (.cells #[.slice (some ⟨bo, 0, none⟩) parts.length co] 39)).alloc (.cells #[.slice (some ⟨b, o, none⟩) parts.length cap] 39)).heap.size = w2.heap.size + 1 + 1 := by simp
  rw [s1] at QP
  obtain ⟨W1, hW1⟩ : ∃ W1, (w2.alloc (.cells #[.slice (some ⟨bo, 0, none⟩) parts.length co] 39)).alloc (.cells #[.slice (some ⟨b, o, none⟩) parts.length cap] 39) = W1 := ⟨_, rfl⟩
  rw [hW1] at Q6 QP HB21 s3 ⊢
  clear hW1 s1
  have HB01 := Lib.hid (HB2.out.trans (HB21.out.mono hz2))
  have HB1 := Lib.hid (HB0.out.trans (HB01.out.mono (by omega)))
  have HO1 := Lib.hid (HO.out.new HB21.out)
  have Q4 := Lib.hid (QA.out.below HB01.out QA.out.lt)
  have Q5 := Lib.hid (QB.out.below HB01.out QB.out.lt)
  refine wpIn_rangeFunc_ownG rfl (by decide) (gf := 80) (lb := #[.pointer (some ⟨w2.heap.size + 1, 0, none⟩)]) rfl trivial (enters_of Try.func80 (by kernel_rfl) rfl)
    (present_stops Fence.wide _ trivial rfl (by decide) (w2.heap.size + 1) w.heap.size b o cap parts A C (by omega) W1 (by omega) hbw (QP.out.cell rfl) (HM.out.new HB1.out)) belowK_t (belowK_b (by omega)) (Below.refl _ _) (fun _ => rfl)
    (CoI parts w W1 W0.heap.size bo w2.heap.size parts.length co out) (CoX parts w out)
    (CoI.own _ _ _ _ _ _ _ _ _ (by omega)) (CoX.own _ _ _ _ (by omega)) ⟨by simp, HB1.out, Nat.le_refl _, Q4.out, Q5.out, Q6.out, _, HO1.out⟩
    (fun x => { tmps := #[.slice (some ⟨b, o, none⟩) parts.length cap, .int .i64 data, undef, undef, .pointer (some ⟨w.heap.size, 0, none⟩), .pointer (some ⟨w.heap.size + 1, 0, none⟩), .pointer (some ⟨w2.heap.size, 0, none⟩), .int .i64 0, .int .i64 (x.1 : Nat), .slice (A x.1) (plen parts x.1) (C x.1), .tuple #[.slice (some ⟨bo, 0, none⟩) parts.length co, .int .i64 0], .slice (some ⟨b, o, none⟩) parts.length cap, .int .i64 data, .tuple #[.slice (some ⟨bo, 0, none⟩) parts.length co, .int .i64 0], .slice (some ⟨bo, 0, none⟩) parts.length co, .int .i64 0, .int .i64 0, .bool false, undef, .slice (some ⟨b, o, none⟩) parts.length cap, .func (.func 80) #[] #[.pointer (some ⟨w2.heap.size + 1, 0, none⟩)], .int .i64 (x.1 : Nat), .slice (A x.1) (plen parts x.1) (C x.1), undef, undef, undef, undef, undef, undef, undef], defers := [] }) ?assign ?body ?done ?stop
  case assign =>
    intro l x W K hK
    unfold pEnc
    gi_wp2
    exact hK
  case body =>
    rintro l pre ⟨i, hi1, hi2⟩ W ⟨hok, hBW, hsz, h4, h5, h6, hdW, hOW⟩ _
    dsimp only
    have hpl := long_le Hlong.out hi1
    have hMW := (HM.out.new hBW) i _ (getD_some (d := []) hi1)
    obtain ⟨b', o', hA, hrow⟩ : ∃ b' o', A i = some ⟨b', o', none⟩ ∧ RowAt W b' o' (parts.getD i []) := by
      rcases hMW.2.2.1 with h0 | h
      · unfold plen at hi2; rw [h0] at hi2; simp at hi2
      · exact h
    have c4 := h4.cell (i := 0) rfl
    have f4 := h4.frozen 0
    have c5 := h5.cell (i := 0) rfl
    have f5 := h5.frozen 0
    have c6 := h6.cell (i := 0) rfl
    have l4 := h4.lt
    have l5 := h5.lt
    have l6 := h6.lt
    have hbo := hOW.outer.lt
    have hio : i < out.length := by rw [Hol.out]; exact hi1
    obtain ⟨q, hq⟩ : ∃ q, hdW[i]? = some q := ⟨hdW.getD i (0, 0), getD_some (by rw [hOW.len]; exact hio)⟩
    have cb := hOW.outer.cell (hvs_get hq (getD_some (d := []) hio))
    have hqr := (hOW.rows i q _ hq (getD_some (d := []) hio)).1.row
    have HI := Lib.hid (show CoI parts w W1 W0.heap.size bo w2.heap.size parts.length co out pre W from ⟨hok, hBW, hsz, h4, h5, h6, hdW, hOW⟩)
    have Hqr := Lib.hid hqr
    have HBW := Lib.hid hBW
    have Hrow := Lib.hid hrow
    have hzw := hBW.size
    have hb1 := Lib.hid (HBy.out _ (List.mem_of_getElem? (getD_some (d := []) hi1)))
    have hb2 := Lib.hid (HByO.out _ (List.mem_of_getElem? (getD_some (d := []) hio)))
    have hl2 := Hol2.out i hio
    rw [hA]
    unfold hv at cb
    obtain ⟨orow, horow⟩ : ∃ r, out.getD i [] = r := ⟨_, rfl⟩
    rw [horow] at cb Hqr hb2 hl2
    have Horow := Lib.hid horow
    clear hMW hA hrow hOW hBW h4 h5 h6 hq hqr hok horow
    gi_wp2
    refine ⟨trivial, ?_⟩
    refine (CallsIn.inRound l (callsIn_wide.2 (Equal_any b' o' (plen parts i) (C i) q.1 0 orow.length q.2 (parts.getD i []) orow _ rfl rfl (by omega) (by omega) (by exact Hrow.out) (by exact Hqr.out) hb1.out hb2.out))).mono ?_
    rintro e W3 ⟨rfl, hB3⟩
    have HB3 := Lib.hid hB3
    have d4 := (HB3.out.cell (p := ⟨w.heap.size, 0, none⟩) l4).trans c4
    have e4 := (HB3.out.frozen (p := ⟨w.heap.size, 0, none⟩) l4).trans f4
    have d5 := (HB3.out.cell (p := ⟨w.heap.size + 1, 0, none⟩) l5).trans c5
    have e5 := (HB3.out.frozen (p := ⟨w.heap.size + 1, 0, none⟩) l5).trans f5
    clear hB3
    by_cases he : parts.getD i [] = orow
    · rw [decide_eq_true he]
      have Hst := Lib.hid (HI.out.step ⟨i, hi1, hi2⟩ (he.trans Horow.out.symm) HB3.out)
      have hK := Lib.hid (keepsFrom_of (B := W1.heap.size) (Kept.of_new (S := fun _ => False) HB3.out) (fun k e => e.elim))
      clear he
      gi_wp2
      exact ⟨hK.out, HB3.out.mono hzw, Hst.out⟩
    · rw [decide_eq_false he]
      have hno := Lib.hid (conB_no (out := out) hi1 hi2 (by rw [Horow.out]; exact he))
      have k4 := Lib.hid (((HI.out.k4.below HB3.out HI.out.k4.lt).setCell (i := 0) (by simp) (.bool false)).setCell_other (p := ⟨w.heap.size + 1, 0, none⟩) (by simp) (.int .i64 0))
      have k5 := Lib.hid (((HI.out.k5.below HB3.out HI.out.k5.lt).setCell_other (p := ⟨w.heap.size, 0, none⟩) (by simp) (.bool false)).setCell (i := 0) (by simp) (.int .i64 0))
      have hK := Lib.hid (keepsFrom_of (B := W1.heap.size) (((Kept.of_new (S := fun k => k = w.heap.size ∨ k = w.heap.size + 1) HB3.out).setCell (p := ⟨w.heap.size, 0, none⟩) (fun _ => Or.inl rfl) (.bool false)).setCell (p := ⟨w.heap.size + 1, 0, none⟩) (fun _ => Or.inr rfl) (.int .i64 0)) (fun k e => by rcases e with e | e <;> subst e; exact ⟨_, _, HI.out.k4⟩; exact ⟨_, _, HI.out.k5⟩))
      have hB := Lib.hid (((HBW.out.trans (HB3.out.mono hzw)).setCell (p := ⟨w.heap.size, 0, none⟩) (Nat.le_refl _) (.bool false)).setCell (p := ⟨w.heap.size + 1, 0, none⟩) (by simp) (.int .i64 0))
      clear he
      gi_wp2
      exact ⟨hK.out, rfl, hno.out, hB.out, k4.out, k5.out⟩
  case done =>
    rintro D ys W hD rfl ⟨hok, hBW, hsz, h4, h5, h6, hdW, hOW⟩ hK
    have c4 := h4.cell (i := 0) rfl
    have f4 := h4.frozen 0
    have c5 := h5.cell (i := 0) rfl
    have f5 := h5.frozen 0
    have hyes := Lib.hid (conB_yes (piTo_all (P := fun i => parts.getD i [] = out.getD i []) parts.length (Nat.le_refl _) hok))
    have k4 := Lib.hid ((h4.setCell (i := 0) (by simp) (.bool true)).setCell_other (p := ⟨w.heap.size + 1, 0, none⟩) (by simp) (.int .i64 0))
    have k5 := Lib.hid ((h5.setCell_other (p := ⟨w.heap.size, 0, none⟩) (by simp) (.bool true)).setCell (i := 0) (by simp) (.int .i64 0))
    have HBW := Lib.hid hBW
    have HK := Lib.hid hK
    clear hok hBW h4 h5 h6 hOW hK
    gi_wp2_with fail
    have hK' := (KeepsOthers.setCell _ ⟨w.heap.size + 1, 0, none⟩ (.int .i64 0)).same D _ ((KeepsOthers.setCell W ⟨w.heap.size, 0, none⟩ (.bool true)).same D _ HK.out rfl) rfl
    refine ⟨by simp, .inl ⟨_, _, rfl, run_takeDeferred hK', ?_⟩⟩
    have hr' : ∀ r, some D = some r → ∃ o : Obj, ((W.setCell ⟨w.heap.size, 0, none⟩ (.bool true)).setCell ⟨w.heap.size + 1, 0, none⟩ (.int .i64 0)).heap[r]? = some o ∧ o.isCells = false := fun r e => by cases e; exact ⟨_, hK', rfl⟩
    have x4 := cell_kept (k4.out.cell (i := 0) rfl) (grownBy_putObj' _ D (.deferred none)) hr'
    have x5 := cell_kept (k5.out.cell (i := 0) rfl) (grownBy_putObj' _ D (.deferred none)) hr'
    refine ⟨.tuple #[.bool true, .int .i64 0], ?_, by rw [hyes.out]; rfl, ((HBW.out.setCell (p := ⟨w.heap.size, 0, none⟩) (Nat.le_refl _) _).setCell (p := ⟨w.heap.size + 1, 0, none⟩) (by simp) _).trans (belowK_b (w := w) (Nat.le_refl _) _ D _ _ (by omega) hK' rfl rfl)⟩
    simp [results, Try.f33, go_sem, x4, x5]
  case stop =>
    rintro D c pre W hD _ ⟨rfl, hno, hBW, h4, h5⟩ hK
    have Hno := Lib.hid hno
    have H4 := Lib.hid h4
    have H5 := Lib.hid h5
    have HBW := Lib.hid hBW
    have HK := Lib.hid hK
    clear hno hBW h4 h5 hK
    gi_wp2_with fail
    refine ⟨by simp, .inl ⟨_, _, rfl, run_takeDeferred HK.out, ?_⟩⟩
    have hr' : ∀ r, some D = some r → ∃ o : Obj, W.heap[r]? = some o ∧ o.isCells = false := fun r e => by cases e; exact ⟨_, HK.out, rfl⟩
    have x4 := cell_kept (H4.out.cell (i := 0) rfl) (grownBy_putObj' _ D (.deferred none)) hr'
    have x5 := cell_kept (H5.out.cell (i := 0) rfl) (grownBy_putObj' _ D (.deferred none)) hr'
    refine ⟨.tuple #[.bool false, .int .i64 0], ?_, by rw [Hno.out]; rfl, HBW.out.trans (belowK_b (w := w) (Nat.le_refl _) W D _ _ (by omega) HK.out rfl rfl)⟩
    simp [results, Try.f33, go_sem, x4, x5]

set_option maxRecDepth 100000 in
set_option maxHeartbeats 2000000 in
theorem pConsistent_any (v : Value) (parts : List (List Nat)) (data : Int) (w : World) (hn : parts.length ≤ 1000000000) (hBy : BytM parts) (hm : Mx w v parts) (hd1 : -9223372036854775808 ≤ data) (hd2 : data ≤ 9223372036854775807) :
    Calls Try.prog 33 #[v, .int .i64 data] w (BoolErr (conRes parts data) (wErr parts data) w) := by
  by_cases hE : wErr parts data = 0
  · obtain ⟨hl, hP⟩ := wRows_length hE
    obtain ⟨q1, q2, q3, q4⟩ := parErr_in hP
    have hP' := hP
    have hlo : longB parts = false := by
      unfold parErr at hP
      split at hP
      · simp at hP
      split at hP
      · simp at hP
      split at hP
      · simp at hP
      rename_i h
      simpa using h
    have hmi : misB parts = false := by
      unfold parErr at hP
      split at hP
      · simp at hP
      split at hP
      · simp at hP
      split at hP
      · simp at hP
      split at hP
      · simp at hP
      rename_i h
      simpa using h
    have e2 : conRes parts data = conB parts (wRows parts data) := by unfold conRes; rw [decide_eq_true hE]; rfl
    obtain ⟨o1, o2⟩ := wRows_ok hE hBy hlo hmi
    rw [hE, e2]
    have hm' := hm
    obtain ⟨a, cap, rfl, hcap, h⟩ := hm
    rcases h with h | ⟨b, o, A, C, rfl, hM⟩
    · rw [h] at q3; simp at q3
    exact pConsistent_in b o cap data parts _ A C w hM hm' hBy o1 hE rfl hl q3 q4 hlo hd1 hd2 o2
  · have e2 : conRes parts data = false := by unfold conRes; rw [decide_eq_false hE]; rfl
    rw [e2]
    have Hm := Lib.hid hm
    have HBy := Lib.hid hBy
    obtain ⟨pe, hpe⟩ : ∃ pe, wErr parts data = pe := ⟨_, rfl⟩
    have tP : ((pe : Int) != 0) = true := by rw [bne_iff_ne]; rw [hpe] at hE; omega
    have Hpe := Lib.hid hpe
    obtain ⟨a, cap, rfl, hcap, h⟩ := hm
    clear hE e2 hpe h hBy
    refine (callsIn_wide (n := 3)).1 ?_
    refine callsIn_of_wp_marks Try.func33 rfl trivial ?_ rfl
    simp only [Try.ntmps33, List.size_toArray, List.length_cons, List.length_nil, Nat.reduceAdd, Nat.reduceSub, Array.replicate_succ, Array.replicate_zero, List.push_toArray, List.append_toArray, List.nil_append, List.cons_append]
    gi_wp2_with fail
    have QA := Lib.hid ((Blk.new w 4 #[.bool false]).alloc (.cells #[.int .i64 0] 29))
    have QB := Lib.hid (Blk.new (w.alloc (.cells #[.bool false] 4)) 29 #[.int .i64 0])
    have HB0 := Lib.hid (((Below.refl w.heap.size w).alloc (Nat.le_refl _) (.cells #[.bool false] 4)).alloc (by simp) (.cells #[.int .i64 0] 29))
    have s1 : (w.alloc (.cells #[.bool false] 4)).heap.size = w.heap.size + 1 := by simp
    have s2 : ((w.alloc (.cells #[.bool false] 4)).alloc (.cells #[.int .i64 0] 29)).heap.size = w.heap.size + 1 + 1 := by simp
    rw [s1] at QB
    obtain ⟨W0, hW0⟩ : ∃ W0, (w.alloc (.cells #[.bool false] 4)).alloc (.cells #[.int .i64 0] 29) = W0 := ⟨_, rfl⟩
    rw [hW0] at QA HB0 s2 ⊢
    rw [hW0] at QB
    clear hW0 s1
    refine ⟨trivial, ?_⟩
    refine (callsIn_wide.2 (whole_any _ parts data _ (by omega) HBy.out (Hm.out.new HB0.out) hd1 hd2)).mono ?_
    rintro e w2 ⟨vo, hd, rfl, hG, hB2⟩
    obtain ⟨ao, no, co, hvo⟩ : ∃ a n c, vo = .slice a n c := by obtain ⟨a, c, h⟩ := owns_slice hG.outer; exact ⟨a, _, c, h⟩
    subst hvo
    rw [Hpe.out]
    have HB2 := Lib.hid hB2
    have q4 := Lib.hid ((QA.out.below HB2.out QA.out.lt).alloc (.cells #[.slice ao no co] 39))
    have q5 := Lib.hid ((QB.out.below HB2.out QB.out.lt).alloc (.cells #[.slice ao no co] 39))
    have k4 := Lib.hid ((q4.out.setCell (i := 0) (by simp) (.bool false)).setCell_other (p := ⟨w.heap.size + 1, 0, none⟩) (by simp) (.int .i64 pe))
    have k5 := Lib.hid ((q5.out.setCell_other (p := ⟨w.heap.size, 0, none⟩) (by simp) (.bool false)).setCell (i := 0) (by simp) (.int .i64 pe))
    have hz2 := hB2.size
    have hBf := Lib.hid ((((HB0.out.trans (HB2.out.mono (by omega))).alloc (by omega) (.cells #[.slice ao no co] 39)).setCell (p := ⟨w.heap.size, 0, none⟩) (Nat.le_refl _) (.bool false)).setCell (p := ⟨w.heap.size + 1, 0, none⟩) (by simp) (.int .i64 pe))
    clear hB2 hG
    have c4 := q4.out.cell (i := 0) rfl
    have f4 := q4.out.frozen 0
    have c5 := q5.out.cell (i := 0) rfl
    have f5 := q5.out.frozen 0
    gi_wp2_with fail
    have x4 := k4.out.cell (i := 0) rfl
    have x5 := k5.out.cell (i := 0) rfl
    refine ⟨.tuple #[.bool false, .int .i64 pe], ?_, by rw [Hpe.out], hBf.out⟩
    simp [results, Try.f33, go_sem, x4, x5]
end Go.Proofs.Ytlbomlolomcolaa
