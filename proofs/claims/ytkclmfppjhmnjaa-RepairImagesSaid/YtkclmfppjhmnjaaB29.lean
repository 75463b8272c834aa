/- The contract of parity.whole. -/
/- The contract of parity.whole for all arguments. -/
import Derived.Test.YtkclmfppjhmnjaaB23
import Derived.Test.YtkclmfppjhmnjaaB28
import Derived.Test.YtkclmfppjhmnjaaB14
namespace Go.Proofs.Ytkclmfppjhmnjaa
open Go.RowKit Go.Shelf

attribute [local go_sem] Oper.semAt_some

/-- The indices of the parts that are not lost. -/
def pidx (parts : List (List Nat)) : List Nat := (piTo parts parts.length).map (·.1)
def selM (parts : List (List Nat)) (d : Nat) : List (List Nat) := ((pidx parts).take d).map fun i => (rowsM d (parts.length - d)).getD i []
def selP (parts : List (List Nat)) (d : Nat) : List (List Nat) := ((pidx parts).take d).map fun i => parts.getD i []
def wholeM (parts : List (List Nat)) (d : Nat) : List (List Nat) := prodM (rowsM d (parts.length - d)) (prodM (invRows (selM parts d)) (selP parts d))

/-- What whole returns. -/
def wholeErr (parts : List (List Nat)) (d : Nat) : Nat := if (pidx parts).length < d then 26 else invErr (selM parts d)
def wholeRows (parts : List (List Nat)) (d : Nat) : List (List Nat) := if wholeErr parts d = 0 then wholeM parts d else []

theorem piTo_prefix (parts : List (List Nat)) (k n : Nat) : ∃ t, piTo parts (k + n) = piTo parts k ++ t := by
  induction n with
  | zero => exact ⟨[], by simp⟩
  | succ n ih =>
    obtain ⟨t, ht⟩ := ih
    by_cases h : k + n < parts.length ∧ 1 ≤ plen parts (k + n)
    · exact ⟨t ++ [⟨k + n, h⟩], by rw [← Nat.add_assoc, piTo_yes h, ht, List.append_assoc]⟩
    · refine ⟨t, ?_⟩
      rw [← ht]
      show (if h : (k + n) < parts.length ∧ 1 ≤ plen parts (k + n) then piTo parts (k + n) ++ [⟨k + n, h⟩] else piTo parts (k + n)) = _
      rw [dif_neg h]

theorem sel_stop {parts : List (List Nat)} {k d : Nat} {ini : List (PI parts)} {x : PI parts} (hk : k ≤ parts.length) (h : ini ++ [x] = piTo parts k) (hd : ini.length = d) : ini.map (·.1) = (pidx parts).take d ∧ d ≤ (pidx parts).length := by
  obtain ⟨t, ht⟩ := piTo_prefix parts k (parts.length - k)
  rw [show k + (parts.length - k) = parts.length by omega, ← h] at ht
  unfold pidx
  rw [ht]
  simp [← hd]

/-- The headers of a row and of a part. -/
def rhOf (d : Nat) (hd : List (Nat × Nat)) (i : Nat) : Value := hv d (hd.getD i (0, 0))
def phOf (parts : List (List Nat)) (A : Nat → Option Addr) (C : Nat → Nat) (i : Nat) : Value := .slice (A i) (plen parts i) (C i)
theorem rowsM_rect (d r : Nat) : Rect d (rowsM d r) := by
  intro x hx
  rcases List.mem_append.1 hx with h | h
  · exact idM_rect d x h
  · obtain ⟨i, _, rfl⟩ := List.mem_map.1 h
    exact ⟨cauRow_length _ _ _, cauRow_byt _ _ _⟩

/-- What holds between two rounds of whole's loop. -/
structure WF (parts : List (List Nat)) (W1 : World) (B8 B9 : Nat) (rh ph : Nat → Value) (vS vB : Value) (pre : List (PI parts)) (W : World) : Prop where
  K : Kept (fun k => k = B8 ∨ k = B9) W1 W
  k8 : Blk W B8 44 [vS]
  k9 : Blk W B9 44 [vB]
  oS : W.ownsRow W1.heap.size 26 1 vS pre.length (pre.map fun x => rh x.1)
  oB : W.ownsRow W1.heap.size 26 1 vB pre.length (pre.map fun x => ph x.1)
  ne : ∀ g, vS.ownBlock = some g → vB.ownBlock = some g → False
def WI (parts : List (List Nat)) (d : Nat) (W1 : World) (B8 B9 : Nat) (rh ph : Nat → Value) (pre : List (PI parts)) (W : World) : Prop := pre.length ≤ d ∧ ∃ vS vB, WF parts W1 B8 B9 rh ph vS vB pre W
def WX (parts : List (List Nat)) (d : Nat) (W1 : World) (B8 B9 : Nat) (rh ph : Nat → Value) (c : Code) (pre : List (PI parts)) (W : World) : Prop := c = .exit 0 ∧ ∃ ini x, pre = ini ++ [x] ∧ ini.length = d ∧ ∃ vS vB, WF parts W1 B8 B9 rh ph vS vB ini W

theorem blk_turn {W W' : World} {row : Option Nat} {g T : Nat} {xs : List Value} (h : Blk W g T xs) (_hg : W.grownBy W' row) (hr : ∀ r, row = some r → ∃ o : Obj, W.heap[r]? = some o ∧ o.isCells = false) : ¬ some g = row := by
  intro e
  obtain ⟨o, ho, hc⟩ := hr g e.symm
  obtain ⟨r, h⟩ := h
  rw [h] at ho
  simp only [Option.some.injEq] at ho
  subst ho
  simp [Obj.isCells] at hc

theorem WF.turn {parts : List (List Nat)} {W1 : World} {B8 B9 : Nat} {rh ph : Nat → Value} {vS vB : Value} {pre : List (PI parts)} {W W' : World} {row : Option Nat} (h : WF parts W1 B8 B9 rh ph vS vB pre W) (hg : W.grownBy W' row) (hr : ∀ r, row = some r → W1.heap.size ≤ r ∧ ∃ o : Obj, W.heap[r]? = some o ∧ o.isCells = false) : WF parts W1 B8 B9 rh ph vS vB pre W' where
  K := h.K.then (Kept.of_grown hg) fun i hi e => by have := (hr i e.symm).1; omega
  k8 := h.k8.kept (Kept.of_grown hg) (blk_turn h.k8 hg fun r e => (hr r e).2)
  k9 := h.k9.kept (Kept.of_grown hg) (blk_turn h.k9 hg fun r e => (hr r e).2)
  oS := owns_kept h.oS (Kept.of_grown hg) fun g e => blk_turn (owns_block h.oS e).1 hg fun r e => (hr r e).2
  oB := owns_kept h.oB (Kept.of_grown hg) fun g e => blk_turn (owns_block h.oB e).1 hg fun r e => (hr r e).2
  ne := h.ne

theorem WI.own (parts : List (List Nat)) (d : Nat) (W1 : World) (B8 B9 : Nat) (rh ph : Nat → Value) : OwnFrom W1.heap.size (WI parts d W1 B8 B9 rh ph) := by
  rintro s W W' row ⟨h1, vS, vB, h⟩ hg hr
  exact ⟨h1, vS, vB, h.turn hg hr⟩
theorem WX.own (parts : List (List Nat)) (d : Nat) (W1 : World) (B8 B9 : Nat) (rh ph : Nat → Value) (c : Code) : OwnFrom W1.heap.size (WX parts d W1 B8 B9 rh ph c) := by
  rintro s W W' row ⟨h0, ini, x, e1, e2, vS, vB, h⟩ hg hr
  exact ⟨h0, ini, x, e1, e2, vS, vB, h.turn hg hr⟩

/-- The region has run. -/
theorem WF.next {parts : List (List Nat)} {W1 : World} {B8 B9 : Nat} {rh ph : Nat → Value} {vS vB : Value} {pre : List (PI parts)} {W : World} (h : WF parts W1 B8 B9 rh ph vS vB pre W) {c : RCtx} {x : PI parts} {vS' vB' : Value} {w' : World} (hp : RPost c vS' vB' w')
    (e1 : c.vS = vS) (e2 : c.vB = vB) (e3 : c.B8 = B8) (e4 : c.B9 = B9) (e5 : c.base = W1.heap.size) (e6 : c.hdr = rh x.1) (e7 : c.pv = ph x.1) (e8 : c.xs = pre.map fun x => rh x.1) (e9 : c.ys = pre.map fun x => ph x.1) (e10 : c.W0 = { W with drawn := W.drawn + 1 }) : WF parts W1 B8 B9 rh ph vS' vB' (pre ++ [x]) w' := by
  obtain ⟨K, oS, oB, ne, _, _, k8, k9⟩ := hp
  rw [e1, e2, e3, e4] at K
  rw [e5, e8, e6] at oS
  rw [e5, e9, e7] at oB
  rw [e3] at k8
  rw [e4] at k9
  have h0 : Kept (fun k => k = B8 ∨ k = B9) W1 c.W0 := by rw [e10]; exact ⟨h.K.os, h.K.tape, h.K.output, h.K.size, h.K.block⟩
  refine ⟨h0.then K ?_, k8, k9, ?_, ?_, ne⟩
  · rintro i hi (e | e | e | e)
    · have := (owns_block h.oS e).2.1; omega
    · have := (owns_block h.oB e).2.1; omega
    · exact Or.inl e
    · exact Or.inr e
  · rw [List.length_append, List.map_append, List.length_singleton]
    rw [List.length_map] at oS
    exact oS
  · rw [List.length_append, List.map_append, List.length_singleton]
    rw [List.length_map] at oB
    exact oB

theorem parErr_zero {parts : List (List Nat)} {d : Nat} (h : parErr parts d = 0) : longB parts = false ∧ misB parts = false := by
  unfold parErr at h
  split at h
  · simp at h
  split at h
  · simp at h
  split at h
  · simp at h
  split at h
  · simp at h
  rename_i h1 h2
  exact ⟨by simpa using h1, by simpa using h2⟩

theorem mis_eq {parts : List (List Nat)} (h : misB parts = false) (x y : PI parts) : plen parts x.1 = plen parts y.1 := by
  apply Classical.byContradiction
  intro hne
  rw [misB_yes x.2.1 y.2.1 x.2.2 y.2.2 hne] at h
  simp at h
theorem long_le {parts : List (List Nat)} (h : longB parts = false) {i : Nat} (hi : i < parts.length) : plen parts i ≤ 65536 := by
  unfold longB at h
  rw [List.any_eq_false] at h
  have := h i (List.mem_range.2 hi)
  simpa using this

theorem WF.om {parts : List (List Nat)} {W1 : World} {B8 B9 B bR d r : Nat} {hdR : List (Nat × Nat)} {rh ph : Nat → Value} {vS vB : Value} {sel : List (PI parts)} {W : World} (h : WF parts W1 B8 B9 rh ph vS vB sel W) (hO : OM W1 B bR hdR (rowsM d r))
    (k8 : Blk W1 B8 44 [.slice none 0 0]) (k9 : Blk W1 B9 44 [.slice none 0 0]) : OM W B bR hdR (rowsM d r) := by
  refine hO.kept' h.K (fun i p hp => ?_) ?_
  · obtain ⟨x, hx⟩ := hO.row hp
    have hbx := (hO.rows i p x hp hx).1
    rintro (e | e)
    · rw [e] at hbx; exact absurd (hbx.type k8) (by decide)
    · rw [e] at hbx; exact absurd (hbx.type k9) (by decide)
  · have hbo := hO.outer
    rintro (e | e)
    · rw [e] at hbo; exact absurd (hbo.type k8) (by decide)
    · rw [e] at hbo; exact absurd (hbo.type k9) (by decide)

/-- The matrix and the basis that the loop has collected. -/
theorem WF.mxS {parts : List (List Nat)} {W1 : World} {B8 B9 B bR d r : Nat} {hdR : List (Nat × Nat)} {ph : Nat → Value} {vS vB : Value} {sel : List (PI parts)} {W : World} (h : WF parts W1 B8 B9 (rhOf d hdR) ph vS vB sel W) (hO : OM W1 B bR hdR (rowsM d r)) (hN : d + r = parts.length)
    (k8 : Blk W1 B8 44 [.slice none 0 0]) (k9 : Blk W1 B9 44 [.slice none 0 0]) : Mx W vS (sel.map fun x => (rowsM d r).getD x.1 []) := by
  by_cases hs : sel = []
  · subst hs
    obtain ⟨a, c, rfl⟩ := owns_slice h.oS
    exact ⟨a, c, rfl, Nat.zero_le _, Or.inl rfl⟩
  have hne : sel.length ≠ 0 := by simpa using hs
  obtain ⟨g, cg, rfl, _, hcg, _⟩ := ne_of_owns h.oS hne
  have hb := Blk.of_owns h.oS
  have hOW : OM W B bR hdR (rowsM d r) := h.om hO k8 k9
  refine ⟨some ⟨g, 0, none⟩, cg, by rw [List.length_map], by rw [List.length_map]; exact hcg, Or.inr ⟨g, 0, fun k => some ⟨(hdR.getD ((sel.map (·.1)).getD k 0) (0, 0)).1, 0, none⟩, fun k => (hdR.getD ((sel.map (·.1)).getD k 0) (0, 0)).2, rfl, ?_⟩⟩
  intro k x hx
  rw [List.getElem?_map] at hx
  cases hk : sel[k]? with
  | none => rw [hk] at hx; simp at hx
  | some y =>
    rw [hk] at hx
    simp only [Option.map_some, Option.some.injEq] at hx
    have hyi : y.1 < (rowsM d r).length := by rw [rowsM_length]; have := y.2.1; omega
    have hrg : (rowsM d r)[y.1]? = some x := by rw [← hx]; exact getD_some hyi
    have hdg : hdR[y.1]? = some (hdR.getD y.1 (0, 0)) := getD_some (by rw [hOW.len]; exact hyi)
    obtain ⟨q1, _, q3⟩ := hOW.rows _ _ _ hdg hrg
    have hxl : x.length = d := (rowsM_rect d r x (List.mem_of_getElem? hrg)).1
    have hcell := hb.cell (show (sel.map fun x => rhOf d hdR x.1)[k]? = some (rhOf d hdR y.1) by rw [List.getElem?_map, hk]; rfl)
    have hgd : (sel.map (·.1)).getD k 0 = y.1 := by rw [List.getD_eq_getElem?_getD, List.getElem?_map, hk]; rfl
    dsimp only
    rw [hgd, Nat.zero_add, hxl]
    rw [hxl] at q3
    exact ⟨hcell, q3, Or.inr ⟨_, 0, rfl, q1.row⟩, by simp⟩

theorem WF.mxB {parts : List (List Nat)} {W1 : World} {B8 B9 b o : Nat} {A : Nat → Option Addr} {C : Nat → Nat} {rh : Nat → Value} {vS vB : Value} {sel : List (PI parts)} {W : World} (h : WF parts W1 B8 B9 rh (phOf parts A C) vS vB sel W) (hM : MxAt W b o parts A C) :
    (sel ≠ [] → ∃ g cg, vB = .slice (some ⟨g, 0, none⟩) sel.length cg ∧ MxAt W g 0 (sel.map fun x => parts.getD x.1 []) (fun k => A ((sel.map (·.1)).getD k 0)) (fun k => C ((sel.map (·.1)).getD k 0))) := by
  intro hs
  have hne : sel.length ≠ 0 := by simpa using hs
  obtain ⟨g, cg, rfl, _, hcg, _⟩ := ne_of_owns h.oB hne
  have hb := Blk.of_owns h.oB
  refine ⟨g, cg, rfl, ?_⟩
  intro k x hx
  rw [List.getElem?_map] at hx
  cases hk : sel[k]? with
  | none => rw [hk] at hx; simp at hx
  | some y =>
    rw [hk] at hx
    simp only [Option.map_some, Option.some.injEq] at hx
    obtain ⟨_, q2, q3, q4⟩ := hM y.1 x (by rw [← hx]; exact getD_some y.2.1)
    have hcell := hb.cell (show (sel.map fun x => phOf parts A C x.1)[k]? = some (phOf parts A C y.1) by rw [List.getElem?_map, hk]; rfl)
    have hgd : (sel.map (·.1)).getD k 0 = y.1 := by rw [List.getD_eq_getElem?_getD, List.getElem?_map, hk]; rfl
    have hxl : plen parts y.1 = x.length := by unfold plen; rw [hx]
    unfold phOf at hcell
    dsimp only
    rw [hgd, Nat.zero_add, ← hxl]
    rw [← hxl] at q2
    exact ⟨hcell, q2, q3, q4⟩

theorem GM.turn {W W' : World} {B : Nat} {v : Value} {hd : List (Nat × Nat)} {m : List (List Nat)} {row : Option Nat} (h : GM W B v hd m) (hg : W.grownBy W' row) (hr : ∀ r, row = some r → ∃ o : Obj, W.heap[r]? = some o ∧ o.isCells = false) : GM W' B v hd m :=
  { h.toOwnRows.kept (Kept.of_grown hg) (fun i p hp => by obtain ⟨r, hx⟩ := h.row hp; exact blk_turn (h.rows i p r hp hx).1 hg hr) with
    outer := owns_kept h.outer (Kept.of_grown hg) fun g e => blk_turn (owns_block h.outer e).1 hg hr }

theorem selM_eq {parts : List (List Nat)} {d : Nat} {sel : List (PI parts)} (h : sel.map (·.1) = (pidx parts).take d) : (sel.map fun x => (rowsM d (parts.length - d)).getD x.1 []) = selM parts d := by
  unfold selM; rw [← h, List.map_map]; rfl
theorem selP_eq {parts : List (List Nat)} {d : Nat} {sel : List (PI parts)} (h : sel.map (·.1) = (pidx parts).take d) : (sel.map fun x => parts.getD x.1 []) = selP parts d := by
  unfold selP; rw [← h, List.map_map]; rfl

theorem selM_sq {parts : List (List Nat)} {d : Nat} (h1 : 1 ≤ d) (h2 : d ≤ parts.length) (h3 : parts.length ≤ 64) (hd : d ≤ (pidx parts).length) : Sq d (selM parts d) := by
  refine ⟨fun r hr => ?_, by unfold selM; rw [List.length_map, List.length_take]; omega, h1, by omega⟩
  unfold selM at hr
  obtain ⟨i, hi, rfl⟩ := List.mem_map.1 hr
  have hi' := List.mem_of_mem_take hi
  unfold pidx at hi'
  obtain ⟨x, _, rfl⟩ := List.mem_map.1 hi'
  exact (rowsM_rect d _).get (by rw [rowsM_length]; have := x.2.1; omega)

theorem selP_rect {parts : List (List Nat)} {d : Nat} (hB : BytM parts) (hm : misB parts = false) {x : PI parts} : Rect (plen parts x.1) (selP parts d) := by
  intro r hr
  unfold selP at hr
  obtain ⟨i, hi, rfl⟩ := List.mem_map.1 hr
  have hi' := List.mem_of_mem_take hi
  unfold pidx at hi'
  obtain ⟨y, _, rfl⟩ := List.mem_map.1 hi'
  exact ⟨mis_eq hm y x, hB _ (List.mem_of_getElem? (getD_some (d := []) y.2.1))⟩

theorem prodM_rect {a b : List (List Nat)} {L : Nat} (hb : Rect L b) (hb0 : 1 ≤ b.length) : Rect L (prodM a b) := by
  intro r hr
  obtain ⟨row, _, rfl⟩ := List.mem_map.1 hr
  have h0 := (hb.get (i := 0) (by omega)).1
  rw [h0]
  exact prTo_ok hb _ (Nat.le_refl _)

theorem keepsFrom_of {B : Nat} {W W' : World} {S : Nat → Prop} (k : Kept S W W') (hS : ∀ g, S g → ∃ T xs, Blk W g T xs) : KeepsFrom B W W' := by
  refine ⟨k.size, fun j o _ hj ho => ?_⟩
  rw [k.block j (Array.getElem?_eq_some_iff.1 hj).1 ?_]
  · exact hj
  · intro hs
    obtain ⟨T, xs, r, hb⟩ := hS j hs
    rw [hj] at hb
    simp only [Option.some.injEq] at hb
    subst hb
    simp [Obj.isCells] at ho

set_option maxRecDepth 100000 in
set_option maxHeartbeats 8000000 in
theorem whole_main (b o cap d : Nat) (parts : List (List Nat)) (A : Nat → Option Addr) (C : Nat → Nat) (w : World) (hM : MxAt w b o parts A C) (hm : Mx w (.slice (some ⟨b, o, none⟩) parts.length cap) parts) (hBy : BytM parts) (hE : parErr parts d = 0) (h1 : 1 ≤ d) (h2 : d ≤ parts.length) (h3 : parts.length ≤ 64) :
    Calls Try.prog 113 #[.slice (some ⟨b, o, none⟩) parts.length cap, .int .i64 d] w (RowsErr (wholeRows parts d) (wholeErr parts d) w) := by
  obtain ⟨j0, gi, gz0, gz1, gz2⟩ := info_parts infoBytes
  have HM := Lib.hid hM
  have Hm := Lib.hid hm
  have HE := Lib.hid hE
  have hbw : b < w.heap.size := World.block_lt_of_cell? w _ (hM 0 _ (getD_some (d := []) (by omega))).1
  have e1 : ((parts.length : Int) - (d : Int)) = ((parts.length - d : Nat) : Int) := by omega
  clear hM hm hE
  refine (callsIn_wide (n := 3)).1 ?_
  refine callsIn_of_wp_marks Try.func113 rfl trivial ?_ rfl
  simp only [Try.ntmps113, List.size_toArray, List.length_cons, List.length_nil, Nat.reduceAdd, Nat.reduceSub, Array.replicate_succ, Array.replicate_zero, List.push_toArray, List.append_toArray, List.nil_append, List.cons_append]
  gi_wp2_with fail
  refine ⟨trivial, ?_⟩
  have HB1 := Lib.hid ((Below.refl w.heap.size w).alloc (Nat.le_refl _) (.cells #[.int .i64 d] 3))
  have Hbox := Lib.hid (Blk.new w 3 #[.int .i64 d])
  refine (callsIn_wide.2 (pCheck_any _ parts d _ (by omega) (Hm.out.new HB1.out) (by omega) (by omega))).mono ?_
  rintro e w2 ⟨rfl, hB2⟩
  rw [HE.out]
  have Hbox2 := Lib.hid (Hbox.out.below hB2 Hbox.out.lt)
  have HB2 := Lib.hid (HB1.out.trans (hB2.mono HB1.out.size))
  have hbx2 := Hbox2.out.cell (i := 0) rfl
  clear hB2
  gi_wp2_with fail
  refine ⟨trivial, ?_⟩
  refine (callsIn_wide.2 (pmatrix_at d (parts.length - d) _ h1 (by omega))).mono ?_
  rintro e w3 ⟨bR, cR, hdR, rfl, k1, k2, hO3, hB3, _, _⟩
  rw [show d + (parts.length - d) = parts.length by omega] at k1 ⊢
  clear hbx2 e1
  have HO3 := Lib.hid hO3
  have Hbox3 := Lib.hid (Hbox2.out.below hB3 Hbox2.out.lt)
  have HB3 := Lib.hid (HB2.out.trans (hB3.mono HB2.out.size))
  have hz3 := HB3.out.size
  have hb3 := Hbox3.out.lt
  clear hO3 hB3
  gi_wp2_with fail
  refine ⟨trivial, ?_⟩
  refine (present_in Fence.wide _ trivial rfl _ _ _ _).mono ?_
  rintro e w1 ⟨rfl, rfl⟩
  gi_wp2_with fail
  have Q7 := Lib.hid ((((Blk.new w3 44 #[.slice (some ⟨bR, 0, none⟩) parts.length cR]).alloc (.cells #[.slice none 0 0] 44)).alloc (.cells #[.slice none 0 0] 44)).alloc (.cells #[.slice (some ⟨b, o, none⟩) parts.length cap] 44))
  have Q8 := Lib.hid (((Blk.new (w3.alloc (.cells #[.slice (some ⟨bR, 0, none⟩) parts.length cR] 44)) 44 #[.slice none 0 0]).alloc (.cells #[.slice none 0 0] 44)).alloc (.cells #[.slice (some ⟨b, o, none⟩) parts.length cap] 44))
  have Q9 := Lib.hid ((Blk.new ((w3.alloc (.cells #[.slice (some ⟨bR, 0, none⟩) parts.length cR] 44)).alloc (.cells #[.slice none 0 0] 44)) 44 #[.slice none 0 0]).alloc (.cells #[.slice (some ⟨b, o, none⟩) parts.length cap] 44))
  have QP := Lib.hid (Blk.new (((w3.alloc (.cells #[.slice (some ⟨bR, 0, none⟩) parts.length cR] 44)).alloc (.cells #[.slice none 0 0] 44)).alloc (.cells #[.slice none 0 0] 44)) 44 #[.slice (some ⟨b, o, none⟩) parts.length cap])
  have HB31 := Lib.hid (((((Below.refl w3.heap.size w3).alloc (Nat.le_refl _) (.cells #[.slice (some ⟨bR, 0, none⟩) parts.length cR] 44)).alloc (by simp) (.cells #[.slice none 0 0] 44)).alloc (by simp; omega) (.cells #[.slice none 0 0] 44)).alloc (by simp; omega) (.cells #[.slice (some ⟨b, o, none⟩) parts.length cap] 44))
  have s1 : (w3.alloc (.cells #[.slice (some ⟨bR, 0, none⟩) parts.length cR] 44)).heap.size = w3.heap.size + 1 := by simp
  have s2 : ((w3.alloc (.cells #[.slice (some ⟨bR, 0, none⟩) parts.length cR] 44)).alloc (.cells #[.slice none 0 0] 44)).heap.size = w3.heap.size + 1 + 1 := by simp
  have s3 : (((w3.alloc (.cells #[.slice (some ⟨bR, 0, none⟩) parts.length cR] 44)).alloc (.cells #[.slice none 0 0] 44)).alloc (.cells #[.slice none 0 0] 44)).heap.size = w3.heap.size + 1 + 1 + 1 := by simp
  have s4 : ((((w3.alloc (.cells #[.slice (some ⟨bR, 0, none⟩) parts.length cR] 44)).alloc (.cells #[.slice none 0 0] 44)).alloc (.cells #[.slice none 0 0] 44)).alloc (.cells #[.slice (some ⟨b, o, none⟩) parts.length cap] 44)).heap.size = w3.heap.size + 1 + 1 + 1 + 1 := by simp
  rw [s1] at Q8
  rw [s2] at Q9
  rw [s3] at QP
  obtain ⟨W1, hW1⟩ : ∃ W1, (((w3.alloc (.cells #[.slice (some ⟨bR, 0, none⟩) parts.length cR] 44)).alloc (.cells #[.slice none 0 0] 44)).alloc (.cells #[.slice none 0 0] 44)).alloc (.cells #[.slice (some ⟨b, o, none⟩) parts.length cap] 44) = W1 := ⟨_, rfl⟩
  rw [hW1] at Q7 Q8 Q9 QP HB31 s4 ⊢
  clear hW1 s1 s2 s3
  have HB1' := Lib.hid (HB3.out.trans (HB31.out.mono hz3))
  have HO1 := Lib.hid (HO3.out.new HB31.out)
  have hbR := HO3.out.outer.lt
  rename_i Kc hKc
  have rest : ∀ (D : Nat) (W : World) (sel : List (PI parts)) (vS vB : Value), W1.heap.size ≤ D → sel.length = d → (sel.map (·.1) = (pidx parts).take d ∧ d ≤ (pidx parts).length) → WF parts W1 (w3.heap.size + 1) (w3.heap.size + 1 + 1) (rhOf d hdR) (phOf parts A C) vS vB sel W → W.heap[D]? = some (.deferred (some [])) →
      Kc { tmps := #[.slice (some ⟨b, o, none⟩) parts.length cap, .int .i64 d, undef, .pointer (some ⟨w.heap.size, 0, none⟩), .slice none 0 0, .int .i64 0, .int .i64 0, .pointer (some ⟨w3.heap.size, 0, none⟩), .pointer (some ⟨w3.heap.size + 1, 0, none⟩), .pointer (some ⟨w3.heap.size + 1 + 1, 0, none⟩), undef, undef, undef, undef, undef, undef, undef, undef, undef, undef, undef, .slice (some ⟨b, o, none⟩) parts.length cap, .int .i64 d, .int .i64 0, .int .i64 0, .bool false, undef, .int .i64 d, .slice (some ⟨b, o, none⟩) parts.length cap, .int .i64 parts.length, .int .i64 d, .int .i64 (parts.length - d : Nat), .slice (some ⟨bR, 0, none⟩) parts.length cR, .slice (some ⟨b, o, none⟩) parts.length cap, .func (.func 132) #[] #[.pointer (some ⟨w3.heap.size + 1 + 1 + 1, 0, none⟩)], undef, undef, undef, undef, undef, undef, undef, undef, undef, undef, undef, undef, undef, undef, undef, undef, undef, undef, undef, undef, undef, undef, undef, undef, undef, undef, undef, undef, undef, undef, undef, undef, undef, undef, undef, undef, undef, undef, undef, undef, undef, undef, undef, undef, undef, undef, undef, undef, undef, undef, undef, undef, undef, undef, undef, undef, undef, undef, undef, undef], defers := [{ target := .collected D, args := #[] }] } W := by
    intro D W sel vS vB hD hlen hsel hF hK
    refine hKc _ _ (wpIn_wide.2 ?_)
    have hOW := hF.mxS HO1.out (by omega) Q8.out Q9.out
    rw [selM_eq hsel.1] at hOW
    have hz1 := hF.K.size
    have HBW := Lib.hid (HB1'.out.trans (hF.K.below (B := w.heap.size) (by omega) (by omega)))
    obtain ⟨gB, cgB, hvB, hMB⟩ := hF.mxB (HM.out.new HBW.out) (by intro e; rw [e] at hlen; simp at hlen; omega)
    rw [selP_eq hsel.1] at hMB
    rw [hlen] at hvB
    subst hvB
    have c8 := hF.k8.cell (i := 0) rfl
    have c9 := hF.k9.cell (i := 0) rfl
    have hb3W := hF.K.block w.heap.size (by omega) (by omega)
    have c3 : W.cell? ⟨w.heap.size, 0, none⟩ = some (.int .i64 d) := by
      rw [World.cell?_of_block (w := W1) hb3W]
      exact (Hbox3.out.below HB31.out hb3).cell (i := 0) rfl
    have HF := Lib.hid hF
    have HK := Lib.hid hK
    have Hsel := Lib.hid hsel
    have HOW := Lib.hid hOW
    have HMB := Lib.hid hMB
    have Hlen := Lib.hid hlen
    clear hF hK hsel hOW hMB hlen hb3W
    have hSq := selM_sq h1 h2 h3 Hsel.out.2
    have HSq := Lib.hid hSq
    have hml : (selM parts d).length ≤ 1000000000 := by have := hSq.len; omega
    have hDlt : D < W.heap.size := (Array.getElem?_eq_some_iff.1 HK.out).1
    clear hSq
    go_wp2_with fail
    refine (Invert_any vS (selM parts d) W hml HSq.out.bytM HOW.out).mono ?_
    rintro e W4 ⟨vb, hdb, rfl, hG4, hB4⟩
    have HG4 := Lib.hid hG4
    have HB4 := Lib.hid hB4
    have hz4 := hB4.size
    clear hG4 hB4
    by_cases hI : invErr (selM parts d) = 0
    · have HEr := Lib.hid (show wholeErr parts d = 0 by unfold wholeErr; rw [if_neg (by have := Hsel.out.2; omega), hI])
      have HRr := Lib.hid (show wholeRows parts d = prodM (rowsM d (parts.length - d)) (prodM (invRows (selM parts d)) (selP parts d)) by unfold wholeRows; rw [HEr.out, if_pos rfl]; rfl)
      have HBk := Lib.hid (HSq.out.inv hI).1
      rw [hI]
      obtain ⟨hlo, hmi⟩ := parErr_zero HE.out
      obtain ⟨x0, hx0⟩ : ∃ x, x ∈ sel := List.exists_mem_of_ne_nil _ (by intro e; have := Hlen.out; rw [e] at this; simp at this; omega)
      have HRP0 := selP_rect (d := d) hBy hmi (x := x0)
      have hL1 := x0.2.2
      have hL2 := long_le hlo x0.2.1
      have HsPl0 : (selP parts d).length = d := by unfold selP; rw [List.length_map, List.length_take]; have := Hsel.out.2; omega
      have HsP00 : ((selP parts d).getD 0 []).length = plen parts x0.1 := (HRP0.get (i := 0) (by omega)).1
      have HOmW := Lib.hid (HF.out.om HO1.out Q8.out Q9.out)
      generalize plen parts x0.1 = L at *
      generalize invRows (selM parts d) = bk at *
      generalize selP parts d = sP at *
      have HRP := Lib.hid HRP0
      have HsPl := Lib.hid HsPl0
      have HsP0 := Lib.hid HsP00
      obtain ⟨bb, cb, hvb, hcb, _, hOb⟩ := HG4.out.done (by intro h; have := HBk.out.len; rw [h] at this; simp at this; omega)
      rw [HBk.out.len] at hvb hcb
      subst hvb
      have HOb4 := Lib.hid hOb
      have c94 := (HB4.out.cell (p := ⟨w3.heap.size + 1 + 1, 0, none⟩) (by show w3.heap.size + 1 + 1 < _; omega)).trans c9
      clear hOb HRP0 HsPl0 HsP00 hlo hmi hx0 c8 c3 c9
      go_wp2_with fail
      refine (combiner_any _ _ _ _).mono ?_
      rintro e w5' ⟨rfl, rfl⟩
      have HB45a := Lib.hid ((Below.refl W4.heap.size W4).alloc (Nat.le_refl _) (.cells #[.slice (some ⟨gB, 0, none⟩) d cgB] 44))
      have Hbx5 := Lib.hid (Blk.new W4 44 #[.slice (some ⟨gB, 0, none⟩) d cgB])
      obtain ⟨W5, hW5⟩ : ∃ W5, W4.alloc (.cells #[.slice (some ⟨gB, 0, none⟩) d cgB] 44) = W5 := ⟨_, rfl⟩
      rw [hW5] at HB45a Hbx5 ⊢
      clear hW5 c94
      have hz55 := Hbx5.out.lt
      have HOb := Lib.hid (HOb4.out.new HB45a.out)
      have HB45 := Lib.hid (HB4.out.trans (HB45a.out.mono HB4.out.size))
      have HMB5 := Lib.hid (HMB.out.new HB45.out)
      have hz45 := HB45.out.size
      go_wp2_with fail
      go_loopg [14, 68] d (fun gk v i wr => ∃ k : Nat, k + gk = d ∧ i = .int .i64 k ∧ Hid (∃ hd', GM wr W5.heap.size v hd' ((prodM bk sP).take k)) ∧ Hid (Below W5.heap.size W5 wr))
      case atStart => exact ⟨0, by omega, rfl, ⟨[], GM.nil _ _⟩, Below.refl _ _⟩
      case round =>
        obtain ⟨k, hgk, rfl, hG, hB⟩ := hrel
        have Hgk := Lib.hid hgk
        have hk : k ≤ d := by omega
        clear hgk
        by_cases hlt : k < d
        · obtain ⟨hd', hG⟩ := hG.out
          have hrg : bk[k]? = some (bk.getD k []) := getD_some (by rw [HBk.out.len]; exact hlt)
          obtain ⟨p, hp⟩ : ∃ p, hdb[k]? = some p := ⟨hdb.getD k (0, 0), getD_some (by rw [HOb.out.len, HBk.out.len]; exact hlt)⟩
          have hrr := HBk.out.rect.get (i := k) (by rw [HBk.out.len]; exact hlt)
          have hpc := (HOb.out.outer.below hB.out HOb.out.outer.lt).cell (hvs_get hp hrg)
          obtain ⟨hpb, _, hpl⟩ := HOb.out.rows _ p _ hp hrg
          rw [hrr.1] at hpc hpl
          unfold hv at hpc
          have Hrow := Lib.hid (hpb.below hB.out hpb.lt).row
          have Hbxr := Lib.hid ((Hbx5.out.below hB.out Hbx5.out.lt).cell (i := 0) rfl)
          have HMx := Lib.hid (HMB5.out.new hB.out)
          have htk := Lib.hid (prodM_take (b := sP) hrg)
          have Hrr := Lib.hid hrr
          have HG := Lib.hid hG
          have HBr := Lib.hid hB.out
          have hzz : W5.heap.size ≤ wr.heap.size := hB.out.size
          have Hlk := Lib.hid (show ((prodM bk sP).take k).length = k by rw [List.length_take, prodM_length, HBk.out.len]; omega)
          generalize bk.getD k [] = row at *
          clear hG hB hrg hp hpb hrr
          go_wp2_with fail
          refine (combiner1_n p.1 0 p.2 W4.heap.size gB 0 cgB L d d row sP _ _ wr Hrr.out.1 HsPl.out Hrow.out Hbxr.out HMx.out HRP.out rfl h1 (by omega) (by omega) hL1 Hrr.out.2).mono ?_
          rintro e w5 ⟨g, cg, rfl, g1, g2, g3, hblk, hB5⟩
          rw [HsP0.out, HsPl.out] at htk
          generalize prTo row sP L d = pr at *
          have Hblk := Lib.hid hblk
          have HB5 := Lib.hid hB5
          have HGo := Lib.hid ((HG.out.new hB5).outer)
          have Hg2 := Lib.hid g2
          have hz5 := hB5.size
          clear hblk hB5 g2 g3
          go_wp2_with (at_builtin; refine wpList_append_own _ rfl _ _ 44 rfl W5.heap.size 26 j0 (.slice none 0 0) 1 24 Try.underlying44 gi gz0 gz1 gz2 rfl (by decide) _ _ _ rfl (HGo.out.alloc _) ⟨w5.heap.size, 0, none⟩ 1 1 [hv pr.length (g, cg)] rfl rfl ?d1 ?d2 ?d3 ?d4 ?d5 ?_)
          case d1 => exact cell_one_new _ _ _
          case d2 => intro u hu; simp only [List.mem_cons, List.not_mem_nil, or_false] at hu; subst hu; rfl
          case d3 => rw [Hlk.out]; unfold maxLen; omega
          case d4 => rw [Hlk.out]; omega
          case d5 => simp; omega
          intro v' w7 hown hgr _
          have hbl := HBk.out.len
          have hG7 := HG.out.snoc HB5.out (p := (g, cg)) (r := pr) Hblk.out g1 HBr.out.size Hg2.out (by rw [Hlk.out]; simpa [prodM_length, hbl, Nat.min_eq_left hk] using hown) (by simpa using hgr)
          rw [← htk.out] at hG7
          have hB7 : Below W5.heap.size W5 w7 := ((HBr.out.trans (HB5.out.mono HBr.out.size)).alloc (by omega) _).grown hgr (by simp; omega) (fun q hq => (owns_block HG.out.outer hq).2.1)
          have HG7 := Lib.hid hG7
          have HB7 := Lib.hid hB7
          clear hown hgr hG7 hB7 hbl
          go_wp2_with fail
          go_roundg (d - k - 1)
          case measure => have := Hgk.out; omega
          case rel => exact ⟨k + 1, by have := Hgk.out; omega, by go_num, ⟨_, HG7.out⟩, HB7.out⟩
        · have hkn : (prodM bk sP).take k = prodM bk sP := List.take_of_length_le (by rw [prodM_length, HBk.out.len]; omega)
          obtain ⟨hd', hG⟩ := hG.out
          rw [hkn] at hG
          obtain ⟨w6, rfl⟩ : ∃ w6 : World, w6 = wr := ⟨_, rfl⟩
          have hpl : (prodM bk sP).length = d := by rw [prodM_length, HBk.out.len]
          obtain ⟨bo, co, hv6, hco, _, hO6⟩ := hG.done (by intro h; rw [h] at hpl; simp at hpl; omega)
          rw [hpl] at hv6
          subst hv6
          have HO6 := Lib.hid hO6.mxAt
          have HB6 := Lib.hid hB.out
          have hz6 := hB.out.size
          have Hpl := Lib.hid hpl
          have HR6 := Lib.hid (prodM_rect (a := bk) HRP.out (by rw [HsPl.out]; omega))
          have HP0 := Lib.hid (show ((prodM bk sP).getD 0 []).length = L from (HR6.out.get (i := 0) (by rw [hpl]; omega)).1)
          have HBW6 := Lib.hid ((HB45.out.trans (hB.out.mono HB45.out.size)))
          have c76 := (((HF.out.K.cell (p := ⟨w3.heap.size, 0, none⟩) (Q7.out.cell (i := 0) rfl) (by simp; omega))))
          have HOm6 := Lib.hid ((HOmW.out.new HBW6.out))
          have c7W := (HBW6.out.cell (p := ⟨w3.heap.size, 0, none⟩) (by show w3.heap.size < _; omega)).trans c76
          generalize prodM bk sP = og at *
          clear hG hkn hO6 hB hpl c76
          go_wp2_with fail
          refine (combiner_any _ _ _ _).mono ?_
          rintro e w7 ⟨rfl, rfl⟩
          have HB67 := Lib.hid ((Below.refl w6.heap.size w6).alloc (Nat.le_refl _) (.cells #[.slice (some ⟨bo, 0, none⟩) d co] 44))
          have Hbx7 := Lib.hid (Blk.new w6 44 #[.slice (some ⟨bo, 0, none⟩) d co])
          obtain ⟨W7, hW7⟩ : ∃ W7, w6.alloc (.cells #[.slice (some ⟨bo, 0, none⟩) d co] 44) = W7 := ⟨_, rfl⟩
          rw [hW7] at HB67 Hbx7 ⊢
          clear hW7
          have hz7 := HB67.out.size
          have hz77 := Hbx7.out.lt
          have c77 := (HB67.out.cell (p := ⟨w3.heap.size, 0, none⟩) (by show w3.heap.size < _; omega)).trans c7W
          have HOg := Lib.hid (HO6.out.new HB67.out)
          have HOm7 := Lib.hid (HOm6.out.new HB67.out)
          have HBW7 := Lib.hid (HBW6.out.trans (HB67.out.mono HBW6.out.size))
          have HRl := Lib.hid (show (rowsM d (parts.length - d)).length = parts.length by rw [rowsM_length]; omega)
          have HRr2 := Lib.hid (rowsM_rect d (parts.length - d))
          generalize rowsM d (parts.length - d) = rm at *
          clear c7W
          go_wp2_with fail
          go_loopg [15, 83] parts.length (fun gk v i wr => ∃ k : Nat, k + gk = parts.length ∧ i = .int .i64 k ∧ Hid (∃ hd', GM wr W7.heap.size v hd' ((prodM rm og).take k)) ∧ Hid (Below W7.heap.size W7 wr))
          case atStart => exact ⟨0, by omega, rfl, ⟨[], GM.nil _ _⟩, Below.refl _ _⟩
          case round =>
            obtain ⟨q, hgq, rfl, hG, hB⟩ := hrel
            have Hgq := Lib.hid hgq
            have hq : q ≤ parts.length := by omega
            clear hgq
            by_cases hltq : q < parts.length
            · obtain ⟨hd2, hG⟩ := hG.out
              have hrg : rm[q]? = some (rm.getD q []) := getD_some (by rw [HRl.out]; exact hltq)
              obtain ⟨p, hp⟩ : ∃ p, hdR[q]? = some p := ⟨hdR.getD q (0, 0), getD_some (by rw [HOm7.out.len, HRl.out]; exact hltq)⟩
              have hrr := HRr2.out.get (i := q) (by rw [HRl.out]; exact hltq)
              have hpc := (HOm7.out.outer.below hB.out HOm7.out.outer.lt).cell (hvs_get hp hrg)
              obtain ⟨hpb, _, hpl⟩ := HOm7.out.rows _ p _ hp hrg
              rw [hrr.1] at hpc hpl
              unfold hv at hpc
              have Hrow := Lib.hid (hpb.below hB.out hpb.lt).row
              have Hbxr := Lib.hid ((Hbx7.out.below hB.out Hbx7.out.lt).cell (i := 0) rfl)
              have HMx := Lib.hid (HOg.out.new hB.out)
              have htk := Lib.hid (prodM_take (b := og) hrg)
              have Hrr := Lib.hid hrr
              have HG := Lib.hid hG
              have HBr := Lib.hid hB.out
              have hzz : W7.heap.size ≤ wr.heap.size := hB.out.size
              have Hlk := Lib.hid (show ((prodM rm og).take q).length = q by rw [List.length_take, prodM_length, HRl.out]; omega)
              generalize rm.getD q [] = row at *
              clear hG hB hrg hp hpb hrr
              go_wp2_with fail
              refine (combiner1_n p.1 0 p.2 w6.heap.size bo 0 co L d d row og _ _ wr Hrr.out.1 Hpl.out Hrow.out Hbxr.out HMx.out HR6.out rfl h1 (by omega) (by omega) hL1 Hrr.out.2).mono ?_
              rintro e w5 ⟨g, cg, rfl, g1, g2, g3, hblk, hB5⟩
              rw [HP0.out, Hpl.out] at htk
              generalize prTo row og L d = pr at *
              have Hblk := Lib.hid hblk
              have HB5 := Lib.hid hB5
              have HGo := Lib.hid ((HG.out.new hB5).outer)
              have Hg2 := Lib.hid g2
              have hz5 := hB5.size
              clear hblk hB5 g2 g3
              go_wp2_with (at_builtin; refine wpList_append_own _ rfl _ _ 44 rfl W7.heap.size 26 j0 (.slice none 0 0) 1 24 Try.underlying44 gi gz0 gz1 gz2 rfl (by decide) _ _ _ rfl (HGo.out.alloc _) ⟨w5.heap.size, 0, none⟩ 1 1 [hv pr.length (g, cg)] rfl rfl ?e1 ?e2 ?e3 ?e4 ?e5 ?_)
              case e1 => exact cell_one_new _ _ _
              case e2 => intro u hu; simp only [List.mem_cons, List.not_mem_nil, or_false] at hu; subst hu; rfl
              case e3 => rw [Hlk.out]; unfold maxLen; omega
              case e4 => rw [Hlk.out]; omega
              case e5 => simp; omega
              intro v' w9 hown hgr _
              have hbl := HRl.out
              have hG9 := HG.out.snoc HB5.out (p := (g, cg)) (r := pr) Hblk.out g1 HBr.out.size Hg2.out (by rw [Hlk.out]; simpa [prodM_length, hbl, Nat.min_eq_left hq] using hown) (by simpa using hgr)
              rw [← htk.out] at hG9
              have hB9 : Below W7.heap.size W7 w9 := ((HBr.out.trans (HB5.out.mono HBr.out.size)).alloc (by omega) _).grown hgr (by simp; omega) (fun q hq => (owns_block HG.out.outer hq).2.1)
              have HG9 := Lib.hid hG9
              have HB9 := Lib.hid hB9
              clear hown hgr hG9 hB9 hbl
              go_wp2_with fail
              go_roundg (parts.length - q - 1)
              case measure => have := Hgq.out; omega
              case rel => exact ⟨q + 1, by have := Hgq.out; omega, by go_num, ⟨_, HG9.out⟩, HB9.out⟩
            · have hkn : (prodM rm og).take q = prodM rm og := List.take_of_length_le (by rw [prodM_length, HRl.out]; omega)
              obtain ⟨hd2, hG⟩ := hG.out
              rw [hkn] at hG
              have HG := Lib.hid hG
              have HBe := Lib.hid (HBW7.out.trans (hB.out.mono HBW7.out.size))
              clear hG hkn hB
              go_wp2_with fail
              have hKe : wr.heap[D]? = some (.deferred (some [])) := (HBe.out.block D hDlt).trans HK.out
              refine ⟨by simp, .inl ⟨_, _, rfl, run_takeDeferred hKe, ?_⟩⟩
              rw [HEr.out, HRr.out]
              have hze := HBe.out.size
              have HDW := belowK_b (w := w) (Nat.le_refl _) wr D _ (.deferred none) (by omega) hKe rfl rfl
              have hGf := (HG.out.base (show w.heap.size ≤ W7.heap.size by omega)).turn (grownBy_putObj' wr D (.deferred none)) (fun r e => by cases e; exact ⟨_, hKe, rfl⟩)
              exact ⟨.tuple #[_, .int .i64 0], by simp [results, Try.f113, go_sem], _, hd2, rfl, hGf, (HBW.out.trans (HBe.out.mono HBW.out.size)).trans HDW⟩
    · have HEr := Lib.hid (show wholeErr parts d = invErr (selM parts d) by unfold wholeErr; rw [if_neg (by have := Hsel.out.2; omega)])
      have HRr := Lib.hid (show wholeRows parts d = [] by unfold wholeRows; rw [HEr.out, if_neg hI])
      generalize invErr (selM parts d) = ie at *
      have tI : ((ie : Int) != 0) = true := by rw [bne_iff_ne]; omega
      have HI := Lib.hid hI
      clear hI
      go_wp2_with fail
      have hKe : W4.heap[D]? = some (.deferred (some [])) := (HB4.out.block D hDlt).trans HK.out
      refine ⟨by simp, .inl ⟨_, _, rfl, run_takeDeferred hKe, ?_⟩⟩
      rw [HEr.out, HRr.out]
      have HDW := belowK_b (w := w) (Nat.le_refl _) W4 D _ (.deferred none) (by omega) hKe rfl rfl
      exact ⟨.tuple #[.slice none 0 0, .int .i64 ie], by simp [results, Try.f113, go_sem], .slice none 0 0, [], rfl, GM.nil _ _, (HBW.out.trans (HB4.out.mono HBW.out.size)).trans HDW⟩
  refine wpIn_rangeFunc_ownG rfl (by decide) (gf := 132) (lb := #[.pointer (some ⟨w3.heap.size + 1 + 1 + 1, 0, none⟩)]) rfl trivial (enters_of Try.func132 (by kernel_rfl) rfl)
    (present_stops Fence.wide _ trivial rfl (by decide) (w3.heap.size + 1 + 1 + 1) w.heap.size b o cap parts A C (by omega) W1 (by omega) hbw (QP.out.cell rfl) (HM.out.new HB1'.out)) belowK_t (belowK_b (by omega)) (Below.refl _ _) (fun _ => rfl)
    (WI parts d W1 (w3.heap.size + 1) (w3.heap.size + 1 + 1) (rhOf d hdR) (phOf parts A C)) (WX parts d W1 (w3.heap.size + 1) (w3.heap.size + 1 + 1) (rhOf d hdR) (phOf parts A C))
    (WI.own _ _ _ _ _ _ _) (WX.own _ _ _ _ _ _ _) ⟨Nat.zero_le _, _, _, Kept.refl _ _, Q8.out, Q9.out, World.ownsRow_nil _ _ _ _, World.ownsRow_nil _ _ _ _, fun g h => by simp [Value.ownBlock] at h⟩
    (fun x => { tmps := #[.slice (some ⟨b, o, none⟩) parts.length cap, .int .i64 d, undef, .pointer (some ⟨w.heap.size, 0, none⟩), .slice none 0 0, .int .i64 0, .int .i64 0, .pointer (some ⟨w3.heap.size, 0, none⟩), .pointer (some ⟨w3.heap.size + 1, 0, none⟩), .pointer (some ⟨w3.heap.size + 1 + 1, 0, none⟩), .int .i64 (x.1 : Nat), .slice (A x.1) (plen parts x.1) (C x.1), undef, undef, undef, undef, undef, undef, undef, undef, undef, .slice (some ⟨b, o, none⟩) parts.length cap, .int .i64 d, .int .i64 0, .int .i64 0, .bool false, undef, .int .i64 d, .slice (some ⟨b, o, none⟩) parts.length cap, .int .i64 parts.length, .int .i64 d, .int .i64 (parts.length - d : Nat), .slice (some ⟨bR, 0, none⟩) parts.length cR, .slice (some ⟨b, o, none⟩) parts.length cap, .func (.func 132) #[] #[.pointer (some ⟨w3.heap.size + 1 + 1 + 1, 0, none⟩)], .int .i64 (x.1 : Nat), .slice (A x.1) (plen parts x.1) (C x.1), undef, undef, undef, undef, undef, undef, undef, undef, undef, undef, undef, undef, undef, undef, undef, undef, undef, undef, undef, undef, undef, undef, undef, undef, undef, undef, undef, undef, undef, undef, undef, undef, undef, undef, undef, undef, undef, undef, undef, undef, undef, undef, undef, undef, undef, undef, undef, undef, undef, undef, undef, undef, undef, undef, undef, undef, undef, undef], defers := [] }) ?assign ?body ?done ?stop
  case assign =>
    intro l x W K hK
    unfold pEnc
    gi_wp2
    exact hK
  case body =>
    rintro l pre ⟨i, hi1, hi2⟩ W ⟨hle, vS, vB, hF⟩ _
    have HF := Lib.hid hF
    obtain ⟨aB, cB, rfl⟩ := owns_slice hF.oB
    have c9 := hF.k9.cell (i := 0) rfl
    have hb3W := hF.K.block w.heap.size (by omega) (by omega)
    have c3 : W.cell? ⟨w.heap.size, 0, none⟩ = some (.int .i64 d) := by
      rw [World.cell?_of_block (w := W1) hb3W]
      exact (Hbox3.out.below HB31.out hb3).cell (i := 0) rfl
    clear hF hb3W
    dsimp only
    by_cases hd : pre.length = d
    · have tD : ((pre.length : Int) == (d : Int)) = true := by rw [beq_iff_eq]; omega
      have hwx := Lib.hid (show WX parts d W1 (w3.heap.size + 1) (w3.heap.size + 1 + 1) (rhOf d hdR) (phOf parts A C) (.exit 0) (pre ++ [⟨i, hi1, hi2⟩]) W from ⟨rfl, pre, _, rfl, hd, vS, _, HF.out⟩)
      clear hd
      gi_wp2
      exact ⟨KeepsFrom.refl _ _, hwx.out⟩
    · have tD : ((pre.length : Int) == (d : Int)) = false := by rw [beq_eq_false_iff_ne]; omega
      have hlt : pre.length < d := by omega
      clear hd
      have hok : Hid ((⟨w3.heap.size, w3.heap.size + 1, w3.heap.size + 1 + 1, bR, parts.length, cR, i, W1.heap.size, rhOf d hdR i, phOf parts A C i, vS, .slice aB pre.length cB, pre.map fun x => rhOf d hdR x.1, pre.map fun x => phOf parts A C x.1, { W with drawn := W.drawn + 1 }⟩ : RCtx).Ok) := by
        have h7 : Blk W w3.heap.size 44 [.slice (some ⟨bR, 0, none⟩) parts.length cR] := Q7.out.kept HF.out.K (by omega)
        have hR : Blk W bR 26 (hvs hdR (rowsM d (parts.length - d))) := HO1.out.outer.kept HF.out.K (by omega)
        have hri : i < (rowsM d (parts.length - d)).length := by rw [rowsM_length]; omega
        have hrg : (rowsM d (parts.length - d))[i]? = some ((rowsM d (parts.length - d)).getD i []) := getD_some hri
        have hdg : hdR[i]? = some (hdR.getD i (0, 0)) := getD_some (by rw [HO1.out.len]; exact hri)
        have hcell := hR.cell (hvs_get hdg hrg)
        rw [((rowsM_rect d _).get hri).1] at hcell
        have hoS := HF.out.oS
        have hoB := HF.out.oB
        exact { c7 := h7.cell (i := 0) rfl, k7 := h7, k8 := HF.out.k8, k9 := HF.out.k9, n78 := (by simp), n79 := (by simp; omega), n89 := (by simp), cR := hcell, tR := ⟨_, hR⟩, iN := hi1, oS := (by rw [List.length_map]; exact hoS), oB := (by rw [List.length_map]; exact hoB), ne := HF.out.ne, nS := (fun e => by have := (owns_block hoS e).2.1; simp at this; omega), nB := (fun e => by have := (owns_block hoB e).2.1; simp at this; omega), lS := (by simp; omega), lB := (by simp; omega), lN := (by simp; omega), hb := HF.out.K.size, oh := rfl, op := rfl, fh := ⟨_, _, _, rfl⟩,fp := ⟨_, _, _, rfl⟩ }
      gi_wp2
      refine reg10 hok.out ⟨rfl, ⟨_, rfl, rfl, rfl, rfl⟩, ⟨_, rfl, rfl, rfl, rfl⟩, ⟨_, rfl, rfl, rfl, rfl⟩, ⟨_, rfl, rfl, rfl, rfl⟩, ⟨_, rfl, rfl, rfl, rfl⟩, ⟨_, rfl, rfl, rfl, rfl⟩, ⟨_, rfl, rfl, rfl, rfl⟩, ⟨_, rfl, rfl, rfl, rfl⟩, ⟨_, rfl, rfl, rfl, rfl⟩, ⟨_, rfl, rfl, rfl, rfl⟩, ⟨_, rfl, rfl, rfl, rfl⟩, ⟨_, rfl, rfl, rfl, rfl⟩, ⟨_, rfl, rfl, rfl, rfl⟩⟩ (by kernel_rfl) (by kernel_rfl) rfl (by simp) rfl rfl rfl rfl rfl ?_
      intro a' w' vS' vB' hp
      have hz1 := HF.out.K.size
      have hbel := hp.K.below (B := w.heap.size) (by show w.heap.size ≤ W.heap.size; omega) (by
        rintro k hk (e | e | e | e)
        · have := (owns_block HF.out.oS e).2.1; omega
        · have := (owns_block HF.out.oB e).2.1; omega
        · simp at e; omega
        · simp at e; omega)
      have hkeep : KeepsFrom W1.heap.size W w' := by
        have hk := keepsFrom_of (B := W1.heap.size) hp.K (by
          rintro g (e | e | e | e)
          · exact ⟨_, _, (owns_block hok.out.oS e).1⟩
          · exact ⟨_, _, (owns_block hok.out.oB e).1⟩
          · rw [e]; exact ⟨_, _, hok.out.k8⟩
          · rw [e]; exact ⟨_, _, hok.out.k9⟩)
        exact ⟨hk.size, hk.same⟩
      exact ⟨hkeep, ⟨hbel.os, hbel.tape, hbel.output, hbel.size, hbel.block⟩, by simp; omega, _, _, HF.out.next (x := ⟨i, hi1, hi2⟩) hp rfl rfl rfl rfl rfl rfl rfl rfl rfl rfl⟩
  case done =>
    rintro D ys W hD rfl ⟨hle, vS, vB, hF⟩ hK
    have hpl : (pidx parts).length = (piTo parts parts.length).length := by unfold pidx; simp
    obtain ⟨aB, cB, hvB⟩ := owns_slice hF.oB
    have c9 := hF.k9.cell (i := 0) rfl
    rw [hvB] at c9
    have hb3W := hF.K.block w.heap.size (by omega) (by omega)
    have c3 : W.cell? ⟨w.heap.size, 0, none⟩ = some (.int .i64 d) := by
      rw [World.cell?_of_block (w := W1) hb3W]
      exact (Hbox3.out.below HB31.out hb3).cell (i := 0) rfl
    clear hb3W
    by_cases hlt : (piTo parts parts.length).length < d
    · have HEr := Lib.hid (show wholeErr parts d = 26 by unfold wholeErr; rw [if_pos (by omega)])
      have HRr := Lib.hid (show wholeRows parts d = [] by unfold wholeRows; rw [HEr.out]; rfl)
      have HKW := Lib.hid hF.K
      have HK := Lib.hid hK
      generalize hgl : (piTo parts parts.length).length = pl at *
      have hz1 := HKW.out.size
      have HBW := Lib.hid (HB1'.out.trans (HKW.out.below (B := w.heap.size) (by omega) (by omega)))
      have HDW := Lib.hid (belowK_b (w := w) (Nat.le_refl _) W D _ (.deferred none) (by omega) HK.out rfl rfl)
      clear hF hpl hvB hK hgl
      refine hKc _ _ ?_
      gi_wp2_with fail
      refine ⟨by simp, .inl ⟨_, _, rfl, run_takeDeferred HK.out, ?_⟩⟩
      rw [HEr.out, HRr.out]
      exact ⟨.tuple #[.slice none 0 0, .int .i64 26], by simp [results, Try.f113, go_sem], .slice none 0 0, [], rfl, GM.nil _ _, HBW.out.trans HDW.out⟩
    exact rest D W _ vS vB hD (by omega) ⟨by rw [List.take_of_length_le (by omega)]; rfl, by omega⟩ hF hK
  case stop =>
    rintro D c pre W hD ⟨k, hk, hpre⟩ ⟨rfl, ini, x, e1, hlen, vS, vB, hF⟩ hK
    refine wpIn_exit ?_
    exact rest D W ini vS vB hD hlen (sel_stop hk (e1.symm.trans hpre) hlen) hF hK
end Go.Proofs.Ytkclmfppjhmnjaa

namespace Go.Proofs.Ytkclmfppjhmnjaa
open Go.RowKit Go.Shelf

attribute [local go_sem] Oper.semAt_some

def wErr (parts : List (List Nat)) (data : Int) : Nat := if parErr parts data = 0 then wholeErr parts data.toNat else parErr parts data
def wRows (parts : List (List Nat)) (data : Int) : List (List Nat) := if parErr parts data = 0 then wholeRows parts data.toNat else []

theorem parErr_in {parts : List (List Nat)} {data : Int} (h : parErr parts data = 0) : 1 ≤ data ∧ data ≤ parts.length ∧ 1 ≤ parts.length ∧ parts.length ≤ 64 := by
  unfold parErr at h
  split at h
  · simp at h
  split at h
  · simp at h
  omega

set_option maxRecDepth 100000 in
set_option maxHeartbeats 2000000 in
theorem whole_any (v : Value) (parts : List (List Nat)) (data : Int) (w : World) (hn : parts.length ≤ 1000000000) (hBy : BytM parts) (hm : Mx w v parts) (hd1 : -9223372036854775808 ≤ data) (hd2 : data ≤ 9223372036854775807) :
    Calls Try.prog 113 #[v, .int .i64 data] w (RowsErr (wRows parts data) (wErr parts data) w) := by
  by_cases hE : parErr parts data = 0
  · obtain ⟨q1, q2, q3, q4⟩ := parErr_in hE
    have e1 : wErr parts data = wholeErr parts data.toNat := by unfold wErr; rw [if_pos hE]
    have e2 : wRows parts data = wholeRows parts data.toNat := by unfold wRows; rw [if_pos hE]
    rw [e1, e2]
    obtain ⟨d, rfl⟩ : ∃ d : Nat, data = d := ⟨data.toNat, by omega⟩
    rw [Int.toNat_natCast]
    have hm' := hm
    obtain ⟨a, cap, rfl, hcap, h⟩ := hm
    rcases h with h | ⟨b, o, A, C, rfl, hM⟩
    · rw [h] at q3; simp at q3
    exact whole_main b o cap d parts A C w hM hm' hBy hE (by omega) (by omega) q4
  · have e1 : wErr parts data = parErr parts data := by unfold wErr; rw [if_neg hE]
    have e2 : wRows parts data = [] := by unfold wRows; rw [if_neg hE]
    rw [e1, e2]
    have HE := Lib.hid hE
    have Hm := Lib.hid hm
    obtain ⟨pe, hpe⟩ : ∃ pe, parErr parts data = pe := ⟨_, rfl⟩
    have tP : ((pe : Int) != 0) = true := by rw [bne_iff_ne]; rw [hpe] at hE; omega
    have Hpe := Lib.hid hpe
    obtain ⟨a, cap, rfl, hcap, h⟩ := hm
    clear hE e1 e2 hpe h
    refine (callsIn_wide (n := 3)).1 ?_
    refine callsIn_of_wp_marks Try.func113 rfl trivial ?_ rfl
    simp only [Try.ntmps113, List.size_toArray, List.length_cons, List.length_nil, Nat.reduceAdd, Nat.reduceSub, Array.replicate_succ, Array.replicate_zero, List.push_toArray, List.append_toArray, List.nil_append, List.cons_append]
    gi_wp2_with fail
    refine ⟨trivial, ?_⟩
    have HB1 := Lib.hid ((Below.refl w.heap.size w).alloc (Nat.le_refl _) (.cells #[.int .i64 data] 3))
    refine (callsIn_wide.2 (pCheck_any _ parts data _ (by omega) (Hm.out.new HB1.out) hd1 hd2)).mono ?_
    rintro e w2 ⟨rfl, hB2⟩
    rw [Hpe.out]
    have HB2 := Lib.hid (HB1.out.trans (hB2.mono HB1.out.size))
    clear hB2
    gi_wp2_with fail
    exact ⟨.tuple #[.slice none 0 0, .int .i64 pe], by simp [results, Try.f113, go_sem], .slice none 0 0, [], by rw [Hpe.out], GM.nil _ _, HB2.out⟩
end Go.Proofs.Ytkclmfppjhmnjaa
