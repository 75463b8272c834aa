/- The contract of parity.Repair. -/
import Derived.Test.YtlbomlolomcolaaPar8
import Derived.Test.YtlbomlolomcolaaRef7
import Derived.Shelf.RegionOpen
namespace Go.Proofs.Ytlbomlolomcolaa
open Go.RowKit Go.Shelf

attribute [local go_sem] Oper.semAt_some

/-- The parts of a list, those that are not lost, put over another list. -/
def overTo (parts out : List (List Nat)) : List (PI parts) → List (List Nat)
  | [] => out
  | x :: l => overTo parts (out.set x.1 (parts.getD x.1 [])) l
def overM (parts out : List (List Nat)) : List (List Nat) := overTo parts out (piTo parts parts.length)
def repErr (parts : List (List Nat)) (data : Int) : Nat := wErr parts data
def repRows (parts : List (List Nat)) (data : Int) : List (List Nat) := if wErr parts data = 0 then overM parts (wRows parts data) else []

theorem overTo_snoc (parts out : List (List Nat)) (l : List (PI parts)) (x : PI parts) : overTo parts out (l ++ [x]) = (overTo parts out l).set x.1 (parts.getD x.1 []) := by
  induction l generalizing out with
  | nil => rfl
  | cons y l ih => exact ih _
theorem overTo_length (parts out : List (List Nat)) (l : List (PI parts)) : (overTo parts out l).length = out.length := by
  induction l generalizing out with
  | nil => rfl
  | cons y l ih => show (overTo parts _ l).length = _; rw [ih]; simp

theorem OM.setHd {W W' : World} {B bo : Nat} {hd : List (Nat × Nat)} {m : List (List Nat)} (h : OM W B bo hd m) (k : Below W.heap.size W W') {i : Nat} (hi : i < m.length) {p : Nat × Nat} {r : List Nat} (hb : Blk W' p.1 5 (r.map bv)) (hp : W.heap.size ≤ p.1) (hc : r.length ≤ p.2) (hB : B ≤ W.heap.size) :
    OM (W'.setCell ⟨bo, i, none⟩ (hv r.length p)) B bo (hd.set i p) (m.set i r) := by
  have h' := h.new k
  have hbo := h.outer.lt
  have hpo : p.1 ≠ bo := by omega
  refine { len := by simpa using h.len, inj := ?_, rows := ?_, outer := ?_, obase := h.obase }
  · intro a c x y hx hy e
    by_cases ha : i = a
    · subst ha
      by_cases hc' : i = c
      · exact hc'
      · rw [List.getElem?_set_self (by rw [h.len]; exact hi)] at hx
        rw [List.getElem?_set_ne hc'] at hy
        simp only [Option.some.injEq] at hx
        subst hx
        have := (h.lt hy).1
        omega
    · rw [List.getElem?_set_ne ha] at hx
      by_cases hc' : i = c
      · subst hc'
        rw [List.getElem?_set_self (by rw [h.len]; exact hi)] at hy
        simp only [Option.some.injEq] at hy
        subst hy
        have := (h.lt hx).1
        omega
      · rw [List.getElem?_set_ne hc'] at hy
        exact h.inj a c x y hx hy e
  · intro a x s hx hs
    by_cases ha : i = a
    · subst ha
      rw [List.getElem?_set_self (by rw [h.len]; exact hi)] at hx
      rw [List.getElem?_set_self hi] at hs
      simp only [Option.some.injEq] at hx hs
      subst hx hs
      exact ⟨hb.setCell_other (p := ⟨bo, i, none⟩) hpo _, by omega, hc⟩
    · rw [List.getElem?_set_ne ha] at hx hs
      have h1 := h'.rows a x s hx hs
      exact ⟨h1.1.setCell_other (p := ⟨bo, i, none⟩) (h'.not_row hx) _, h1.2⟩
  · have e : hvs (hd.set i p) (m.set i r) = (hvs hd m).set i (hv r.length p) := by
      apply List.ext_getElem?
      intro j
      simp only [hvs, List.getElem?_zipWith]
      by_cases hj : i = j
      · subst hj
        rw [List.getElem?_set_self (by rw [h.len]; exact hi), List.getElem?_set_self hi, List.getElem?_set_self (by rw [List.length_zipWith, h.len]; simp; exact hi)]
      · rw [List.getElem?_set_ne hj, List.getElem?_set_ne hj, List.getElem?_set_ne hj, List.getElem?_zipWith]
    rw [e]
    exact h'.outer.setCell (by rw [hvs_length h.len]; exact hi) _

theorem OM.turn {W W' : World} {B bo : Nat} {hd : List (Nat × Nat)} {m : List (List Nat)} {row : Option Nat} (h : OM W B bo hd m) (hg : W.grownBy W' row) (hr : ∀ r, row = some r → ∃ o : Obj, W.heap[r]? = some o ∧ o.isCells = false) : OM W' B bo hd m :=
  { h.toOwnRows.kept (Kept.of_grown hg) (fun i p hp => by obtain ⟨r, hx⟩ := h.row hp; exact blk_turn (h.rows i p r hp hx).1 hg hr) with
    outer := h.outer.kept (Kept.of_grown hg) (blk_turn h.outer hg hr), obase := h.obase }

/-- What holds between two rounds of Repair's loop. -/
structure RF (parts : List (List Nat)) (w W1 : World) (bo B6 n co : Nat) (out : List (List Nat)) (pre : List (PI parts)) (W : World) : Prop where
  K : Below w.heap.size w W
  sz : W1.heap.size ≤ W.heap.size
  k6 : Blk W B6 39 [.slice (some ⟨bo, 0, none⟩) n co]
  om : ∃ hd, OM W w.heap.size bo hd (overTo parts out pre)

theorem RF.own (parts : List (List Nat)) (w W1 : World) (bo B6 n co : Nat) (out : List (List Nat)) (hw : w.heap.size ≤ W1.heap.size) : OwnFrom W1.heap.size (RF parts w W1 bo B6 n co out) := by
  rintro s W W' row ⟨h1, h2, h3, hd, h4⟩ hg hr
  have hr' : ∀ r, row = some r → ∃ o : Obj, W.heap[r]? = some o ∧ o.isCells = false := fun r e => (hr r e).2
  exact ⟨h1.grown hg (by omega) fun k e => by have := (hr k e).1; omega, by have := hg.size; omega, h3.kept (Kept.of_grown hg) (blk_turn h3 hg hr'), hd, h4.turn hg hr'⟩

set_option maxRecDepth 100000 in
set_option maxHeartbeats 8000000 in
theorem pRepair_in (b o cap : Nat) (data : Int) (parts out : List (List Nat)) (A : Nat → Option Addr) (C : Nat → Nat) (w : World) (hM : MxAt w b o parts A C) (hm : Mx w (.slice (some ⟨b, o, none⟩) parts.length cap) parts) (hBy : BytM parts) (hE : wErr parts data = 0) (hR : wRows parts data = out) (hol : out.length = parts.length) (h1 : 1 ≤ parts.length) (h2 : parts.length ≤ 64) (hlong : longB parts = false) (hd1 : -9223372036854775808 ≤ data) (hd2 : data ≤ 9223372036854775807) :
    Calls Try.prog 30 #[.slice (some ⟨b, o, none⟩) parts.length cap, .int .i64 data] w (MxErr (overM parts out) 0 w) := by
  have HM := Lib.hid hM
  have Hm := Lib.hid hm
  have HBy := Lib.hid hBy
  have HE := Lib.hid hE
  have HR := Lib.hid hR
  have Hol := Lib.hid hol
  have Hlong := Lib.hid hlong
  have hbw : b < w.heap.size := World.block_lt_of_cell? w _ (hM 0 _ (getD_some (d := []) (by omega))).1
  clear hM hm hBy hE hR hol hlong
  refine (callsIn_wide (n := 3)).1 ?_
  refine callsIn_of_wp_marks Try.func30 rfl trivial ?_ rfl
  simp only [Try.ntmps30, List.size_toArray, List.length_cons, List.length_nil, Nat.reduceAdd, Nat.reduceSub, Array.replicate_succ, Array.replicate_zero, List.push_toArray, List.append_toArray, List.nil_append, List.cons_append]
  gi_wp2_with fail
  refine ⟨trivial, ?_⟩
  refine (callsIn_wide.2 (whole_any _ parts data _ (by omega) HBy.out Hm.out hd1 hd2)).mono ?_
  rintro e w2 ⟨vo, hd, rfl, hG, hB2⟩
  rw [HE.out]
  rw [HR.out] at hG
  obtain ⟨bo, co, hvo, hco, _, hO⟩ := hG.done (by intro h; have := Hol.out; rw [h] at this; simp at this; omega)
  rw [Hol.out] at hvo hco
  subst hvo
  have HO := Lib.hid hO
  have HB2 := Lib.hid hB2
  have hz2 := hB2.size
  clear hG hO hB2
  gi_wp2_with fail
  refine ⟨trivial, ?_⟩
  refine (present_in Fence.wide _ trivial rfl _ _ _ _).mono ?_
  rintro e w1 ⟨rfl, rfl⟩
  gi_wp2_with fail
  have Q6 := Lib.hid ((Blk.new w2 39 #[.slice (some ⟨bo, 0, none⟩) parts.length co]).alloc (.cells #[.slice (some ⟨b, o, none⟩) parts.length cap] 39))
  have QP := Lib.hid (Blk.new (w2.alloc (.cells #[.slice (some ⟨bo, 0, none⟩) parts.length co] 39)) 39 #[.slice (some ⟨b, o, none⟩) parts.length cap])
  have HB21 := Lib.hid (((Below.refl w2.heap.size w2).alloc (Nat.le_refl _) (.cells #[.slice (some ⟨bo, 0, none⟩) parts.length co] 39)).alloc (by simp) (.cells #[.slice (some ⟨b, o, none⟩) parts.length cap] 39))
  have s1 : (w2.alloc (.cells #[.slice (some ⟨bo, 0, none⟩) parts.length co] 39)).heap.size = w2.heap.size + 1 := by simp
  have s2 : ((w2.alloc (.cells #[.slice (some ⟨bo, 0, none⟩) parts.length co] 39)).alloc (.cells #[.slice (some ⟨b, o, none⟩) parts.length cap] 39)).heap.size = w2.heap.size + 1 + 1 := by simp
  rw [s1] at QP
  obtain ⟨W1, hW1⟩ : ∃ W1, (w2.alloc (.cells #[.slice (some ⟨bo, 0, none⟩) parts.length co] 39)).alloc (.cells #[.slice (some ⟨b, o, none⟩) parts.length cap] 39) = W1 := ⟨_, rfl⟩
  rw [hW1] at Q6 QP HB21 s2 ⊢
  clear hW1 s1
  have HB1 := Lib.hid (HB2.out.trans (HB21.out.mono hz2))
  have HO1 := Lib.hid (HO.out.new HB21.out)
  refine wpIn_rangeFunc_ownG rfl (by decide) (gf := 80) (lb := #[.pointer (some ⟨w2.heap.size + 1, 0, none⟩)]) rfl trivial (enters_of Try.func80 (by kernel_rfl) rfl)
    (present_stops Fence.wide _ trivial rfl (by decide) (w2.heap.size + 1) w.heap.size b o cap parts A C (by omega) W1 (by omega) hbw (QP.out.cell rfl) (HM.out.new HB1.out)) belowK_t (belowK_b (by omega)) (Below.refl _ _) (fun _ => rfl)
    (RF parts w W1 bo w2.heap.size parts.length co out) (fun _ _ _ => False)
    (RF.own _ _ _ _ _ _ _ _ (by omega)) (fun _ _ _ _ _ hs _ _ => hs) ⟨HB1.out, Nat.le_refl _, Q6.out, _, HO1.out⟩
    (fun x => { tmps := #[.slice (some ⟨b, o, none⟩) parts.length cap, .int .i64 data, undef, undef, .slice none 0 0, .int .i64 0, .pointer (some ⟨w2.heap.size, 0, none⟩), .int .i64 0, .int .i64 (x.1 : Nat), .slice (A x.1) (plen parts x.1) (C x.1), .tuple #[.slice (some ⟨bo, 0, none⟩) parts.length co, .int .i64 0], .slice (some ⟨b, o, none⟩) parts.length cap, .int .i64 data, .tuple #[.slice (some ⟨bo, 0, none⟩) parts.length co, .int .i64 0], .slice (some ⟨bo, 0, none⟩) parts.length co, .int .i64 0, .int .i64 0, .bool false, undef, .slice (some ⟨b, o, none⟩) parts.length cap, .func (.func 80) #[] #[.pointer (some ⟨w2.heap.size + 1, 0, none⟩)], .int .i64 (x.1 : Nat), .slice (A x.1) (plen parts x.1) (C x.1), undef, undef, undef, undef, undef, undef], defers := [] }) ?assign ?body ?done ?stop
  case assign =>
    intro l x W K hK
    unfold pEnc
    gi_wp2
    exact hK
  case body =>
    rintro l pre ⟨i, hi1, hi2⟩ W ⟨hBW, hsz, h6, hdW, hOW⟩ _
    dsimp only
    have hol := (overTo_length parts out pre).trans Hol.out
    have hpl := long_le Hlong.out hi1
    have hMW := (HM.out.new hBW) i _ (getD_some (d := []) hi1)
    obtain ⟨b', o', hA, hrow⟩ : ∃ b' o', A i = some ⟨b', o', none⟩ ∧ RowAt W b' o' (parts.getD i []) := by
      rcases hMW.2.2.1 with h0 | h
      · unfold plen at hi2; rw [h0] at hi2; simp at hi2
      · exact h
    have c6 := h6.cell (i := 0) rfl
    have l6 := h6.lt
    have hbo := hOW.outer.lt
    obtain ⟨q, hq⟩ : ∃ q, hdW[i]? = some q := ⟨hdW.getD i (0, 0), getD_some (by rw [hOW.len, hol]; exact hi1)⟩
    have cb := hOW.outer.cell (hvs_get hq (getD_some (d := []) (by rw [hol]; exact hi1)))
    have fb := hOW.outer.frozen i
    have HOW := Lib.hid hOW
    have HBW := Lib.hid hBW
    have H6 := Lib.hid h6
    have Hrow := Lib.hid hrow
    have Holp := Lib.hid hol
    have hzw := hBW.size
    rw [hA]
    generalize hv ((overTo parts out pre).getD i []).length q = oldv at cb
    clear hMW hA hrow hOW hBW h6 hol hq
    gi_wp2
    have hmix : Try.prog.follows Departure.mixedOrders = true := by kernel_rfl
    gi_region_with_o (refine ⟨trivial, ?_⟩; gi_at_call 57; refine (CallsIn.inRound l (callsIn_wide.2 (Clone_n b' o' (plen parts i) (parts.getD i []) (C i) _ rfl (by omega) (by exact Hrow.out)))).mono ?_; rintro e W3 ⟨g, cap', rfl, g1, g2, g3, hblk, hB3⟩; have HB3 : Hid (Below W.heap.size W W3) := ⟨hB3.os, hB3.tape, hB3.output, hB3.size, hB3.block⟩; have c63 := (HB3.out.cell (p := ⟨w2.heap.size, 0, none⟩) l6).trans c6; have cb3 := (HB3.out.cell (p := ⟨bo, i, none⟩) hbo).trans cb; have fb3 := (HB3.out.frozen (p := ⟨bo, i, none⟩) hbo).trans fb; have Hblk := Lib.hid hblk; clear hblk hB3)
    all_goals
      have hst := HOW.out.setHd HB3.out (by rw [Holp.out]; exact hi1) (p := (g, cap')) (r := parts.getD i []) Hblk.out g1 g2 (by omega)
      rw [← overTo_snoc parts out pre ⟨i, hi1, hi2⟩] at hst
      have hz3 := HB3.out.size
      have hb6 := (H6.out.below HB3.out H6.out.lt).setCell_other (p := ⟨bo, i, none⟩) (blk_ne (H6.out) HOW.out.outer (by decide)) (hv (parts.getD i []).length (g, cap'))
      have hobl := HOW.out.obase
      have hKO : KeepsFrom W1.heap.size W (W3.setCell ⟨bo, i, none⟩ (hv (parts.getD i []).length (g, cap'))) := keepsFrom_of ((Kept.of_new (S := fun k => k = bo) HB3.out).setCell (p := ⟨bo, i, none⟩) (fun _ => rfl) _) (fun k e => by subst e; exact ⟨_, _, HOW.out.outer⟩)
      exact ⟨hKO, (HB3.out.mono hzw).setCell (p := ⟨bo, i, none⟩) hobl _, ⟨(HBW.out.trans (HB3.out.mono hzw)).setCell (p := ⟨bo, i, none⟩) hobl _, by rw [size_setCell]; omega, hb6, _, hst⟩⟩
  case done =>
    rintro D ys W hD rfl ⟨hBW, hsz, h6, hdW, hOW⟩ hK
    have c6 := h6.cell (i := 0) rfl
    have HOW := Lib.hid hOW
    have HBW := Lib.hid hBW
    have HK := Lib.hid hK
    clear hOW hBW h6 hK
    gi_wp2_with fail
    refine ⟨by simp, .inl ⟨_, _, rfl, run_takeDeferred HK.out, ?_⟩⟩
    have HDW := belowK_b (w := w) (Nat.le_refl _) W D _ (.deferred none) (by omega) HK.out rfl rfl
    have hOf := HOW.out.turn (grownBy_putObj' W D (.deferred none)) (fun r e => by cases e; exact ⟨_, HK.out, rfl⟩)
    have hol := (overTo_length parts out (piTo parts parts.length)).trans Hol.out
    have hmx : Mx (W.putObj D (.deferred none)) (.slice (some ⟨bo, 0, none⟩) parts.length co) (overM parts out) := ⟨some ⟨bo, 0, none⟩, co, by unfold overM; rw [hol], by unfold overM; rw [hol]; exact hco, Or.inr ⟨bo, 0, _, _, rfl, hOf.mxAt⟩⟩
    exact ⟨.tuple #[.slice (some ⟨bo, 0, none⟩) parts.length co, .int .i64 0], by simp [results, Try.f30, go_sem], _, rfl, hmx, HBW.out.trans HDW⟩
  case stop =>
    rintro D c pre W _ _ h _
    exact h.elim

theorem wholeM_length (parts : List (List Nat)) (d : Nat) (h : d ≤ parts.length) : (wholeM parts d).length = parts.length := by
  unfold wholeM; rw [prodM_length, rowsM_length]; omega
theorem wRows_length {parts : List (List Nat)} {data : Int} (h : wErr parts data = 0) : (wRows parts data).length = parts.length ∧ parErr parts data = 0 := by
  unfold wErr at h
  by_cases hE : parErr parts data = 0
  · rw [if_pos hE] at h
    obtain ⟨q1, q2, q3, q4⟩ := parErr_in hE
    refine ⟨?_, hE⟩
    unfold wRows wholeRows
    rw [if_pos hE, if_pos h, wholeM_length _ _ (by omega)]
  · rw [if_neg hE] at h; exact absurd h hE

set_option maxRecDepth 100000 in
set_option maxHeartbeats 2000000 in
theorem pRepair_any (v : Value) (parts : List (List Nat)) (data : Int) (w : World) (hn : parts.length ≤ 1000000000) (hBy : BytM parts) (hm : Mx w v parts) (hd1 : -9223372036854775808 ≤ data) (hd2 : data ≤ 9223372036854775807) :
    Calls Try.prog 30 #[v, .int .i64 data] w (MxErr (repRows parts data) (repErr parts data) w) := by
  by_cases hE : wErr parts data = 0
  · obtain ⟨hl, hP⟩ := wRows_length hE
    obtain ⟨q1, q2, q3, q4⟩ := parErr_in hP
    have hlo : longB parts = false := by
      unfold parErr at hP
      split at hP
      · simp at hP
      split at hP
      · simp at hP
      split at hP
      · simp at hP
      rename_i h
      simpa using h
    have e1 : repErr parts data = 0 := hE
    have e2 : repRows parts data = overM parts (wRows parts data) := by unfold repRows; rw [if_pos hE]
    rw [e1, e2]
    have hm' := hm
    obtain ⟨a, cap, rfl, hcap, h⟩ := hm
    rcases h with h | ⟨b, o, A, C, rfl, hM⟩
    · rw [h] at q3; simp at q3
    exact pRepair_in b o cap data parts _ A C w hM hm' hBy hE rfl hl q3 q4 hlo hd1 hd2
  · have e1 : repErr parts data = wErr parts data := rfl
    have e2 : repRows parts data = [] := by unfold repRows; rw [if_neg hE]
    rw [e1, e2]
    have Hm := Lib.hid hm
    have HBy := Lib.hid hBy
    obtain ⟨pe, hpe⟩ : ∃ pe, wErr parts data = pe := ⟨_, rfl⟩
    have tP : ((pe : Int) != 0) = true := by rw [bne_iff_ne]; rw [hpe] at hE; omega
    have Hpe := Lib.hid hpe
    obtain ⟨a, cap, rfl, hcap, h⟩ := hm
    clear hE e1 e2 hpe h hBy
    refine (callsIn_wide (n := 3)).1 ?_
    refine callsIn_of_wp_marks Try.func30 rfl trivial ?_ rfl
    simp only [Try.ntmps30, List.size_toArray, List.length_cons, List.length_nil, Nat.reduceAdd, Nat.reduceSub, Array.replicate_succ, Array.replicate_zero, List.push_toArray, List.append_toArray, List.nil_append, List.cons_append]
    gi_wp2_with fail
    refine ⟨trivial, ?_⟩
    refine (callsIn_wide.2 (whole_any _ parts data _ (by omega) HBy.out Hm.out hd1 hd2)).mono ?_
    rintro e w2 ⟨vo, hd, rfl, hG, hB2⟩
    obtain ⟨ao, no, co, hvo⟩ : ∃ a n c, vo = .slice a n c := by obtain ⟨a, c, h⟩ := owns_slice hG.outer; exact ⟨a, _, c, h⟩
    subst hvo
    rw [Hpe.out]
    have HB2 := Lib.hid hB2
    clear hB2 hG
    gi_wp2_with fail
    exact ⟨.tuple #[.slice none 0 0, .int .i64 pe], by simp [results, Try.f30, go_sem], .slice none 0 0, by rw [Hpe.out], ⟨none, 0, rfl, Nat.le_refl _, Or.inl rfl⟩, HB2.out.alloc HB2.out.size _⟩
end Go.Proofs.Ytlbomlolomcolaa
