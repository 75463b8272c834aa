/- The contract of parity.Repair. -/
/- Headers of volumes in memory; contracts of both sizes of parts. -/
/- Headers compared. -/
/- The contracts of slices.Equal and parity.Consistent. -/
import Derived.Test.YtkclmfppjhmnjaaB29
import Derived.Test.YtkclmfppjhmnjaaB21
import Derived.Shelf.RegionOpen
import Derived.Test.YtkclmfppjhmnjaaB12
import Derived.Test.YtkclmfppjhmnjaaB20
import Derived.ChangeKeysEq
namespace Go.Proofs.Ytkclmfppjhmnjaa
open Go.RowKit Go.Shelf

attribute [local go_sem] Oper.semAt_some

/-- The parts of a list, those that are not lost, put over another list. -/
def overTo (parts out : List (List Nat)) : List (PI parts) → List (List Nat)
  | [] => out
  | x :: l => overTo parts (out.set x.1 (parts.getD x.1 [])) l
def overM (parts out : List (List Nat)) : List (List Nat) := overTo parts out (piTo parts parts.length)
def repErr (parts : List (List Nat)) (data : Int) : Nat := wErr parts data
def repRows (parts : List (List Nat)) (data : Int) : List (List Nat) := if wErr parts data = 0 then overM parts (wRows parts data) else []

theorem overTo_snoc (parts out : List (List Nat)) (l : List (PI parts)) (x : PI parts) : overTo parts out (l ++ [x]) = (overTo parts out l).set x.1 (parts.getD x.1 []) := by
  induction l generalizing out with
  | nil => rfl
  | cons y l ih => exact ih _
theorem overTo_length (parts out : List (List Nat)) (l : List (PI parts)) : (overTo parts out l).length = out.length := by
  induction l generalizing out with
  | nil => rfl
  | cons y l ih => show (overTo parts _ l).length = _; rw [ih]; simp

theorem OM.setHd {W W' : World} {B bo : Nat} {hd : List (Nat × Nat)} {m : List (List Nat)} (h : OM W B bo hd m) (k : Below W.heap.size W W') {i : Nat} (hi : i < m.length) {p : Nat × Nat} {r : List Nat} (hb : Blk W' p.1 5 (r.map bv)) (hp : W.heap.size ≤ p.1) (hc : r.length ≤ p.2) (hB : B ≤ W.heap.size) :
    OM (W'.setCell ⟨bo, i, none⟩ (hv r.length p)) B bo (hd.set i p) (m.set i r) := by
  have h' := h.new k
  have hbo := h.outer.lt
  have hpo : p.1 ≠ bo := by omega
  refine { len := by simpa using h.len, inj := ?_, rows := ?_, outer := ?_, obase := h.obase }
  · intro a c x y hx hy e
    by_cases ha : i = a
    · subst ha
      by_cases hc' : i = c
      · exact hc'
      · rw [List.getElem?_set_self (by rw [h.len]; exact hi)] at hx
        rw [List.getElem?_set_ne hc'] at hy
        simp only [Option.some.injEq] at hx
        subst hx
        have := (h.lt hy).1
        omega
    · rw [List.getElem?_set_ne ha] at hx
      by_cases hc' : i = c
      · subst hc'
        rw [List.getElem?_set_self (by rw [h.len]; exact hi)] at hy
        simp only [Option.some.injEq] at hy
        subst hy
        have := (h.lt hx).1
        omega
      · rw [List.getElem?_set_ne hc'] at hy
        exact h.inj a c x y hx hy e
  · intro a x s hx hs
    by_cases ha : i = a
    · subst ha
      rw [List.getElem?_set_self (by rw [h.len]; exact hi)] at hx
      rw [List.getElem?_set_self hi] at hs
      simp only [Option.some.injEq] at hx hs
      subst hx hs
      exact ⟨hb.setCell_other (p := ⟨bo, i, none⟩) hpo _, by omega, hc⟩
    · rw [List.getElem?_set_ne ha] at hx hs
      have h1 := h'.rows a x s hx hs
      exact ⟨h1.1.setCell_other (p := ⟨bo, i, none⟩) (h'.not_row hx) _, h1.2⟩
  · have e : hvs (hd.set i p) (m.set i r) = (hvs hd m).set i (hv r.length p) := by
      apply List.ext_getElem?
      intro j
      simp only [hvs, List.getElem?_zipWith]
      by_cases hj : i = j
      · subst hj
        rw [List.getElem?_set_self (by rw [h.len]; exact hi), List.getElem?_set_self hi, List.getElem?_set_self (by rw [List.length_zipWith, h.len]; simp; exact hi)]
      · rw [List.getElem?_set_ne hj, List.getElem?_set_ne hj, List.getElem?_set_ne hj, List.getElem?_zipWith]
    rw [e]
    exact h'.outer.setCell (by rw [hvs_length h.len]; exact hi) _

theorem OM.turn {W W' : World} {B bo : Nat} {hd : List (Nat × Nat)} {m : List (List Nat)} {row : Option Nat} (h : OM W B bo hd m) (hg : W.grownBy W' row) (hr : ∀ r, row = some r → ∃ o : Obj, W.heap[r]? = some o ∧ o.isCells = false) : OM W' B bo hd m :=
  { h.toOwnRows.kept (Kept.of_grown hg) (fun i p hp => by obtain ⟨r, hx⟩ := h.row hp; exact blk_turn (h.rows i p r hp hx).1 hg hr) with
    outer := h.outer.kept (Kept.of_grown hg) (blk_turn h.outer hg hr), obase := h.obase }

/-- What holds between two rounds of Repair's loop. -/
structure RF (parts : List (List Nat)) (w W1 : World) (bo B6 n co : Nat) (out : List (List Nat)) (pre : List (PI parts)) (W : World) : Prop where
  K : Below w.heap.size w W
  sz : W1.heap.size ≤ W.heap.size
  k6 : Blk W B6 44 [.slice (some ⟨bo, 0, none⟩) n co]
  om : ∃ hd, OM W w.heap.size bo hd (overTo parts out pre)

theorem RF.own (parts : List (List Nat)) (w W1 : World) (bo B6 n co : Nat) (out : List (List Nat)) (hw : w.heap.size ≤ W1.heap.size) : OwnFrom W1.heap.size (RF parts w W1 bo B6 n co out) := by
  rintro s W W' row ⟨h1, h2, h3, hd, h4⟩ hg hr
  have hr' : ∀ r, row = some r → ∃ o : Obj, W.heap[r]? = some o ∧ o.isCells = false := fun r e => (hr r e).2
  exact ⟨h1.grown hg (by omega) fun k e => by have := (hr k e).1; omega, by have := hg.size; omega, h3.kept (Kept.of_grown hg) (blk_turn h3 hg hr'), hd, h4.turn hg hr'⟩

set_option maxRecDepth 100000 in
set_option maxHeartbeats 8000000 in
theorem pRepair_in (b o cap : Nat) (data : Int) (parts out : List (List Nat)) (A : Nat → Option Addr) (C : Nat → Nat) (w : World) (hM : MxAt w b o parts A C) (hm : Mx w (.slice (some ⟨b, o, none⟩) parts.length cap) parts) (hBy : BytM parts) (hE : wErr parts data = 0) (hR : wRows parts data = out) (hol : out.length = parts.length) (h1 : 1 ≤ parts.length) (h2 : parts.length ≤ 64) (hlong : longB parts = false) (hd1 : -9223372036854775808 ≤ data) (hd2 : data ≤ 9223372036854775807) :
    Calls Try.prog 95 #[.slice (some ⟨b, o, none⟩) parts.length cap, .int .i64 data] w (MxErr (overM parts out) 0 w) := by
  have HM := Lib.hid hM
  have Hm := Lib.hid hm
  have HBy := Lib.hid hBy
  have HE := Lib.hid hE
  have HR := Lib.hid hR
  have Hol := Lib.hid hol
  have Hlong := Lib.hid hlong
  have hbw : b < w.heap.size := World.block_lt_of_cell? w _ (hM 0 _ (getD_some (d := []) (by omega))).1
  clear hM hm hBy hE hR hol hlong
  refine (callsIn_wide (n := 3)).1 ?_
  refine callsIn_of_wp_marks Try.func95 rfl trivial ?_ rfl
  simp only [Try.ntmps95, List.size_toArray, List.length_cons, List.length_nil, Nat.reduceAdd, Nat.reduceSub, Array.replicate_succ, Array.replicate_zero, List.push_toArray, List.append_toArray, List.nil_append, List.cons_append]
  gi_wp2_with fail
  refine ⟨trivial, ?_⟩
  refine (callsIn_wide.2 (whole_any _ parts data _ (by omega) HBy.out Hm.out hd1 hd2)).mono ?_
  rintro e w2 ⟨vo, hd, rfl, hG, hB2⟩
  rw [HE.out]
  rw [HR.out] at hG
  obtain ⟨bo, co, hvo, hco, _, hO⟩ := hG.done (by intro h; have := Hol.out; rw [h] at this; simp at this; omega)
  rw [Hol.out] at hvo hco
  subst hvo
  have HO := Lib.hid hO
  have HB2 := Lib.hid hB2
  have hz2 := hB2.size
  clear hG hO hB2
  gi_wp2_with fail
  refine ⟨trivial, ?_⟩
  refine (present_in Fence.wide _ trivial rfl _ _ _ _).mono ?_
  rintro e w1 ⟨rfl, rfl⟩
  gi_wp2_with fail
  have Q6 := Lib.hid ((Blk.new w2 44 #[.slice (some ⟨bo, 0, none⟩) parts.length co]).alloc (.cells #[.slice (some ⟨b, o, none⟩) parts.length cap] 44))
  have QP := Lib.hid (Blk.new (w2.alloc (.cells #[.slice (some ⟨bo, 0, none⟩) parts.length co] 44)) 44 #[.slice (some ⟨b, o, none⟩) parts.length cap])
  have HB21 := Lib.hid (((Below.refl w2.heap.size w2).alloc (Nat.le_refl _) (.cells #[.slice (some ⟨bo, 0, none⟩) parts.length co] 44)).alloc (by simp) (.cells #[.slice (some ⟨b, o, none⟩) parts.length cap] 44))
  have s1 : (w2.alloc (.cells #[.slice (some ⟨bo, 0, none⟩) parts.length co] 44)).heap.size = w2.heap.size + 1 := by simp
  have s2 : ((w2.alloc (.cells #[.slice (some ⟨bo, 0, none⟩) parts.length co] 44)).alloc (.cells #[.slice (some ⟨b, o, none⟩) parts.length cap] 44)).heap.size = w2.heap.size + 1 + 1 := by simp
  rw [s1] at QP
  obtain ⟨W1, hW1⟩ : ∃ W1, (w2.alloc (.cells #[.slice (some ⟨bo, 0, none⟩) parts.length co] 44)).alloc (.cells #[.slice (some ⟨b, o, none⟩) parts.length cap] 44) = W1 := ⟨_, rfl⟩
  rw [hW1] at Q6 QP HB21 s2 ⊢
  clear hW1 s1
  have HB1 := Lib.hid (HB2.out.trans (HB21.out.mono hz2))
  have HO1 := Lib.hid (HO.out.new HB21.out)
  refine wpIn_rangeFunc_ownG rfl (by decide) (gf := 132) (lb := #[.pointer (some ⟨w2.heap.size + 1, 0, none⟩)]) rfl trivial (enters_of Try.func132 (by kernel_rfl) rfl)
    (present_stops Fence.wide _ trivial rfl (by decide) (w2.heap.size + 1) w.heap.size b o cap parts A C (by omega) W1 (by omega) hbw (QP.out.cell rfl) (HM.out.new HB1.out)) belowK_t (belowK_b (by omega)) (Below.refl _ _) (fun _ => rfl)
    (RF parts w W1 bo w2.heap.size parts.length co out) (fun _ _ _ => False)
    (RF.own _ _ _ _ _ _ _ _ (by omega)) (fun _ _ _ _ _ hs _ _ => hs) ⟨HB1.out, Nat.le_refl _, Q6.out, _, HO1.out⟩
    (fun x => { tmps := #[.slice (some ⟨b, o, none⟩) parts.length cap, .int .i64 data, undef, undef, .slice none 0 0, .int .i64 0, .pointer (some ⟨w2.heap.size, 0, none⟩), .int .i64 0, .int .i64 (x.1 : Nat), .slice (A x.1) (plen parts x.1) (C x.1), .tuple #[.slice (some ⟨bo, 0, none⟩) parts.length co, .int .i64 0], .slice (some ⟨b, o, none⟩) parts.length cap, .int .i64 data, .tuple #[.slice (some ⟨bo, 0, none⟩) parts.length co, .int .i64 0], .slice (some ⟨bo, 0, none⟩) parts.length co, .int .i64 0, .int .i64 0, .bool false, undef, .slice (some ⟨b, o, none⟩) parts.length cap, .func (.func 132) #[] #[.pointer (some ⟨w2.heap.size + 1, 0, none⟩)], .int .i64 (x.1 : Nat), .slice (A x.1) (plen parts x.1) (C x.1), undef, undef, undef, undef, undef, undef], defers := [] }) ?assign ?body ?done ?stop
  case assign =>
    intro l x W K hK
    unfold pEnc
    gi_wp2
    exact hK
  case body =>
    rintro l pre ⟨i, hi1, hi2⟩ W ⟨hBW, hsz, h6, hdW, hOW⟩ _
    dsimp only
    have hol := (overTo_length parts out pre).trans Hol.out
    have hpl := long_le Hlong.out hi1
    have hMW := (HM.out.new hBW) i _ (getD_some (d := []) hi1)
    obtain ⟨b', o', hA, hrow⟩ : ∃ b' o', A i = some ⟨b', o', none⟩ ∧ RowAt W b' o' (parts.getD i []) := by
      rcases hMW.2.2.1 with h0 | h
      · unfold plen at hi2; rw [h0] at hi2; simp at hi2
      · exact h
    have c6 := h6.cell (i := 0) rfl
    have l6 := h6.lt
    have hbo := hOW.outer.lt
    obtain ⟨q, hq⟩ : ∃ q, hdW[i]? = some q := ⟨hdW.getD i (0, 0), getD_some (by rw [hOW.len, hol]; exact hi1)⟩
    have cb := hOW.outer.cell (hvs_get hq (getD_some (d := []) (by rw [hol]; exact hi1)))
    have fb := hOW.outer.frozen i
    have HOW := Lib.hid hOW
    have HBW := Lib.hid hBW
    have H6 := Lib.hid h6
    have Hrow := Lib.hid hrow
    have Holp := Lib.hid hol
    have hzw := hBW.size
    rw [hA]
    generalize hv ((overTo parts out pre).getD i []).length q = oldv at cb
    clear hMW hA hrow hOW hBW h6 hol hq
    gi_wp2
    have hmix : Try.prog.follows Departure.mixedOrders = true := by kernel_rfl
    gi_region_with_o (refine ⟨trivial, ?_⟩; gi_at_call 30; refine (CallsIn.inRound l (callsIn_wide.2 (Clone_n b' o' (plen parts i) (parts.getD i []) (C i) _ rfl (by omega) (by exact Hrow.out)))).mono ?_; rintro e W3 ⟨g, cap', rfl, g1, g2, g3, hblk, hB3⟩; have HB3 : Hid (Below W.heap.size W W3) := ⟨hB3.os, hB3.tape, hB3.output, hB3.size, hB3.block⟩; have c63 := (HB3.out.cell (p := ⟨w2.heap.size, 0, none⟩) l6).trans c6; have cb3 := (HB3.out.cell (p := ⟨bo, i, none⟩) hbo).trans cb; have fb3 := (HB3.out.frozen (p := ⟨bo, i, none⟩) hbo).trans fb; have Hblk := Lib.hid hblk; clear hblk hB3)
    all_goals
      have hst := HOW.out.setHd HB3.out (by rw [Holp.out]; exact hi1) (p := (g, cap')) (r := parts.getD i []) Hblk.out g1 g2 (by omega)
      rw [← overTo_snoc parts out pre ⟨i, hi1, hi2⟩] at hst
      have hz3 := HB3.out.size
      have hb6 := (H6.out.below HB3.out H6.out.lt).setCell_other (p := ⟨bo, i, none⟩) (blk_ne (H6.out) HOW.out.outer (by decide)) (hv (parts.getD i []).length (g, cap'))
      have hobl := HOW.out.obase
      have hKO : KeepsFrom W1.heap.size W (W3.setCell ⟨bo, i, none⟩ (hv (parts.getD i []).length (g, cap'))) := keepsFrom_of ((Kept.of_new (S := fun k => k = bo) HB3.out).setCell (p := ⟨bo, i, none⟩) (fun _ => rfl) _) (fun k e => by subst e; exact ⟨_, _, HOW.out.outer⟩)
      exact ⟨hKO, (HB3.out.mono hzw).setCell (p := ⟨bo, i, none⟩) hobl _, ⟨(HBW.out.trans (HB3.out.mono hzw)).setCell (p := ⟨bo, i, none⟩) hobl _, by rw [size_setCell]; omega, hb6, _, hst⟩⟩
  case done =>
    rintro D ys W hD rfl ⟨hBW, hsz, h6, hdW, hOW⟩ hK
    have c6 := h6.cell (i := 0) rfl
    have HOW := Lib.hid hOW
    have HBW := Lib.hid hBW
    have HK := Lib.hid hK
    clear hOW hBW h6 hK
    gi_wp2_with fail
    refine ⟨by simp, .inl ⟨_, _, rfl, run_takeDeferred HK.out, ?_⟩⟩
    have HDW := belowK_b (w := w) (Nat.le_refl _) W D _ (.deferred none) (by omega) HK.out rfl rfl
    have hOf := HOW.out.turn (grownBy_putObj' W D (.deferred none)) (fun r e => by cases e; exact ⟨_, HK.out, rfl⟩)
    have hol := (overTo_length parts out (piTo parts parts.length)).trans Hol.out
    have hmx : Mx (W.putObj D (.deferred none)) (.slice (some ⟨bo, 0, none⟩) parts.length co) (overM parts out) := ⟨some ⟨bo, 0, none⟩, co, by unfold overM; rw [hol], by unfold overM; rw [hol]; exact hco, Or.inr ⟨bo, 0, _, _, rfl, hOf.mxAt⟩⟩
    exact ⟨.tuple #[.slice (some ⟨bo, 0, none⟩) parts.length co, .int .i64 0], by simp [results, Try.f95, go_sem], _, rfl, hmx, HBW.out.trans HDW⟩
  case stop =>
    rintro D c pre W _ _ h _
    exact h.elim

theorem wholeM_length (parts : List (List Nat)) (d : Nat) (h : d ≤ parts.length) : (wholeM parts d).length = parts.length := by
  unfold wholeM; rw [prodM_length, rowsM_length]; omega
theorem wRows_length {parts : List (List Nat)} {data : Int} (h : wErr parts data = 0) : (wRows parts data).length = parts.length ∧ parErr parts data = 0 := by
  unfold wErr at h
  by_cases hE : parErr parts data = 0
  · rw [if_pos hE] at h
    obtain ⟨q1, q2, q3, q4⟩ := parErr_in hE
    refine ⟨?_, hE⟩
    unfold wRows wholeRows
    rw [if_pos hE, if_pos h, wholeM_length _ _ (by omega)]
  · rw [if_neg hE] at h; exact absurd h hE

set_option maxRecDepth 100000 in
set_option maxHeartbeats 2000000 in
theorem pRepair_any (v : Value) (parts : List (List Nat)) (data : Int) (w : World) (hn : parts.length ≤ 1000000000) (hBy : BytM parts) (hm : Mx w v parts) (hd1 : -9223372036854775808 ≤ data) (hd2 : data ≤ 9223372036854775807) :
    Calls Try.prog 95 #[v, .int .i64 data] w (MxErr (repRows parts data) (repErr parts data) w) := by
  by_cases hE : wErr parts data = 0
  · obtain ⟨hl, hP⟩ := wRows_length hE
    obtain ⟨q1, q2, q3, q4⟩ := parErr_in hP
    have hlo : longB parts = false := by
      unfold parErr at hP
      split at hP
      · simp at hP
      split at hP
      · simp at hP
      split at hP
      · simp at hP
      rename_i h
      simpa using h
    have e1 : repErr parts data = 0 := hE
    have e2 : repRows parts data = overM parts (wRows parts data) := by unfold repRows; rw [if_pos hE]
    rw [e1, e2]
    have hm' := hm
    obtain ⟨a, cap, rfl, hcap, h⟩ := hm
    rcases h with h | ⟨b, o, A, C, rfl, hM⟩
    · rw [h] at q3; simp at q3
    exact pRepair_in b o cap data parts _ A C w hM hm' hBy hE rfl hl q3 q4 hlo hd1 hd2
  · have e1 : repErr parts data = wErr parts data := rfl
    have e2 : repRows parts data = [] := by unfold repRows; rw [if_neg hE]
    rw [e1, e2]
    have Hm := Lib.hid hm
    have HBy := Lib.hid hBy
    obtain ⟨pe, hpe⟩ : ∃ pe, wErr parts data = pe := ⟨_, rfl⟩
    have tP : ((pe : Int) != 0) = true := by rw [bne_iff_ne]; rw [hpe] at hE; omega
    have Hpe := Lib.hid hpe
    obtain ⟨a, cap, rfl, hcap, h⟩ := hm
    clear hE e1 e2 hpe h hBy
    refine (callsIn_wide (n := 3)).1 ?_
    refine callsIn_of_wp_marks Try.func95 rfl trivial ?_ rfl
    simp only [Try.ntmps95, List.size_toArray, List.length_cons, List.length_nil, Nat.reduceAdd, Nat.reduceSub, Array.replicate_succ, Array.replicate_zero, List.push_toArray, List.append_toArray, List.nil_append, List.cons_append]
    gi_wp2_with fail
    refine ⟨trivial, ?_⟩
    refine (callsIn_wide.2 (whole_any _ parts data _ (by omega) HBy.out Hm.out hd1 hd2)).mono ?_
    rintro e w2 ⟨vo, hd, rfl, hG, hB2⟩
    obtain ⟨ao, no, co, hvo⟩ : ∃ a n c, vo = .slice a n c := by obtain ⟨a, c, h⟩ := owns_slice hG.outer; exact ⟨a, _, c, h⟩
    subst hvo
    rw [Hpe.out]
    have HB2 := Lib.hid hB2
    clear hB2 hG
    gi_wp2_with fail
    exact ⟨.tuple #[.slice none 0 0, .int .i64 pe], by simp [results, Try.f95, go_sem], .slice none 0 0, by rw [Hpe.out], ⟨none, 0, rfl, Nat.le_refl _, Or.inl rfl⟩, HB2.out.alloc HB2.out.size _⟩
end Go.Proofs.Ytkclmfppjhmnjaa

namespace Go.Proofs.Ytkclmfppjhmnjaa
open Go.RowKit Wire Vol

/-- A header's cells. -/
def hdL (h : Hd) : List Value := [.int .u32 (h.1 : Nat), .int .i64 (h.2.1 : Nat), .int .i64 (h.2.2.1 : Nat), .int .i64 (h.2.2.2.1 : Nat), .int .i64 (h.2.2.2.2 : Nat)]
def hdV (h : Hd) : Value := .agg (hdL h).toArray
/-- What reading a header leaves. -/
def HdRet (l : List Nat) (w : World) (e : Ending) (w' : World) : Prop := ∃ vr, e = .returned (.tuple #[hdV (hdOf l), vr, .int .i64 (hdErr l)]) ∧ BO w' w.heap.size vr (hdP l) ∧ Below w.heap.size w w'
theorem sizeVol : (Try.prog.info? 54).map (·.size) = some 5 := by kernel_rfl
theorem hd_one (h : Hd) : (hdL h).toArray.all (·.oneCell') = true := all_oneCell_toArray (by intro v hv; unfold hdL at hv; simp only [List.mem_cons, List.not_mem_nil, or_false] at hv; rcases hv with h | h | h | h | h <;> rw [h] <;> rfl)
theorem results_cell_tmp2 {fn : Func} {p u v : Tmp} {ty : TypeId} (h : fn.results = #[.cell p ty, .tmp u, .tmp v]) (tmps : Array Value) (P : Program) (w : World) :
    (results fn tmps).run P w =
      ((asAddr (tmps.getD p undef)).run P w).andThen fun a w₁ => ((loadVar ty a).run P w₁).andThen fun x w₂ => .ok (.tuple #[x, tmps.getD u undef, tmps.getD v undef]) w₂ := by
  simp only [results, h]
  simp [Sem.run_bind, Result.andThen]
theorem results_hd {fn : Func} {p u v : Tmp} (h : fn.results = #[.cell p 54, .tmp u, .tmp v]) (tmps : Array Value) (w : World) (R : Nat) (hd : Hd) (hp : tmps.getD p undef = .pointer (some ⟨R, 0, none⟩)) (hb : Blk w R 54 (hdL hd)) :
    (results fn tmps).run Try.prog w = .ok (.tuple #[hdV hd, tmps.getD u undef, tmps.getD v undef]) w := by
  have hl := run_loadVar_mid (P := Try.prog) w R 0 54 (hdL hd) _ hb.range Try.underlying54 rfl sizeVol
  rw [results_cell_tmp2 h, hp]
  simp only [asAddr, Sem.run_pure, Result.andThen_ok, hl]
  rfl
theorem Blk.over {w : World} {g T : Nat} {xs vs : List Value} (h : Blk w g T xs) (hl : vs.length = xs.length) : Blk (w.setCells g 0 vs) g T vs := by
  have := h.setCells (o := 0) (vs := vs) (by omega)
  rwa [spl_all hl] at this
/-- The header that says nothing. -/
abbrev hd0 : Hd := (0, 0, 0, 0, 0)
theorem hdErr_no {l : List Nat} {x : Nat} (h : hdErr l = x) (hx : x ≠ 0) : hdOf l = hd0 ∧ hdP l = [] := by
  unfold hdOf hdP
  rw [if_neg (by rw [h]; exact hx), if_neg (by rw [h]; exact hx)]
  exact ⟨rfl, rfl⟩

set_option maxRecDepth 100000 in
theorem vsize_any (n d : Nat) (w : World) (hn : n ≤ 9007199254740991) (hd : 1 ≤ d) (hd2 : d ≤ 9007199254740991) : Calls Try.prog 50 #[.int .i64 n, .int .i64 d] w fun e w' => e = .returned (.int .i64 (szP n d : Nat)) ∧ w = w' := by
  have HE := Lib.hid (show szP n d = max 1 ((n + d - 1) / d) from rfl)
  have z : ((d : Int) == 0) = false := by rw [beq_eq_false_iff_ne]; omega
  have e1 : ((n : Int) + (d : Int) - 1) / (d : Int) = (((n + d - 1) / d : Nat) : Int) := by rw [Int.natCast_ediv]; congr 1; omega
  have hq : (n + d - 1) / d ≤ n + d - 1 := Nat.div_le_self _ _
  obtain ⟨q, hqd⟩ : ∃ q, (n + d - 1) / d = q := ⟨_, rfl⟩
  rw [hqd] at HE e1 hq
  have hq2 : q ≤ 18014398509481982 := by omega
  clear hqd hq
  go_enter Try.func50, Try.ntmps50
  go_wp2_with fail
  go_ret
  rw [HE.out]
  exact ⟨congrArg (fun z => Ending.returned (.int .i64 z)) (show max (1 : Int) (q : Int) = ((max 1 q : Nat) : Int) by omega), rfl⟩
set_option maxRecDepth 100000 in
theorem r5Size_any (n d : Nat) (w : World) (hn : n ≤ 9007199254740991) (hd : 1 ≤ d) (hd2 : d ≤ 9007199254740991) : Calls Try.prog 53 #[.int .i64 n, .int .i64 d] w fun e w' => e = .returned (.int .i64 (szP n d : Nat)) ∧ w = w' := by
  have HE := Lib.hid (show szP n d = max 1 ((n + d - 1) / d) from rfl)
  have z : ((d : Int) == 0) = false := by rw [beq_eq_false_iff_ne]; omega
  have e1 : ((n : Int) + (d : Int) - 1) / (d : Int) = (((n + d - 1) / d : Nat) : Int) := by rw [Int.natCast_ediv]; congr 1; omega
  have hq : (n + d - 1) / d ≤ n + d - 1 := Nat.div_le_self _ _
  obtain ⟨q, hqd⟩ : ∃ q, (n + d - 1) / d = q := ⟨_, rfl⟩
  rw [hqd] at HE e1 hq
  have hq2 : q ≤ 18014398509481982 := by omega
  clear hqd hq
  go_enter Try.func53, Try.ntmps53
  go_wp2_with fail
  go_ret
  rw [HE.out]
  exact ⟨congrArg (fun z => Ending.returned (.int .i64 z)) (show max (1 : Int) (q : Int) = ((max 1 q : Nat) : Int) by omega), rfl⟩
/-- What stands behind a store of a header. -/
theorem hd_end {w0 w : World} {R : Nat} {xs : List Value} (h : Blk w R 54 xs) (hx : xs.length = 5) (hB : Below w0.heap.size w0 w) (hR : w0.heap.size ≤ R) (hd : Hd) :
    w.there R 0 5 ∧ Blk (w.setCells R 0 (hdL hd)) R 54 (hdL hd) ∧ Below w0.heap.size w0 (w.setCells R 0 (hdL hd)) :=
  ⟨h.there (by omega), h.over hx.symm, below_setCells hB hR 0 _⟩

/-- The numbers of a header, as they come in. -/
def nmN (r0 : List Nat) (i : Nat) : Nat := (nmL 5 r0).getD i 0
theorem nmN_eq (r0 : List Nat) {k : Nat} (h : k < 5) : nmN r0 k = rdNum (nmR k r0) := by
  match k, h with
  | 0, _ => rfl
  | 1, _ => rfl
  | 2, _ => rfl
  | 3, _ => rfl
  | 4, _ => rfl
def cc7 (r0 : List Nat) (k : Nat) : List Value := [.int .i64 ((if 0 < k then nmN r0 0 else 0 : Nat) : Int)]
def cc8 (r0 : List Nat) (k : Nat) : List Value := [.int .u32 ((0 : Nat) : Int), .int .i64 ((if 1 < k then nmN r0 1 else 0 : Nat) : Int), .int .i64 ((if 2 < k then nmN r0 2 else 0 : Nat) : Int), .int .i64 ((if 3 < k then nmN r0 3 else 0 : Nat) : Int), .int .i64 ((if 4 < k then nmN r0 4 else 0 : Nat) : Int)]
def pA (b7 k : Nat) : Addr := if k = 0 then ⟨b7, 0, none⟩ else ⟨b7 + 1, k, none⟩
theorem cc_there {W : World} {b7 k : Nat} {r0 : List Nat} (hk : k < 5) (h7 : Blk W b7 3 (cc7 r0 k)) (h8 : Blk W (b7 + 1) 54 (cc8 r0 k)) : (∃ x, W.cell? (pA b7 k) = some x) ∧ W.frozen? (pA b7 k) = false := by
  match k, hk with
  | 0, _ => exact ⟨⟨_, h7.cell (i := 0) rfl⟩, h7.frozen 0⟩
  | 1, _ => exact ⟨⟨_, h8.cell (i := 1) rfl⟩, h8.frozen 1⟩
  | 2, _ => exact ⟨⟨_, h8.cell (i := 2) rfl⟩, h8.frozen 2⟩
  | 3, _ => exact ⟨⟨_, h8.cell (i := 3) rfl⟩, h8.frozen 3⟩
  | 4, _ => exact ⟨⟨_, h8.cell (i := 4) rfl⟩, h8.frozen 4⟩
theorem cc_step {W : World} {b7 k : Nat} {r0 : List Nat} (hk : k < 5) (h7 : Blk W b7 3 (cc7 r0 k)) (h8 : Blk W (b7 + 1) 54 (cc8 r0 k)) :
    Blk (W.setCell (pA b7 k) (.int .i64 (nmN r0 k : Nat))) b7 3 (cc7 r0 (k + 1)) ∧ Blk (W.setCell (pA b7 k) (.int .i64 (nmN r0 k : Nat))) (b7 + 1) 54 (cc8 r0 (k + 1)) := by
  have n1 : ∀ j : Nat, b7 + 1 ≠ (⟨b7, j, none⟩ : Addr).block := fun j => by show b7 + 1 ≠ b7; omega
  have n2 : ∀ j : Nat, b7 ≠ (⟨b7 + 1, j, none⟩ : Addr).block := fun j => by show b7 ≠ b7 + 1; omega
  match k, hk with
  | 0, _ => exact ⟨h7.setCell (i := 0) (show _ < _ by simp [cc7]) _, h8.setCell_other (n1 0) _⟩
  | 1, _ => exact ⟨h7.setCell_other (n2 1) _, h8.setCell (i := 1) (show _ < _ by simp [cc8]) _⟩
  | 2, _ => exact ⟨h7.setCell_other (n2 2) _, h8.setCell (i := 2) (show _ < _ by simp [cc8]) _⟩
  | 3, _ => exact ⟨h7.setCell_other (n2 3) _, h8.setCell (i := 3) (show _ < _ by simp [cc8]) _⟩
  | 4, _ => exact ⟨h7.setCell_other (n2 4) _, h8.setCell (i := 4) (show _ < _ by simp [cc8]) _⟩
theorem pA_block (b7 k : Nat) : b7 ≤ (pA b7 k).block ∧ (pA b7 k).block ≤ b7 + 1 := by
  unfold pA
  split
  · exact ⟨Nat.le_refl _, by show b7 ≤ b7 + 1; omega⟩
  · exact ⟨by show b7 ≤ b7 + 1; omega, Nat.le_refl _⟩
def pAs (b7 : Nat) : List Value := (List.range 5).map fun i => .pointer (some (pA b7 i))
theorem pAs_get (b7 : Nat) {k : Nat} (hk : k < 5) : (pAs b7)[k]? = some (.pointer (some (pA b7 k))) := by
  unfold pAs; rw [List.getElem?_map, List.getElem?_range hk]; rfl
theorem hd_start (w1 : World) (r0 : List Nat) (W : World) (hW : ((w1.alloc (.cells #[.int .i64 0] 3)).alloc (.cells #[.int .u32 0, .int .i64 0, .int .i64 0, .int .i64 0, .int .i64 0] 54)).alloc
      (.cells #[.pointer (some ⟨w1.heap.size, 0, none⟩), .pointer (some ⟨w1.heap.size + 1, 1, none⟩), .pointer (some ⟨w1.heap.size + 1, 2, none⟩), .pointer (some ⟨w1.heap.size + 1, 3, none⟩), .pointer (some ⟨w1.heap.size + 1, 4, none⟩)] 99) = W) :
    Blk W w1.heap.size 3 (cc7 r0 0) ∧ Blk W (w1.heap.size + 1) 54 (cc8 r0 0) ∧ Blk W (w1.heap.size + 1 + 1) 99 (pAs w1.heap.size) ∧ Below w1.heap.size w1 W := by
  subst hW
  refine ⟨?_, ?_, ?_, ?_⟩
  · exact ((Blk.new w1 3 #[.int .i64 0]).alloc _).alloc _
  · have h := Blk.new (w1.alloc (.cells #[.int .i64 0] 3)) 54 #[.int .u32 0, .int .i64 0, .int .i64 0, .int .i64 0, .int .i64 0]
    rw [show (w1.alloc (.cells #[.int .i64 0] 3)).heap.size = w1.heap.size + 1 by simp] at h
    exact h.alloc _
  · have h := Blk.new ((w1.alloc (.cells #[.int .i64 0] 3)).alloc (.cells #[.int .u32 0, .int .i64 0, .int .i64 0, .int .i64 0, .int .i64 0] 54)) 99 #[.pointer (some ⟨w1.heap.size, 0, none⟩), .pointer (some ⟨w1.heap.size + 1, 1, none⟩), .pointer (some ⟨w1.heap.size + 1, 2, none⟩), .pointer (some ⟨w1.heap.size + 1, 3, none⟩), .pointer (some ⟨w1.heap.size + 1, 4, none⟩)]
    rw [show ((w1.alloc (.cells #[.int .i64 0] 3)).alloc (.cells #[.int .u32 0, .int .i64 0, .int .i64 0, .int .i64 0, .int .i64 0] 54)).heap.size = w1.heap.size + 1 + 1 by simp] at h
    exact h
  · exact (((Below.refl _ _).alloc (Nat.le_refl _) _).alloc (by simp) _).alloc (by simp; omega) _
theorem BO.far {w : World} {B : Nat} {v : Value} {l : List Nat} (h : BO w B v l) {p : Addr} (hp : p.block < B) (u : Value) : BO (w.setCell p u) B v l :=
  owns_kept h ((Kept.refl (fun k => k = p.block) w).setCell (fun _ => rfl) u) (fun g hg e => by have := h.block g hg; omega)
theorem BO.apart {w : World} {B g T : Nat} {v : Value} {l : List Nat} {xs : List Value} (h : BO w B v l) (hb : Blk w g T xs) (hT : T ≠ 5) : ∀ q, v.ownBlock = some q → q ≠ g := by
  intro q hq e
  subst e
  exact hT (hb.type (owns_block h hq).1)
theorem BO.farOf {w : World} {B : Nat} {v : Value} {l : List Nat} (h : BO w B v l) {p : Addr} (hp : ∀ q, v.ownBlock = some q → q ≠ p.block) (u : Value) : BO (w.setCell p u) B v l :=
  owns_kept h ((Kept.refl (fun k => k = p.block) w).setCell (fun _ => rfl) u) hp
theorem BO.farCells {w : World} {B R : Nat} {v : Value} {l : List Nat} (h : BO w B v l) (hp : ∀ q, v.ownBlock = some q → q ≠ R) (vs : List Value) : BO (w.setCells R 0 vs) B v l :=
  owns_kept h (kept_setCells (Kept.refl (fun k => k = R) w) (fun _ => rfl) 0 vs) hp
theorem nmR_byt {r0 : List Nat} (h : Byt r0) (k : Nat) : Byt (nmR k r0) ∧ (nmR k r0).length ≤ r0.length := by
  induction k with
  | zero => exact ⟨h, Nat.le_refl _⟩
  | succ k ih =>
    rw [nmR_succ]
    refine ⟨?_, Nat.le_trans (rdRest_length _) ih.2⟩
    intro x hx
    unfold rdRest at hx
    split at hx
    · exact ih.1 x (List.mem_of_mem_drop hx)
    · cases hx
theorem opB_byt {l : List Nat} (h : Byt l) : Byt (Crc.opB l) ∧ (Crc.opB l).length ≤ l.length := by
  unfold Crc.opB
  split
  · exact ⟨fun x hx => h x (List.mem_of_mem_take hx), by rw [List.length_take]; omega⟩
  · exact ⟨fun x hx => by (cases hx), Nat.zero_le _⟩
end Go.Proofs.Ytkclmfppjhmnjaa

namespace Go.Proofs.Ytkclmfppjhmnjaa
open Go.RowKit Vol

theorem eqIn_hd (dd a b c d e a' b' c' d' e' : Nat) (w : World) : (Op.equalIn (dd + 1 + 1) 54 (.agg #[.int .u32 a, .int .i64 b, .int .i64 c, .int .i64 d, .int .i64 e]) (.agg #[.int .u32 a', .int .i64 b', .int .i64 c', .int .i64 d', .int .i64 e'])).run Try.prog w =
    .ok (((a : Int) == (a' : Int)) && (((b : Int) == (b' : Int)) && (((c : Int) == (c' : Int)) && (((d : Int) == (d' : Int)) && ((e : Int) == (e' : Int)))))) w := by
  have hst : Try.prog.stoodInHeld 54 = false := by kernel_rfl
  have hp1 : Try.prog.plainKey 52 = true := by kernel_rfl
  have hp2 : Try.prog.plainKey 3 = true := by kernel_rfl
  have q1 := fun (n m : Int) => run_equalIn_int (P := Try.prog) w dd 52 .u32 .u32 n m Try.underlying52
  have q2 := fun (n m : Int) => run_equalIn_int (P := Try.prog) w dd 3 .i64 .i64 n m Try.underlying3
  have p1 := fun (xs : Array Value) (x : Value) (hx : xs[0]? = some x) => run_part_plain (P := Try.prog) w hp1 hx
  have p2 := fun (xs : Array Value) (x : Value) (i : Nat) (hx : xs[i]? = some x) => run_part_plain (P := Try.prog) w hp2 hx
  rw [Op.equalIn]
  simp only [Sem.run_bind, run_underlying Try.underlying54, Result.andThen_ok]
  have r0 := p1 #[.int .u32 a, .int .i64 b, .int .i64 c, .int .i64 d, .int .i64 e] _ rfl
  have r1 := p2 #[.int .u32 a, .int .i64 b, .int .i64 c, .int .i64 d, .int .i64 e] _ 1 rfl
  have r2 := p2 #[.int .u32 a, .int .i64 b, .int .i64 c, .int .i64 d, .int .i64 e] _ 2 rfl
  have r3 := p2 #[.int .u32 a, .int .i64 b, .int .i64 c, .int .i64 d, .int .i64 e] _ 3 rfl
  have r4 := p2 #[.int .u32 a, .int .i64 b, .int .i64 c, .int .i64 d, .int .i64 e] _ 4 rfl
  have r0' := p1 #[.int .u32 a', .int .i64 b', .int .i64 c', .int .i64 d', .int .i64 e'] _ rfl
  have r1' := p2 #[.int .u32 a', .int .i64 b', .int .i64 c', .int .i64 d', .int .i64 e'] _ 1 rfl
  have r2' := p2 #[.int .u32 a', .int .i64 b', .int .i64 c', .int .i64 d', .int .i64 e'] _ 2 rfl
  have r3' := p2 #[.int .u32 a', .int .i64 b', .int .i64 c', .int .i64 d', .int .i64 e'] _ 3 rfl
  have r4' := p2 #[.int .u32 a', .int .i64 b', .int .i64 c', .int .i64 d', .int .i64 e'] _ 4 rfl
  have hprog : (program : Sem Program).run Try.prog w = .ok Try.prog w := rfl
  simp [hst, r0, r1, r2, r3, r4, r0', r1', r2', r3', r4', q1, q2, hprog]
  by_cases h1 : (a : Int) = a'
  · by_cases h2 : (b : Int) = b'
    · by_cases h3 : (c : Int) = c'
      · by_cases h4 : (d : Int) = d'
        · by_cases h5 : (e : Int) = e'
          · simp [h1, h2, h3, h4, h5]
          · simp [h1, h2, h3, h4, h5]
        · simp [h1, h2, h3, h4]
      · simp [h1, h2, h3]
    · simp [h1, h2]
  · simp [h1]
theorem eq_hd (h k : Hd) (w : World) : (binOp .eql 54 (hdV h) (hdV k)).run Try.prog w = .ok (.bool (decide (h = k))) w := by
  obtain ⟨a, b, c, d, e⟩ := h
  obtain ⟨a', b', c', d', e'⟩ := k
  have h := eqIn_hd 9998 a b c d e a' b' c' d' e' w
  have hd : (((a : Int) == (a' : Int)) && (((b : Int) == (b' : Int)) && (((c : Int) == (c' : Int)) && (((d : Int) == (d' : Int)) && ((e : Int) == (e' : Int)))))) = decide (((a, b, c, d, e) : Hd) = (a', b', c', d', e')) := by
    rw [Bool.eq_iff_iff]
    simp only [Bool.and_eq_true, beq_iff_eq, decide_eq_true_eq, Prod.mk.injEq]
    omega
  rw [hd] at h
  unfold hdV hdL
  rw [run_eql_struct]
  rw [show (10000 : Nat) = 9998 + 1 + 1 from rfl, show ([.int .u32 ((a, b, c, d, e) : Hd).1, .int .i64 ((a, b, c, d, e) : Hd).2.1, .int .i64 ((a, b, c, d, e) : Hd).2.2.1, .int .i64 ((a, b, c, d, e) : Hd).2.2.2.1, .int .i64 ((a, b, c, d, e) : Hd).2.2.2.2] : List Value).toArray = #[.int .u32 a, .int .i64 b, .int .i64 c, .int .i64 d, .int .i64 e] from rfl, show ([.int .u32 ((a', b', c', d', e') : Hd).1, .int .i64 ((a', b', c', d', e') : Hd).2.1, .int .i64 ((a', b', c', d', e') : Hd).2.2.1, .int .i64 ((a', b', c', d', e') : Hd).2.2.2.1, .int .i64 ((a', b', c', d', e') : Hd).2.2.2.2] : List Value).toArray = #[.int .u32 a', .int .i64 b', .int .i64 c', .int .i64 d', .int .i64 e'] from rfl, h]
  rfl
end Go.Proofs.Ytkclmfppjhmnjaa

namespace Go.Proofs.Ytkclmfppjhmnjaa
open Go.RowKit Go.Shelf

set_option maxRecDepth 100000 in
set_option maxHeartbeats 2000000 in
theorem Equal_any (b o n cap b' o' n' cap' : Nat) (l l' : List Nat) (w : World) (hl : l.length = n) (hl' : l'.length = n') (hn : n ≤ 1000000000) (hn' : n' ≤ 1000000000) (hr : RowAt w b o l) (hr' : RowAt w b' o' l') (hB : Byt l) (hB' : Byt l') :
    Calls Try.prog 82 #[.slice (some ⟨b, o, none⟩) n cap, .slice (some ⟨b', o', none⟩) n' cap'] w fun e w' => e = .returned (.bool (decide (l = l'))) ∧ Below w.heap.size w w' := by
  have Hl := Lib.hid hl
  have Hl' := Lib.hid hl'
  have Hr := Lib.hid hr
  have Hr' := Lib.hid hr'
  have HB := Lib.hid hB
  have HB' := Lib.hid hB'
  by_cases hne : n = n'
  · subst hne
    have tn : ((n : Int) != (n : Int)) = false := by simp
    clear hl hl' hr hr' hB hB'
    go_enter Try.func82, Try.ntmps82
    go_wp2_with fail
    go_loopg [13] n (fun gk i wr => ∃ k : Nat, k + gk = n ∧ i = .int .i64 k ∧ Hid (∀ j, j < k → l.getD j 0 = l'.getD j 0) ∧ Hid (Below w.heap.size w wr))
    case atStart => exact ⟨0, by omega, rfl, fun j hj => by omega, Below.refl _ _⟩
    case round =>
      obtain ⟨k, hgk, rfl, hag, hbl⟩ := hrel
      have Hgk := Lib.hid hgk
      have hk : k ≤ n := by omega
      clear hgk
      by_cases hlt : k < n
      · have c1 := (Hr.out.new hbl.out) k _ (getD_some (d := 0) (by rw [Hl.out]; exact hlt))
        have c2 := (Hr'.out.new hbl.out) k _ (getD_some (d := 0) (by rw [Hl'.out]; exact hlt))
        unfold bv at c1 c2
        have b1 := HB.out.getD k
        have b2 := HB'.out.getD k
        have i1 : (0 : Int) ≤ (k : Int) := by omega
        have i2 : (k : Int) < (n : Int) := by omega
        have Hbl := Lib.hid hbl.out
        by_cases he : l.getD k 0 = l'.getD k 0
        · have hs : Hid (∀ j, j < k + 1 → l.getD j 0 = l'.getD j 0) := by
            intro j hj
            by_cases hjk : j = k
            · rw [hjk]; exact he
            · exact hag.out j (by omega)
          have te : ((l.getD k 0 : Int) != (l'.getD k 0 : Int)) = false := by rw [bne_eq_false_iff_eq]; omega
          generalize l.getD k 0 = x at *
          generalize l'.getD k 0 = y at *
          clear he hag hbl
          go_wp2_with fail
          go_quiet (fail)
          go_wp2_with fail
          go_roundg (n - k - 1)
          case measure => have := Hgk.out; omega
          case rel => exact ⟨k + 1, by have := Hgk.out; omega, by go_num, hs.out, below_drewN Hbl.out _⟩
        · have hr := Lib.hid (show decide (l = l') = false from decide_eq_false fun e => he (by rw [e]))
          have te : ((l.getD k 0 : Int) != (l'.getD k 0 : Int)) = true := by rw [bne_iff_ne]; omega
          generalize l.getD k 0 = x at *
          generalize l'.getD k 0 = y at *
          clear he hag hbl
          go_wp2_with fail
          go_quiet (fail)
          go_wp2_with fail
          go_ret
          exact ⟨by rw [hr.out]; rfl, below_drewN Hbl.out _⟩
      · have hr := Lib.hid (show decide (l = l') = true from decide_eq_true (by
          apply List.ext_getElem?
          intro j
          by_cases hj : j < n
          · have := hag.out j (by omega)
            rw [getD_some (l := l) (d := 0) (by rw [Hl.out]; exact hj), getD_some (l := l') (d := 0) (by rw [Hl'.out]; exact hj), this]
          · rw [List.getElem?_eq_none (by rw [Hl.out]; omega), List.getElem?_eq_none (by rw [Hl'.out]; omega)]))
        have Hbl := Lib.hid hbl.out
        clear hag hbl
        go_wp2_with fail
        go_ret
        exact ⟨by rw [hr.out]; rfl, Hbl.out⟩
  · have tn : ((n : Int) != (n' : Int)) = true := by rw [bne_iff_ne]; omega
    have hr := Lib.hid (show decide (l = l') = false from decide_eq_false fun e => hne (by rw [← Hl.out, ← Hl'.out, e]))
    clear hl hl' hr' hB hB' hne
    go_enter Try.func82, Try.ntmps82
    go_wp2_with fail
    go_ret
    exact ⟨by rw [hr.out]; rfl, Below.refl _ _⟩
end Go.Proofs.Ytkclmfppjhmnjaa
