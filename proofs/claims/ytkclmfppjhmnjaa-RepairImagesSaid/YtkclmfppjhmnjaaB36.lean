/- The contract of volume.Split. -/
/- Sets of volumes in memory. -/
import Derived.Test.YtkclmfppjhmnjaaB33
import Derived.Test.YtkclmfppjhmnjaaB34
import Derived.Test.YtkclmfppjhmnjaaB35
import Derived.Test.YtkclmfppjhmnjaaB32
import Derived.Test.YtkclmfppjhmnjaaB30
namespace Go.Proofs.Ytkclmfppjhmnjaa
open Go.RowKit Wire Vol Crc

theorem szP_mul (n : Nat) {d : Nat} (hd : 1 ≤ d) : n ≤ d * szP n d := by
  have h1 := Nat.div_add_mod (n + d - 1) d
  have h2 := Nat.mod_lt (n + d - 1) (show 0 < d by omega)
  have h3 : d * ((n + d - 1) / d) ≤ d * szP n d := Nat.mul_le_mul_left _ (Nat.le_max_right _ _)
  omega
theorem szP_pos (n d : Nat) : 1 ≤ szP n d := Nat.le_max_left _ _
theorem szP_le {n d : Nat} (h : n ≤ 65536) (hd : 1 ≤ d) : szP n d ≤ 65536 := by
  unfold szP
  refine Nat.max_le.2 ⟨by decide, ?_⟩
  refine Nat.le_trans ?_ (show max 1 n ≤ 65536 from Nat.max_le.2 ⟨by decide, h⟩)
  refine Nat.div_le_of_le_mul ?_
  obtain ⟨e, rfl⟩ : ∃ e, d = e + 1 := ⟨d - 1, by omega⟩
  obtain ⟨m, hm⟩ : ∃ m, max 1 n = m + 1 := ⟨max 1 n - 1, by omega⟩
  rw [hm, Nat.add_mul, Nat.mul_add]
  have := Nat.zero_le (e * m)
  omega
/-- The parts of some bytes, and all parts. -/
def partsM (b : List Nat) (d : Nat) : List (List Nat) := ptM (padB b (d * szP b.length d)) (szP b.length d) d
def allM (b : List Nat) (d r : Nat) : List (List Nat) := partsM b d ++ recRows (partsM b d) (r : Int)
def vhd (b : List Nat) (d r i : Nat) : Hd := (crc 0 b, i, d, r, b.length)
/-- All volumes. -/
def volL (b : List Nat) (d r : Nat) : List (List Nat) := (allM b d r).mapIdx fun i p => putB (vhd b d r i) p
def spBad (data rec : Int) : Prop := data < 1 ∨ 64 < data ∨ rec < 0 ∨ 64 - data < rec
instance (data rec : Int) : Decidable (spBad data rec) := by unfold spBad; infer_instance
def spErr (b : List Nat) (data rec : Int) : Nat := if 65536 < b.length then 5 else if spBad data rec then 2 else if (volL b data.toNat rec.toNat).any (fun x => decide (65536 < x.length)) then 5 else 0
def spL (b : List Nat) (data rec : Int) : List (List Nat) := if spErr b data rec = 0 then volL b data.toNat rec.toNat else []
theorem partsM_length (b : List Nat) (d : Nat) : (partsM b d).length = d := ptM_length _ _ _
theorem partsM_rect {b : List Nat} (hB : Byt b) {d : Nat} (hd : 1 ≤ d) : Rect (szP b.length d) (partsM b d) :=
  ptM_rect (padB_byt hB) (by rw [padB_length (szP_mul _ hd)]; exact Nat.le_refl _)
theorem parts_rec {b : List Nat} (hB : Byt b) (hl : b.length ≤ 65536) {d r : Nat} (hd : 1 ≤ d) (hr : d + r ≤ 64) : recErr (partsM b d) (r : Int) = 0 :=
  recErr_ok (partsM_rect hB hd) (szP_pos _ _) (szP_le hl hd) (by rw [partsM_length]; exact hd) (by rw [partsM_length]; exact hr)
theorem allM_set {b : List Nat} (hB : Byt b) (hl : b.length ≤ 65536) {d r : Nat} (hd : 1 ≤ d) (hr : d + r ≤ 64) : allM b d r = setM d r (partsM b d) := by
  have := set_eq (partsM_rect hB hd) (by rw [partsM_length]; exact hd) (parts_rec hB hl hd hr)
  rw [partsM_length] at this
  exact this
theorem allM_rect {b : List Nat} (hB : Byt b) (hl : b.length ≤ 65536) {d r : Nat} (hd : 1 ≤ d) (hr : d + r ≤ 64) : Rect (szP b.length d) (allM b d r) ∧ (allM b d r).length = d + r := by
  rw [allM_set hB hl hd hr]
  exact ⟨setM_rect (partsM_rect hB hd) (partsM_length _ _) hd, setM_length _ _ _⟩
theorem volL_length (b : List Nat) (d r : Nat) : (volL b d r).length = (allM b d r).length := by unfold volL; rw [List.length_mapIdx]
theorem volL_get {b : List Nat} {d r i : Nat} {p : List Nat} (h : (allM b d r)[i]? = some p) : (volL b d r)[i]? = some (putB (vhd b d r i) p) := by
  unfold volL; rw [List.getElem?_mapIdx, h]; rfl
theorem vhd_small {b : List Nat} (hl : b.length ≤ 65536) {d r i : Nat} (hd : d ≤ 64) (hr : r ≤ 64) (hi : i ≤ 64) : hdSmall (vhd b d r i) := by
  have := crc_lt 0 b
  intro x hx
  unfold hdN vhd at hx
  simp only [List.mem_cons, List.not_mem_nil, or_false] at hx
  omega
theorem spErr_long {b : List Nat} {data rec : Int} (h : 65536 < b.length) : spErr b data rec = 5 := by unfold spErr; rw [if_pos h]
theorem spErr_bad {b : List Nat} {data rec : Int} (h : ¬ 65536 < b.length) (h2 : spBad data rec) : spErr b data rec = 2 := by unfold spErr; rw [if_neg h, if_pos h2]
theorem spErr_any {b : List Nat} {d r : Nat} (h : ¬ 65536 < b.length) (h2 : ¬ spBad (d : Int) (r : Int)) {i : Nat} {x : List Nat} (hx : (volL b d r)[i]? = some x) (hlx : 65536 < x.length) : spErr b (d : Int) (r : Int) = 5 := by
  unfold spErr
  rw [if_neg h, if_neg h2, if_pos]
  rw [Int.toNat_natCast, Int.toNat_natCast, List.any_eq_true]
  exact ⟨x, List.mem_of_getElem? hx, decide_eq_true hlx⟩
theorem spErr_ok {b : List Nat} {d r : Nat} (h : ¬ 65536 < b.length) (h2 : ¬ spBad (d : Int) (r : Int)) (hx : ∀ x ∈ volL b d r, x.length ≤ 65536) : spErr b (d : Int) (r : Int) = 0 ∧ spL b (d : Int) (r : Int) = volL b d r := by
  have h0 : spErr b (d : Int) (r : Int) = 0 := by
    unfold spErr
    rw [if_neg h, if_neg h2, if_neg]
    rw [Int.toNat_natCast, Int.toNat_natCast, List.any_eq_true]
    rintro ⟨x, hx1, hx2⟩
    have := hx x hx1
    simp only [decide_eq_true_eq] at hx2
    omega
  refine ⟨h0, ?_⟩
  unfold spL
  rw [if_pos h0, Int.toNat_natCast, Int.toNat_natCast]
theorem spL_no {b : List Nat} {data rec : Int} {x : Nat} (h : spErr b data rec = x) (hx : x ≠ 0) : spL b data rec = [] := by unfold spL; rw [if_neg (by rw [h]; exact hx)]
theorem spBad_cases {data rec : Int} (h : spBad data rec) :
    (decide (data < 1) = true) ∨ (decide (data < 1) = false ∧ decide (64 < data) = true) ∨ (decide (data < 1) = false ∧ decide (64 < data) = false ∧ decide (rec < 0) = true) ∨
    (decide (data < 1) = false ∧ decide (64 < data) = false ∧ decide (rec < 0) = false ∧ decide (64 - data < rec) = true) := by
  unfold spBad at h
  simp only [decide_eq_true_eq, decide_eq_false_iff_not]
  omega

theorem BO.row {w : World} {B : Nat} {v : Value} {l : List Nat} (h : BO w B v l) (h0 : l ≠ []) : ∃ g c, v = .slice (some ⟨g, 0, none⟩) l.length c ∧ B ≤ g ∧ l.length ≤ c ∧ Blk w g 5 (l.map bv) := by
  have h' := h
  rcases h.2 with ⟨rfl, hz⟩ | ⟨g, cap, cur, rfl, hb, hg, hn, hc, hs, ht⟩
  · exact absurd (List.eq_nil_of_length_eq_zero hz) h0
  · exact ⟨g, cap, rfl, hb, hn, Blk.of_owns h'⟩
theorem GM.mono {w : World} {B B' : Nat} {v : Value} {hd : List (Nat × Nat)} {m : List (List Nat)} (h : GM w B' v hd m) (hB : B ≤ B') : GM w B v hd m :=
  { len := h.len, inj := h.inj, rows := fun i p r hp hr => ⟨(h.rows i p r hp hr).1, Nat.le_trans hB (h.rows i p r hp hr).2.1, (h.rows i p r hp hr).2.2⟩, outer := owns_mono h.outer hB }
theorem HdsOk.get {w : World} {vs : List Value} {m : List (List Nat)} (h : HdsOk w vs m) {i : Nat} (hi : i < m.length) : ∃ x, vs[i]? = some x ∧ HdOk w x (m.getD i []) := by
  have hv : i < vs.length := by rw [h.1]; exact hi
  exact ⟨_, List.getElem?_eq_getElem hv, h.2 i _ _ (List.getElem?_eq_getElem hv) (getD_some hi)⟩
theorem HdOk.bs {w : World} {x : Value} {r : List Nat} (h : HdOk w x r) : Bs w x r := by
  obtain ⟨a, c, h1, h2, h3, _⟩ := h
  exact ⟨a, c, h1, h2, h3⟩

set_option maxRecDepth 100000 in
set_option maxHeartbeats 8000000 in
theorem vSplit_any (v : Value) (b : List Nat) (data rec : Int) (w : World) (h : Bs w v b) (hB : Byt b) (hl : b.length ≤ 100000000) (hd1 : -9223372036854775808 ≤ data) (hd2 : data ≤ 9223372036854775807) (hr1 : -9223372036854775808 ≤ rec) (hr2 : rec ≤ 9223372036854775807) :
    Calls Try.prog 27 #[v, .int .i64 data, .int .i64 rec] w (RowsErr (spL b data rec) (spErr b data rec) w) := by
  by_cases hL : 65536 < b.length
  · have HE := Lib.hid (spErr_long (data := data) (rec := rec) hL)
    have HL := Lib.hid (spL_no HE.out (by decide))
    obtain ⟨a, cap, rfl, hc, hr⟩ := h
    have t1 : decide ((65536 : Int) < (b.length : Int)) = true := by simp; omega
    clear hr hL hB
    go_enter Try.func27, Try.ntmps27
    go_wp2_with fail
    go_ret2
    exact ⟨_, [], by rw [HE.out]; rfl, by rw [HL.out]; exact GM.nil _ _, Below.refl _ _⟩
  have t1 : decide ((65536 : Int) < (b.length : Int)) = false := by simp; omega
  by_cases hbad : spBad data rec
  · have HE := Lib.hid (spErr_bad hL hbad)
    have HL := Lib.hid (spL_no HE.out (by decide))
    obtain ⟨a, cap, rfl, hc, hr⟩ := h
    have hcs := spBad_cases hbad
    clear hr hL hB hbad
    rcases hcs with q1 | ⟨q1, q2⟩ | ⟨q1, q2, q3⟩ | ⟨q1, q2, q3, q4⟩
    all_goals
      (try have y1 : 1 ≤ data := by simpa using q1)
      (try have y2 : data ≤ 64 := by simpa using q2)
      go_enter Try.func27, Try.ntmps27
      go_wp2_with fail
      go_ret2
      exact ⟨_, [], by rw [HE.out]; rfl, by rw [HL.out]; exact GM.nil _ _, Below.refl _ _⟩
  have hb2 := hbad
  unfold spBad at hb2
  obtain ⟨d, rfl⟩ : ∃ d : Nat, data = d := ⟨data.toNat, by omega⟩
  obtain ⟨r, rfl⟩ : ∃ r : Nat, rec = r := ⟨rec.toNat, by omega⟩
  have hd : 1 ≤ d := by omega
  have hdr : d + r ≤ 64 := by omega
  have hL' : b.length ≤ 65536 := by omega
  have q1 : decide ((d : Int) < 1) = false := by simp; omega
  have q2 : decide ((64 : Int) < (d : Int)) = false := by simp; omega
  have q3 : decide ((r : Int) < 0) = false := by simp
  have q4 : decide ((64 : Int) - (d : Int) < (r : Int)) = false := by simp; omega
  have Hbad := Lib.hid hbad
  have HnL := Lib.hid hL
  have H := Lib.hid h
  have HBy := Lib.hid hB
  have HRp := Lib.hid (partsM_rect hB hd)
  have HPl := Lib.hid (partsM_length b d)
  have HRe := Lib.hid (parts_rec hB hL' hd hdr)
  obtain ⟨hAr, hAl⟩ := allM_rect hB hL' hd hdr
  have HAr := Lib.hid hAr
  have HAl := Lib.hid hAl
  have HAd := Lib.hid (show allM b d r = partsM b d ++ recRows (partsM b d) (r : Int) from rfl)
  have hsm := szP_mul b.length hd
  have hs1 := szP_pos b.length d
  have hs2 := szP_le hL' hd
  have HS := Lib.hid (fun w' => vsize_any b.length d w' (by omega) hd (by omega))
  have HPd := Lib.hid (show partsM b d = ptM (padB b (d * szP b.length d)) (szP b.length d) d from rfl)
  obtain ⟨a, cap, rfl, hc, hr⟩ := h
  obtain ⟨s, hs⟩ : ∃ s, szP b.length d = s := ⟨_, rfl⟩
  rw [hs] at HRp HAr hsm hs1 hs2 HS HPd
  have hcl := crc_lt 0 b
  have HCd := Lib.hid (show crc 0 b = crc 0 b from rfl)
  clear hr hL hB hbad hb2 hAr hAl hs hd1 hd2 hr1 hr2 HCd
  go_enter Try.func27, Try.ntmps27
  go_wp2_with fail
  refine (HS.out _).mono ?_
  rintro e w' ⟨rfl, rfl⟩
  go_wp2_with fail
  refine (vcut_any _ b d s _ H.out (by omega) hs1 (by omega) hsm).mono ?_
  rintro e w1 ⟨v8, us8, rfl, hV8, hB1⟩
  rw [← HPd.out] at hV8
  have HV8 := Lib.hid hV8
  have HB1 := Lib.hid hB1
  clear hV8 hB1 HS
  go_wp2_with fail
  refine (pRecovery_any v8 (partsM b d) r _ (by rw [HPl.out]; omega) (rect_byt HRp.out) HV8.out.mx (by omega) (by omega)).mono ?_
  rintro e w2 ⟨v9, hd9, rfl, hG9, hB2⟩
  rw [HRe.out]
  have HG9 := Lib.hid hG9
  have HV82 := Lib.hid (HV8.out.new hB2)
  have HB2 := Lib.hid (HB1.out.trans (hB2.mono HB1.out.size))
  have H2 := Lib.hid (H.out.new HB2.out)
  clear hG9 hB2 HV8 HB1
  go_wp2_with fail
  refine (cSum_any _ b _ H2.out HBy.out (by omega)).mono ?_
  rintro e w3 ⟨rfl, hB3⟩
  have HB3 := Lib.hid (HB2.out.trans (hB3.mono HB2.out.size))
  have HG93 := Lib.hid (HG9.out.new hB3)
  have HV83 := Lib.hid (HV82.out.new hB3)
  obtain ⟨c, hcd⟩ : ∃ c, crc 0 b = c := ⟨_, rfl⟩
  have Hcd := Lib.hid hcd
  rw [hcd] at hcl ⊢
  clear hB3 HB2 HG9 HV82 hcd
  go_upto_region 10 with (fail)
  have hz3 := HB3.out.size
  have HBw3 := Lib.hid HB3.out
  obtain ⟨g, hg⟩ : ∃ g, w3.heap.size = g := ⟨_, rfl⟩
  have HGW := Lib.hid hg
  have hHb := Blk.new w3 54 #[.int .u32 c, .int .i64 0, .int .i64 d, .int .i64 r, .int .i64 b.length]
  have hB4 := al w3 (.cells #[.int .u32 c, .int .i64 0, .int .i64 d, .int .i64 r, .int .i64 b.length] 54)
  have hz4 : (w3.alloc (.cells #[.int .u32 c, .int .i64 0, .int .i64 d, .int .i64 r, .int .i64 b.length] 54)).heap.size = g + 1 := by simp [hg]
  rw [hg] at hHb
  obtain ⟨W4, hW4⟩ : ∃ W4, w3.alloc (.cells #[.int .u32 c, .int .i64 0, .int .i64 d, .int .i64 r, .int .i64 b.length] 54) = W4 := ⟨_, rfl⟩
  rw [hW4] at hHb hB4 hz4 ⊢
  rw [hg] at hz3 ⊢
  have HV84 := Lib.hid (HV83.out.new hB4)
  have HG94 := Lib.hid (HG93.out.new hB4)
  have HB4 := Lib.hid (HB3.out.trans (hB4.mono HB3.out.size))
  have Hhb := Lib.hid (show Blk W4 g 54 (hdL (c, 0, d, r, b.length)) from hHb)
  obtain ⟨a8, c8, hv8⟩ := owns_slice HV84.out.outer
  obtain ⟨a9, c9, hv9⟩ := owns_slice HG94.out.outer
  have hB5 := al W4 (.cells #[v8, v9] 44)
  have hM := Blk.new W4 44 #[v8, v9]
  have hR8 := HdR.of_own HV84.out.outer HV84.out.hds.1.symm HV84.out.hds.oneCell
  have hR9 := HdR.of_own HG94.out.outer (hvs_length HG94.out.len).symm HG94.out.hds.oneCell
  have hus := HV84.out.hds.1
  have hvl := hvs_length HG94.out.len
  have HdsW := Lib.hid (HV83.out.hds.append HG93.out.hds)
  have HdsA := Lib.hid ((HV84.out.hds.append HG94.out.hds).new hB5)
  have HfL := Lib.hid (show [us8, hvs hd9 (recRows (partsM b d) (r : Int))].flatten.length = (allM b d r).length by simp only [List.flatten_cons, List.flatten_nil, List.append_nil, List.length_append, hus, hvl]; rw [HAd.out, List.length_append])
  have HfE := Lib.hid (show [us8, hvs hd9 (recRows (partsM b d) (r : Int))].flatten = us8 ++ hvs hd9 (recRows (partsM b d) (r : Int)) by simp)
  rw [hz4] at hM
  have HCC := Lib.hid (ConcatM_any (g + 1) 0 2 [us8, hvs hd9 (recRows (partsM b d) (r : Int))] (fun i => if i = 0 then v8 else v9) (W4.alloc (.cells #[v8, v9] 44)) (by simp) (by rw [HfL.out, HAl.out]; omega) (by
    intro i rr hi
    match i, hi with
    | 0, hi => simp only [List.getElem?_cons_zero, Option.some.injEq] at hi; subst hi; exact ⟨hM.cell (i := 0) rfl, hR8.new hB5⟩
    | 1, hi => simp only [List.getElem?_cons_succ, List.getElem?_cons_zero, Option.some.injEq] at hi; subst hi; exact ⟨hM.cell (i := 1) rfl, hR9.new hB5⟩
    | i + 2, hi => simp at hi))
  have Hb5 := Lib.hid (Hhb.out.below hB5 Hhb.out.lt)
  have HX5 := Lib.hid (show Below g w3 (W4.alloc (.cells #[v8, v9] 44)) from by have := hB4.trans (hB5.mono hB4.size); rwa [hg] at this)
  have HB5 := Lib.hid (HB4.out.trans (hB5.mono HB4.out.size))
  have hn1 : 1 ≤ (allM b d r).length := by rw [HAl.out]; omega
  have hAlen := HAl.out
  clear hHb hB4 hB5 hM hR8 hR9 hus hvl hW4 HV83 HV84 HG93 HG94 HB3 HB4 Hhb hg
  subst hv8 hv9
  go_wp2_with fail
  refine HCC.out.mono ?_
  rintro e w6 ⟨v61, rfl, hO6, hB6⟩
  have hO61 : w6.ownsRow w.heap.size 26 1 v61 (allM b d r).length (us8 ++ hvs hd9 (recRows (partsM b d) (r : Int))) := by
    rw [← HfE.out, ← HfL.out]
    exact owns_mono hO6 HB5.out.size
  have HdsW2 := Lib.hid (show HdsOk w3 (us8 ++ hvs hd9 (recRows (partsM b d) (r : Int))) (allM b d r) from by rw [HAd.out]; exact HdsW.out)
  have HdsB := Lib.hid (show HdsOk w6 (us8 ++ hvs hd9 (recRows (partsM b d) (r : Int))) (allM b d r) from by rw [HAd.out]; exact HdsA.out.new hB6)
  generalize us8 ++ hvs hd9 (recRows (partsM b d) (r : Int)) = us at *
  have HX6 := Lib.hid (show Below g w3 w6 from HX5.out.trans (hB6.mono (by have := HX5.out.size; have := HGW.out; omega)))
  have HB6 := Lib.hid (HB5.out.trans (hB6.mono HB5.out.size))
  have Hb6 := Lib.hid (Hb5.out.below hB6 Hb5.out.lt)
  obtain ⟨g6, c6, rfl, hc6, _, hb6, _⟩ := (VM.mk hO61 HdsB.out).done (by intro e; rw [e] at hn1; simp at hn1)
  have HU := Lib.hid hb6
  have hz6 := HB6.out.size
  have hUlen := HdsB.out.1
  obtain ⟨n, hn⟩ : ∃ n, (allM b d r).length = n := ⟨_, rfl⟩
  have Hn := Lib.hid hn
  rw [hn] at hc6 hn1 hAlen hUlen ⊢
  have HUl := Lib.hid hUlen
  clear hO6 hB6 hO61 hb6 HCC HdsA HfL HfE HB5 Hb5 hn hUlen HdsW HX5
  have hgw3 := Lib.hid (show w3.heap.size = g from HGW.out)
  have HW36 := Lib.hid (show Below w3.heap.size w3 w6 from by rw [hgw3.out]; exact HX6.out)
  go_wp2_with fail
  go_loopg [12, 63] n (fun gk vx i wr => ∃ (k j : Nat) (vy : Value) (hds : List (Nat × Nat)), k + gk = n ∧ i = .int .i64 k ∧ vy = vx ∧ Hid (GM wr w6.heap.size vy hds ((volL b d r).take k)) ∧ Hid (∀ x ∈ (volL b d r).take k, x.length ≤ 65536) ∧ Hid (Blk wr g 54 (hdL (c, j, d, r, b.length))) ∧ Hid (Blk wr g6 26 us) ∧ Hid (Below w3.heap.size w3 wr) ∧ Hid (w6.heap.size ≤ wr.heap.size))
  case atStart => exact ⟨0, 0, _, [], by omega, rfl, rfl, GM.nil _ _, fun x hx => by (rw [List.take_zero] at hx; cases hx), Hb6.out, HU.out, HW36.out, Nat.le_refl _⟩
  case round =>
    obtain ⟨k, j, vx, hds, hgk, rfl, rfl, hG, hsh, hHb, hUb, hBr, hzr⟩ := hrel
    have Hgk := Lib.hid hgk
    have hk : k ≤ n := by omega
    clear hgk
    by_cases hlt : k < n
    · obtain ⟨x, hx, hxo⟩ := HdsW2.out.get (show k < (allM b d r).length by rw [Hn.out]; exact hlt)
      have hp := getD_some (l := allM b d r) (d := []) (show k < (allM b d r).length by rw [Hn.out]; exact hlt)
      have hvol := Lib.hid (volL_get hp)
      have hpl := (HAr.out.get (show k < (allM b d r).length by rw [Hn.out]; exact hlt))
      obtain ⟨p, hpd⟩ : ∃ p, (allM b d r).getD k [] = p := ⟨_, rfl⟩
      rw [hpd] at hxo hvol hpl
      have cx := hUb.out.cell hx
      have HBp := Lib.hid hpl.2
      have hps : p.length = s := hpl.1
      have Hps := Lib.hid hps
      have c1 := hHb.out.cell (i := 1) rfl
      have f1 := hHb.out.frozen 1
      have hHb2 := Lib.hid (show Blk (wr.setCell ⟨g, 1, none⟩ (.int .i64 (k : Nat))) g 54 (hdL (c, k, d, r, b.length)) from hHb.out.setCell (i := 1) (show 1 < 5 by decide) _)
      have hKs : Kept (fun q => q = g) wr (wr.setCell ⟨g, 1, none⟩ (.int .i64 (k : Nat))) := (Kept.refl (fun q => q = g) wr).setCell (fun _ => rfl) _
      have hgg6 : g6 ≠ g := fun e => by
        have := (hUb.out).type (e ▸ hHb.out)
        exact absurd this (by decide)
      have hUb2 := Lib.hid (hUb.out.kept hKs hgg6)
      have hG2 := Lib.hid (hG.out.kept hKs (fun q hq e => by have := Hb6.out.lt; omega))
      have hBr2 := Lib.hid (hBr.out.setCell (p := ⟨g, 1, none⟩) (show w3.heap.size ≤ g by rw [hgw3.out]; exact Nat.le_refl _) (.int .i64 (k : Nat)))
      have hXb := Lib.hid (hxo.bs.new hBr2.out)
      have hzr2 : w6.heap.size ≤ (wr.setCell ⟨g, 1, none⟩ (.int .i64 (k : Nat))).heap.size := by have := hzr.out; simp [World.setCell]; exact this
      have Hzr2 := Lib.hid hzr2
      obtain ⟨ax, cx', hxe, _⟩ := hxo
      subst hxe
      rw [hps] at cx hXb
      have HI := Lib.hid (fun w' (hv : Bs w' (.slice ax s cx') p) => vput_any (c, k, d, r, b.length) (.slice ax s cx') p w' (by have := vhd_small hL' (show d ≤ 64 by omega) (show r ≤ 64 by omega) (show k ≤ 64 by omega); unfold vhd at this; rwa [Hcd.out] at this) hv HBp.out (by rw [Hps.out]; omega))
      have HQl := Lib.hid (show (putB (vhd b d r k) p) ≠ [] from fun e => by have := congrArg List.length e; rw [putB_length] at this; simp at this)
      have HQd := Lib.hid (show putB (vhd b d r k) p = putB (c, k, d, r, b.length) p by unfold vhd; rw [Hcd.out])
      rw [HQd.out] at HQl hvol
      clear hp hpd hpl hps hzr2 hx hKs hgg6 HQd
      go_upto_region 15 with (fail)
      obtain ⟨W5, hW5⟩ : ∃ W5, wr.setCell ⟨g, 1, none⟩ (.int .i64 (k : Nat)) = W5 := ⟨_, rfl⟩
      rw [hW5] at hHb2 hUb2 hG2 hBr2 hXb Hzr2 ⊢
      clear hW5 c1 f1 cx
      have Hrg := Lib.hid hHb2.out.range
      go_wp2_with ((with_reducible show wpList _ _ _ (Oper.mk _ (Op.load _ _) _ _ _ _ :: _) _ _); refine wpList_load_mid rfl 54 (.tmp 11) rfl g 0 rfl (hdL (c, k, d, r, b.length)) _ Hrg.out Try.underlying54 rfl sizeVol ?_)
      refine (HI.out _ hXb.out).mono ?_
      rintro e w7 ⟨v15, rfl, hO7, hB7⟩
      obtain ⟨q, hq⟩ : ∃ q, putB (c, k, d, r, b.length) p = q := ⟨_, rfl⟩
      rw [hq] at hO7 HQl hvol
      obtain ⟨gp, cp, rfl, hgp, hcp, hbp⟩ := hO7.row HQl.out
      have Hbp := Lib.hid hbp
      have HB7 := Lib.hid hB7
      have Hcp := Lib.hid hcp
      have hBr7 := Lib.hid (hBr2.out.trans (hB7.mono (hBr2.out.size)))
      have hG7 := Lib.hid (hG2.out.outer)
      have hzr7 : w6.heap.size ≤ w7.heap.size := Nat.le_trans Hzr2.out hB7.size
      have hnx := Lib.hid (show (volL b d r).take (k + 1) = (volL b d r).take k ++ [q] by rw [List.take_add_one, hvol.out]; rfl)
      clear hO7 hbp hq hB7 hcp
      by_cases hql : 65536 < q.length
      · have t2 : decide (65536 < q.length) = true := decide_eq_true hql
        have HE := Lib.hid (spErr_any HnL.out Hbad.out hvol.out hql)
        have HL := Lib.hid (spL_no HE.out (by decide))
        have HF := Lib.hid (show Below w.heap.size w w7 from HBw3.out.trans (hBr7.out.mono HBw3.out.size))
        have t3 : decide ((65536 : Int) < (q.length : Int)) = true := by simp; omega
        clear hql
        go_wp2_with fail
        go_ret2
        exact ⟨_, [], by rw [HE.out]; rfl, by rw [HL.out]; exact GM.nil _ _, HF.out⟩
      · have t3 : decide ((65536 : Int) < (q.length : Int)) = false := by simp; omega
        have Hql := Lib.hid (show q.length ≤ 65536 by omega)
        have hql2 : q.length ≤ 65536 := by omega
        have Hnew := Lib.hid (hs_new w7 [hv q.length (gp, cp)] (by intro u hu; simp only [List.mem_cons, List.not_mem_nil, or_false] at hu; subst hu; rfl))
        have Htl := Lib.hid (show ((volL b d r).take k).length = k by rw [List.length_take, volL_length, Hn.out]; omega)
        have hGo := hG7.out
        rw [Htl.out] at hGo
        have HGo := Lib.hid (owns_kept hGo (Kept.of_new (HB7.out.trans ((al w7 (.cells #[hv q.length (gp, cp)] 26)).mono HB7.out.size))) (S := fun _ => False) (fun _ _ => id))
        clear hql hGo
        go_wp2_with (at_builtin; refine wpList_append_hs rfl (.tmp 76) (.tmp 78) rfl w6.heap.size _ _ k _ [hv q.length (gp, cp)] rfl rfl HGo.out Hnew.out (by simp; omega) (by simp; omega) ?_)
        intro v8' w8 hown hgr
        have HG9 := Lib.hid (hG2.out.snoc HB7.out (p := (gp, cp)) (r := q) Hbp.out hgp Hzr2.out Hcp.out (by rw [Htl.out]; exact hown) hgr)
        have hK8 : Kept (fun x => some x = vx.ownBlock) W5 w8 := (Kept.of_new HB7.out).trans ((((Kept.refl _ w7).alloc _)).trans (Kept.of_grown hgr))
        have Hb9 := Lib.hid (hHb2.out.kept hK8 (fun e => by have := (owns_block hG7.out e.symm).2.1; have := Hb6.out.lt; omega))
        have HU9 := Lib.hid (hUb2.out.kept hK8 (fun e => by have := (owns_block hG7.out e.symm).2.1; have := HU.out.lt; omega))
        have HBr9 := Lib.hid (show Below w3.heap.size w3 w8 from (hBr7.out.trans ((al w7 (.cells #[hv q.length (gp, cp)] 26)).mono hBr7.out.size)).grown hgr (by have := hBr7.out.size; simp; omega) (fun x hx => by have := (owns_block hG7.out hx).2.1; have := HW36.out.size; omega))
        have Hz9 := Lib.hid (show w6.heap.size ≤ w8.heap.size from by have := hgr.size; simp at this; omega)
        have Hs9 := Lib.hid (show ∀ x ∈ (volL b d r).take (k + 1), x.length ≤ 65536 from by
          rw [hnx.out]
          intro x hx
          rcases List.mem_append.1 hx with h | h
          · exact hsh.out x h
          · rw [List.mem_singleton] at h; rw [h]; exact Hql.out)
        clear hown hgr hK8
        go_wp2_with fail
        go_roundg (n - k - 1)
        case measure => have := Hgk.out; omega
        case rel => exact ⟨k + 1, k, v8', _, by have := Hgk.out; omega, by go_num, rfl, by rw [hnx.out]; exact HG9.out, Hs9.out, Hb9.out, HU9.out, HBr9.out, Hz9.out⟩
    · obtain rfl : k = n := by omega
      have htk : (volL b d r).take k = volL b d r := List.take_of_length_le (by rw [volL_length, Hn.out]; omega)
      have hsh' := hsh.out
      have hG' := hG.out
      rw [htk] at hsh' hG'
      obtain ⟨hE, hL⟩ := spErr_ok HnL.out Hbad.out hsh'
      have HE := Lib.hid hE
      have HL := Lib.hid hL
      have HG' := Lib.hid hG'
      have HF := Lib.hid (show Below w.heap.size w wr from HBw3.out.trans (hBr.out.mono HBw3.out.size))
      clear htk hsh' hG' hE hL
      go_wp2_with fail
      go_ret2
      exact ⟨_, hds, by rw [HE.out]; rfl, by rw [HL.out]; exact HG'.out.mono hz6, HF.out⟩
end Go.Proofs.Ytkclmfppjhmnjaa

namespace Go.Proofs.Ytkclmfppjhmnjaa
open Go.RowKit Wire Vol Crc Go.Maps

def stL (h : Hd) (m : Value) : List Value := hdL h ++ [m]
def stV (h : Hd) (m : Value) : Value := .agg (stL h m).toArray
theorem stL_length (h : Hd) (m : Value) : (stL h m).length = 6 := rfl
theorem sizeSet : (Try.prog.info? 115).map (·.size) = some 6 := by kernel_rfl
theorem st_one (h : Hd) (m : Value) (hm : m.oneCell' = true) : (stL h m).toArray.all (·.oneCell') = true := all_oneCell_toArray (by
  intro v hv
  unfold stL hdL at hv
  simp only [List.cons_append, List.nil_append, List.mem_cons, List.not_mem_nil, or_false] at hv
  rcases hv with h | h | h | h | h | h
  · rw [h]; rfl
  · rw [h]; rfl
  · rw [h]; rfl
  · rw [h]; rfl
  · rw [h]; rfl
  · rw [h]; exact hm)
theorem results_st {fn : Func} {p u : Tmp} (h : fn.results = #[.cell p 115, .tmp u]) (tmps : Array Value) (w : World) (R : Nat) (hd : Hd) (m : Value) (hp : tmps.getD p undef = .pointer (some ⟨R, 0, none⟩)) (hb : Blk w R 115 (stL hd m)) :
    (results fn tmps).run Try.prog w = .ok (.tuple #[stV hd m, tmps.getD u undef]) w := by
  have hl := run_loadVar_mid (P := Try.prog) w R 0 115 (stL hd m) _ hb.range Try.underlying115 rfl sizeSet
  rw [results_cell_tmp h, hp]
  simp only [asAddr, Sem.run_pure, Result.andThen_ok, hl]
  rfl
theorem st_end {w0 w : World} {R : Nat} {xs : List Value} (h : Blk w R 115 xs) (hx : xs.length = 6) (hB : Below w0.heap.size w0 w) (hR : w0.heap.size ≤ R) (hd : Hd) (m : Value) :
    w.there R 0 6 ∧ Blk (w.setCells R 0 (stL hd m)) R 115 (stL hd m) ∧ Below w0.heap.size w0 (w.setCells R 0 (stL hd m)) :=
  ⟨h.there (by omega), h.over (by rw [stL_length, hx]), below_setCells hB hR 0 _⟩
theorem st_head {w : World} {R : Nat} {h k : Hd} {m : Value} (hb : Blk w R 115 (stL h m)) : Blk (w.setCells R 0 (hdL k)) R 115 (stL k m) := by
  have := hb.setCells (o := 0) (vs := hdL k) (show 0 + 5 ≤ 6 by decide)
  exact this
theorem st_headRange {w : World} {R : Nat} {h : Hd} {m : Value} (hb : Blk w R 115 (stL h m)) : w.rangeAt R 0 (hdL h) := by
  intro j v hv
  rw [Nat.zero_add]
  have hj := (List.getElem?_eq_some_iff.1 hv).1
  refine hb.cell (i := j) ?_
  unfold stL
  rw [List.getElem?_append_left hj]; exact hv

/-- How the head, the map and the headers go with what has been collected. -/
def CsM (s : Cs) (h : Hd) (D : DataW Value) (vs : List Value) : Prop := (s.1 = none → h = hd0 ∧ D = .map [] ∧ vs = []) ∧ ∀ k, s.1 = some k → h = k ∧ MapOf D vs s.2 ∧ 1 ≤ Maps.size D ∧ vs.length = s.2.length
theorem mapOf_has' {D : DataW Value} {vs : List Value} {P : List (List Nat)} (h : MapOf D vs P) (i : Nat) : Maps.has D (.int .i64 i) = decide (P.getD i [] ≠ []) := by
  by_cases hi : i < P.length
  · exact mapOf_has h hi
  · have e : P.getD i [] = [] := by rw [List.getD_eq_getElem?_getD, List.getElem?_eq_none (by omega)]; rfl
    rw [e, decide_eq_false (by simp)]
    cases hh : Maps.has D (.int .i64 i) with
    | false => rfl
    | true =>
      obtain ⟨j, hj, hk, _⟩ := h.2.1 _ hh
      rw [i64_inj hk] at hi
      exact absurd hj hi
theorem cell_mapObj {w : World} {bm : Nat} {es : Array MapEntry} {cl : Nat} (hb : w.heap[bm]? = some (.map es cl)) (i : Nat) : w.cell? ⟨bm, i, none⟩ = none := by
  simp [World.cell?, hb]
theorem cell_turn {w w' : World} {bm : Nat} {es : Array MapEntry} {cl : Nat} (hb : w.heap[bm]? = some (.map es cl)) (hg : w.grownBy w' (some bm)) {b i : Nat} {v : Value} (h : w.cell? ⟨b, i, none⟩ = some v) : w'.cell? ⟨b, i, none⟩ = some v := by
  have hne : b ≠ bm := fun e => by subst e; rw [cell_mapObj hb] at h; cases h
  rw [World.cell?_of_block (w := w) (hg.block b (World.block_lt_of_cell? w _ h) (by simpa using hne))]
  exact h
theorem HdOk.turn {w w' : World} {bm : Nat} {es : Array MapEntry} {cl : Nat} (hb : w.heap[bm]? = some (.map es cl)) (hg : w.grownBy w' (some bm)) {x : Value} {r : List Nat} (h : HdOk w x r) : HdOk w' x r := by
  obtain ⟨a, c, h1, h2, h3, h4⟩ := h
  exact ⟨a, c, h1, h2, h3.imp id fun ⟨b, o, ha, hr⟩ => ⟨b, o, ha, fun i y hy => cell_turn hb hg (hr i y hy)⟩, h4⟩
theorem HdsOk.turn {w w' : World} {bm : Nat} {es : Array MapEntry} {cl : Nat} (hb : w.heap[bm]? = some (.map es cl)) (hg : w.grownBy w' (some bm)) {vs : List Value} {m : List (List Nat)} (h : HdsOk w vs m) : HdsOk w' vs m :=
  ⟨h.1, fun i x r hx hr => (h.2 i x r hx hr).turn hb hg⟩
theorem Blk.turn {w w' : World} {bm g T : Nat} {es : Array MapEntry} {cl : Nat} {xs : List Value} (hb : w.heap[bm]? = some (.map es cl)) (hg : w.grownBy w' (some bm)) (h : Blk w g T xs) : Blk w' g T xs := by
  have hne : g ≠ bm := fun e => by
    subst e
    obtain ⟨r, h⟩ := h
    rw [hb] at h
    cases h
  exact h.of_same (hg.block g h.lt (by simpa using hne))
theorem BO.hd {w : World} {B : Nat} {v : Value} {l : List Nat} (h : BO w B v l) (h0 : l ≠ []) : HdOk w v l := by
  obtain ⟨g, c, rfl, _, hc, hb⟩ := h.row h0
  exact ⟨_, c, rfl, hc, Or.inr ⟨g, 0, rfl, hb.row⟩, by simp⟩
theorem HdsOk.nils (w : World) (n : Nat) : HdsOk w (List.replicate n (.slice none 0 0)) (List.replicate n []) := by
  refine ⟨by simp, fun i x r hx hr => ?_⟩
  rw [List.getElem?_replicate] at hx hr
  split at hx
  · rename_i h
    rw [if_pos h] at hr
    simp only [Option.some.injEq] at hx hr
    subst hx hr
    exact HdOk.nil w
  · cases hx
/-- The first volume. -/
theorem csM_first {s : Cs} (hs : s.1 = none) {b : List Nat} (he : hdErr b = 0) (x : Value) :
    CsM (clStep s b) (hdz (hdOf b)) ((DataW.map []).put (.int .i64 (nix b : Nat)) (.held x)) ((List.replicate (ndt b + nrc b) (.slice none 0 0)).set (nix b) x) ∧ clStep s b = (some (hdz (hdOf b)), (List.replicate (ndt b + nrc b) []).set (nix b) (hdP b)) := by
  obtain ⟨_, ⟨_, _, _, p4, _⟩, _⟩ := hd_len he
  have e : clStep s b = (some (hdz (hdOf b)), (List.replicate (ndt b + nrc b) []).set (nix b) (hdP b)) := by
    unfold clStep
    rw [if_neg (by rw [he]; simp), hs]
  refine ⟨?_, e⟩
  rw [e]
  refine ⟨(fun e => by cases e), fun k hk => ?_⟩
  simp only [Option.some.injEq] at hk
  refine ⟨hk, mapOf_put (mapOf_empty _ _) (by rw [List.length_replicate]; exact p4) (by simp) (hdP_ne he), ?_, by simp⟩
  rw [size_put tidy_empty]
  split
  · rename_i h; simp [Maps.has] at h
  · omega
/-- One more. -/
theorem csM_more {s : Cs} {h : Hd} {D : DataW Value} {vs : List Value} (hc : CsM s h D vs) (hT : Tidy D) (hok : CsOk s) {k : Hd} (hs : s.1 = some k) {b : List Nat} (he : hdErr b = 0) (h1 : hdz (hdOf b) = k) (h2 : s.2.getD (nix b) [] = []) (x : Value) :
    CsM (clStep s b) k (D.put (.int .i64 (nix b : Nat)) (.held x)) (vs.set (nix b) x) ∧ clStep s b = (some k, s.2.set (nix b) (hdP b)) ∧ nix b < s.2.length := by
  obtain ⟨_, ⟨_, _, _, p4, _⟩, _⟩ := hd_len he
  have e : clStep s b = (some k, s.2.set (nix b) (hdP b)) := by
    unfold clStep
    rw [if_neg (by rw [he]; simp), hs]
    dsimp only
    rw [if_pos ⟨h1, h2⟩]
  obtain ⟨_, hM, hz, hvl⟩ := hc.2 k hs
  have hlen := (hok.2 k hs).2.1
  have hix : nix b < s.2.length := by
    rw [hlen, ← h1]
    unfold hdz
    rw [hd_nums he]
    exact p4
  refine ⟨?_, e, hix⟩
  rw [e]
  refine ⟨(fun e => by cases e), fun k' hk => ?_⟩
  simp only [Option.some.injEq] at hk
  refine ⟨hk, mapOf_put hM hix hvl (hdP_ne he), ?_, by simpa using hvl⟩
  rw [size_put hT]
  split <;> omega
theorem clStep_skip {s : Cs} {k : Hd} (hs : s.1 = some k) {b : List Nat} (he : hdErr b = 0) (hn : ¬ (hdz (hdOf b) = k ∧ s.2.getD (nix b) [] = [])) : clStep s b = s := by
  unfold clStep
  rw [if_neg (by rw [he]; simp), hs]
  dsimp only
  rw [if_neg hn]
theorem clStep_err {s : Cs} {b : List Nat} (he : hdErr b ≠ 0) : clStep s b = s := by unfold clStep; rw [if_pos he]
theorem noGuardV : Try.prog.eqGuardType Try.prog.depth 54 = false := by kernel_rfl
set_option maxRecDepth 100000 in
theorem wpList_eq_hd {w : World} {ops : Array Oper} {rest : List Oper} {o : Oper} {a : Act} {Q : Exit → Act → World → Prop} (hgd : o.guard = none) (x y : Operand) (t' : TypeId) (ho : o.op = .binOp .eql 54 x y t') (h k : Hd) (c : Bool)
    (hx : a.eval x = .agg (hdL h).toArray) (hy : a.eval y = .agg (hdL k).toArray) (hc : decide (h = k) = c) (hK : wpList Try.prog ops Q rest (a.put o.dst (.bool c)) w) : wpList Try.prog ops Q (o :: rest) a w :=
  wpList_plain hgd fun K hK' => by
    have he : (binOp .eql 54 (.agg (hdL h).toArray) (.agg (hdL k).toArray)).run Try.prog w = .ok (.bool c) w := by rw [← hc]; exact eq_hd h k w
    unfold Oper.wp execOp
    rw [ho]
    simp only [Sem.run_bind, hx, hy, run_eqGuard_agg w .eql 54 x y _ _ noGuardV, Result.andThen_ok, he, Sem.run_pure]
    exact hK' _ _ hK
theorem grown_setCells (w : World) (b o : Nat) (vs : List Value) : w.grownBy (w.setCells b o vs) (some b) := by
  have h := kept_setCells (Kept.refl (fun k => k = b) w) (b := b) (fun _ => rfl) o vs
  exact ⟨h.os, h.tape, h.output, h.size, fun k hk hn => h.block k hk (fun e => hn (by rw [e]))⟩
/-- None of the headers lies in block g. -/
def Far (g : Nat) (vs : List Value) : Prop := ∀ x ∈ vs, ∀ q, x.ownBlock = some q → q ≠ g
theorem far_nils (g n : Nat) : Far g (List.replicate n (.slice none 0 0)) := by
  intro x hx q hq
  rw [(List.mem_replicate.1 hx).2] at hq
  cases hq
theorem Far.set {g : Nat} {vs : List Value} (h : Far g vs) {x : Value} (hx : ∀ q, x.ownBlock = some q → q ≠ g) (i : Nat) : Far g (vs.set i x) := by
  intro y hy
  rcases List.mem_or_eq_of_mem_set hy with hy | rfl
  · exact h y hy
  · exact hx
theorem HdsOk.far {w : World} {g : Nat} {vs : List Value} {m : List (List Nat)} (h : HdsOk w vs m) (hf : Far g vs) (xs : List Value) : HdsOk (w.setCells g 0 xs) vs m := by
  refine ⟨h.1, fun i x r hx hr => ?_⟩
  obtain ⟨a, c, h1, h2, h3, h4⟩ := h.2 i x r hx hr
  refine ⟨a, c, h1, h2, ?_, h4⟩
  rcases h3 with h | ⟨b, o, ha, hr⟩
  · exact Or.inl h
  · refine Or.inr ⟨b, o, ha, hr.kept (kept_setCells (Kept.refl (fun k => k = g) w) (fun _ => rfl) 0 xs) ?_⟩
    exact hf x (List.mem_of_getElem? hx) b (by rw [h1, ha]; rfl)
/-- After the map has taken a value: all else is as it was. -/
theorem cl_turn {w0 W W' : World} {bm n gS T T' : Nat} {D : DataW Value} {vs xs ys : List Value} {P : List (List Nat)} (hO : W.ownsMap Try.prog 3 rdV bm n D) (hg : W.grownBy W' (some bm)) (hbm : w0.heap.size ≤ bm) (hV : HdsOk W vs P) (hS : Blk W gS T xs) (hb : Blk W w0.heap.size T' ys) (hB : Below w0.heap.size w0 W) :
    HdsOk W' vs P ∧ Blk W' gS T xs ∧ Blk W' w0.heap.size T' ys ∧ Below w0.heap.size w0 W' := by
  obtain ⟨es, cl, he, _⟩ := hO
  exact ⟨hV.turn he hg, hS.turn he hg, hb.turn he hg, hB.grown hg hB.size (fun k hk => by cases hk; exact hbm)⟩
/-- What collecting leaves. -/
def ClRet (L : List (List Nat)) (w : World) (e : Ending) (w' : World) : Prop :=
  ∃ mo, e = .returned (.tuple #[stV (clHd L) (.map mo), .int .i64 (clErr L)]) ∧ (clErr L = 0 → ∃ bm n D vs, mo = some bm ∧ w'.ownsMap Try.prog 3 rdV bm n D ∧ MapOf D vs (clP L) ∧ HdsOk w' vs (clP L)) ∧ Below w.heap.size w w'
end Go.Proofs.Ytkclmfppjhmnjaa
