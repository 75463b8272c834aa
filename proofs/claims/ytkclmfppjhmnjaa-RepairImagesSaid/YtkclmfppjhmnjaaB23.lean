/- The contract of parity.Recovery. -/
import Derived.Test.YtkclmfppjhmnjaaB13
import Derived.Test.YtkclmfppjhmnjaaB22
import Derived.Test.YtkclmfppjhmnjaaB06
import Derived.Outline
namespace Go.Proofs.Ytkclmfppjhmnjaa
open Go.RowKit

/-- Not all parts are of one length that is not 0. -/
def badB (data : List (List Nat)) : Bool := (List.range data.length).any fun i => decide (plen data i = 0 ∨ plen data i ≠ plen data 0)
/-- What Recovery returns: the number of the error, the rows. -/
def recErr (data : List (List Nat)) (count : Int) : Nat :=
  if data.length < 1 ∨ 64 < data.length ∨ count < 0 ∨ 64 - (data.length : Int) < count then 6 else if longB data then 5 else if badB data then 23 else 0
def recRows (data : List (List Nat)) (count : Int) : List (List Nat) := if recErr data count = 0 then prodM (cauM count.toNat data.length) data else []

theorem badB_rect {data : List (List Nat)} (hB : BytM data) (h : badB data = false) (hl : longB data = false) (h1 : 1 ≤ data.length) : Rect (plen data 0) data ∧ 1 ≤ plen data 0 ∧ plen data 0 ≤ 65536 := by
  unfold badB at h
  rw [List.any_eq_false] at h
  unfold longB at hl
  rw [List.any_eq_false] at hl
  have h' : ∀ i, i < data.length → plen data i ≠ 0 ∧ plen data i = plen data 0 := fun i hi => by
    have := h i (List.mem_range.2 hi)
    simp only [decide_eq_true_eq, not_or] at this
    exact ⟨this.1, by have := this.2; omega⟩
  have h0 := h' 0 (by omega)
  have hl0 := hl 0 (List.mem_range.2 (by omega))
  simp only [decide_eq_true_eq] at hl0
  refine ⟨fun r hr => ?_, by omega, by omega⟩
  obtain ⟨i, hi⟩ := List.mem_iff_getElem?.1 hr
  have hi1 := (List.getElem?_eq_some_iff.1 hi).1
  have h2 := (h' i hi1).2
  unfold plen at h2
  rw [List.getD_eq_getElem?_getD, hi] at h2
  exact ⟨h2, hB r hr⟩

set_option maxHeartbeats 1000000 in
theorem combiner_any (a : Option Addr) (len cap : Nat) (w : World) :
    Calls Try.prog 88 #[.slice a len cap] w fun e w' => e = .returned (.func (.func 104) #[] #[.pointer (some ⟨w.heap.size, 0, none⟩)]) ∧ w' = w.alloc (.cells #[.slice a len cap] 44) := by
  go_enter Try.func88, Try.ntmps88
  go_wp2
  go_ret
  exact ⟨rfl, rfl⟩

theorem rows_get {d r k : Nat} (hk : k < r) : (rowsM d r)[d + k]? = some (cauRow r d k) := by
  unfold rowsM
  rw [List.getElem?_append_right (by rw [idM_length]; omega), idM_length, show d + k - d = k by omega]
  simp [cauM, hk]
theorem cauRow_byt (n m i : Nat) : Byt (cauRow n m i) := by
  intro x hx
  obtain ⟨k, _, rfl⟩ := List.mem_map.1 hx
  exact Gf.gi_lt _

theorem prodM_take {a b : List (List Nat)} {k : Nat} {r : List Nat} (h : a[k]? = some r) : (prodM a b).take (k + 1) = (prodM a b).take k ++ [prTo r b (b.getD 0 []).length b.length] := by
  rw [List.take_add_one, prodM_get h]; rfl

/-- What the region that calls matrix leaves: the rows lie in block bo. -/
def MRows (w wx : World) (d r : Nat) (s45 : Value) : Prop :=
  ∃ bo cap hd, (1 ≤ r → s45 = .slice (some ⟨bo, d, none⟩) r cap) ∧ (r = 0 → ∃ a c, s45 = .slice a 0 c) ∧ OM wx w.heap.size bo hd (rowsM d r) ∧ Below w.heap.size w wx

set_option maxRecDepth 100000 in
set_option maxHeartbeats 8000000 in
theorem pRecovery_in (b o cap L r : Nat) (data : List (List Nat)) (A : Nat → Option Addr) (C : Nat → Nat) (w : World) (_hcap : data.length ≤ cap) (hM : MxAt w b o data A C) (h1 : 1 ≤ data.length) (h2 : data.length + r ≤ 64) (hL : longB data = false) (hbad : badB data = false) (hR : Rect L data) (hL0 : plen data 0 = L) (hL1 : 1 ≤ L) (hL2 : L ≤ 65536) :
    Calls Try.prog 55 #[.slice (some ⟨b, o, none⟩) data.length cap, .int .i64 r] w (RowsErr (prodM (cauM r data.length) data) 0 w) := by
  obtain ⟨j0, gi, gz0, gz1, gz2⟩ := info_parts infoBytes
  have HM := Lib.hid hM
  have HR := Lib.hid hR
  have HL := Lib.hid hL
  have Hbad := Lib.hid hbad
  have HL0 := Lib.hid hL0
  have hbw : b < w.heap.size := World.block_lt_of_cell? w _ (hM 0 _ (getD_some (d := []) (by omega))).1
  have t1 : decide ((data.length : Int) < 1) = false := by simp; omega
  have t2 : decide ((64 : Int) < (data.length : Int)) = false := by simp; omega
  have t3 : decide ((r : Int) < 0) = false := by simp
  have t4 : decide ((64 : Int) - (data.length : Int) < (r : Int)) = false := by simp; omega
  clear hM hR hL hbad hL0
  go_enter Try.func55, Try.ntmps55
  go_wp2_with fail
  have HB1 := Lib.hid ((Below.refl w.heap.size w).alloc (Nat.le_refl _) (.cells #[.slice (some ⟨b, o, none⟩) data.length cap] 44))
  have Hbox := Lib.hid (Blk.new w 44 #[.slice (some ⟨b, o, none⟩) data.length cap])
  have HM1 := Lib.hid (HM.out.new HB1.out)
  refine (ContainsFunc_long b o data.length cap (fun i => .slice (A i) (plen data i) (C i)) (fun i => decide (65536 < plen data i)) _ (by omega) ?hc ?hf).mono ?_
  case hc => exact fun i hi => (HM1.out i _ (getD_some (d := []) hi)).1
  case hf => exact fun i hi => long_any _ _ _ _
  rintro e w1 ⟨rfl, rfl⟩
  rw [any_firstOf, show ((List.range data.length).any fun i => decide (65536 < plen data i)) = longB data from rfl, HL.out]
  go_wp2_with fail
  refine (ContainsFunc_Recovery1 b o data.length cap (fun i => .slice (A i) (plen data i) (C i)) _ (fun i => decide (plen data i = 0 ∨ plen data i ≠ plen data 0)) _ (by omega) ?hc2 ?hf2).mono ?_
  case hc2 => exact fun i hi => (HM1.out i _ (getD_some (d := []) hi)).1
  case hf2 =>
    intro i hi
    refine Recovery1_any _ (A 0) _ _ _ b o data.length cap (plen data 0) (C 0) _ (by omega) (Hbox.out.cell rfl) ?_
    have := (HM1.out 0 _ (getD_some (d := []) (by omega))).1
    rw [Nat.add_zero] at this
    exact this
  rintro e w1 ⟨rfl, rfl⟩
  rw [any_firstOf, show ((List.range data.length).any fun i => decide (plen data i = 0 ∨ plen data i ≠ plen data 0)) = badB data from rfl, Hbad.out]
  obtain ⟨w1, hw1⟩ : ∃ w1, w.alloc (.cells #[.slice (some ⟨b, o, none⟩) data.length cap] 44) = w1 := ⟨_, rfl⟩
  have hs1 : w1.heap.size = w.heap.size + 1 := by rw [← hw1]; simp
  rw [hw1] at HB1 Hbox HM1 ⊢
  have hbx := Hbox.out.cell (i := 0) rfl
  have Hs1 := Lib.hid hs1
  clear hw1 hs1
  go_wp2_with fail
  refine (combiner_any _ _ _ _).mono ?_
  rintro e w2 ⟨rfl, rfl⟩
  have HB2 := Lib.hid ((Below.refl w1.heap.size w1).alloc (Nat.le_refl _) (.cells #[.slice (some ⟨b, o, none⟩) data.length cap] 44))
  have Hbox2 := Lib.hid (Blk.new w1 44 #[.slice (some ⟨b, o, none⟩) data.length cap])
  have Hbox1 := Lib.hid (Hbox.out.alloc (.cells #[.slice (some ⟨b, o, none⟩) data.length cap] 44))
  obtain ⟨w2, hw2⟩ : ∃ w2, w1.alloc (.cells #[.slice (some ⟨b, o, none⟩) data.length cap] 44) = w2 := ⟨_, rfl⟩
  rw [hw2] at HB2 Hbox2 Hbox1 ⊢
  clear hw2 hbx
  have hbx2 := Hbox1.out.cell (i := 0) rfl
  have HM2 := Lib.hid (HM1.out.new HB2.out)
  have hz12 := Hbox2.out.lt
  have hz02 := Hbox1.out.lt
  go_upto_region 9 with (fail)
  go_cut [45, 46, 47] (fun s45 s46 s47 wx => s46 = .int .i64 r ∧ s47 = .int .i64 0 ∧ Hid (MRows w2 wx data.length r s45))
  case first =>
    by_cases hr : r = 0
    · have Hr := Lib.hid hr
      clear hr
      go_region_with (go_at_call 89; refine (pmatrix_at data.length r _ h1 h2).mono ?_; rintro e w3 ⟨bo, co, hd3, rfl, k1, k2, hO3, hB3, hz3, hz4⟩; have HO3 := Lib.hid hO3; have HB3 : Hid (Below w2.heap.size w2 w3) := ⟨hB3.os, hB3.tape, hB3.output, hB3.size, hB3.block⟩; have hbx3 := (HB3.out.cell (p := ⟨w.heap.size, 0, none⟩) hz02).trans hbx2; obtain rfl : co = data.length := hz3 Hr.out; clear hO3 hB3 hz3 hz4)
      all_goals
        go_wp2_with fail
        go_meet
        refine ⟨?_, rfl, bo, data.length, hd3, fun e => by rw [Hr.out] at e; omega, fun _ => ?_, HO3.out, HB3.out⟩
        · first | rfl | (congr 1; omega)
        · exact ⟨_, _, rfl⟩
    · have hr1 : 1 ≤ r := by omega
      clear hr
      go_region_with (go_at_call 89; refine (pmatrix_at data.length r _ h1 h2).mono ?_; rintro e w3 ⟨bo, co, hd3, rfl, k1, k2, hO3, hB3, hz3, hz4⟩; have HO3 := Lib.hid hO3; have HB3 : Hid (Below w2.heap.size w2 w3) := ⟨hB3.os, hB3.tape, hB3.output, hB3.size, hB3.block⟩; have hbx3 := (HB3.out.cell (p := ⟨w.heap.size, 0, none⟩) hz02).trans hbx2; have k3 := hz4 hr1; clear hO3 hB3 hz3 hz4)
      all_goals
        go_wp2_with fail
        go_meet
        exact ⟨rfl, rfl, bo, co - data.length, hd3, fun _ => rfl, fun e => by rw [e] at hr1; omega, HO3.out, HB3.out⟩
  case rest =>
  obtain ⟨rfl, rfl, hmr⟩ := hcut
  obtain ⟨bo, capo, hd, hv1, hv0, hO, hB3⟩ := hmr.out
  obtain ⟨w3, rfl⟩ : ∃ w3 : World, w3 = wc := ⟨_, rfl⟩
  have HO := Lib.hid hO
  have HB3 := Lib.hid hB3
  have Hv1 := Lib.hid hv1
  have HMr := Lib.hid (HM2.out.new hB3)
  have Hbx := Lib.hid (Hbox2.out.below hB3 Hbox2.out.lt)
  have hz23 := hB3.size
  clear hv1 hO hB3 hmr hv0 hbx2
  go_wp2_with fail
  go_loopg [7, 47] r (fun gk v i wr => ∃ k : Nat, k + gk = r ∧ i = .int .i64 k ∧ Hid (∃ hd', GM wr w3.heap.size v hd' ((prodM (cauM r data.length) data).take k)) ∧ Hid (Below w3.heap.size w3 wr))
  case atStart => exact ⟨0, by omega, rfl, ⟨[], GM.nil _ _⟩, Below.refl _ _⟩
  case round =>
    obtain ⟨k, hgk, rfl, hG, hB⟩ := hrel
    have Hgk := Lib.hid hgk
    have hk : k ≤ r := by omega
    clear hgk
    by_cases hlt : k < r
    · obtain ⟨hd', hG⟩ := hG.out
      obtain rfl := Hv1.out (by omega)
      have hrg := rows_get (d := data.length) hlt
      obtain ⟨p, hp⟩ : ∃ p, hd[data.length + k]? = some p := ⟨hd.getD (data.length + k) (0, 0), getD_some (by rw [HO.out.len, rowsM_length]; omega)⟩
      have hpc := (HO.out.outer.below hB.out HO.out.outer.lt).cell (hvs_get hp hrg)
      obtain ⟨hpb, _, hpl⟩ := HO.out.rows _ p _ hp hrg
      rw [cauRow_length] at hpl hpc
      unfold hv at hpc
      have Hrow := Lib.hid (hpb.below hB.out hpb.lt).row
      have hbxr := (Hbx.out.below hB.out Hbx.out.lt).cell (i := 0) rfl
      have Hbxr := Lib.hid hbxr
      have HMx := Lib.hid (HMr.out.new hB.out)
      have htk := Lib.hid (prodM_take (b := data) (show (cauM r data.length)[k]? = some (cauRow r data.length k) by simp [cauM, hlt]))
      have HG := Lib.hid hG
      have HBr := Lib.hid hB.out
      have hzz : w3.heap.size ≤ wr.heap.size := hB.out.size
      clear hG hB hrg hp hpb hbxr
      go_wp2_with fail
      refine (combiner1_n p.1 0 p.2 w1.heap.size b o cap L data.length data.length (cauRow r data.length k) data A C wr (cauRow_length _ _ _) rfl Hrow.out Hbxr.out HMx.out HR.out rfl h1 (by omega) (by omega) hL1 (cauRow_byt _ _ _)).mono ?_
      rintro e w5 ⟨g, cg, rfl, g1, g2, g3, hblk, hB5⟩
      have Hlk := Lib.hid (show ((prodM (cauM r data.length) data).take k).length = k by rw [List.length_take, prodM_length, cauM_length]; omega)
      have hL0' : (data.getD 0 []).length = L := HL0.out
      rw [hL0'] at htk
      generalize prTo (cauRow r data.length k) data L data.length = pr at *
      have Hblk := Lib.hid hblk
      have HB5 := Lib.hid hB5
      have HGo := Lib.hid ((HG.out.new hB5).outer)
      have Hg2 := Lib.hid g2
      have hz5 := hB5.size
      clear hblk hB5 g2 g3 hL0'
      go_wp2_with (at_builtin; refine wpList_append_own _ rfl _ _ 44 rfl w3.heap.size 26 j0 (.slice none 0 0) 1 24 Try.underlying44 gi gz0 gz1 gz2 rfl (by decide) _ _ _ rfl (HGo.out.alloc _) ⟨w5.heap.size, 0, none⟩ 1 1 [hv pr.length (g, cg)] rfl rfl ?d1 ?d2 ?d3 ?d4 ?d5 ?_)
      case d1 => exact cell_one_new _ _ _
      case d2 => intro u hu; simp only [List.mem_cons, List.not_mem_nil, or_false] at hu; subst hu; rfl
      case d3 => rw [Hlk.out]; unfold maxLen; omega
      case d4 => rw [Hlk.out]; omega
      case d5 => simp; omega
      intro v' w7 hown hgr _
      have hG7 := HG.out.snoc HB5.out (p := (g, cg)) (r := pr) Hblk.out g1 HBr.out.size Hg2.out (by rw [Hlk.out]; simpa [prodM_length, cauM_length, Nat.min_eq_left hk] using hown) (by simpa using hgr)
      rw [← htk.out] at hG7
      have hB7 : Below w3.heap.size w3 w7 := ((HBr.out.trans (HB5.out.mono HBr.out.size)).alloc (by omega) _).grown hgr (by simp; omega) (fun q hq => (owns_block HG.out.outer hq).2.1)
      have HG7 := Lib.hid hG7
      have HB7 := Lib.hid hB7
      clear hown hgr hG7 hB7
      go_wp2_with fail
      go_roundg (r - k - 1)
      case measure => have := Hgk.out; omega
      case rel => exact ⟨k + 1, by have := Hgk.out; omega, by go_num, ⟨_, HG7.out⟩, HB7.out⟩
    · have hkn : (prodM (cauM r data.length) data).take k = prodM (cauM r data.length) data := List.take_of_length_le (by rw [prodM_length, cauM_length]; omega)
      obtain ⟨hd', hG⟩ := hG.out
      rw [hkn] at hG
      have HG := Lib.hid hG
      have HB03 := Lib.hid ((HB1.out.trans (HB2.out.mono HB1.out.size)).trans ((HB3.out.mono HB2.out.size).mono HB1.out.size))
      have HBr := Lib.hid hB.out
      clear hG hkn hB
      go_wp2_with fail
      go_ret2
      have hss : w.heap.size ≤ w3.heap.size := HB03.out.size
      exact ⟨_, hd', rfl, HG.out.base hss, HB03.out.trans (HBr.out.mono hss)⟩
end Go.Proofs.Ytkclmfppjhmnjaa
