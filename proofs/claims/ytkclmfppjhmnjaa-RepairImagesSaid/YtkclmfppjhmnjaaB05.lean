/- The contract of the closure combine of galois.reduced. -/
/- What holds while galois.reduced works on its rows. -/
import Derived.Test.YtkclmfppjhmnjaaB01
import Derived.Test.YtkclmfppjhmnjaaB00
import Derived.Deep.RegionWith
import Derived.Deep.LoopGhost
import Derived.Outline
import Derived.Test.YtkclmfppjhmnjaaB02
import Derived.Deep.RegionHeld3
import Derived.Deep.DeepCutAuto
import Derived.BigRegion
namespace Go.Proofs.Ytkclmfppjhmnjaa
open Go.RowKit

theorem Tab.kept {S : Nat → Prop} {w w' : World} {b : Nat} (h : Tab w b) (k : Kept S w w') (hb : ¬ S b) : Tab w' b :=
  ⟨fun i hi => k.cell (h.1 i hi) hb, fun i hi => k.cell (h.2 i hi) hb⟩

theorem xor_u8 (a b : Nat) (ha : a < 256) (hb : b < 256) : bits .xor .u8 (a : Int) (b : Int) = ((a ^^^ b : Nat) : Int) := by
  have hx : a ^^^ b < 2 ^ 8 := Nat.xor_lt_two_pow (by omega) (by omega)
  have h1 : (BitVec.ofInt 8 (a : Int)).toNat = a := by
    rw [BitVec.ofInt_natCast, BitVec.toNat_ofNat]; exact Nat.mod_eq_of_lt (by omega)
  have h2 : (BitVec.ofInt 8 (b : Int)).toNat = b := by
    rw [BitVec.ofInt_natCast, BitVec.toNat_ofNat]; exact Nat.mod_eq_of_lt (by omega)
  show IntKind.u8.wrap ((BitVec.ofInt 8 (a : Int) ^^^ BitVec.ofInt 8 (b : Int)).toNat : Int) = _
  rw [BitVec.toNat_xor, h1, h2]
  exact IntWalk.u8_in _ (by omega)

theorem red1_step {w wr : World} {g T f k x y : Nat} {tv fr : List Nat} (m : Nat) (hk : k < fr.length) (hl : tv.length = fr.length) (hx : tv.getD k 0 = x) (hy : fr.getD k 0 = y) (b1 : x < 256)
    (hK : Kept (· = g) w wr) (hB : Blk wr g T ((amTo f tv fr k).map bv)) :
    Kept (· = g) w ((wr.drewN m).setCell ⟨g, k, none⟩ (.int .u8 (bits .xor .u8 x (Gf.gm f y)))) ∧ Blk ((wr.drewN m).setCell ⟨g, k, none⟩ (.int .u8 (bits .xor .u8 x (Gf.gm f y)))) g T ((amTo f tv fr (k + 1)).map bv) := by
  refine ⟨(hK.drewN _).setCell (fun _ => rfl) _, ?_⟩
  have h1 := (hB.drewN m).setCell (i := k) (by simpa using (List.getElem?_eq_some_iff.1 (amTo_get (f := f) hk hl)).1) (.int .u8 (bits .xor .u8 x (Gf.gm f y)))
  rw [xor_u8 _ _ b1 (Gf.gm_lt _ _)] at h1 ⊢
  rw [← amTo_set hk hl, hx, hy, List.map_set]
  exact h1

set_option maxRecDepth 100000 in
set_option maxHeartbeats 1000000 in
theorem reduced1_any (g cap b o cap2 f pp tk : Nat) (tv fr : List Nat) (w : World) (hl : tv.length = fr.length) (hn : fr.length ≤ 1000000000) (hf : f < 256) (ht : Byt tv) (hfr : Byt fr)
    (hg : Blk w g 5 (tv.map bv)) (hb : RowAt w b o fr) (hp : w.cell? ⟨pp, 0, none⟩ = some (.pointer (some ⟨tk, 0, none⟩))) (hT : Tab w tk) (n1 : b ≠ g) (n2 : pp ≠ g) (n3 : tk ≠ g) :
    Calls Try.prog 143 #[.slice (some ⟨g, 0, none⟩) tv.length cap, .slice (some ⟨b, o, none⟩) fr.length cap2, .int .u8 f, .pointer (some ⟨pp, 0, none⟩)] w fun e w' =>
      e = .returned (.tuple #[]) ∧ Kept (· = g) w w' ∧ Blk w' g 5 ((addMul f tv fr).map bv) := by
  have HL := Lib.hid hl
  have Hg := Lib.hid hg
  have Hb := Lib.hid hb
  have Hp := Lib.hid hp
  have HT := Lib.hid hT
  have hl1 : tv.length ≤ fr.length := by omega
  have hl2 : fr.length ≤ tv.length := by omega
  clear hl hg hb hp hT
  go_enter Try.func143, Try.ntmps143
  go_wp2
  go_loopw [11] (fun i wr => ∃ k : Nat, k ≤ fr.length ∧ i = .int .i64 k ∧ Hid (Kept (· = g) w wr) ∧ Hid (Blk wr g 5 ((amTo f tv fr k).map bv))) (fun i _ => fr.length - (intOf i).toNat)
  case atStart => exact ⟨0, by omega, rfl, Kept.refl _ _, by have := Hg.out; rw [amTo_zero]; exact this⟩
  case round =>
    obtain ⟨k, hk, rfl, hK, hB⟩ := hrel
    by_cases hlt : k < fr.length
    · have c1 : wr.cell? ⟨g, k, none⟩ = some (.int .u8 (tv.getD k 0)) := hB.out.cell (by simp [amTo_get hlt HL.out, bv])
      have c2 : wr.cell? ⟨b, o + k, none⟩ = some (.int .u8 (fr.getD k 0)) := hK.out.cell (Hb.out k (fr.getD k 0) (by simp [hlt])) n1
      have c3 : wr.cell? ⟨pp, 0, none⟩ = some (.pointer (some ⟨tk, 0, none⟩)) := hK.out.cell Hp.out n2
      have c4 := hB.out.frozen k
      have cT := Lib.hid (HT.out.kept hK.out n3)
      have b1 := ht.getD k
      have b2 := hfr.getD k
      generalize hx : tv.getD k 0 = x at *
      generalize hy : fr.getD k 0 = y at *
      have Hx := Lib.hid hx
      have Hy := Lib.hid hy
      clear hx hy
      go_wp2_with fail
      go_region_with (go_at_call 81; refine (mul_any _ _ _ _ hf b2 (by exact cT.out)).mono ?_; rintro e w' ⟨rfl, n, rfl⟩)
      all_goals
        go_wp2
        go_roundw
        case rel =>
          obtain ⟨r1, r2⟩ := red1_step (f := f) _ hlt HL.out Hx.out Hy.out b1 hK.out hB.out
          exact ⟨k + 1, by omega, by go_num, r1, r2⟩
        case measure => simp [intOf]; omega
    · have he := Lib.hid (show k = fr.length by omega)
      go_wp2
      go_end0
      refine ⟨rfl, hK.out, ?_⟩
      have := hB.out
      rw [amTo_all he.out HL.out] at this
      exact this
end Go.Proofs.Ytkclmfppjhmnjaa

namespace Go.Proofs.Ytkclmfppjhmnjaa
open Go.RowKit

theorem RowAt.of_mx {w : World} {b o : Nat} {m : List (List Nat)} {A : Nat → Option Addr} {C : Nat → Nat} (h : MxAt w b o m A C) {i : Nat} {r : List Nat} (hi : m[i]? = some r) (hr : r ≠ []) : ∃ b' o', A i = some ⟨b', o', none⟩ ∧ RowAt w b' o' r := by
  rcases (h i r hi).2.2.1 with h0 | h0
  · exact absurd h0 hr
  · exact h0

theorem take_succ' {α : Type} {l : List α} {k : Nat} {x : α} (h : l[k]? = some x) : l.take (k + 1) = l.take k ++ [x] := by
  rw [List.take_add_one, h]; rfl

theorem OM.at {w : World} {B bo n : Nat} {hd : List (Nat × Nat)} {m : List (List Nat)} (h : OM w B bo hd m) (hR : Rect n m) {i : Nat} (hi : i < m.length) :
    ∃ p, hd[i]? = some p ∧ hd.getD i (0, 0) = p ∧ m[i]? = some (m.getD i []) ∧ w.cell? ⟨bo, i, none⟩ = some (hv n p) ∧ Blk w p.1 5 ((m.getD i []).map bv) ∧ B ≤ p.1 ∧ n ≤ p.2 := by
  have h1 : m[i]? = some (m.getD i []) := by rw [List.getD_eq_getElem?_getD, List.getElem?_eq_getElem hi]; rfl
  have h2 : hd[i]? = some (hd.getD i (0, 0)) := by rw [List.getD_eq_getElem?_getD, List.getElem?_eq_getElem (by rw [h.len]; exact hi)]; rfl
  have h3 := h.rows i _ _ h2 h1
  have h4 := h.outer.cell (hvs_get h2 h1)
  have h5 := (hR.get hi).1
  rw [h5] at h4
  exact ⟨_, h2, rfl, h1, h4, h3.1, h3.2.1, by rw [← h5]; exact h3.2.2⟩

theorem OM.drew {w : World} {B bo : Nat} {hd : List (Nat × Nat)} {m : List (List Nat)} (h : OM w B bo hd m) : OM w.drew B bo hd m :=
  h.kept (S := fun _ => False) ((Kept.refl _ w).drew) fun _ _ => id

/-- What holds while galois.reduced works on its rows. -/
structure R17 (w w2 : World) (tk bo : Nat) (hd : List (Nat × Nat)) (m : List (List Nat)) (pb c : Nat) : Prop where
  om : OM w w2.heap.size bo hd m
  pb : Blk w pb 3 [.int .i64 c]
  below : Below w2.heap.size w2 w
  tab2 : Tab w2 tk
  pp2 : w2.cell? ⟨tk + 1, 0, none⟩ = some (.pointer (some ⟨tk, 0, none⟩))
  sz : tk + 2 ≤ w2.heap.size

theorem R17.tab {w w2 : World} {tk bo : Nat} {hd : List (Nat × Nat)} {m : List (List Nat)} {pb c : Nat} (h : R17 w w2 tk bo hd m pb c) : Tab w tk := h.tab2.below h.below (by have := h.sz; omega)
theorem R17.pp {w w2 : World} {tk bo : Nat} {hd : List (Nat × Nat)} {m : List (List Nat)} {pb c : Nat} (h : R17 w w2 tk bo hd m pb c) : w.cell? ⟨tk + 1, 0, none⟩ = some (.pointer (some ⟨tk, 0, none⟩)) := by
  rw [h.below.cell (p := ⟨tk + 1, 0, none⟩) (by have := h.sz; show tk + 1 < _; omega)]; exact h.pp2
theorem R17.new {w w' w2 : World} {tk bo : Nat} {hd : List (Nat × Nat)} {m : List (List Nat)} {pb c : Nat} (h : R17 w w2 tk bo hd m pb c) (k : Below w.heap.size w w') : R17 w' w2 tk bo hd m pb c :=
  ⟨h.om.new k, h.pb.below k h.pb.lt, h.below.trans (k.mono h.below.size), h.tab2, h.pp2, h.sz⟩

theorem R17.row {w w2 : World} {tk bo : Nat} {hd : List (Nat × Nat)} {m : List (List Nat)} {pb c i : Nat} {p : Nat × Nat} {r : List Nat} (h : R17 w w2 tk bo hd m pb c) (hp : hd[i]? = some p) (hr : m[i]? = some r) : RowAt w p.1 0 r := (h.om.rows i p r hp hr).1.row

theorem R17.cellx {w w2 : World} {tk bo : Nat} {hd : List (Nat × Nat)} {m : List (List Nat)} {pb c i k x : Nat} {p : Nat × Nat} {r : List Nat} (h : R17 w w2 tk bo hd m pb c) (hp : hd[i]? = some p) (hr : m[i]? = some r) (hx : r[k]? = some x) : w.cell? ⟨p.1, k, none⟩ = some (.int .u8 x) := by
  have := (h.om.rows i p r hp hr).1.row k x hx
  rw [Nat.zero_add] at this; exact this

/-- A call that left all that was there alone, made behind some draws. -/
theorem R17.of_clone {w W w' w2 : World} {tk bo : Nat} {hd : List (Nat × Nat)} {m : List (List Nat)} {pb c : Nat} (h : R17 w w2 tk bo hd m pb c) (k : Below W.heap.size W w') (e : W.heap = w.heap ∧ W.os = w.os ∧ W.tape = w.tape ∧ W.output = w.output := by exact ⟨rfl, rfl, rfl, rfl⟩) : R17 w' w2 tk bo hd m pb c := by
  obtain ⟨e1, e2, e3, e4⟩ := e
  refine h.new ⟨k.os.trans e2, k.tape.trans e3, k.output.trans e4, by rw [← e1]; exact k.size, fun i hi => ?_⟩
  rw [← e1] at hi ⊢
  exact k.block i hi

theorem Clone_n (b o n : Nat) (l : List Nat) (cap : Nat) (w : World) (hl : l.length = n) (hb : n ≤ 1000000000) (hr : Hid (RowAt w b o l)) :
    Calls Try.prog 30 #[.slice (some ⟨b, o, none⟩) n cap] w fun e w' => ∃ g cap', e = .returned (.slice (some ⟨g, 0, none⟩) n cap') ∧ w.heap.size ≤ g ∧ n ≤ cap' ∧ cap' ≤ maxLen ∧ Blk w' g 5 (l.map bv) ∧ Below w.heap.size w w' := by
  subst hl; exact Clone_any b o l cap w hb hr

theorem R17.drewN {w w2 : World} {tk bo : Nat} {hd : List (Nat × Nat)} {m : List (List Nat)} {pb c : Nat} (h : R17 w w2 tk bo hd m pb c) (n : Nat) : R17 (w.drewN n) w2 tk bo hd m pb c :=
  ⟨h.om.kept (S := fun _ => False) ((Kept.refl _ w).drewN n) fun _ _ => id, h.pb, below_drewN h.below n, h.tab2, h.pp2, h.sz⟩

theorem R17.combine {w w2 : World} {tk bo : Nat} {hd : List (Nat × Nat)} {m : List (List Nat)} {pb c i g kg b o cap2 f n : Nat} {r fr : List Nat} (h : R17 w w2 tk bo hd m pb c) (hp : hd[i]? = some (g, kg)) (hr : m[i]? = some r) (hrB : Byt r)
    (hl1 : r.length = n) (hl2 : fr.length = n) (hn : n ≤ 1000000000) (hf : f < 256) (hfr : Byt fr) (hb : RowAt w b o fr) (hne : b ≠ g) :
    Calls Try.prog 143 #[.slice (some ⟨g, 0, none⟩) n kg, .slice (some ⟨b, o, none⟩) n cap2, .int .u8 f, .pointer (some ⟨tk + 1, 0, none⟩)] w fun e w' =>
      e = .returned (.tuple #[]) ∧ R17 w' w2 tk bo hd (m.set i (addMul f r fr)) pb c ∧ Kept (· = g) w w' := by
  have hrow := h.om.rows i (g, kg) r hp hr
  have hlt := hrow.2.1
  have hsz := h.sz
  have hl : r.length = fr.length := by rw [hl1, hl2]
  have hn' : fr.length ≤ 1000000000 := by rw [hl2]; exact hn
  have key := (reduced1_any g kg b o cap2 f (tk + 1) tk r fr w hl hn' hf hrB hfr hrow.1 hb h.pp h.tab hne (by show tk + 1 ≠ g; have : w2.heap.size ≤ g := hlt; omega) (by have : w2.heap.size ≤ g := hlt; omega))
  rw [hl1, hl2] at key
  refine key.mono ?_
  rintro e w' ⟨he, hk, hB⟩
  refine ⟨he, ⟨h.om.setRow hp hr (by rw [addMul_length]; omega) hk hB, h.pb.kept hk ?_, h.below.trans (hk.below h.below.size fun k hk2 hk3 => ?_), h.tab2, h.pp2, h.sz⟩, hk⟩
  · intro e
    have h1 := h.pb
    rw [e] at h1
    exact absurd (h1.type hrow.1) (by decide)
  · have : w2.heap.size ≤ g := hlt
    omega

/-- The first k rows are done. -/
def elimTo (pv : List Nat) (c rank : Nat) (m : List (List Nat)) (k : Nat) : List (List Nat) := (elimM pv c rank m).take k ++ m.drop k
theorem elimTo_zero (pv : List Nat) (c rank : Nat) (m : List (List Nat)) : elimTo pv c rank m 0 = m := by simp [elimTo]
theorem elimTo_all (pv : List Nat) (c rank : Nat) (m : List (List Nat)) {k : Nat} (hk : m.length ≤ k) : elimTo pv c rank m k = elimM pv c rank m := by
  unfold elimTo
  rw [List.take_of_length_le (by rw [elimM_length]; exact hk), List.drop_of_length_le hk, List.append_nil]
theorem elimTo_get (pv : List Nat) (c rank : Nat) (m : List (List Nat)) {k i : Nat} (hk : k ≤ m.length) (hi : k ≤ i) : (elimTo pv c rank m k)[i]? = m[i]? := by
  have h1 : ((elimM pv c rank m).take k).length = k := by rw [List.length_take, elimM_length]; omega
  unfold elimTo
  rw [List.getElem?_append_right (by omega), h1, List.getElem?_drop]
  congr 1; omega
theorem elimTo_step (pv : List Nat) (c rank : Nat) (m : List (List Nat)) {k : Nat} {r : List Nat} (hr : m[k]? = some r) : (elimTo pv c rank m k).set k (elimRow pv c rank k r) = elimTo pv c rank m (k + 1) := by
  have hk := (List.getElem?_eq_some_iff.1 hr).1
  have h1 : ((elimM pv c rank m).take k).length = k := by rw [List.length_take, elimM_length]; omega
  have h2 : (elimM pv c rank m)[k]? = some (elimRow pv c rank k r) := by simp [elimM, hr]
  unfold elimTo
  rw [List.set_append_right _ _ (by omega), h1, Nat.sub_self, take_succ' h2, List.drop_eq_getElem_cons hk, List.append_assoc]
  rfl
theorem elimTo_self (pv : List Nat) (c rank : Nat) (m : List (List Nat)) {r : List Nat} (hr : m[rank]? = some r) : elimTo pv c rank m (rank + 1) = elimTo pv c rank m rank := by
  rw [← elimTo_step pv c rank m hr]
  have hk := (List.getElem?_eq_some_iff.1 hr).1
  have : (elimTo pv c rank m rank)[rank]? = some r := by rw [elimTo_get _ _ _ _ (by omega) (Nat.le_refl _)]; exact hr
  unfold elimRow
  rw [if_pos rfl]
  exact List.ext_getElem? fun i => by
    by_cases h : rank = i
    · subst h; rw [List.getElem?_set_self (List.getElem?_eq_some_iff.1 this).1, this]
    · rw [List.getElem?_set_ne h]

theorem elimTo_rect {n : Nat} {pv : List Nat} (hp : pv.length = n) (c rank : Nat) {m : List (List Nat)} (h : Rect n m) (k : Nat) : Rect n (elimTo pv c rank m k) := by
  intro x hx
  unfold elimTo at hx
  rcases List.mem_append.1 hx with h1 | h1
  · exact elimM_rect hp c rank h x (List.mem_of_mem_take h1)
  · exact h x (List.mem_of_mem_drop h1)

/-- The row of the pivot stays as it is. -/
theorem elimTo_rank {pv : List Nat} {c rank : Nat} {m : List (List Nat)} (hr : m[rank]? = some pv) {k : Nat} (hk : k ≤ m.length) : (elimTo pv c rank m k)[rank]? = some pv := by
  by_cases h : k ≤ rank
  · rw [elimTo_get _ _ _ _ hk h]; exact hr
  · have h1 : ((elimM pv c rank m).take k).length = k := by rw [List.length_take, elimM_length]; omega
    unfold elimTo
    rw [List.getElem?_append_left (by omega), List.getElem?_take, if_pos (by omega)]
    simp [elimM, hr, elimRow]

theorem OM.base {w : World} {B B' bo : Nat} {hd : List (Nat × Nat)} {m : List (List Nat)} (h : OM w B bo hd m) (hB : B' ≤ B) : OM w B' bo hd m :=
  { len := h.len, inj := h.inj, rows := fun i p r hp hr => ⟨(h.rows i p r hp hr).1, Nat.le_trans hB (h.rows i p r hp hr).2.1, (h.rows i p r hp hr).2.2⟩, outer := h.outer, obase := Nat.le_trans hB h.obase }

theorem swap_first {hd : List (Nat × Nat)} {i j : Nat} {p q : Nat × Nat} (hp : hd[i]? = some p) (hq : hd[j]? = some q) : ((hd.set i q).set j p)[i]? = some q := by
  have i1 := (List.getElem?_eq_some_iff.1 hp).1
  have j1 := (List.getElem?_eq_some_iff.1 hq).1
  by_cases h : j = i
  · subst h
    rw [hp] at hq
    rw [List.getElem?_set_self (by simpa using i1), hq]
  · rw [List.getElem?_set_ne h, List.getElem?_set_self i1]

theorem swapM_first {m : List (List Nat)} {i j : Nat} (hi : i < m.length) : (swapM m i j).getD i [] = m.getD j [] := by
  unfold swapM
  rw [List.getD_eq_getElem?_getD]
  by_cases h : j = i
  · subst h
    rw [List.getElem?_set_self (by simpa using hi)]; rfl
  · rw [List.getElem?_set_ne h, List.getElem?_set_self hi]; rfl

theorem Rect.byte {n : Nat} {m : List (List Nat)} (h : Rect n m) {i : Nat} (hi : i < m.length) (c : Nat) : (m.getD i []).getD c 0 < 256 := (h.get hi).2.getD c

theorem find_pre {w : World} {B bo n pb c rank : Nat} {hd : List (Nat × Nat)} {m : List (List Nat)} (h : OM w B bo hd m) (hR : Rect n m) (hc : c < n) (hcell : w.cell? ⟨pb, 0, none⟩ = some (.int .i64 c)) :
    (∀ i, i < m.length - rank → w.cell? ⟨bo, rank + i, none⟩ = some (hv n (hd.getD (rank + i) (0, 0)))) ∧
    (∀ i, i < m.length - rank → Calls Try.prog 144 #[hv n (hd.getD (rank + i) (0, 0)), .pointer (some ⟨pb, 0, none⟩)] w fun e w' => e = .returned (.bool ((m.getD (rank + i) []).getD c 0 != 0)) ∧ w = w') := by
  constructor
  · intro i hi
    obtain ⟨p, h1, h2, h3, h4, h5, h6, h7⟩ := h.at hR (i := rank + i) (by omega)
    rw [h2]; exact h4
  · intro i hi
    obtain ⟨p, h1, h2, h3, h4, h5, h6, h7⟩ := h.at hR (i := rank + i) (by omega)
    rw [h2]
    refine reduced2_any p.1 0 n p.2 pb c _ w hc hcell ?_
    have hl := (hR.get (i := rank + i) (by omega)).1
    have := h5.row c ((m.getD (rank + i) []).getD c 0) (by rw [List.getD_eq_getElem?_getD (l := m.getD (rank + i) []), List.getElem?_eq_getElem (by omega)]; rfl)
    exact this

end Go.Proofs.Ytkclmfppjhmnjaa
