/- Plain: what whole computes, in terms of matrices. No program in sight. -/
/- The contract of the reference's whole of chapter 54. -/
/- The contract of the reference's Recovery of chapter 54. -/
/- The walk of the law ParityRecovers. -/
/- The contracts of slices.Equal and parity.Consistent. -/
/- The contract of parity.Consistent. -/
/- The contract of the reference's Repair of chapter 54. -/
/- The contract of the reference's Consistent of chapter 54. -/
/- The walk of the law ParityRepairs. -/
/- The rows of an argument are no longer than a slice may be. -/
/- For every input the law ParityRepairs of the program returns true and leaves its arguments as they were: the given statement Rows.ParityRepairsSaid. No condition. -/
import Derived.Test.YtlbomlolomcolaaMds
import Derived.Test.YtlbomlolomcolaaPar9
import Derived.Test.YtlbomlolomcolaaRefP2
import Derived.Test.YtlbomlolomcolaaRef7
import Derived.Deep.RegionHeldLaw
import Derived.Deep.AppendLies
import Derived.Test.YtlbomlolomcolaaPar6
import Derived.Deep.QuietTactic
import Derived.BigQuiet
import Derived.Test.YtlbomlolomcolaaPar13
import Derived.Test.YtlbomlolomcolaaLawC
import Derived.Test.YtlbomlolomcolaaRefP4
import Derived.Test.YtlbomlolomcolaaOpen
import Derived.Test.YtlbomlolomcolaaPar3
import Derived.Test.YtlbomlolomcolaaRows
import Derived.WalkKit
import Derived.ProofKit
import Derived.OpenShut
import Derived.ShutString
import Derived.ChangeOld
import Derived.Below
namespace Go.Proofs.Ytlbomlolomcolaa
open Alg

theorem plen_out {parts : List (List Nat)} {k : Nat} (h : parts.length ≤ k) : plen parts k = 0 := by
  unfold plen; rw [List.getD_eq_getElem?_getD, List.getElem?_eq_none h]; rfl

theorem piTo_map (parts : List (List Nat)) (k : Nat) : (piTo parts k).map (·.1) = (List.range k).filter fun i => decide (1 ≤ plen parts i) := by
  induction k with
  | zero => rfl
  | succ k ih =>
    rw [List.range_succ, List.filter_append, ← ih]
    by_cases h : 1 ≤ plen parts k
    · have hk : k < parts.length := by
        by_cases hk : k < parts.length
        · exact hk
        · rw [plen_out (by omega)] at h; omega
      rw [piTo_yes ⟨hk, h⟩, List.map_append]
      simp [h]
    · rw [piTo_no h]
      simp [h]
theorem pidx_eq (parts : List (List Nat)) : pidx parts = (List.range parts.length).filter fun i => decide (1 ≤ plen parts i) := piTo_map parts parts.length

theorem pidx_mem {parts : List (List Nat)} {i : Nat} : i ∈ pidx parts ↔ i < parts.length ∧ 1 ≤ plen parts i := by
  rw [pidx_eq, List.mem_filter, List.mem_range, decide_eq_true_iff]
theorem pidx_lt (parts : List (List Nat)) : (pidx parts).Pairwise (· < ·) := by
  rw [pidx_eq]; exact List.pairwise_lt_range.filter _

theorem take_mono {l : List Nat} (h : l.Pairwise (· < ·)) {d : Nat} (hd : d ≤ l.length) : ∀ i j, i < j → j < d → (l.take d).getD i 0 < (l.take d).getD j 0 := by
  intro i j hij hj
  have h' : (l.take d).Pairwise (· < ·) := h.sublist (List.take_sublist _ _)
  have hlen : (l.take d).length = d := by rw [List.length_take]; omega
  rw [List.getD_eq_getElem?_getD, List.getD_eq_getElem?_getD, List.getElem?_eq_getElem (by omega), List.getElem?_eq_getElem (by omega)]
  exact List.pairwise_iff_getElem.1 h' i j (by omega) (by omega) hij

theorem inv_sel {parts : List (List Nat)} {d : Nat} (h1 : 1 ≤ d) (h2 : d ≤ parts.length) (h3 : parts.length ≤ 64) (hd : d ≤ (pidx parts).length) : invErr (selM parts d) = 0 := by
  have hsq := selM_sq h1 h2 h3 hd
  refine hsq.inv_zero.2 (sel_full (r := parts.length - d) (by omega) (by rw [List.length_take]; omega) (take_mono (pidx_lt parts) hd) (fun i hi => ?_) hsq.rect)
  have hm : ((pidx parts).take d).getD i 0 ∈ pidx parts := by
    refine List.mem_of_mem_take (i := d) (List.mem_of_getElem? (i := i) ?_)
    exact getD_some (by rw [List.length_take]; omega)
  have := (pidx_mem.1 hm).1
  omega

theorem wholeErr_eq {parts : List (List Nat)} {d : Nat} (h1 : 1 ≤ d) (h2 : d ≤ parts.length) (h3 : parts.length ≤ 64) : wholeErr parts d = if (pidx parts).length < d then 26 else 0 := by
  unfold wholeErr
  by_cases h : (pidx parts).length < d
  · rw [if_pos h, if_pos h]
  · rw [if_neg h, if_neg h, inv_sel h1 h2 h3 (by omega)]

theorem row0_of {c : Nat} {b : List (List Nat)} (hb : Rect c b) (h : 1 ≤ b.length) : (b.getD 0 []).length = c := (hb.get (i := 0) (by omega)).1

theorem prod_assoc {n m c : Nat} {a b e : List (List Nat)} (ha : Rect n a) (hb : Rect m b) (lb : b.length = n) (he : Rect c e) (le : e.length = m) (h1 : 1 ≤ n) (h2 : 1 ≤ m) : prodM (prodM a b) e = prodM a (prodM b e) := by
  have hab : Rect m (prodM a b) := prodM_rect hb (by omega)
  have hbe : Rect c (prodM b e) := prodM_rect he (by omega)
  have lbe : (prodM b e).length = n := by rw [prodM_length, lb]
  refine ent_ext (n := a.length) (c := c) (prodM_rect he (by omega)) (prodM_rect hbe (by omega)) (by rw [prodM_length, prodM_length]) (prodM_length _ _) fun i j hi hj => ?_
  rw [ent_prod hab he le (by rw [prodM_length]; exact hi) hj (row0_of he (by omega)), ent_prod ha hbe lbe hi hj (row0_of hbe (by omega))]
  have e1 : mul m (ent (prodM a b)) (ent e) i j = mul m (mul n (ent a) (ent b)) (ent e) i j := mul_congr (fun k hk => ent_prod ha hb lb hi hk (row0_of hb (by omega))) (fun _ _ => rfl)
  have e2 : mul n (ent a) (ent (prodM b e)) i j = mul n (ent a) (mul m (ent b) (ent e)) i j := mul_congr (fun _ _ => rfl) (fun k hk => ent_prod hb he le (by omega) hj (row0_of he (by omega)))
  rw [e1, e2, mul_assoc]

theorem prod_id {d c : Nat} {D : List (List Nat)} (hD : Rect c D) (ld : D.length = d) (h1 : 1 ≤ d) : prodM (Go.Proofs.Ytlbomlolomcolaa.idM d) D = D := by
  refine ent_ext (n := d) (c := c) (prodM_rect hD (by omega)) hD (by rw [prodM_length, idM_length]) ld fun i j hi hj => ?_
  rw [ent_prod (idM_rect d) hD ld (by rw [idM_length]; exact hi) hj (row0_of hD (by omega))]
  rw [mul_congr (fun k hk => ent_id hi k hk) (fun _ _ => rfl), one_mul hi]

/-- The set of d data parts. -/
def setM (d r : Nat) (D : List (List Nat)) : List (List Nat) := prodM (rowsM d r) D
theorem setM_length (d r : Nat) (D : List (List Nat)) : (setM d r D).length = d + r := by unfold setM; rw [prodM_length, rowsM_length]
theorem setM_rect {d r c : Nat} {D : List (List Nat)} (hD : Rect c D) (ld : D.length = d) (h1 : 1 ≤ d) : Rect c (setM d r D) := prodM_rect hD (by omega)

theorem getD_prod {a b : List (List Nat)} {i : Nat} (h : i < a.length) : (prodM a b).getD i [] = prTo (a.getD i []) b (b.getD 0 []).length b.length := by
  rw [List.getD_eq_getElem?_getD, prodM_get (getD_some (d := []) h)]; rfl

/-- Enough parts of a set: the whole set. -/
theorem whole_set {parts D : List (List Nat)} {d r c : Nat} (hD : Rect c D) (ld : D.length = d) (h1 : 1 ≤ d) (h2 : d + r ≤ 64) (hl : parts.length = d + r) (hp : ∀ i, i < d + r → 1 ≤ plen parts i → parts.getD i [] = (setM d r D).getD i []) (hd : d ≤ (pidx parts).length) : wholeM parts d = setM d r D := by
  have hr : parts.length - d = r := by omega
  have hsq := selM_sq h1 (by omega) (by omega) hd
  have hi0 := inv_sel h1 (by omega) (by omega) hd
  have e1 : selP parts d = prodM (selM parts d) D := by
    unfold selP selM prodM
    rw [List.map_map]
    refine List.map_congr_left fun i hi => ?_
    have hm := pidx_mem.1 (List.mem_of_mem_take hi)
    rw [hp i (by omega) hm.2]
    unfold setM
    rw [getD_prod (by rw [rowsM_length]; omega), ← hr]
    rfl
  have hx := (hsq.inv hi0).1
  unfold wholeM
  rw [e1, ← prod_assoc hx.rect hsq.rect hsq.len hD ld h1 h1, hsq.inv_left hi0, prod_id hD ld h1, hr]
  rfl
end Go.Proofs.Ytlbomlolomcolaa

namespace Go.Proofs.Ytlbomlolomcolaa
open Go.RowKit

/-- What holds between two rounds of whole's loop. -/
structure WR (parts : List (List Nat)) (W1 : World) (rh ph : Nat → Value) (vS vB : Value) (pre : List (PI parts)) (W : World) : Prop where
  K : Below W1.heap.size W1 W
  oS : W.ownsRow W1.heap.size 26 1 vS pre.length (pre.map fun x => rh x.1)
  oB : W.ownsRow W1.heap.size 26 1 vB pre.length (pre.map fun x => ph x.1)
  ne : ∀ g, vS.ownBlock = some g → vB.ownBlock = some g → False

def Kp (u : Value) (W0 W : World) : Prop := Kept (fun k => u.ownBlock = some k) W0 W
theorem Kp.drew0 (u : Value) (W : World) : Kp u W { W with drawn := W.drawn + 1 } := ⟨rfl, rfl, rfl, Nat.le_refl _, fun _ _ _ => rfl⟩
theorem Kp.al {u : Value} {W0 W : World} (h : Kp u W0 W) (o : Obj) : Kp u W0 (W.alloc o) := Kept.alloc h o
theorem Kp.g {u : Value} {W0 W W' : World} (h : Kp u W0 W) (hg : W.grownBy W' u.ownBlock) : Kp u W0 W' := Kept.then h (Kept.of_grown hg) fun _ _ e => e.symm
def Kq (u v : Value) (W0 W : World) : Prop := Kept (fun k => u.ownBlock = some k ∨ v.ownBlock = some k) W0 W
theorem Kq.drew0 (u v : Value) (W : World) : Kq u v W { W with drawn := W.drawn + 1 } := ⟨rfl, rfl, rfl, Nat.le_refl _, fun _ _ _ => rfl⟩
theorem Kq.al {u v : Value} {W0 W : World} (h : Kq u v W0 W) (o : Obj) : Kq u v W0 (W.alloc o) := Kept.alloc h o
theorem Kq.gS {u v : Value} {W0 W W' : World} (h : Kq u v W0 W) (hg : W.grownBy W' u.ownBlock) : Kq u v W0 W' := Kept.then h (Kept.of_grown hg) fun _ _ e => Or.inl e.symm
theorem Kq.gB {u v : Value} {W0 W W' : World} (h : Kq u v W0 W) (hg : W.grownBy W' v.ownBlock) : Kq u v W0 W' := Kept.then h (Kept.of_grown hg) fun _ _ e => Or.inr e.symm

theorem Kp.dr {u : Value} {W0 W : World} (h : Kp u W0 W) : Kp u W0 W.drew := Kept.drew h
theorem Kp.rf (u : Value) (W : World) : Kp u W W := Kept.refl _ _
theorem Kq.dr {u v : Value} {W0 W : World} (h : Kq u v W0 W) : Kq u v W0 W.drew := Kept.drew h
theorem Kq.rf (u v : Value) (W : World) : Kq u v W W := Kept.refl _ _
theorem Blk.dr {W : World} {g T : Nat} {xs : List Value} (h : Blk W g T xs) : Blk W.drew g T xs := h
theorem Blk.new1 (W : World) (a : Obj) (T : Nat) (x : Value) : Blk ((W.alloc a).alloc (.cells #[x] T)) (W.heap.size + 1) T [x] := by
  have h := Blk.new (W.alloc a) T #[x]
  rw [show (W.alloc a).heap.size = W.heap.size + 1 by simp] at h
  exact h
theorem cell_one_at {W : World} {g T : Nat} {x : Value} (h : Blk W g T [x]) : ∀ j u, [x][j]? = some u → W.cell? ((⟨g, 0, none⟩ : Addr).add j) = some u := by
  intro j u hu
  have hj : j = 0 := by
    have := (List.getElem?_eq_some_iff.1 hu).1
    simp at this; omega
  subst hj
  have := h.cell hu
  exact this

/-- The region of the two appends has run. -/
theorem WR.next {parts : List (List Nat)} {W1 : World} {rh ph : Nat → Value} {vS vB : Value} {pre : List (PI parts)} {W : World} (h : WR parts W1 rh ph vS vB pre W) (x : PI parts) {gS cS gB cB HS HB n : Nat} {wS wB : World} (hn : pre.length = n)
    (oS : wS.ownsRow W1.heap.size 26 1 (.slice (some ⟨gS, 0, none⟩) (n + 1) cS) (n + 1) ((pre.map fun x => rh x.1) ++ [rh x.1])) (oB : wB.ownsRow W1.heap.size 26 1 (.slice (some ⟨gB, 0, none⟩) (n + 1) cB) (n + 1) ((pre.map fun x => ph x.1) ++ [ph x.1]))
    (hatS : vS.ownBlock = some gS ∨ gS = HS) (hHS : W.heap.size ≤ HS) (hatB : vB.ownBlock = some gB ∨ gB = HB) (hHB : wS.heap.size ≤ HB) (hlt : gS < wS.heap.size) (k1 : Kp vB wS wB) (k2 : Kq vS vB W wB) :
    WR parts W1 rh ph (.slice (some ⟨gS, 0, none⟩) (n + 1) cS) (.slice (some ⟨gB, 0, none⟩) (n + 1) cB) (pre ++ [x]) wB := by
  have hS : vB.ownBlock = some gS → False := by
    intro e
    rcases hatS with e' | e'
    · exact h.ne _ e' e
    · have := (owns_block h.oB e).1.lt; omega
  have hz := h.K.size
  refine ⟨h.K.trans (k2.below hz ?_), ?_, ?_, ?_⟩
  · rintro k hk (e | e)
    · have := (owns_block h.oS e).2.1; omega
    · have := (owns_block h.oB e).2.1; omega
  · rw [List.length_append, List.map_append, List.length_singleton, hn]
    refine owns_kept oS k1 fun g e1 e2 => ?_
    simp only [Value.ownBlock, Option.some.injEq] at e1
    subst e1
    exact hS e2
  · rw [List.length_append, List.map_append, List.length_singleton, hn]
    exact oB
  · intro g e1 e2
    simp only [Value.ownBlock, Option.some.injEq] at e1 e2
    subst e1
    subst e2
    rcases hatB with e' | e'
    · exact hS e'
    · omega

theorem WR.om {parts : List (List Nat)} {W1 : World} {B bR : Nat} {hdR : List (Nat × Nat)} {m : List (List Nat)} {rh ph : Nat → Value} {vS vB : Value} {sel : List (PI parts)} {W : World} (h : WR parts W1 rh ph vS vB sel W) (hO : OM W1 B bR hdR m) : OM W B bR hdR m := hO.new h.K
theorem WR.mxS {parts : List (List Nat)} {W1 : World} {B bR d r : Nat} {hdR : List (Nat × Nat)} {ph : Nat → Value} {vS vB : Value} {sel : List (PI parts)} {W : World} (h : WR parts W1 (rhOf d hdR) ph vS vB sel W) (hO : OM W1 B bR hdR (rowsM d r)) (hN : d + r = parts.length) : Mx W vS (sel.map fun x => (rowsM d r).getD x.1 []) := by
  by_cases hs : sel = []
  · subst hs
    obtain ⟨a, c, rfl⟩ := owns_slice h.oS
    exact ⟨a, c, rfl, Nat.zero_le _, Or.inl rfl⟩
  have hne : sel.length ≠ 0 := by simpa using hs
  obtain ⟨g, cg, rfl, _, hcg, _⟩ := ne_of_owns h.oS hne
  have hb := Blk.of_owns h.oS
  have hOW : OM W B bR hdR (rowsM d r) := h.om hO
  refine ⟨some ⟨g, 0, none⟩, cg, by rw [List.length_map], by rw [List.length_map]; exact hcg, Or.inr ⟨g, 0, fun k => some ⟨(hdR.getD ((sel.map (·.1)).getD k 0) (0, 0)).1, 0, none⟩, fun k => (hdR.getD ((sel.map (·.1)).getD k 0) (0, 0)).2, rfl, ?_⟩⟩
  intro k x hx
  rw [List.getElem?_map] at hx
  cases hk : sel[k]? with
  | none => rw [hk] at hx; simp at hx
  | some y =>
    rw [hk] at hx
    simp only [Option.map_some, Option.some.injEq] at hx
    have hyi : y.1 < (rowsM d r).length := by rw [rowsM_length]; have := y.2.1; omega
    have hrg : (rowsM d r)[y.1]? = some x := by rw [← hx]; exact getD_some hyi
    have hdg : hdR[y.1]? = some (hdR.getD y.1 (0, 0)) := getD_some (by rw [hOW.len]; exact hyi)
    obtain ⟨q1, _, q3⟩ := hOW.rows _ _ _ hdg hrg
    have hxl : x.length = d := (rowsM_rect d r x (List.mem_of_getElem? hrg)).1
    have hcell := hb.cell (show (sel.map fun x => rhOf d hdR x.1)[k]? = some (rhOf d hdR y.1) by rw [List.getElem?_map, hk]; rfl)
    have hgd : (sel.map (·.1)).getD k 0 = y.1 := by rw [List.getD_eq_getElem?_getD, List.getElem?_map, hk]; rfl
    dsimp only
    rw [hgd, Nat.zero_add, hxl]
    rw [hxl] at q3
    exact ⟨hcell, q3, Or.inr ⟨_, 0, rfl, q1.row⟩, by simp⟩
theorem WR.mxB {parts : List (List Nat)} {W1 : World} {b o : Nat} {A : Nat → Option Addr} {C : Nat → Nat} {rh : Nat → Value} {vS vB : Value} {sel : List (PI parts)} {W : World} (h : WR parts W1 rh (phOf parts A C) vS vB sel W) (hM : MxAt W b o parts A C) :
    (sel ≠ [] → ∃ g cg, vB = .slice (some ⟨g, 0, none⟩) sel.length cg ∧ sel.length ≤ cg ∧ MxAt W g 0 (sel.map fun x => parts.getD x.1 []) (fun k => A ((sel.map (·.1)).getD k 0)) (fun k => C ((sel.map (·.1)).getD k 0))) := by
  intro hs
  have hne : sel.length ≠ 0 := by simpa using hs
  obtain ⟨g, cg, rfl, _, hcg, _⟩ := ne_of_owns h.oB hne
  have hb := Blk.of_owns h.oB
  refine ⟨g, cg, rfl, hcg, ?_⟩
  intro k x hx
  rw [List.getElem?_map] at hx
  cases hk : sel[k]? with
  | none => rw [hk] at hx; simp at hx
  | some y =>
    rw [hk] at hx
    simp only [Option.map_some, Option.some.injEq] at hx
    obtain ⟨_, q2, q3, q4⟩ := hM y.1 x (by rw [← hx]; exact getD_some y.2.1)
    have hcell := hb.cell (show (sel.map fun x => phOf parts A C x.1)[k]? = some (phOf parts A C y.1) by rw [List.getElem?_map, hk]; rfl)
    have hgd : (sel.map (·.1)).getD k 0 = y.1 := by rw [List.getD_eq_getElem?_getD, List.getElem?_map, hk]; rfl
    have hxl : plen parts y.1 = x.length := by unfold plen; rw [hx]
    unfold phOf at hcell
    dsimp only
    rw [hgd, Nat.zero_add, ← hxl]
    rw [← hxl] at q2
    exact ⟨hcell, q2, q3, q4⟩
theorem sel_full' {parts : List (List Nat)} {k d : Nat} (hk : k ≤ parts.length) (hd : (piTo parts k).length = d) : (piTo parts k).map (·.1) = (pidx parts).take d ∧ d ≤ (pidx parts).length := by
  obtain ⟨t, ht⟩ := piTo_prefix parts k (parts.length - k)
  rw [show k + (parts.length - k) = parts.length by omega] at ht
  unfold pidx
  rw [ht]
  simp [← hd]

set_option maxRecDepth 100000 in
set_option maxHeartbeats 8000000 in
theorem rwhole_loop (b o cap d : Nat) (parts : List (List Nat)) (A : Nat → Option Addr) (C : Nat → Nat) (w : World) (hM : MxAt w b o parts A C) (hm : Mx w (.slice (some ⟨b, o, none⟩) parts.length cap) parts)
    (hE : parErr parts d = 0) (hLm : ∀ j, j < parts.length → plen parts j ≤ maxLen) (hBy : BytM parts) :
    Calls Try.prog 61 #[.slice (some ⟨b, o, none⟩) parts.length cap, .int .i64 d] w (RowsErr (wholeRows parts d) (wholeErr parts d) w) := by
  obtain ⟨j0, gi, gz0, gz1, gz2⟩ := info_parts infoBytes
  obtain ⟨q1, q2, q3, q4⟩ := parErr_in hE
  obtain ⟨hlo, hmi⟩ := parErr_zero hE
  have HM := Lib.hid hM
  have Hm := Lib.hid hm
  have HE := Lib.hid hE
  have HLm := Lib.hid hLm
  have HBy := Lib.hid hBy
  have Hlo := Lib.hid hlo
  have Hmi := Lib.hid hmi
  have hd1 : 1 ≤ d := by omega
  have hbw : b < w.heap.size := World.block_lt_of_cell? w _ (hM 0 _ (getD_some (d := []) (by omega))).1
  have e1 : ((parts.length : Int) - (d : Int)) = ((parts.length - d : Nat) : Int) := by omega
  clear hM hm hE hLm hBy hlo hmi
  go_enter Try.func61, Try.ntmps61
  go_wp2_with fail
  refine (rCheck54_any _ parts d _ (by omega) HLm.out Hm.out (by omega) (by omega)).mono ?_
  rintro e w1 ⟨rfl, rfl⟩
  rw [HE.out]
  go_wp2_with fail
  refine (rRows_any d (parts.length - d) _ (by omega) (by omega)).mono ?_
  rintro e w4 ⟨vr, hdR, rfl, hG, hB4⟩
  obtain ⟨bR, cR, hvr, hcR, _, hO4⟩ := hG.done (by intro h; have := rowsM_length d (parts.length - d); rw [h] at this; simp at this; omega)
  rw [rowsM_length, show d + (parts.length - d) = parts.length by omega] at hvr hcR
  subst hvr
  have HO4 := Lib.hid hO4
  have HB4 := Lib.hid hB4
  have HM4 := Lib.hid (HM.out.new hB4)
  have hz4 := hB4.size
  have HRl := Lib.hid (show (rowsM d (parts.length - d)).length = parts.length by rw [rowsM_length]; omega)
  have hbR : bR < w4.heap.size := hO4.outer.lt
  clear hG hO4 hB4 e1
  go_wp2_with fail
  go_loopg [8, 9, 10] parts.length (fun gk v8 v9 i wr => ∃ k : Nat, k + gk = parts.length ∧ i = .int .i64 k ∧ Hid ((piTo parts k).length ≤ d) ∧ Hid (WR parts w4 (rhOf d hdR) (phOf parts A C) v8 v9 (piTo parts k) wr))
  case atStart => exact ⟨0, by omega, rfl, Nat.zero_le _, ⟨Below.refl _ _, World.ownsRow_nil _ _ _ _, World.ownsRow_nil _ _ _ _, fun g h => by simp [Value.ownBlock] at h⟩⟩
  case round =>
    obtain ⟨k, hgk, rfl, hle, hW⟩ := hrel
    have Hgk := Lib.hid hgk
    have hk : k ≤ parts.length := by omega
    clear hgk
    by_cases hgo : k < parts.length ∧ (piTo parts k).length < d
    · obtain ⟨hlt, hnd⟩ := hgo
      obtain ⟨wo, rfl⟩ : ∃ wo : World, wo = wr := ⟨_, rfl⟩
      obtain ⟨a8, c8, hv8⟩ := owns_slice hW.out.oS
      obtain ⟨a9, c9, hv9⟩ := owns_slice hW.out.oB
      subst hv8 hv9
      have hMk := (HM4.out.new hW.out.K) k _ (getD_some (d := []) hlt)
      have p1 : wo.cell? ⟨b, o + k, none⟩ = some (.slice (A k) (plen parts k) (C k)) := hMk.1
      have hpl := long_le Hlo.out hlt
      have HW := Lib.hid hW.out
      have hnl : (piTo parts k).length ≤ 64 := by omega
      generalize hpn : (piTo parts k).length = n at *
      by_cases hp : 1 ≤ plen parts k
      · have x3 : decide ((0 : Int) < (plen parts k : Int)) = true := by simp; omega
        have hrg : (rowsM d (parts.length - d))[k]? = some ((rowsM d (parts.length - d)).getD k []) := getD_some (by rw [HRl.out]; exact hlt)
        obtain ⟨p, hpd⟩ : ∃ p, hdR[k]? = some p := ⟨hdR.getD k (0, 0), getD_some (by rw [HO4.out.len, HRl.out]; exact hlt)⟩
        have hrr := (rowsM_rect d (parts.length - d)).get (i := k) (by rw [HRl.out]; exact hlt)
        have hpc := (HO4.out.outer.below hW.out.K HO4.out.outer.lt).cell (hvs_get hpd hrg)
        rw [hrr.1] at hpc
        unfold hv at hpc
        have Hpd := Lib.hid hpd
        have Hrel := Lib.hid (show rhOf d hdR k = .slice (some ⟨p.1, 0, none⟩) d p.2 by unfold rhOf hv; rw [List.getD_eq_getElem?_getD, hpd]; rfl)
        have i1 : (0 : Int) ≤ (k : Int) := by omega
        have i2 : (k : Int) < (parts.length : Int) := by omega
        have i3 : (n : Int) < (d : Int) := by omega
        have hS0 := hW.out.oS
        have hB0 := hW.out.oB
        rw [hpn] at hS0 hB0
        have HS := Lib.hid hS0
        have HBo := Lib.hid hB0
        have Hne := Lib.hid hW.out.ne
        have hz := hW.out.K.size
        have hbS : ∀ g, (Value.slice a8 n c8).ownBlock = some g → w4.heap.size ≤ g ∧ g < wo.heap.size := fun g h => by
          have := owns_block hW.out.oS h; exact ⟨this.2.1, this.1.lt⟩
        have hbB : ∀ g, (Value.slice a9 n c9).ownBlock = some g → w4.heap.size ≤ g ∧ g < wo.heap.size := fun g h => by
          have := owns_block hW.out.oB h; exact ⟨this.2.1, this.1.lt⟩
        clear hrg hpd hrr hMk hW hle hS0 hB0
        go_wp2_with fail
        have hpv1 : (Value.slice (A k) (plen parts k) (C k)).oneCell' = true := rfl
        go_region_held_law (fun w' => w'.cell? ⟨bR, k, none⟩ = some (.slice (some ⟨p.1, 0, none⟩) d p.2) ∧ w'.cell? ⟨b, o + k, none⟩ = some (.slice (A k) (plen parts k) (C k)))
          (first
            | exact ⟨hpc, p1⟩
            | (refine ⟨Kept.cell (show Kq (.slice a8 n c8) (.slice a9 n c9) wo _ from ?_) hpc ?_, Kept.cell (show Kq (.slice a8 n c8) (.slice a9 n c9) wo _ from ?_) p1 ?_⟩
               · repeat (first | exact Kq.rf _ _ _ | exact Kq.drew0 _ _ _ | apply Kq.dr | apply Kq.al | refine Kq.gS ?_ hgS | refine Kq.gB ?_ hgB)
               · rintro (h | h) <;> first | (have := (hbS _ h).1; simp only at this; omega) | (have := (hbB _ h).1; simp only at this; omega)
               · repeat (first | exact Kq.rf _ _ _ | exact Kq.drew0 _ _ _ | apply Kq.dr | apply Kq.al | refine Kq.gS ?_ hgS | refine Kq.gB ?_ hgB)
               · rintro (h | h) <;> first | (have := (hbS _ h).1; simp only at this; omega) | (have := (hbB _ h).1; simp only at this; omega)))
          (first
            | (refine step_append_lies _ rfl (.tmp 47) (.tmp 52) 39 rfl w4.heap.size 26 j0 (.slice none 0 0) 1 24 Try.underlying39 gi gz0 gz1 gz2 rfl (by decide) (.slice a8 n c8) n _ rfl (owns_kept HS.out (show Kp (.slice a9 n c9) wo _ from by repeat (first | exact Kp.rf _ _ | exact Kp.drew0 _ _ | apply Kp.dr | apply Kp.al | refine Kp.g ?_ hgB)) (fun g h1 h2 => Hne.out g h1 h2)) ⟨_, 0, none⟩ 1 1 [.slice (some ⟨p.1, 0, none⟩) d p.2] rfl rfl (cell_one_at (T := 26) (by (try apply Blk.dr); first | exact Blk.new _ _ _ | exact Blk.new1 _ _ _ _ | exact (Blk.new _ _ _).alloc _)) (by intro u hu; simp only [List.mem_cons, List.not_mem_nil, or_false] at hu; subst hu; rfl) (by decide) (by unfold maxLen; omega) (by omega) (by simp; omega) _ rfl ?_; intro gS cS wS hownS hgS hatS hltS)
            | (refine step_append_lies _ rfl (.tmp 54) (.tmp 59) 39 rfl w4.heap.size 26 j0 (.slice none 0 0) 1 24 Try.underlying39 gi gz0 gz1 gz2 rfl (by decide) (.slice a9 n c9) n _ rfl (owns_kept HBo.out (show Kp (.slice a8 n c8) wo _ from by repeat (first | exact Kp.rf _ _ | exact Kp.drew0 _ _ | apply Kp.dr | apply Kp.al | refine Kp.g ?_ hgS)) (fun g h1 h2 => Hne.out g h2 h1)) ⟨_, 0, none⟩ 1 1 [.slice (A k) (plen parts k) (C k)] rfl rfl (cell_one_at (T := 26) (by (try apply Blk.dr); first | exact Blk.new _ _ _ | exact Blk.new1 _ _ _ _ | exact (Blk.new _ _ _).alloc _ | (refine Blk.kept (?_) (Kept.of_grown hgS) (fun e => by have := (hbS _ e.symm).2; first | omega | (simp at this; omega) | simp at this); (try apply Blk.dr); first | exact Blk.new _ _ _ | exact Blk.new1 _ _ _ _ | exact (Blk.new _ _ _).alloc _))) (by intro u hu; simp only [List.mem_cons, List.not_mem_nil, or_false] at hu; subst hu; rfl) (by decide) (by unfold maxLen; omega) (by omega) (by first | (have := hgS.size; simp at this ⊢; omega) | (simp; omega)) _ rfl ?_; intro gB cB wB hownB hgB hatB hltB))
        all_goals
          have hWn := Lib.hid (HW.out.next ⟨k, hlt, hp⟩ hpn (by rw [Hrel.out]; exact hownS) hownB hatS (by simp; try omega) hatB (by simp; try omega) hltS (by repeat (first | exact Kp.rf _ _ | apply Kp.dr | apply Kp.al | refine Kp.g ?_ hgB)) (by repeat (first | exact Kq.rf _ _ _ | apply Kq.dr | apply Kq.al | refine Kq.gB ?_ hgB | refine Kq.gS ?_ hgS)))
          rw [← piTo_yes (parts := parts) ⟨hlt, hp⟩] at hWn
          have hln := Lib.hid (show (piTo parts (k + 1)).length ≤ d by rw [piTo_yes ⟨hlt, hp⟩, List.length_append, hpn, List.length_singleton]; omega)
          clear hownS hownB hgS hgB hatS hatB hltS hltB
          go_wp2_with fail
          go_roundg (parts.length - k - 1)
          case measure => have := Hgk.out; omega
          case rel => exact ⟨k + 1, by have := Hgk.out; omega, by go_num, hln.out, hWn.out⟩
      · have x3 : decide ((0 : Int) < (plen parts k : Int)) = false := by simp; omega
        have i1 : (0 : Int) ≤ (k : Int) := by omega
        have i2 : (k : Int) < (parts.length : Int) := by omega
        have i3 : (n : Int) < (d : Int) := by omega
        have hno := piTo_no (parts := parts) hp
        have hWn := Lib.hid (show WR parts w4 (rhOf d hdR) (phOf parts A C) (.slice a8 n c8) (.slice a9 n c9) (piTo parts (k + 1)) wo by rw [hno]; exact HW.out)
        have hln := Lib.hid (show (piTo parts (k + 1)).length ≤ d by rw [hno, hpn]; omega)
        have hpz : (plen parts k : Int) ≤ 0 := by omega
        clear hMk hW hle hno
        go_wp2_with fail
        go_roundg (parts.length - k - 1)
        case measure => have := Hgk.out; omega
        case rel => exact ⟨k + 1, by have := Hgk.out; omega, by go_num, hln.out, hWn.out⟩
    · obtain ⟨wo, rfl⟩ : ∃ wo : World, wo = wr := ⟨_, rfl⟩
      obtain ⟨a8, c8, hv8⟩ := owns_slice hW.out.oS
      obtain ⟨a9, c9, hv9⟩ := owns_slice hW.out.oB
      by_cases hnd : (piTo parts k).length < d
      · subst hv8 hv9
        have hkn : k = parts.length := by omega
        have hr := Lib.hid (show wholeErr parts d = 26 by unfold wholeErr pidx; rw [if_pos (by rw [List.length_map, ← hkn]; exact hnd)])
        have hr2 := Lib.hid (show wholeRows parts d = [] by unfold wholeRows; rw [hr.out]; rfl)
        have HBW := Lib.hid (HB4.out.trans (hW.out.K.mono hz4))
        have i2 : (parts.length : Int) ≤ (k : Int) := by omega
        have t1 : decide ((k : Int) < (parts.length : Int)) = false := by simp; omega
        have t2 : decide (((piTo parts k).length : Int) < (d : Int)) = true := by simp; omega
        generalize (piTo parts k).length = n at *
        clear hW hle hgo
        go_wp2_with fail
        go_ret2
        exact ⟨.slice none 0 0, [], by rw [hr.out]; rfl, by rw [hr2.out]; exact GM.nil _ _, HBW.out⟩
      · have hnn : (piTo parts k).length = d := by have := hle.out; omega
        have hsel := sel_full' hk hnn
        have hOW := hW.out.mxS HO4.out (by omega)
        rw [selM_eq hsel.1] at hOW
        obtain ⟨gB, cgB, hvB, hcgB, hMB⟩ := hW.out.mxB (HM4.out.new hW.out.K) (by intro e; rw [e] at hnn; simp at hnn; omega)
        rw [selP_eq hsel.1] at hMB
        rw [hnn] at hvB hcgB hv8
        rw [hvB] at hW
        subst hvB
        subst hv8
        have HmS := Lib.hid hOW
        have HMB := Lib.hid hMB
        have Hsel := Lib.hid hsel
        have hsq := selM_sq hd1 (by omega) q4 hsel.2
        have hinv := inv_sel hd1 (by omega) q4 hsel.2
        have Hsq := Lib.hid hsq
        have Hinv := Lib.hid hinv
        have Hx := Lib.hid (hsq.inv hinv).1
        obtain ⟨x, _⟩ : ∃ x, x ∈ piTo parts k := List.exists_mem_of_ne_nil _ (by intro e; rw [e] at hnn; simp at hnn; omega)
        have hRP := selP_rect (d := d) HBy.out Hmi.out (x := x)
        have hL1 := x.2.2
        have hL2 := long_le Hlo.out x.2.1
        generalize plen parts x.1 = L at hRP hL1 hL2
        have HRP := Lib.hid hRP
        have HsPl := Lib.hid (show (selP parts d).length = d by unfold selP; rw [List.length_map, List.length_take]; have := hsel.2; omega)
        have hr := Lib.hid (show wholeErr parts d = 0 by unfold wholeErr; rw [if_neg (by omega), hinv])
        have hr2 := Lib.hid (show wholeRows parts d = wholeM parts d by unfold wholeRows; rw [if_pos hr.out])
        have HBW := Lib.hid (HB4.out.trans (hW.out.K.mono hz4))
        have HOR := Lib.hid (HO4.out.new hW.out.K)
        have t2 : decide ((d : Int) < (d : Int)) = false := by simp
        clear hOW hMB hsel hsq hinv hle hgo hv9 hRP
        by_cases hlt : k < parts.length
        · have t1 : decide ((k : Int) < (parts.length : Int)) = true := by simp; omega
          clear hW hnd
          go_wp2_with fail
          refine (rInvert_any _ (selM parts d) _ (by rw [Hsq.out.len]; omega) Hsq.out.bytM HmS.out).mono ?_
          rintro e w5 ⟨vb, rfl, hMb, hB5⟩
          rw [Hinv.out]
          obtain ⟨ab, capb, hvb, hcb, hMb⟩ := hMb
          have hxl := Hx.out.len
          rcases hMb with h0 | ⟨bb, ob, Ab, Cb, hab, hMb⟩
          · rw [h0] at hxl; simp at hxl; omega
          subst hab
          rw [hxl] at hvb hcb
          subst hvb
          have HMb := Lib.hid hMb
          have HB5 := Lib.hid (HBW.out.trans (hB5.mono HBW.out.size))
          have HMB5 := Lib.hid (HMB.out.new hB5)
          have HOR5 := Lib.hid (HOR.out.new hB5)
          have hz5 := hB5.size
          obtain ⟨bk, hbk⟩ : ∃ bk, invRows (selM parts d) = bk := ⟨_, rfl⟩
          rw [hbk] at Hx HMb
          have Hbk := Lib.hid hbk
          clear hMb hB5 hxl hbk
          go_wp2_with fail
          go_loopg [13, 15] d (fun gk v i wr => ∃ q : Nat, q + gk = d ∧ i = .int .i64 q ∧ Hid (∃ hd', GM wr w5.heap.size v hd' ((prodM bk (selP parts d)).take q)) ∧ Hid (Below w5.heap.size w5 wr))
          case atStart => exact ⟨0, by omega, rfl, ⟨[], GM.nil _ _⟩, Below.refl _ _⟩
          case round =>
            obtain ⟨q, hgq, rfl, hG, hB⟩ := hrel
            have Hgq := Lib.hid hgq
            have hq : q ≤ d := by omega
            clear hgq
            by_cases hltq : q < d
            · obtain ⟨hd', hG⟩ := hG.out
              have hrg : bk[q]? = some (bk.getD q []) := getD_some (by rw [Hx.out.len]; exact hltq)
              have hrr := Hx.out.rect.get (i := q) (by rw [Hx.out.len]; exact hltq)
              have hMq := (HMb.out.new hB.out) q _ hrg
              obtain ⟨b', o', hA, hrow⟩ : ∃ b' o', Ab q = some ⟨b', o', none⟩ ∧ RowAt wr b' o' (bk.getD q []) := by
                rcases hMq.2.2.1 with h0 | h
                · rw [h0] at hrr; simp at hrr; omega
                · exact h
              have hpc := hMq.1
              rw [hA, hrr.1] at hpc
              have Hrow := Lib.hid hrow
              have Hrr := Lib.hid hrr
              have HMx := Lib.hid (HMB5.out.new hB.out)
              have htk := Lib.hid (prodM_take (b := selP parts d) hrg)
              have HG := Lib.hid hG
              have HBr := Lib.hid hB.out
              have hzz : w5.heap.size ≤ wr.heap.size := hB.out.size
              clear hG hB hrg hrr hMq hA hrow
              go_wp2_with fail
              refine (combined_any b' o' (Cb q) gB 0 cgB L d d (bk.getD q []) (selP parts d) _ _ wr Hrr.out.1 HsPl.out Hrow.out HMx.out hcgB HRP.out rfl hd1 (by omega) (by omega) hL1 Hrr.out.2).mono ?_
              rintro e w6 ⟨g, cg, rfl, g1, g2, g3, hblk, hB6⟩
              have Hlk := Lib.hid (show ((prodM bk (selP parts d)).take q).length = q by rw [List.length_take, prodM_length, Hx.out.len]; omega)
              rw [row0_of HRP.out (by rw [HsPl.out]; omega), HsPl.out] at htk
              generalize prTo (bk.getD q []) (selP parts d) L d = pr at *
              have Hblk := Lib.hid hblk
              have HB6 := Lib.hid hB6
              have HGo := Lib.hid ((HG.out.new hB6).outer)
              have Hg2 := Lib.hid g2
              have hz6 := hB6.size
              clear hblk hB6 g2 g3 hpc
              go_wp2_with (at_builtin; refine wpList_append_own _ rfl _ _ 39 rfl w5.heap.size 26 j0 (.slice none 0 0) 1 24 Try.underlying39 gi gz0 gz1 gz2 rfl (by decide) _ _ _ rfl (HGo.out.alloc _) ⟨w6.heap.size, 0, none⟩ 1 1 [hv pr.length (g, cg)] rfl rfl ?d1 ?d2 ?d3 ?d4 ?d5 ?_)
              case d1 => exact cell_one_new _ _ _
              case d2 => intro u hu; simp only [List.mem_cons, List.not_mem_nil, or_false] at hu; subst hu; rfl
              case d3 => rw [Hlk.out]; unfold maxLen; omega
              case d4 => rw [Hlk.out]; omega
              case d5 => simp; omega
              intro v' w7 hown hgr _
              have hG7 := HG.out.snoc HB6.out (p := (g, cg)) (r := pr) Hblk.out g1 HBr.out.size Hg2.out (by rw [Hlk.out]; simpa [prodM_length, Hx.out.len, Nat.min_eq_left hq] using hown) (by simpa using hgr)
              rw [← htk.out] at hG7
              have hB7 : Below w5.heap.size w5 w7 := ((HBr.out.trans (HB6.out.mono HBr.out.size)).alloc (by omega) _).grown hgr (by simp; omega) (fun q hq => (owns_block HG.out.outer hq).2.1)
              have HG7 := Lib.hid hG7
              have HB7 := Lib.hid hB7
              clear hown hgr hG7 hB7
              go_wp2_with fail
              go_roundg (d - q - 1)
              case measure => have := Hgq.out; omega
              case rel => exact ⟨q + 1, by have := Hgq.out; omega, by go_num, ⟨_, HG7.out⟩, HB7.out⟩
            · have hkn : (prodM bk (selP parts d)).take q = prodM bk (selP parts d) := List.take_of_length_le (by rw [prodM_length, Hx.out.len]; omega)
              obtain ⟨hd', hG⟩ := hG.out
              rw [hkn] at hG
              obtain ⟨og, hog⟩ : ∃ og, prodM bk (selP parts d) = og := ⟨_, rfl⟩
              have hRo : Rect L og := by rw [← hog]; exact prodM_rect HRP.out (by rw [HsPl.out]; omega)
              have hlo : og.length = d := by rw [← hog, prodM_length, Hx.out.len]
              rw [hog] at hG
              obtain ⟨bO, cO, hvO, hcO, _, hOO⟩ := hG.done (by intro h; rw [h] at hlo; simp at hlo; omega)
              rw [hlo] at hvO hcO
              obtain ⟨w8, rfl⟩ : ∃ w8 : World, w8 = wr := ⟨_, rfl⟩
              subst hvO
              have HMO := Lib.hid hOO.mxAt
              have Hog := Lib.hid hog
              have HRo := Lib.hid hRo
              have Hlo' := Lib.hid hlo
              have HB8 := Lib.hid (HB5.out.trans (hB.out.mono HB5.out.size))
              have HOR8 := Lib.hid (HOR5.out.new hB.out)
              have hz8 := HB8.out.size
              clear hG hkn hB hOO hog hRo hlo
              go_wp2_with fail
              go_loopg [14, 16] parts.length (fun gk v i wr => ∃ q : Nat, q + gk = parts.length ∧ i = .int .i64 q ∧ Hid (∃ hd', GM wr w8.heap.size v hd' ((prodM (rowsM d (parts.length - d)) og).take q)) ∧ Hid (Below w8.heap.size w8 wr))
              case atStart => exact ⟨0, by omega, rfl, ⟨[], GM.nil _ _⟩, Below.refl _ _⟩
              case round =>
                obtain ⟨z, hgz, rfl, hG, hB⟩ := hrel
                have Hgz := Lib.hid hgz
                have hz : z ≤ parts.length := by omega
                clear hgz
                by_cases hltz : z < parts.length
                · obtain ⟨hd2, hG⟩ := hG.out
                  have hrg : (rowsM d (parts.length - d))[z]? = some ((rowsM d (parts.length - d)).getD z []) := getD_some (by rw [HRl.out]; exact hltz)
                  have hrr := (rowsM_rect d (parts.length - d)).get (i := z) (by rw [HRl.out]; exact hltz)
                  obtain ⟨p, hp⟩ : ∃ p, hdR[z]? = some p := ⟨hdR.getD z (0, 0), getD_some (by rw [HOR8.out.len, HRl.out]; exact hltz)⟩
                  have hpc := (HOR8.out.outer.below hB.out HOR8.out.outer.lt).cell (hvs_get hp hrg)
                  obtain ⟨hpb, _, hpl⟩ := HOR8.out.rows _ p _ hp hrg
                  rw [hrr.1] at hpc hpl
                  unfold hv at hpc
                  have Hrow := Lib.hid (hpb.below hB.out hpb.lt).row
                  have Hrr := Lib.hid hrr
                  have HMx := Lib.hid (HMO.out.new hB.out)
                  have htk := Lib.hid (prodM_take (b := og) hrg)
                  have HG := Lib.hid hG
                  have HBr := Lib.hid hB.out
                  have hzz : w8.heap.size ≤ wr.heap.size := hB.out.size
                  clear hG hB hrg hrr hp hpb
                  go_wp2_with fail
                  refine (combined_any p.1 0 p.2 bO 0 cO L d d ((rowsM d (parts.length - d)).getD z []) og _ _ wr Hrr.out.1 Hlo'.out Hrow.out HMx.out hcO HRo.out rfl hd1 (by omega) (by omega) hL1 Hrr.out.2).mono ?_
                  rintro e w6 ⟨g, cg, rfl, g1, g2, g3, hblk, hB6⟩
                  have Hlk := Lib.hid (show ((prodM (rowsM d (parts.length - d)) og).take z).length = z by rw [List.length_take, prodM_length, HRl.out]; omega)
                  rw [row0_of HRo.out (by rw [Hlo'.out]; omega), Hlo'.out] at htk
                  generalize prTo ((rowsM d (parts.length - d)).getD z []) og L d = pr at *
                  have Hblk := Lib.hid hblk
                  have HB6 := Lib.hid hB6
                  have HGo := Lib.hid ((HG.out.new hB6).outer)
                  have Hg2 := Lib.hid g2
                  have hz6 := hB6.size
                  clear hblk hB6 g2 g3 hpc
                  go_wp2_with (at_builtin; refine wpList_append_own _ rfl _ _ 39 rfl w8.heap.size 26 j0 (.slice none 0 0) 1 24 Try.underlying39 gi gz0 gz1 gz2 rfl (by decide) _ _ _ rfl (HGo.out.alloc _) ⟨w6.heap.size, 0, none⟩ 1 1 [hv pr.length (g, cg)] rfl rfl ?d1 ?d2 ?d3 ?d4 ?d5 ?_)
                  case d1 => exact cell_one_new _ _ _
                  case d2 => intro u hu; simp only [List.mem_cons, List.not_mem_nil, or_false] at hu; subst hu; rfl
                  case d3 => rw [Hlk.out]; unfold maxLen; omega
                  case d4 => rw [Hlk.out]; omega
                  case d5 => simp; omega
                  intro v' w7 hown hgr _
                  have hG7 := HG.out.snoc HB6.out (p := (g, cg)) (r := pr) Hblk.out g1 HBr.out.size Hg2.out (by rw [Hlk.out]; simpa [prodM_length, HRl.out, Nat.min_eq_left hz] using hown) (by simpa using hgr)
                  rw [← htk.out] at hG7
                  have hB7 : Below w8.heap.size w8 w7 := ((HBr.out.trans (HB6.out.mono HBr.out.size)).alloc (by omega) _).grown hgr (by simp; omega) (fun q hq => (owns_block HG.out.outer hq).2.1)
                  have HG7 := Lib.hid hG7
                  have HB7 := Lib.hid hB7
                  clear hown hgr hG7 hB7
                  go_wp2_with fail
                  go_roundg (parts.length - z - 1)
                  case measure => have := Hgz.out; omega
                  case rel => exact ⟨z + 1, by have := Hgz.out; omega, by go_num, ⟨_, HG7.out⟩, HB7.out⟩
                · have hkn : (prodM (rowsM d (parts.length - d)) og).take z = wholeM parts d := by
                    rw [List.take_of_length_le (by rw [prodM_length, HRl.out]; omega)]
                    unfold wholeM
                    rw [Hbk.out, Hog.out]
                  obtain ⟨hd2, hG⟩ := hG.out
                  rw [hkn] at hG
                  have HG := Lib.hid hG
                  have HBr := Lib.hid hB.out
                  clear hG hkn hB
                  go_wp2_with fail
                  go_ret2
                  exact ⟨_, hd2, by rw [hr.out]; rfl, by rw [hr2.out]; exact HG.out.base hz8, HB8.out.trans (HBr.out.mono hz8)⟩
        · have t1 : decide ((k : Int) < (parts.length : Int)) = false := by simp; omega
          have i2 : (parts.length : Int) ≤ (k : Int) := by omega
          clear hW hnd
          go_wp2_with fail
          refine (rInvert_any _ (selM parts d) _ (by rw [Hsq.out.len]; omega) Hsq.out.bytM HmS.out).mono ?_
          rintro e w5 ⟨vb, rfl, hMb, hB5⟩
          rw [Hinv.out]
          obtain ⟨ab, capb, hvb, hcb, hMb⟩ := hMb
          have hxl := Hx.out.len
          rcases hMb with h0 | ⟨bb, ob, Ab, Cb, hab, hMb⟩
          · rw [h0] at hxl; simp at hxl; omega
          subst hab
          rw [hxl] at hvb hcb
          subst hvb
          have HMb := Lib.hid hMb
          have HB5 := Lib.hid (HBW.out.trans (hB5.mono HBW.out.size))
          have HMB5 := Lib.hid (HMB.out.new hB5)
          have HOR5 := Lib.hid (HOR.out.new hB5)
          have hz5 := hB5.size
          obtain ⟨bk, hbk⟩ : ∃ bk, invRows (selM parts d) = bk := ⟨_, rfl⟩
          rw [hbk] at Hx HMb
          have Hbk := Lib.hid hbk
          clear hMb hB5 hxl hbk
          go_wp2_with fail
          go_loopg [13, 15] d (fun gk v i wr => ∃ q : Nat, q + gk = d ∧ i = .int .i64 q ∧ Hid (∃ hd', GM wr w5.heap.size v hd' ((prodM bk (selP parts d)).take q)) ∧ Hid (Below w5.heap.size w5 wr))
          case atStart => exact ⟨0, by omega, rfl, ⟨[], GM.nil _ _⟩, Below.refl _ _⟩
          case round =>
            obtain ⟨q, hgq, rfl, hG, hB⟩ := hrel
            have Hgq := Lib.hid hgq
            have hq : q ≤ d := by omega
            clear hgq
            by_cases hltq : q < d
            · obtain ⟨hd', hG⟩ := hG.out
              have hrg : bk[q]? = some (bk.getD q []) := getD_some (by rw [Hx.out.len]; exact hltq)
              have hrr := Hx.out.rect.get (i := q) (by rw [Hx.out.len]; exact hltq)
              have hMq := (HMb.out.new hB.out) q _ hrg
              obtain ⟨b', o', hA, hrow⟩ : ∃ b' o', Ab q = some ⟨b', o', none⟩ ∧ RowAt wr b' o' (bk.getD q []) := by
                rcases hMq.2.2.1 with h0 | h
                · rw [h0] at hrr; simp at hrr; omega
                · exact h
              have hpc := hMq.1
              rw [hA, hrr.1] at hpc
              have Hrow := Lib.hid hrow
              have Hrr := Lib.hid hrr
              have HMx := Lib.hid (HMB5.out.new hB.out)
              have htk := Lib.hid (prodM_take (b := selP parts d) hrg)
              have HG := Lib.hid hG
              have HBr := Lib.hid hB.out
              have hzz : w5.heap.size ≤ wr.heap.size := hB.out.size
              clear hG hB hrg hrr hMq hA hrow
              go_wp2_with fail
              refine (combined_any b' o' (Cb q) gB 0 cgB L d d (bk.getD q []) (selP parts d) _ _ wr Hrr.out.1 HsPl.out Hrow.out HMx.out hcgB HRP.out rfl hd1 (by omega) (by omega) hL1 Hrr.out.2).mono ?_
              rintro e w6 ⟨g, cg, rfl, g1, g2, g3, hblk, hB6⟩
              have Hlk := Lib.hid (show ((prodM bk (selP parts d)).take q).length = q by rw [List.length_take, prodM_length, Hx.out.len]; omega)
              rw [row0_of HRP.out (by rw [HsPl.out]; omega), HsPl.out] at htk
              generalize prTo (bk.getD q []) (selP parts d) L d = pr at *
              have Hblk := Lib.hid hblk
              have HB6 := Lib.hid hB6
              have HGo := Lib.hid ((HG.out.new hB6).outer)
              have Hg2 := Lib.hid g2
              have hz6 := hB6.size
              clear hblk hB6 g2 g3 hpc
              go_wp2_with (at_builtin; refine wpList_append_own _ rfl _ _ 39 rfl w5.heap.size 26 j0 (.slice none 0 0) 1 24 Try.underlying39 gi gz0 gz1 gz2 rfl (by decide) _ _ _ rfl (HGo.out.alloc _) ⟨w6.heap.size, 0, none⟩ 1 1 [hv pr.length (g, cg)] rfl rfl ?d1 ?d2 ?d3 ?d4 ?d5 ?_)
              case d1 => exact cell_one_new _ _ _
              case d2 => intro u hu; simp only [List.mem_cons, List.not_mem_nil, or_false] at hu; subst hu; rfl
              case d3 => rw [Hlk.out]; unfold maxLen; omega
              case d4 => rw [Hlk.out]; omega
              case d5 => simp; omega
              intro v' w7 hown hgr _
              have hG7 := HG.out.snoc HB6.out (p := (g, cg)) (r := pr) Hblk.out g1 HBr.out.size Hg2.out (by rw [Hlk.out]; simpa [prodM_length, Hx.out.len, Nat.min_eq_left hq] using hown) (by simpa using hgr)
              rw [← htk.out] at hG7
              have hB7 : Below w5.heap.size w5 w7 := ((HBr.out.trans (HB6.out.mono HBr.out.size)).alloc (by omega) _).grown hgr (by simp; omega) (fun q hq => (owns_block HG.out.outer hq).2.1)
              have HG7 := Lib.hid hG7
              have HB7 := Lib.hid hB7
              clear hown hgr hG7 hB7
              go_wp2_with fail
              go_roundg (d - q - 1)
              case measure => have := Hgq.out; omega
              case rel => exact ⟨q + 1, by have := Hgq.out; omega, by go_num, ⟨_, HG7.out⟩, HB7.out⟩
            · have hkn : (prodM bk (selP parts d)).take q = prodM bk (selP parts d) := List.take_of_length_le (by rw [prodM_length, Hx.out.len]; omega)
              obtain ⟨hd', hG⟩ := hG.out
              rw [hkn] at hG
              obtain ⟨og, hog⟩ : ∃ og, prodM bk (selP parts d) = og := ⟨_, rfl⟩
              have hRo : Rect L og := by rw [← hog]; exact prodM_rect HRP.out (by rw [HsPl.out]; omega)
              have hlo : og.length = d := by rw [← hog, prodM_length, Hx.out.len]
              rw [hog] at hG
              obtain ⟨bO, cO, hvO, hcO, _, hOO⟩ := hG.done (by intro h; rw [h] at hlo; simp at hlo; omega)
              rw [hlo] at hvO hcO
              obtain ⟨w8, rfl⟩ : ∃ w8 : World, w8 = wr := ⟨_, rfl⟩
              subst hvO
              have HMO := Lib.hid hOO.mxAt
              have Hog := Lib.hid hog
              have HRo := Lib.hid hRo
              have Hlo' := Lib.hid hlo
              have HB8 := Lib.hid (HB5.out.trans (hB.out.mono HB5.out.size))
              have HOR8 := Lib.hid (HOR5.out.new hB.out)
              have hz8 := HB8.out.size
              clear hG hkn hB hOO hog hRo hlo
              go_wp2_with fail
              go_loopg [14, 16] parts.length (fun gk v i wr => ∃ q : Nat, q + gk = parts.length ∧ i = .int .i64 q ∧ Hid (∃ hd', GM wr w8.heap.size v hd' ((prodM (rowsM d (parts.length - d)) og).take q)) ∧ Hid (Below w8.heap.size w8 wr))
              case atStart => exact ⟨0, by omega, rfl, ⟨[], GM.nil _ _⟩, Below.refl _ _⟩
              case round =>
                obtain ⟨z, hgz, rfl, hG, hB⟩ := hrel
                have Hgz := Lib.hid hgz
                have hz : z ≤ parts.length := by omega
                clear hgz
                by_cases hltz : z < parts.length
                · obtain ⟨hd2, hG⟩ := hG.out
                  have hrg : (rowsM d (parts.length - d))[z]? = some ((rowsM d (parts.length - d)).getD z []) := getD_some (by rw [HRl.out]; exact hltz)
                  have hrr := (rowsM_rect d (parts.length - d)).get (i := z) (by rw [HRl.out]; exact hltz)
                  obtain ⟨p, hp⟩ : ∃ p, hdR[z]? = some p := ⟨hdR.getD z (0, 0), getD_some (by rw [HOR8.out.len, HRl.out]; exact hltz)⟩
                  have hpc := (HOR8.out.outer.below hB.out HOR8.out.outer.lt).cell (hvs_get hp hrg)
                  obtain ⟨hpb, _, hpl⟩ := HOR8.out.rows _ p _ hp hrg
                  rw [hrr.1] at hpc hpl
                  unfold hv at hpc
                  have Hrow := Lib.hid (hpb.below hB.out hpb.lt).row
                  have Hrr := Lib.hid hrr
                  have HMx := Lib.hid (HMO.out.new hB.out)
                  have htk := Lib.hid (prodM_take (b := og) hrg)
                  have HG := Lib.hid hG
                  have HBr := Lib.hid hB.out
                  have hzz : w8.heap.size ≤ wr.heap.size := hB.out.size
                  clear hG hB hrg hrr hp hpb
                  go_wp2_with fail
                  refine (combined_any p.1 0 p.2 bO 0 cO L d d ((rowsM d (parts.length - d)).getD z []) og _ _ wr Hrr.out.1 Hlo'.out Hrow.out HMx.out hcO HRo.out rfl hd1 (by omega) (by omega) hL1 Hrr.out.2).mono ?_
                  rintro e w6 ⟨g, cg, rfl, g1, g2, g3, hblk, hB6⟩
                  have Hlk := Lib.hid (show ((prodM (rowsM d (parts.length - d)) og).take z).length = z by rw [List.length_take, prodM_length, HRl.out]; omega)
                  rw [row0_of HRo.out (by rw [Hlo'.out]; omega), Hlo'.out] at htk
                  generalize prTo ((rowsM d (parts.length - d)).getD z []) og L d = pr at *
                  have Hblk := Lib.hid hblk
                  have HB6 := Lib.hid hB6
                  have HGo := Lib.hid ((HG.out.new hB6).outer)
                  have Hg2 := Lib.hid g2
                  have hz6 := hB6.size
                  clear hblk hB6 g2 g3 hpc
                  go_wp2_with (at_builtin; refine wpList_append_own _ rfl _ _ 39 rfl w8.heap.size 26 j0 (.slice none 0 0) 1 24 Try.underlying39 gi gz0 gz1 gz2 rfl (by decide) _ _ _ rfl (HGo.out.alloc _) ⟨w6.heap.size, 0, none⟩ 1 1 [hv pr.length (g, cg)] rfl rfl ?d1 ?d2 ?d3 ?d4 ?d5 ?_)
                  case d1 => exact cell_one_new _ _ _
                  case d2 => intro u hu; simp only [List.mem_cons, List.not_mem_nil, or_false] at hu; subst hu; rfl
                  case d3 => rw [Hlk.out]; unfold maxLen; omega
                  case d4 => rw [Hlk.out]; omega
                  case d5 => simp; omega
                  intro v' w7 hown hgr _
                  have hG7 := HG.out.snoc HB6.out (p := (g, cg)) (r := pr) Hblk.out g1 HBr.out.size Hg2.out (by rw [Hlk.out]; simpa [prodM_length, HRl.out, Nat.min_eq_left hz] using hown) (by simpa using hgr)
                  rw [← htk.out] at hG7
                  have hB7 : Below w8.heap.size w8 w7 := ((HBr.out.trans (HB6.out.mono HBr.out.size)).alloc (by omega) _).grown hgr (by simp; omega) (fun q hq => (owns_block HG.out.outer hq).2.1)
                  have HG7 := Lib.hid hG7
                  have HB7 := Lib.hid hB7
                  clear hown hgr hG7 hB7
                  go_wp2_with fail
                  go_roundg (parts.length - z - 1)
                  case measure => have := Hgz.out; omega
                  case rel => exact ⟨z + 1, by have := Hgz.out; omega, by go_num, ⟨_, HG7.out⟩, HB7.out⟩
                · have hkn : (prodM (rowsM d (parts.length - d)) og).take z = wholeM parts d := by
                    rw [List.take_of_length_le (by rw [prodM_length, HRl.out]; omega)]
                    unfold wholeM
                    rw [Hbk.out, Hog.out]
                  obtain ⟨hd2, hG⟩ := hG.out
                  rw [hkn] at hG
                  have HG := Lib.hid hG
                  have HBr := Lib.hid hB.out
                  clear hG hkn hB
                  go_wp2_with fail
                  go_ret2
                  exact ⟨_, hd2, by rw [hr.out]; rfl, by rw [hr2.out]; exact HG.out.base hz8, HB8.out.trans (HBr.out.mono hz8)⟩

set_option maxRecDepth 100000 in
set_option maxHeartbeats 2000000 in
theorem rwhole_any (v : Value) (parts : List (List Nat)) (data : Int) (w : World) (hn : parts.length ≤ 1000000000) (hLm : ∀ j, j < parts.length → plen parts j ≤ maxLen) (hBy : BytM parts) (hm : Mx w v parts) (hd1 : -9223372036854775808 ≤ data) (hd2 : data ≤ 9223372036854775807) :
    Calls Try.prog 61 #[v, .int .i64 data] w (RowsErr (wRows parts data) (wErr parts data) w) := by
  by_cases hE : parErr parts data = 0
  · obtain ⟨q1, q2, q3, q4⟩ := parErr_in hE
    have hm' := hm
    obtain ⟨a, cap, rfl, hcap, h⟩ := hm
    rcases h with h | ⟨b, o, A, C, rfl, hM⟩
    · rw [h] at q3; simp at q3
    obtain ⟨d, rfl⟩ : ∃ d : Nat, data = d := ⟨data.toNat, by omega⟩
    have e1 : wErr parts d = wholeErr parts d := by unfold wErr; rw [if_pos hE]; rfl
    have e2 : wRows parts d = wholeRows parts d := by unfold wRows; rw [if_pos hE]; rfl
    rw [e1, e2]
    exact rwhole_loop b o cap d parts A C w hM hm' hE hLm hBy
  · have e1 : wErr parts data = parErr parts data := by unfold wErr; rw [if_neg hE]
    have e2 : wRows parts data = [] := by unfold wRows; rw [if_neg hE]
    rw [e1, e2]
    have Hm := Lib.hid hm
    have HLm := Lib.hid hLm
    obtain ⟨pe, hpe⟩ : ∃ pe, parErr parts data = pe := ⟨_, rfl⟩
    have tP : ((pe : Int) != 0) = true := by rw [bne_iff_ne]; rw [hpe] at hE; omega
    have Hpe := Lib.hid hpe
    obtain ⟨a, cap, rfl, hcap, h⟩ := hm
    clear hE e1 e2 hpe h hBy hLm
    go_enter Try.func61, Try.ntmps61
    go_wp2_with fail
    refine (rCheck54_any _ parts data _ (by omega) HLm.out Hm.out hd1 hd2).mono ?_
    rintro e w1 ⟨rfl, rfl⟩
    rw [Hpe.out]
    go_wp2_with fail
    go_ret2
    exact ⟨.slice none 0 0, [], by rw [Hpe.out]; rfl, GM.nil _ _, Below.refl _ _⟩
end Go.Proofs.Ytlbomlolomcolaa

namespace Go.Proofs.Ytlbomlolomcolaa
open Go.RowKit

set_option maxRecDepth 100000 in
set_option maxHeartbeats 8000000 in
theorem rRecovery_loop (b o cap L r : Nat) (data : List (List Nat)) (A : Nat → Option Addr) (C : Nat → Nat) (w : World) (hcap : data.length ≤ cap) (hM : MxAt w b o data A C) (h1 : 1 ≤ data.length) (h2 : data.length + r ≤ 64) (hL0 : plen data 0 = L) (hLm : ∀ j, j < data.length → plen data j ≤ maxLen) (hBy : BytM data) :
    Calls Try.prog 22 #[.slice (some ⟨b, o, none⟩) data.length cap, .int .i64 r] w (RowsErr (recRows data r) (recErr data r) w) := by
  obtain ⟨j0, gi, gz0, gz1, gz2⟩ := info_parts infoBytes
  have HM := Lib.hid hM
  have HL0 := Lib.hid hL0
  have HLm := Lib.hid hLm
  have HBy := Lib.hid hBy
  have HE0 := Lib.hid (show recErr data r = if longB data then 5 else if badB data then 23 else 0 by unfold recErr; rw [if_neg (by omega)])
  have t1 : decide ((data.length : Int) < 1) = false := by simp; omega
  have t2 : decide ((64 : Int) < (data.length : Int)) = false := by simp; omega
  have t3 : decide ((r : Int) < 0) = false := by simp
  have t4 : decide ((64 : Int) - (data.length : Int) < (r : Int)) = false := by simp; omega
  clear hM hL0 hLm hBy
  go_enter Try.func22, Try.ntmps22
  go_wp2_with fail
  go_loopg [6] data.length (fun gk i wr => ∃ k : Nat, k + gk = data.length ∧ i = .int .i64 k ∧ Hid (∀ i, i < k → plen data i ≤ 65536) ∧ w = wr)
  case atStart => exact ⟨0, by omega, rfl, fun i hi => by omega, rfl⟩
  case round =>
    obtain ⟨k, hgk, rfl, hag, rfl⟩ := hrel
    have Hgk := Lib.hid hgk
    have hk : k ≤ data.length := by omega
    clear hgk
    by_cases hlt : k < data.length
    · have p1 : w.cell? ⟨b, o + k, none⟩ = some (.slice (A k) (plen data k) (C k)) := (HM.out k _ (getD_some (d := []) hlt)).1
      have hxm := HLm.out k hlt
      unfold maxLen at hxm
      by_cases x1 : 65536 < plen data k
      · have hr := Lib.hid (show recErr data r = 5 by rw [HE0.out, if_pos]; unfold longB; rw [List.any_eq_true]; exact ⟨k, List.mem_range.2 hlt, decide_eq_true x1⟩)
        have hr2 := Lib.hid (show recRows data r = [] by unfold recRows; rw [hr.out]; rfl)
        generalize plen data k = x at *
        clear hag
        go_wp2_with fail
        go_ret2
        exact ⟨.slice none 0 0, [], by rw [hr.out]; rfl, by rw [hr2.out]; exact GM.nil _ _, Below.refl _ _⟩
      · have hs : Hid (∀ i, i < k + 1 → plen data i ≤ 65536) := by
          intro i hi
          by_cases hik : i = k
          · rw [hik]; omega
          · exact hag.out i (by omega)
        generalize plen data k = x at p1 x1 hxm
        have x2 : x ≤ 65536 := by omega
        clear hag x1
        go_wp2_with fail
        go_roundg (data.length - k - 1)
        case measure => have := Hgk.out; omega
        case rel => exact ⟨k + 1, by have := Hgk.out; omega, by go_num, hs.out, rfl⟩
    · have hlong : longB data = false := by
        unfold longB
        rw [List.any_eq_false]
        intro i hi
        have := hag.out i (by have := List.mem_range.1 hi; omega)
        simp; omega
      have hE1 := HE0.out
      rw [hlong, if_neg (by simp)] at hE1
      have HE1 := Lib.hid hE1
      have Hlong := Lib.hid hlong
      have Hag := Lib.hid hag.out
      have p0 : w.cell? ⟨b, o, none⟩ = some (.slice (A 0) L (C 0)) := by rw [← HL0.out]; exact (HM.out 0 _ (getD_some (d := []) (by omega))).1
      have hL2 : L ≤ 65536 := by rw [← HL0.out]; exact Hag.out 0 (by omega)
      clear hlong hE1 hag HE0
      go_wp2_with fail
      go_loopg [7] data.length (fun gk i wr => ∃ k : Nat, k + gk = data.length ∧ i = .int .i64 k ∧ Hid (∀ i, i < k → ¬ (plen data i = 0 ∨ plen data i ≠ plen data 0)) ∧ Hid (Below w.heap.size w wr))
      case atStart => exact ⟨0, by omega, rfl, fun i hi => by omega, Below.refl _ _⟩
      case round =>
        obtain ⟨q, hgq, rfl, hag, hwr⟩ := hrel
        have Hgq := Lib.hid hgq
        have hq : q ≤ data.length := by omega
        clear hgq
        by_cases hltq : q < data.length
        · have p1 : wr.cell? ⟨b, o + q, none⟩ = some (.slice (A q) (plen data q) (C q)) := ((HM.out.new hwr.out) q _ (getD_some (d := []) hltq)).1
          have p0' : wr.cell? ⟨b, o, none⟩ = some (.slice (A 0) L (C 0)) := by rw [← HL0.out]; exact ((HM.out.new hwr.out) 0 _ (getD_some (d := []) (by omega))).1
          have hxm := Hag.out q (by omega)
          have i1 : (0 : Int) ≤ (q : Int) := by omega
          have i2 : (q : Int) < (data.length : Int) := by omega
          have i3 : (0 : Int) < (data.length : Int) := by omega
          have Hwr := Lib.hid hwr.out
          by_cases x1 : plen data q = 0 ∨ plen data q ≠ plen data 0
          · have hr := Lib.hid (show recErr data r = 23 by rw [HE1.out, if_pos]; unfold badB; rw [List.any_eq_true]; exact ⟨q, List.mem_range.2 hltq, decide_eq_true x1⟩)
            have hr2 := Lib.hid (show recRows data r = [] by unfold recRows; rw [hr.out]; rfl)
            rw [HL0.out] at x1
            generalize plen data q = x at p1 x1 hxm
            clear hag hwr
            by_cases x0 : x = 0
            · have x3 : ((x : Int) == 0) = true := by rw [beq_iff_eq]; omega
              clear x1 x0
              go_wp2_with fail
              go_quiet (fail)
              go_wp2_with fail
              go_ret2
              exact ⟨.slice none 0 0, [], by rw [hr.out]; rfl, by rw [hr2.out]; exact GM.nil _ _, below_drewN Hwr.out _⟩
            · have x3 : ((x : Int) == 0) = false := by rw [beq_eq_false_iff_ne]; omega
              have x4 : ((x : Int) != (L : Int)) = true := by rw [bne_iff_ne]; omega
              clear x1 x0
              go_wp2_with fail
              go_quiet (fail)
              go_wp2_with fail
              go_ret2
              exact ⟨.slice none 0 0, [], by rw [hr.out]; rfl, by rw [hr2.out]; exact GM.nil _ _, below_drewN Hwr.out _⟩
          · have hs : Hid (∀ i, i < q + 1 → ¬ (plen data i = 0 ∨ plen data i ≠ plen data 0)) := by
              intro i hi
              by_cases hik : i = q
              · rw [hik]; exact x1
              · exact hag.out i (by omega)
            rw [HL0.out] at x1
            generalize plen data q = x at p1 x1 hxm
            have x3 : ((x : Int) == 0) = false := by rw [beq_eq_false_iff_ne]; omega
            have x4 : ((x : Int) != (L : Int)) = false := by rw [bne_eq_false_iff_eq]; omega
            clear x1 hag hwr
            go_wp2_with fail
            go_quiet (fail)
            go_wp2_with fail
            go_roundg (data.length - q - 1)
            case measure => have := Hgq.out; omega
            case rel => exact ⟨q + 1, by have := Hgq.out; omega, by go_num, hs.out, below_drewN Hwr.out _⟩
        · have hbad : badB data = false := by
            unfold badB
            rw [List.any_eq_false]
            intro i hi
            have := hag.out i (by have := List.mem_range.1 hi; omega)
            simpa using this
          obtain ⟨hR, hL1, _⟩ := badB_rect HBy.out hbad Hlong.out h1
          rw [HL0.out] at hR hL1
          have hr := Lib.hid (show recErr data r = 0 by rw [HE1.out, if_neg (by rw [hbad]; simp)])
          have hr2 := Lib.hid (show recRows data r = prodM (cauM r data.length) data by unfold recRows; rw [hr.out]; rfl)
          have HR := Lib.hid hR
          have Hwr := Lib.hid hwr.out
          obtain ⟨w2, rfl⟩ : ∃ w2 : World, w2 = wr := ⟨_, rfl⟩
          have hz2 := hwr.out.size
          clear hbad hR hag hwr p0
          go_wp2_with fail
          refine (rRows_any data.length r _ h1 h2).mono ?_
          rintro e w3 ⟨vr, hd, rfl, hG, hB3⟩
          obtain ⟨bo, co, hvr, hco, _, hO⟩ := hG.done (by intro h; have := rowsM_length data.length r; rw [h] at this; simp at this; omega)
          rw [rowsM_length] at hvr hco
          subst hvr
          have HO := Lib.hid hO
          have HB3 := Lib.hid hB3
          have HB03 := Lib.hid (Hwr.out.trans (hB3.mono hz2))
          have HMr := Lib.hid (HM.out.new HB03.out)
          have hz3 := hB3.size
          clear hG hO hB3
          go_wp2_with fail
          go_loopg [9, 10] r (fun gk v i wr => ∃ k : Nat, k + gk = r ∧ i = .int .i64 k ∧ Hid (∃ hd', GM wr w3.heap.size v hd' ((prodM (cauM r data.length) data).take k)) ∧ Hid (Below w3.heap.size w3 wr))
          case atStart => exact ⟨0, by omega, rfl, ⟨[], GM.nil _ _⟩, Below.refl _ _⟩
          case round =>
            obtain ⟨k', hgk, rfl, hG, hB⟩ := hrel
            have Hgk' := Lib.hid hgk
            have hk' : k' ≤ r := by omega
            clear hgk
            by_cases hltk : k' < r
            · obtain ⟨hd', hG⟩ := hG.out
              have hrg := rows_get (d := data.length) hltk
              obtain ⟨p, hp⟩ : ∃ p, hd[data.length + k']? = some p := ⟨hd.getD (data.length + k') (0, 0), getD_some (by rw [HO.out.len, rowsM_length]; omega)⟩
              have hpc := (HO.out.outer.below hB.out HO.out.outer.lt).cell (hvs_get hp hrg)
              obtain ⟨hpb, _, hpl⟩ := HO.out.rows _ p _ hp hrg
              rw [cauRow_length] at hpl hpc
              unfold hv at hpc
              have Hrow := Lib.hid (hpb.below hB.out hpb.lt).row
              have HMx := Lib.hid (HMr.out.new hB.out)
              have htk := Lib.hid (prodM_take (b := data) (show (cauM r data.length)[k']? = some (cauRow r data.length k') by simp [cauM, hltk]))
              have HG := Lib.hid hG
              have HBr := Lib.hid hB.out
              have hzz : w3.heap.size ≤ wr.heap.size := hB.out.size
              clear hG hB hrg hp hpb
              go_wp2_with fail
              refine (combined_any p.1 0 p.2 b o cap L data.length data.length (cauRow r data.length k') data A C wr (cauRow_length _ _ _) rfl Hrow.out HMx.out hcap HR.out rfl h1 (by omega) (by omega) hL1 (cauRow_byt _ _ _)).mono ?_
              rintro e w5 ⟨g, cg, rfl, g1, g2, g3, hblk, hB5⟩
              have Hlk := Lib.hid (show ((prodM (cauM r data.length) data).take k').length = k' by rw [List.length_take, prodM_length, cauM_length]; omega)
              have hL0' : (data.getD 0 []).length = L := HL0.out
              rw [hL0'] at htk
              generalize prTo (cauRow r data.length k') data L data.length = pr at *
              have Hblk := Lib.hid hblk
              have HB5 := Lib.hid hB5
              have HGo := Lib.hid ((HG.out.new hB5).outer)
              have Hg2 := Lib.hid g2
              have hz5 := hB5.size
              clear hblk hB5 g2 g3 hL0'
              go_wp2_with (at_builtin; refine wpList_append_own _ rfl _ _ 39 rfl w3.heap.size 26 j0 (.slice none 0 0) 1 24 Try.underlying39 gi gz0 gz1 gz2 rfl (by decide) _ _ _ rfl (HGo.out.alloc _) ⟨w5.heap.size, 0, none⟩ 1 1 [hv pr.length (g, cg)] rfl rfl ?d1 ?d2 ?d3 ?d4 ?d5 ?_)
              case d1 => exact cell_one_new _ _ _
              case d2 => intro u hu; simp only [List.mem_cons, List.not_mem_nil, or_false] at hu; subst hu; rfl
              case d3 => rw [Hlk.out]; unfold maxLen; omega
              case d4 => rw [Hlk.out]; omega
              case d5 => simp; omega
              intro v' w7 hown hgr _
              have hG7 := HG.out.snoc HB5.out (p := (g, cg)) (r := pr) Hblk.out g1 HBr.out.size Hg2.out (by rw [Hlk.out]; simpa [prodM_length, cauM_length, Nat.min_eq_left hk'] using hown) (by simpa using hgr)
              rw [← htk.out] at hG7
              have hB7 : Below w3.heap.size w3 w7 := ((HBr.out.trans (HB5.out.mono HBr.out.size)).alloc (by omega) _).grown hgr (by simp; omega) (fun q hq => (owns_block HG.out.outer hq).2.1)
              have HG7 := Lib.hid hG7
              have HB7 := Lib.hid hB7
              clear hown hgr hG7 hB7
              go_wp2_with fail
              go_roundg (r - k' - 1)
              case measure => have := Hgk'.out; omega
              case rel => exact ⟨k' + 1, by have := Hgk'.out; omega, by go_num, ⟨_, HG7.out⟩, HB7.out⟩
            · have hkn : (prodM (cauM r data.length) data).take k' = prodM (cauM r data.length) data := List.take_of_length_le (by rw [prodM_length, cauM_length]; omega)
              obtain ⟨hd', hG⟩ := hG.out
              rw [hkn] at hG
              have HG := Lib.hid hG
              have HBr := Lib.hid hB.out
              clear hG hkn hB
              go_wp2_with fail
              go_ret2
              have hss : w.heap.size ≤ w3.heap.size := HB03.out.size
              exact ⟨_, hd', by rw [hr.out]; rfl, by rw [hr2.out]; exact HG.out.base hss, HB03.out.trans (HBr.out.mono hss)⟩

set_option maxRecDepth 100000 in
set_option maxHeartbeats 4000000 in
theorem rRecovery_any (v : Value) (data : List (List Nat)) (count : Int) (w : World) (hn : data.length ≤ 1000000000) (hLm : ∀ j, j < data.length → plen data j ≤ maxLen) (hBy : BytM data) (hm : Mx w v data) (hd1 : -9223372036854775808 ≤ count) (hd2 : count ≤ 9223372036854775807) :
    Calls Try.prog 22 #[v, .int .i64 count] w (RowsErr (recRows data count) (recErr data count) w) := by
  obtain ⟨a, cap, rfl, hcap, h⟩ := hm
  by_cases hc : data.length < 1 ∨ 64 < data.length ∨ count < 0 ∨ 64 - (data.length : Int) < count
  · have e1 : recErr data count = 6 := by unfold recErr; rw [if_pos hc]
    have e2 : recRows data count = [] := by unfold recRows; rw [e1]; rfl
    rw [e1, e2]
    clear e1 e2 h hLm
    by_cases h1 : data.length < 1
    · have t1 : decide ((data.length : Int) < 1) = true := by simp; omega
      clear hc
      go_enter Try.func22, Try.ntmps22
      go_wp2_with fail
      go_ret2
      exact ⟨.slice none 0 0, [], rfl, GM.nil _ _, Below.refl _ _⟩
    have t1 : decide ((data.length : Int) < 1) = false := by simp; omega
    by_cases h2 : 64 < data.length
    · have t2 : decide ((64 : Int) < (data.length : Int)) = true := by simp; omega
      clear hc
      go_enter Try.func22, Try.ntmps22
      go_wp2_with fail
      go_ret2
      exact ⟨.slice none 0 0, [], rfl, GM.nil _ _, Below.refl _ _⟩
    have t2 : decide ((64 : Int) < (data.length : Int)) = false := by simp; omega
    by_cases h3 : count < 0
    · have t3 : decide (count < 0) = true := by simp; omega
      clear hc
      go_enter Try.func22, Try.ntmps22
      go_wp2_with fail
      go_ret2
      exact ⟨.slice none 0 0, [], rfl, GM.nil _ _, Below.refl _ _⟩
    have t3 : decide (count < 0) = false := by simp; omega
    have t4 : decide ((64 : Int) - (data.length : Int) < count) = true := by simp; omega
    have t5 : (64 : Int) - (data.length : Int) < count := by omega
    clear hc
    go_enter Try.func22, Try.ntmps22
    go_wp2_with fail
    go_ret2
    exact ⟨.slice none 0 0, [], rfl, GM.nil _ _, Below.refl _ _⟩
  rcases h with h | ⟨b, o, A, C, rfl, hM⟩
  · rw [h] at hc; simp at hc
  obtain ⟨r, rfl⟩ : ∃ r : Nat, count = r := ⟨count.toNat, by omega⟩
  exact rRecovery_loop b o cap _ r data A C w hcap hM (by omega) (by omega) rfl hLm hBy
end Go.Proofs.Ytlbomlolomcolaa

namespace Go.Proofs.Ytlbomlolomcolaa
open Go.RowKit

theorem recRows_byt {data : List (List Nat)} {count : Int} (hB : BytM data) : BytM (recRows data count) := by
  unfold recRows
  split
  · rename_i h
    have hne : 1 ≤ data.length ∧ longB data = false ∧ badB data = false := by
      unfold recErr at h
      split at h
      · simp at h
      split at h
      · simp at h
      split at h
      · simp at h
      rename_i h1 h2 h3
      exact ⟨by omega, by simpa using h2, by simpa using h3⟩
    have hR := (badB_rect hB hne.2.2 hne.2.1 hne.1).1
    exact prodM_byt hR
  · intro r hr; simp at hr
theorem recRows_length {data : List (List Nat)} {count : Int} : (recRows data count).length ≤ 64 := by
  unfold recRows
  split
  · rename_i h
    rw [prodM_length, cauM_length]
    unfold recErr at h
    split at h
    · simp at h
    omega
  · simp
theorem recErr_le (data : List (List Nat)) (count : Int) : recErr data count ≤ 23 := by
  unfold recErr
  split
  · decide
  split
  · decide
  split <;> decide
theorem parErr_le (data : List (List Nat)) (count : Int) : parErr data count ≤ 23 := by
  unfold parErr
  split
  · decide
  split
  · decide
  split
  · decide
  split <;> decide

set_option maxRecDepth 100000 in
set_option maxHeartbeats 4000000 in
theorem ParityRecovers_walk (v : Value) (m : List (List Nat)) (count : Int) (w : World) (hm : Mx w v m) (hB : BytM m) (hl : m.length ≤ maxLen) (hL : ∀ j, j < m.length → plen m j ≤ maxLen) (hd1 : -9223372036854775808 ≤ count) (hd2 : count ≤ 9223372036854775807) :
    Calls Try.prog 4 #[v, .int .i64 count] w fun e w' => e = .returned (.bool true) ∧ Below w.heap.size w w' := by
  have HM := Lib.hid hm
  have HB := Lib.hid hB
  have HL := Lib.hid hl
  have HLr := Lib.hid hL
  obtain ⟨re, hre⟩ : ∃ re, recErr m count = re := ⟨_, rfl⟩
  obtain ⟨pe, hpe⟩ : ∃ pe, parErr m count = pe := ⟨_, rfl⟩
  have t1 : ((re : Int) == (re : Int)) = true := by simp
  have t2 : ((pe : Int) == (pe : Int)) = true := by simp
  have t3 : re ≤ 23 := by rw [← hre]; exact recErr_le _ _
  have t4 : pe ≤ 23 := by rw [← hpe]; exact parErr_le _ _
  have Hre := Lib.hid hre
  have Hpe := Lib.hid hpe
  clear hm hB hl hL hre hpe
  by_cases hF : few54 m
  · have HF := Lib.hid hF
    have hlen : m.length ≤ 100 := hF.2
    clear hF
    go_enter Try.func4, Try.ntmps4
    go_wp2_with fail
    refine (rFew54_any v m _ HL.out HM.out).mono ?_
    rintro e w1 ⟨rfl, rfl⟩
    rw [few54B_true HF.out]
    go_wp2_with fail
    refine (pRecovery_any v m count _ (by omega) HB.out HM.out hd1 hd2).mono ?_
    rintro e w1 ⟨v1, hd1', rfl, hG1, hB1⟩
    rw [Hre.out]
    have B1 := Lib.hid hB1
    have M1 := Lib.hid (HM.out.new hB1)
    have G1 := Lib.hid hG1.mx
    clear hB1 hG1
    go_wp2_with fail
    refine (rRecovery_any v m count _ (by omega) HLr.out HB.out M1.out hd1 hd2).mono ?_
    rintro e w2 ⟨v2, hd2', rfl, hG2, hB2⟩
    rw [Hre.out]
    have B2 := Lib.hid (B1.out.trans (hB2.mono B1.out.size))
    have M2 := Lib.hid (M1.out.new hB2)
    have G12 := Lib.hid (G1.out.new hB2)
    have G2 := Lib.hid hG2.mx
    clear hB2 hG2 B1 M1 G1
    go_wp2_with fail
    refine (awake54_any _).mono ?_
    rintro e w3 ⟨rfl, hB3⟩
    have B3 := Lib.hid (B2.out.trans (hB3.mono B2.out.size))
    have M3 := Lib.hid (M2.out.new hB3)
    have G13 := Lib.hid (G12.out.new hB3)
    have G23 := Lib.hid (G2.out.new hB3)
    clear hB3 B2 M2 G12 G2
    go_wp2_with fail
    refine (rSame_any v1 v2 (recRows m count) (recRows m count) _ (by have := recRows_length (data := m) (count := count); omega) (recRows_byt HB.out) (recRows_byt HB.out) G13.out G23.out).mono ?_
    rintro e w5 ⟨rfl, q, hq⟩
    rw [sameB_self]
    have hB5 : Below w3.heap.size w3 w5 := by rw [hq]; exact below_drewN (Below.refl _ _) q
    have B5 := Lib.hid (B3.out.trans (hB5.mono B3.out.size))
    have M5 := Lib.hid (M3.out.new hB5)
    clear hB5 hq B3 M3 G13 G23
    go_wp2_with fail
    refine (pCheck_any v m count _ (by omega) M5.out hd1 hd2).mono ?_
    rintro e w6 ⟨rfl, hB6⟩
    rw [Hpe.out]
    have B6 := Lib.hid (B5.out.trans (hB6.mono B5.out.size))
    have M6 := Lib.hid (M5.out.new hB6)
    clear hB6 B5 M5
    go_wp2_with fail
    refine (rCheck54_any v m count _ (by omega) HLr.out M6.out hd1 hd2).mono ?_
    rintro e w7 ⟨rfl, rfl⟩
    rw [Hpe.out]
    go_wp2_with fail
    go_ret
    exact ⟨rfl, B6.out⟩
  · have HF := Lib.hid hF
    clear hF
    go_enter Try.func4, Try.ntmps4
    go_wp2_with fail
    refine (rFew54_any v m _ HL.out HM.out).mono ?_
    rintro e w1 ⟨rfl, rfl⟩
    rw [few54B_false HF.out]
    go_wp2_with fail
    refine (awake54_any _).mono ?_
    rintro e w6 ⟨rfl, hB6⟩
    go_wp2_with fail
    go_ret
    exact ⟨rfl, hB6⟩
end Go.Proofs.Ytlbomlolomcolaa

namespace Go.Proofs.Ytlbomlolomcolaa
open Go.RowKit Go.Shelf

set_option maxRecDepth 100000 in
set_option maxHeartbeats 2000000 in
theorem Equal_any (b o n cap b' o' n' cap' : Nat) (l l' : List Nat) (w : World) (hl : l.length = n) (hl' : l'.length = n') (hn : n ≤ 1000000000) (hn' : n' ≤ 1000000000) (hr : RowAt w b o l) (hr' : RowAt w b' o' l') (hB : Byt l) (hB' : Byt l') :
    Calls Try.prog 62 #[.slice (some ⟨b, o, none⟩) n cap, .slice (some ⟨b', o', none⟩) n' cap'] w fun e w' => e = .returned (.bool (decide (l = l'))) ∧ Below w.heap.size w w' := by
  have Hl := Lib.hid hl
  have Hl' := Lib.hid hl'
  have Hr := Lib.hid hr
  have Hr' := Lib.hid hr'
  have HB := Lib.hid hB
  have HB' := Lib.hid hB'
  by_cases hne : n = n'
  · subst hne
    have tn : ((n : Int) != (n : Int)) = false := by simp
    clear hl hl' hr hr' hB hB'
    go_enter Try.func62, Try.ntmps62
    go_wp2_with fail
    go_loopg [13] n (fun gk i wr => ∃ k : Nat, k + gk = n ∧ i = .int .i64 k ∧ Hid (∀ j, j < k → l.getD j 0 = l'.getD j 0) ∧ Hid (Below w.heap.size w wr))
    case atStart => exact ⟨0, by omega, rfl, fun j hj => by omega, Below.refl _ _⟩
    case round =>
      obtain ⟨k, hgk, rfl, hag, hbl⟩ := hrel
      have Hgk := Lib.hid hgk
      have hk : k ≤ n := by omega
      clear hgk
      by_cases hlt : k < n
      · have c1 := (Hr.out.new hbl.out) k _ (getD_some (d := 0) (by rw [Hl.out]; exact hlt))
        have c2 := (Hr'.out.new hbl.out) k _ (getD_some (d := 0) (by rw [Hl'.out]; exact hlt))
        unfold bv at c1 c2
        have b1 := HB.out.getD k
        have b2 := HB'.out.getD k
        have i1 : (0 : Int) ≤ (k : Int) := by omega
        have i2 : (k : Int) < (n : Int) := by omega
        have Hbl := Lib.hid hbl.out
        by_cases he : l.getD k 0 = l'.getD k 0
        · have hs : Hid (∀ j, j < k + 1 → l.getD j 0 = l'.getD j 0) := by
            intro j hj
            by_cases hjk : j = k
            · rw [hjk]; exact he
            · exact hag.out j (by omega)
          have te : ((l.getD k 0 : Int) != (l'.getD k 0 : Int)) = false := by rw [bne_eq_false_iff_eq]; omega
          generalize l.getD k 0 = x at *
          generalize l'.getD k 0 = y at *
          clear he hag hbl
          go_wp2_with fail
          go_quiet (fail)
          go_wp2_with fail
          go_roundg (n - k - 1)
          case measure => have := Hgk.out; omega
          case rel => exact ⟨k + 1, by have := Hgk.out; omega, by go_num, hs.out, below_drewN Hbl.out _⟩
        · have hr := Lib.hid (show decide (l = l') = false from decide_eq_false fun e => he (by rw [e]))
          have te : ((l.getD k 0 : Int) != (l'.getD k 0 : Int)) = true := by rw [bne_iff_ne]; omega
          generalize l.getD k 0 = x at *
          generalize l'.getD k 0 = y at *
          clear he hag hbl
          go_wp2_with fail
          go_quiet (fail)
          go_wp2_with fail
          go_ret
          exact ⟨by rw [hr.out]; rfl, below_drewN Hbl.out _⟩
      · have hr := Lib.hid (show decide (l = l') = true from decide_eq_true (by
          apply List.ext_getElem?
          intro j
          by_cases hj : j < n
          · have := hag.out j (by omega)
            rw [getD_some (l := l) (d := 0) (by rw [Hl.out]; exact hj), getD_some (l := l') (d := 0) (by rw [Hl'.out]; exact hj), this]
          · rw [List.getElem?_eq_none (by rw [Hl.out]; omega), List.getElem?_eq_none (by rw [Hl'.out]; omega)]))
        have Hbl := Lib.hid hbl.out
        clear hag hbl
        go_wp2_with fail
        go_ret
        exact ⟨by rw [hr.out]; rfl, Hbl.out⟩
  · have tn : ((n : Int) != (n' : Int)) = true := by rw [bne_iff_ne]; omega
    have hr := Lib.hid (show decide (l = l') = false from decide_eq_false fun e => hne (by rw [← Hl.out, ← Hl'.out, e]))
    clear hl hl' hr' hB hB' hne
    go_enter Try.func62, Try.ntmps62
    go_wp2_with fail
    go_ret
    exact ⟨by rw [hr.out]; rfl, Below.refl _ _⟩
end Go.Proofs.Ytlbomlolomcolaa

namespace Go.Proofs.Ytlbomlolomcolaa
open Go.RowKit Go.Shelf

attribute [local go_sem] Oper.semAt_some

/-- Are the parts, those that are not lost, the rows of another list? -/
def conB (parts out : List (List Nat)) : Bool := (List.range parts.length).all fun i => decide (1 ≤ plen parts i → parts.getD i [] = out.getD i [])
def conRes (parts : List (List Nat)) (data : Int) : Bool := decide (wErr parts data = 0) && conB parts (wRows parts data)
def BoolErr (b : Bool) (e : Nat) (w : World) : Ending → World → Prop := fun x w' => x = .returned (.tuple #[.bool b, .int .i64 e]) ∧ Below w.heap.size w w'

theorem conB_no {parts out : List (List Nat)} {i : Nat} (h1 : i < parts.length) (h2 : 1 ≤ plen parts i) (h : parts.getD i [] ≠ out.getD i []) : conB parts out = false := by
  unfold conB
  rw [List.all_eq_false]
  exact ⟨i, List.mem_range.2 h1, by simpa [h2] using h⟩
theorem conB_yes {parts out : List (List Nat)} (h : ∀ i, i < parts.length → 1 ≤ plen parts i → parts.getD i [] = out.getD i []) : conB parts out = true := by
  unfold conB
  rw [List.all_eq_true]
  exact fun i hi => decide_eq_true (h i (List.mem_range.1 hi))

/-- What holds between two rounds of Consistent's loop. -/
structure CoI (parts : List (List Nat)) (w W1 : World) (z bo B6 n co : Nat) (out : List (List Nat)) (pre : List (PI parts)) (W : World) : Prop where
  ok : ∀ x ∈ pre, parts.getD x.1 [] = out.getD x.1 []
  K : Below w.heap.size w W
  sz : W1.heap.size ≤ W.heap.size
  k4 : Blk W w.heap.size 4 [.bool false]
  k5 : Blk W (w.heap.size + 1) 29 [.int .i64 0]
  k6 : Blk W B6 39 [.slice (some ⟨bo, 0, none⟩) n co]
  om : ∃ hd, OM W z bo hd out
structure CoX (parts : List (List Nat)) (w : World) (out : List (List Nat)) (c : Code) (_ : List (PI parts)) (W : World) : Prop where
  c : c = .ret
  no : conB parts out = false
  K : Below w.heap.size w W
  k4 : Blk W w.heap.size 4 [.bool false]
  k5 : Blk W (w.heap.size + 1) 29 [.int .i64 0]

theorem CoI.own (parts : List (List Nat)) (w W1 : World) (z bo B6 n co : Nat) (out : List (List Nat)) (hw : w.heap.size ≤ W1.heap.size) : OwnFrom W1.heap.size (CoI parts w W1 z bo B6 n co out) := by
  rintro s W W' row ⟨h0, h1, h2, h4, h5, h6, hd, h7⟩ hg hr
  have hr' : ∀ r, row = some r → ∃ o : Obj, W.heap[r]? = some o ∧ o.isCells = false := fun r e => (hr r e).2
  exact ⟨h0, h1.grown hg (by omega) fun k e => by have := (hr k e).1; omega, by have := hg.size; omega, h4.kept (Kept.of_grown hg) (blk_turn h4 hg hr'), h5.kept (Kept.of_grown hg) (blk_turn h5 hg hr'), h6.kept (Kept.of_grown hg) (blk_turn h6 hg hr'), hd, h7.turn hg hr'⟩
theorem CoX.own (parts : List (List Nat)) (w W1 : World) (out : List (List Nat)) (hw : w.heap.size ≤ W1.heap.size) (c : Code) : OwnFrom W1.heap.size (CoX parts w out c) := by
  rintro s W W' row ⟨h0, h1, h2, h4, h5⟩ hg hr
  have hr' : ∀ r, row = some r → ∃ o : Obj, W.heap[r]? = some o ∧ o.isCells = false := fun r e => (hr r e).2
  exact ⟨h0, h1, h2.grown hg (by have := h2.size; omega) fun k e => by have := (hr k e).1; omega, h4.kept (Kept.of_grown hg) (blk_turn h4 hg hr'), h5.kept (Kept.of_grown hg) (blk_turn h5 hg hr')⟩

theorem CoI.step {parts : List (List Nat)} {w W1 : World} {z bo B6 n co : Nat} {out : List (List Nat)} {pre : List (PI parts)} {W W' : World} (h : CoI parts w W1 z bo B6 n co out pre W) (x : PI parts) (he : parts.getD x.1 [] = out.getD x.1 []) (hB : Below W.heap.size W W') : CoI parts w W1 z bo B6 n co out (pre ++ [x]) W' := by
  obtain ⟨h0, h1, h2, h4, h5, h6, hd, h7⟩ := h
  have hz := h1.size
  have hs := hB.size
  refine ⟨fun y hy => ?_, h1.trans (hB.mono hz), by omega, h4.below hB h4.lt, h5.below hB h5.lt, h6.below hB h6.lt, hd, h7.new hB⟩
  rcases List.mem_append.1 hy with hy | hy
  · exact h0 y hy
  · rw [List.mem_singleton.1 hy]; exact he

theorem wRows_ok {parts : List (List Nat)} {data : Int} (hE : wErr parts data = 0) (hBy : BytM parts) (hlo : longB parts = false) (hmi : misB parts = false) : BytM (wRows parts data) ∧ ∀ i, i < (wRows parts data).length → ((wRows parts data).getD i []).length ≤ 1000000000 := by
  obtain ⟨_, hP⟩ := wRows_length hE
  obtain ⟨q1, q2, q3, q4⟩ := parErr_in hP
  have hW : wholeErr parts data.toNat = 0 := by unfold wErr at hE; rw [if_pos hP] at hE; exact hE
  have hd : data.toNat ≤ (pidx parts).length := by
    unfold wholeErr at hW
    by_cases h : (pidx parts).length < data.toNat
    · rw [if_pos h] at hW; simp at hW
    · omega
  have e : wRows parts data = wholeM parts data.toNat := by unfold wRows wholeRows; rw [if_pos hP, if_pos hW]
  have hne : pidx parts ≠ [] := by intro h; rw [h] at hd; simp at hd; omega
  obtain ⟨x, hx⟩ : ∃ x, x ∈ piTo parts parts.length := by
    have : piTo parts parts.length ≠ [] := by intro h; apply hne; unfold pidx; rw [h]; rfl
    exact List.exists_mem_of_ne_nil _ this
  have hR := selP_rect (d := data.toNat) hBy hmi (x := x)
  have hsl : (selP parts data.toNat).length = data.toNat := by unfold selP; rw [List.length_map, List.length_take]; omega
  have hsq := selM_sq (d := data.toNat) (by omega) (by omega) q4 hd
  have hiv : invErr (selM parts data.toNat) = 0 := by unfold wholeErr at hW; rw [if_neg (by omega)] at hW; exact hW
  have hi := (hsq.inv hiv).1
  have hR2 : Rect (plen parts x.1) (wholeM parts data.toNat) := prodM_rect (prodM_rect hR (by omega)) (by rw [prodM_length, hi.len]; omega)
  rw [e]
  exact ⟨fun r hr => (hR2 r hr).2, fun i hi => by rw [(hR2.get hi).1]; have := long_le hlo x.2.1; omega⟩

set_option maxRecDepth 100000 in
set_option maxHeartbeats 8000000 in
theorem pConsistent_in (b o cap : Nat) (data : Int) (parts out : List (List Nat)) (A : Nat → Option Addr) (C : Nat → Nat) (w : World) (hM : MxAt w b o parts A C) (hm : Mx w (.slice (some ⟨b, o, none⟩) parts.length cap) parts) (hBy : BytM parts) (hByO : BytM out) (hE : wErr parts data = 0) (hR : wRows parts data = out) (hol : out.length = parts.length) (h1 : 1 ≤ parts.length) (h2 : parts.length ≤ 64) (hlong : longB parts = false) (hd1 : -9223372036854775808 ≤ data) (hd2 : data ≤ 9223372036854775807) (hol2 : ∀ i, i < out.length → (out.getD i []).length ≤ 1000000000) :
    Calls Try.prog 33 #[.slice (some ⟨b, o, none⟩) parts.length cap, .int .i64 data] w (BoolErr (conB parts out) 0 w) := by
  have HM := Lib.hid hM
  have Hm := Lib.hid hm
  have HBy := Lib.hid hBy
  have HByO := Lib.hid hByO
  have HE := Lib.hid hE
  have HR := Lib.hid hR
  have Hol := Lib.hid hol
  have Hol2 := Lib.hid hol2
  have Hlong := Lib.hid hlong
  have hbw : b < w.heap.size := World.block_lt_of_cell? w _ (hM 0 _ (getD_some (d := []) (by omega))).1
  clear hM hm hBy hE hR hol hlong hByO hol2
  refine (callsIn_wide (n := 3)).1 ?_
  refine callsIn_of_wp_marks Try.func33 rfl trivial ?_ rfl
  simp only [Try.ntmps33, List.size_toArray, List.length_cons, List.length_nil, Nat.reduceAdd, Nat.reduceSub, Array.replicate_succ, Array.replicate_zero, List.push_toArray, List.append_toArray, List.nil_append, List.cons_append]
  gi_wp2_with fail
  have QA := Lib.hid ((Blk.new w 4 #[.bool false]).alloc (.cells #[.int .i64 0] 29))
  have QB := Lib.hid (Blk.new (w.alloc (.cells #[.bool false] 4)) 29 #[.int .i64 0])
  have HB0 := Lib.hid (((Below.refl w.heap.size w).alloc (Nat.le_refl _) (.cells #[.bool false] 4)).alloc (by simp) (.cells #[.int .i64 0] 29))
  have s1 : (w.alloc (.cells #[.bool false] 4)).heap.size = w.heap.size + 1 := by simp
  have s2 : ((w.alloc (.cells #[.bool false] 4)).alloc (.cells #[.int .i64 0] 29)).heap.size = w.heap.size + 1 + 1 := by simp
  rw [s1] at QB
  obtain ⟨W0, hW0⟩ : ∃ W0, (w.alloc (.cells #[.bool false] 4)).alloc (.cells #[.int .i64 0] 29) = W0 := ⟨_, rfl⟩
  rw [hW0] at QA HB0 s2 ⊢
  rw [hW0] at QB
  clear hW0 s1
  have Hm0 := Lib.hid (Hm.out.new HB0.out)
  refine ⟨trivial, ?_⟩
  refine (callsIn_wide.2 (whole_any _ parts data _ (by omega) HBy.out Hm0.out hd1 hd2)).mono ?_
  rintro e w2 ⟨vo, hd, rfl, hG, hB2⟩
  rw [HE.out]
  rw [HR.out] at hG
  obtain ⟨bo, co, hvo, hco, _, hO⟩ := hG.done (by intro h; have := Hol.out; rw [h] at this; simp at this; omega)
  rw [Hol.out] at hvo hco
  subst hvo
  have HO := Lib.hid hO
  have HB2 := Lib.hid hB2
  have hz2 := hB2.size
  clear hG hO hB2
  gi_wp2_with fail
  refine ⟨trivial, ?_⟩
  refine (present_in Fence.wide _ trivial rfl _ _ _ _).mono ?_
  rintro e w1 ⟨rfl, rfl⟩
  gi_wp2_with fail
  have Q6 := Lib.hid ((Blk.new w2 39 #[.slice (some ⟨bo, 0, none⟩) parts.length co]).alloc (.cells #[.slice (some ⟨b, o, none⟩) parts.length cap] 39))
  have QP := Lib.hid (Blk.new (w2.alloc (.cells #[.slice (some ⟨bo, 0, none⟩) parts.length co] 39)) 39 #[.slice (some ⟨b, o, none⟩) parts.length cap])
  have HB21 := Lib.hid (((Below.refl w2.heap.size w2).alloc (Nat.le_refl _) (.cells #[.slice (some ⟨bo, 0, none⟩) parts.length co] 39)).alloc (by simp) (.cells #[.slice (some ⟨b, o, none⟩) parts.length cap] 39))
  have s1 : (w2.alloc (.cells #[.slice (some ⟨bo, 0, none⟩) parts.length co] 39)).heap.size = w2.heap.size + 1 := by simp
  have s3 : ((w2.alloc (.cells #[.slice (some ⟨bo, 0, none⟩) parts.length co] 39)).alloc (.cells #[.slice (some ⟨b, o, none⟩) parts.length cap] 39)).heap.size = w2.heap.size + 1 + 1 := by simp
  rw [s1] at QP
  obtain ⟨W1, hW1⟩ : ∃ W1, (w2.alloc (.cells #[.slice (some ⟨bo, 0, none⟩) parts.length co] 39)).alloc (.cells #[.slice (some ⟨b, o, none⟩) parts.length cap] 39) = W1 := ⟨_, rfl⟩
  rw [hW1] at Q6 QP HB21 s3 ⊢
  clear hW1 s1
  have HB01 := Lib.hid (HB2.out.trans (HB21.out.mono hz2))
  have HB1 := Lib.hid (HB0.out.trans (HB01.out.mono (by omega)))
  have HO1 := Lib.hid (HO.out.new HB21.out)
  have Q4 := Lib.hid (QA.out.below HB01.out QA.out.lt)
  have Q5 := Lib.hid (QB.out.below HB01.out QB.out.lt)
  refine wpIn_rangeFunc_ownG rfl (by decide) (gf := 80) (lb := #[.pointer (some ⟨w2.heap.size + 1, 0, none⟩)]) rfl trivial (enters_of Try.func80 (by kernel_rfl) rfl)
    (present_stops Fence.wide _ trivial rfl (by decide) (w2.heap.size + 1) w.heap.size b o cap parts A C (by omega) W1 (by omega) hbw (QP.out.cell rfl) (HM.out.new HB1.out)) belowK_t (belowK_b (by omega)) (Below.refl _ _) (fun _ => rfl)
    (CoI parts w W1 W0.heap.size bo w2.heap.size parts.length co out) (CoX parts w out)
    (CoI.own _ _ _ _ _ _ _ _ _ (by omega)) (CoX.own _ _ _ _ (by omega)) ⟨by simp, HB1.out, Nat.le_refl _, Q4.out, Q5.out, Q6.out, _, HO1.out⟩
    (fun x => { tmps := #[.slice (some ⟨b, o, none⟩) parts.length cap, .int .i64 data, undef, undef, .pointer (some ⟨w.heap.size, 0, none⟩), .pointer (some ⟨w.heap.size + 1, 0, none⟩), .pointer (some ⟨w2.heap.size, 0, none⟩), .int .i64 0, .int .i64 (x.1 : Nat), .slice (A x.1) (plen parts x.1) (C x.1), .tuple #[.slice (some ⟨bo, 0, none⟩) parts.length co, .int .i64 0], .slice (some ⟨b, o, none⟩) parts.length cap, .int .i64 data, .tuple #[.slice (some ⟨bo, 0, none⟩) parts.length co, .int .i64 0], .slice (some ⟨bo, 0, none⟩) parts.length co, .int .i64 0, .int .i64 0, .bool false, undef, .slice (some ⟨b, o, none⟩) parts.length cap, .func (.func 80) #[] #[.pointer (some ⟨w2.heap.size + 1, 0, none⟩)], .int .i64 (x.1 : Nat), .slice (A x.1) (plen parts x.1) (C x.1), undef, undef, undef, undef, undef, undef, undef], defers := [] }) ?assign ?body ?done ?stop
  case assign =>
    intro l x W K hK
    unfold pEnc
    gi_wp2
    exact hK
  case body =>
    rintro l pre ⟨i, hi1, hi2⟩ W ⟨hok, hBW, hsz, h4, h5, h6, hdW, hOW⟩ _
    dsimp only
    have hpl := long_le Hlong.out hi1
    have hMW := (HM.out.new hBW) i _ (getD_some (d := []) hi1)
    obtain ⟨b', o', hA, hrow⟩ : ∃ b' o', A i = some ⟨b', o', none⟩ ∧ RowAt W b' o' (parts.getD i []) := by
      rcases hMW.2.2.1 with h0 | h
      · unfold plen at hi2; rw [h0] at hi2; simp at hi2
      · exact h
    have c4 := h4.cell (i := 0) rfl
    have f4 := h4.frozen 0
    have c5 := h5.cell (i := 0) rfl
    have f5 := h5.frozen 0
    have c6 := h6.cell (i := 0) rfl
    have l4 := h4.lt
    have l5 := h5.lt
    have l6 := h6.lt
    have hbo := hOW.outer.lt
    have hio : i < out.length := by rw [Hol.out]; exact hi1
    obtain ⟨q, hq⟩ : ∃ q, hdW[i]? = some q := ⟨hdW.getD i (0, 0), getD_some (by rw [hOW.len]; exact hio)⟩
    have cb := hOW.outer.cell (hvs_get hq (getD_some (d := []) hio))
    have hqr := (hOW.rows i q _ hq (getD_some (d := []) hio)).1.row
    have HI := Lib.hid (show CoI parts w W1 W0.heap.size bo w2.heap.size parts.length co out pre W from ⟨hok, hBW, hsz, h4, h5, h6, hdW, hOW⟩)
    have Hqr := Lib.hid hqr
    have HBW := Lib.hid hBW
    have Hrow := Lib.hid hrow
    have hzw := hBW.size
    have hb1 := Lib.hid (HBy.out _ (List.mem_of_getElem? (getD_some (d := []) hi1)))
    have hb2 := Lib.hid (HByO.out _ (List.mem_of_getElem? (getD_some (d := []) hio)))
    have hl2 := Hol2.out i hio
    rw [hA]
    unfold hv at cb
    obtain ⟨orow, horow⟩ : ∃ r, out.getD i [] = r := ⟨_, rfl⟩
    rw [horow] at cb Hqr hb2 hl2
    have Horow := Lib.hid horow
    clear hMW hA hrow hOW hBW h4 h5 h6 hq hqr hok horow
    gi_wp2
    refine ⟨trivial, ?_⟩
    refine (CallsIn.inRound l (callsIn_wide.2 (Equal_any b' o' (plen parts i) (C i) q.1 0 orow.length q.2 (parts.getD i []) orow _ rfl rfl (by omega) (by omega) (by exact Hrow.out) (by exact Hqr.out) hb1.out hb2.out))).mono ?_
    rintro e W3 ⟨rfl, hB3⟩
    have HB3 := Lib.hid hB3
    have d4 := (HB3.out.cell (p := ⟨w.heap.size, 0, none⟩) l4).trans c4
    have e4 := (HB3.out.frozen (p := ⟨w.heap.size, 0, none⟩) l4).trans f4
    have d5 := (HB3.out.cell (p := ⟨w.heap.size + 1, 0, none⟩) l5).trans c5
    have e5 := (HB3.out.frozen (p := ⟨w.heap.size + 1, 0, none⟩) l5).trans f5
    clear hB3
    by_cases he : parts.getD i [] = orow
    · rw [decide_eq_true he]
      have Hst := Lib.hid (HI.out.step ⟨i, hi1, hi2⟩ (he.trans Horow.out.symm) HB3.out)
      have hK := Lib.hid (keepsFrom_of (B := W1.heap.size) (Kept.of_new (S := fun _ => False) HB3.out) (fun k e => e.elim))
      clear he
      gi_wp2
      exact ⟨hK.out, HB3.out.mono hzw, Hst.out⟩
    · rw [decide_eq_false he]
      have hno := Lib.hid (conB_no (out := out) hi1 hi2 (by rw [Horow.out]; exact he))
      have k4 := Lib.hid (((HI.out.k4.below HB3.out HI.out.k4.lt).setCell (i := 0) (by simp) (.bool false)).setCell_other (p := ⟨w.heap.size + 1, 0, none⟩) (by simp) (.int .i64 0))
      have k5 := Lib.hid (((HI.out.k5.below HB3.out HI.out.k5.lt).setCell_other (p := ⟨w.heap.size, 0, none⟩) (by simp) (.bool false)).setCell (i := 0) (by simp) (.int .i64 0))
      have hK := Lib.hid (keepsFrom_of (B := W1.heap.size) (((Kept.of_new (S := fun k => k = w.heap.size ∨ k = w.heap.size + 1) HB3.out).setCell (p := ⟨w.heap.size, 0, none⟩) (fun _ => Or.inl rfl) (.bool false)).setCell (p := ⟨w.heap.size + 1, 0, none⟩) (fun _ => Or.inr rfl) (.int .i64 0)) (fun k e => by rcases e with e | e <;> subst e; exact ⟨_, _, HI.out.k4⟩; exact ⟨_, _, HI.out.k5⟩))
      have hB := Lib.hid (((HBW.out.trans (HB3.out.mono hzw)).setCell (p := ⟨w.heap.size, 0, none⟩) (Nat.le_refl _) (.bool false)).setCell (p := ⟨w.heap.size + 1, 0, none⟩) (by simp) (.int .i64 0))
      clear he
      gi_wp2
      exact ⟨hK.out, rfl, hno.out, hB.out, k4.out, k5.out⟩
  case done =>
    rintro D ys W hD rfl ⟨hok, hBW, hsz, h4, h5, h6, hdW, hOW⟩ hK
    have c4 := h4.cell (i := 0) rfl
    have f4 := h4.frozen 0
    have c5 := h5.cell (i := 0) rfl
    have f5 := h5.frozen 0
    have hyes := Lib.hid (conB_yes (piTo_all (P := fun i => parts.getD i [] = out.getD i []) parts.length (Nat.le_refl _) hok))
    have k4 := Lib.hid ((h4.setCell (i := 0) (by simp) (.bool true)).setCell_other (p := ⟨w.heap.size + 1, 0, none⟩) (by simp) (.int .i64 0))
    have k5 := Lib.hid ((h5.setCell_other (p := ⟨w.heap.size, 0, none⟩) (by simp) (.bool true)).setCell (i := 0) (by simp) (.int .i64 0))
    have HBW := Lib.hid hBW
    have HK := Lib.hid hK
    clear hok hBW h4 h5 h6 hOW hK
    gi_wp2_with fail
    have hK' := (KeepsOthers.setCell _ ⟨w.heap.size + 1, 0, none⟩ (.int .i64 0)).same D _ ((KeepsOthers.setCell W ⟨w.heap.size, 0, none⟩ (.bool true)).same D _ HK.out rfl) rfl
    refine ⟨by simp, .inl ⟨_, _, rfl, run_takeDeferred hK', ?_⟩⟩
    have hr' : ∀ r, some D = some r → ∃ o : Obj, ((W.setCell ⟨w.heap.size, 0, none⟩ (.bool true)).setCell ⟨w.heap.size + 1, 0, none⟩ (.int .i64 0)).heap[r]? = some o ∧ o.isCells = false := fun r e => by cases e; exact ⟨_, hK', rfl⟩
    have x4 := cell_kept (k4.out.cell (i := 0) rfl) (grownBy_putObj' _ D (.deferred none)) hr'
    have x5 := cell_kept (k5.out.cell (i := 0) rfl) (grownBy_putObj' _ D (.deferred none)) hr'
    refine ⟨.tuple #[.bool true, .int .i64 0], ?_, by rw [hyes.out]; rfl, ((HBW.out.setCell (p := ⟨w.heap.size, 0, none⟩) (Nat.le_refl _) _).setCell (p := ⟨w.heap.size + 1, 0, none⟩) (by simp) _).trans (belowK_b (w := w) (Nat.le_refl _) _ D _ _ (by omega) hK' rfl rfl)⟩
    simp [results, Try.f33, go_sem, x4, x5]
  case stop =>
    rintro D c pre W hD _ ⟨rfl, hno, hBW, h4, h5⟩ hK
    have Hno := Lib.hid hno
    have H4 := Lib.hid h4
    have H5 := Lib.hid h5
    have HBW := Lib.hid hBW
    have HK := Lib.hid hK
    clear hno hBW h4 h5 hK
    gi_wp2_with fail
    refine ⟨by simp, .inl ⟨_, _, rfl, run_takeDeferred HK.out, ?_⟩⟩
    have hr' : ∀ r, some D = some r → ∃ o : Obj, W.heap[r]? = some o ∧ o.isCells = false := fun r e => by cases e; exact ⟨_, HK.out, rfl⟩
    have x4 := cell_kept (H4.out.cell (i := 0) rfl) (grownBy_putObj' _ D (.deferred none)) hr'
    have x5 := cell_kept (H5.out.cell (i := 0) rfl) (grownBy_putObj' _ D (.deferred none)) hr'
    refine ⟨.tuple #[.bool false, .int .i64 0], ?_, by rw [Hno.out]; rfl, HBW.out.trans (belowK_b (w := w) (Nat.le_refl _) W D _ _ (by omega) HK.out rfl rfl)⟩
    simp [results, Try.f33, go_sem, x4, x5]

set_option maxRecDepth 100000 in
set_option maxHeartbeats 2000000 in
theorem pConsistent_any (v : Value) (parts : List (List Nat)) (data : Int) (w : World) (hn : parts.length ≤ 1000000000) (hBy : BytM parts) (hm : Mx w v parts) (hd1 : -9223372036854775808 ≤ data) (hd2 : data ≤ 9223372036854775807) :
    Calls Try.prog 33 #[v, .int .i64 data] w (BoolErr (conRes parts data) (wErr parts data) w) := by
  by_cases hE : wErr parts data = 0
  · obtain ⟨hl, hP⟩ := wRows_length hE
    obtain ⟨q1, q2, q3, q4⟩ := parErr_in hP
    have hP' := hP
    have hlo : longB parts = false := by
      unfold parErr at hP
      split at hP
      · simp at hP
      split at hP
      · simp at hP
      split at hP
      · simp at hP
      rename_i h
      simpa using h
    have hmi : misB parts = false := by
      unfold parErr at hP
      split at hP
      · simp at hP
      split at hP
      · simp at hP
      split at hP
      · simp at hP
      split at hP
      · simp at hP
      rename_i h
      simpa using h
    have e2 : conRes parts data = conB parts (wRows parts data) := by unfold conRes; rw [decide_eq_true hE]; rfl
    obtain ⟨o1, o2⟩ := wRows_ok hE hBy hlo hmi
    rw [hE, e2]
    have hm' := hm
    obtain ⟨a, cap, rfl, hcap, h⟩ := hm
    rcases h with h | ⟨b, o, A, C, rfl, hM⟩
    · rw [h] at q3; simp at q3
    exact pConsistent_in b o cap data parts _ A C w hM hm' hBy o1 hE rfl hl q3 q4 hlo hd1 hd2 o2
  · have e2 : conRes parts data = false := by unfold conRes; rw [decide_eq_false hE]; rfl
    rw [e2]
    have Hm := Lib.hid hm
    have HBy := Lib.hid hBy
    obtain ⟨pe, hpe⟩ : ∃ pe, wErr parts data = pe := ⟨_, rfl⟩
    have tP : ((pe : Int) != 0) = true := by rw [bne_iff_ne]; rw [hpe] at hE; omega
    have Hpe := Lib.hid hpe
    obtain ⟨a, cap, rfl, hcap, h⟩ := hm
    clear hE e2 hpe h hBy
    refine (callsIn_wide (n := 3)).1 ?_
    refine callsIn_of_wp_marks Try.func33 rfl trivial ?_ rfl
    simp only [Try.ntmps33, List.size_toArray, List.length_cons, List.length_nil, Nat.reduceAdd, Nat.reduceSub, Array.replicate_succ, Array.replicate_zero, List.push_toArray, List.append_toArray, List.nil_append, List.cons_append]
    gi_wp2_with fail
    have QA := Lib.hid ((Blk.new w 4 #[.bool false]).alloc (.cells #[.int .i64 0] 29))
    have QB := Lib.hid (Blk.new (w.alloc (.cells #[.bool false] 4)) 29 #[.int .i64 0])
    have HB0 := Lib.hid (((Below.refl w.heap.size w).alloc (Nat.le_refl _) (.cells #[.bool false] 4)).alloc (by simp) (.cells #[.int .i64 0] 29))
    have s1 : (w.alloc (.cells #[.bool false] 4)).heap.size = w.heap.size + 1 := by simp
    have s2 : ((w.alloc (.cells #[.bool false] 4)).alloc (.cells #[.int .i64 0] 29)).heap.size = w.heap.size + 1 + 1 := by simp
    rw [s1] at QB
    obtain ⟨W0, hW0⟩ : ∃ W0, (w.alloc (.cells #[.bool false] 4)).alloc (.cells #[.int .i64 0] 29) = W0 := ⟨_, rfl⟩
    rw [hW0] at QA HB0 s2 ⊢
    rw [hW0] at QB
    clear hW0 s1
    refine ⟨trivial, ?_⟩
    refine (callsIn_wide.2 (whole_any _ parts data _ (by omega) HBy.out (Hm.out.new HB0.out) hd1 hd2)).mono ?_
    rintro e w2 ⟨vo, hd, rfl, hG, hB2⟩
    obtain ⟨ao, no, co, hvo⟩ : ∃ a n c, vo = .slice a n c := by obtain ⟨a, c, h⟩ := owns_slice hG.outer; exact ⟨a, _, c, h⟩
    subst hvo
    rw [Hpe.out]
    have HB2 := Lib.hid hB2
    have q4 := Lib.hid ((QA.out.below HB2.out QA.out.lt).alloc (.cells #[.slice ao no co] 39))
    have q5 := Lib.hid ((QB.out.below HB2.out QB.out.lt).alloc (.cells #[.slice ao no co] 39))
    have k4 := Lib.hid ((q4.out.setCell (i := 0) (by simp) (.bool false)).setCell_other (p := ⟨w.heap.size + 1, 0, none⟩) (by simp) (.int .i64 pe))
    have k5 := Lib.hid ((q5.out.setCell_other (p := ⟨w.heap.size, 0, none⟩) (by simp) (.bool false)).setCell (i := 0) (by simp) (.int .i64 pe))
    have hz2 := hB2.size
    have hBf := Lib.hid ((((HB0.out.trans (HB2.out.mono (by omega))).alloc (by omega) (.cells #[.slice ao no co] 39)).setCell (p := ⟨w.heap.size, 0, none⟩) (Nat.le_refl _) (.bool false)).setCell (p := ⟨w.heap.size + 1, 0, none⟩) (by simp) (.int .i64 pe))
    clear hB2 hG
    have c4 := q4.out.cell (i := 0) rfl
    have f4 := q4.out.frozen 0
    have c5 := q5.out.cell (i := 0) rfl
    have f5 := q5.out.frozen 0
    gi_wp2_with fail
    have x4 := k4.out.cell (i := 0) rfl
    have x5 := k5.out.cell (i := 0) rfl
    refine ⟨.tuple #[.bool false, .int .i64 pe], ?_, by rw [Hpe.out], hBf.out⟩
    simp [results, Try.f33, go_sem, x4, x5]
end Go.Proofs.Ytlbomlolomcolaa

namespace Go.Proofs.Ytlbomlolomcolaa
open Go.RowKit

set_option maxRecDepth 100000 in
set_option maxHeartbeats 8000000 in
theorem rRepair_in (b o cap : Nat) (data : Int) (parts out : List (List Nat)) (A : Nat → Option Addr) (C : Nat → Nat) (w : World) (hM : MxAt w b o parts A C) (hm : Mx w (.slice (some ⟨b, o, none⟩) parts.length cap) parts) (hLm : ∀ j, j < parts.length → plen parts j ≤ maxLen) (hBy : BytM parts) (hE : wErr parts data = 0) (hR : wRows parts data = out) (hol : out.length = parts.length) (h1 : 1 ≤ parts.length) (h2 : parts.length ≤ 64) (hlong : longB parts = false) (hd1 : -9223372036854775808 ≤ data) (hd2 : data ≤ 9223372036854775807) :
    Calls Try.prog 32 #[.slice (some ⟨b, o, none⟩) parts.length cap, .int .i64 data] w (MxErr (overM parts out) 0 w) := by
  obtain ⟨i0, hi, hz0, hz1, hz2⟩ := info_parts infoByte
  have HM := Lib.hid hM
  have Hm := Lib.hid hm
  have HLm := Lib.hid hLm
  have HBy := Lib.hid hBy
  have HE := Lib.hid hE
  have HR := Lib.hid hR
  have Hol := Lib.hid hol
  have Hlong := Lib.hid hlong
  clear hM hm hLm hBy hE hR hol hlong
  go_enter Try.func32, Try.ntmps32
  go_wp2_with fail
  refine (rwhole_any _ parts data _ (by omega) HLm.out HBy.out Hm.out hd1 hd2).mono ?_
  rintro e w2 ⟨vo, hd, rfl, hG, hB2⟩
  rw [HE.out]
  rw [HR.out] at hG
  obtain ⟨bo, co, hvo, hco, _, hO⟩ := hG.done (by intro h; have := Hol.out; rw [h] at this; simp at this; omega)
  rw [Hol.out] at hvo hco
  subst hvo
  have HO := Lib.hid hO
  have HB2 := Lib.hid hB2
  have hzw := hB2.size
  clear hG hO hB2
  go_wp2_with fail
  go_loopg [8] parts.length (fun gk i wr => ∃ k : Nat, k + gk = parts.length ∧ i = .int .i64 k ∧ Hid (∃ hd', OM wr w.heap.size bo hd' (overTo parts out (piTo parts k))) ∧ Hid (Below w.heap.size w wr))
  case atStart => exact ⟨0, by omega, rfl, ⟨_, HO.out⟩, HB2.out⟩
  case round =>
    obtain ⟨k, hgk, rfl, hO, hB⟩ := hrel
    have Hgk := Lib.hid hgk
    have hk : k ≤ parts.length := by omega
    clear hgk
    by_cases hlt : k < parts.length
    · obtain ⟨hdW, hOW⟩ := hO.out
      obtain ⟨wo, rfl⟩ : ∃ wo : World, wo = wr := ⟨_, rfl⟩
      have hMk := (HM.out.new hB.out) k _ (getD_some (d := []) hlt)
      have p1 : wo.cell? ⟨b, o + k, none⟩ = some (.slice (A k) (plen parts k) (C k)) := hMk.1
      have hpl := long_le Hlong.out hlt
      have hol := (overTo_length parts out (piTo parts k)).trans Hol.out
      by_cases hp : 1 ≤ plen parts k
      · have x3 : decide ((0 : Int) < (plen parts k : Int)) = true := by simp; omega
        obtain ⟨b', o', hA, hrow⟩ : ∃ b' o', A k = some ⟨b', o', none⟩ ∧ RowAt wo b' o' (parts.getD k []) := by
          rcases hMk.2.2.1 with h0 | h
          · unfold plen at hp; rw [h0] at hp; simp at hp
          · exact h
        rw [hA] at p1
        have hBe : Below wo.heap.size wo (wo.alloc (.cells #[] 5)) := (Below.refl _ wo).alloc (Nat.le_refl _) _
        have Hsrc := Lib.hid (hrow.src hBe)
        have p2 := (hBe.cell (p := ⟨b, o + k, none⟩) (World.block_lt_of_cell? wo _ p1)).trans p1
        have HBe := Lib.hid hBe
        have HOW := Lib.hid hOW
        have HBW := Lib.hid hB.out
        have Hol' := Lib.hid hol
        have hzo := hB.out.size
        have Hpl := Lib.hid (show (parts.getD k []).length = plen parts k from rfl)
        obtain ⟨pk, hpk⟩ : ∃ pk, parts.getD k [] = pk := ⟨_, rfl⟩
        rw [hpk] at Hsrc Hpl
        have Hpk := Lib.hid hpk
        clear hMk hrow hBe hOW hB hO hol hA hpk
        go_wp2_with (at_builtin; refine wpList_append_own _ rfl _ _ 26 rfl wo.heap.size 5 i0 (.int .u8 0) 1 1 Try.underlying26 hi hz0 hz1 hz2 rfl (by decide) _ 0 [] rfl (owns_empty wo _) ⟨b', o', none⟩ (plen parts k) (C k) (pk.map bv) rfl ?c1 ?c2 ?c3 ?c4 ?c5 ?c6 ?_)
        case c1 => simp [Hpl.out]
        case c2 => exact Hsrc.out
        case c3 => intro u hu; obtain ⟨x, _, rfl⟩ := List.mem_map.1 hu; rfl
        case c4 => unfold maxLen; omega
        case c5 => omega
        case c6 => exact HBe.out.size
        intro v3 w5 hown3 hgr3 _
        have hown3' : w5.ownsRow wo.heap.size 5 1 v3 (plen parts k) (pk.map bv) := by simpa only [Nat.zero_add, List.nil_append] using hown3
        obtain ⟨gq, cq, hv3, g1, g2, g3⟩ := ne_of_owns hown3' (by omega)
        rw [hv3] at hown3' ⊢
        have Hblk5 := Lib.hid (Blk.of_owns hown3')
        have HB5 := Lib.hid (show Below wo.heap.size wo w5 from HBe.out.grown hgr3 HBe.out.size (fun q hq => by simp [Value.ownBlock] at hq; omega))
        have hko : k < (overTo parts out (piTo parts k)).length := by rw [Hol'.out]; exact hlt
        obtain ⟨q, hq⟩ : ∃ q, hdW[k]? = some q := ⟨hdW.getD k (0, 0), getD_some (by rw [HOW.out.len]; exact hko)⟩
        have hbo := HOW.out.outer.lt
        have cb := (HB5.out.cell (p := ⟨bo, k, none⟩) hbo).trans (HOW.out.outer.cell (hvs_get hq (getD_some (d := []) hko)))
        have fb := (HB5.out.frozen (p := ⟨bo, k, none⟩) hbo).trans (HOW.out.outer.frozen k)
        have hst := HOW.out.setHd HB5.out hko (p := (gq, cq)) (r := pk) Hblk5.out g1 (by rw [Hpl.out]; exact g2) hzo
        rw [← Hpk.out] at hst
        rw [← overTo_snoc parts out (piTo parts k) ⟨k, hlt, hp⟩, ← piTo_yes (parts := parts) ⟨hlt, hp⟩] at hst
        have Hst := Lib.hid hst
        have hBn := Lib.hid ((HBW.out.trans (HB5.out.mono hzo)).setCell (p := ⟨bo, k, none⟩) HOW.out.obase (hv pk.length (gq, cq)))
        rw [← Hpk.out] at hBn
        rw [show (parts.getD k []).length = plen parts k from rfl] at hBn hst
        generalize hv ((overTo parts out (piTo parts k)).getD k []).length q = oldv at cb
        clear hown3 hown3' hgr3 hv3 hst p2 hko hq
        go_wp2_with fail
        go_roundg (parts.length - k - 1)
        case measure => have := Hgk.out; omega
        case rel => exact ⟨k + 1, by have := Hgk.out; omega, by go_num, ⟨_, Hst.out⟩, hBn.out⟩
      · have x3 : decide ((0 : Int) < (plen parts k : Int)) = false := by simp; omega
        have hpz : (plen parts k : Int) ≤ 0 := by omega
        have hn := Lib.hid (show ∃ hd', OM wo w.heap.size bo hd' (overTo parts out (piTo parts (k + 1))) by rw [piTo_no hp]; exact ⟨_, hOW⟩)
        have HBW := Lib.hid hB.out
        clear hMk hOW hB hO hol
        go_wp2_with fail
        go_roundg (parts.length - k - 1)
        case measure => have := Hgk.out; omega
        case rel => exact ⟨k + 1, by have := Hgk.out; omega, by go_num, hn.out, HBW.out⟩
    · obtain ⟨hdW, hOW⟩ := hO.out
      have hkn : k = parts.length := by omega
      rw [hkn] at hOW
      have hol := (overTo_length parts out (piTo parts parts.length)).trans Hol.out
      have HOW := Lib.hid hOW
      have HBW := Lib.hid hB.out
      have Hol' := Lib.hid hol
      clear hO hB hOW hol hkn
      go_wp2_with fail
      go_ret2
      exact ⟨_, rfl, ⟨some ⟨bo, 0, none⟩, co, by unfold overM; rw [Hol'.out]; rfl, by unfold overM; rw [Hol'.out]; exact hco, Or.inr ⟨bo, 0, _, _, rfl, HOW.out.mxAt⟩⟩, HBW.out⟩

set_option maxRecDepth 100000 in
set_option maxHeartbeats 2000000 in
theorem rRepair_any (v : Value) (parts : List (List Nat)) (data : Int) (w : World) (hn : parts.length ≤ 1000000000) (hLm : ∀ j, j < parts.length → plen parts j ≤ maxLen) (hBy : BytM parts) (hm : Mx w v parts) (hd1 : -9223372036854775808 ≤ data) (hd2 : data ≤ 9223372036854775807) :
    Calls Try.prog 32 #[v, .int .i64 data] w (MxErr (repRows parts data) (repErr parts data) w) := by
  by_cases hE : wErr parts data = 0
  · obtain ⟨hl, hP⟩ := wRows_length hE
    obtain ⟨q1, q2, q3, q4⟩ := parErr_in hP
    have e1 : repErr parts data = 0 := hE
    have e2 : repRows parts data = overM parts (wRows parts data) := by unfold repRows; rw [if_pos hE]
    rw [e1, e2]
    have hm' := hm
    obtain ⟨a, cap, rfl, hcap, h⟩ := hm
    rcases h with h | ⟨b, o, A, C, rfl, hM⟩
    · rw [h] at q3; simp at q3
    exact rRepair_in b o cap data parts _ A C w hM hm' hLm hBy hE rfl hl q3 q4 (parErr_flags hP).1 hd1 hd2
  · have e1 : repErr parts data = wErr parts data := rfl
    have e2 : repRows parts data = [] := by unfold repRows; rw [if_neg hE]
    rw [e1, e2]
    have Hm := Lib.hid hm
    have HBy := Lib.hid hBy
    have HLm := Lib.hid hLm
    obtain ⟨pe, hpe⟩ : ∃ pe, wErr parts data = pe := ⟨_, rfl⟩
    have tP : ((pe : Int) != 0) = true := by rw [bne_iff_ne]; rw [hpe] at hE; omega
    have Hpe := Lib.hid hpe
    obtain ⟨a, cap, rfl, hcap, h⟩ := hm
    clear hE e1 e2 hpe h hBy hLm
    go_enter Try.func32, Try.ntmps32
    go_wp2_with fail
    refine (rwhole_any _ parts data _ (by omega) HLm.out HBy.out Hm.out hd1 hd2).mono ?_
    rintro e w2 ⟨vo, hd, rfl, hG, hB2⟩
    obtain ⟨ao, no, co, hvo⟩ : ∃ a n c, vo = .slice a n c := by obtain ⟨a, c, h⟩ := owns_slice hG.outer; exact ⟨a, _, c, h⟩
    subst hvo
    rw [Hpe.out]
    have HB2 := Lib.hid hB2
    clear hB2 hG
    go_wp2_with fail
    go_ret2
    exact ⟨.slice none 0 0, by rw [Hpe.out]; rfl, ⟨none, 0, rfl, Nat.le_refl _, Or.inl rfl⟩, HB2.out⟩
end Go.Proofs.Ytlbomlolomcolaa

namespace Go.Proofs.Ytlbomlolomcolaa
open Go.RowKit

set_option maxRecDepth 100000 in
set_option maxHeartbeats 8000000 in
theorem rConsistent_in (b o cap : Nat) (data : Int) (parts out : List (List Nat)) (A : Nat → Option Addr) (C : Nat → Nat) (w : World) (hM : MxAt w b o parts A C) (hm : Mx w (.slice (some ⟨b, o, none⟩) parts.length cap) parts) (hLm : ∀ j, j < parts.length → plen parts j ≤ maxLen) (hBy : BytM parts) (hByO : BytM out) (hE : wErr parts data = 0) (hR : wRows parts data = out) (hol : out.length = parts.length) (h1 : 1 ≤ parts.length) (h2 : parts.length ≤ 64) (hlong : longB parts = false) (hd1 : -9223372036854775808 ≤ data) (hd2 : data ≤ 9223372036854775807) :
    Calls Try.prog 34 #[.slice (some ⟨b, o, none⟩) parts.length cap, .int .i64 data] w (BoolErr (conB parts out) 0 w) := by
  have HM := Lib.hid hM
  have Hm := Lib.hid hm
  have HLm := Lib.hid hLm
  have HBy := Lib.hid hBy
  have HByO := Lib.hid hByO
  have HE := Lib.hid hE
  have HR := Lib.hid hR
  have Hol := Lib.hid hol
  have Hlong := Lib.hid hlong
  clear hM hm hLm hBy hE hR hol hlong hByO
  go_enter Try.func34, Try.ntmps34
  go_wp2_with fail
  refine (rwhole_any _ parts data _ (by omega) HLm.out HBy.out Hm.out hd1 hd2).mono ?_
  rintro e w2 ⟨vo, hd, rfl, hG, hB2⟩
  rw [HE.out]
  rw [HR.out] at hG
  obtain ⟨bo, co, hvo, hco, _, hO⟩ := hG.done (by intro h; have := Hol.out; rw [h] at this; simp at this; omega)
  rw [Hol.out] at hvo hco
  subst hvo
  have HO := Lib.hid hO.mxAt
  have HB2 := Lib.hid hB2
  have HM2 := Lib.hid (HM.out.new hB2)
  clear hG hO hB2
  go_wp2_with fail
  go_loopg [8] parts.length (fun gk i wr => ∃ k : Nat, k + gk = parts.length ∧ i = .int .i64 k ∧ Hid (∀ i, i < k → 1 ≤ plen parts i → parts.getD i [] = out.getD i []) ∧ Hid (∃ n, wr = w2.drewN n))
  case atStart => exact ⟨0, by omega, rfl, fun i hi => by omega, 0, rfl⟩
  case round =>
    obtain ⟨k, hgk, rfl, hag, hw⟩ := hrel
    have Hgk := Lib.hid hgk
    have hk : k ≤ parts.length := by omega
    clear hgk
    obtain ⟨n, rfl⟩ := hw.out
    clear hw
    by_cases hlt : k < parts.length
    · have r1 : parts[k]? = some (parts.getD k []) := getD_some hlt
      have r2 : out[k]? = some (out.getD k []) := getD_some (by rw [Hol.out]; exact hlt)
      have by1 := HBy.out _ (List.mem_of_getElem? r1)
      have by2 := HByO.out _ (List.mem_of_getElem? r2)
      have hbq := bstr_beq by1 by2
      have Hstep := Lib.hid (show (1 ≤ plen parts k → parts.getD k [] = out.getD k []) → ∀ i, i < k + 1 → 1 ≤ plen parts i → parts.getD i [] = out.getD i [] by
        intro h i hi hp
        by_cases hik : i = k
        · rw [hik] at hp ⊢; exact h hp
        · exact hag.out i (by omega) hp)
      have Hdiff := Lib.hid (fun (hp : 1 ≤ plen parts k) (h : parts.getD k [] ≠ out.getD k []) => conB_no hlt hp h)
      have hpl : (parts.getD k []).length ≤ 65536 := long_le Hlong.out hlt
      have Hpk := Lib.hid (show plen parts k = (parts.getD k []).length from rfl)
      rw [Hpk.out] at Hstep Hdiff
      obtain ⟨p1, p2, p3, _⟩ := HM2.out k _ r1
      obtain ⟨q1, q2, q3, _⟩ := HO.out k _ r2
      rw [Nat.zero_add] at q1
      dsimp only at q1 q2 q3
      generalize hd.getD k (0, 0) = ph at q1 q2 q3
      obtain ⟨ph1, ph2⟩ := ph
      dsimp only at q1 q2 q3
      clear r1 r2 by1 by2 hag
      generalize parts.getD k [] = x at *
      generalize out.getD k [] = y at *
      have v1 := conv_row (c := C k) p3
      have v2 := conv_row (c := ph2) q3
      clear p3 q3
      have ki : (k : Int) < parts.length := by omega
      have ki0 : (0 : Int) ≤ k := by omega
      by_cases hp : 1 ≤ x.length
      · have x3 : decide (0 < x.length) = true := decide_eq_true (by omega)
        have x4 : (0 : Int) < (x.length : Int) := by omega
        by_cases hxy : x = y
        · have hbt : ((bstr x).toList == (bstr y).toList) = true := by rw [hbq]; simp [hxy]
          have Hn := Lib.hid (Hstep.out fun _ => hxy)
          clear hbq hxy
          go_wp2_with fail
          go_quiet (fail)
          go_wp2_with fail
          go_roundg (parts.length - k - 1)
          case measure => have := Hgk.out; omega
          case rel => exact ⟨k + 1, by have := Hgk.out; omega, by go_num, Hn.out, _, rfl⟩
        · have hbt : ((bstr x).toList == (bstr y).toList) = false := by rw [hbq]; simp [hxy]
          have Hn := Lib.hid (Hdiff.out hp hxy)
          clear hbq hxy
          go_wp2_with fail
          go_quiet (fail)
          go_wp2_with fail
          go_ret2
          exact ⟨by rw [Hn.out]; rfl, below_drewN (below_drewN HB2.out _) _⟩
      · have x3 : decide (0 < x.length) = false := decide_eq_false (by omega)
        have x4 : (x.length : Int) ≤ 0 := by omega
        have Hn := Lib.hid (Hstep.out fun h => absurd h hp)
        clear hbq hp
        go_wp2_with fail
        go_quiet (fail)
        go_wp2_with fail
        go_roundg (parts.length - k - 1)
        case measure => have := Hgk.out; omega
        case rel => exact ⟨k + 1, by have := Hgk.out; omega, by go_num, Hn.out, _, rfl⟩
    · have hr := Lib.hid (conB_yes (parts := parts) (out := out) fun i hi hp => hag.out i (by omega) hp)
      clear hag
      go_wp2_with fail
      go_ret2
      exact ⟨by rw [hr.out]; rfl, below_drewN HB2.out _⟩

set_option maxRecDepth 100000 in
set_option maxHeartbeats 2000000 in
theorem rConsistent_any (v : Value) (parts : List (List Nat)) (data : Int) (w : World) (hn : parts.length ≤ 1000000000) (hLm : ∀ j, j < parts.length → plen parts j ≤ maxLen) (hBy : BytM parts) (hm : Mx w v parts) (hd1 : -9223372036854775808 ≤ data) (hd2 : data ≤ 9223372036854775807) :
    Calls Try.prog 34 #[v, .int .i64 data] w (BoolErr (conRes parts data) (wErr parts data) w) := by
  by_cases hE : wErr parts data = 0
  · obtain ⟨hl, hP⟩ := wRows_length hE
    obtain ⟨q1, q2, q3, q4⟩ := parErr_in hP
    obtain ⟨hlo, hmi⟩ := parErr_flags hP
    have e2 : conRes parts data = conB parts (wRows parts data) := by unfold conRes; rw [decide_eq_true hE]; rfl
    obtain ⟨o1, _⟩ := wRows_ok hE hBy hlo hmi
    rw [hE, e2]
    have hm' := hm
    obtain ⟨a, cap, rfl, hcap, h⟩ := hm
    rcases h with h | ⟨b, o, A, C, rfl, hM⟩
    · rw [h] at q3; simp at q3
    exact rConsistent_in b o cap data parts _ A C w hM hm' hLm hBy o1 hE rfl hl q3 q4 hlo hd1 hd2
  · have e2 : conRes parts data = false := by unfold conRes; rw [decide_eq_false hE]; rfl
    rw [e2]
    have Hm := Lib.hid hm
    have HBy := Lib.hid hBy
    have HLm := Lib.hid hLm
    obtain ⟨pe, hpe⟩ : ∃ pe, wErr parts data = pe := ⟨_, rfl⟩
    have tP : ((pe : Int) != 0) = true := by rw [bne_iff_ne]; rw [hpe] at hE; omega
    have Hpe := Lib.hid hpe
    obtain ⟨a, cap, rfl, hcap, h⟩ := hm
    clear hE e2 hpe h hBy hLm
    go_enter Try.func34, Try.ntmps34
    go_wp2_with fail
    refine (rwhole_any _ parts data _ (by omega) HLm.out HBy.out Hm.out hd1 hd2).mono ?_
    rintro e w2 ⟨vo, hd, rfl, hG, hB2⟩
    obtain ⟨ao, no, co, hvo⟩ : ∃ a n c, vo = .slice a n c := by obtain ⟨a, c, h⟩ := owns_slice hG.outer; exact ⟨a, _, c, h⟩
    subst hvo
    rw [Hpe.out]
    have HB2 := Lib.hid hB2
    clear hB2 hG
    go_wp2_with fail
    go_ret2
    exact ⟨by rw [Hpe.out]; rfl, HB2.out⟩
end Go.Proofs.Ytlbomlolomcolaa

namespace Go.Proofs.Ytlbomlolomcolaa
open Go.RowKit

theorem wErr_le (parts : List (List Nat)) (data : Int) : wErr parts data ≤ 26 := by
  unfold wErr
  split
  · rename_i h
    obtain ⟨q1, q2, q3, q4⟩ := parErr_in h
    rw [wholeErr_eq (by omega) (by omega) q4]
    split <;> decide
  · have := parErr_le parts data; omega
theorem overTo_byt {parts out : List (List Nat)} (hB : BytM parts) (hO : BytM out) (l : List (PI parts)) : BytM (overTo parts out l) := by
  induction l generalizing out with
  | nil => exact hO
  | cons x l ih =>
    refine ih fun r hr => ?_
    rcases List.mem_or_eq_of_mem_set hr with h | h
    · exact hO r h
    · rw [h]; exact hB _ (List.mem_of_getElem? (getD_some x.2.1))
theorem repRows_ok {parts : List (List Nat)} {data : Int} (hB : BytM parts) : BytM (repRows parts data) ∧ (repRows parts data).length ≤ 64 := by
  unfold repRows
  split
  · rename_i h
    obtain ⟨hl, hP⟩ := wRows_length h
    obtain ⟨q1, q2, q3, q4⟩ := parErr_in hP
    obtain ⟨hlo, hmi⟩ := parErr_flags hP
    refine ⟨overTo_byt hB (wRows_ok h hB hlo hmi).1 _, ?_⟩
    unfold overM
    rw [overTo_length, hl]
    exact q4
  · exact ⟨fun r hr => by simp at hr, by simp⟩

set_option maxRecDepth 100000 in
set_option maxHeartbeats 4000000 in
theorem ParityRepairs_walk (v : Value) (m : List (List Nat)) (count : Int) (w : World) (hm : Mx w v m) (hB : BytM m) (hl : m.length ≤ maxLen) (hL : ∀ j, j < m.length → plen m j ≤ maxLen) (hd1 : -9223372036854775808 ≤ count) (hd2 : count ≤ 9223372036854775807) :
    Calls Try.prog 9 #[v, .int .i64 count] w fun e w' => e = .returned (.bool true) ∧ Below w.heap.size w w' := by
  have HM := Lib.hid hm
  have HB := Lib.hid hB
  have HL := Lib.hid hl
  have HLr := Lib.hid hL
  obtain ⟨re, hre⟩ : ∃ re, wErr m count = re := ⟨_, rfl⟩
  obtain ⟨cb, hcb⟩ : ∃ cb, conRes m count = cb := ⟨_, rfl⟩
  have t1 : ((re : Int) == (re : Int)) = true := by simp
  have t2 : (cb == cb) = true := by simp
  have t3 : re ≤ 26 := by rw [← hre]; exact wErr_le _ _
  have Hre := Lib.hid hre
  have Hre' := Lib.hid (show repErr m count = re from hre)
  have Hcb := Lib.hid hcb
  clear hm hB hl hL hre hcb
  by_cases hF : few54 m
  · have HF := Lib.hid hF
    have hlen : m.length ≤ 100 := hF.2
    clear hF
    go_enter Try.func9, Try.ntmps9
    go_wp2_with fail
    refine (rFew54_any v m _ HL.out HM.out).mono ?_
    rintro e w1 ⟨rfl, rfl⟩
    rw [few54B_true HF.out]
    go_wp2_with fail
    refine (pRepair_any v m count _ (by omega) HB.out HM.out hd1 hd2).mono ?_
    rintro e w1 ⟨v1, rfl, hG1, hB1⟩
    rw [Hre'.out]
    have B1 := Lib.hid hB1
    have M1 := Lib.hid (HM.out.new hB1)
    have G1 := Lib.hid hG1
    clear hB1 hG1
    go_wp2_with fail
    refine (rRepair_any v m count _ (by omega) HLr.out HB.out M1.out hd1 hd2).mono ?_
    rintro e w2 ⟨v2, rfl, hG2, hB2⟩
    rw [Hre'.out]
    have B2 := Lib.hid (B1.out.trans (hB2.mono B1.out.size))
    have M2 := Lib.hid (M1.out.new hB2)
    have G12 := Lib.hid (G1.out.new hB2)
    have G2 := Lib.hid hG2
    clear hB2 hG2 B1 M1 G1
    go_wp2_with fail
    refine (pConsistent_any v m count _ (by omega) HB.out M2.out hd1 hd2).mono ?_
    rintro e w3 ⟨rfl, hB3⟩
    rw [Hre.out, Hcb.out]
    have B3 := Lib.hid (B2.out.trans (hB3.mono B2.out.size))
    have M3 := Lib.hid (M2.out.new hB3)
    have G13 := Lib.hid (G12.out.new hB3)
    have G23 := Lib.hid (G2.out.new hB3)
    clear hB3 B2 M2 G12 G2
    go_wp2_with fail
    refine (rConsistent_any v m count _ (by omega) HLr.out HB.out M3.out hd1 hd2).mono ?_
    rintro e w4 ⟨rfl, hB4⟩
    rw [Hre.out, Hcb.out]
    have B4 := Lib.hid (B3.out.trans (hB4.mono B3.out.size))
    have G14 := Lib.hid (G13.out.new hB4)
    have G24 := Lib.hid (G23.out.new hB4)
    clear hB4 B3 M3 G13 G23
    go_wp2_with fail
    refine (awake54_any _).mono ?_
    rintro e w5 ⟨rfl, hB5⟩
    have B5 := Lib.hid (B4.out.trans (hB5.mono B4.out.size))
    have G15 := Lib.hid (G14.out.new hB5)
    have G25 := Lib.hid (G24.out.new hB5)
    clear hB5 B4 G14 G24
    go_wp2_with fail
    refine (rSame_any v1 v2 (repRows m count) (repRows m count) _ (by have := (repRows_ok (parts := m) (data := count) HB.out).2; omega) (repRows_ok HB.out).1 (repRows_ok HB.out).1 G15.out G25.out).mono ?_
    rintro e w6 ⟨rfl, q, hq⟩
    rw [sameB_self]
    have hB6 : Below w5.heap.size w5 w6 := by rw [hq]; exact below_drewN (Below.refl _ _) q
    have B6 := Lib.hid (B5.out.trans (hB6.mono B5.out.size))
    clear hB6 hq B5 G15 G25
    go_wp2_with fail
    go_ret
    exact ⟨rfl, B6.out⟩
  · have HF := Lib.hid hF
    clear hF
    go_enter Try.func9, Try.ntmps9
    go_wp2_with fail
    refine (rFew54_any v m _ HL.out HM.out).mono ?_
    rintro e w1 ⟨rfl, rfl⟩
    rw [few54B_false HF.out]
    go_wp2_with fail
    refine (awake54_any _).mono ?_
    rintro e w6 ⟨rfl, hB6⟩
    go_wp2_with fail
    go_ret
    exact ⟨rfl, hB6⟩
end Go.Proofs.Ytlbomlolomcolaa

namespace Go.Proofs.Ytlbomlolomcolaa
open Go.ChangeShapes Go.WideShapes Go.ChangeAt Go.RowKit

set_option maxRecDepth 100000 in
theorem open_mat_bound {H : Type} {enc : TypeId × Value → H} {W : World} {base : Nat} {v : Value} {d : DataW H} {p : List MemPlace} (hv : Value.okWide Try.prog W .any base 39 v) (h : DataW.Trod enc Try.prog W 0 (fun _ => true) true 39 v d p) {m : List (List Nat)} (hm : Mx W v m) :
    ∀ j, j < m.length → plen m j ≤ maxLen := by
  intro j hj
  obtain ⟨a0, len0, cap0, rfl⟩ := okWide_slice Try.underlying39 hv
  obtain ⟨a1, cap1, hv1, hc1, hm⟩ := hm
  simp only [Value.slice.injEq] at hv1
  obtain ⟨rfl, rfl, rfl⟩ := hv1
  rcases hm with hm | ⟨b, o, A, C, rfl, hM⟩
  · rw [hm] at hj; simp at hj
  obtain ⟨fuel, hf⟩ := h
  rcases Go.Deep.open_int_rows Try.underlying39 Try.underlying26 Try.underlying5 (by kernel_rfl) (by kernel_rfl) hf with ⟨hcs, _⟩ | ⟨a, len, cap, A', L, C', Z, hcs, _, hl, hmx, _, hr⟩
  · simp [Value.cells] at hcs
  · simp only [Value.cells] at hcs
    obtain ⟨rfl, rfl, rfl⟩ : (⟨b, o, none⟩ : Addr) = a ∧ m.length = len ∧ cap0 = cap := by simpa using hcs
    obtain ⟨k1, k2, k3, k4, k5, k6, k7⟩ := hr j (by omega)
    rw [add_plain rfl] at k1
    have h2 := (hM j _ (getD_some (d := []) hj)).1
    rw [k1] at h2
    simp only [Option.some.injEq, Value.slice.injEq] at h2
    unfold plen
    rw [← h2.2.1]
    omega
end Go.Proofs.Ytlbomlolomcolaa

namespace Go.Proofs.Ytlbomlolomcolaa
open Go.ChangeShapes Go.WideShapes Go.ChangeAt Go.RowKit
open Go.ChangeMaps (open_string shut_string)
set_option linter.unusedVariables false

set_option maxRecDepth 100000 in
theorem ParityRepairs_lifted (os : Os) (started : os.Started) (H : Type) (enc : TypeId × Value → H) :
    ReturnsInHanded {} Try.checked os 9 .any (Rows.parityRepairsSpec.pre6 enc Try.prog Try.f9 Rows.parityRepairsRow.domain false) (Rows.parityRepairsSpec.post enc Try.prog Try.f9 false true false false) := by
  refine returnsInHanded_of_change (C := Try.checked) ownKnobNone started (by kernel_rfl) Try.func9
    (ChangeSpec.witness6 (enc := enc) (C := Try.checked) false ⟨#[], #[.slice none 0 0, .int .i64 0], []⟩ 8 (by kernel_rfl) (by kernel_rfl) (by kernel_rfl) (by kernel_rfl)) ?_
  intro W base args ds gs before hval0 hW hcnd _
  have hval : ∀ (j : Nat) t v, Try.f9.params[j]? = some t → args[j]? = some v → Value.okWide Try.prog W .any base t v := hval0
  have hW' := hW
  obtain ⟨p, q, hA0, hV, rfl, hfz, hnd⟩ := hW
  have hA : DataW.TrodAll enc Try.prog W 0 (fun _ => true) true Try.f9.params.toList args.toList ds p := hA0
  rw [Try.params9] at hA hval
  obtain ⟨v0, vs0, d0, ds0, p0, q0, hargs, rfl, rfl, h0, r0⟩ := trodAll_cons hA
  obtain ⟨v1, vs1, d1, ds1, p1, q1, rfl, rfl, rfl, h1, r1⟩ := trodAll_cons r0
  obtain ⟨rfl, rfl, rfl⟩ := trodAll_nil r1
  obtain rfl : args = #[v0, v1] := by cases args; simp_all
  obtain ⟨rfl, rfl⟩ := trodVars_none hV
  have k0 := h0
  have lt0 : ∀ x ∈ p0, x.block < W.heap.size := by obtain ⟨m, hm⟩ := k0; exact DataW.trod_lt m _ _ _ hm
  obtain ⟨m0, M0, B0, L0⟩ := open_mat (hval 0 39 v0 rfl rfl) h0
  have R0 := open_mat_bound (hval 0 39 v0 rfl rfl) h0 M0
  obtain ⟨a1, rfl, rfl, rfl, w1⟩ := open_int Try.underlying3 (hval 1 3 v1 rfl rfl) h1
  have b1 := i64_bounds w1
  clear hA0 hval0
  refine (ParityRepairs_walk v0 m0 a1 W M0 B0 L0 R0 b1.1 b1.2).mono fun e W' ⟨he, bel⟩ => ?_
  subst he
  exact ⟨_, rfl, _, _, _, [], _, [], hW', trodAll_mk1 (shut_bool Try.underlying4 _), (trodAll_cons_mk (Below.trod laidOutYes (by kernel_rfl) (of_decide_eq_true (by kernel_rfl)) k0 bel lt0) (trodAll_cons_mk (shut_int Try.underlying3 w1) trodAll_mk0)), rfl, bel.frame _, fun h => by cases h⟩

theorem parityRepairs_holds : Rows.ParityRepairsSaid :=
  OpenClaim.holds_of_wide 9 Try.f9 rfl rfl rfl rfl rfl rfl rfl ⟨rfl, rfl, rfl, rfl, rfl⟩ rfl rfl rfl rfl rfl (by kernel_rfl) Try.func9 (by kernel_rfl)
    (of_decide_eq_true (by kernel_rfl)) (by unfold Func.isWrapper; first | (rw [if_pos (by decide +kernel)]; kernel_rfl) | (rw [if_neg (by decide +kernel)]; exact ⟨rfl, rfl⟩))
    (fun os started H enc _ => ParityRepairs_lifted os started H enc)
#print axioms parityRepairs_holds
end Go.Proofs.Ytlbomlolomcolaa
