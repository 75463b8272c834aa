/- The contract of the reference's whole of chapter 54. -/
import Derived.Test.YtkclmfppjhmnjaaGreatB26
import Derived.Test.YtkclmfppjhmnjaaGreatB33
import Derived.Test.YtkclmfppjhmnjaaGreatB21
import Derived.Deep.RegionHeldLaw
import Derived.Deep.AppendLies
namespace Go.Proofs.YtkclmfppjhmnjaaGreat
open Go.RowKit

/-- What holds between two rounds of whole's loop. -/
structure WR (parts : List (List Nat)) (W1 : World) (rh ph : Nat → Value) (vS vB : Value) (pre : List (PI parts)) (W : World) : Prop where
  K : Below W1.heap.size W1 W
  oS : W.ownsRow W1.heap.size 25 1 vS pre.length (pre.map fun x => rh x.1)
  oB : W.ownsRow W1.heap.size 25 1 vB pre.length (pre.map fun x => ph x.1)
  ne : ∀ g, vS.ownBlock = some g → vB.ownBlock = some g → False

def Kp (u : Value) (W0 W : World) : Prop := Kept (fun k => u.ownBlock = some k) W0 W
theorem Kp.drew0 (u : Value) (W : World) : Kp u W { W with drawn := W.drawn + 1 } := ⟨rfl, rfl, rfl, Nat.le_refl _, fun _ _ _ => rfl⟩
theorem Kp.al {u : Value} {W0 W : World} (h : Kp u W0 W) (o : Obj) : Kp u W0 (W.alloc o) := Kept.alloc h o
theorem Kp.g {u : Value} {W0 W W' : World} (h : Kp u W0 W) (hg : W.grownBy W' u.ownBlock) : Kp u W0 W' := Kept.then h (Kept.of_grown hg) fun _ _ e => e.symm
def Kq (u v : Value) (W0 W : World) : Prop := Kept (fun k => u.ownBlock = some k ∨ v.ownBlock = some k) W0 W
theorem Kq.drew0 (u v : Value) (W : World) : Kq u v W { W with drawn := W.drawn + 1 } := ⟨rfl, rfl, rfl, Nat.le_refl _, fun _ _ _ => rfl⟩
theorem Kq.al {u v : Value} {W0 W : World} (h : Kq u v W0 W) (o : Obj) : Kq u v W0 (W.alloc o) := Kept.alloc h o
theorem Kq.gS {u v : Value} {W0 W W' : World} (h : Kq u v W0 W) (hg : W.grownBy W' u.ownBlock) : Kq u v W0 W' := Kept.then h (Kept.of_grown hg) fun _ _ e => Or.inl e.symm
theorem Kq.gB {u v : Value} {W0 W W' : World} (h : Kq u v W0 W) (hg : W.grownBy W' v.ownBlock) : Kq u v W0 W' := Kept.then h (Kept.of_grown hg) fun _ _ e => Or.inr e.symm

theorem Kp.dr {u : Value} {W0 W : World} (h : Kp u W0 W) : Kp u W0 W.drew := Kept.drew h
theorem Kp.rf (u : Value) (W : World) : Kp u W W := Kept.refl _ _
theorem Kq.dr {u v : Value} {W0 W : World} (h : Kq u v W0 W) : Kq u v W0 W.drew := Kept.drew h
theorem Kq.rf (u v : Value) (W : World) : Kq u v W W := Kept.refl _ _
theorem Blk.dr {W : World} {g T : Nat} {xs : List Value} (h : Blk W g T xs) : Blk W.drew g T xs := h
theorem Blk.new1 (W : World) (a : Obj) (T : Nat) (x : Value) : Blk ((W.alloc a).alloc (.cells #[x] T)) (W.heap.size + 1) T [x] := by
  have h := Blk.new (W.alloc a) T #[x]
  rw [show (W.alloc a).heap.size = W.heap.size + 1 by simp] at h
  exact h
theorem cell_one_at {W : World} {g T : Nat} {x : Value} (h : Blk W g T [x]) : ∀ j u, [x][j]? = some u → W.cell? ((⟨g, 0, none⟩ : Addr).add j) = some u := by
  intro j u hu
  have hj : j = 0 := by
    have := (List.getElem?_eq_some_iff.1 hu).1
    simp at this; omega
  subst hj
  have := h.cell hu
  exact this

/-- The region of the two appends has run. -/
theorem WR.next {parts : List (List Nat)} {W1 : World} {rh ph : Nat → Value} {vS vB : Value} {pre : List (PI parts)} {W : World} (h : WR parts W1 rh ph vS vB pre W) (x : PI parts) {gS cS gB cB HS HB n : Nat} {wS wB : World} (hn : pre.length = n)
    (oS : wS.ownsRow W1.heap.size 25 1 (.slice (some ⟨gS, 0, none⟩) (n + 1) cS) (n + 1) ((pre.map fun x => rh x.1) ++ [rh x.1])) (oB : wB.ownsRow W1.heap.size 25 1 (.slice (some ⟨gB, 0, none⟩) (n + 1) cB) (n + 1) ((pre.map fun x => ph x.1) ++ [ph x.1]))
    (hatS : vS.ownBlock = some gS ∨ gS = HS) (hHS : W.heap.size ≤ HS) (hatB : vB.ownBlock = some gB ∨ gB = HB) (hHB : wS.heap.size ≤ HB) (hlt : gS < wS.heap.size) (k1 : Kp vB wS wB) (k2 : Kq vS vB W wB) :
    WR parts W1 rh ph (.slice (some ⟨gS, 0, none⟩) (n + 1) cS) (.slice (some ⟨gB, 0, none⟩) (n + 1) cB) (pre ++ [x]) wB := by
  have hS : vB.ownBlock = some gS → False := by
    intro e
    rcases hatS with e' | e'
    · exact h.ne _ e' e
    · have := (owns_block h.oB e).1.lt; omega
  have hz := h.K.size
  refine ⟨h.K.trans (k2.below hz ?_), ?_, ?_, ?_⟩
  · rintro k hk (e | e)
    · have := (owns_block h.oS e).2.1; omega
    · have := (owns_block h.oB e).2.1; omega
  · rw [List.length_append, List.map_append, List.length_singleton, hn]
    refine owns_kept oS k1 fun g e1 e2 => ?_
    simp only [Value.ownBlock, Option.some.injEq] at e1
    subst e1
    exact hS e2
  · rw [List.length_append, List.map_append, List.length_singleton, hn]
    exact oB
  · intro g e1 e2
    simp only [Value.ownBlock, Option.some.injEq] at e1 e2
    subst e1
    subst e2
    rcases hatB with e' | e'
    · exact hS e'
    · omega

theorem WR.om {parts : List (List Nat)} {W1 : World} {B bR : Nat} {hdR : List (Nat × Nat)} {m : List (List Nat)} {rh ph : Nat → Value} {vS vB : Value} {sel : List (PI parts)} {W : World} (h : WR parts W1 rh ph vS vB sel W) (hO : OM W1 B bR hdR m) : OM W B bR hdR m := hO.new h.K
theorem WR.mxS {parts : List (List Nat)} {W1 : World} {B bR d r : Nat} {hdR : List (Nat × Nat)} {ph : Nat → Value} {vS vB : Value} {sel : List (PI parts)} {W : World} (h : WR parts W1 (rhOf d hdR) ph vS vB sel W) (hO : OM W1 B bR hdR (rowsM d r)) (hN : d + r = parts.length) : Mx W vS (sel.map fun x => (rowsM d r).getD x.1 []) := by
  by_cases hs : sel = []
  · subst hs
    obtain ⟨a, c, rfl⟩ := owns_slice h.oS
    exact ⟨a, c, rfl, Nat.zero_le _, Or.inl rfl⟩
  have hne : sel.length ≠ 0 := by simpa using hs
  obtain ⟨g, cg, rfl, _, hcg, _⟩ := ne_of_owns h.oS hne
  have hb := Blk.of_owns h.oS
  have hOW : OM W B bR hdR (rowsM d r) := h.om hO
  refine ⟨some ⟨g, 0, none⟩, cg, by rw [List.length_map], by rw [List.length_map]; exact hcg, Or.inr ⟨g, 0, fun k => some ⟨(hdR.getD ((sel.map (·.1)).getD k 0) (0, 0)).1, 0, none⟩, fun k => (hdR.getD ((sel.map (·.1)).getD k 0) (0, 0)).2, rfl, ?_⟩⟩
  intro k x hx
  rw [List.getElem?_map] at hx
  cases hk : sel[k]? with
  | none => rw [hk] at hx; simp at hx
  | some y =>
    rw [hk] at hx
    simp only [Option.map_some, Option.some.injEq] at hx
    have hyi : y.1 < (rowsM d r).length := by rw [rowsM_length]; have := y.2.1; omega
    have hrg : (rowsM d r)[y.1]? = some x := by rw [← hx]; exact getD_some hyi
    have hdg : hdR[y.1]? = some (hdR.getD y.1 (0, 0)) := getD_some (by rw [hOW.len]; exact hyi)
    obtain ⟨q1, _, q3⟩ := hOW.rows _ _ _ hdg hrg
    have hxl : x.length = d := (rowsM_rect d r x (List.mem_of_getElem? hrg)).1
    have hcell := hb.cell (show (sel.map fun x => rhOf d hdR x.1)[k]? = some (rhOf d hdR y.1) by rw [List.getElem?_map, hk]; rfl)
    have hgd : (sel.map (·.1)).getD k 0 = y.1 := by rw [List.getD_eq_getElem?_getD, List.getElem?_map, hk]; rfl
    dsimp only
    rw [hgd, Nat.zero_add, hxl]
    rw [hxl] at q3
    exact ⟨hcell, q3, Or.inr ⟨_, 0, rfl, q1.row⟩, by simp⟩
theorem WR.mxB {parts : List (List Nat)} {W1 : World} {b o : Nat} {A : Nat → Option Addr} {C : Nat → Nat} {rh : Nat → Value} {vS vB : Value} {sel : List (PI parts)} {W : World} (h : WR parts W1 rh (phOf parts A C) vS vB sel W) (hM : MxAt W b o parts A C) :
    (sel ≠ [] → ∃ g cg, vB = .slice (some ⟨g, 0, none⟩) sel.length cg ∧ sel.length ≤ cg ∧ MxAt W g 0 (sel.map fun x => parts.getD x.1 []) (fun k => A ((sel.map (·.1)).getD k 0)) (fun k => C ((sel.map (·.1)).getD k 0))) := by
  intro hs
  have hne : sel.length ≠ 0 := by simpa using hs
  obtain ⟨g, cg, rfl, _, hcg, _⟩ := ne_of_owns h.oB hne
  have hb := Blk.of_owns h.oB
  refine ⟨g, cg, rfl, hcg, ?_⟩
  intro k x hx
  rw [List.getElem?_map] at hx
  cases hk : sel[k]? with
  | none => rw [hk] at hx; simp at hx
  | some y =>
    rw [hk] at hx
    simp only [Option.map_some, Option.some.injEq] at hx
    obtain ⟨_, q2, q3, q4⟩ := hM y.1 x (by rw [← hx]; exact getD_some y.2.1)
    have hcell := hb.cell (show (sel.map fun x => phOf parts A C x.1)[k]? = some (phOf parts A C y.1) by rw [List.getElem?_map, hk]; rfl)
    have hgd : (sel.map (·.1)).getD k 0 = y.1 := by rw [List.getD_eq_getElem?_getD, List.getElem?_map, hk]; rfl
    have hxl : plen parts y.1 = x.length := by unfold plen; rw [hx]
    unfold phOf at hcell
    dsimp only
    rw [hgd, Nat.zero_add, ← hxl]
    rw [← hxl] at q2
    exact ⟨hcell, q2, q3, q4⟩
theorem sel_full' {parts : List (List Nat)} {k d : Nat} (hk : k ≤ parts.length) (hd : (piTo parts k).length = d) : (piTo parts k).map (·.1) = (pidx parts).take d ∧ d ≤ (pidx parts).length := by
  obtain ⟨t, ht⟩ := piTo_prefix parts k (parts.length - k)
  rw [show k + (parts.length - k) = parts.length by omega] at ht
  unfold pidx
  rw [ht]
  simp [← hd]

set_option maxRecDepth 100000 in
set_option maxHeartbeats 8000000 in
theorem rwhole_loop (b o cap d : Nat) (parts : List (List Nat)) (A : Nat → Option Addr) (C : Nat → Nat) (w : World) (hM : MxAt w b o parts A C) (hm : Mx w (.slice (some ⟨b, o, none⟩) parts.length cap) parts)
    (hE : parErr parts d = 0) (hLm : ∀ j, j < parts.length → plen parts j ≤ maxLen) (hBy : BytM parts) :
    Calls Tryz.prog 40 #[.slice (some ⟨b, o, none⟩) parts.length cap, .int .i64 d] w (RowsErr (wholeRows parts d) (wholeErr parts d) w) := by
  obtain ⟨j0, gi, gz0, gz1, gz2⟩ := info_parts infoBytes
  obtain ⟨q1, q2, q3, q4⟩ := parErr_in hE
  obtain ⟨hlo, hmi⟩ := parErr_zero hE
  have HM := Lib.hid hM
  have Hm := Lib.hid hm
  have HE := Lib.hid hE
  have HLm := Lib.hid hLm
  have HBy := Lib.hid hBy
  have Hlo := Lib.hid hlo
  have Hmi := Lib.hid hmi
  have hd1 : 1 ≤ d := by omega
  have hbw : b < w.heap.size := World.block_lt_of_cell? w _ (hM 0 _ (getD_some (d := []) (by omega))).1
  have e1 : ((parts.length : Int) - (d : Int)) = ((parts.length - d : Nat) : Int) := by omega
  clear hM hm hE hLm hBy hlo hmi
  go_enter Tryz.func40, Tryz.ntmps40
  go_wp2_with fail
  refine (rCheck54_any _ parts d _ (by omega) HLm.out Hm.out (by omega) (by omega)).mono ?_
  rintro e w1 ⟨rfl, rfl⟩
  rw [HE.out]
  go_wp2_with fail
  refine (rRows_any d (parts.length - d) _ (by omega) (by omega)).mono ?_
  rintro e w4 ⟨vr, hdR, rfl, hG, hB4⟩
  obtain ⟨bR, cR, hvr, hcR, _, hO4⟩ := hG.done (by intro h; have := rowsM_length d (parts.length - d); rw [h] at this; simp at this; omega)
  rw [rowsM_length, show d + (parts.length - d) = parts.length by omega] at hvr hcR
  subst hvr
  have HO4 := Lib.hid hO4
  have HB4 := Lib.hid hB4
  have HM4 := Lib.hid (HM.out.new hB4)
  have hz4 := hB4.size
  have HRl := Lib.hid (show (rowsM d (parts.length - d)).length = parts.length by rw [rowsM_length]; omega)
  have hbR : bR < w4.heap.size := hO4.outer.lt
  clear hG hO4 hB4 e1
  go_wp2_with fail
  go_loopg [8, 9, 10] parts.length (fun gk v8 v9 i wr => ∃ k : Nat, k + gk = parts.length ∧ i = .int .i64 k ∧ Hid ((piTo parts k).length ≤ d) ∧ Hid (WR parts w4 (rhOf d hdR) (phOf parts A C) v8 v9 (piTo parts k) wr))
  case atStart => exact ⟨0, by omega, rfl, Nat.zero_le _, ⟨Below.refl _ _, World.ownsRow_nil _ _ _ _, World.ownsRow_nil _ _ _ _, fun g h => by simp [Value.ownBlock] at h⟩⟩
  case round =>
    obtain ⟨k, hgk, rfl, hle, hW⟩ := hrel
    have Hgk := Lib.hid hgk
    have hk : k ≤ parts.length := by omega
    clear hgk
    by_cases hgo : k < parts.length ∧ (piTo parts k).length < d
    · obtain ⟨hlt, hnd⟩ := hgo
      obtain ⟨wo, rfl⟩ : ∃ wo : World, wo = wr := ⟨_, rfl⟩
      obtain ⟨a8, c8, hv8⟩ := owns_slice hW.out.oS
      obtain ⟨a9, c9, hv9⟩ := owns_slice hW.out.oB
      subst hv8 hv9
      have hMk := (HM4.out.new hW.out.K) k _ (getD_some (d := []) hlt)
      have p1 : wo.cell? ⟨b, o + k, none⟩ = some (.slice (A k) (plen parts k) (C k)) := hMk.1
      have hpl := long_le Hlo.out hlt
      have HW := Lib.hid hW.out
      have hnl : (piTo parts k).length ≤ 64 := by omega
      generalize hpn : (piTo parts k).length = n at *
      by_cases hp : 1 ≤ plen parts k
      · have x3 : decide ((0 : Int) < (plen parts k : Int)) = true := by simp; omega
        have hrg : (rowsM d (parts.length - d))[k]? = some ((rowsM d (parts.length - d)).getD k []) := getD_some (by rw [HRl.out]; exact hlt)
        obtain ⟨p, hpd⟩ : ∃ p, hdR[k]? = some p := ⟨hdR.getD k (0, 0), getD_some (by rw [HO4.out.len, HRl.out]; exact hlt)⟩
        have hrr := (rowsM_rect d (parts.length - d)).get (i := k) (by rw [HRl.out]; exact hlt)
        have hpc := (HO4.out.outer.below hW.out.K HO4.out.outer.lt).cell (hvs_get hpd hrg)
        rw [hrr.1] at hpc
        unfold hv at hpc
        have Hpd := Lib.hid hpd
        have Hrel := Lib.hid (show rhOf d hdR k = .slice (some ⟨p.1, 0, none⟩) d p.2 by unfold rhOf hv; rw [List.getD_eq_getElem?_getD, hpd]; rfl)
        have i1 : (0 : Int) ≤ (k : Int) := by omega
        have i2 : (k : Int) < (parts.length : Int) := by omega
        have i3 : (n : Int) < (d : Int) := by omega
        have hS0 := hW.out.oS
        have hB0 := hW.out.oB
        rw [hpn] at hS0 hB0
        have HS := Lib.hid hS0
        have HBo := Lib.hid hB0
        have Hne := Lib.hid hW.out.ne
        have hz := hW.out.K.size
        have hbS : ∀ g, (Value.slice a8 n c8).ownBlock = some g → w4.heap.size ≤ g ∧ g < wo.heap.size := fun g h => by
          have := owns_block hW.out.oS h; exact ⟨this.2.1, this.1.lt⟩
        have hbB : ∀ g, (Value.slice a9 n c9).ownBlock = some g → w4.heap.size ≤ g ∧ g < wo.heap.size := fun g h => by
          have := owns_block hW.out.oB h; exact ⟨this.2.1, this.1.lt⟩
        clear hrg hpd hrr hMk hW hle hS0 hB0
        go_wp2_with fail
        have hpv1 : (Value.slice (A k) (plen parts k) (C k)).oneCell' = true := rfl
        go_region_held_law (fun w' => w'.cell? ⟨bR, k, none⟩ = some (.slice (some ⟨p.1, 0, none⟩) d p.2) ∧ w'.cell? ⟨b, o + k, none⟩ = some (.slice (A k) (plen parts k) (C k)))
          (first
            | exact ⟨hpc, p1⟩
            | (refine ⟨Kept.cell (show Kq (.slice a8 n c8) (.slice a9 n c9) wo _ from ?_) hpc ?_, Kept.cell (show Kq (.slice a8 n c8) (.slice a9 n c9) wo _ from ?_) p1 ?_⟩
               · repeat (first | exact Kq.rf _ _ _ | exact Kq.drew0 _ _ _ | apply Kq.dr | apply Kq.al | refine Kq.gS ?_ hgS | refine Kq.gB ?_ hgB)
               · rintro (h | h) <;> first | (have := (hbS _ h).1; simp only at this; omega) | (have := (hbB _ h).1; simp only at this; omega)
               · repeat (first | exact Kq.rf _ _ _ | exact Kq.drew0 _ _ _ | apply Kq.dr | apply Kq.al | refine Kq.gS ?_ hgS | refine Kq.gB ?_ hgB)
               · rintro (h | h) <;> first | (have := (hbS _ h).1; simp only at this; omega) | (have := (hbB _ h).1; simp only at this; omega)))
          (first
            | (refine step_append_lies _ rfl (.tmp 47) (.tmp 52) 22 rfl w4.heap.size 25 j0 (.slice none 0 0) 1 24 Tryz.underlying22 gi gz0 gz1 gz2 rfl (by decide) (.slice a8 n c8) n _ rfl (owns_kept HS.out (show Kp (.slice a9 n c9) wo _ from by repeat (first | exact Kp.rf _ _ | exact Kp.drew0 _ _ | apply Kp.dr | apply Kp.al | refine Kp.g ?_ hgB)) (fun g h1 h2 => Hne.out g h1 h2)) ⟨_, 0, none⟩ 1 1 [.slice (some ⟨p.1, 0, none⟩) d p.2] rfl rfl (cell_one_at (T := 25) (by (try apply Blk.dr); first | exact Blk.new _ _ _ | exact Blk.new1 _ _ _ _ | exact (Blk.new _ _ _).alloc _)) (by intro u hu; simp only [List.mem_cons, List.not_mem_nil, or_false] at hu; subst hu; rfl) (by decide) (by unfold maxLen; omega) (by omega) (by simp; omega) _ rfl ?_; intro gS cS wS hownS hgS hatS hltS)
            | (refine step_append_lies _ rfl (.tmp 54) (.tmp 59) 22 rfl w4.heap.size 25 j0 (.slice none 0 0) 1 24 Tryz.underlying22 gi gz0 gz1 gz2 rfl (by decide) (.slice a9 n c9) n _ rfl (owns_kept HBo.out (show Kp (.slice a8 n c8) wo _ from by repeat (first | exact Kp.rf _ _ | exact Kp.drew0 _ _ | apply Kp.dr | apply Kp.al | refine Kp.g ?_ hgS)) (fun g h1 h2 => Hne.out g h2 h1)) ⟨_, 0, none⟩ 1 1 [.slice (A k) (plen parts k) (C k)] rfl rfl (cell_one_at (T := 25) (by (try apply Blk.dr); first | exact Blk.new _ _ _ | exact Blk.new1 _ _ _ _ | exact (Blk.new _ _ _).alloc _ | (refine Blk.kept (?_) (Kept.of_grown hgS) (fun e => by have := (hbS _ e.symm).2; first | omega | (simp at this; omega) | simp at this); (try apply Blk.dr); first | exact Blk.new _ _ _ | exact Blk.new1 _ _ _ _ | exact (Blk.new _ _ _).alloc _))) (by intro u hu; simp only [List.mem_cons, List.not_mem_nil, or_false] at hu; subst hu; rfl) (by decide) (by unfold maxLen; omega) (by omega) (by first | (have := hgS.size; simp at this ⊢; omega) | (simp; omega)) _ rfl ?_; intro gB cB wB hownB hgB hatB hltB))
        all_goals
          have hWn := Lib.hid (HW.out.next ⟨k, hlt, hp⟩ hpn (by rw [Hrel.out]; exact hownS) hownB hatS (by simp; try omega) hatB (by simp; try omega) hltS (by repeat (first | exact Kp.rf _ _ | apply Kp.dr | apply Kp.al | refine Kp.g ?_ hgB)) (by repeat (first | exact Kq.rf _ _ _ | apply Kq.dr | apply Kq.al | refine Kq.gB ?_ hgB | refine Kq.gS ?_ hgS)))
          rw [← piTo_yes (parts := parts) ⟨hlt, hp⟩] at hWn
          have hln := Lib.hid (show (piTo parts (k + 1)).length ≤ d by rw [piTo_yes ⟨hlt, hp⟩, List.length_append, hpn, List.length_singleton]; omega)
          clear hownS hownB hgS hgB hatS hatB hltS hltB
          go_wp2_with fail
          go_roundg (parts.length - k - 1)
          case measure => have := Hgk.out; omega
          case rel => exact ⟨k + 1, by have := Hgk.out; omega, by go_num, hln.out, hWn.out⟩
      · have x3 : decide ((0 : Int) < (plen parts k : Int)) = false := by simp; omega
        have i1 : (0 : Int) ≤ (k : Int) := by omega
        have i2 : (k : Int) < (parts.length : Int) := by omega
        have i3 : (n : Int) < (d : Int) := by omega
        have hno := piTo_no (parts := parts) hp
        have hWn := Lib.hid (show WR parts w4 (rhOf d hdR) (phOf parts A C) (.slice a8 n c8) (.slice a9 n c9) (piTo parts (k + 1)) wo by rw [hno]; exact HW.out)
        have hln := Lib.hid (show (piTo parts (k + 1)).length ≤ d by rw [hno, hpn]; omega)
        have hpz : (plen parts k : Int) ≤ 0 := by omega
        clear hMk hW hle hno
        go_wp2_with fail
        go_roundg (parts.length - k - 1)
        case measure => have := Hgk.out; omega
        case rel => exact ⟨k + 1, by have := Hgk.out; omega, by go_num, hln.out, hWn.out⟩
    · obtain ⟨wo, rfl⟩ : ∃ wo : World, wo = wr := ⟨_, rfl⟩
      obtain ⟨a8, c8, hv8⟩ := owns_slice hW.out.oS
      obtain ⟨a9, c9, hv9⟩ := owns_slice hW.out.oB
      by_cases hnd : (piTo parts k).length < d
      · subst hv8 hv9
        have hkn : k = parts.length := by omega
        have hr := Lib.hid (show wholeErr parts d = 26 by unfold wholeErr pidx; rw [if_pos (by rw [List.length_map, ← hkn]; exact hnd)])
        have hr2 := Lib.hid (show wholeRows parts d = [] by unfold wholeRows; rw [hr.out]; rfl)
        have HBW := Lib.hid (HB4.out.trans (hW.out.K.mono hz4))
        have i2 : (parts.length : Int) ≤ (k : Int) := by omega
        have t1 : decide ((k : Int) < (parts.length : Int)) = false := by simp; omega
        have t2 : decide (((piTo parts k).length : Int) < (d : Int)) = true := by simp; omega
        generalize (piTo parts k).length = n at *
        clear hW hle hgo
        go_wp2_with fail
        go_ret2
        exact ⟨.slice none 0 0, [], by rw [hr.out]; rfl, by rw [hr2.out]; exact GM.nil _ _, HBW.out⟩
      · have hnn : (piTo parts k).length = d := by have := hle.out; omega
        have hsel := sel_full' hk hnn
        have hOW := hW.out.mxS HO4.out (by omega)
        rw [selM_eq hsel.1] at hOW
        obtain ⟨gB, cgB, hvB, hcgB, hMB⟩ := hW.out.mxB (HM4.out.new hW.out.K) (by intro e; rw [e] at hnn; simp at hnn; omega)
        rw [selP_eq hsel.1] at hMB
        rw [hnn] at hvB hcgB hv8
        rw [hvB] at hW
        subst hvB
        subst hv8
        have HmS := Lib.hid hOW
        have HMB := Lib.hid hMB
        have Hsel := Lib.hid hsel
        have hsq := selM_sq hd1 (by omega) q4 hsel.2
        have hinv := inv_sel hd1 (by omega) q4 hsel.2
        have Hsq := Lib.hid hsq
        have Hinv := Lib.hid hinv
        have Hx := Lib.hid (hsq.inv hinv).1
        obtain ⟨x, _⟩ : ∃ x, x ∈ piTo parts k := List.exists_mem_of_ne_nil _ (by intro e; rw [e] at hnn; simp at hnn; omega)
        have hRP := selP_rect (d := d) HBy.out Hmi.out (x := x)
        have hL1 := x.2.2
        have hL2 := long_le Hlo.out x.2.1
        generalize plen parts x.1 = L at hRP hL1 hL2
        have HRP := Lib.hid hRP
        have HsPl := Lib.hid (show (selP parts d).length = d by unfold selP; rw [List.length_map, List.length_take]; have := hsel.2; omega)
        have hr := Lib.hid (show wholeErr parts d = 0 by unfold wholeErr; rw [if_neg (by omega), hinv])
        have hr2 := Lib.hid (show wholeRows parts d = wholeM parts d by unfold wholeRows; rw [if_pos hr.out])
        have HBW := Lib.hid (HB4.out.trans (hW.out.K.mono hz4))
        have HOR := Lib.hid (HO4.out.new hW.out.K)
        have t2 : decide ((d : Int) < (d : Int)) = false := by simp
        clear hOW hMB hsel hsq hinv hle hgo hv9 hRP
        by_cases hlt : k < parts.length
        · have t1 : decide ((k : Int) < (parts.length : Int)) = true := by simp; omega
          clear hW hnd
          go_wp2_with fail
          refine (rInvert_any _ (selM parts d) _ (by rw [Hsq.out.len]; omega) Hsq.out.bytM HmS.out).mono ?_
          rintro e w5 ⟨vb, rfl, hMb, hB5⟩
          rw [Hinv.out]
          obtain ⟨ab, capb, hvb, hcb, hMb⟩ := hMb
          have hxl := Hx.out.len
          rcases hMb with h0 | ⟨bb, ob, Ab, Cb, hab, hMb⟩
          · rw [h0] at hxl; simp at hxl; omega
          subst hab
          rw [hxl] at hvb hcb
          subst hvb
          have HMb := Lib.hid hMb
          have HB5 := Lib.hid (HBW.out.trans (hB5.mono HBW.out.size))
          have HMB5 := Lib.hid (HMB.out.new hB5)
          have HOR5 := Lib.hid (HOR.out.new hB5)
          have hz5 := hB5.size
          obtain ⟨bk, hbk⟩ : ∃ bk, invRows (selM parts d) = bk := ⟨_, rfl⟩
          rw [hbk] at Hx HMb
          have Hbk := Lib.hid hbk
          clear hMb hB5 hxl hbk
          go_wp2_with fail
          go_loopg [13, 15] d (fun gk v i wr => ∃ q : Nat, q + gk = d ∧ i = .int .i64 q ∧ Hid (∃ hd', GM wr w5.heap.size v hd' ((prodM bk (selP parts d)).take q)) ∧ Hid (Below w5.heap.size w5 wr))
          case atStart => exact ⟨0, by omega, rfl, ⟨[], GM.nil _ _⟩, Below.refl _ _⟩
          case round =>
            obtain ⟨q, hgq, rfl, hG, hB⟩ := hrel
            have Hgq := Lib.hid hgq
            have hq : q ≤ d := by omega
            clear hgq
            by_cases hltq : q < d
            · obtain ⟨hd', hG⟩ := hG.out
              have hrg : bk[q]? = some (bk.getD q []) := getD_some (by rw [Hx.out.len]; exact hltq)
              have hrr := Hx.out.rect.get (i := q) (by rw [Hx.out.len]; exact hltq)
              have hMq := (HMb.out.new hB.out) q _ hrg
              obtain ⟨b', o', hA, hrow⟩ : ∃ b' o', Ab q = some ⟨b', o', none⟩ ∧ RowAt wr b' o' (bk.getD q []) := by
                rcases hMq.2.2.1 with h0 | h
                · rw [h0] at hrr; simp at hrr; omega
                · exact h
              have hpc := hMq.1
              rw [hA, hrr.1] at hpc
              have Hrow := Lib.hid hrow
              have Hrr := Lib.hid hrr
              have HMx := Lib.hid (HMB5.out.new hB.out)
              have htk := Lib.hid (prodM_take (b := selP parts d) hrg)
              have HG := Lib.hid hG
              have HBr := Lib.hid hB.out
              have hzz : w5.heap.size ≤ wr.heap.size := hB.out.size
              clear hG hB hrg hrr hMq hA hrow
              go_wp2_with fail
              refine (combined_any b' o' (Cb q) gB 0 cgB L d d (bk.getD q []) (selP parts d) _ _ wr Hrr.out.1 HsPl.out Hrow.out HMx.out hcgB HRP.out rfl hd1 (by omega) (by omega) hL1 Hrr.out.2).mono ?_
              rintro e w6 ⟨g, cg, rfl, g1, g2, g3, hblk, hB6⟩
              have Hlk := Lib.hid (show ((prodM bk (selP parts d)).take q).length = q by rw [List.length_take, prodM_length, Hx.out.len]; omega)
              rw [row0_of HRP.out (by rw [HsPl.out]; omega), HsPl.out] at htk
              generalize prTo (bk.getD q []) (selP parts d) L d = pr at *
              have Hblk := Lib.hid hblk
              have HB6 := Lib.hid hB6
              have HGo := Lib.hid ((HG.out.new hB6).outer)
              have Hg2 := Lib.hid g2
              have hz6 := hB6.size
              clear hblk hB6 g2 g3 hpc
              go_wp2_with (at_builtin; refine wpList_append_own _ rfl _ _ 22 rfl w5.heap.size 25 j0 (.slice none 0 0) 1 24 Tryz.underlying22 gi gz0 gz1 gz2 rfl (by decide) _ _ _ rfl (HGo.out.alloc _) ⟨w6.heap.size, 0, none⟩ 1 1 [hv pr.length (g, cg)] rfl rfl ?d1 ?d2 ?d3 ?d4 ?d5 ?_)
              case d1 => exact cell_one_new _ _ _
              case d2 => intro u hu; simp only [List.mem_cons, List.not_mem_nil, or_false] at hu; subst hu; rfl
              case d3 => rw [Hlk.out]; unfold maxLen; omega
              case d4 => rw [Hlk.out]; omega
              case d5 => simp; omega
              intro v' w7 hown hgr _
              have hG7 := HG.out.snoc HB6.out (p := (g, cg)) (r := pr) Hblk.out g1 HBr.out.size Hg2.out (by rw [Hlk.out]; simpa [prodM_length, Hx.out.len, Nat.min_eq_left hq] using hown) (by simpa using hgr)
              rw [← htk.out] at hG7
              have hB7 : Below w5.heap.size w5 w7 := ((HBr.out.trans (HB6.out.mono HBr.out.size)).alloc (by omega) _).grown hgr (by simp; omega) (fun q hq => (owns_block HG.out.outer hq).2.1)
              have HG7 := Lib.hid hG7
              have HB7 := Lib.hid hB7
              clear hown hgr hG7 hB7
              go_wp2_with fail
              go_roundg (d - q - 1)
              case measure => have := Hgq.out; omega
              case rel => exact ⟨q + 1, by have := Hgq.out; omega, by go_num, ⟨_, HG7.out⟩, HB7.out⟩
            · have hkn : (prodM bk (selP parts d)).take q = prodM bk (selP parts d) := List.take_of_length_le (by rw [prodM_length, Hx.out.len]; omega)
              obtain ⟨hd', hG⟩ := hG.out
              rw [hkn] at hG
              obtain ⟨og, hog⟩ : ∃ og, prodM bk (selP parts d) = og := ⟨_, rfl⟩
              have hRo : Rect L og := by rw [← hog]; exact prodM_rect HRP.out (by rw [HsPl.out]; omega)
              have hlo : og.length = d := by rw [← hog, prodM_length, Hx.out.len]
              rw [hog] at hG
              obtain ⟨bO, cO, hvO, hcO, _, hOO⟩ := hG.done (by intro h; rw [h] at hlo; simp at hlo; omega)
              rw [hlo] at hvO hcO
              obtain ⟨w8, rfl⟩ : ∃ w8 : World, w8 = wr := ⟨_, rfl⟩
              subst hvO
              have HMO := Lib.hid hOO.mxAt
              have Hog := Lib.hid hog
              have HRo := Lib.hid hRo
              have Hlo' := Lib.hid hlo
              have HB8 := Lib.hid (HB5.out.trans (hB.out.mono HB5.out.size))
              have HOR8 := Lib.hid (HOR5.out.new hB.out)
              have hz8 := HB8.out.size
              clear hG hkn hB hOO hog hRo hlo
              go_wp2_with fail
              go_loopg [14, 16] parts.length (fun gk v i wr => ∃ q : Nat, q + gk = parts.length ∧ i = .int .i64 q ∧ Hid (∃ hd', GM wr w8.heap.size v hd' ((prodM (rowsM d (parts.length - d)) og).take q)) ∧ Hid (Below w8.heap.size w8 wr))
              case atStart => exact ⟨0, by omega, rfl, ⟨[], GM.nil _ _⟩, Below.refl _ _⟩
              case round =>
                obtain ⟨z, hgz, rfl, hG, hB⟩ := hrel
                have Hgz := Lib.hid hgz
                have hz : z ≤ parts.length := by omega
                clear hgz
                by_cases hltz : z < parts.length
                · obtain ⟨hd2, hG⟩ := hG.out
                  have hrg : (rowsM d (parts.length - d))[z]? = some ((rowsM d (parts.length - d)).getD z []) := getD_some (by rw [HRl.out]; exact hltz)
                  have hrr := (rowsM_rect d (parts.length - d)).get (i := z) (by rw [HRl.out]; exact hltz)
                  obtain ⟨p, hp⟩ : ∃ p, hdR[z]? = some p := ⟨hdR.getD z (0, 0), getD_some (by rw [HOR8.out.len, HRl.out]; exact hltz)⟩
                  have hpc := (HOR8.out.outer.below hB.out HOR8.out.outer.lt).cell (hvs_get hp hrg)
                  obtain ⟨hpb, _, hpl⟩ := HOR8.out.rows _ p _ hp hrg
                  rw [hrr.1] at hpc hpl
                  unfold hv at hpc
                  have Hrow := Lib.hid (hpb.below hB.out hpb.lt).row
                  have Hrr := Lib.hid hrr
                  have HMx := Lib.hid (HMO.out.new hB.out)
                  have htk := Lib.hid (prodM_take (b := og) hrg)
                  have HG := Lib.hid hG
                  have HBr := Lib.hid hB.out
                  have hzz : w8.heap.size ≤ wr.heap.size := hB.out.size
                  clear hG hB hrg hrr hp hpb
                  go_wp2_with fail
                  refine (combined_any p.1 0 p.2 bO 0 cO L d d ((rowsM d (parts.length - d)).getD z []) og _ _ wr Hrr.out.1 Hlo'.out Hrow.out HMx.out hcO HRo.out rfl hd1 (by omega) (by omega) hL1 Hrr.out.2).mono ?_
                  rintro e w6 ⟨g, cg, rfl, g1, g2, g3, hblk, hB6⟩
                  have Hlk := Lib.hid (show ((prodM (rowsM d (parts.length - d)) og).take z).length = z by rw [List.length_take, prodM_length, HRl.out]; omega)
                  rw [row0_of HRo.out (by rw [Hlo'.out]; omega), Hlo'.out] at htk
                  generalize prTo ((rowsM d (parts.length - d)).getD z []) og L d = pr at *
                  have Hblk := Lib.hid hblk
                  have HB6 := Lib.hid hB6
                  have HGo := Lib.hid ((HG.out.new hB6).outer)
                  have Hg2 := Lib.hid g2
                  have hz6 := hB6.size
                  clear hblk hB6 g2 g3 hpc
                  go_wp2_with (at_builtin; refine wpList_append_own _ rfl _ _ 22 rfl w8.heap.size 25 j0 (.slice none 0 0) 1 24 Tryz.underlying22 gi gz0 gz1 gz2 rfl (by decide) _ _ _ rfl (HGo.out.alloc _) ⟨w6.heap.size, 0, none⟩ 1 1 [hv pr.length (g, cg)] rfl rfl ?d1 ?d2 ?d3 ?d4 ?d5 ?_)
                  case d1 => exact cell_one_new _ _ _
                  case d2 => intro u hu; simp only [List.mem_cons, List.not_mem_nil, or_false] at hu; subst hu; rfl
                  case d3 => rw [Hlk.out]; unfold maxLen; omega
                  case d4 => rw [Hlk.out]; omega
                  case d5 => simp; omega
                  intro v' w7 hown hgr _
                  have hG7 := HG.out.snoc HB6.out (p := (g, cg)) (r := pr) Hblk.out g1 HBr.out.size Hg2.out (by rw [Hlk.out]; simpa [prodM_length, HRl.out, Nat.min_eq_left hz] using hown) (by simpa using hgr)
                  rw [← htk.out] at hG7
                  have hB7 : Below w8.heap.size w8 w7 := ((HBr.out.trans (HB6.out.mono HBr.out.size)).alloc (by omega) _).grown hgr (by simp; omega) (fun q hq => (owns_block HG.out.outer hq).2.1)
                  have HG7 := Lib.hid hG7
                  have HB7 := Lib.hid hB7
                  clear hown hgr hG7 hB7
                  go_wp2_with fail
                  go_roundg (parts.length - z - 1)
                  case measure => have := Hgz.out; omega
                  case rel => exact ⟨z + 1, by have := Hgz.out; omega, by go_num, ⟨_, HG7.out⟩, HB7.out⟩
                · have hkn : (prodM (rowsM d (parts.length - d)) og).take z = wholeM parts d := by
                    rw [List.take_of_length_le (by rw [prodM_length, HRl.out]; omega)]
                    unfold wholeM
                    rw [Hbk.out, Hog.out]
                  obtain ⟨hd2, hG⟩ := hG.out
                  rw [hkn] at hG
                  have HG := Lib.hid hG
                  have HBr := Lib.hid hB.out
                  clear hG hkn hB
                  go_wp2_with fail
                  go_ret2
                  exact ⟨_, hd2, by rw [hr.out]; rfl, by rw [hr2.out]; exact HG.out.base hz8, HB8.out.trans (HBr.out.mono hz8)⟩
        · have t1 : decide ((k : Int) < (parts.length : Int)) = false := by simp; omega
          have i2 : (parts.length : Int) ≤ (k : Int) := by omega
          clear hW hnd
          go_wp2_with fail
          refine (rInvert_any _ (selM parts d) _ (by rw [Hsq.out.len]; omega) Hsq.out.bytM HmS.out).mono ?_
          rintro e w5 ⟨vb, rfl, hMb, hB5⟩
          rw [Hinv.out]
          obtain ⟨ab, capb, hvb, hcb, hMb⟩ := hMb
          have hxl := Hx.out.len
          rcases hMb with h0 | ⟨bb, ob, Ab, Cb, hab, hMb⟩
          · rw [h0] at hxl; simp at hxl; omega
          subst hab
          rw [hxl] at hvb hcb
          subst hvb
          have HMb := Lib.hid hMb
          have HB5 := Lib.hid (HBW.out.trans (hB5.mono HBW.out.size))
          have HMB5 := Lib.hid (HMB.out.new hB5)
          have HOR5 := Lib.hid (HOR.out.new hB5)
          have hz5 := hB5.size
          obtain ⟨bk, hbk⟩ : ∃ bk, invRows (selM parts d) = bk := ⟨_, rfl⟩
          rw [hbk] at Hx HMb
          have Hbk := Lib.hid hbk
          clear hMb hB5 hxl hbk
          go_wp2_with fail
          go_loopg [13, 15] d (fun gk v i wr => ∃ q : Nat, q + gk = d ∧ i = .int .i64 q ∧ Hid (∃ hd', GM wr w5.heap.size v hd' ((prodM bk (selP parts d)).take q)) ∧ Hid (Below w5.heap.size w5 wr))
          case atStart => exact ⟨0, by omega, rfl, ⟨[], GM.nil _ _⟩, Below.refl _ _⟩
          case round =>
            obtain ⟨q, hgq, rfl, hG, hB⟩ := hrel
            have Hgq := Lib.hid hgq
            have hq : q ≤ d := by omega
            clear hgq
            by_cases hltq : q < d
            · obtain ⟨hd', hG⟩ := hG.out
              have hrg : bk[q]? = some (bk.getD q []) := getD_some (by rw [Hx.out.len]; exact hltq)
              have hrr := Hx.out.rect.get (i := q) (by rw [Hx.out.len]; exact hltq)
              have hMq := (HMb.out.new hB.out) q _ hrg
              obtain ⟨b', o', hA, hrow⟩ : ∃ b' o', Ab q = some ⟨b', o', none⟩ ∧ RowAt wr b' o' (bk.getD q []) := by
                rcases hMq.2.2.1 with h0 | h
                · rw [h0] at hrr; simp at hrr; omega
                · exact h
              have hpc := hMq.1
              rw [hA, hrr.1] at hpc
              have Hrow := Lib.hid hrow
              have Hrr := Lib.hid hrr
              have HMx := Lib.hid (HMB5.out.new hB.out)
              have htk := Lib.hid (prodM_take (b := selP parts d) hrg)
              have HG := Lib.hid hG
              have HBr := Lib.hid hB.out
              have hzz : w5.heap.size ≤ wr.heap.size := hB.out.size
              clear hG hB hrg hrr hMq hA hrow
              go_wp2_with fail
              refine (combined_any b' o' (Cb q) gB 0 cgB L d d (bk.getD q []) (selP parts d) _ _ wr Hrr.out.1 HsPl.out Hrow.out HMx.out hcgB HRP.out rfl hd1 (by omega) (by omega) hL1 Hrr.out.2).mono ?_
              rintro e w6 ⟨g, cg, rfl, g1, g2, g3, hblk, hB6⟩
              have Hlk := Lib.hid (show ((prodM bk (selP parts d)).take q).length = q by rw [List.length_take, prodM_length, Hx.out.len]; omega)
              rw [row0_of HRP.out (by rw [HsPl.out]; omega), HsPl.out] at htk
              generalize prTo (bk.getD q []) (selP parts d) L d = pr at *
              have Hblk := Lib.hid hblk
              have HB6 := Lib.hid hB6
              have HGo := Lib.hid ((HG.out.new hB6).outer)
              have Hg2 := Lib.hid g2
              have hz6 := hB6.size
              clear hblk hB6 g2 g3 hpc
              go_wp2_with (at_builtin; refine wpList_append_own _ rfl _ _ 22 rfl w5.heap.size 25 j0 (.slice none 0 0) 1 24 Tryz.underlying22 gi gz0 gz1 gz2 rfl (by decide) _ _ _ rfl (HGo.out.alloc _) ⟨w6.heap.size, 0, none⟩ 1 1 [hv pr.length (g, cg)] rfl rfl ?d1 ?d2 ?d3 ?d4 ?d5 ?_)
              case d1 => exact cell_one_new _ _ _
              case d2 => intro u hu; simp only [List.mem_cons, List.not_mem_nil, or_false] at hu; subst hu; rfl
              case d3 => rw [Hlk.out]; unfold maxLen; omega
              case d4 => rw [Hlk.out]; omega
              case d5 => simp; omega
              intro v' w7 hown hgr _
              have hG7 := HG.out.snoc HB6.out (p := (g, cg)) (r := pr) Hblk.out g1 HBr.out.size Hg2.out (by rw [Hlk.out]; simpa [prodM_length, Hx.out.len, Nat.min_eq_left hq] using hown) (by simpa using hgr)
              rw [← htk.out] at hG7
              have hB7 : Below w5.heap.size w5 w7 := ((HBr.out.trans (HB6.out.mono HBr.out.size)).alloc (by omega) _).grown hgr (by simp; omega) (fun q hq => (owns_block HG.out.outer hq).2.1)
              have HG7 := Lib.hid hG7
              have HB7 := Lib.hid hB7
              clear hown hgr hG7 hB7
              go_wp2_with fail
              go_roundg (d - q - 1)
              case measure => have := Hgq.out; omega
              case rel => exact ⟨q + 1, by have := Hgq.out; omega, by go_num, ⟨_, HG7.out⟩, HB7.out⟩
            · have hkn : (prodM bk (selP parts d)).take q = prodM bk (selP parts d) := List.take_of_length_le (by rw [prodM_length, Hx.out.len]; omega)
              obtain ⟨hd', hG⟩ := hG.out
              rw [hkn] at hG
              obtain ⟨og, hog⟩ : ∃ og, prodM bk (selP parts d) = og := ⟨_, rfl⟩
              have hRo : Rect L og := by rw [← hog]; exact prodM_rect HRP.out (by rw [HsPl.out]; omega)
              have hlo : og.length = d := by rw [← hog, prodM_length, Hx.out.len]
              rw [hog] at hG
              obtain ⟨bO, cO, hvO, hcO, _, hOO⟩ := hG.done (by intro h; rw [h] at hlo; simp at hlo; omega)
              rw [hlo] at hvO hcO
              obtain ⟨w8, rfl⟩ : ∃ w8 : World, w8 = wr := ⟨_, rfl⟩
              subst hvO
              have HMO := Lib.hid hOO.mxAt
              have Hog := Lib.hid hog
              have HRo := Lib.hid hRo
              have Hlo' := Lib.hid hlo
              have HB8 := Lib.hid (HB5.out.trans (hB.out.mono HB5.out.size))
              have HOR8 := Lib.hid (HOR5.out.new hB.out)
              have hz8 := HB8.out.size
              clear hG hkn hB hOO hog hRo hlo
              go_wp2_with fail
              go_loopg [14, 16] parts.length (fun gk v i wr => ∃ q : Nat, q + gk = parts.length ∧ i = .int .i64 q ∧ Hid (∃ hd', GM wr w8.heap.size v hd' ((prodM (rowsM d (parts.length - d)) og).take q)) ∧ Hid (Below w8.heap.size w8 wr))
              case atStart => exact ⟨0, by omega, rfl, ⟨[], GM.nil _ _⟩, Below.refl _ _⟩
              case round =>
                obtain ⟨z, hgz, rfl, hG, hB⟩ := hrel
                have Hgz := Lib.hid hgz
                have hz : z ≤ parts.length := by omega
                clear hgz
                by_cases hltz : z < parts.length
                · obtain ⟨hd2, hG⟩ := hG.out
                  have hrg : (rowsM d (parts.length - d))[z]? = some ((rowsM d (parts.length - d)).getD z []) := getD_some (by rw [HRl.out]; exact hltz)
                  have hrr := (rowsM_rect d (parts.length - d)).get (i := z) (by rw [HRl.out]; exact hltz)
                  obtain ⟨p, hp⟩ : ∃ p, hdR[z]? = some p := ⟨hdR.getD z (0, 0), getD_some (by rw [HOR8.out.len, HRl.out]; exact hltz)⟩
                  have hpc := (HOR8.out.outer.below hB.out HOR8.out.outer.lt).cell (hvs_get hp hrg)
                  obtain ⟨hpb, _, hpl⟩ := HOR8.out.rows _ p _ hp hrg
                  rw [hrr.1] at hpc hpl
                  unfold hv at hpc
                  have Hrow := Lib.hid (hpb.below hB.out hpb.lt).row
                  have Hrr := Lib.hid hrr
                  have HMx := Lib.hid (HMO.out.new hB.out)
                  have htk := Lib.hid (prodM_take (b := og) hrg)
                  have HG := Lib.hid hG
                  have HBr := Lib.hid hB.out
                  have hzz : w8.heap.size ≤ wr.heap.size := hB.out.size
                  clear hG hB hrg hrr hp hpb
                  go_wp2_with fail
                  refine (combined_any p.1 0 p.2 bO 0 cO L d d ((rowsM d (parts.length - d)).getD z []) og _ _ wr Hrr.out.1 Hlo'.out Hrow.out HMx.out hcO HRo.out rfl hd1 (by omega) (by omega) hL1 Hrr.out.2).mono ?_
                  rintro e w6 ⟨g, cg, rfl, g1, g2, g3, hblk, hB6⟩
                  have Hlk := Lib.hid (show ((prodM (rowsM d (parts.length - d)) og).take z).length = z by rw [List.length_take, prodM_length, HRl.out]; omega)
                  rw [row0_of HRo.out (by rw [Hlo'.out]; omega), Hlo'.out] at htk
                  generalize prTo ((rowsM d (parts.length - d)).getD z []) og L d = pr at *
                  have Hblk := Lib.hid hblk
                  have HB6 := Lib.hid hB6
                  have HGo := Lib.hid ((HG.out.new hB6).outer)
                  have Hg2 := Lib.hid g2
                  have hz6 := hB6.size
                  clear hblk hB6 g2 g3 hpc
                  go_wp2_with (at_builtin; refine wpList_append_own _ rfl _ _ 22 rfl w8.heap.size 25 j0 (.slice none 0 0) 1 24 Tryz.underlying22 gi gz0 gz1 gz2 rfl (by decide) _ _ _ rfl (HGo.out.alloc _) ⟨w6.heap.size, 0, none⟩ 1 1 [hv pr.length (g, cg)] rfl rfl ?d1 ?d2 ?d3 ?d4 ?d5 ?_)
                  case d1 => exact cell_one_new _ _ _
                  case d2 => intro u hu; simp only [List.mem_cons, List.not_mem_nil, or_false] at hu; subst hu; rfl
                  case d3 => rw [Hlk.out]; unfold maxLen; omega
                  case d4 => rw [Hlk.out]; omega
                  case d5 => simp; omega
                  intro v' w7 hown hgr _
                  have hG7 := HG.out.snoc HB6.out (p := (g, cg)) (r := pr) Hblk.out g1 HBr.out.size Hg2.out (by rw [Hlk.out]; simpa [prodM_length, HRl.out, Nat.min_eq_left hz] using hown) (by simpa using hgr)
                  rw [← htk.out] at hG7
                  have hB7 : Below w8.heap.size w8 w7 := ((HBr.out.trans (HB6.out.mono HBr.out.size)).alloc (by omega) _).grown hgr (by simp; omega) (fun q hq => (owns_block HG.out.outer hq).2.1)
                  have HG7 := Lib.hid hG7
                  have HB7 := Lib.hid hB7
                  clear hown hgr hG7 hB7
                  go_wp2_with fail
                  go_roundg (parts.length - z - 1)
                  case measure => have := Hgz.out; omega
                  case rel => exact ⟨z + 1, by have := Hgz.out; omega, by go_num, ⟨_, HG7.out⟩, HB7.out⟩
                · have hkn : (prodM (rowsM d (parts.length - d)) og).take z = wholeM parts d := by
                    rw [List.take_of_length_le (by rw [prodM_length, HRl.out]; omega)]
                    unfold wholeM
                    rw [Hbk.out, Hog.out]
                  obtain ⟨hd2, hG⟩ := hG.out
                  rw [hkn] at hG
                  have HG := Lib.hid hG
                  have HBr := Lib.hid hB.out
                  clear hG hkn hB
                  go_wp2_with fail
                  go_ret2
                  exact ⟨_, hd2, by rw [hr.out]; rfl, by rw [hr2.out]; exact HG.out.base hz8, HB8.out.trans (HBr.out.mono hz8)⟩

set_option maxRecDepth 100000 in
set_option maxHeartbeats 2000000 in
theorem rwhole_any (v : Value) (parts : List (List Nat)) (data : Int) (w : World) (hn : parts.length ≤ 1000000000) (hLm : ∀ j, j < parts.length → plen parts j ≤ maxLen) (hBy : BytM parts) (hm : Mx w v parts) (hd1 : -9223372036854775808 ≤ data) (hd2 : data ≤ 9223372036854775807) :
    Calls Tryz.prog 40 #[v, .int .i64 data] w (RowsErr (wRows parts data) (wErr parts data) w) := by
  by_cases hE : parErr parts data = 0
  · obtain ⟨q1, q2, q3, q4⟩ := parErr_in hE
    have hm' := hm
    obtain ⟨a, cap, rfl, hcap, h⟩ := hm
    rcases h with h | ⟨b, o, A, C, rfl, hM⟩
    · rw [h] at q3; simp at q3
    obtain ⟨d, rfl⟩ : ∃ d : Nat, data = d := ⟨data.toNat, by omega⟩
    have e1 : wErr parts d = wholeErr parts d := by unfold wErr; rw [if_pos hE]; rfl
    have e2 : wRows parts d = wholeRows parts d := by unfold wRows; rw [if_pos hE]; rfl
    rw [e1, e2]
    exact rwhole_loop b o cap d parts A C w hM hm' hE hLm hBy
  · have e1 : wErr parts data = parErr parts data := by unfold wErr; rw [if_neg hE]
    have e2 : wRows parts data = [] := by unfold wRows; rw [if_neg hE]
    rw [e1, e2]
    have Hm := Lib.hid hm
    have HLm := Lib.hid hLm
    obtain ⟨pe, hpe⟩ : ∃ pe, parErr parts data = pe := ⟨_, rfl⟩
    have tP : ((pe : Int) != 0) = true := by rw [bne_iff_ne]; rw [hpe] at hE; omega
    have Hpe := Lib.hid hpe
    obtain ⟨a, cap, rfl, hcap, h⟩ := hm
    clear hE e1 e2 hpe h hBy hLm
    go_enter Tryz.func40, Tryz.ntmps40
    go_wp2_with fail
    refine (rCheck54_any _ parts data _ (by omega) HLm.out Hm.out hd1 hd2).mono ?_
    rintro e w1 ⟨rfl, rfl⟩
    rw [Hpe.out]
    go_wp2_with fail
    go_ret2
    exact ⟨.slice none 0 0, [], by rw [Hpe.out]; rfl, GM.nil _ _, Below.refl _ _⟩
end Go.Proofs.YtkclmfppjhmnjaaGreat
