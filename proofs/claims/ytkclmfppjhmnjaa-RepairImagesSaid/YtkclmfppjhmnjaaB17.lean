/- Rows whose headers are opaque: nil rows or rows of the call's own; what the reference's scale and subtract do to them. -/
/- The contract of the reference's reduce: it reduces the two matrices side by side. -/
/- The contract of the reference's reduce. -/
import Derived.Test.YtkclmfppjhmnjaaB16
import Derived.Test.YtkclmfppjhmnjaaB02
import Derived.Deep.DeepCutAuto
import Derived.BigRegion
namespace Go.Proofs.Ytkclmfppjhmnjaa
open Go.RowKit

/-- A row that is nil, or not empty and in a block of the call's own. -/
def RowOwn (w : World) (B : Nat) (v : Value) (s : List Nat) : Prop :=
  (v = .slice none 0 0 ∧ s = []) ∨ (s ≠ [] ∧ ∃ g cap, v = .slice (some ⟨g, 0, none⟩) s.length cap ∧ Blk w g 5 (s.map bv) ∧ B ≤ g ∧ s.length ≤ cap)

theorem RowOwn.kept {w w' : World} {B : Nat} {v : Value} {s : List Nat} {S : Nat → Prop} (h : RowOwn w B v s) (k : Kept S w w') (hS : ∀ g, v.ownBlock = some g → ¬ S g) : RowOwn w' B v s := by
  rcases h with h | ⟨h0, g, cap, rfl, hb, h1, h2⟩
  · exact Or.inl h
  · exact Or.inr ⟨h0, g, cap, rfl, hb.kept k (hS g rfl), h1, h2⟩

theorem RowOwn.block {w : World} {B : Nat} {v : Value} {s : List Nat} (h : RowOwn w B v s) {g : Nat} (hg : v.ownBlock = some g) : Blk w g 5 (s.map bv) ∧ B ≤ g := by
  rcases h with ⟨rfl, _⟩ | ⟨h0, g', cap, rfl, hb, h1, h2⟩
  · simp [Value.ownBlock] at hg
  · simp only [Value.ownBlock, Option.some.injEq] at hg
    subst hg
    exact ⟨hb, h1⟩

theorem Kept.two (w : World) (g i j : Nat) (u v : Value) : Kept (· = g) w ((w.setCell ⟨g, i, none⟩ u).setCell ⟨g, j, none⟩ v) :=
  Kept.setCell (p := ⟨g, j, none⟩) (Kept.setCell (p := ⟨g, i, none⟩) (Kept.refl (fun x => x = g) w) (fun _ => rfl) u) (fun _ => rfl) v

/-- A slice of such rows, in block bo. -/
structure OV (w : World) (B bo : Nat) (vs : List Value) (o : List (List Nat)) : Prop where
  len : vs.length = o.length
  outer : Blk w bo 26 vs
  obase : B ≤ bo
  rows : ∀ (i : Nat) (v : Value) (s : List Nat), vs[i]? = some v → o[i]? = some s → RowOwn w B v s
  inj : ∀ (i j : Nat) (v u : Value) (g : Nat), vs[i]? = some v → vs[j]? = some u → v.ownBlock = some g → u.ownBlock = some g → i = j

theorem OV.row {w : World} {B bo : Nat} {vs : List Value} {o : List (List Nat)} (h : OV w B bo vs o) {i : Nat} {v : Value} (hv : vs[i]? = some v) : ∃ s, o[i]? = some s := by
  have := (List.getElem?_eq_some_iff.1 hv).1
  exact ⟨o[i]'(by rw [← h.len]; exact this), List.getElem?_eq_getElem _⟩

theorem OV.not_outer {w : World} {B bo : Nat} {vs : List Value} {o : List (List Nat)} (h : OV w B bo vs o) {i : Nat} {v : Value} (hv : vs[i]? = some v) : v.ownBlock ≠ some bo := by
  intro e
  obtain ⟨s, hs⟩ := h.row hv
  have := ((h.rows i v s hv hs).block e).1.type h.outer
  exact absurd this (by decide)

theorem OV.kept {w w' : World} {B bo : Nat} {vs : List Value} {o : List (List Nat)} {S : Nat → Prop} (h : OV w B bo vs o) (k : Kept S w w') (hb : ¬ S bo) (hS : ∀ (i : Nat) (v : Value) (g : Nat), vs[i]? = some v → v.ownBlock = some g → ¬ S g) : OV w' B bo vs o :=
  ⟨h.len, h.outer.kept k hb, h.obase, fun i v s hv hs => (h.rows i v s hv hs).kept k fun g hg => hS i v g hv hg, h.inj⟩

theorem OV.setRow {w w' : World} {B bo : Nat} {vs : List Value} {o : List (List Nat)} (h : OV w B bo vs o) {i : Nat} {v : Value} {s' : List Nat} (hv : vs[i]? = some v) (k : Kept (fun g => v.ownBlock = some g) w w') (hr : RowOwn w' B v s') : OV w' B bo vs (o.set i s') := by
  obtain ⟨s, hs⟩ := h.row hv
  have hi := (List.getElem?_eq_some_iff.1 hs).1
  refine ⟨by simpa using h.len, h.outer.kept k (h.not_outer hv), h.obase, ?_, h.inj⟩
  intro j u t hu ht
  by_cases hj : i = j
  · subst hj
    rw [hv] at hu
    simp only [Option.some.injEq] at hu
    subst hu
    rw [List.getElem?_set_self hi] at ht
    simp only [Option.some.injEq] at ht
    subst ht
    exact hr
  · rw [List.getElem?_set_ne hj] at ht
    exact (h.rows j u t hu ht).kept k fun g hg hg' => hj (h.inj i j v u g hv hu hg' hg)

theorem OV.swap {w : World} {B bo : Nat} {vs : List Value} {o : List (List Nat)} (h : OV w B bo vs o) {i j : Nat} {v u : Value} {s t : List Nat} (hv : vs[i]? = some v) (hu : vs[j]? = some u) (hs : o[i]? = some s) (ht : o[j]? = some t) :
    OV ((w.setCell ⟨bo, i, none⟩ u).setCell ⟨bo, j, none⟩ v) B bo ((vs.set i u).set j v) ((o.set i t).set j s) := by
  have i1 := (List.getElem?_eq_some_iff.1 hv).1
  have j1 := (List.getElem?_eq_some_iff.1 hu).1
  have i2 := (List.getElem?_eq_some_iff.1 hs).1
  have j2 := (List.getElem?_eq_some_iff.1 ht).1
  have hk : Kept (· = bo) w ((w.setCell ⟨bo, i, none⟩ u).setCell ⟨bo, j, none⟩ v) := Kept.two _ _ _ _ _ _
  have key : ∀ (c : Nat) (y : Value) (z : List Nat), vs[c]? = some y → o[c]? = some z → RowOwn ((w.setCell ⟨bo, i, none⟩ u).setCell ⟨bo, j, none⟩ v) B y z := fun c y z hy hz =>
    (h.rows c y z hy hz).kept hk fun g hg e => h.not_outer hy (by rw [hg, e])
  refine ⟨by simpa using h.len, (h.outer.setCell i1 _).setCell (by simpa using j1) _, h.obase, ?_, ?_⟩
  · intro a x z hx hz
    rcases swap_get i1 j1 hx with ⟨rfl, rfl⟩ | ⟨a1, rfl, rfl⟩ | ⟨a1, a2, a3⟩
    · rcases swap_get i2 j2 hz with ⟨_, rfl⟩ | ⟨b1, _, _⟩ | ⟨b1, _, _⟩
      · exact key i x z hv hs
      · exact absurd rfl b1
      · exact absurd rfl b1
    · rcases swap_get i2 j2 hz with ⟨b0, _⟩ | ⟨b1, _, rfl⟩ | ⟨b1, b2, _⟩
      · exact absurd b0 a1
      · exact key j x z hu ht
      · exact absurd rfl b2
    · rcases swap_get i2 j2 hz with ⟨b0, _⟩ | ⟨b1, b2, _⟩ | ⟨b1, b2, b3⟩
      · exact absurd b0 a1
      · exact absurd b2 a2
      · exact key a x z a3 b3
  · intro a b x y g hx hy gx gy
    rcases swap_get i1 j1 hx with ⟨rfl, rfl⟩ | ⟨a1, rfl, rfl⟩ | ⟨a1, a2, a3⟩
    · rcases swap_get i1 j1 hy with ⟨rfl, rfl⟩ | ⟨b1, rfl, rfl⟩ | ⟨b1, b2, b3⟩
      · rfl
      · exact (h.inj _ _ _ _ _ hv hu gx gy).symm
      · exact absurd (h.inj _ _ _ _ _ hv b3 gx gy).symm b2
    · rcases swap_get i1 j1 hy with ⟨rfl, rfl⟩ | ⟨b1, rfl, rfl⟩ | ⟨b1, b2, b3⟩
      · exact (h.inj _ _ _ _ _ hu hv gx gy).symm
      · rfl
      · exact absurd (h.inj _ _ _ _ _ hu b3 gx gy).symm b1
    · rcases swap_get i1 j1 hy with ⟨rfl, rfl⟩ | ⟨b1, rfl, rfl⟩ | ⟨b1, b2, b3⟩
      · exact absurd (h.inj _ _ _ _ _ a3 hv gx gy) a2
      · exact absurd (h.inj _ _ _ _ _ a3 hu gx gy) a1
      · exact h.inj _ _ _ _ _ a3 b3 gx gy

/-- The two matrices that the reference's reduce works on. -/
structure RP (w w0 : World) (B bm bo : Nat) (hd : List (Nat × Nat)) (vs : List Value) (m o : List (List Nat)) : Prop where
  om : OM w B bm hd m
  ov : OV w B bo vs o
  nb : bm ≠ bo
  sep : ∀ (i j : Nat) (p : Nat × Nat) (v : Value), hd[i]? = some p → vs[j]? = some v → v.ownBlock ≠ some p.1
  below : Below B w0 w
  sz : B ≤ w0.heap.size

theorem RP.drewN {w w0 : World} {B bm bo : Nat} {hd : List (Nat × Nat)} {vs : List Value} {m o : List (List Nat)} (h : RP w w0 B bm bo hd vs m o) (n : Nat) : RP (w.drewN n) w0 B bm bo hd vs m o :=
  ⟨h.om.kept (S := fun _ => False) ((Kept.refl _ w).drewN n) fun _ _ => id, h.ov.kept (S := fun _ => False) ((Kept.refl _ w).drewN n) id fun _ _ _ _ _ => id, h.nb, h.sep, below_drewN h.below n, h.sz⟩

theorem RP.row_bo {w w0 : World} {B bm bo : Nat} {hd : List (Nat × Nat)} {vs : List Value} {m o : List (List Nat)} (h : RP w w0 B bm bo hd vs m o) {i : Nat} {p : Nat × Nat} (hp : hd[i]? = some p) : p.1 ≠ bo := by
  intro e
  obtain ⟨r, hr⟩ := h.om.row hp
  have h1 := (h.om.rows i p r hp hr).1
  rw [e] at h1
  exact absurd (h1.type h.ov.outer) (by decide)

theorem RP.val_bm {w w0 : World} {B bm bo : Nat} {hd : List (Nat × Nat)} {vs : List Value} {m o : List (List Nat)} (h : RP w w0 B bm bo hd vs m o) {i : Nat} {v : Value} (hv : vs[i]? = some v) : v.ownBlock ≠ some bm := by
  intro e
  obtain ⟨s, hs⟩ := h.ov.row hv
  exact absurd (((h.ov.rows i v s hv hs).block e).1.type h.om.outer) (by decide)

/-- A row of the first matrix has been changed in place. -/
theorem RP.setM {w w' w0 : World} {B bm bo : Nat} {hd : List (Nat × Nat)} {vs : List Value} {m o : List (List Nat)} (h : RP w w0 B bm bo hd vs m o) {i : Nat} {p : Nat × Nat} {r r' : List Nat} (hp : hd[i]? = some p) (hr : m[i]? = some r) (hl : r'.length = r.length)
    (k : Kept (· = p.1) w w') (hb : Blk w' p.1 5 (r'.map bv)) : RP w' w0 B bm bo hd vs (m.set i r') o :=
  ⟨h.om.setRow hp hr hl k hb, h.ov.kept k (fun e => h.row_bo hp e.symm) fun j v g hv hg e => h.sep i j p v hp hv (by rw [hg, e]), h.nb, h.sep,
   h.below.trans (k.below (Nat.le_trans h.sz h.below.size) fun q hq e => by have := (h.om.lt hp).2; omega), h.sz⟩

/-- A row of the second one has. -/
theorem RP.setO {w w' w0 : World} {B bm bo : Nat} {hd : List (Nat × Nat)} {vs : List Value} {m o : List (List Nat)} (h : RP w w0 B bm bo hd vs m o) {i : Nat} {v : Value} {s' : List Nat} (hv : vs[i]? = some v)
    (k : Kept (fun g => v.ownBlock = some g) w w') (hr : RowOwn w' B v s') : RP w' w0 B bm bo hd vs m (o.set i s') :=
  ⟨h.om.kept' k (fun j p hp e => h.sep j i p v hp hv e) (h.val_bm hv), h.ov.setRow hv k hr, h.nb, h.sep,
   h.below.trans (k.below (Nat.le_trans h.sz h.below.size) fun q hq e => by obtain ⟨s, hs⟩ := h.ov.row hv; have := ((h.ov.rows i v s hv hs).block e).2; omega), h.sz⟩

theorem RP.swapMO {w w0 : World} {B bm bo : Nat} {hd : List (Nat × Nat)} {vs : List Value} {m o : List (List Nat)} (h : RP w w0 B bm bo hd vs m o) {i j : Nat} {p q : Nat × Nat} {r s : List Nat} (hp : hd[i]? = some p) (hq : hd[j]? = some q) (hr : m[i]? = some r) (hs : m[j]? = some s) :
    RP ((w.setCell ⟨bm, i, none⟩ (hv s.length q)).setCell ⟨bm, j, none⟩ (hv r.length p)) w0 B bm bo ((hd.set i q).set j p) vs ((m.set i s).set j r) o := by
  have hk : Kept (· = bm) w ((w.setCell ⟨bm, i, none⟩ (hv s.length q)).setCell ⟨bm, j, none⟩ (hv r.length p)) := Kept.two _ _ _ _ _ _
  have i1 := (List.getElem?_eq_some_iff.1 hp).1
  have j1 := (List.getElem?_eq_some_iff.1 hq).1
  refine ⟨h.om.swap hp hq hr hs, h.ov.kept hk (fun e => h.nb e.symm) fun a v g hv hg e => h.val_bm hv (by rw [hg, e]), h.nb, ?_, h.below.trans (hk.below (Nat.le_trans h.sz h.below.size) fun a ha e => by have := h.om.obase; omega), h.sz⟩
  intro a b x v hx hv
  rcases swap_get i1 j1 hx with ⟨rfl, rfl⟩ | ⟨a1, rfl, rfl⟩ | ⟨a1, a2, a3⟩
  · exact h.sep i b _ v hp hv
  · exact h.sep j b _ v hq hv
  · exact h.sep a b _ v a3 hv

theorem RP.swapOO {w w0 : World} {B bm bo : Nat} {hd : List (Nat × Nat)} {vs : List Value} {m o : List (List Nat)} (h : RP w w0 B bm bo hd vs m o) {i j : Nat} {v u : Value} {s t : List Nat} (hv : vs[i]? = some v) (hu : vs[j]? = some u) (hs : o[i]? = some s) (ht : o[j]? = some t) :
    RP ((w.setCell ⟨bo, i, none⟩ u).setCell ⟨bo, j, none⟩ v) w0 B bm bo hd ((vs.set i u).set j v) m ((o.set i t).set j s) := by
  have hk : Kept (· = bo) w ((w.setCell ⟨bo, i, none⟩ u).setCell ⟨bo, j, none⟩ v) := Kept.two _ _ _ _ _ _
  have i1 := (List.getElem?_eq_some_iff.1 hv).1
  have j1 := (List.getElem?_eq_some_iff.1 hu).1
  refine ⟨h.om.kept' hk (fun a p hp e => h.row_bo hp e) (fun e => h.nb e), h.ov.swap hv hu hs ht, h.nb, ?_, h.below.trans (hk.below (Nat.le_trans h.sz h.below.size) fun a ha e => by have := h.ov.obase; omega), h.sz⟩
  intro a b x y hx hy
  rcases swap_get i1 j1 hy with ⟨rfl, rfl⟩ | ⟨a1, rfl, rfl⟩ | ⟨a1, a2, a3⟩
  · exact h.sep a i x _ hx hv
  · exact h.sep a j x _ hx hu
  · exact h.sep a b x _ hx a3

end Go.Proofs.Ytkclmfppjhmnjaa

namespace Go.Proofs.Ytkclmfppjhmnjaa
open Go.RowKit

structure RS (wr w0 : World) (B bm bo n k N : Nat) (hd : List (Nat × Nat)) (vs : List Value) (M O : List (List Nat)) : Prop where
  rp : RP wr w0 B bm bo hd vs M O
  rm : Rect n M
  ro : Rect k O
  lm : M.length = N
  lo : O.length = N

theorem RS.drewN {wr w0 : World} {B bm bo n k N : Nat} {hd : List (Nat × Nat)} {vs : List Value} {M O : List (List Nat)} (h : RS wr w0 B bm bo n k N hd vs M O) (q : Nat) : RS (wr.drewN q) w0 B bm bo n k N hd vs M O :=
  ⟨h.rp.drewN q, h.rm, h.ro, h.lm, h.lo⟩

theorem RS.atM {wr w0 : World} {B bm bo n k N : Nat} {hd : List (Nat × Nat)} {vs : List Value} {M O : List (List Nat)} (h : RS wr w0 B bm bo n k N hd vs M O) {i : Nat} (hi : i < N) :
    ∃ g cg, hd[i]? = some (g, cg) ∧ M[i]? = some (M.getD i []) ∧ wr.cell? ⟨bm, i, none⟩ = some (.slice (some ⟨g, 0, none⟩) n cg) ∧ Blk wr g 5 ((M.getD i []).map bv) ∧ (M.getD i []).length = n ∧ Byt (M.getD i []) ∧ wr.frozen? ⟨bm, i, none⟩ = false := by
  have hi' : i < M.length := by rw [h.lm]; exact hi
  obtain ⟨⟨g, cg⟩, h1, h2, h3, h4, h5, h6, h7⟩ := h.rp.om.at h.rm hi'
  have := h.rm.get hi'
  exact ⟨g, cg, h1, h3, h4, h5, this.1, this.2, h.rp.om.outer.frozen i⟩

theorem RowOwn.form {w : World} {B : Nat} {v : Value} {s : List Nat} (h : RowOwn w B v s) : ∃ a c, v = .slice a s.length c := by
  rcases h with ⟨rfl, rfl⟩ | ⟨_, g, cap, rfl, _⟩
  · exact ⟨none, 0, rfl⟩
  · exact ⟨_, cap, rfl⟩

theorem RS.atO {wr w0 : World} {B bm bo n k N : Nat} {hd : List (Nat × Nat)} {vs : List Value} {M O : List (List Nat)} (h : RS wr w0 B bm bo n k N hd vs M O) {i : Nat} (hi : i < N) :
    ∃ a c, vs[i]? = some (.slice a k c) ∧ O[i]? = some (O.getD i []) ∧ wr.cell? ⟨bo, i, none⟩ = some (.slice a k c) ∧ RowOwn wr B (.slice a k c) (O.getD i []) ∧ (O.getD i []).length = k ∧ Byt (O.getD i []) ∧ wr.frozen? ⟨bo, i, none⟩ = false := by
  have hi' : i < O.length := by rw [h.lo]; exact hi
  have h2 : O[i]? = some (O.getD i []) := getD_some hi'
  have hv0 : i < vs.length := by rw [h.rp.ov.len]; exact hi'
  have h1 : vs[i]? = some vs[i] := List.getElem?_eq_getElem hv0
  have h3 := h.rp.ov.rows i _ _ h1 h2
  obtain ⟨a, c, hv⟩ := h3.form
  have hl := h.ro.get hi'
  rw [hl.1] at hv
  rw [hv] at h1 h3
  exact ⟨a, c, h1, h2, h.rp.ov.outer.cell h1, h3, hl.1, hl.2, h.rp.ov.outer.frozen i⟩

theorem RS.swapM {wr w0 : World} {B bm bo n k N : Nat} {hd : List (Nat × Nat)} {vs : List Value} {M O : List (List Nat)} (h : RS wr w0 B bm bo n k N hd vs M O) {i j : Nat} (hi : i < N) (hj : j < N) {g cg g' cg' : Nat} (hp : hd[i]? = some (g, cg)) (hq : hd[j]? = some (g', cg')) :
    RS ((wr.setCell ⟨bm, i, none⟩ (.slice (some ⟨g', 0, none⟩) n cg')).setCell ⟨bm, j, none⟩ (.slice (some ⟨g, 0, none⟩) n cg)) w0 B bm bo n k N ((hd.set i (g', cg')).set j (g, cg)) vs (swapM M i j) O := by
  have hi' : i < M.length := by rw [h.lm]; exact hi
  have hj' : j < M.length := by rw [h.lm]; exact hj
  have key := h.rp.swapMO hp hq (getD_some (d := []) hi') (getD_some (d := []) hj')
  rw [(h.rm.get hi').1, (h.rm.get hj').1] at key
  exact ⟨key, swapM_rect h.rm hi' hj', h.ro, by rw [swapM_length]; exact h.lm, h.lo⟩

theorem RS.swapO {wr w0 : World} {B bm bo n k N : Nat} {hd : List (Nat × Nat)} {vs : List Value} {M O : List (List Nat)} (h : RS wr w0 B bm bo n k N hd vs M O) {i j : Nat} (hi : i < N) (hj : j < N) {v u : Value} (hp : vs[i]? = some v) (hq : vs[j]? = some u) :
    RS ((wr.setCell ⟨bo, i, none⟩ u).setCell ⟨bo, j, none⟩ v) w0 B bm bo n k N hd ((vs.set i u).set j v) M (Go.Proofs.Ytkclmfppjhmnjaa.swapM O i j) := by
  have hi' : i < O.length := by rw [h.lo]; exact hi
  have hj' : j < O.length := by rw [h.lo]; exact hj
  have key := h.rp.swapOO hp hq (getD_some (d := []) hi') (getD_some (d := []) hj')
  exact ⟨key, h.rm, swapM_rect h.ro hi' hj', h.lm, by rw [swapM_length]; exact h.lo⟩

theorem scaleRow_byt (x : Nat) (r : List Nat) : Byt (scaleRow x r) := fun y hy => by
  obtain ⟨t, _, rfl⟩ := List.mem_map.1 hy
  exact Gf.gm_lt _ _

/-- What holds at the head of the loop over the columns. -/
def RC (wr w0 : World) (B bm bo n k N c : Nat) (Z : List (List Nat)) : Prop := ∃ hd vs M O, RS wr w0 B bm bo n k N hd vs M O ∧ zip2 M O = (redTo Z c).1

def ReduceRet (w w' : World) (e : Ending) (B bm bo n k N : Nat) (Z : List (List Nat)) : Prop := e = .returned (.int .i64 (redTo Z n).2) ∧ RC w' w B bm bo n k N n Z
end Go.Proofs.Ytkclmfppjhmnjaa

namespace Go.Proofs.Ytkclmfppjhmnjaa
open Go.RowKit

end Go.Proofs.Ytkclmfppjhmnjaa
