/- Rows whose headers are opaque: nil rows or rows of the call's own; what the reference's scale and subtract do to them. -/
/- The contract of the reference's reduce: it reduces the two matrices side by side. -/
/- The contract of the reference's reduce. -/
import Derived.Test.YtkclmfppjhmnjaaGreatB16
import Derived.Test.YtkclmfppjhmnjaaGreatB02
import Derived.Deep.DeepCutAuto
import Derived.BigRegion
namespace Go.Proofs.YtkclmfppjhmnjaaGreat
open Go.RowKit

/-- A row that is nil, or not empty and in a block of the call's own. -/
def RowOwn (w : World) (B : Nat) (v : Value) (s : List Nat) : Prop :=
  (v = .slice none 0 0 ∧ s = []) ∨ (s ≠ [] ∧ ∃ g cap, v = .slice (some ⟨g, 0, none⟩) s.length cap ∧ Blk w g 5 (s.map bv) ∧ B ≤ g ∧ s.length ≤ cap)

theorem RowOwn.kept {w w' : World} {B : Nat} {v : Value} {s : List Nat} {S : Nat → Prop} (h : RowOwn w B v s) (k : Kept S w w') (hS : ∀ g, v.ownBlock = some g → ¬ S g) : RowOwn w' B v s := by
  rcases h with h | ⟨h0, g, cap, rfl, hb, h1, h2⟩
  · exact Or.inl h
  · exact Or.inr ⟨h0, g, cap, rfl, hb.kept k (hS g rfl), h1, h2⟩

theorem RowOwn.block {w : World} {B : Nat} {v : Value} {s : List Nat} (h : RowOwn w B v s) {g : Nat} (hg : v.ownBlock = some g) : Blk w g 5 (s.map bv) ∧ B ≤ g := by
  rcases h with ⟨rfl, _⟩ | ⟨h0, g', cap, rfl, hb, h1, h2⟩
  · simp [Value.ownBlock] at hg
  · simp only [Value.ownBlock, Option.some.injEq] at hg
    subst hg
    exact ⟨hb, h1⟩

theorem rscale_v {w : World} {B x : Nat} {v : Value} {s : List Nat} (h : RowOwn w B v s) (hs : Byt s) (hn : s.length ≤ 1000000000) (hx : x < 256) :
    Calls Tryz.prog 102 #[v, .int .u8 x] w fun e w' => e = .returned (.tuple #[]) ∧ Kept (fun g => v.ownBlock = some g) w w' ∧ RowOwn w' B v (scaleRow x s) := by
  rcases h with ⟨rfl, rfl⟩ | ⟨h0, g, cap, rfl, hb, h1, h2⟩
  · refine (rscale_nil x w).mono ?_
    rintro e w' ⟨rfl, rfl⟩
    exact ⟨rfl, Kept.refl _ _, Or.inl ⟨rfl, rfl⟩⟩
  · refine (rscale_any g cap s.length x s w rfl hn hx hs hb).mono ?_
    rintro e w' ⟨rfl, hk, hb'⟩
    refine ⟨rfl, hk.mono fun k _ hk => by rw [hk]; rfl, Or.inr ⟨?_, g, cap, by rw [scaleRow_length], hb', h1, by rw [scaleRow_length]; exact h2⟩⟩
    intro e
    have := congrArg List.length e
    rw [scaleRow_length] at this
    exact h0 (List.length_eq_zero_iff.1 this)

theorem rsubtract_v {w : World} {B y : Nat} {vr vf : Value} {sr sf : List Nat} (hr : RowOwn w B vr sr) (hf : RowOwn w B vf sf) (hrB : Byt sr) (hfB : Byt sf) (hl : sf.length = sr.length) (hn : sr.length ≤ 1000000000) (hy : y < 256)
    (hne : ∀ g, vr.ownBlock = some g → vf.ownBlock ≠ some g) :
    Calls Tryz.prog 103 #[vr, vf, .int .u8 y] w fun e w' => e = .returned (.tuple #[]) ∧ Kept (fun g => vf.ownBlock = some g) w w' ∧ RowOwn w' B vf (addMul y sf sr) := by
  rcases hr with ⟨rfl, rfl⟩ | ⟨h0, g, cap, rfl, hb, h1, h2⟩
  · rcases hf with ⟨rfl, rfl⟩ | ⟨k0, g', cap', rfl, kb, k1, k2⟩
    · refine (rsubtract_nil y w).mono ?_
      rintro e w' ⟨rfl, rfl⟩
      exact ⟨rfl, Kept.refl _ _, Or.inl ⟨rfl, rfl⟩⟩
    · exact absurd (List.length_eq_zero_iff.1 hl) k0
  · rcases hf with ⟨rfl, rfl⟩ | ⟨k0, g', cap', rfl, kb, k1, k2⟩
    · exact absurd (List.length_eq_zero_iff.1 hl.symm) h0
    · have hgg : g ≠ g' := fun e => hne g rfl (by rw [e]; rfl)
      have key := rsubtract_any g' cap' g 0 cap y sr.length sf sr w hl rfl hn hy hfB hrB kb hb.row hgg
      rw [hl]
      refine key.mono ?_
      rintro e w' ⟨rfl, hk, hb'⟩
      refine ⟨rfl, hk.mono fun k _ hk => by rw [hk]; rfl, Or.inr ⟨?_, g', cap', by rw [addMul_length, hl, Nat.min_self], hb', k1, by rw [addMul_length]; omega⟩⟩
      intro e
      have := congrArg List.length e
      rw [addMul_length, hl, Nat.min_self] at this
      exact h0 (List.length_eq_zero_iff.1 this)

theorem Kept.two (w : World) (g i j : Nat) (u v : Value) : Kept (· = g) w ((w.setCell ⟨g, i, none⟩ u).setCell ⟨g, j, none⟩ v) :=
  Kept.setCell (p := ⟨g, j, none⟩) (Kept.setCell (p := ⟨g, i, none⟩) (Kept.refl (fun x => x = g) w) (fun _ => rfl) u) (fun _ => rfl) v

/-- A slice of such rows, in block bo. -/
structure OV (w : World) (B bo : Nat) (vs : List Value) (o : List (List Nat)) : Prop where
  len : vs.length = o.length
  outer : Blk w bo 25 vs
  obase : B ≤ bo
  rows : ∀ (i : Nat) (v : Value) (s : List Nat), vs[i]? = some v → o[i]? = some s → RowOwn w B v s
  inj : ∀ (i j : Nat) (v u : Value) (g : Nat), vs[i]? = some v → vs[j]? = some u → v.ownBlock = some g → u.ownBlock = some g → i = j

theorem OV.row {w : World} {B bo : Nat} {vs : List Value} {o : List (List Nat)} (h : OV w B bo vs o) {i : Nat} {v : Value} (hv : vs[i]? = some v) : ∃ s, o[i]? = some s := by
  have := (List.getElem?_eq_some_iff.1 hv).1
  exact ⟨o[i]'(by rw [← h.len]; exact this), List.getElem?_eq_getElem _⟩

theorem OV.not_outer {w : World} {B bo : Nat} {vs : List Value} {o : List (List Nat)} (h : OV w B bo vs o) {i : Nat} {v : Value} (hv : vs[i]? = some v) : v.ownBlock ≠ some bo := by
  intro e
  obtain ⟨s, hs⟩ := h.row hv
  have := ((h.rows i v s hv hs).block e).1.type h.outer
  exact absurd this (by decide)

theorem OV.kept {w w' : World} {B bo : Nat} {vs : List Value} {o : List (List Nat)} {S : Nat → Prop} (h : OV w B bo vs o) (k : Kept S w w') (hb : ¬ S bo) (hS : ∀ (i : Nat) (v : Value) (g : Nat), vs[i]? = some v → v.ownBlock = some g → ¬ S g) : OV w' B bo vs o :=
  ⟨h.len, h.outer.kept k hb, h.obase, fun i v s hv hs => (h.rows i v s hv hs).kept k fun g hg => hS i v g hv hg, h.inj⟩

theorem OV.setRow {w w' : World} {B bo : Nat} {vs : List Value} {o : List (List Nat)} (h : OV w B bo vs o) {i : Nat} {v : Value} {s' : List Nat} (hv : vs[i]? = some v) (k : Kept (fun g => v.ownBlock = some g) w w') (hr : RowOwn w' B v s') : OV w' B bo vs (o.set i s') := by
  obtain ⟨s, hs⟩ := h.row hv
  have hi := (List.getElem?_eq_some_iff.1 hs).1
  refine ⟨by simpa using h.len, h.outer.kept k (h.not_outer hv), h.obase, ?_, h.inj⟩
  intro j u t hu ht
  by_cases hj : i = j
  · subst hj
    rw [hv] at hu
    simp only [Option.some.injEq] at hu
    subst hu
    rw [List.getElem?_set_self hi] at ht
    simp only [Option.some.injEq] at ht
    subst ht
    exact hr
  · rw [List.getElem?_set_ne hj] at ht
    exact (h.rows j u t hu ht).kept k fun g hg hg' => hj (h.inj i j v u g hv hu hg' hg)

theorem OV.swap {w : World} {B bo : Nat} {vs : List Value} {o : List (List Nat)} (h : OV w B bo vs o) {i j : Nat} {v u : Value} {s t : List Nat} (hv : vs[i]? = some v) (hu : vs[j]? = some u) (hs : o[i]? = some s) (ht : o[j]? = some t) :
    OV ((w.setCell ⟨bo, i, none⟩ u).setCell ⟨bo, j, none⟩ v) B bo ((vs.set i u).set j v) ((o.set i t).set j s) := by
  have i1 := (List.getElem?_eq_some_iff.1 hv).1
  have j1 := (List.getElem?_eq_some_iff.1 hu).1
  have i2 := (List.getElem?_eq_some_iff.1 hs).1
  have j2 := (List.getElem?_eq_some_iff.1 ht).1
  have hk : Kept (· = bo) w ((w.setCell ⟨bo, i, none⟩ u).setCell ⟨bo, j, none⟩ v) := Kept.two _ _ _ _ _ _
  have key : ∀ (c : Nat) (y : Value) (z : List Nat), vs[c]? = some y → o[c]? = some z → RowOwn ((w.setCell ⟨bo, i, none⟩ u).setCell ⟨bo, j, none⟩ v) B y z := fun c y z hy hz =>
    (h.rows c y z hy hz).kept hk fun g hg e => h.not_outer hy (by rw [hg, e])
  refine ⟨by simpa using h.len, (h.outer.setCell i1 _).setCell (by simpa using j1) _, h.obase, ?_, ?_⟩
  · intro a x z hx hz
    rcases swap_get i1 j1 hx with ⟨rfl, rfl⟩ | ⟨a1, rfl, rfl⟩ | ⟨a1, a2, a3⟩
    · rcases swap_get i2 j2 hz with ⟨_, rfl⟩ | ⟨b1, _, _⟩ | ⟨b1, _, _⟩
      · exact key i x z hv hs
      · exact absurd rfl b1
      · exact absurd rfl b1
    · rcases swap_get i2 j2 hz with ⟨b0, _⟩ | ⟨b1, _, rfl⟩ | ⟨b1, b2, _⟩
      · exact absurd b0 a1
      · exact key j x z hu ht
      · exact absurd rfl b2
    · rcases swap_get i2 j2 hz with ⟨b0, _⟩ | ⟨b1, b2, _⟩ | ⟨b1, b2, b3⟩
      · exact absurd b0 a1
      · exact absurd b2 a2
      · exact key a x z a3 b3
  · intro a b x y g hx hy gx gy
    rcases swap_get i1 j1 hx with ⟨rfl, rfl⟩ | ⟨a1, rfl, rfl⟩ | ⟨a1, a2, a3⟩
    · rcases swap_get i1 j1 hy with ⟨rfl, rfl⟩ | ⟨b1, rfl, rfl⟩ | ⟨b1, b2, b3⟩
      · rfl
      · exact (h.inj _ _ _ _ _ hv hu gx gy).symm
      · exact absurd (h.inj _ _ _ _ _ hv b3 gx gy).symm b2
    · rcases swap_get i1 j1 hy with ⟨rfl, rfl⟩ | ⟨b1, rfl, rfl⟩ | ⟨b1, b2, b3⟩
      · exact (h.inj _ _ _ _ _ hu hv gx gy).symm
      · rfl
      · exact absurd (h.inj _ _ _ _ _ hu b3 gx gy).symm b1
    · rcases swap_get i1 j1 hy with ⟨rfl, rfl⟩ | ⟨b1, rfl, rfl⟩ | ⟨b1, b2, b3⟩
      · exact absurd (h.inj _ _ _ _ _ a3 hv gx gy) a2
      · exact absurd (h.inj _ _ _ _ _ a3 hu gx gy) a1
      · exact h.inj _ _ _ _ _ a3 b3 gx gy

/-- The two matrices that the reference's reduce works on. -/
structure RP (w w0 : World) (B bm bo : Nat) (hd : List (Nat × Nat)) (vs : List Value) (m o : List (List Nat)) : Prop where
  om : OM w B bm hd m
  ov : OV w B bo vs o
  nb : bm ≠ bo
  sep : ∀ (i j : Nat) (p : Nat × Nat) (v : Value), hd[i]? = some p → vs[j]? = some v → v.ownBlock ≠ some p.1
  below : Below B w0 w
  sz : B ≤ w0.heap.size

theorem RP.drewN {w w0 : World} {B bm bo : Nat} {hd : List (Nat × Nat)} {vs : List Value} {m o : List (List Nat)} (h : RP w w0 B bm bo hd vs m o) (n : Nat) : RP (w.drewN n) w0 B bm bo hd vs m o :=
  ⟨h.om.kept (S := fun _ => False) ((Kept.refl _ w).drewN n) fun _ _ => id, h.ov.kept (S := fun _ => False) ((Kept.refl _ w).drewN n) id fun _ _ _ _ _ => id, h.nb, h.sep, below_drewN h.below n, h.sz⟩

theorem RP.row_bo {w w0 : World} {B bm bo : Nat} {hd : List (Nat × Nat)} {vs : List Value} {m o : List (List Nat)} (h : RP w w0 B bm bo hd vs m o) {i : Nat} {p : Nat × Nat} (hp : hd[i]? = some p) : p.1 ≠ bo := by
  intro e
  obtain ⟨r, hr⟩ := h.om.row hp
  have h1 := (h.om.rows i p r hp hr).1
  rw [e] at h1
  exact absurd (h1.type h.ov.outer) (by decide)

theorem RP.val_bm {w w0 : World} {B bm bo : Nat} {hd : List (Nat × Nat)} {vs : List Value} {m o : List (List Nat)} (h : RP w w0 B bm bo hd vs m o) {i : Nat} {v : Value} (hv : vs[i]? = some v) : v.ownBlock ≠ some bm := by
  intro e
  obtain ⟨s, hs⟩ := h.ov.row hv
  exact absurd (((h.ov.rows i v s hv hs).block e).1.type h.om.outer) (by decide)

/-- A row of the first matrix has been changed in place. -/
theorem RP.setM {w w' w0 : World} {B bm bo : Nat} {hd : List (Nat × Nat)} {vs : List Value} {m o : List (List Nat)} (h : RP w w0 B bm bo hd vs m o) {i : Nat} {p : Nat × Nat} {r r' : List Nat} (hp : hd[i]? = some p) (hr : m[i]? = some r) (hl : r'.length = r.length)
    (k : Kept (· = p.1) w w') (hb : Blk w' p.1 5 (r'.map bv)) : RP w' w0 B bm bo hd vs (m.set i r') o :=
  ⟨h.om.setRow hp hr hl k hb, h.ov.kept k (fun e => h.row_bo hp e.symm) fun j v g hv hg e => h.sep i j p v hp hv (by rw [hg, e]), h.nb, h.sep,
   h.below.trans (k.below (Nat.le_trans h.sz h.below.size) fun q hq e => by have := (h.om.lt hp).2; omega), h.sz⟩

/-- A row of the second one has. -/
theorem RP.setO {w w' w0 : World} {B bm bo : Nat} {hd : List (Nat × Nat)} {vs : List Value} {m o : List (List Nat)} (h : RP w w0 B bm bo hd vs m o) {i : Nat} {v : Value} {s' : List Nat} (hv : vs[i]? = some v)
    (k : Kept (fun g => v.ownBlock = some g) w w') (hr : RowOwn w' B v s') : RP w' w0 B bm bo hd vs m (o.set i s') :=
  ⟨h.om.kept' k (fun j p hp e => h.sep j i p v hp hv e) (h.val_bm hv), h.ov.setRow hv k hr, h.nb, h.sep,
   h.below.trans (k.below (Nat.le_trans h.sz h.below.size) fun q hq e => by obtain ⟨s, hs⟩ := h.ov.row hv; have := ((h.ov.rows i v s hv hs).block e).2; omega), h.sz⟩

theorem RP.swapMO {w w0 : World} {B bm bo : Nat} {hd : List (Nat × Nat)} {vs : List Value} {m o : List (List Nat)} (h : RP w w0 B bm bo hd vs m o) {i j : Nat} {p q : Nat × Nat} {r s : List Nat} (hp : hd[i]? = some p) (hq : hd[j]? = some q) (hr : m[i]? = some r) (hs : m[j]? = some s) :
    RP ((w.setCell ⟨bm, i, none⟩ (hv s.length q)).setCell ⟨bm, j, none⟩ (hv r.length p)) w0 B bm bo ((hd.set i q).set j p) vs ((m.set i s).set j r) o := by
  have hk : Kept (· = bm) w ((w.setCell ⟨bm, i, none⟩ (hv s.length q)).setCell ⟨bm, j, none⟩ (hv r.length p)) := Kept.two _ _ _ _ _ _
  have i1 := (List.getElem?_eq_some_iff.1 hp).1
  have j1 := (List.getElem?_eq_some_iff.1 hq).1
  refine ⟨h.om.swap hp hq hr hs, h.ov.kept hk (fun e => h.nb e.symm) fun a v g hv hg e => h.val_bm hv (by rw [hg, e]), h.nb, ?_, h.below.trans (hk.below (Nat.le_trans h.sz h.below.size) fun a ha e => by have := h.om.obase; omega), h.sz⟩
  intro a b x v hx hv
  rcases swap_get i1 j1 hx with ⟨rfl, rfl⟩ | ⟨a1, rfl, rfl⟩ | ⟨a1, a2, a3⟩
  · exact h.sep i b _ v hp hv
  · exact h.sep j b _ v hq hv
  · exact h.sep a b _ v a3 hv

theorem RP.swapOO {w w0 : World} {B bm bo : Nat} {hd : List (Nat × Nat)} {vs : List Value} {m o : List (List Nat)} (h : RP w w0 B bm bo hd vs m o) {i j : Nat} {v u : Value} {s t : List Nat} (hv : vs[i]? = some v) (hu : vs[j]? = some u) (hs : o[i]? = some s) (ht : o[j]? = some t) :
    RP ((w.setCell ⟨bo, i, none⟩ u).setCell ⟨bo, j, none⟩ v) w0 B bm bo hd ((vs.set i u).set j v) m ((o.set i t).set j s) := by
  have hk : Kept (· = bo) w ((w.setCell ⟨bo, i, none⟩ u).setCell ⟨bo, j, none⟩ v) := Kept.two _ _ _ _ _ _
  have i1 := (List.getElem?_eq_some_iff.1 hv).1
  have j1 := (List.getElem?_eq_some_iff.1 hu).1
  refine ⟨h.om.kept' hk (fun a p hp e => h.row_bo hp e) (fun e => h.nb e), h.ov.swap hv hu hs ht, h.nb, ?_, h.below.trans (hk.below (Nat.le_trans h.sz h.below.size) fun a ha e => by have := h.ov.obase; omega), h.sz⟩
  intro a b x y hx hy
  rcases swap_get i1 j1 hy with ⟨rfl, rfl⟩ | ⟨a1, rfl, rfl⟩ | ⟨a1, a2, a3⟩
  · exact h.sep a i x _ hx hv
  · exact h.sep a j x _ hx hu
  · exact h.sep a b x _ hx a3

end Go.Proofs.YtkclmfppjhmnjaaGreat

namespace Go.Proofs.YtkclmfppjhmnjaaGreat
open Go.RowKit

structure RS (wr w0 : World) (B bm bo n k N : Nat) (hd : List (Nat × Nat)) (vs : List Value) (M O : List (List Nat)) : Prop where
  rp : RP wr w0 B bm bo hd vs M O
  rm : Rect n M
  ro : Rect k O
  lm : M.length = N
  lo : O.length = N

theorem RS.drewN {wr w0 : World} {B bm bo n k N : Nat} {hd : List (Nat × Nat)} {vs : List Value} {M O : List (List Nat)} (h : RS wr w0 B bm bo n k N hd vs M O) (q : Nat) : RS (wr.drewN q) w0 B bm bo n k N hd vs M O :=
  ⟨h.rp.drewN q, h.rm, h.ro, h.lm, h.lo⟩

theorem RS.atM {wr w0 : World} {B bm bo n k N : Nat} {hd : List (Nat × Nat)} {vs : List Value} {M O : List (List Nat)} (h : RS wr w0 B bm bo n k N hd vs M O) {i : Nat} (hi : i < N) :
    ∃ g cg, hd[i]? = some (g, cg) ∧ M[i]? = some (M.getD i []) ∧ wr.cell? ⟨bm, i, none⟩ = some (.slice (some ⟨g, 0, none⟩) n cg) ∧ Blk wr g 5 ((M.getD i []).map bv) ∧ (M.getD i []).length = n ∧ Byt (M.getD i []) ∧ wr.frozen? ⟨bm, i, none⟩ = false := by
  have hi' : i < M.length := by rw [h.lm]; exact hi
  obtain ⟨⟨g, cg⟩, h1, h2, h3, h4, h5, h6, h7⟩ := h.rp.om.at h.rm hi'
  have := h.rm.get hi'
  exact ⟨g, cg, h1, h3, h4, h5, this.1, this.2, h.rp.om.outer.frozen i⟩

theorem RowOwn.form {w : World} {B : Nat} {v : Value} {s : List Nat} (h : RowOwn w B v s) : ∃ a c, v = .slice a s.length c := by
  rcases h with ⟨rfl, rfl⟩ | ⟨_, g, cap, rfl, _⟩
  · exact ⟨none, 0, rfl⟩
  · exact ⟨_, cap, rfl⟩

theorem RS.atO {wr w0 : World} {B bm bo n k N : Nat} {hd : List (Nat × Nat)} {vs : List Value} {M O : List (List Nat)} (h : RS wr w0 B bm bo n k N hd vs M O) {i : Nat} (hi : i < N) :
    ∃ a c, vs[i]? = some (.slice a k c) ∧ O[i]? = some (O.getD i []) ∧ wr.cell? ⟨bo, i, none⟩ = some (.slice a k c) ∧ RowOwn wr B (.slice a k c) (O.getD i []) ∧ (O.getD i []).length = k ∧ Byt (O.getD i []) ∧ wr.frozen? ⟨bo, i, none⟩ = false := by
  have hi' : i < O.length := by rw [h.lo]; exact hi
  have h2 : O[i]? = some (O.getD i []) := getD_some hi'
  have hv0 : i < vs.length := by rw [h.rp.ov.len]; exact hi'
  have h1 : vs[i]? = some vs[i] := List.getElem?_eq_getElem hv0
  have h3 := h.rp.ov.rows i _ _ h1 h2
  obtain ⟨a, c, hv⟩ := h3.form
  have hl := h.ro.get hi'
  rw [hl.1] at hv
  rw [hv] at h1 h3
  exact ⟨a, c, h1, h2, h.rp.ov.outer.cell h1, h3, hl.1, hl.2, h.rp.ov.outer.frozen i⟩

theorem RS.swapM {wr w0 : World} {B bm bo n k N : Nat} {hd : List (Nat × Nat)} {vs : List Value} {M O : List (List Nat)} (h : RS wr w0 B bm bo n k N hd vs M O) {i j : Nat} (hi : i < N) (hj : j < N) {g cg g' cg' : Nat} (hp : hd[i]? = some (g, cg)) (hq : hd[j]? = some (g', cg')) :
    RS ((wr.setCell ⟨bm, i, none⟩ (.slice (some ⟨g', 0, none⟩) n cg')).setCell ⟨bm, j, none⟩ (.slice (some ⟨g, 0, none⟩) n cg)) w0 B bm bo n k N ((hd.set i (g', cg')).set j (g, cg)) vs (swapM M i j) O := by
  have hi' : i < M.length := by rw [h.lm]; exact hi
  have hj' : j < M.length := by rw [h.lm]; exact hj
  have key := h.rp.swapMO hp hq (getD_some (d := []) hi') (getD_some (d := []) hj')
  rw [(h.rm.get hi').1, (h.rm.get hj').1] at key
  exact ⟨key, swapM_rect h.rm hi' hj', h.ro, by rw [swapM_length]; exact h.lm, h.lo⟩

theorem RS.swapO {wr w0 : World} {B bm bo n k N : Nat} {hd : List (Nat × Nat)} {vs : List Value} {M O : List (List Nat)} (h : RS wr w0 B bm bo n k N hd vs M O) {i j : Nat} (hi : i < N) (hj : j < N) {v u : Value} (hp : vs[i]? = some v) (hq : vs[j]? = some u) :
    RS ((wr.setCell ⟨bo, i, none⟩ u).setCell ⟨bo, j, none⟩ v) w0 B bm bo n k N hd ((vs.set i u).set j v) M (Go.Proofs.YtkclmfppjhmnjaaGreat.swapM O i j) := by
  have hi' : i < O.length := by rw [h.lo]; exact hi
  have hj' : j < O.length := by rw [h.lo]; exact hj
  have key := h.rp.swapOO hp hq (getD_some (d := []) hi') (getD_some (d := []) hj')
  exact ⟨key, h.rm, swapM_rect h.ro hi' hj', h.lm, by rw [swapM_length]; exact h.lo⟩

theorem scaleRow_byt (x : Nat) (r : List Nat) : Byt (scaleRow x r) := fun y hy => by
  obtain ⟨t, _, rfl⟩ := List.mem_map.1 hy
  exact Gf.gm_lt _ _

theorem RS.scaleM {wr w0 : World} {B bm bo n k N : Nat} {hd : List (Nat × Nat)} {vs : List Value} {M O : List (List Nat)} (h : RS wr w0 B bm bo n k N hd vs M O) {i x : Nat} (hi : i < N) (hn : n ≤ 1000000000) (hx : x < 256) {g cg : Nat} (hp : hd[i]? = some (g, cg)) :
    Calls Tryz.prog 102 #[.slice (some ⟨g, 0, none⟩) n cg, .int .u8 x] wr fun e w' => e = .returned (.tuple #[]) ∧ RS w' w0 B bm bo n k N hd vs (M.set i (scaleRow x (M.getD i []))) O := by
  have hi' : i < M.length := by rw [h.lm]; exact hi
  have hr := getD_some (d := []) hi'
  have hrow := h.rp.om.rows i _ _ hp hr
  have hl := h.rm.get hi'
  refine (rscale_any g cg n x (M.getD i []) wr hl.1 hn hx hl.2 hrow.1).mono ?_
  rintro e w' ⟨rfl, hk, hb⟩
  exact ⟨rfl, h.rp.setM hp hr (scaleRow_length _ _) hk hb, h.rm.set ⟨by rw [scaleRow_length]; exact hl.1, scaleRow_byt _ _⟩ i, h.ro, by rw [List.length_set]; exact h.lm, h.lo⟩

theorem RS.scaleO {wr w0 : World} {B bm bo n k N : Nat} {hd : List (Nat × Nat)} {vs : List Value} {M O : List (List Nat)} (h : RS wr w0 B bm bo n k N hd vs M O) {i x : Nat} (hi : i < N) (hn : k ≤ 1000000000) (hx : x < 256) {v : Value} (hv : vs[i]? = some v) :
    Calls Tryz.prog 102 #[v, .int .u8 x] wr fun e w' => e = .returned (.tuple #[]) ∧ RS w' w0 B bm bo n k N hd vs M (O.set i (scaleRow x (O.getD i []))) := by
  have hi' : i < O.length := by rw [h.lo]; exact hi
  have hr := getD_some (d := []) hi'
  have hl := h.ro.get hi'
  refine (rscale_v (h.rp.ov.rows i _ _ hv hr) hl.2 (by rw [hl.1]; exact hn) hx).mono ?_
  rintro e w' ⟨rfl, hk, hb⟩
  exact ⟨rfl, h.rp.setO hv hk hb, h.rm, h.ro.set ⟨by rw [scaleRow_length]; exact hl.1, scaleRow_byt _ _⟩ i, h.lm, by rw [List.length_set]; exact h.lo⟩

theorem RS.subM {wr w0 : World} {B bm bo n k N : Nat} {hd : List (Nat × Nat)} {vs : List Value} {M O : List (List Nat)} (h : RS wr w0 B bm bo n k N hd vs M O) {i j y : Nat} (hi : i < N) (hj : j < N) (hij : j ≠ i) (hn : n ≤ 1000000000) (hy : y < 256) {g cg g' cg' : Nat} (hp : hd[i]? = some (g, cg)) (hq : hd[j]? = some (g', cg')) :
    Calls Tryz.prog 103 #[.slice (some ⟨g, 0, none⟩) n cg, .slice (some ⟨g', 0, none⟩) n cg', .int .u8 y] wr fun e w' => e = .returned (.tuple #[]) ∧ RS w' w0 B bm bo n k N hd vs (M.set j (addMul y (M.getD j []) (M.getD i []))) O := by
  have hi' : i < M.length := by rw [h.lm]; exact hi
  have hj' : j < M.length := by rw [h.lm]; exact hj
  have hr := getD_some (d := []) hi'
  have hs := getD_some (d := []) hj'
  have a := h.rp.om.rows i _ _ hp hr
  have b := h.rp.om.rows j _ _ hq hs
  have la := h.rm.get hi'
  have lb := h.rm.get hj'
  have hgg : g ≠ g' := fun e => hij (h.rp.om.inj j i _ _ hq hp e.symm)
  refine (rsubtract_any g' cg' g 0 cg y n (M.getD j []) (M.getD i []) wr lb.1 la.1 hn hy lb.2 la.2 b.1 a.1.row hgg).mono ?_
  rintro e w' ⟨rfl, hk, hb⟩
  exact ⟨rfl, h.rp.setM hq hs (by rw [addMul_length]; omega) hk hb, h.rm.set ⟨by rw [addMul_length]; omega, addMul_byt lb.2⟩ j, h.ro, by rw [List.length_set]; exact h.lm, h.lo⟩

theorem RS.subO {wr w0 : World} {B bm bo n k N : Nat} {hd : List (Nat × Nat)} {vs : List Value} {M O : List (List Nat)} (h : RS wr w0 B bm bo n k N hd vs M O) {i j y : Nat} (hi : i < N) (hj : j < N) (hij : j ≠ i) (hn : k ≤ 1000000000) (hy : y < 256) {v u : Value} (hp : vs[i]? = some v) (hq : vs[j]? = some u) :
    Calls Tryz.prog 103 #[v, u, .int .u8 y] wr fun e w' => e = .returned (.tuple #[]) ∧ RS w' w0 B bm bo n k N hd vs M (O.set j (addMul y (O.getD j []) (O.getD i []))) := by
  have hi' : i < O.length := by rw [h.lo]; exact hi
  have hj' : j < O.length := by rw [h.lo]; exact hj
  have hr := getD_some (d := []) hi'
  have hs := getD_some (d := []) hj'
  have la := h.ro.get hi'
  have lb := h.ro.get hj'
  refine (rsubtract_v (h.rp.ov.rows i _ _ hp hr) (h.rp.ov.rows j _ _ hq hs) la.2 lb.2 (by rw [la.1, lb.1]) (by rw [la.1]; exact hn) hy (fun g h1 h2 => hij (h.rp.ov.inj j i u v g hq hp h2 h1))).mono ?_
  rintro e w' ⟨rfl, hk, hb⟩
  exact ⟨rfl, h.rp.setO hq hk hb, h.rm, h.ro.set ⟨by rw [addMul_length]; omega, addMul_byt lb.2⟩ j, h.lm, by rw [List.length_set]; exact h.lo⟩

/-- What holds at the head of the loop over the columns. -/
def RC (wr w0 : World) (B bm bo n k N c : Nat) (Z : List (List Nat)) : Prop := ∃ hd vs M O, RS wr w0 B bm bo n k N hd vs M O ∧ zip2 M O = (redTo Z c).1

def ReduceRet (w w' : World) (e : Ending) (B bm bo n k N : Nat) (Z : List (List Nat)) : Prop := e = .returned (.int .i64 (redTo Z n).2) ∧ RC w' w B bm bo n k N n Z
end Go.Proofs.YtkclmfppjhmnjaaGreat

namespace Go.Proofs.YtkclmfppjhmnjaaGreat
open Go.RowKit

set_option maxRecDepth 100000 in
set_option maxHeartbeats 8000000 in
theorem rreduce_any (bm capm bo capo n k N B : Nat) (hd0 : List (Nat × Nat)) (vs0 : List Value) (m o : List (List Nat)) (w : World) (hN : N ≤ 1000) (hN1 : 1 ≤ N) (hn : n ≤ 1000) (hk : k ≤ 1000) (h0 : RS w w B bm bo n k N hd0 vs0 m o) :
    Calls Tryz.prog 87 #[.slice (some ⟨bm, 0, none⟩) N capm, .slice (some ⟨bo, 0, none⟩) N capo] w fun e w' => ReduceRet w w' e B bm bo n k N (zip2 m o) := by
  have hzl := zip2_length (h0.lm.trans h0.lo.symm)
  rw [h0.lm] at hzl
  have Hzl := Lib.hid hzl
  have hstart : RC w w B bm bo n k N 0 (zip2 m o) := ⟨hd0, vs0, m, o, h0, rfl⟩
  have Hstart := Lib.hid hstart
  clear hstart hzl h0 hd0 vs0
  generalize zip2 m o = Z at *
  clear m o
  go_enter Tryz.func87, Tryz.ntmps87
  go_wp2_with fail
  go_loopg [5, 6] n (fun gk rk ci wr => ∃ c rank : Nat, c + gk = n ∧ rk = .int .i64 rank ∧ ci = .int .i64 c ∧ Hid ((redTo Z c).2 = rank) ∧ Hid (RC wr w B bm bo n k N c Z))
  case atStart => exact ⟨0, 0, by omega, rfl, rfl, rfl, Hstart.out⟩
  case round =>
    obtain ⟨c, rank, hgk, rfl, rfl, hrk, hC⟩ := hrel
    have Hgk := Lib.hid hgk
    have hc : c ≤ n := by omega
    clear hgk Hstart
    have hrN : rank ≤ N := by have := redTo_rank Z c; rw [hrk.out, Hzl.out] at this; exact this
    obtain ⟨hd, vs, M, O, hS, hz⟩ := hC.out
    have HS := Lib.hid hS
    obtain ⟨g0, cg0, _, _, z4, _⟩ := hS.atM (i := 0) (by omega)
    by_cases hx : c < n ∧ rank < N
    · obtain ⟨hc1, hr1⟩ := hx
      have hstep := Lib.hid (show redTo Z (c + 1) = stepR c (zip2 M O, rank) by rw [show redTo Z (c + 1) = stepR c (redTo Z c) from rfl, hz, ← hrk.out])
      clear hz hS hC
      obtain ⟨wr0, rfl⟩ : ∃ wr0 : World, wr0 = wr := ⟨_, rfl⟩
      go_wp2_with fail
      go_loopg [7] N (fun gk p wx => ∃ q : Nat, N - q ≤ gk ∧ q ≤ N ∧ rank ≤ q ∧ p = .int .i64 q ∧ Hid (∀ j, rank ≤ j → j < q → (M.getD j []).getD c 0 = 0) ∧ wr0 = wx)
      case atStart => exact ⟨rank, by omega, hrN, Nat.le_refl _, rfl, fun j h1 h2 => by omega, rfl⟩
      case round =>
        obtain ⟨q, hgq, hq, hq1, rfl, hzq, rfl⟩ := hrel
        have Hgq := Lib.hid hgq
        clear hgq
        by_cases hqN : q < N
        · obtain ⟨gq, cq, a1, a2, a3, a4, a5, a6, a7⟩ := HS.out.atM hqN
          have hxl : (M.getD q [])[c]? = some ((M.getD q []).getD c 0) := getD_some (by omega)
          have hxB := a6.getD c
          have hcx : wr0.cell? ⟨gq, c, none⟩ = some (.int .u8 ((M.getD q []).getD c 0)) := by have := a4.row c _ hxl; rw [Nat.zero_add] at this; exact this
          by_cases hx0 : (M.getD q []).getD c 0 = 0
          · have hb : (((M.getD q []).getD c 0 : Int) == 0) = true := by rw [hx0]; rfl
            have hzn : ∀ j, rank ≤ j → j < q + 1 → (M.getD j []).getD c 0 = 0 := by
              intro j h1 h2
              by_cases hjq : j = q
              · rw [hjq]; exact hx0
              · exact hzq.out j h1 (by omega)
            have Hzn := Lib.hid hzn
            clear hx0 hxl a1 a2 a4 a5 a6 hzn
            generalize (M.getD q []).getD c 0 = x at *
            go_wp2_with fail
            go_roundg (N - q - 1)
            case measure => have := Hgq.out; omega
            case rel => exact ⟨q + 1, by omega, by omega, by omega, by go_num, Hzn.out, rfl⟩
          · have hb : (((M.getD q []).getD c 0 : Int) == 0) = false := by rw [beq_eq_false_iff_ne]; omega
            have hpv := pivot_hit hq1 (by rw [HS.out.lm]; exact hqN) hx0 hzq.out
            have hpz : pivotAt (zip2 M O) c rank = ((q - rank : Nat) : Int) := by rw [pivotAt_zip2 HS.out.rm (HS.out.lm.trans HS.out.lo.symm) hc1]; exact hpv
            have Hpz := Lib.hid hpz
            have Hx0 := Lib.hid hx0
            have hbq : ((q : Int) == (N : Int)) = false := by rw [beq_eq_false_iff_ne]; omega
            obtain ⟨gr, cr, b1, b2, b3, b4, b5, b6, b7⟩ := HS.out.atM hr1
            have hsw := Lib.hid (HS.out.swapM hqN hr1 a1 b1)
            clear hx0 hxl a1 a2 a4 a5 a6 b1 b2 b4 b5 b6 hpv hpz
            generalize hxx : (M.getD q []).getD c 0 = x at *
            have Hxx := Lib.hid hxx
            clear hxx
            have qi : (q : Int) < N := by omega
            have qi0 : (0 : Int) ≤ q := by omega
            have ri : (rank : Int) < N := by omega
            have ri0 : (0 : Int) ≤ rank := by omega
            go_wp2_with fail
            go_cut [] (fun wx => Hid (∃ hd', RS wx w B bm bo n k N hd' vs (swapM M q rank) O))
            case first =>
              obtain ⟨v', hy'⟩ := cell?_setCell_some (w := wr0) (p := ⟨bm, q, none⟩) (x := .slice (some ⟨gr, 0, none⟩) n cr) (q := ⟨bm, rank, none⟩) (v := .slice (some ⟨gr, 0, none⟩) n cr) (by go_simp)
              go_region
              go_wp2_with fail
              go_meet
              exact ⟨_, hsw.out.drewN 1⟩
            case rest =>
              obtain ⟨hd1, hS1⟩ := hcut.out
              have HS1 := Lib.hid hS1
              obtain ⟨aq, caq, u1, u2, u3, u4, u5, u6, u7⟩ := hS1.atO hqN
              obtain ⟨ar, car, v1, v2, v3, v4, v5, v6, v7⟩ := hS1.atO hr1
              have hsw2 := Lib.hid (hS1.swapO hqN hr1 u1 v1)
              clear hcut hS1 u1 u2 u4 u5 u6 v1 v2 v4 v5 v6 a3 a7 b3 b7 hcx z4 hsw hb
              go_wp2_with fail
              obtain ⟨w1, rfl⟩ : ∃ w1 : World, w1 = wc := ⟨_, rfl⟩
              go_cut [] (fun wx => Hid (∃ vs', RS wx w B bm bo n k N hd1 vs' (swapM M q rank) (swapM O q rank)))
              case first =>
                obtain ⟨v', hy'⟩ := cell?_setCell_some (w := w1) (p := ⟨bo, q, none⟩) (x := .slice ar k car) (q := ⟨bo, rank, none⟩) (v := .slice ar k car) (by go_simp)
                go_region
                go_wp2_with fail
                go_meet
                exact ⟨_, hsw2.out.drewN 1⟩
              case rest =>
                obtain ⟨vs2, hS2⟩ := hcut.out
                clear hcut hsw2 u3 u7 v3 v7 HS1
                have hswc : swapM M q rank = swapM M rank (rank + (q - rank)) := by rw [swapM_comm, show rank + (q - rank) = q by omega]
                have hswo : swapM O q rank = swapM O rank (rank + (q - rank)) := by rw [swapM_comm, show rank + (q - rank) = q by omega]
                have hxr : ((swapM M rank (rank + (q - rank))).getD rank []).getD c 0 = x := by rw [swapM_first (by rw [HS.out.lm]; omega), show rank + (q - rank) = q by omega]; exact Hxx.out
                have hhit := hitM_zip2 HS.out.rm HS.out.ro (HS.out.lm.trans HS.out.lo.symm) hc1 (p := q - rank) (rank := rank) (by rw [HS.out.lm]; omega) (x := Gf.gi x) (by rw [hxr])
                rw [hswc, hswo] at hS2
                generalize swapM M rank (rank + (q - rank)) = M1 at *
                generalize swapM O rank (rank + (q - rank)) = O1 at *
                have Hhit := Lib.hid hhit
                obtain ⟨g, cg, c1, c2, c3, c4, c5, c6, c7⟩ := hS2.atM hr1
                have hxl : (M1.getD rank [])[c]? = some x := by rw [← hxr]; exact getD_some (by omega)
                have hcx : wc.cell? ⟨g, c, none⟩ = some (.int .u8 x) := by have := c4.row c _ hxl; rw [Nat.zero_add] at this; exact this
                have HS2 := Lib.hid hS2
                have Hc1 := Lib.hid c1
                have hgx := Gf.gi_lt x
                have Hxne := Lib.hid (show x ≠ 0 from Hx0.out)
                clear hhit hswc hswo hxr hS2 c1 c2 c4 c5 c6 c7 hxl Hxx Hx0 HS
                go_wp2_with fail
                refine (rInv_any x _ hxB).mono ?_
                rintro e w3 ⟨rfl, rfl⟩
                rw [Gf.gi0_ne Hxne.out, Gf.ge0_ne Hxne.out]
                go_wp2_with fail
                refine (HS2.out.scaleM hr1 (by omega) hgx Hc1.out).mono ?_
                rintro e w4 ⟨rfl, hS4⟩
                obtain ⟨ap, cap2, d1, d2, d3, d4, d5, d6, d7⟩ := hS4.atO hr1
                have HS4 := Lib.hid hS4
                have Hd1 := Lib.hid d1
                clear hS4 d1 d2 d4 d5 d6 d7 HS2 c3 hcx
                go_wp2_with fail
                refine (HS4.out.scaleO hr1 (by omega) hgx Hd1.out).mono ?_
                rintro e w5 ⟨rfl, hS5⟩
                have hMl := hS5.lm
                have hOl := hS5.lo
                have hpvg : (M1.set rank (scaleRow (Gf.gi x) (M1.getD rank [])))[rank]? = some (scaleRow (Gf.gi x) (M1.getD rank [])) := List.getElem?_set_self (by rw [List.length_set] at hMl; omega)
                have hqvg : (O1.set rank (scaleRow (Gf.gi x) (O1.getD rank [])))[rank]? = some (scaleRow (Gf.gi x) (O1.getD rank [])) := List.getElem?_set_self (by rw [List.length_set] at hOl; omega)
                have hfin : hitM (zip2 M O) c rank (q - rank) = zip2 (elimM (scaleRow (Gf.gi x) (M1.getD rank [])) c rank (M1.set rank (scaleRow (Gf.gi x) (M1.getD rank [])))) (elimO (M1.set rank (scaleRow (Gf.gi x) (M1.getD rank []))) (scaleRow (Gf.gi x) (O1.getD rank [])) c rank (O1.set rank (scaleRow (Gf.gi x) (O1.getD rank [])))) := Hhit.out
                have hpvl := hS5.rm _ (List.mem_of_getElem? hpvg)
                have hqvl := hS5.ro _ (List.mem_of_getElem? hqvg)
                generalize scaleRow (Gf.gi x) (M1.getD rank []) = pv at *
                generalize scaleRow (Gf.gi x) (O1.getD rank []) = qv at *
                generalize M1.set rank pv = M2 at *
                generalize O1.set rank qv = O2 at *
                have HS5 := Lib.hid hS5
                have Hfin := Lib.hid hfin
                have Hpq := Lib.hid (And.intro hpvg (And.intro hqvg (And.intro hpvl (And.intro hqvl (And.intro hMl (And.intro hOl (And.intro hS5.rm hS5.ro)))))))
                clear hS5 hfin hpvg hqvg hpvl hqvl hMl hOl HS4 Hhit d3 Hd1 Hxne
                go_wp2_with fail
                go_loopg [10] N (fun gk i wx => ∃ j : Nat, j + gk = N ∧ i = .int .i64 j ∧ Hid (RS wx w B bm bo n k N hd1 vs2 (mapTo (elimRow pv c rank) M2 j) (mapTo (elimRowO M2 qv c rank) O2 j)))
                case atStart => exact ⟨0, by omega, rfl, by rw [mapTo_zero, mapTo_zero]; exact HS5.out⟩
                case round =>
                  obtain ⟨j, hgj, rfl, hSj⟩ := hrel
                  have Hgj := Lib.hid hgj
                  have hj : j ≤ N := by omega
                  clear hgj HS5
                  by_cases hjN : j < N
                  · obtain ⟨P1, P2, P3, P4, P5, P6, P7, P8⟩ := Hpq.out
                    have hmj : M2[j]? = some (M2.getD j []) := getD_some (by omega)
                    have hoj : O2[j]? = some (O2.getD j []) := getD_some (by omega)
                    by_cases hjr : j = rank
                    · have hbj : ((j : Int) != (rank : Int)) = false := by rw [hjr]; simp
                      have hSn : RS wr w B bm bo n k N hd1 vs2 (mapTo (elimRow pv c rank) M2 (j + 1)) (mapTo (elimRowO M2 qv c rank) O2 (j + 1)) := by
                        have hf1 : elimRow pv c rank j (M2.getD j []) = M2.getD j [] := by unfold elimRow; rw [if_pos hjr]
                        have hf2 : elimRowO M2 qv c rank j (O2.getD j []) = O2.getD j [] := by unfold elimRowO; rw [if_pos hjr]
                        rw [mapTo_fix _ _ hmj hf1, mapTo_fix _ _ hoj hf2]; exact hSj.out
                      have HSn := Lib.hid hSn
                      clear hSn hjr hmj hoj P1 P2 P3 P4 P5 P6 P7 P8
                      go_wp2_with fail
                      go_roundg (N - j - 1)
                      case measure => have := Hgj.out; omega
                      case rel => exact ⟨j + 1, by have := Hgj.out; omega, by go_num, HSn.out⟩
                    · have hbj : ((j : Int) != (rank : Int)) = true := by rw [bne_iff_ne]; omega
                      have k1 : (mapTo (elimRow pv c rank) M2 j).getD j [] = M2.getD j [] := getD_get (by rw [mapTo_get _ _ (by omega) (Nat.le_refl _)]; exact hmj)
                      have k2 : (mapTo (elimRow pv c rank) M2 j).getD rank [] = pv := getD_get (mapTo_keep _ _ (by omega) P1 (by unfold elimRow; rw [if_pos rfl]))
                      have k3 : (mapTo (elimRowO M2 qv c rank) O2 j).getD j [] = O2.getD j [] := getD_get (by rw [mapTo_get _ _ (by omega) (Nat.le_refl _)]; exact hoj)
                      have k4 : (mapTo (elimRowO M2 qv c rank) O2 j).getD rank [] = qv := getD_get (mapTo_keep _ _ (by omega) P2 (by unfold elimRowO; rw [if_pos rfl]))
                      have s1 : (mapTo (elimRow pv c rank) M2 j).set j (addMul ((M2.getD j []).getD c 0) (M2.getD j []) pv) = mapTo (elimRow pv c rank) M2 (j + 1) := by
                        rw [← mapTo_step _ _ hmj]; congr 1; unfold elimRow; rw [if_neg hjr]
                      have s2 : (mapTo (elimRowO M2 qv c rank) O2 j).set j (addMul ((M2.getD j []).getD c 0) (O2.getD j []) qv) = mapTo (elimRowO M2 qv c rank) O2 (j + 1) := by
                        rw [← mapTo_step _ _ hoj]; congr 1; unfold elimRowO; rw [if_neg hjr]
                      obtain ⟨gj, cj, a1, a2, a3, a4, a5, a6, a7⟩ := hSj.out.atM hjN
                      rw [k1] at a4 a5 a6
                      obtain ⟨g', cg', b1, b2, b3, b4, b5, b6, b7⟩ := hSj.out.atM hr1
                      have hyl : (M2.getD j [])[c]? = some ((M2.getD j []).getD c 0) := getD_some (by omega)
                      have hyB := a6.getD c
                      have hcy : wr.cell? ⟨gj, c, none⟩ = some (.int .u8 ((M2.getD j []).getD c 0)) := by have := a4.row c _ hyl; rw [Nat.zero_add] at this; exact this
                      generalize (M2.getD j []).getD c 0 = y at *
                      have hSub : ∀ q, Calls Tryz.prog 103 #[.slice (some ⟨g', 0, none⟩) n cg', .slice (some ⟨gj, 0, none⟩) n cj, .int .u8 y] (wr.drewN q) fun e w' => e = .returned (.tuple #[]) ∧ RS w' w B bm bo n k N hd1 vs2 (mapTo (elimRow pv c rank) M2 (j + 1)) (mapTo (elimRowO M2 qv c rank) O2 j) := by
                        intro q
                        have := (hSj.out.drewN q).subM (y := y) hr1 hjN hjr (by omega) hyB b1 a1
                        rw [k1, k2, s1] at this
                        exact this
                      have HSub := Lib.hid hSub
                      have hK : ∀ wx, RS wx w B bm bo n k N hd1 vs2 (mapTo (elimRow pv c rank) M2 (j + 1)) (mapTo (elimRowO M2 qv c rank) O2 j) → ∃ vr vj cr cj', wx.cell? ⟨bo, rank, none⟩ = some (.slice vr k cr) ∧ wx.cell? ⟨bo, j, none⟩ = some (.slice vj k cj') ∧
                          ∀ q, Calls Tryz.prog 103 #[.slice vr k cr, .slice vj k cj', .int .u8 y] (wx.drewN q) fun e w' => e = .returned (.tuple #[]) ∧ RS w' w B bm bo n k N hd1 vs2 (mapTo (elimRow pv c rank) M2 (j + 1)) (mapTo (elimRowO M2 qv c rank) O2 (j + 1)) := by
                        intro wx hx
                        obtain ⟨vr, cr, u1, u2, u3, _⟩ := hx.atO hr1
                        obtain ⟨vj, cj', v1, v2, v3, _⟩ := hx.atO hjN
                        refine ⟨vr, vj, cr, cj', u3, v3, fun q => ?_⟩
                        have := (hx.drewN q).subO (y := y) hr1 hjN hjr (by omega) hyB u1 v1
                        rw [k3, k4, s2] at this
                        exact this
                      have HK := Lib.hid hK
                      have ji : (j : Int) < N := by omega
                      have ji0 : (0 : Int) ≤ j := by omega
                      have ri : (rank : Int) < N := by omega
                      have ri0 : (0 : Int) ≤ rank := by omega
                      clear hSub hK k1 k2 k3 k4 s1 s2 hmj hoj P1 P2 P3 P4 P5 P6 P7 P8 a1 a2 a4 a5 a6 a7 b1 b2 b4 b5 b6 b7 hyl hjr
                      go_wp2_with fail
                      go_cut [] (fun wx => Hid (RS wx w B bm bo n k N hd1 vs2 (mapTo (elimRow pv c rank) M2 (j + 1)) (mapTo (elimRowO M2 qv c rank) O2 j)))
                      case first =>
                        go_region_with (go_at_call 103; refine (HSub.out 1).mono ?_; rintro e wf ⟨rfl, hRf⟩; have HRf := Lib.hid hRf; clear hRf)
                        all_goals
                          go_wp2_with fail
                          go_meet
                          exact HRf.out
                      case rest =>
                        obtain ⟨vr, vj, cr, cj', x3, y3, hcall⟩ := HK.out wc hcut.out
                        have Hcall := Lib.hid hcall
                        clear hcall hcut HK HSub a3 b3 hcy
                        go_wp2_with fail
                        go_region_with (go_at_call 103; refine (Hcall.out 1).mono ?_; rintro e wf ⟨rfl, hRf⟩; have HRf := Lib.hid hRf; clear hRf)
                        all_goals
                          go_wp2_with fail
                          go_roundg (N - j - 1)
                          case measure => have := Hgj.out; omega
                          case rel => exact ⟨j + 1, by have := Hgj.out; omega, by go_num, HRf.out⟩
                  · have hSe := hSj.out
                    rw [mapTo_all _ _ (by rw [Hpq.out.2.2.2.2.1]; omega), mapTo_all _ _ (by rw [Hpq.out.2.2.2.2.2.1]; omega)] at hSe
                    have e1 : redTo Z (c + 1) = (hitM (zip2 M O) c rank (q - rank), rank + 1) := by rw [hstep.out]; unfold stepR; rw [Hpz.out, if_neg (by omega), Int.toNat_natCast]
                    have hRC : RC wr w B bm bo n k N (c + 1) Z := ⟨_, _, _, _, hSe, by rw [e1, Hfin.out]; rfl⟩
                    have HRC := Lib.hid hRC
                    have He1 := Lib.hid e1
                    clear hSe hRC e1
                    go_wp2_with fail
                    go_roundg (n - c - 1)
                    case measure => have := Hgk.out; omega
                    case rel => exact ⟨c + 1, rank + 1, by have := Hgk.out; omega, by go_num, by go_num, by rw [He1.out]; rfl, HRC.out⟩
        · have e1 : redTo Z (c + 1) = (zip2 M O, rank) := by
            rw [hstep.out]; unfold stepR
            rw [pivotAt_zip2 HS.out.rm (HS.out.lm.trans HS.out.lo.symm) hc1, pivot_none (fun j h1 h2 => hzq.out j h1 (by rw [HS.out.lm] at h2; omega)), if_pos (by decide)]
          have hRC : RC wr0 w B bm bo n k N (c + 1) Z := ⟨_, _, _, _, HS.out, by rw [e1]⟩
          have HRC := Lib.hid hRC
          have He1 := Lib.hid e1
          have hbq : ((q : Int) == (N : Int)) = true := by rw [beq_iff_eq]; omega
          clear hRC e1
          go_wp2_with fail
          go_roundg (n - c - 1)
          case measure => have := Hgk.out; omega
          case rel => exact ⟨c + 1, rank, by have := Hgk.out; omega, rfl, by go_num, by rw [He1.out]; rfl, HRC.out⟩
    · have hfin : redTo Z n = redTo Z c := by
        by_cases h1 : c < n
        · have h2 : rank = N := by omega
          have := redTo_full (m := Z) (c := c) (by rw [hrk.out, h2, Hzl.out]) (n - c)
          rw [show c + (n - c) = n by omega] at this
          exact this
        · rw [show n = c by omega]
      have Hfin : Hid (ReduceRet w wr (.returned (.int .i64 rank)) B bm bo n k N Z) := ⟨by rw [hfin, hrk.out], hd, vs, M, O, hS, by rw [hfin]; exact hz⟩
      clear hfin hS hz
      by_cases h1 : c < n
      · have h2 : ¬ rank < N := by omega
        clear hx
        go_wp2_with fail
        go_ret
        exact Hfin.out
      · clear hx
        go_wp2_with fail
        go_ret
        exact Hfin.out
end Go.Proofs.YtkclmfppjhmnjaaGreat
