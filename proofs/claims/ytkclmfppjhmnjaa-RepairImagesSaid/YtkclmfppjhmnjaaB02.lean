/- Slices of rows that the call itself makes: a list of rows that grows by append, and one that is changed in place. -/
/- Plain: a matrix and another one beside it, reduced together, are the wide matrix reduced. -/
import Derived.Test.YtkclmfppjhmnjaaB00
namespace Go.Proofs.Ytkclmfppjhmnjaa
open Go.RowKit

/-- A row of n bytes at the head of block p.1, with capacity p.2. -/
def hv (n : Nat) (p : Nat × Nat) : Value := .slice (some ⟨p.1, 0, none⟩) n p.2
def hvs (hd : List (Nat × Nat)) (m : List (List Nat)) : List Value := List.zipWith (fun p r => hv r.length p) hd m

theorem Blk.type {w : World} {g T T' : Nat} {xs ys : List Value} (h : Blk w g T xs) (h' : Blk w g T' ys) : T = T' := by
  obtain ⟨r, h⟩ := h
  obtain ⟨r', h'⟩ := h'
  rw [h] at h'
  simp only [Option.some.injEq, Obj.cells.injEq] at h'
  exact h'.2.1

theorem owns_block {w : World} {B T n : Nat} {v : Value} {xs : List Value} (h : w.ownsRow B T 1 v n xs) {k : Nat} (hk : v.ownBlock = some k) : Blk w k T xs ∧ B ≤ k ∧ ∃ cap, v = .slice (some ⟨k, 0, none⟩) n cap ∧ n ≤ cap ∧ cap ≤ maxLen := by
  rcases h.2 with ⟨rfl, _⟩ | ⟨g, cap, cur, rfl, hb, hg, h1, h2, _⟩
  · simp [Value.ownBlock] at hk
  · simp only [Value.ownBlock, Option.some.injEq] at hk
    subst hk
    exact ⟨Blk.of_owns h, hb, cap, rfl, h1, h2⟩

/-- The rows of m lie in blocks of the call's own. -/
structure OwnRows (w : World) (B : Nat) (hd : List (Nat × Nat)) (m : List (List Nat)) : Prop where
  len : hd.length = m.length
  inj : ∀ (i j : Nat) (p q : Nat × Nat), hd[i]? = some p → hd[j]? = some q → p.1 = q.1 → i = j
  rows : ∀ (i : Nat) (p : Nat × Nat) (r : List Nat), hd[i]? = some p → m[i]? = some r → Blk w p.1 5 (r.map bv) ∧ B ≤ p.1 ∧ r.length ≤ p.2

/-- A slice of rows of the call's own that may still grow. -/
structure GM (w : World) (B : Nat) (v : Value) (hd : List (Nat × Nat)) (m : List (List Nat)) : Prop extends OwnRows w B hd m where
  outer : w.ownsRow B 26 1 v m.length (hvs hd m)

/-- A slice of rows of the call's own, in block bo. -/
structure OM (w : World) (B bo : Nat) (hd : List (Nat × Nat)) (m : List (List Nat)) : Prop extends OwnRows w B hd m where
  outer : Blk w bo 26 (hvs hd m)
  obase : B ≤ bo

theorem OwnRows.kept {w w' : World} {B : Nat} {hd : List (Nat × Nat)} {m : List (List Nat)} {S : Nat → Prop} (h : OwnRows w B hd m) (k : Kept S w w') (hS : ∀ (i : Nat) (p : Nat × Nat), hd[i]? = some p → ¬ S p.1) : OwnRows w' B hd m :=
  ⟨h.len, h.inj, fun i p r hp hr => ⟨(h.rows i p r hp hr).1.kept k (hS i p hp), (h.rows i p r hp hr).2⟩⟩

theorem OwnRows.nil (w : World) (B : Nat) : OwnRows w B [] [] := ⟨rfl, fun i j p q h => by simp at h, fun i p r h => by simp at h⟩

theorem OwnRows.row {w : World} {B : Nat} {hd : List (Nat × Nat)} {m : List (List Nat)} (h : OwnRows w B hd m) {i : Nat} {p : Nat × Nat} (hp : hd[i]? = some p) : ∃ r, m[i]? = some r := by
  have := (List.getElem?_eq_some_iff.1 hp).1
  exact ⟨m[i]'(by rw [← h.len]; exact this), List.getElem?_eq_getElem _⟩

theorem OwnRows.lt {w : World} {B : Nat} {hd : List (Nat × Nat)} {m : List (List Nat)} (h : OwnRows w B hd m) {i : Nat} {p : Nat × Nat} (hp : hd[i]? = some p) : p.1 < w.heap.size ∧ B ≤ p.1 := by
  obtain ⟨r, hr⟩ := h.row hp
  have := h.rows i p r hp hr
  exact ⟨this.1.lt, this.2.1⟩

theorem snoc_get {α : Type} {l : List α} {x y : α} {i : Nat} (h : (l ++ [x])[i]? = some y) : (i < l.length ∧ l[i]? = some y) ∨ (i = l.length ∧ y = x) := by
  by_cases hi : i < l.length
  · rw [List.getElem?_append_left hi] at h; exact Or.inl ⟨hi, h⟩
  · have hl := (List.getElem?_eq_some_iff.1 h).1
    have hi' : i = l.length := by simp at hl; omega
    subst hi'
    have e1 : (l ++ [x])[l.length]? = some x := by simp
    rw [e1] at h
    exact Or.inr ⟨rfl, by simpa using h.symm⟩

/-- One row more, in a new block. -/
theorem OwnRows.snoc {w w' : World} {B : Nat} {hd : List (Nat × Nat)} {m : List (List Nat)} (h : OwnRows w B hd m) {S : Nat → Prop} (k : Kept S w w') (hS : ∀ (i : Nat) (p : Nat × Nat), hd[i]? = some p → ¬ S p.1)
    {p : Nat × Nat} {r : List Nat} (hg : Blk w' p.1 5 (r.map bv)) (hp : w.heap.size ≤ p.1) (hB : B ≤ w.heap.size) (hc : r.length ≤ p.2) : OwnRows w' B (hd ++ [p]) (m ++ [r]) := by
  have h' := h.kept k hS
  refine ⟨by simp [h.len], ?_, ?_⟩
  · intro i j q s hq hs e
    rcases snoc_get hq with ⟨i1, i2⟩ | ⟨i1, rfl⟩
    · rcases snoc_get hs with ⟨j1, j2⟩ | ⟨j1, rfl⟩
      · exact h.inj i j q s i2 j2 e
      · have := (h.lt i2).1; omega
    · rcases snoc_get hs with ⟨j1, j2⟩ | ⟨j1, rfl⟩
      · have := (h.lt j2).1; omega
      · omega
  · intro i q s hq hs
    rcases snoc_get hq with ⟨i1, i2⟩ | ⟨i1, rfl⟩
    · rcases snoc_get hs with ⟨j1, j2⟩ | ⟨j1, rfl⟩
      · exact h'.rows i q s i2 j2
      · rw [h.len] at i1; omega
    · rcases snoc_get hs with ⟨j1, j2⟩ | ⟨j1, rfl⟩
      · rw [← h.len] at j1; omega
      · exact ⟨hg, by omega, hc⟩

theorem hvs_snoc {hd : List (Nat × Nat)} {m : List (List Nat)} (h : hd.length = m.length) (p : Nat × Nat) (r : List Nat) : hvs (hd ++ [p]) (m ++ [r]) = hvs hd m ++ [hv r.length p] := by
  unfold hvs
  rw [List.zipWith_append h]
  rfl

theorem hvs_get {hd : List (Nat × Nat)} {m : List (List Nat)} {i : Nat} {p : Nat × Nat} {r : List Nat} (hp : hd[i]? = some p) (hr : m[i]? = some r) : (hvs hd m)[i]? = some (hv r.length p) := by
  simp [hvs, List.getElem?_zipWith, hp, hr]

theorem hvs_length {hd : List (Nat × Nat)} {m : List (List Nat)} (h : hd.length = m.length) : (hvs hd m).length = m.length := by simp [hvs, h]

theorem GM.nil (w : World) (B : Nat) : GM w B (.slice none 0 0) [] [] := { OwnRows.nil w B with outer := World.ownsRow_nil w B _ 1 }

theorem GM.not_own {w : World} {B : Nat} {v : Value} {hd : List (Nat × Nat)} {m : List (List Nat)} (h : GM w B v hd m) {i : Nat} {p : Nat × Nat} (hp : hd[i]? = some p) : ¬ some p.1 = v.ownBlock := by
  intro e
  obtain ⟨r, hr⟩ := h.row hp
  have := (owns_block h.outer e.symm).1.type (h.rows i p r hp hr).1
  exact absurd this (by decide)

theorem owns_kept {w w' : World} {B T n : Nat} {v : Value} {xs : List Value} {S : Nat → Prop} (h : w.ownsRow B T 1 v n xs) (k : Kept S w w') (hS : ∀ g, v.ownBlock = some g → ¬ S g) : w'.ownsRow B T 1 v n xs := by
  refine ⟨h.1, ?_⟩
  rcases h.2 with hn | ⟨g, cap, cur, rfl, hb, hgg, rest⟩
  · exact .inl hn
  · refine .inr ⟨g, cap, cur, rfl, hb, ?_, rest⟩
    rw [k.block g (Array.getElem?_eq_some_iff.1 hgg).1 (hS g rfl)]
    exact hgg

theorem GM.kept {w w' : World} {B : Nat} {v : Value} {hd : List (Nat × Nat)} {m : List (List Nat)} {S : Nat → Prop} (h : GM w B v hd m) (k : Kept S w w') (hS : ∀ g, B ≤ g → ¬ S g) : GM w' B v hd m :=
  { h.toOwnRows.kept k (fun _ _ hp => hS _ (h.lt hp).2) with outer := owns_kept h.outer k fun g hg => hS g (owns_block h.outer hg).2.1 }

/-- Nothing of what was there has changed. -/
theorem GM.new {w w' : World} {B : Nat} {v : Value} {hd : List (Nat × Nat)} {m : List (List Nat)} (h : GM w B v hd m) (k : Below w.heap.size w w') : GM w' B v hd m :=
  h.kept (S := fun _ => False) (.of_new k) fun _ _ => id

/-- A row has been made (w to w1), laid in a new cell (w2) and appended (w3). -/
theorem GM.snoc {w w1 w3 : World} {B : Nat} {v v' : Value} {hd : List (Nat × Nat)} {m : List (List Nat)} (h : GM w B v hd m) (k1 : Below w.heap.size w w1) {p : Nat × Nat} {r : List Nat} (hg : Blk w1 p.1 5 (r.map bv))
    (hp : w.heap.size ≤ p.1) (hB : B ≤ w.heap.size) (hc : r.length ≤ p.2) {o : Obj} (hown : w3.ownsRow B 26 1 v' (m.length + 1) (hvs hd m ++ [hv r.length p])) (hgr : (w1.alloc o).grownBy w3 v.ownBlock) :
    GM w3 B v' (hd ++ [p]) (m ++ [r]) := by
  have kk : Kept (fun k => some k = v.ownBlock) w w3 := (Kept.of_new k1).trans ((((Kept.refl _ w1).alloc o)).trans (Kept.of_grown hgr))
  have hne : ¬ some p.1 = v.ownBlock := by
    intro e
    have := (owns_block h.outer e.symm).1.lt
    omega
  have kg : Blk w3 p.1 5 (r.map bv) := (hg.alloc o).kept (Kept.of_grown hgr) hne
  refine { h.toOwnRows.snoc kk (fun _ _ hq => h.not_own hq) kg hp hB hc with outer := ?_ }
  rw [hvs_snoc h.len, List.length_append]
  exact hown

/-- The list has grown to its full length, and is not empty. -/
theorem GM.done {w : World} {B : Nat} {v : Value} {hd : List (Nat × Nat)} {m : List (List Nat)} (h : GM w B v hd m) (hm : m ≠ []) : ∃ bo cap, v = .slice (some ⟨bo, 0, none⟩) m.length cap ∧ m.length ≤ cap ∧ cap ≤ maxLen ∧ OM w B bo hd m := by
  rcases h.outer.2 with ⟨rfl, h0⟩ | ⟨g, cap, cur, rfl, hb, hgg, h1, h2, h3⟩
  · exact absurd (List.length_eq_zero_iff.1 h0) hm
  · exact ⟨g, cap, rfl, h1, h2, { h.toOwnRows with outer := Blk.of_owns h.outer, obase := hb }⟩

theorem OM.not_row {w : World} {B bo : Nat} {hd : List (Nat × Nat)} {m : List (List Nat)} (h : OM w B bo hd m) {i : Nat} {p : Nat × Nat} (hp : hd[i]? = some p) : p.1 ≠ bo := by
  intro e
  obtain ⟨r, hr⟩ := h.row hp
  have h1 := (h.rows i p r hp hr).1
  rw [e] at h1
  exact absurd (h1.type h.outer) (by decide)

theorem OM.kept {w w' : World} {B bo : Nat} {hd : List (Nat × Nat)} {m : List (List Nat)} {S : Nat → Prop} (h : OM w B bo hd m) (k : Kept S w w') (hS : ∀ g, B ≤ g → ¬ S g) : OM w' B bo hd m :=
  { h.toOwnRows.kept k (fun _ _ hp => hS _ (h.lt hp).2) with outer := h.outer.kept k (hS bo h.obase), obase := h.obase }

theorem OM.kept' {w w' : World} {B bo : Nat} {hd : List (Nat × Nat)} {m : List (List Nat)} {S : Nat → Prop} (h : OM w B bo hd m) (k : Kept S w w') (hS : ∀ (i : Nat) (p : Nat × Nat), hd[i]? = some p → ¬ S p.1) (hb : ¬ S bo) : OM w' B bo hd m :=
  { h.toOwnRows.kept k hS with outer := h.outer.kept k hb, obase := h.obase }

theorem OM.new {w w' : World} {B bo : Nat} {hd : List (Nat × Nat)} {m : List (List Nat)} (h : OM w B bo hd m) (k : Below w.heap.size w w') : OM w' B bo hd m :=
  h.kept (S := fun _ => False) (.of_new k) fun _ _ => id

/-- Row i has been changed in place. -/
theorem OM.setRow {w w' : World} {B bo : Nat} {hd : List (Nat × Nat)} {m : List (List Nat)} (h : OM w B bo hd m) {i : Nat} {p : Nat × Nat} {r r' : List Nat} (hp : hd[i]? = some p) (hr : m[i]? = some r) (hl : r'.length = r.length)
    (k : Kept (· = p.1) w w') (hb : Blk w' p.1 5 (r'.map bv)) : OM w' B bo hd (m.set i r') := by
  have hne := h.not_row hp
  have hi := (List.getElem?_eq_some_iff.1 hr).1
  refine { len := by simpa using h.len, inj := h.inj, rows := ?_, outer := ?_, obase := h.obase }
  · intro j q s hq hs
    by_cases hj : i = j
    · subst hj
      rw [hp] at hq
      simp only [Option.some.injEq] at hq
      subst hq
      rw [List.getElem?_set_self hi] at hs
      simp only [Option.some.injEq] at hs
      subst hs
      exact ⟨hb, (h.rows i p r hp hr).2.1, by rw [hl]; exact (h.rows i p r hp hr).2.2⟩
    · rw [List.getElem?_set_ne hj] at hs
      have h1 := h.rows j q s hq hs
      exact ⟨h1.1.kept k (fun e => hj (h.inj i j p q hp hq e.symm)), h1.2⟩
  · have : hvs hd (m.set i r') = hvs hd m := by
      apply List.ext_getElem?
      intro j
      simp only [hvs, List.getElem?_zipWith]
      by_cases hj : i = j
      · subst hj
        rw [List.getElem?_set_self hi, hp, hr]
        simp [hl]
      · rw [List.getElem?_set_ne hj]
    rw [this]
    exact h.outer.kept k (fun e => hne e.symm)

theorem swap_get {α : Type} {l : List α} {i j k : Nat} {x y z : α} (hi : i < l.length) (hj : j < l.length) (h : ((l.set i x).set j y)[k]? = some z) : (k = j ∧ z = y) ∨ (k ≠ j ∧ k = i ∧ z = x) ∨ (k ≠ j ∧ k ≠ i ∧ l[k]? = some z) := by
  by_cases hk : j = k
  · subst hk
    rw [List.getElem?_set_self (by simpa using hj)] at h
    exact Or.inl ⟨rfl, by simpa using h.symm⟩
  · rw [List.getElem?_set_ne hk] at h
    by_cases hk2 : i = k
    · subst hk2
      rw [List.getElem?_set_self hi] at h
      exact Or.inr (Or.inl ⟨fun e => hk e.symm, rfl, by simpa using h.symm⟩)
    · rw [List.getElem?_set_ne hk2] at h
      exact Or.inr (Or.inr ⟨fun e => hk e.symm, fun e => hk2 e.symm, h⟩)

/-- Two rows have been exchanged in the outer slice. -/
theorem OM.swap {w : World} {B bo : Nat} {hd : List (Nat × Nat)} {m : List (List Nat)} (h : OM w B bo hd m) {i j : Nat} {p q : Nat × Nat} {r s : List Nat} (hp : hd[i]? = some p) (hq : hd[j]? = some q) (hr : m[i]? = some r) (hs : m[j]? = some s) :
    OM ((w.setCell ⟨bo, i, none⟩ (hv s.length q)).setCell ⟨bo, j, none⟩ (hv r.length p)) B bo ((hd.set i q).set j p) ((m.set i s).set j r) := by
  have i1 := (List.getElem?_eq_some_iff.1 hp).1
  have j1 := (List.getElem?_eq_some_iff.1 hq).1
  have i2 := (List.getElem?_eq_some_iff.1 hr).1
  have j2 := (List.getElem?_eq_some_iff.1 hs).1
  have hlv := hvs_length h.len
  refine { len := by simpa using h.len, inj := ?_, rows := ?_, outer := ?_, obase := h.obase }
  · intro a b x y hx hy e
    rcases swap_get i1 j1 hx with ⟨rfl, rfl⟩ | ⟨a1, rfl, rfl⟩ | ⟨a1, a2, a3⟩
    · rcases swap_get i1 j1 hy with ⟨rfl, rfl⟩ | ⟨b1, rfl, rfl⟩ | ⟨b1, b2, b3⟩
      · rfl
      · exact (h.inj _ _ _ _ hp hq e).symm
      · exact absurd (h.inj _ _ _ _ hp b3 e).symm b2
    · rcases swap_get i1 j1 hy with ⟨rfl, rfl⟩ | ⟨b1, rfl, rfl⟩ | ⟨b1, b2, b3⟩
      · exact (h.inj _ _ _ _ hq hp e).symm
      · rfl
      · exact absurd (h.inj _ _ _ _ hq b3 e).symm b1
    · rcases swap_get i1 j1 hy with ⟨rfl, rfl⟩ | ⟨b1, rfl, rfl⟩ | ⟨b1, b2, b3⟩
      · exact absurd (h.inj _ _ _ _ a3 hp e) a2
      · exact absurd (h.inj _ _ _ _ a3 hq e) a1
      · exact h.inj _ _ _ _ a3 b3 e
  · intro a x t hx ht
    have key : ∀ (c : Nat) (y : Nat × Nat) (u : List Nat), hd[c]? = some y → m[c]? = some u → Blk ((w.setCell ⟨bo, i, none⟩ (hv s.length q)).setCell ⟨bo, j, none⟩ (hv r.length p)) y.1 5 (u.map bv) ∧ B ≤ y.1 ∧ u.length ≤ y.2 := by
      intro c y u hy hu
      have h1 := h.rows c y u hy hu
      have h2 := h.not_row hy
      exact ⟨(h1.1.setCell_other (p := ⟨bo, i, none⟩) h2 _).setCell_other (p := ⟨bo, j, none⟩) h2 _, h1.2⟩
    rcases swap_get i1 j1 hx with ⟨rfl, rfl⟩ | ⟨a1, rfl, rfl⟩ | ⟨a1, a2, a3⟩
    · rcases swap_get i2 j2 ht with ⟨_, rfl⟩ | ⟨b1, _, _⟩ | ⟨b1, _, _⟩
      · exact key i x t hp hr
      · exact absurd rfl b1
      · exact absurd rfl b1
    · rcases swap_get i2 j2 ht with ⟨b0, _⟩ | ⟨b1, _, rfl⟩ | ⟨b1, b2, _⟩
      · exact absurd b0 a1
      · exact key j x t hq hs
      · exact absurd rfl b2
    · rcases swap_get i2 j2 ht with ⟨b0, _⟩ | ⟨b1, b2, _⟩ | ⟨b1, b2, b3⟩
      · exact absurd b0 a1
      · exact absurd b2 a2
      · exact key a x t a3 b3
  · have e : hvs ((hd.set i q).set j p) ((m.set i s).set j r) = ((hvs hd m).set i (hv s.length q)).set j (hv r.length p) := by
      apply List.ext_getElem?
      intro k
      simp only [hvs, List.getElem?_zipWith]
      by_cases hk : j = k
      · subst hk
        rw [List.getElem?_set_self (by simpa using j1), List.getElem?_set_self (by simpa using j2), List.getElem?_set_self (by simp; omega)]
      · rw [List.getElem?_set_ne hk, List.getElem?_set_ne hk, List.getElem?_set_ne hk]
        by_cases hk2 : i = k
        · subst hk2
          rw [List.getElem?_set_self i1, List.getElem?_set_self i2, List.getElem?_set_self (by simp; omega)]
        · rw [List.getElem?_set_ne hk2, List.getElem?_set_ne hk2, List.getElem?_set_ne hk2, List.getElem?_zipWith]
    rw [e]
    exact (h.outer.setCell (by omega) _).setCell (by simp; omega) _

/-- What a function that returns rows of its own and the number of an error leaves. -/
def RowsErr (rows : List (List Nat)) (err : Nat) (w : World) (e : Ending) (w' : World) : Prop :=
  ∃ v hd, e = .returned (.tuple #[v, .int .i64 err]) ∧ GM w' w.heap.size v hd rows ∧ Below w.heap.size w w'

end Go.Proofs.Ytkclmfppjhmnjaa

namespace Go.Proofs.Ytkclmfppjhmnjaa

theorem getD_get {α : Type} {l : List α} {i : Nat} {d x : α} (h : l[i]? = some x) : l.getD i d = x := by rw [List.getD_eq_getElem?_getD, h]; rfl

/-- Two matrices side by side. -/
def zip2 (m o : List (List Nat)) : List (List Nat) := List.zipWith (· ++ ·) m o

theorem zip2_length {m o : List (List Nat)} (h : m.length = o.length) : (zip2 m o).length = m.length := by simp [zip2, h]
theorem zip2_get {m o : List (List Nat)} {i : Nat} {r s : List Nat} (hr : m[i]? = some r) (hs : o[i]? = some s) : (zip2 m o)[i]? = some (r ++ s) := by simp [zip2, List.getElem?_zipWith, hr, hs]

theorem zip2_getD {m o : List (List Nat)} (h : m.length = o.length) (i : Nat) : (zip2 m o).getD i [] = m.getD i [] ++ o.getD i [] := by
  by_cases hi : i < m.length
  · have h1 : m[i]? = some (m.getD i []) := List.getElem?_eq_getElem hi ▸ by rw [List.getD_eq_getElem?_getD, List.getElem?_eq_getElem hi]; rfl
    have h2 : o[i]? = some (o.getD i []) := by rw [List.getD_eq_getElem?_getD, List.getElem?_eq_getElem (by omega)]; rfl
    exact getD_get (zip2_get h1 h2)
  · have e1 : m.getD i [] = [] := by rw [List.getD_eq_getElem?_getD, List.getElem?_eq_none (by omega)]; rfl
    have e2 : o.getD i [] = [] := by rw [List.getD_eq_getElem?_getD, List.getElem?_eq_none (by omega)]; rfl
    have e3 : (zip2 m o).getD i [] = [] := by rw [List.getD_eq_getElem?_getD, List.getElem?_eq_none (by rw [zip2_length h]; omega)]; rfl
    rw [e1, e2, e3]; rfl

theorem zip2_set {m o : List (List Nat)} (i : Nat) (r s : List Nat) : (zip2 m o).set i (r ++ s) = zip2 (m.set i r) (o.set i s) := by
  unfold zip2
  apply List.ext_getElem?
  intro j
  by_cases h : i = j
  · subst h
    by_cases h1 : i < m.length
    · by_cases h2 : i < o.length
      · rw [List.getElem?_set_self (by simp; omega), List.getElem?_zipWith, List.getElem?_set_self h1, List.getElem?_set_self h2]
      · rw [List.getElem?_eq_none (by simp; omega), List.getElem?_zipWith, List.getElem?_eq_none (l := o.set i s) (by simp; omega)]
        cases (m.set i r)[i]? <;> rfl
    · rw [List.getElem?_eq_none (by simp; omega), List.getElem?_zipWith, List.getElem?_eq_none (l := m.set i r) (by simp; omega)]
  · rw [List.getElem?_set_ne h, List.getElem?_zipWith, List.getElem?_zipWith, List.getElem?_set_ne h, List.getElem?_set_ne h]

theorem zip2_swap {m o : List (List Nat)} (h : m.length = o.length) (i j : Nat) : swapM (zip2 m o) i j = zip2 (swapM m i j) (swapM o i j) := by
  unfold swapM
  rw [zip2_getD h, zip2_getD h, zip2_set, zip2_set]

theorem swapM_comm (m : List (List Nat)) (i j : Nat) : swapM m i j = swapM m j i := by
  unfold swapM
  by_cases h : i = j
  · subst h; rfl
  · exact List.set_comm _ _ h

theorem getD_append_left {r s : List Nat} {c : Nat} (h : c < r.length) : (r ++ s).getD c 0 = r.getD c 0 := by
  rw [List.getD_eq_getElem?_getD, List.getElem?_append_left h, ← List.getD_eq_getElem?_getD]

theorem addMul_append {f : Nat} {r s p q : List Nat} (h : r.length = p.length) : addMul f (r ++ s) (p ++ q) = addMul f r p ++ addMul f s q := by
  unfold addMul; rw [List.zipWith_append h]

theorem addMul_self {g : Nat} (hg : g < 256) : ∀ {r : List Nat}, Byt r → addMul (g ^^^ 1) r r = r.map fun t => Gf.gm t g
  | [], _ => rfl
  | t :: r, h => by
    have ht : t < 256 := h t (by simp)
    show (t ^^^ Gf.gm (g ^^^ 1) t) :: addMul (g ^^^ 1) r r = Gf.gm t g :: _
    rw [addMul_self hg (r := r) fun x hx => h x (by simp [hx]), Gf.xor_gm hg (by decide) ht, Gf.one_gm ht]
    congr 1
    rw [Nat.xor_comm (Gf.gm g t) t, ← Nat.xor_assoc, Nat.xor_self, Nat.zero_xor, Gf.gm_comm]

/-- The row of a pivot, divided by it, by products alone. -/
theorem unitRow_eq {c : Nat} {r : List Nat} (hr : Byt r) : unitRow c r = r.map fun t => Gf.gm t (Gf.gi (r.getD c 0)) := addMul_self (Gf.gi_lt _) hr

theorem Byt.append {r s : List Nat} (hr : Byt r) (hs : Byt s) : Byt (r ++ s) := fun x hx => by
  rcases List.mem_append.1 hx with h | h
  · exact hr x h
  · exact hs x h

theorem zip2_rect {n k : Nat} {m o : List (List Nat)} (hm : Rect n m) (ho : Rect k o) : Rect (n + k) (zip2 m o) := by
  intro x hx
  obtain ⟨i, hi⟩ := List.mem_iff_getElem?.1 hx
  unfold zip2 at hi
  rw [List.getElem?_zipWith] at hi
  cases h1 : m[i]? with
  | none => simp [h1] at hi
  | some r =>
    cases h2 : o[i]? with
    | none => simp [h1, h2] at hi
    | some s =>
      simp only [h1, h2, Option.some.injEq] at hi
      subst hi
      have a := hm r (List.mem_of_getElem? h1)
      have b := ho s (List.mem_of_getElem? h2)
      exact ⟨by rw [List.length_append, a.1, b.1], a.2.append b.2⟩

theorem find_congr {p q : Nat → Bool} : ∀ (l : List Nat), (∀ x ∈ l, p x = q x) → l.find? p = l.find? q
  | [], _ => rfl
  | x :: l, h => by
    rw [List.find?_cons, List.find?_cons, h x (by simp), find_congr l fun y hy => h y (by simp [hy])]

theorem pivotAt_zip2 {n : Nat} {m o : List (List Nat)} (hm : Rect n m) (h : m.length = o.length) {c : Nat} (hc : c < n) (rank : Nat) : pivotAt (zip2 m o) c rank = pivotAt m c rank := by
  unfold pivotAt
  rw [zip2_length h]
  have key : ∀ (p q : Nat → Bool) (k : Nat), (∀ j, j < k → p j = q j) → firstOf p k = firstOf q k := by
    intro p q k hpq
    have : (List.range k).find? p = (List.range k).find? q := find_congr _ fun x hx => hpq x (List.mem_range.1 hx)
    unfold firstOf
    rw [this]
  apply key
  intro j hj
  rw [zip2_getD h, getD_append_left (by rw [(hm.get (i := rank + j) (by omega)).1]; exact hc)]

/-- Row i of the second matrix, when the rows of the first one are eliminated by their column c. -/
def elimRowO (m : List (List Nat)) (pv : List Nat) (c rank i : Nat) (s : List Nat) : List Nat := if i = rank then s else addMul ((m.getD i []).getD c 0) s pv
def elimO (m : List (List Nat)) (pv : List Nat) (c rank : Nat) (o : List (List Nat)) : List (List Nat) := o.mapIdx (elimRowO m pv c rank)

theorem elimM_zip2 {n : Nat} {m o : List (List Nat)} (hm : Rect n m) (h : m.length = o.length) {pv qv : List Nat} (hp : pv.length = n) {c : Nat} (hc : c < n) (rank : Nat) :
    elimM (pv ++ qv) c rank (zip2 m o) = zip2 (elimM pv c rank m) (elimO m qv c rank o) := by
  apply List.ext_getElem?
  intro i
  unfold elimM elimO
  by_cases hi : i < m.length
  · have h1 : m[i]? = some (m.getD i []) := getD_some hi
    have h2 : o[i]? = some (o.getD i []) := getD_some (by omega)
    have hr := hm.get hi
    rw [List.getElem?_mapIdx, zip2_get h1 h2]
    rw [zip2_get (r := elimRow pv c rank i (m.getD i [])) (s := elimRowO m qv c rank i (o.getD i [])) (by rw [List.getElem?_mapIdx, h1]; rfl) (by rw [List.getElem?_mapIdx, h2]; rfl)]
    show some (elimRow (pv ++ qv) c rank i (m.getD i [] ++ o.getD i [])) = _
    unfold elimRow elimRowO
    split
    · rfl
    · rw [getD_append_left (by rw [hr.1]; exact hc), addMul_append (by rw [hr.1, hp])]
  · rw [List.getElem?_eq_none (by simp [zip2]; omega), List.getElem?_eq_none (by simp [zip2]; omega)]

/-- One column, for the two matrices. -/
theorem hitM_zip2 {n k : Nat} {m o : List (List Nat)} (hm : Rect n m) (ho : Rect k o) (h : m.length = o.length) {c rank p : Nat} (hc : c < n) (hr : rank + p < m.length) {x : Nat} (hx : x = Gf.gi (((swapM m rank (rank + p)).getD rank []).getD c 0)) :
    hitM (zip2 m o) c rank p =
      zip2 (elimM (((swapM m rank (rank + p)).getD rank []).map fun t => Gf.gm t x) c rank ((swapM m rank (rank + p)).set rank (((swapM m rank (rank + p)).getD rank []).map fun t => Gf.gm t x)))
        (elimO ((swapM m rank (rank + p)).set rank (((swapM m rank (rank + p)).getD rank []).map fun t => Gf.gm t x)) (((swapM o rank (rank + p)).getD rank []).map fun t => Gf.gm t x) c rank ((swapM o rank (rank + p)).set rank (((swapM o rank (rank + p)).getD rank []).map fun t => Gf.gm t x))) := by
  have hm1 : Rect n (swapM m rank (rank + p)) := swapM_rect hm (by omega) hr
  have ho1 : Rect k (swapM o rank (rank + p)) := swapM_rect ho (by omega) (by omega)
  have hl1 : (swapM m rank (rank + p)).length = (swapM o rank (rank + p)).length := by rw [swapM_length, swapM_length, h]
  have hrl : rank < (swapM m rank (rank + p)).length := by rw [swapM_length]; omega
  unfold hitM
  rw [zip2_swap h]
  dsimp only
  generalize swapM m rank (rank + p) = m1 at *
  generalize swapM o rank (rank + p) = o1 at *
  have a := hm1.get hrl
  have b := ho1.get (i := rank) (by omega)
  rw [zip2_getD hl1]
  have hu : unitRow c (m1.getD rank [] ++ o1.getD rank []) = ((m1.getD rank []).map fun t => Gf.gm t x) ++ ((o1.getD rank []).map fun t => Gf.gm t x) := by
    rw [unitRow_eq (a.2.append b.2), List.map_append, getD_append_left (by rw [a.1]; exact hc), hx]
  have hxl : x < 256 := by rw [hx]; exact Gf.gi_lt _
  have bytm : ∀ (l : List Nat), Byt (l.map fun t => Gf.gm t x) := fun l y hy => by
    obtain ⟨t, _, rfl⟩ := List.mem_map.1 hy
    exact Gf.gm_lt _ _
  rw [hu, zip2_set, elimM_zip2 (hm1.set ⟨by rw [List.length_map]; exact a.1, bytm _⟩ rank) (by simpa using hl1) (by rw [List.length_map]; exact a.1) hc]

/-- The first k rows are done. -/
def mapTo (f : Nat → List Nat → List Nat) (m : List (List Nat)) (k : Nat) : List (List Nat) := (m.mapIdx f).take k ++ m.drop k
theorem mapTo_zero (f : Nat → List Nat → List Nat) (m : List (List Nat)) : mapTo f m 0 = m := by simp [mapTo]
theorem mapTo_all (f : Nat → List Nat → List Nat) (m : List (List Nat)) {k : Nat} (hk : m.length ≤ k) : mapTo f m k = m.mapIdx f := by
  unfold mapTo
  rw [List.take_of_length_le (by simpa using hk), List.drop_of_length_le hk, List.append_nil]
theorem mapTo_length (f : Nat → List Nat → List Nat) (m : List (List Nat)) (k : Nat) : (mapTo f m k).length = m.length := by
  unfold mapTo; simp; omega
theorem mapTo_get (f : Nat → List Nat → List Nat) (m : List (List Nat)) {k i : Nat} (hk : k ≤ m.length) (hi : k ≤ i) : (mapTo f m k)[i]? = m[i]? := by
  have h1 : ((m.mapIdx f).take k).length = k := by simp; omega
  unfold mapTo
  rw [List.getElem?_append_right (by omega), h1, List.getElem?_drop]
  congr 1; omega
theorem mapTo_old (f : Nat → List Nat → List Nat) (m : List (List Nat)) {k i : Nat} {r : List Nat} (hk : k ≤ m.length) (hi : i < k) (hr : m[i]? = some r) : (mapTo f m k)[i]? = some (f i r) := by
  have h1 : ((m.mapIdx f).take k).length = k := by simp; omega
  unfold mapTo
  rw [List.getElem?_append_left (by omega), List.getElem?_take, if_pos hi]
  simp [hr]
theorem mapTo_step (f : Nat → List Nat → List Nat) (m : List (List Nat)) {k : Nat} {r : List Nat} (hr : m[k]? = some r) : (mapTo f m k).set k (f k r) = mapTo f m (k + 1) := by
  have hk := (List.getElem?_eq_some_iff.1 hr).1
  have h1 : ((m.mapIdx f).take k).length = k := by simp; omega
  have h2 : (m.mapIdx f)[k]? = some (f k r) := by simp [hr]
  unfold mapTo
  rw [List.set_append_right _ _ (by omega), h1, Nat.sub_self, List.take_add_one, h2, List.drop_eq_getElem_cons hk, List.append_assoc]
  rfl
theorem mapTo_fix (f : Nat → List Nat → List Nat) (m : List (List Nat)) {k : Nat} {r : List Nat} (hr : m[k]? = some r) (hf : f k r = r) : mapTo f m (k + 1) = mapTo f m k := by
  rw [← mapTo_step f m hr, hf]
  have hk := (List.getElem?_eq_some_iff.1 hr).1
  have : (mapTo f m k)[k]? = some r := by rw [mapTo_get _ _ (by omega) (Nat.le_refl _)]; exact hr
  exact List.ext_getElem? fun i => by
    by_cases h : k = i
    · subst h; rw [List.getElem?_set_self (List.getElem?_eq_some_iff.1 this).1, this]
    · rw [List.getElem?_set_ne h]
/-- A row that f leaves alone. -/
theorem mapTo_keep (f : Nat → List Nat → List Nat) (m : List (List Nat)) {k i : Nat} {r : List Nat} (hk : k ≤ m.length) (hr : m[i]? = some r) (hf : f i r = r) : (mapTo f m k)[i]? = some r := by
  by_cases h : i < k
  · rw [mapTo_old f m hk h hr, hf]
  · rw [mapTo_get f m hk (by omega)]; exact hr
theorem mapTo_rect {n : Nat} {f : Nat → List Nat → List Nat} {m : List (List Nat)} (h : Rect n m) (hf : ∀ i r, m[i]? = some r → (f i r).length = n ∧ Byt (f i r)) (k : Nat) : Rect n (mapTo f m k) := by
  intro x hx
  unfold mapTo at hx
  rcases List.mem_append.1 hx with h1 | h1
  · have := List.mem_of_mem_take h1
    obtain ⟨i, hi, rfl⟩ := List.mem_mapIdx.1 this
    exact hf i _ (List.getElem?_eq_getElem hi)
  · exact h x (List.mem_of_mem_drop h1)

theorem elimRow_rect {n : Nat} {pv : List Nat} (hp : pv.length = n) (c rank : Nat) {m : List (List Nat)} (h : Rect n m) : ∀ i r, m[i]? = some r → (elimRow pv c rank i r).length = n ∧ Byt (elimRow pv c rank i r) := by
  intro i r hr
  have a := h r (List.mem_of_getElem? hr)
  unfold elimRow
  split
  · exact a
  · exact ⟨by rw [addMul_length]; omega, addMul_byt a.2⟩
theorem elimRowO_rect {n : Nat} {pv : List Nat} (hp : pv.length = n) (mm : List (List Nat)) (c rank : Nat) {m : List (List Nat)} (h : Rect n m) : ∀ i r, m[i]? = some r → (elimRowO mm pv c rank i r).length = n ∧ Byt (elimRowO mm pv c rank i r) := by
  intro i r hr
  have a := h r (List.mem_of_getElem? hr)
  unfold elimRowO
  split
  · exact a
  · exact ⟨by rw [addMul_length]; omega, addMul_byt a.2⟩

theorem pivot_hit {m : List (List Nat)} {c rank q : Nat} (h1 : rank ≤ q) (h2 : q < m.length) (h3 : (m.getD q []).getD c 0 ≠ 0) (h4 : ∀ j, rank ≤ j → j < q → (m.getD j []).getD c 0 = 0) : pivotAt m c rank = ((q - rank : Nat) : Int) := by
  unfold pivotAt
  apply firstOf_hit (by omega)
  · rw [show rank + (q - rank) = q by omega]; simpa using h3
  · intro j hj
    have := h4 (rank + j) (by omega) (by omega)
    rw [this]; rfl
theorem pivot_none {m : List (List Nat)} {c rank : Nat} (h4 : ∀ j, rank ≤ j → j < m.length → (m.getD j []).getD c 0 = 0) : pivotAt m c rank = -1 := by
  unfold pivotAt
  apply firstOf_none
  intro j hj
  have := h4 (rank + j) (by omega) (by omega)
  rw [this]; rfl

end Go.Proofs.Ytkclmfppjhmnjaa
