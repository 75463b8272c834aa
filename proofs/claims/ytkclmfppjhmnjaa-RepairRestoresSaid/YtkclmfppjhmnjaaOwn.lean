/- Slices of rows that the call itself makes: a list of rows that grows by append, and one that is changed in place. -/
import Derived.Test.YtkclmfppjhmnjaaMem
namespace Go.Proofs.Ytkclmfppjhmnjaa
open Go.RowKit

/-- A row of n bytes at the head of block p.1, with capacity p.2. -/
def hv (n : Nat) (p : Nat × Nat) : Value := .slice (some ⟨p.1, 0, none⟩) n p.2
def hvs (hd : List (Nat × Nat)) (m : List (List Nat)) : List Value := List.zipWith (fun p r => hv r.length p) hd m

theorem Blk.type {w : World} {g T T' : Nat} {xs ys : List Value} (h : Blk w g T xs) (h' : Blk w g T' ys) : T = T' := by
  obtain ⟨r, h⟩ := h
  obtain ⟨r', h'⟩ := h'
  rw [h] at h'
  simp only [Option.some.injEq, Obj.cells.injEq] at h'
  exact h'.2.1

theorem owns_block {w : World} {B T n : Nat} {v : Value} {xs : List Value} (h : w.ownsRow B T 1 v n xs) {k : Nat} (hk : v.ownBlock = some k) : Blk w k T xs ∧ B ≤ k ∧ ∃ cap, v = .slice (some ⟨k, 0, none⟩) n cap ∧ n ≤ cap ∧ cap ≤ maxLen := by
  rcases h.2 with ⟨rfl, _⟩ | ⟨g, cap, cur, rfl, hb, hg, h1, h2, _⟩
  · simp [Value.ownBlock] at hk
  · simp only [Value.ownBlock, Option.some.injEq] at hk
    subst hk
    exact ⟨Blk.of_owns h, hb, cap, rfl, h1, h2⟩

/-- The rows of m lie in blocks of the call's own. -/
structure OwnRows (w : World) (B : Nat) (hd : List (Nat × Nat)) (m : List (List Nat)) : Prop where
  len : hd.length = m.length
  inj : ∀ (i j : Nat) (p q : Nat × Nat), hd[i]? = some p → hd[j]? = some q → p.1 = q.1 → i = j
  rows : ∀ (i : Nat) (p : Nat × Nat) (r : List Nat), hd[i]? = some p → m[i]? = some r → Blk w p.1 5 (r.map bv) ∧ B ≤ p.1 ∧ r.length ≤ p.2

/-- A slice of rows of the call's own that may still grow. -/
structure GM (w : World) (B : Nat) (v : Value) (hd : List (Nat × Nat)) (m : List (List Nat)) : Prop extends OwnRows w B hd m where
  outer : w.ownsRow B 26 1 v m.length (hvs hd m)

/-- A slice of rows of the call's own, in block bo. -/
structure OM (w : World) (B bo : Nat) (hd : List (Nat × Nat)) (m : List (List Nat)) : Prop extends OwnRows w B hd m where
  outer : Blk w bo 26 (hvs hd m)
  obase : B ≤ bo

theorem OwnRows.kept {w w' : World} {B : Nat} {hd : List (Nat × Nat)} {m : List (List Nat)} {S : Nat → Prop} (h : OwnRows w B hd m) (k : Kept S w w') (hS : ∀ (i : Nat) (p : Nat × Nat), hd[i]? = some p → ¬ S p.1) : OwnRows w' B hd m :=
  ⟨h.len, h.inj, fun i p r hp hr => ⟨(h.rows i p r hp hr).1.kept k (hS i p hp), (h.rows i p r hp hr).2⟩⟩

theorem OwnRows.nil (w : World) (B : Nat) : OwnRows w B [] [] := ⟨rfl, fun i j p q h => by simp at h, fun i p r h => by simp at h⟩

theorem OwnRows.row {w : World} {B : Nat} {hd : List (Nat × Nat)} {m : List (List Nat)} (h : OwnRows w B hd m) {i : Nat} {p : Nat × Nat} (hp : hd[i]? = some p) : ∃ r, m[i]? = some r := by
  have := (List.getElem?_eq_some_iff.1 hp).1
  exact ⟨m[i]'(by rw [← h.len]; exact this), List.getElem?_eq_getElem _⟩

theorem OwnRows.lt {w : World} {B : Nat} {hd : List (Nat × Nat)} {m : List (List Nat)} (h : OwnRows w B hd m) {i : Nat} {p : Nat × Nat} (hp : hd[i]? = some p) : p.1 < w.heap.size ∧ B ≤ p.1 := by
  obtain ⟨r, hr⟩ := h.row hp
  have := h.rows i p r hp hr
  exact ⟨this.1.lt, this.2.1⟩

theorem snoc_get {α : Type} {l : List α} {x y : α} {i : Nat} (h : (l ++ [x])[i]? = some y) : (i < l.length ∧ l[i]? = some y) ∨ (i = l.length ∧ y = x) := by
  by_cases hi : i < l.length
  · rw [List.getElem?_append_left hi] at h; exact Or.inl ⟨hi, h⟩
  · have hl := (List.getElem?_eq_some_iff.1 h).1
    have hi' : i = l.length := by simp at hl; omega
    subst hi'
    have e1 : (l ++ [x])[l.length]? = some x := by simp
    rw [e1] at h
    exact Or.inr ⟨rfl, by simpa using h.symm⟩

/-- One row more, in a new block. -/
theorem OwnRows.snoc {w w' : World} {B : Nat} {hd : List (Nat × Nat)} {m : List (List Nat)} (h : OwnRows w B hd m) {S : Nat → Prop} (k : Kept S w w') (hS : ∀ (i : Nat) (p : Nat × Nat), hd[i]? = some p → ¬ S p.1)
    {p : Nat × Nat} {r : List Nat} (hg : Blk w' p.1 5 (r.map bv)) (hp : w.heap.size ≤ p.1) (hB : B ≤ w.heap.size) (hc : r.length ≤ p.2) : OwnRows w' B (hd ++ [p]) (m ++ [r]) := by
  have h' := h.kept k hS
  refine ⟨by simp [h.len], ?_, ?_⟩
  · intro i j q s hq hs e
    rcases snoc_get hq with ⟨i1, i2⟩ | ⟨i1, rfl⟩
    · rcases snoc_get hs with ⟨j1, j2⟩ | ⟨j1, rfl⟩
      · exact h.inj i j q s i2 j2 e
      · have := (h.lt i2).1; omega
    · rcases snoc_get hs with ⟨j1, j2⟩ | ⟨j1, rfl⟩
      · have := (h.lt j2).1; omega
      · omega
  · intro i q s hq hs
    rcases snoc_get hq with ⟨i1, i2⟩ | ⟨i1, rfl⟩
    · rcases snoc_get hs with ⟨j1, j2⟩ | ⟨j1, rfl⟩
      · exact h'.rows i q s i2 j2
      · rw [h.len] at i1; omega
    · rcases snoc_get hs with ⟨j1, j2⟩ | ⟨j1, rfl⟩
      · rw [← h.len] at j1; omega
      · exact ⟨hg, by omega, hc⟩

theorem hvs_snoc {hd : List (Nat × Nat)} {m : List (List Nat)} (h : hd.length = m.length) (p : Nat × Nat) (r : List Nat) : hvs (hd ++ [p]) (m ++ [r]) = hvs hd m ++ [hv r.length p] := by
  unfold hvs
  rw [List.zipWith_append h]
  rfl

theorem hvs_get {hd : List (Nat × Nat)} {m : List (List Nat)} {i : Nat} {p : Nat × Nat} {r : List Nat} (hp : hd[i]? = some p) (hr : m[i]? = some r) : (hvs hd m)[i]? = some (hv r.length p) := by
  simp [hvs, List.getElem?_zipWith, hp, hr]

theorem hvs_length {hd : List (Nat × Nat)} {m : List (List Nat)} (h : hd.length = m.length) : (hvs hd m).length = m.length := by simp [hvs, h]

theorem GM.nil (w : World) (B : Nat) : GM w B (.slice none 0 0) [] [] := { OwnRows.nil w B with outer := World.ownsRow_nil w B _ 1 }

theorem GM.not_own {w : World} {B : Nat} {v : Value} {hd : List (Nat × Nat)} {m : List (List Nat)} (h : GM w B v hd m) {i : Nat} {p : Nat × Nat} (hp : hd[i]? = some p) : ¬ some p.1 = v.ownBlock := by
  intro e
  obtain ⟨r, hr⟩ := h.row hp
  have := (owns_block h.outer e.symm).1.type (h.rows i p r hp hr).1
  exact absurd this (by decide)

theorem owns_kept {w w' : World} {B T n : Nat} {v : Value} {xs : List Value} {S : Nat → Prop} (h : w.ownsRow B T 1 v n xs) (k : Kept S w w') (hS : ∀ g, v.ownBlock = some g → ¬ S g) : w'.ownsRow B T 1 v n xs := by
  refine ⟨h.1, ?_⟩
  rcases h.2 with hn | ⟨g, cap, cur, rfl, hb, hgg, rest⟩
  · exact .inl hn
  · refine .inr ⟨g, cap, cur, rfl, hb, ?_, rest⟩
    rw [k.block g (Array.getElem?_eq_some_iff.1 hgg).1 (hS g rfl)]
    exact hgg

theorem GM.kept {w w' : World} {B : Nat} {v : Value} {hd : List (Nat × Nat)} {m : List (List Nat)} {S : Nat → Prop} (h : GM w B v hd m) (k : Kept S w w') (hS : ∀ g, B ≤ g → ¬ S g) : GM w' B v hd m :=
  { h.toOwnRows.kept k (fun _ _ hp => hS _ (h.lt hp).2) with outer := owns_kept h.outer k fun g hg => hS g (owns_block h.outer hg).2.1 }

/-- Nothing of what was there has changed. -/
theorem GM.new {w w' : World} {B : Nat} {v : Value} {hd : List (Nat × Nat)} {m : List (List Nat)} (h : GM w B v hd m) (k : Below w.heap.size w w') : GM w' B v hd m :=
  h.kept (S := fun _ => False) (.of_new k) fun _ _ => id

/-- A row has been made (w to w1), laid in a new cell (w2) and appended (w3). -/
theorem GM.snoc {w w1 w3 : World} {B : Nat} {v v' : Value} {hd : List (Nat × Nat)} {m : List (List Nat)} (h : GM w B v hd m) (k1 : Below w.heap.size w w1) {p : Nat × Nat} {r : List Nat} (hg : Blk w1 p.1 5 (r.map bv))
    (hp : w.heap.size ≤ p.1) (hB : B ≤ w.heap.size) (hc : r.length ≤ p.2) {o : Obj} (hown : w3.ownsRow B 26 1 v' (m.length + 1) (hvs hd m ++ [hv r.length p])) (hgr : (w1.alloc o).grownBy w3 v.ownBlock) :
    GM w3 B v' (hd ++ [p]) (m ++ [r]) := by
  have kk : Kept (fun k => some k = v.ownBlock) w w3 := (Kept.of_new k1).trans ((((Kept.refl _ w1).alloc o)).trans (Kept.of_grown hgr))
  have hne : ¬ some p.1 = v.ownBlock := by
    intro e
    have := (owns_block h.outer e.symm).1.lt
    omega
  have kg : Blk w3 p.1 5 (r.map bv) := (hg.alloc o).kept (Kept.of_grown hgr) hne
  refine { h.toOwnRows.snoc kk (fun _ _ hq => h.not_own hq) kg hp hB hc with outer := ?_ }
  rw [hvs_snoc h.len, List.length_append]
  exact hown

/-- The list has grown to its full length, and is not empty. -/
theorem GM.done {w : World} {B : Nat} {v : Value} {hd : List (Nat × Nat)} {m : List (List Nat)} (h : GM w B v hd m) (hm : m ≠ []) : ∃ bo cap, v = .slice (some ⟨bo, 0, none⟩) m.length cap ∧ m.length ≤ cap ∧ cap ≤ maxLen ∧ OM w B bo hd m := by
  rcases h.outer.2 with ⟨rfl, h0⟩ | ⟨g, cap, cur, rfl, hb, hgg, h1, h2, h3⟩
  · exact absurd (List.length_eq_zero_iff.1 h0) hm
  · exact ⟨g, cap, rfl, h1, h2, { h.toOwnRows with outer := Blk.of_owns h.outer, obase := hb }⟩

theorem OM.not_row {w : World} {B bo : Nat} {hd : List (Nat × Nat)} {m : List (List Nat)} (h : OM w B bo hd m) {i : Nat} {p : Nat × Nat} (hp : hd[i]? = some p) : p.1 ≠ bo := by
  intro e
  obtain ⟨r, hr⟩ := h.row hp
  have h1 := (h.rows i p r hp hr).1
  rw [e] at h1
  exact absurd (h1.type h.outer) (by decide)

theorem OM.kept {w w' : World} {B bo : Nat} {hd : List (Nat × Nat)} {m : List (List Nat)} {S : Nat → Prop} (h : OM w B bo hd m) (k : Kept S w w') (hS : ∀ g, B ≤ g → ¬ S g) : OM w' B bo hd m :=
  { h.toOwnRows.kept k (fun _ _ hp => hS _ (h.lt hp).2) with outer := h.outer.kept k (hS bo h.obase), obase := h.obase }

theorem OM.kept' {w w' : World} {B bo : Nat} {hd : List (Nat × Nat)} {m : List (List Nat)} {S : Nat → Prop} (h : OM w B bo hd m) (k : Kept S w w') (hS : ∀ (i : Nat) (p : Nat × Nat), hd[i]? = some p → ¬ S p.1) (hb : ¬ S bo) : OM w' B bo hd m :=
  { h.toOwnRows.kept k hS with outer := h.outer.kept k hb, obase := h.obase }

theorem OM.new {w w' : World} {B bo : Nat} {hd : List (Nat × Nat)} {m : List (List Nat)} (h : OM w B bo hd m) (k : Below w.heap.size w w') : OM w' B bo hd m :=
  h.kept (S := fun _ => False) (.of_new k) fun _ _ => id

/-- Row i has been changed in place. -/
theorem OM.setRow {w w' : World} {B bo : Nat} {hd : List (Nat × Nat)} {m : List (List Nat)} (h : OM w B bo hd m) {i : Nat} {p : Nat × Nat} {r r' : List Nat} (hp : hd[i]? = some p) (hr : m[i]? = some r) (hl : r'.length = r.length)
    (k : Kept (· = p.1) w w') (hb : Blk w' p.1 5 (r'.map bv)) : OM w' B bo hd (m.set i r') := by
  have hne := h.not_row hp
  have hi := (List.getElem?_eq_some_iff.1 hr).1
  refine { len := by simpa using h.len, inj := h.inj, rows := ?_, outer := ?_, obase := h.obase }
  · intro j q s hq hs
    by_cases hj : i = j
    · subst hj
      rw [hp] at hq
      simp only [Option.some.injEq] at hq
      subst hq
      rw [List.getElem?_set_self hi] at hs
      simp only [Option.some.injEq] at hs
      subst hs
      exact ⟨hb, (h.rows i p r hp hr).2.1, by rw [hl]; exact (h.rows i p r hp hr).2.2⟩
    · rw [List.getElem?_set_ne hj] at hs
      have h1 := h.rows j q s hq hs
      exact ⟨h1.1.kept k (fun e => hj (h.inj i j p q hp hq e.symm)), h1.2⟩
  · have : hvs hd (m.set i r') = hvs hd m := by
      apply List.ext_getElem?
      intro j
      simp only [hvs, List.getElem?_zipWith]
      by_cases hj : i = j
      · subst hj
        rw [List.getElem?_set_self hi, hp, hr]
        simp [hl]
      · rw [List.getElem?_set_ne hj]
    rw [this]
    exact h.outer.kept k (fun e => hne e.symm)

theorem swap_get {α : Type} {l : List α} {i j k : Nat} {x y z : α} (hi : i < l.length) (hj : j < l.length) (h : ((l.set i x).set j y)[k]? = some z) : (k = j ∧ z = y) ∨ (k ≠ j ∧ k = i ∧ z = x) ∨ (k ≠ j ∧ k ≠ i ∧ l[k]? = some z) := by
  by_cases hk : j = k
  · subst hk
    rw [List.getElem?_set_self (by simpa using hj)] at h
    exact Or.inl ⟨rfl, by simpa using h.symm⟩
  · rw [List.getElem?_set_ne hk] at h
    by_cases hk2 : i = k
    · subst hk2
      rw [List.getElem?_set_self hi] at h
      exact Or.inr (Or.inl ⟨fun e => hk e.symm, rfl, by simpa using h.symm⟩)
    · rw [List.getElem?_set_ne hk2] at h
      exact Or.inr (Or.inr ⟨fun e => hk e.symm, fun e => hk2 e.symm, h⟩)

/-- Two rows have been exchanged in the outer slice. -/
theorem OM.swap {w : World} {B bo : Nat} {hd : List (Nat × Nat)} {m : List (List Nat)} (h : OM w B bo hd m) {i j : Nat} {p q : Nat × Nat} {r s : List Nat} (hp : hd[i]? = some p) (hq : hd[j]? = some q) (hr : m[i]? = some r) (hs : m[j]? = some s) :
    OM ((w.setCell ⟨bo, i, none⟩ (hv s.length q)).setCell ⟨bo, j, none⟩ (hv r.length p)) B bo ((hd.set i q).set j p) ((m.set i s).set j r) := by
  have i1 := (List.getElem?_eq_some_iff.1 hp).1
  have j1 := (List.getElem?_eq_some_iff.1 hq).1
  have i2 := (List.getElem?_eq_some_iff.1 hr).1
  have j2 := (List.getElem?_eq_some_iff.1 hs).1
  have hlv := hvs_length h.len
  refine { len := by simpa using h.len, inj := ?_, rows := ?_, outer := ?_, obase := h.obase }
  · intro a b x y hx hy e
    rcases swap_get i1 j1 hx with ⟨rfl, rfl⟩ | ⟨a1, rfl, rfl⟩ | ⟨a1, a2, a3⟩
    · rcases swap_get i1 j1 hy with ⟨rfl, rfl⟩ | ⟨b1, rfl, rfl⟩ | ⟨b1, b2, b3⟩
      · rfl
      · exact (h.inj _ _ _ _ hp hq e).symm
      · exact absurd (h.inj _ _ _ _ hp b3 e).symm b2
    · rcases swap_get i1 j1 hy with ⟨rfl, rfl⟩ | ⟨b1, rfl, rfl⟩ | ⟨b1, b2, b3⟩
      · exact (h.inj _ _ _ _ hq hp e).symm
      · rfl
      · exact absurd (h.inj _ _ _ _ hq b3 e).symm b1
    · rcases swap_get i1 j1 hy with ⟨rfl, rfl⟩ | ⟨b1, rfl, rfl⟩ | ⟨b1, b2, b3⟩
      · exact absurd (h.inj _ _ _ _ a3 hp e) a2
      · exact absurd (h.inj _ _ _ _ a3 hq e) a1
      · exact h.inj _ _ _ _ a3 b3 e
  · intro a x t hx ht
    have key : ∀ (c : Nat) (y : Nat × Nat) (u : List Nat), hd[c]? = some y → m[c]? = some u → Blk ((w.setCell ⟨bo, i, none⟩ (hv s.length q)).setCell ⟨bo, j, none⟩ (hv r.length p)) y.1 5 (u.map bv) ∧ B ≤ y.1 ∧ u.length ≤ y.2 := by
      intro c y u hy hu
      have h1 := h.rows c y u hy hu
      have h2 := h.not_row hy
      exact ⟨(h1.1.setCell_other (p := ⟨bo, i, none⟩) h2 _).setCell_other (p := ⟨bo, j, none⟩) h2 _, h1.2⟩
    rcases swap_get i1 j1 hx with ⟨rfl, rfl⟩ | ⟨a1, rfl, rfl⟩ | ⟨a1, a2, a3⟩
    · rcases swap_get i2 j2 ht with ⟨_, rfl⟩ | ⟨b1, _, _⟩ | ⟨b1, _, _⟩
      · exact key i x t hp hr
      · exact absurd rfl b1
      · exact absurd rfl b1
    · rcases swap_get i2 j2 ht with ⟨b0, _⟩ | ⟨b1, _, rfl⟩ | ⟨b1, b2, _⟩
      · exact absurd b0 a1
      · exact key j x t hq hs
      · exact absurd rfl b2
    · rcases swap_get i2 j2 ht with ⟨b0, _⟩ | ⟨b1, b2, _⟩ | ⟨b1, b2, b3⟩
      · exact absurd b0 a1
      · exact absurd b2 a2
      · exact key a x t a3 b3
  · have e : hvs ((hd.set i q).set j p) ((m.set i s).set j r) = ((hvs hd m).set i (hv s.length q)).set j (hv r.length p) := by
      apply List.ext_getElem?
      intro k
      simp only [hvs, List.getElem?_zipWith]
      by_cases hk : j = k
      · subst hk
        rw [List.getElem?_set_self (by simpa using j1), List.getElem?_set_self (by simpa using j2), List.getElem?_set_self (by simp; omega)]
      · rw [List.getElem?_set_ne hk, List.getElem?_set_ne hk, List.getElem?_set_ne hk]
        by_cases hk2 : i = k
        · subst hk2
          rw [List.getElem?_set_self i1, List.getElem?_set_self i2, List.getElem?_set_self (by simp; omega)]
        · rw [List.getElem?_set_ne hk2, List.getElem?_set_ne hk2, List.getElem?_set_ne hk2, List.getElem?_zipWith]
    rw [e]
    exact (h.outer.setCell (by omega) _).setCell (by simp; omega) _

/-- What a function that returns rows of its own and the number of an error leaves. -/
def RowsErr (rows : List (List Nat)) (err : Nat) (w : World) (e : Ending) (w' : World) : Prop :=
  ∃ v hd, e = .returned (.tuple #[v, .int .i64 err]) ∧ GM w' w.heap.size v hd rows ∧ Below w.heap.size w w'

end Go.Proofs.Ytkclmfppjhmnjaa
