/- Memory in plain words: which blocks a call may change, blocks whose first cells are known, slices of bytes and of slices of bytes. -/
import Derived.WalkKit
import Derived.WalkSmall
import Derived.Lib.Hide
namespace Go.Proofs.Ytkclmfppjhmnjaa
open Go.RowKit

/-- Of the blocks of w those outside S are in w' as they were; the streams are as they were; no block has gone. -/
structure Kept (S : Nat → Prop) (w w' : World) : Prop where
  os : w'.os = w.os
  tape : w'.tape = w.tape
  output : w'.output = w.output
  size : w.heap.size ≤ w'.heap.size
  block : ∀ k, k < w.heap.size → ¬ S k → w'.heap[k]? = w.heap[k]?

theorem Kept.refl (S : Nat → Prop) (w : World) : Kept S w w := ⟨rfl, rfl, rfl, Nat.le_refl _, fun _ _ _ => rfl⟩

theorem Kept.trans {S : Nat → Prop} {a b c : World} (h : Kept S a b) (k : Kept S b c) : Kept S a c :=
  ⟨k.os.trans h.os, k.tape.trans h.tape, k.output.trans h.output, Nat.le_trans h.size k.size,
   fun i hi hs => (k.block i (Nat.lt_of_lt_of_le hi h.size) hs).trans (h.block i hi hs)⟩

theorem Kept.mono {S S' : Nat → Prop} {w w' : World} (h : Kept S w w') (hS : ∀ k, k < w.heap.size → S k → S' k) : Kept S' w w' :=
  ⟨h.os, h.tape, h.output, h.size, fun k hk hn => h.block k hk fun hs => hn (hS k hk hs)⟩

/-- What a later part of the run may change is either allowed or did not exist at the start. -/
theorem Kept.then {S S' : Nat → Prop} {a b c : World} (h : Kept S a b) (k : Kept S' b c) (hS : ∀ i, i < a.heap.size → S' i → S i) : Kept S a c :=
  ⟨k.os.trans h.os, k.tape.trans h.tape, k.output.trans h.output, Nat.le_trans h.size k.size,
   fun i hi hs => (k.block i (Nat.lt_of_lt_of_le hi h.size) fun hh => hs (hS i hi hh)).trans (h.block i hi hs)⟩

theorem Kept.drewN {S : Nat → Prop} {a w : World} (h : Kept S a w) (n : Nat) : Kept S a (w.drewN n) := h.trans ⟨rfl, rfl, rfl, Nat.le_refl _, fun _ _ _ => rfl⟩
theorem Kept.drew {S : Nat → Prop} {a w : World} (h : Kept S a w) : Kept S a w.drew := h.trans ⟨rfl, rfl, rfl, Nat.le_refl _, fun _ _ _ => rfl⟩

theorem Kept.alloc {S : Nat → Prop} {a w : World} (h : Kept S a w) (o : Obj) : Kept S a (w.alloc o) :=
  h.trans ⟨rfl, rfl, rfl, by simp, fun k hk _ => Below.heap_alloc _ _ _ hk⟩

theorem Kept.setCell {S : Nat → Prop} {a w : World} (h : Kept S a w) {p : Addr} (hp : p.block < a.heap.size → S p.block) (u : Value) : Kept S a (w.setCell p u) :=
  ⟨h.os, h.tape, h.output, by simpa [World.setCell] using h.size, fun k hk hn => by
    rw [Below.heap_setCell _ _ _ _ (fun e => hn (by subst e; exact hp hk))]; exact h.block k hk hn⟩

theorem Kept.of_below {S : Nat → Prop} {B : Nat} {w w' : World} (h : Below B w w') (hS : ∀ k, k < w.heap.size → B ≤ k → S k) : Kept S w w' :=
  ⟨h.os, h.tape, h.output, h.size, fun k hk hn => h.block k (Nat.lt_of_not_le fun hb => hn (hS k hk hb))⟩

theorem Kept.of_new {S : Nat → Prop} {w w' : World} (h : Below w.heap.size w w') : Kept S w w' := .of_below h fun _ h1 h2 => by omega

theorem Kept.of_grown {w w' : World} {row : Option Nat} (h : w.grownBy w' row) : Kept (fun k => some k = row) w w' :=
  ⟨h.os, h.tape, h.output, h.size, fun k hk hn => h.block k hk hn⟩

theorem Kept.below {S : Nat → Prop} {w w' : World} {B : Nat} (h : Kept S w w') (hB : B ≤ w.heap.size) (hS : ∀ k, k < B → ¬ S k) : Below B w w' :=
  ⟨h.os, h.tape, h.output, h.size, fun k hk => h.block k (by omega) (hS k hk)⟩

/-- Nothing that was there has changed. -/
theorem Kept.new {w w' : World} (h : Kept (fun _ => False) w w') : Below w.heap.size w w' := h.below (Nat.le_refl _) fun _ _ h => h

theorem Kept.cell {S : Nat → Prop} {w w' : World} (h : Kept S w w') {p : Addr} {v : Value} (hc : w.cell? p = some v) (hp : ¬ S p.block) : w'.cell? p = some v := by
  rw [World.cell?_of_block (w := w) (h.block p.block (World.block_lt_of_cell? w p hc) hp)]; exact hc

/-- Block g is a row of elements of type T, not frozen, whose first cells are xs. -/
def Blk (w : World) (g : Nat) (T : TypeId) (xs : List Value) : Prop := ∃ rest : List Value, w.heap[g]? = some (.cells (xs ++ rest).toArray T (0, 0))

theorem Blk.lt {w : World} {g T : Nat} {xs : List Value} (h : Blk w g T xs) : g < w.heap.size := by
  obtain ⟨r, h⟩ := h; exact (Array.getElem?_eq_some_iff.1 h).1

theorem Blk.of_same {w w' : World} {g T : Nat} {xs : List Value} (h : Blk w g T xs) (e : w'.heap[g]? = w.heap[g]?) : Blk w' g T xs := by
  obtain ⟨r, h⟩ := h; exact ⟨r, by rw [e, h]⟩

theorem Blk.kept {S : Nat → Prop} {w w' : World} {g T : Nat} {xs : List Value} (h : Blk w g T xs) (k : Kept S w w') (hg : ¬ S g) : Blk w' g T xs :=
  h.of_same (k.block g h.lt hg)

theorem Blk.below {B : Nat} {w w' : World} {g T : Nat} {xs : List Value} (h : Blk w g T xs) (k : Below B w w') (hg : g < B) : Blk w' g T xs :=
  h.of_same (k.block g hg)

theorem Blk.cell {w : World} {g T : Nat} {xs : List Value} (h : Blk w g T xs) {i : Nat} {v : Value} (hi : xs[i]? = some v) : w.cell? ⟨g, i, none⟩ = some v := by
  obtain ⟨r, h⟩ := h
  have hl := (List.getElem?_eq_some_iff.1 hi).1
  simp only [World.cell?, h]
  simp [List.getElem?_append_left hl, hi]

theorem Blk.frozen {w : World} {g T : Nat} {xs : List Value} (h : Blk w g T xs) (i : Nat) : w.frozen? ⟨g, i, none⟩ = false := by
  obtain ⟨r, h⟩ := h
  simp [World.frozen?, h]

theorem Blk.setCell {w : World} {g T : Nat} {xs : List Value} (h : Blk w g T xs) {i : Nat} (hi : i < xs.length) (u : Value) : Blk (w.setCell ⟨g, i, none⟩ u) g T (xs.set i u) := by
  obtain ⟨r, h⟩ := h
  refine ⟨r, ?_⟩
  simp only [World.setCell, Array.getElem?_modify, if_true, h, Option.map_some]
  simp [List.set_append_left _ _ hi]

theorem Blk.setCell_other {w : World} {g T : Nat} {xs : List Value} (h : Blk w g T xs) {p : Addr} (hp : g ≠ p.block) (u : Value) : Blk (w.setCell p u) g T xs :=
  h.of_same (Below.heap_setCell _ _ _ _ hp)

theorem Blk.alloc {w : World} {g T : Nat} {xs : List Value} (h : Blk w g T xs) (o : Obj) : Blk (w.alloc o) g T xs := h.of_same (Below.heap_alloc _ _ _ h.lt)
theorem Blk.drewN {w : World} {g T : Nat} {xs : List Value} (h : Blk w g T xs) (n : Nat) : Blk (w.drewN n) g T xs := h
theorem Blk.drew {w : World} {g T : Nat} {xs : List Value} (h : Blk w g T xs) : Blk w.drew g T xs := h

theorem Blk.new (w : World) (T : TypeId) (xs : Array Value) : Blk (w.alloc (.cells xs T)) w.heap.size T xs.toList := by
  refine ⟨[], ?_⟩
  show (w.heap.push _)[w.heap.size]? = _
  simp

theorem Blk.of_owns {w : World} {base e : Nat} {g n cap : Nat} {xs : List Value} (h : w.ownsRow base e 1 (.slice (some ⟨g, 0, none⟩) n cap) n xs) : Blk w g e xs := by
  rcases h.2 with ⟨h0, _⟩ | ⟨g', cap', cur, hv, _, hh, _, _, _, ht⟩
  · simp at h0
  · simp only [Value.slice.injEq, Option.some.injEq, Addr.mk.injEq] at hv
    obtain ⟨⟨rfl, _⟩, _, _⟩ := hv
    refine ⟨cur.toList.drop (n * 1), ?_⟩
    rw [hh, ← ht, List.take_append_drop]

theorem getD_some {α : Type} {l : List α} {i : Nat} {d : α} (h : i < l.length) : l[i]? = some (l.getD i d) := by
  rw [List.getD_eq_getElem?_getD, List.getElem?_eq_getElem h]; rfl

/-- A byte as a value. -/
def bv (n : Nat) : Value := .int .u8 n

/-- All elements are bytes. -/
def Byt (l : List Nat) : Prop := ∀ x ∈ l, x < 256

theorem Byt.get {l : List Nat} (h : Byt l) {i x : Nat} (hx : l[i]? = some x) : x < 256 := h x (List.mem_of_getElem? hx)
theorem Byt.getD {l : List Nat} (h : Byt l) (i : Nat) : l.getD i 0 < 256 := by
  rw [List.getD_eq_getElem?_getD]
  cases hx : l[i]? with
  | none => decide
  | some x => exact h.get hx

/-- From address (b, o) on lie the bytes l. -/
def RowAt (w : World) (b o : Nat) (l : List Nat) : Prop := ∀ i x, l[i]? = some x → w.cell? ⟨b, o + i, none⟩ = some (bv x)

theorem RowAt.kept {S : Nat → Prop} {w w' : World} {b o : Nat} {l : List Nat} (h : RowAt w b o l) (k : Kept S w w') (hb : ¬ S b) : RowAt w' b o l :=
  fun i x hx => k.cell (h i x hx) hb

theorem RowAt.drop {w : World} {b o : Nat} {l : List Nat} (h : RowAt w b o l) (k : Nat) : RowAt w b (o + k) (l.drop k) := by
  intro i x hx
  rw [List.getElem?_drop] at hx
  rw [Nat.add_assoc]; exact h _ x hx

theorem RowAt.take {w : World} {b o : Nat} {l : List Nat} (h : RowAt w b o l) (k : Nat) : RowAt w b o (l.take k) := by
  intro i x hx
  rw [List.getElem?_take] at hx
  split at hx
  · exact h _ x hx
  · simp at hx

theorem Blk.row {w : World} {g T : Nat} {l : List Nat} (h : Blk w g T (l.map bv)) : RowAt w g 0 l := by
  intro i x hx
  rw [Nat.zero_add]
  exact h.cell (by simp [hx])

/-- A slice of bytes reads as l. -/
def Bs (w : World) (v : Value) (l : List Nat) : Prop :=
  ∃ (a : Option Addr) (cap : Nat), v = .slice a l.length cap ∧ l.length ≤ cap ∧ (l = [] ∨ ∃ b o, a = some ⟨b, o, none⟩ ∧ RowAt w b o l)

/-- The blocks that a slice value points into. -/
def inBlk (v : Value) (k : Nat) : Prop := v.ownBlock = some k

theorem Bs.kept {S : Nat → Prop} {w w' : World} {v : Value} {l : List Nat} (h : Bs w v l) (k : Kept S w w') (hb : ∀ g, inBlk v g → l ≠ [] → ¬ S g) : Bs w' v l := by
  obtain ⟨a, cap, rfl, hc, h⟩ := h
  refine ⟨a, cap, rfl, hc, ?_⟩
  rcases h with h | ⟨b, o, rfl, hr⟩
  · exact Or.inl h
  · by_cases hl : l = []
    · exact Or.inl hl
    · exact Or.inr ⟨b, o, rfl, hr.kept k (hb b rfl hl)⟩

/-- A slice of slices reads as the row values vs: cells from (b, o) on. -/
def ValsAt (w : World) (b o : Nat) (vs : List Value) : Prop := ∀ i v, vs[i]? = some v → w.cell? ⟨b, o + i, none⟩ = some v

/-- A slice of slices of bytes reads as m: its header and, for each row, the row's header and bytes. -/
def Rw (w : World) (v : Value) (r : List Nat) (a : Option Addr) (c : Nat) : Prop := v = .slice a r.length c ∧ r.length ≤ c ∧ (r = [] ∨ ∃ b o, a = some ⟨b, o, none⟩ ∧ RowAt w b o r)

def MxAt (w : World) (b o : Nat) (m : List (List Nat)) (A : Nat → Option Addr) (C : Nat → Nat) : Prop :=
  ∀ i r, m[i]? = some r → w.cell? ⟨b, o + i, none⟩ = some (.slice (A i) r.length (C i)) ∧ r.length ≤ C i ∧ (r = [] ∨ ∃ b' o', A i = some ⟨b', o', none⟩ ∧ RowAt w b' o' r) ∧ (A i = none → C i = 0)

def Mx (w : World) (v : Value) (m : List (List Nat)) : Prop :=
  ∃ (a : Option Addr) (cap : Nat), v = .slice a m.length cap ∧ m.length ≤ cap ∧ (m = [] ∨ ∃ b o A C, a = some ⟨b, o, none⟩ ∧ MxAt w b o m A C)

theorem MxAt.kept {S : Nat → Prop} {w w' : World} {b o : Nat} {m : List (List Nat)} {A : Nat → Option Addr} {C : Nat → Nat} (h : MxAt w b o m A C) (k : Kept S w w') (hb : ¬ S b) (hr : ∀ i r b' o', m[i]? = some r → A i = some ⟨b', o', none⟩ → r ≠ [] → ¬ S b') : MxAt w' b o m A C := by
  intro i r hi
  obtain ⟨h1, h2, h3, h4⟩ := h i r hi
  refine ⟨k.cell h1 hb, h2, ?_, h4⟩
  rcases h3 with h3 | ⟨b', o', ha, h3⟩
  · exact Or.inl h3
  · by_cases hr0 : r = []
    · exact Or.inl hr0
    · exact Or.inr ⟨b', o', ha, h3.kept k (hr i r b' o' hi ha hr0)⟩

theorem MxAt.new {w w' : World} {b o : Nat} {m : List (List Nat)} {A : Nat → Option Addr} {C : Nat → Nat} (h : MxAt w b o m A C) (k : Below w.heap.size w w') : MxAt w' b o m A C :=
  h.kept (S := fun _ => False) (.of_new k) id fun _ _ _ _ _ _ _ => id

theorem Mx.new {w w' : World} {v : Value} {m : List (List Nat)} (h : Mx w v m) (k : Below w.heap.size w w') : Mx w' v m := by
  obtain ⟨a, cap, hv, hc, h⟩ := h
  refine ⟨a, cap, hv, hc, ?_⟩
  rcases h with h | ⟨b, o, A, C, ha, h⟩
  · exact Or.inl h
  · exact Or.inr ⟨b, o, A, C, ha, h.new k⟩

theorem RowAt.new {w w' : World} {b o : Nat} {l : List Nat} (h : RowAt w b o l) (k : Below w.heap.size w w') : RowAt w' b o l :=
  h.kept (S := fun _ => False) (.of_new k) id

theorem Bs.new {w w' : World} {v : Value} {l : List Nat} (h : Bs w v l) (k : Below w.heap.size w w') : Bs w' v l :=
  h.kept (S := fun _ => False) (.of_new k) fun _ _ _ => id

/-- All elements are bytes. -/
def BytM (m : List (List Nat)) : Prop := ∀ r ∈ m, Byt r

/-- The rows are a matrix with at most 64 rows and columns. -/
def isMat (m : List (List Nat)) : Prop := 1 ≤ m.length ∧ m.length ≤ 64 ∧ 1 ≤ (m.getD 0 []).length ∧ (m.getD 0 []).length ≤ 64 ∧ ∀ r ∈ m, r.length = (m.getD 0 []).length
instance (m : List (List Nat)) : Decidable (isMat m) := by unfold isMat; infer_instance
def isMatB (m : List (List Nat)) : Bool := decide (isMat m)

end Go.Proofs.Ytkclmfppjhmnjaa
