/- Plain functions on rows and matrices of bytes: what galois.reduced computes. -/
import Derived.Test.YtkclmfppjhmnjaaGf
import Derived.Test.YtkclmfppjhmnjaaMem
namespace Go.Proofs.Ytkclmfppjhmnjaa

/-- Add a multiple of a row to another one. -/
def addMul (f : Nat) (to fr : List Nat) : List Nat := List.zipWith (fun t x => t ^^^ Gf.gm f x) to fr
def amTo (f : Nat) (to fr : List Nat) (k : Nat) : List Nat := (addMul f to fr).take k ++ to.drop k

theorem addMul_length (f : Nat) (to fr : List Nat) : (addMul f to fr).length = min to.length fr.length := by simp [addMul]
theorem amTo_zero (f : Nat) (to fr : List Nat) : amTo f to fr 0 = to := by simp [amTo]
theorem amTo_all {f : Nat} {to fr : List Nat} {k : Nat} (hk : k = fr.length) (hl : to.length = fr.length) : amTo f to fr k = addMul f to fr := by
  unfold amTo
  rw [List.take_of_length_le (by rw [addMul_length]; omega), List.drop_of_length_le (by omega), List.append_nil]
theorem amTo_get {f : Nat} {to fr : List Nat} {k : Nat} (hk : k < fr.length) (hl : to.length = fr.length) : (amTo f to fr k)[k]? = some (to.getD k 0) := by
  have h1 : ((addMul f to fr).take k).length = k := by rw [List.length_take, addMul_length]; omega
  unfold amTo
  rw [List.getElem?_append_right (by omega), h1, Nat.sub_self, List.getElem?_drop, Nat.add_zero, List.getD_eq_getElem?_getD, List.getElem?_eq_getElem (by omega)]
  rfl
theorem amTo_set {f : Nat} {to fr : List Nat} {k : Nat} (hk : k < fr.length) (hl : to.length = fr.length) : (amTo f to fr k).set k (to.getD k 0 ^^^ Gf.gm f (fr.getD k 0)) = amTo f to fr (k + 1) := by
  have h1 : ((addMul f to fr).take k).length = k := by rw [List.length_take, addMul_length]; omega
  have h2 : k < (addMul f to fr).length := by rw [addMul_length]; omega
  have h3 : (addMul f to fr)[k] = to.getD k 0 ^^^ Gf.gm f (fr.getD k 0) := by
    simp [addMul, List.getD_eq_getElem?_getD, List.getElem?_eq_getElem hk, List.getElem?_eq_getElem (show k < to.length by omega)]
  unfold amTo
  rw [List.set_append_right _ _ (by omega), h1, Nat.sub_self, List.take_succ_eq_append_getElem h2, h3, List.drop_eq_getElem_cons (show k < to.length by omega), List.append_assoc]
  rfl


theorem addMul_byt {f : Nat} {to fr : List Nat} (h : Byt to) : Byt (addMul f to fr) := by
  intro x hx
  unfold addMul at hx
  rw [List.mem_iff_getElem?] at hx
  obtain ⟨i, hi⟩ := hx
  rw [List.getElem?_zipWith] at hi
  cases h1 : to[i]? with
  | none => simp [h1] at hi
  | some a =>
    cases h2 : fr[i]? with
    | none => simp [h1, h2] at hi
    | some b =>
      simp only [h1, h2, Option.some.injEq] at hi
      subst hi
      exact Gf.xor_lt (h.get h1) (Gf.gm_lt _ _)

/-- The first index below n at which p holds; -1 if there is none. -/
def firstOf (p : Nat → Bool) (n : Nat) : Int := match (List.range n).find? p with | some i => i | none => -1

theorem firstOf_hit {p : Nat → Bool} {n k : Nat} (hk : k < n) (hp : p k = true) (hn : ∀ j, j < k → p j = false) : firstOf p n = k := by
  have : (List.range n).find? p = some k := by
    rw [List.find?_range_eq_some]
    exact ⟨hp, by simpa using hk, fun j hj => by simp [hn j hj]⟩
  simp [firstOf, this]

theorem firstOf_none {p : Nat → Bool} {n : Nat} (hn : ∀ j, j < n → p j = false) : firstOf p n = -1 := by
  have : (List.range n).find? p = none := by
    rw [List.find?_eq_none]
    intro x hx; simp [hn x (List.mem_range.1 hx)]
  simp [firstOf, this]

theorem firstOf_cases (p : Nat → Bool) (n : Nat) : (firstOf p n = -1 ∧ ∀ j, j < n → p j = false) ∨ ∃ k : Nat, firstOf p n = k ∧ k < n ∧ p k = true ∧ ∀ j, j < k → p j = false := by
  cases h : (List.range n).find? p with
  | none =>
    left
    have h' := List.find?_eq_none.1 h
    have : ∀ j, j < n → p j = false := fun j hj => by simpa using h' j (List.mem_range.2 hj)
    exact ⟨firstOf_none this, this⟩
  | some k =>
    right
    rw [List.find?_range_eq_some] at h
    obtain ⟨h1, h2, h3⟩ := h
    have h2' : k < n := by simpa using h2
    have h3' : ∀ j, j < k → p j = false := fun j hj => by simpa using h3 j hj
    exact ⟨k, firstOf_hit h2' h1 h3', h2', h1, h3'⟩

def swapM (m : List (List Nat)) (i j : Nat) : List (List Nat) := (m.set i (m.getD j [])).set j (m.getD i [])

/-- The row of a pivot, divided by it. -/
def unitRow (c : Nat) (r : List Nat) : List Nat := addMul (Gf.gi (r.getD c 0) ^^^ 1) r r

def elimRow (pv : List Nat) (c rank i : Nat) (row : List Nat) : List Nat := if i = rank then row else addMul (row.getD c 0) row pv
def elimM (pv : List Nat) (c rank : Nat) (m : List (List Nat)) : List (List Nat) := m.mapIdx (elimRow pv c rank)

/-- Where the pivot of column c lies, counted from the row rank on. -/
def pivotAt (m : List (List Nat)) (c rank : Nat) : Int := firstOf (fun j => (m.getD (rank + j) []).getD c 0 != 0) (m.length - rank)

def hitM (m : List (List Nat)) (c rank p : Nat) : List (List Nat) :=
  let m1 := swapM m rank (rank + p)
  let pv := unitRow c (m1.getD rank [])
  elimM pv c rank (m1.set rank pv)

def stepR (c : Nat) (s : List (List Nat) × Nat) : List (List Nat) × Nat :=
  if pivotAt s.1 c s.2 < 0 then s else (hitM s.1 c s.2 (pivotAt s.1 c s.2).toNat, s.2 + 1)

/-- The matrix and its rank after c columns. -/
def redTo (m : List (List Nat)) : Nat → List (List Nat) × Nat
  | 0 => (m, 0)
  | c + 1 => stepR c (redTo m c)

/-- All rows have n bytes. -/
def Rect (n : Nat) (m : List (List Nat)) : Prop := ∀ r ∈ m, r.length = n ∧ Byt r

theorem Rect.get {n : Nat} {m : List (List Nat)} (h : Rect n m) {i : Nat} (hi : i < m.length) : (m.getD i []).length = n ∧ Byt (m.getD i []) := by
  rw [List.getD_eq_getElem?_getD, List.getElem?_eq_getElem hi]
  exact h _ (List.getElem_mem hi)

theorem swapM_length (m : List (List Nat)) (i j : Nat) : (swapM m i j).length = m.length := by simp [swapM]
theorem elimM_length (pv : List Nat) (c rank : Nat) (m : List (List Nat)) : (elimM pv c rank m).length = m.length := by simp [elimM]
theorem hitM_length (m : List (List Nat)) (c rank p : Nat) : (hitM m c rank p).length = m.length := by simp [hitM, elimM_length, swapM_length]
theorem stepR_length (c : Nat) (s : List (List Nat) × Nat) : (stepR c s).1.length = s.1.length := by
  unfold stepR; split
  · rfl
  · exact hitM_length _ _ _ _
theorem redTo_length (m : List (List Nat)) (c : Nat) : (redTo m c).1.length = m.length := by
  induction c with
  | zero => rfl
  | succ c ih => rw [show redTo m (c + 1) = stepR c (redTo m c) from rfl, stepR_length, ih]

theorem Rect.set {n : Nat} {m : List (List Nat)} (h : Rect n m) {r : List Nat} (hr : r.length = n ∧ Byt r) (i : Nat) : Rect n (m.set i r) := by
  intro x hx
  rcases List.mem_or_eq_of_mem_set hx with h1 | h1
  · exact h x h1
  · subst h1; exact hr

theorem swapM_rect {n : Nat} {m : List (List Nat)} (h : Rect n m) {i j : Nat} (hi : i < m.length) (hj : j < m.length) : Rect n (swapM m i j) :=
  (h.set (h.get hj) i).set (h.get hi) j

theorem unitRow_ok {n c : Nat} {r : List Nat} (h : r.length = n ∧ Byt r) : (unitRow c r).length = n ∧ Byt (unitRow c r) :=
  ⟨by unfold unitRow; rw [addMul_length]; omega, addMul_byt h.2⟩

theorem elimM_rect {n : Nat} {pv : List Nat} (hp : pv.length = n) (c rank : Nat) {m : List (List Nat)} (h : Rect n m) : Rect n (elimM pv c rank m) := by
  intro x hx
  unfold elimM at hx
  obtain ⟨i, hi, rfl⟩ := List.mem_mapIdx.1 hx
  have := h _ (List.getElem_mem hi)
  unfold elimRow
  split
  · exact this
  · exact ⟨by rw [addMul_length]; omega, addMul_byt this.2⟩

theorem hitM_rect {n : Nat} {m : List (List Nat)} (h : Rect n m) {c rank p : Nat} (hr : rank + p < m.length) : Rect n (hitM m c rank p) := by
  have h1 : Rect n (swapM m rank (rank + p)) := swapM_rect h (by omega) hr
  have h2 := unitRow_ok (c := c) (h1.get (i := rank) (by rw [swapM_length]; omega))
  exact elimM_rect h2.1 _ _ (h1.set h2 _)

theorem pivotAt_cases (m : List (List Nat)) (c rank : Nat) : pivotAt m c rank = -1 ∨ ∃ k : Nat, pivotAt m c rank = k ∧ rank + k < m.length ∧ (m.getD (rank + k) []).getD c 0 ≠ 0 := by
  rcases firstOf_cases (fun j => (m.getD (rank + j) []).getD c 0 != 0) (m.length - rank) with ⟨h, _⟩ | ⟨k, h, h1, h2, _⟩
  · exact Or.inl h
  · exact Or.inr ⟨k, h, by omega, by simpa using h2⟩

theorem stepR_rect {n : Nat} {s : List (List Nat) × Nat} (h : Rect n s.1) (c : Nat) : Rect n (stepR c s).1 := by
  unfold stepR
  rcases pivotAt_cases s.1 c s.2 with hp | ⟨k, hp, h1, _⟩
  · rw [hp, if_pos (by decide)]; exact h
  · rw [hp, if_neg (by omega), Int.toNat_natCast]; exact hitM_rect h h1

theorem redTo_rect {n : Nat} {m : List (List Nat)} (h : Rect n m) (c : Nat) : Rect n (redTo m c).1 := by
  induction c with
  | zero => exact h
  | succ c ih => exact stepR_rect ih c

theorem stepR_rank {s : List (List Nat) × Nat} (h : s.2 ≤ s.1.length) (c : Nat) : (stepR c s).2 ≤ s.1.length := by
  unfold stepR
  rcases pivotAt_cases s.1 c s.2 with hp | ⟨k, hp, h1, _⟩
  · rw [hp, if_pos (by decide)]; exact h
  · rw [hp, if_neg (by omega)]; show s.2 + 1 ≤ _; omega

theorem redTo_rank (m : List (List Nat)) (c : Nat) : (redTo m c).2 ≤ m.length := by
  induction c with
  | zero => exact Nat.zero_le _
  | succ c ih =>
    have := stepR_rank (s := redTo m c) (by rw [redTo_length]; exact ih) c
    rw [redTo_length] at this
    exact this

/-- Once every row has a pivot nothing changes. -/
theorem redTo_full {m : List (List Nat)} {c : Nat} (h : (redTo m c).2 = m.length) (d : Nat) : redTo m (c + d) = redTo m c := by
  induction d with
  | zero => rfl
  | succ d ih =>
    show stepR (c + d) (redTo m (c + d)) = _
    rw [ih]
    unfold stepR
    have : pivotAt (redTo m c).1 (c + d) (redTo m c).2 = -1 := firstOf_none fun j hj => by rw [redTo_length] at hj; omega
    rw [this, if_pos (by decide)]

end Go.Proofs.Ytkclmfppjhmnjaa
