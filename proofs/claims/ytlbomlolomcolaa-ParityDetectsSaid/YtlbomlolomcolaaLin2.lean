/- Plain: a matrix and another one beside it, reduced together, are the wide matrix reduced. -/
import Derived.Test.YtlbomlolomcolaaLin
namespace Go.Proofs.Ytlbomlolomcolaa

theorem getD_get {α : Type} {l : List α} {i : Nat} {d x : α} (h : l[i]? = some x) : l.getD i d = x := by rw [List.getD_eq_getElem?_getD, h]; rfl

/-- Two matrices side by side. -/
def zip2 (m o : List (List Nat)) : List (List Nat) := List.zipWith (· ++ ·) m o

theorem zip2_length {m o : List (List Nat)} (h : m.length = o.length) : (zip2 m o).length = m.length := by simp [zip2, h]
theorem zip2_get {m o : List (List Nat)} {i : Nat} {r s : List Nat} (hr : m[i]? = some r) (hs : o[i]? = some s) : (zip2 m o)[i]? = some (r ++ s) := by simp [zip2, List.getElem?_zipWith, hr, hs]

theorem zip2_getD {m o : List (List Nat)} (h : m.length = o.length) (i : Nat) : (zip2 m o).getD i [] = m.getD i [] ++ o.getD i [] := by
  by_cases hi : i < m.length
  · have h1 : m[i]? = some (m.getD i []) := List.getElem?_eq_getElem hi ▸ by rw [List.getD_eq_getElem?_getD, List.getElem?_eq_getElem hi]; rfl
    have h2 : o[i]? = some (o.getD i []) := by rw [List.getD_eq_getElem?_getD, List.getElem?_eq_getElem (by omega)]; rfl
    exact getD_get (zip2_get h1 h2)
  · have e1 : m.getD i [] = [] := by rw [List.getD_eq_getElem?_getD, List.getElem?_eq_none (by omega)]; rfl
    have e2 : o.getD i [] = [] := by rw [List.getD_eq_getElem?_getD, List.getElem?_eq_none (by omega)]; rfl
    have e3 : (zip2 m o).getD i [] = [] := by rw [List.getD_eq_getElem?_getD, List.getElem?_eq_none (by rw [zip2_length h]; omega)]; rfl
    rw [e1, e2, e3]; rfl

theorem zip2_set {m o : List (List Nat)} (i : Nat) (r s : List Nat) : (zip2 m o).set i (r ++ s) = zip2 (m.set i r) (o.set i s) := by
  unfold zip2
  apply List.ext_getElem?
  intro j
  by_cases h : i = j
  · subst h
    by_cases h1 : i < m.length
    · by_cases h2 : i < o.length
      · rw [List.getElem?_set_self (by simp; omega), List.getElem?_zipWith, List.getElem?_set_self h1, List.getElem?_set_self h2]
      · rw [List.getElem?_eq_none (by simp; omega), List.getElem?_zipWith, List.getElem?_eq_none (l := o.set i s) (by simp; omega)]
        cases (m.set i r)[i]? <;> rfl
    · rw [List.getElem?_eq_none (by simp; omega), List.getElem?_zipWith, List.getElem?_eq_none (l := m.set i r) (by simp; omega)]
  · rw [List.getElem?_set_ne h, List.getElem?_zipWith, List.getElem?_zipWith, List.getElem?_set_ne h, List.getElem?_set_ne h]

theorem zip2_swap {m o : List (List Nat)} (h : m.length = o.length) (i j : Nat) : swapM (zip2 m o) i j = zip2 (swapM m i j) (swapM o i j) := by
  unfold swapM
  rw [zip2_getD h, zip2_getD h, zip2_set, zip2_set]

theorem swapM_comm (m : List (List Nat)) (i j : Nat) : swapM m i j = swapM m j i := by
  unfold swapM
  by_cases h : i = j
  · subst h; rfl
  · exact List.set_comm _ _ h

theorem getD_append_left {r s : List Nat} {c : Nat} (h : c < r.length) : (r ++ s).getD c 0 = r.getD c 0 := by
  rw [List.getD_eq_getElem?_getD, List.getElem?_append_left h, ← List.getD_eq_getElem?_getD]

theorem addMul_append {f : Nat} {r s p q : List Nat} (h : r.length = p.length) : addMul f (r ++ s) (p ++ q) = addMul f r p ++ addMul f s q := by
  unfold addMul; rw [List.zipWith_append h]

theorem addMul_self {g : Nat} (hg : g < 256) : ∀ {r : List Nat}, Byt r → addMul (g ^^^ 1) r r = r.map fun t => Gf.gm t g
  | [], _ => rfl
  | t :: r, h => by
    have ht : t < 256 := h t (by simp)
    show (t ^^^ Gf.gm (g ^^^ 1) t) :: addMul (g ^^^ 1) r r = Gf.gm t g :: _
    rw [addMul_self hg (r := r) fun x hx => h x (by simp [hx]), Gf.xor_gm hg (by decide) ht, Gf.one_gm ht]
    congr 1
    rw [Nat.xor_comm (Gf.gm g t) t, ← Nat.xor_assoc, Nat.xor_self, Nat.zero_xor, Gf.gm_comm]

/-- The row of a pivot, divided by it, by products alone. -/
theorem unitRow_eq {c : Nat} {r : List Nat} (hr : Byt r) : unitRow c r = r.map fun t => Gf.gm t (Gf.gi (r.getD c 0)) := addMul_self (Gf.gi_lt _) hr

theorem Byt.append {r s : List Nat} (hr : Byt r) (hs : Byt s) : Byt (r ++ s) := fun x hx => by
  rcases List.mem_append.1 hx with h | h
  · exact hr x h
  · exact hs x h

theorem zip2_rect {n k : Nat} {m o : List (List Nat)} (hm : Rect n m) (ho : Rect k o) : Rect (n + k) (zip2 m o) := by
  intro x hx
  obtain ⟨i, hi⟩ := List.mem_iff_getElem?.1 hx
  unfold zip2 at hi
  rw [List.getElem?_zipWith] at hi
  cases h1 : m[i]? with
  | none => simp [h1] at hi
  | some r =>
    cases h2 : o[i]? with
    | none => simp [h1, h2] at hi
    | some s =>
      simp only [h1, h2, Option.some.injEq] at hi
      subst hi
      have a := hm r (List.mem_of_getElem? h1)
      have b := ho s (List.mem_of_getElem? h2)
      exact ⟨by rw [List.length_append, a.1, b.1], a.2.append b.2⟩

theorem find_congr {p q : Nat → Bool} : ∀ (l : List Nat), (∀ x ∈ l, p x = q x) → l.find? p = l.find? q
  | [], _ => rfl
  | x :: l, h => by
    rw [List.find?_cons, List.find?_cons, h x (by simp), find_congr l fun y hy => h y (by simp [hy])]

theorem pivotAt_zip2 {n : Nat} {m o : List (List Nat)} (hm : Rect n m) (h : m.length = o.length) {c : Nat} (hc : c < n) (rank : Nat) : pivotAt (zip2 m o) c rank = pivotAt m c rank := by
  unfold pivotAt
  rw [zip2_length h]
  have key : ∀ (p q : Nat → Bool) (k : Nat), (∀ j, j < k → p j = q j) → firstOf p k = firstOf q k := by
    intro p q k hpq
    have : (List.range k).find? p = (List.range k).find? q := find_congr _ fun x hx => hpq x (List.mem_range.1 hx)
    unfold firstOf
    rw [this]
  apply key
  intro j hj
  rw [zip2_getD h, getD_append_left (by rw [(hm.get (i := rank + j) (by omega)).1]; exact hc)]

/-- Row i of the second matrix, when the rows of the first one are eliminated by their column c. -/
def elimRowO (m : List (List Nat)) (pv : List Nat) (c rank i : Nat) (s : List Nat) : List Nat := if i = rank then s else addMul ((m.getD i []).getD c 0) s pv
def elimO (m : List (List Nat)) (pv : List Nat) (c rank : Nat) (o : List (List Nat)) : List (List Nat) := o.mapIdx (elimRowO m pv c rank)

theorem elimM_zip2 {n : Nat} {m o : List (List Nat)} (hm : Rect n m) (h : m.length = o.length) {pv qv : List Nat} (hp : pv.length = n) {c : Nat} (hc : c < n) (rank : Nat) :
    elimM (pv ++ qv) c rank (zip2 m o) = zip2 (elimM pv c rank m) (elimO m qv c rank o) := by
  apply List.ext_getElem?
  intro i
  unfold elimM elimO
  by_cases hi : i < m.length
  · have h1 : m[i]? = some (m.getD i []) := getD_some hi
    have h2 : o[i]? = some (o.getD i []) := getD_some (by omega)
    have hr := hm.get hi
    rw [List.getElem?_mapIdx, zip2_get h1 h2]
    rw [zip2_get (r := elimRow pv c rank i (m.getD i [])) (s := elimRowO m qv c rank i (o.getD i [])) (by rw [List.getElem?_mapIdx, h1]; rfl) (by rw [List.getElem?_mapIdx, h2]; rfl)]
    show some (elimRow (pv ++ qv) c rank i (m.getD i [] ++ o.getD i [])) = _
    unfold elimRow elimRowO
    split
    · rfl
    · rw [getD_append_left (by rw [hr.1]; exact hc), addMul_append (by rw [hr.1, hp])]
  · rw [List.getElem?_eq_none (by simp [zip2]; omega), List.getElem?_eq_none (by simp [zip2]; omega)]

/-- One column, for the two matrices. -/
theorem hitM_zip2 {n k : Nat} {m o : List (List Nat)} (hm : Rect n m) (ho : Rect k o) (h : m.length = o.length) {c rank p : Nat} (hc : c < n) (hr : rank + p < m.length) {x : Nat} (hx : x = Gf.gi (((swapM m rank (rank + p)).getD rank []).getD c 0)) :
    hitM (zip2 m o) c rank p =
      zip2 (elimM (((swapM m rank (rank + p)).getD rank []).map fun t => Gf.gm t x) c rank ((swapM m rank (rank + p)).set rank (((swapM m rank (rank + p)).getD rank []).map fun t => Gf.gm t x)))
        (elimO ((swapM m rank (rank + p)).set rank (((swapM m rank (rank + p)).getD rank []).map fun t => Gf.gm t x)) (((swapM o rank (rank + p)).getD rank []).map fun t => Gf.gm t x) c rank ((swapM o rank (rank + p)).set rank (((swapM o rank (rank + p)).getD rank []).map fun t => Gf.gm t x))) := by
  have hm1 : Rect n (swapM m rank (rank + p)) := swapM_rect hm (by omega) hr
  have ho1 : Rect k (swapM o rank (rank + p)) := swapM_rect ho (by omega) (by omega)
  have hl1 : (swapM m rank (rank + p)).length = (swapM o rank (rank + p)).length := by rw [swapM_length, swapM_length, h]
  have hrl : rank < (swapM m rank (rank + p)).length := by rw [swapM_length]; omega
  unfold hitM
  rw [zip2_swap h]
  dsimp only
  generalize swapM m rank (rank + p) = m1 at *
  generalize swapM o rank (rank + p) = o1 at *
  have a := hm1.get hrl
  have b := ho1.get (i := rank) (by omega)
  rw [zip2_getD hl1]
  have hu : unitRow c (m1.getD rank [] ++ o1.getD rank []) = ((m1.getD rank []).map fun t => Gf.gm t x) ++ ((o1.getD rank []).map fun t => Gf.gm t x) := by
    rw [unitRow_eq (a.2.append b.2), List.map_append, getD_append_left (by rw [a.1]; exact hc), hx]
  have hxl : x < 256 := by rw [hx]; exact Gf.gi_lt _
  have bytm : ∀ (l : List Nat), Byt (l.map fun t => Gf.gm t x) := fun l y hy => by
    obtain ⟨t, _, rfl⟩ := List.mem_map.1 hy
    exact Gf.gm_lt _ _
  rw [hu, zip2_set, elimM_zip2 (hm1.set ⟨by rw [List.length_map]; exact a.1, bytm _⟩ rank) (by simpa using hl1) (by rw [List.length_map]; exact a.1) hc]

/-- The first k rows are done. -/
def mapTo (f : Nat → List Nat → List Nat) (m : List (List Nat)) (k : Nat) : List (List Nat) := (m.mapIdx f).take k ++ m.drop k
theorem mapTo_zero (f : Nat → List Nat → List Nat) (m : List (List Nat)) : mapTo f m 0 = m := by simp [mapTo]
theorem mapTo_all (f : Nat → List Nat → List Nat) (m : List (List Nat)) {k : Nat} (hk : m.length ≤ k) : mapTo f m k = m.mapIdx f := by
  unfold mapTo
  rw [List.take_of_length_le (by simpa using hk), List.drop_of_length_le hk, List.append_nil]
theorem mapTo_length (f : Nat → List Nat → List Nat) (m : List (List Nat)) (k : Nat) : (mapTo f m k).length = m.length := by
  unfold mapTo; simp; omega
theorem mapTo_get (f : Nat → List Nat → List Nat) (m : List (List Nat)) {k i : Nat} (hk : k ≤ m.length) (hi : k ≤ i) : (mapTo f m k)[i]? = m[i]? := by
  have h1 : ((m.mapIdx f).take k).length = k := by simp; omega
  unfold mapTo
  rw [List.getElem?_append_right (by omega), h1, List.getElem?_drop]
  congr 1; omega
theorem mapTo_old (f : Nat → List Nat → List Nat) (m : List (List Nat)) {k i : Nat} {r : List Nat} (hk : k ≤ m.length) (hi : i < k) (hr : m[i]? = some r) : (mapTo f m k)[i]? = some (f i r) := by
  have h1 : ((m.mapIdx f).take k).length = k := by simp; omega
  unfold mapTo
  rw [List.getElem?_append_left (by omega), List.getElem?_take, if_pos hi]
  simp [hr]
theorem mapTo_step (f : Nat → List Nat → List Nat) (m : List (List Nat)) {k : Nat} {r : List Nat} (hr : m[k]? = some r) : (mapTo f m k).set k (f k r) = mapTo f m (k + 1) := by
  have hk := (List.getElem?_eq_some_iff.1 hr).1
  have h1 : ((m.mapIdx f).take k).length = k := by simp; omega
  have h2 : (m.mapIdx f)[k]? = some (f k r) := by simp [hr]
  unfold mapTo
  rw [List.set_append_right _ _ (by omega), h1, Nat.sub_self, List.take_add_one, h2, List.drop_eq_getElem_cons hk, List.append_assoc]
  rfl
theorem mapTo_fix (f : Nat → List Nat → List Nat) (m : List (List Nat)) {k : Nat} {r : List Nat} (hr : m[k]? = some r) (hf : f k r = r) : mapTo f m (k + 1) = mapTo f m k := by
  rw [← mapTo_step f m hr, hf]
  have hk := (List.getElem?_eq_some_iff.1 hr).1
  have : (mapTo f m k)[k]? = some r := by rw [mapTo_get _ _ (by omega) (Nat.le_refl _)]; exact hr
  exact List.ext_getElem? fun i => by
    by_cases h : k = i
    · subst h; rw [List.getElem?_set_self (List.getElem?_eq_some_iff.1 this).1, this]
    · rw [List.getElem?_set_ne h]
/-- A row that f leaves alone. -/
theorem mapTo_keep (f : Nat → List Nat → List Nat) (m : List (List Nat)) {k i : Nat} {r : List Nat} (hk : k ≤ m.length) (hr : m[i]? = some r) (hf : f i r = r) : (mapTo f m k)[i]? = some r := by
  by_cases h : i < k
  · rw [mapTo_old f m hk h hr, hf]
  · rw [mapTo_get f m hk (by omega)]; exact hr
theorem mapTo_rect {n : Nat} {f : Nat → List Nat → List Nat} {m : List (List Nat)} (h : Rect n m) (hf : ∀ i r, m[i]? = some r → (f i r).length = n ∧ Byt (f i r)) (k : Nat) : Rect n (mapTo f m k) := by
  intro x hx
  unfold mapTo at hx
  rcases List.mem_append.1 hx with h1 | h1
  · have := List.mem_of_mem_take h1
    obtain ⟨i, hi, rfl⟩ := List.mem_mapIdx.1 this
    exact hf i _ (List.getElem?_eq_getElem hi)
  · exact h x (List.mem_of_mem_drop h1)

theorem elimRow_rect {n : Nat} {pv : List Nat} (hp : pv.length = n) (c rank : Nat) {m : List (List Nat)} (h : Rect n m) : ∀ i r, m[i]? = some r → (elimRow pv c rank i r).length = n ∧ Byt (elimRow pv c rank i r) := by
  intro i r hr
  have a := h r (List.mem_of_getElem? hr)
  unfold elimRow
  split
  · exact a
  · exact ⟨by rw [addMul_length]; omega, addMul_byt a.2⟩
theorem elimRowO_rect {n : Nat} {pv : List Nat} (hp : pv.length = n) (mm : List (List Nat)) (c rank : Nat) {m : List (List Nat)} (h : Rect n m) : ∀ i r, m[i]? = some r → (elimRowO mm pv c rank i r).length = n ∧ Byt (elimRowO mm pv c rank i r) := by
  intro i r hr
  have a := h r (List.mem_of_getElem? hr)
  unfold elimRowO
  split
  · exact a
  · exact ⟨by rw [addMul_length]; omega, addMul_byt a.2⟩

theorem pivot_hit {m : List (List Nat)} {c rank q : Nat} (h1 : rank ≤ q) (h2 : q < m.length) (h3 : (m.getD q []).getD c 0 ≠ 0) (h4 : ∀ j, rank ≤ j → j < q → (m.getD j []).getD c 0 = 0) : pivotAt m c rank = ((q - rank : Nat) : Int) := by
  unfold pivotAt
  apply firstOf_hit (by omega)
  · rw [show rank + (q - rank) = q by omega]; simpa using h3
  · intro j hj
    have := h4 (rank + j) (by omega) (by omega)
    rw [this]; rfl
theorem pivot_none {m : List (List Nat)} {c rank : Nat} (h4 : ∀ j, rank ≤ j → j < m.length → (m.getD j []).getD c 0 = 0) : pivotAt m c rank = -1 := by
  unfold pivotAt
  apply firstOf_none
  intro j hj
  have := h4 (rank + j) (by omega) (by omega)
  rw [this]; rfl

end Go.Proofs.Ytlbomlolomcolaa
