/- Plain: which volumes are lost, and what is left. -/
import Derived.Test.YtkclmfppjhmnjaaCs0
namespace Go.Proofs.Ytkclmfppjhmnjaa
open Go.RowKit Wire Vol Crc Alg

/-- The indices that are gone, in the order in which they are named. -/
def goStep (n most : Nat) (g : List Nat) (k : Nat) : List Nat := if g.length < most ∧ k % n ∉ g then g ++ [k % n] else g
def goTo (n most : Nat) (lost : List Nat) (k : Nat) : List Nat := (lost.take k).foldl (goStep n most) []
theorem goTo_succ {n most : Nat} {lost : List Nat} {k x : Nat} (h : lost[k]? = some x) : goTo n most lost (k + 1) = goStep n most (goTo n most lost k) x := by
  unfold goTo
  rw [List.take_add_one, h, Option.toList_some, List.foldl_append]
  rfl
structure GoOk (n most : Nat) (g : List Nat) : Prop where
  lt : ∀ i ∈ g, i < n
  nd : g.Nodup
  le : g.length ≤ most
theorem goStep_ok {n most : Nat} (hn : 1 ≤ n) {g : List Nat} (h : GoOk n most g) (k : Nat) : GoOk n most (goStep n most g k) := by
  unfold goStep
  split
  · rename_i hc
    refine ⟨fun i hi => ?_, ?_, by rw [List.length_append, List.length_singleton]; omega⟩
    · rcases List.mem_append.1 hi with hi | hi
      · exact h.lt i hi
      · rw [List.mem_singleton.1 hi]; exact Nat.mod_lt _ hn
    · rw [List.nodup_append]
      refine ⟨h.nd, by simp, fun a ha b hb e => ?_⟩
      rw [List.mem_singleton.1 hb] at e
      exact hc.2 (e ▸ ha)
  · exact h
theorem goTo_ok {n most : Nat} (hn : 1 ≤ n) (lost : List Nat) (k : Nat) : GoOk n most (goTo n most lost k) := by
  unfold goTo
  generalize lost.take k = M
  have : ∀ (M : List Nat) (g : List Nat), GoOk n most g → GoOk n most (M.foldl (goStep n most) g) := by
    intro M
    induction M with
    | nil => intro g h; exact h
    | cons a M ih => intro g h; exact ih _ (goStep_ok hn h a)
  exact this M [] ⟨fun i hi => by simp at hi, List.nodup_nil, Nat.zero_le _⟩
/-- A volume with a changed byte. -/
def dmg (v : List Nat) (at' y : Nat) : List Nat := v.set (at' % v.length) (v.getD (at' % v.length) 0 ^^^ y)
/-- What is left of volume i. -/
def leftEl (g : List Nat) (at' y i : Nat) (v : List Nat) : List (List Nat) := if g.head? = some i ∧ 0 < y then [dmg v at' y] else if i ∈ g then [] else [v]
def leftTo (V : List (List Nat)) (g : List Nat) (at' y k : Nat) : List (List Nat) := (List.range k).flatMap fun i => leftEl g at' y i (V.getD i [])
theorem leftTo_succ (V : List (List Nat)) (g : List Nat) (at' y k : Nat) : leftTo V g at' y (k + 1) = leftTo V g at' y k ++ leftEl g at' y k (V.getD k []) := by
  unfold leftTo
  rw [List.range_succ, List.flatMap_append]
  simp
theorem leftEl_len (g : List Nat) (at' y i : Nat) (v : List Nat) : (leftEl g at' y i v).length ≤ 1 := by
  unfold leftEl
  split
  · simp
  · split <;> simp
theorem leftTo_len (V : List (List Nat)) (g : List Nat) (at' y k : Nat) : (leftTo V g at' y k).length ≤ k := by
  induction k with
  | zero => simp [leftTo]
  | succ k ih =>
    rw [leftTo_succ, List.length_append]
    have := leftEl_len g at' y k (V.getD k [])
    omega
/-- The order may be turned. -/
def turn (rev : Bool) (l : List (List Nat)) : List (List Nat) := if rev then l.reverse else l
theorem mem_turn {rev : Bool} {l : List (List Nat)} {x : List Nat} : x ∈ turn rev l ↔ x ∈ l := by
  unfold turn; split <;> simp

/-- The first good element of a list. -/
theorem first_good {L : List (List Nat)} (h : ∃ x ∈ L, hdErr x = 0) : ∃ pre x post, L = pre ++ x :: post ∧ (∀ y ∈ pre, hdErr y ≠ 0) ∧ hdErr x = 0 := by
  induction L with
  | nil => obtain ⟨x, hx, _⟩ := h; simp at hx
  | cons a L ih =>
    by_cases ha : hdErr a = 0
    · exact ⟨[], a, L, rfl, fun y hy => by simp at hy, ha⟩
    · obtain ⟨x, hx, hx0⟩ := h
      rcases List.mem_cons.1 hx with e | hx
      · rw [e] at hx0; exact absurd hx0 ha
      · obtain ⟨pre, y, post, rfl, h1, h2⟩ := ih ⟨x, hx, hx0⟩
        refine ⟨a :: pre, y, post, rfl, fun z hz => ?_, h2⟩
        rcases List.mem_cons.1 hz with e | hz
        · rw [e]; exact ha
        · exact h1 z hz
theorem lostN_count (f : Nat → Bool) (n : Nat) : lostN f n = ((List.range n).filter f).length := by
  induction n with
  | zero => rfl
  | succ n ih =>
    rw [List.range_succ, List.filter_append, List.length_append, ← ih]
    show (if f n = true then lostN f n + 1 else lostN f n) = _
    cases hf : f n <;> simp [hf]
theorem gone_perm {g : List Nat} {n most : Nat} (h : GoOk n most g) : ((List.range n).filter fun i => decide (i ∈ g)).Perm g := by
  refine (List.perm_ext_iff_of_nodup ?_ h.nd).2 fun i => ?_
  · exact List.Pairwise.filter _ List.nodup_range
  · simp only [List.mem_filter, List.mem_range, decide_eq_true_eq]
    exact ⟨fun e => e.2, fun e => ⟨h.lt i e, e⟩⟩
theorem gone_count {g : List Nat} {n most : Nat} (h : GoOk n most g) : lostN (fun i => decide (i ∈ g)) n = g.length := by
  rw [lostN_count]; exact (gone_perm h).length_eq
/-- Sorted: the indices that are gone, in order. -/
theorem gone_sort {g : List Nat} {n most : Nat} (h : GoOk n most g) : (g.map fun i : Nat => (i : Int)).mergeSort (fun x y => decide (x ≤ y)) = ((List.range n).filter fun i => decide (i ∈ g)).map fun i : Nat => (i : Int) := by
  have hp1 : ((g.map fun i : Nat => (i : Int)).mergeSort (fun x y => decide (x ≤ y))).Perm (((List.range n).filter fun i => decide (i ∈ g)).map fun i : Nat => (i : Int)) :=
    (List.mergeSort_perm _ _).trans ((gone_perm h).symm.map _)
  refine hp1.eq_of_pairwise (le := fun a b : Int => a ≤ b) (fun a b _ _ h1 h2 => Int.le_antisymm h1 h2) ?_ ?_
  · have := List.pairwise_mergeSort (le := fun x y : Int => decide (x ≤ y)) (fun a b c h1 h2 => by simp at h1 h2 ⊢; omega) (fun a b => by simp; omega) (g.map fun i : Nat => (i : Int))
    exact this.imp fun h => by simpa using h
  · refine List.Pairwise.map _ (fun a b (h : a < b) => Int.ofNat_le.2 (Nat.le_of_lt h)) ?_
    exact List.Pairwise.filter _ List.pairwise_lt_range

theorem leftTo_mem {V : List (List Nat)} {g : List Nat} {at' y k : Nat} {x : List Nat} : x ∈ leftTo V g at' y k ↔ ∃ i, i < k ∧ x ∈ leftEl g at' y i (V.getD i []) := by
  unfold leftTo
  simp only [List.mem_flatMap, List.mem_range]
theorem head_mem {g : List Nat} {i : Nat} (h : g.head? = some i) : i ∈ g := by
  cases g with
  | nil => simp at h
  | cons a g => simp at h; rw [h]; simp
theorem dmg_bad {b : List Nat} {d r i at' y : Nat} {x : List Nat} (hB : Byt b) (hl : b.length ≤ 60) (h1 : 1 ≤ d) (h2 : d + r ≤ 64) (hx : (volL b d r)[i]? = some x) (hy : y < 256) (h0 : 0 < y) : hdErr (dmg x at' y) = 10 := by
  obtain ⟨_, _, _, _, _, _, h3, _, h4⟩ := vol_at hB hl h1 h2 hx
  exact h4 _ y hy (by omega) (Nat.mod_lt _ h3)
/-- Whatever is lost or damaged, in whatever order: the set of what is left. -/
theorem left_set {b : List Nat} {d r at' y most : Nat} {g : List Nat} (rev : Bool) (hB : Byt b) (hl : b.length ≤ 60) (h1 : 1 ≤ d) (h2 : d + r ≤ 64) (hy : y < 256) (hg : GoOk (d + r) most g) (hm : most < d + r) :
    clAll (turn rev (leftTo (volL b d r) g at' y (d + r))) = (some (vhz b d r), loseTo [] (allM b d r) (fun i => decide (i ∈ g)) (d + r)) := by
  obtain ⟨hAr, hAl⟩ := allM_rect hB (show b.length ≤ 65536 by omega) h1 h2
  have hVl : (volL b d r).length = d + r := by rw [volL_length, hAl]
  have hV : ∀ i, i < d + r → (volL b d r)[i]? = some ((volL b d r).getD i []) := fun i hi => getD_some (by rw [hVl]; exact hi)
  -- one is left
  obtain ⟨t, ht, htg⟩ : ∃ t, t < d + r ∧ t ∉ g := by
    have hc := gone_count hg
    have := hg.le
    apply Classical.byContradiction
    intro hn
    have hall : ∀ i, i < d + r → i ∈ g := fun i hi => Classical.byContradiction fun hng => hn ⟨i, hi, hng⟩
    have hf : lostN (fun i => decide (i ∈ g)) (d + r) = d + r := by
      rw [lostN_count]
      have : (List.range (d + r)).filter (fun i => decide (i ∈ g)) = List.range (d + r) := List.filter_eq_self.2 fun i hi => decide_eq_true (hall i (List.mem_range.1 hi))
      rw [this, List.length_range]
    omega
  have hin : ∀ i, i < d + r → i ∉ g → (volL b d r).getD i [] ∈ turn rev (leftTo (volL b d r) g at' y (d + r)) := fun i hi hig => by
    rw [mem_turn, leftTo_mem]
    refine ⟨i, hi, ?_⟩
    unfold leftEl
    rw [if_neg (fun e => hig (head_mem e.1)), if_neg hig]
    simp
  have hcls : ∀ x ∈ turn rev (leftTo (volL b d r) g at' y (d + r)), hdErr x ≠ 0 ∨ ∃ i, (volL b d r)[i]? = some x ∧ i ∉ g := fun x hx => by
    rw [mem_turn, leftTo_mem] at hx
    obtain ⟨i, hi, hx⟩ := hx
    unfold leftEl at hx
    split at hx
    · rename_i hc
      simp only [List.mem_singleton] at hx
      left
      rw [hx, dmg_bad hB hl h1 h2 (hV i hi) hy hc.2]
      decide
    · split at hx
      · simp at hx
      · rename_i hig
        simp only [List.mem_singleton] at hx
        right
        exact ⟨i, by rw [hx]; exact hV i hi, hig⟩
  have hgood : ∃ x ∈ turn rev (leftTo (volL b d r) g at' y (d + r)), hdErr x = 0 := ⟨_, hin t ht htg, (vol_at hB hl h1 h2 (hV t ht)).2.1⟩
  obtain ⟨pre, x, post, hL, hpre, hx0⟩ := first_good hgood
  have hxm : x ∈ turn rev (leftTo (volL b d r) g at' y (d + r)) := by rw [hL]; simp
  rcases hcls x hxm with hx | ⟨j, hj, hjg⟩
  · exact absurd hx0 hx
  have hok : ∀ z ∈ post, okEl b d r (fun i => decide (i ∈ g)) z := fun z hz => by
    rcases hcls z (by rw [hL]; simp [hz]) with h | ⟨i, hi, hig⟩
    · exact Or.inl h
    · exact Or.inr (Or.inr ⟨i, hi, decide_eq_false hig⟩)
  rw [hL]
  refine cl_set hB hl h1 h2 hpre hj (decide_eq_false hjg) hok fun i hi hf => ?_
  have hig : i ∉ g := of_decide_eq_false hf
  have hmem := hin i hi hig
  rw [hL] at hmem
  refine ⟨_, ?_, hV i hi⟩
  rcases List.mem_append.1 hmem with h | h
  · exact absurd (vol_at hB hl h1 h2 (hV i hi)).2.1 (hpre _ h)
  · exact h
end Go.Proofs.Ytkclmfppjhmnjaa
