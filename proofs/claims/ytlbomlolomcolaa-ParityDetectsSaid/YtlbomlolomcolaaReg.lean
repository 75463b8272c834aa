/- A region that draws its order, inside a round of a range over a function: an invariant that each operation keeps serves every order. -/
import Derived.Test.YtlbomlolomcolaaPar3
import Derived.OrdersIn
namespace Go.Proofs.Ytlbomlolomcolaa
open Go.RowKit Go.Shelf

section
variable {F : Fence} {n : Nat} {P : Program} {ops : Array Oper} {Q : Exit → Act → World → Prop}

/-- How many operations have not come up. -/
def cnt (listed : Array Bool) : Nat := listed.toList.countP (fun b => !b)

theorem cnt_set {listed : Array Bool} {i : Nat} (hi : i < listed.size) (h : listed.getD i true = false) : cnt (listed.setIfInBounds i true) + 1 = cnt listed := by
  unfold cnt
  obtain ⟨l⟩ := listed
  simp only [List.setIfInBounds_toArray, Array.getD_eq_getD_getElem?, List.getElem?_toArray, List.size_toArray] at *
  induction l generalizing i with
  | nil => simp at hi
  | cons b l ih =>
    cases i with
    | zero =>
      simp at h
      subst h
      simp
    | succ i =>
      simp only [List.set_cons_succ, List.countP_cons]
      have := ih (i := i) (by simpa using hi) (by simpa using h)
      omega

theorem ready_mem {md : Region.Mode} {listed : Array Bool} {i : Nat} (h : i ∈ Region.ready md ops listed) :
    ∃ o, ops[i]? = some o ∧ listed.getD i true = false ∧ ∀ e ∈ o.after, Region.binds md e = true → listed.getD e.on false = true := by
  unfold Region.ready at h
  rw [List.mem_filter] at h
  obtain ⟨h1, h2⟩ := h
  rw [List.mem_range] at h1
  simp only [Bool.and_eq_true, Bool.not_eq_true'] at h2
  obtain ⟨h2, h3⟩ := h2
  have ho : ops[i]? = some ops[i] := Array.getElem?_eq_getElem h1
  rw [ho] at h3
  simp only [Option.map_some, Option.getD_some] at h3
  refine ⟨ops[i], ho, h2, fun e he hb => ?_⟩
  rw [Array.all_eq_true'] at h3
  have := h3 e he
  rw [hb] at this
  simpa using this

/-- Each operation waits for earlier ones alone. -/
def downB (ops : Array Oper) : Bool := (List.range ops.size).all fun i => ((ops[i]?).map (·.after.all fun e => !Region.binds .any e || decide (e.on < i))).getD true

/-- Where nothing may come up, all have come up. -/
theorem all_listed {listed : Array Bool} (hd : downB ops = true) (hsz : listed.size = ops.size) (hr : Region.ready .any ops listed = []) : ∀ i, i < ops.size → listed.getD i false = true := by
  intro i
  induction i using Nat.strongRecOn with
  | _ i ih =>
    intro hi
    apply Classical.byContradiction
    intro hne
    have hg : listed.getD i false = false := by simpa using hne
    have hg' : listed.getD i true = false := by
      rw [Array.getD_eq_getD_getElem?, Array.getElem?_eq_getElem (by omega)] at hg ⊢
      exact hg
    have hmem : i ∈ Region.ready .any ops listed := by
      unfold Region.ready
      rw [List.mem_filter]
      refine ⟨List.mem_range.2 hi, ?_⟩
      have ho : ops[i]? = some ops[i] := Array.getElem?_eq_getElem hi
      unfold downB at hd
      rw [List.all_eq_true] at hd
      have h1 := hd i (List.mem_range.2 hi)
      rw [ho] at h1 ⊢
      simp only [Option.map_some, Option.getD_some] at h1 ⊢
      rw [hg', Bool.and_eq_true]
      refine ⟨rfl, ?_⟩
      rw [Array.all_eq_true'] at h1 ⊢
      intro e he
      have h2 := h1 e he
      cases hb : Region.binds .any e with
      | false => rfl
      | true =>
        rw [hb] at h2
        simp only [Bool.not_true, Bool.false_or, decide_eq_true_eq] at h2
        simp only [Bool.not_true, Bool.false_or]
        exact ih e.on h2 (by omega)
    rw [hr] at hmem
    simp at hmem

theorem anyIn_inv (Inv : Array Bool → Act → World → Prop)
    (hs : ∀ listed a w, Inv listed a w → listed.size = ops.size → ∀ i ∈ Region.ready .any ops listed, wpOpIn F n P ops Q i (Inv (listed.setIfInBounds i true)) a w)
    (hq : ∀ listed a w, Inv listed a w → (∀ i, i < ops.size → listed.getD i false = true) → Q .normal a w) (hd : downB ops = true) :
    ∀ (fuel : Nat) (listed : Array Bool) (a : Act) (w : World), listed.size = ops.size → cnt listed = fuel → Inv listed a w → wpAnyIn F n P .any ops Q fuel listed a w := by
  intro fuel
  induction fuel with
  | zero =>
    intro listed a w hsz hc hI
    have hr : Region.ready .any ops listed = [] := by
      apply List.eq_nil_iff_forall_not_mem.2
      intro i hi
      obtain ⟨o, ho, hl, _⟩ := ready_mem hi
      have hi' := (Array.getElem?_eq_some_iff.1 ho).1
      have := cnt_set (listed := listed) (i := i) (by omega) hl
      omega
    exact ⟨hr, hq listed a w hI (all_listed hd hsz hr)⟩
  | succ fuel ih =>
    intro listed a w hsz hc hI
    refine ⟨fun hr => hq listed a w hI (all_listed hd hsz hr), fun i hi => ?_⟩
    obtain ⟨o, ho, hl, _⟩ := ready_mem hi
    have hi' := (Array.getElem?_eq_some_iff.1 ho).1
    have hcs := cnt_set (listed := listed) (i := i) (by omega) hl
    exact wpOpIn_mono (fun a' w' h' => ih _ a' w' (by simpa using hsz) (by omega) h') (hs listed a w hI hsz i hi)

/-- One operation, inside a round of the wide fence. -/
theorem opIn_value {l i : Nat} {o : Oper} {K : Act → World → Prop} {a : Act} {w w' : World} {v : Value} (ho : ops[i]? = some o) (hg : o.guard = none) (hnd : ∀ c, o.op ≠ .defer c) (hrun : (execOp a.eval o).run P w = .ok (.value v) w') (hK : K (a.put o.dst v) w') :
    wpOpIn (Fence.wide.inRound l) n P ops Q i K a w := by
  unfold wpOpIn
  rw [ho]
  have hw : Region.wanted o (yielded ops a.tmps) = true := by simp [Region.wanted, hg]
  simp only [hw, if_true]
  refine ⟨fun _ _ => trivial, ?_⟩
  rw [Fence.inRound_round, Oper.semAt_some _ _ _ hnd, hrun]
  exact hK
theorem opIn_skip {l i : Nat} {o : Oper} {K : Act → World → Prop} {a : Act} {w w' : World} (ho : ops[i]? = some o) (hg : o.guard = none) (hnd : ∀ c, o.op ≠ .defer c) (hrun : (execOp a.eval o).run P w = .ok .skip w') (hK : K (a.put o.dst undef) w') :
    wpOpIn (Fence.wide.inRound l) n P ops Q i K a w := by
  unfold wpOpIn
  rw [ho]
  have hw : Region.wanted o (yielded ops a.tmps) = true := by simp [Region.wanted, hg]
  simp only [hw, if_true]
  refine ⟨fun _ _ => trivial, ?_⟩
  rw [Fence.inRound_round, Oper.semAt_some _ _ _ hnd, hrun]
  exact hK
end
end Go.Proofs.Ytlbomlolomcolaa
