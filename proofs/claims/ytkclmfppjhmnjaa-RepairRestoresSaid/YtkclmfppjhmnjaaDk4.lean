/- The comparison of pages; SamePages. -/
import Derived.Test.YtkclmfppjhmnjaaDk3
import Derived.ChangeKeysEq
namespace Go.Proofs.Ytkclmfppjhmnjaa
open Go.RowKit Img

theorem wpList_want {P : Program} {ops : Array Oper} {Q : Exit → Act → World → Prop} {a : Act} {w : World} {rest : List Oper} {o : Oper} (hw : Region.wanted o (yielded ops a.tmps) = true)
    (h : ∀ K : Act → World → Prop, (∀ a w, wpList P ops Q rest a w → K a w) → o.wp P a w K Q) : wpList P ops Q (o :: rest) a w :=
  wpList_step fun K hK => by rw [if_pos hw]; exact h K hK

theorem beq_cast (x y : Nat) : ((x : Int) == (y : Int)) = decide (x = y) := by
  rw [Bool.eq_iff_iff, beq_iff_eq, decide_eq_true_eq]; omega
theorem eqItems_bytes (d : Nat) (r s : List Nat) (w : World) (is : List Nat) (h : ∀ i ∈ is, i < r.length ∧ i < s.length) :
    (Op.eqItems (d + 1) 5 1 (r.map bv).toArray (s.map bv).toArray is).run Try.prog w = .ok (decide (∀ i ∈ is, r.getD i 0 = s.getD i 0)) w := by
  induction is with
  | nil => simp [Op.eqItems]
  | cons i is ih =>
    obtain ⟨h1, h2⟩ := h i (List.mem_cons_self ..)
    have e1 : (r.map bv).toArray[i * 1]? = some (bv (r.getD i 0)) := by rw [Nat.mul_one, List.getElem?_toArray, List.getElem?_map, getD_some (d := 0) h1]; rfl
    have e2 : (s.map bv).toArray[i * 1]? = some (bv (s.getD i 0)) := by rw [Nat.mul_one, List.getElem?_toArray, List.getElem?_map, getD_some (d := 0) h2]; rfl
    have hk : Try.prog.plainKey 5 = true := by kernel_rfl
    unfold Op.eqItems
    simp only [Sem.run_bind, run_part_plain w hk e1, run_part_plain w hk e2, Result.andThen_ok]
    rw [show bv (r.getD i 0) = .int .u8 (r.getD i 0 : Nat) from rfl, show bv (s.getD i 0) = .int .u8 (s.getD i 0 : Nat) from rfl, run_equalIn_int w d 5 .u8 .u8 _ _ Try.underlying5, Result.andThen_ok, beq_cast]
    by_cases he : r.getD i 0 = s.getD i 0
    · rw [decide_eq_true he]
      simp only [Bool.not_true, Bool.false_eq_true, if_false]
      have e : decide (∀ j ∈ i :: is, r.getD j 0 = s.getD j 0) = decide (∀ j ∈ is, r.getD j 0 = s.getD j 0) := by
        rw [Bool.eq_iff_iff, decide_eq_true_eq, decide_eq_true_eq]
        exact ⟨fun hx j hj => hx j (List.mem_cons_of_mem _ hj), fun hx j hj => by
          rcases List.mem_cons.1 hj with hj | hj
          · rw [hj]; exact he
          · exact hx j hj⟩
      rw [ih (fun j hj => h j (List.mem_cons_of_mem _ hj)), e]
    · rw [decide_eq_false he]
      simp only [Bool.not_false, if_true, Sem.run_pure]
      rw [decide_eq_false fun hx => he (hx i (List.mem_cons_self ..))]

theorem eq_page (r s : List Nat) (w : World) (hr : r.length = 16) (hs : s.length = 16) : (binOp .eql 82 (.agg (r.map bv).toArray) (.agg (s.map bv).toArray)).run Try.prog w = .ok (.bool (decide (r = s))) w := by
  obtain ⟨i0, hi, _⟩ := info_parts infoByte
  have hc : Try.prog.cellsOf 5 = 1 := by kernel_rfl
  rw [run_eql_struct, show (10000 : Nat) = 9999 + 1 from rfl, run_equalIn_array w 9999 _ _ Try.underlying82 hi, hc, show (9999 : Nat) = 9998 + 1 from rfl, eqItems_bytes 9998 r s w (List.range 16) (fun i hi => by have := List.mem_range.1 hi; omega)]
  simp only [Result.andThen_ok]
  suffices h : (∀ i ∈ List.range 16, r.getD i 0 = s.getD i 0) ↔ r = s by
    have e : decide (∀ i ∈ List.range 16, r.getD i 0 = s.getD i 0) = decide (r = s) := by
      rw [Bool.eq_iff_iff, decide_eq_true_eq, decide_eq_true_eq]; exact h
    rw [e]
  constructor
  · intro h
    apply List.ext_getElem?
    intro i
    by_cases hi : i < 16
    · rw [getD_some (d := 0) (by omega), getD_some (l := s) (d := 0) (by omega), h i (List.mem_range.2 hi)]
    · rw [List.getElem?_eq_none (by omega), List.getElem?_eq_none (by omega)]
  · intro h i _; rw [h]
theorem neq_page (r s : List Nat) (w : World) (hr : r.length = 16) (hs : s.length = 16) : (binOp .neq 82 (.agg (r.map bv).toArray) (.agg (s.map bv).toArray)).run Try.prog w = .ok (.bool (!decide (r = s))) w := by
  have h := eq_page r s w hr hs
  rw [run_eql_struct] at h
  rw [run_neq_struct]
  generalize (Op.equalIn 10000 82 (.agg (r.map bv).toArray) (.agg (s.map bv).toArray)).run Try.prog w = z at *
  cases z with
  | ok b w' =>
    simp only [Result.andThen_ok, Result.ok.injEq, Value.bool.injEq] at h ⊢
    exact ⟨by rw [h.1], h.2⟩
  | halt x w' => simp [Result.andThen] at h

theorem noGuard : Try.prog.eqGuardType Try.prog.depth 82 = false := by kernel_rfl
theorem wp_eq_page {o : Oper} {a : Act} {w : World} {K : Act → World → Prop} {Q : Exit → Act → World → Prop} (x y : Operand) (t' : TypeId) (ho : o.op = .binOp .eql 82 x y t') (r s : List Nat) (hx : a.eval x = .agg (r.map bv).toArray) (hy : a.eval y = .agg (s.map bv).toArray) (hr : r.length = 16) (hs : s.length = 16)
    (h : K (a.put o.dst (.bool (decide (r = s)))) w) : o.wp Try.prog a w K Q := by
  unfold Oper.wp execOp
  simp only [ho, hx, hy, Sem.run_bind, run_eqGuard_agg w .eql 82 x y _ _ noGuard, Result.andThen_ok, eq_page r s w hr hs, Sem.run_pure]
  exact h
theorem wp_neq_page {o : Oper} {a : Act} {w : World} {K : Act → World → Prop} {Q : Exit → Act → World → Prop} (x y : Operand) (t' : TypeId) (ho : o.op = .binOp .neq 82 x y t') (r s : List Nat) (hx : a.eval x = .agg (r.map bv).toArray) (hy : a.eval y = .agg (s.map bv).toArray) (hr : r.length = 16) (hs : s.length = 16)
    (h : K (a.put o.dst (.bool (!decide (r = s)))) w) : o.wp Try.prog a w K Q := by
  unfold Oper.wp execOp
  simp only [ho, hx, hy, Sem.run_bind, run_eqGuard_agg w .neq 82 x y _ _ noGuard, Result.andThen_ok, neq_page r s w hr hs, Sem.run_pure]
  exact h
theorem wpList_eq_page {ops : Array Oper} {rest : List Oper} {o : Oper} {a : Act} {w : World} {Q : Exit → Act → World → Prop} (hw : Region.wanted o (yielded ops a.tmps) = true) (x y : Operand) (t' : TypeId) (ho : o.op = .binOp .eql 82 x y t') (r s : List Nat) (hx : a.eval x = .agg (r.map bv).toArray) (hy : a.eval y = .agg (s.map bv).toArray) (hr : r.length = 16) (hs : s.length = 16) (b : Bool) (hb : decide (r = s) = b)
    (h : wpList Try.prog ops Q rest (a.put o.dst (.bool b)) w) : wpList Try.prog ops Q (o :: rest) a w :=
  wpList_want hw fun _ hK => wp_eq_page x y t' ho r s hx hy hr hs (hK _ _ (by rw [hb]; exact h))
theorem wpList_neq_page {ops : Array Oper} {rest : List Oper} {o : Oper} {a : Act} {w : World} {Q : Exit → Act → World → Prop} (hw : Region.wanted o (yielded ops a.tmps) = true) (x y : Operand) (t' : TypeId) (ho : o.op = .binOp .neq 82 x y t') (r s : List Nat) (hx : a.eval x = .agg (r.map bv).toArray) (hy : a.eval y = .agg (s.map bv).toArray) (hr : r.length = 16) (hs : s.length = 16) (b : Bool) (hb : (!decide (r = s)) = b)
    (h : wpList Try.prog ops Q rest (a.put o.dst (.bool b)) w) : wpList Try.prog ops Q (o :: rest) a w :=
  wpList_want hw fun _ hK => wp_neq_page x y t' ho r s hx hy hr hs (hK _ _ (by rw [hb]; exact h))
theorem wpList_load_want {P : Program} {ops : Array Oper} {rest : List Oper} {op : Oper} {a : Act} {w : World} {Q : Exit → Act → World → Prop} (hw : Region.wanted op (yielded ops a.tmps) = true) (ty : TypeId) (x : Operand) (ho : op.op = .load ty x)
    (b o : Nat) (hx : a.eval x = .pointer (some ⟨b, o, none⟩)) (cs : List Value) (d : TypeDesc) (hc : w.rangeAt b o cs)
    (hu : P.underlying ty = some d) (hd : d.isRow = true) (hi : (P.info? ty).map (·.size) = some cs.length)
    (h : wpList P ops Q rest (a.put op.dst (.agg cs.toArray)) w) : wpList P ops Q (op :: rest) a w :=
  wpList_want hw fun _ hK => wp_load_mid ty x ho b o hx cs d hc hu hd hi (hK _ _ h)
/-- The page of zeros, as the program makes it. -/
def zpv : Value := .agg #[.int .u8 0, .int .u8 0, .int .u8 0, .int .u8 0, .int .u8 0, .int .u8 0, .int .u8 0, .int .u8 0, .int .u8 0, .int .u8 0, .int .u8 0, .int .u8 0, .int .u8 0, .int .u8 0, .int .u8 0, .int .u8 0]
theorem zpv_eq : zpv = .agg (zp.map bv).toArray := rfl
end Go.Proofs.Ytkclmfppjhmnjaa
