/- The contract of parity's iterator over the parts that are not lost. -/
/- Contracts of disk.Check, fits, contents, Read. -/
/- The comparison of pages; SamePages. -/
import Derived.Test.YtkclmfppjhmnjaaGreatB01
import Derived.RangeFuncNested
import Derived.RangeFuncBound
import Derived.RangeFuncCalls
import Derived.RangeFuncLeaves
import Derived.RangeFuncBox
import Derived.Shelf.Abstract
import Derived.OwnWalkIn
import Derived.TacticsInMore
import Derived.LoopNIn
import Derived.LoopIn
import Derived.Test.YtkclmfppjhmnjaaGreatB08
import Derived.ChangeKeysEq
namespace Go.Proofs.YtkclmfppjhmnjaaGreat
open Go.RowKit Go.Shelf

attribute [local go_sem] Oper.semAt_some

def plen (parts : List (List Nat)) (i : Nat) : Nat := (parts.getD i []).length
/-- The index of a part that is not lost. -/
abbrev PI (parts : List (List Nat)) : Type := { i : Nat // i < parts.length ∧ 1 ≤ plen parts i }
/-- Those below k. -/
def piTo (parts : List (List Nat)) : Nat → List (PI parts)
  | 0 => []
  | k + 1 => if h : k < parts.length ∧ 1 ≤ plen parts k then piTo parts k ++ [⟨k, h⟩] else piTo parts k

theorem piTo_yes {parts : List (List Nat)} {k : Nat} (h : k < parts.length ∧ 1 ≤ plen parts k) : piTo parts (k + 1) = piTo parts k ++ [⟨k, h⟩] := by
  show (if h : _ then _ else _) = _; rw [dif_pos h]
theorem piTo_no {parts : List (List Nat)} {k : Nat} (h : ¬ 1 ≤ plen parts k) : piTo parts (k + 1) = piTo parts k := by
  show (if h : _ then _ else _) = _; rw [dif_neg fun e => h e.2]
theorem piTo_length (parts : List (List Nat)) (k : Nat) : (piTo parts k).length ≤ k := by
  induction k with
  | zero => exact Nat.le_refl _
  | succ k ih =>
    by_cases h : k < parts.length ∧ 1 ≤ plen parts k
    · rw [piTo_yes h, List.length_append, List.length_singleton]; omega
    · show List.length (if h : _ then _ else _) ≤ _; rw [dif_neg h]; omega

/-- A part as the iterator hands it over. -/
def pEnc {parts : List (List Nat)} (A : Nat → Option Addr) (C : Nat → Nat) (x : PI parts) : Array Value := #[.int .i64 (x.1 : Nat), .slice (A x.1) (plen parts x.1) (C x.1)]

set_option maxRecDepth 100000 in
set_option maxHeartbeats 2000000 in
theorem present1_in (F : Fence) (n : Nat) (hfn : F.fn 81) (hro : F.round = none) (hn : 1 ≤ n) (l Bs n₀ b o cap : Nat) (parts : List (List Nat)) (A : Nat → Option Addr) (C : Nat → Nat) (hN : parts.length ≤ 1000000000) (hb : b < n₀) (J Jx : List (PI parts) → World → Prop)
    (hY : Hid (∀ pre x W, J pre W → pre.length < parts.length → YieldAt F (n - 1) Tryz.prog l (pEnc A C x) W fun e W' =>
      (e = .returned (.bool true) ∧ J (pre ++ [x]) W' ∧ Below n₀ W W') ∨ (e = .returned (.bool false) ∧ Jx (pre ++ [x]) W')))
    (W : World) (hBs : W.cell? ⟨Bs, 0, none⟩ = some (.slice (some ⟨b, o, none⟩) parts.length cap)) (hc : Hid (MxAt W b o parts A C)) (h0 : Hid (J [] W)) :
    CallsIn F n Tryz.prog 81 #[.func (.yield l) #[] #[], .pointer (some ⟨Bs, 0, none⟩)] W fun e W' => (∃ v, e = .returned v) ∧
      ((∃ ys, ys = piTo parts parts.length ∧ J ys W') ∨ (∃ pre, (∃ k, k ≤ parts.length ∧ pre = piTo parts k) ∧ Jx pre W')) := by
  refine callsIn_of_wp Tryz.func81 rfl hfn ?_ hro
  simp only [Tryz.ntmps81, List.size_toArray, List.length_cons, List.length_nil, Nat.reduceAdd, Nat.reduceSub, Array.replicate_succ, Array.replicate_zero, List.push_toArray, List.append_toArray, List.nil_append, List.cons_append]
  gi_wp2
  gi_loopw [7] (fun i wr => ∃ k : Nat, k ≤ parts.length ∧ i = .int .i64 k ∧ Hid (J (piTo parts k) wr) ∧ Hid (Below n₀ W wr))
    (fun i _ => parts.length - (intOf i).toNat)
  case atStart => exact ⟨0, Nat.zero_le _, rfl, h0, Below.refl _ _⟩
  case round =>
    obtain ⟨k, hk, rfl, hJs, hnx⟩ := hrel
    by_cases hlt : k < parts.length
    · have hcx' := (hnx.out.cell (p := ⟨b, o + k, none⟩) hb).trans (hc.out k _ (getD_some (d := []) hlt)).1
      rw [show (parts.getD k []).length = plen parts k from rfl] at hcx'
      by_cases hp : 1 ≤ plen parts k
      · have hpl : 0 < plen parts k := by omega
        obtain ⟨fn, tmps, assign, body, hy, hR⟩ := hY.out _ (⟨k, hlt, hp⟩ : PI parts) wr hJs.out (by have := piTo_length parts k; omega)
        unfold pEnc at hy
        dsimp only at hy
        gi_wp2
        refine hR.mono ?_
        rintro e W3 (⟨rfl, hJ3, hk3⟩ | ⟨rfl, hJx3⟩)
        · gi_wp2
          go_roundw
          case rel => exact ⟨k + 1, by omega, by simp, by rw [piTo_yes ⟨hlt, hp⟩]; exact hJ3, hnx.out.trans hk3⟩
          case measure => simp [intOf]; omega
        · gi_wp2
          refine bodyPost_ret (results_none rfl _ _ _) rfl ?_
          exact ⟨⟨_, rfl⟩, .inr ⟨_, ⟨k + 1, by omega, (piTo_yes ⟨hlt, hp⟩).symm⟩, hJx3⟩⟩
      · have hpl : plen parts k ≤ 0 := by omega
        have hpd : decide (0 < (plen parts k : Int)) = false := by simp; omega
        gi_wp2
        refine ⟨fun _ h => (by cases h), ?_⟩
        gi_wp2
        go_roundw
        case rel => exact ⟨k + 1, by omega, by simp, by rw [piTo_no hp]; exact hJs.out, hnx.out⟩
        case measure => simp [intOf]; omega
    · obtain rfl : k = parts.length := by omega
      gi_wp2
      go_end0
      exact ⟨⟨_, rfl⟩, .inl ⟨_, rfl, hJs.out⟩⟩

set_option maxHeartbeats 1000000 in
theorem present_in (F : Fence) (n : Nat) (hfn : F.fn 60) (hro : F.round = none) (a : Option Addr) (len cap : Nat) (w : World) :
    CallsIn F n Tryz.prog 60 #[.slice a len cap] w fun e w' => e = .returned (.func (.func 81) #[] #[.pointer (some ⟨w.heap.size, 0, none⟩)]) ∧ w' = w.alloc (.cells #[.slice a len cap] 22) := by
  refine callsIn_of_wp Tryz.func60 rfl hfn ?_ hro
  simp only [Tryz.ntmps60, List.size_toArray, List.length_cons, List.length_nil, Nat.reduceAdd, Nat.reduceSub, Array.replicate_succ, Array.replicate_zero, List.push_toArray, List.append_toArray, List.nil_append, List.cons_append]
  gi_wp2
  go_ret
  exact ⟨rfl, rfl⟩

theorem present_stops (F : Fence) (n : Nat) (hfn : F.fn 81) (hro : F.round = none) (hn : 1 ≤ n) (Bs n₀ b o cap : Nat) (parts : List (List Nat)) (A : Nat → Option Addr) (C : Nat → Nat) (hN : parts.length ≤ 1000000000) (w : World) (hBs : Bs < w.heap.size) (hb : b < n₀)
    (hc : w.cell? ⟨Bs, 0, none⟩ = some (.slice (some ⟨b, o, none⟩) parts.length cap)) (hM : MxAt w b o parts A C) :
    SeqStopsK F n Tryz.prog 81 #[.pointer (some ⟨Bs, 0, none⟩)] (pEnc (parts := parts) A C) (Below n₀) (fun ys => ys = piTo parts parts.length) (fun pre => ∃ k, k ≤ parts.length ∧ pre = piTo parts k) parts.length w := fun l J Jx W hW _ _ hY h0 => by
  have hc' := (hW.cell (p := ⟨Bs, 0, none⟩) hBs).trans hc
  exact present1_in F n hfn hro hn l Bs n₀ b o cap parts A C hN hb J Jx hY W hc' (hM.new hW) h0
end Go.Proofs.YtkclmfppjhmnjaaGreat

namespace Go.Proofs.YtkclmfppjhmnjaaGreat
open Go.RowKit Img

theorem dkErr_bad {n : Nat} {q : List (Int × List Nat)} (h : n < 1 ∨ 8192 < n) : dkErr n q = 2 := by unfold dkErr; rw [if_pos (by rcases h with h | h <;> simp [h])]
theorem dkErr_out {n : Nat} {q : List (Int × List Nat)} (h1 : 1 ≤ n) (h2 : n ≤ 8192) : dkErr n q = if outB n q then 2 else 0 := by
  unfold dkErr outB
  by_cases h : ∃ p ∈ q, p.1 < 0 ∨ (n : Int) ≤ p.1
  · rw [if_pos (Or.inr (Or.inr h)), if_pos (decide_eq_true h)]
  · rw [if_neg (by rintro (h' | h' | h'); omega; omega; exact h h'), if_neg (by simp [h])]

/-- All pending writes lie on the disk. -/
def InQ (n : Nat) (q : List (Int × List Nat)) : Prop := ∀ p ∈ q, 0 ≤ p.1 ∧ p.1 < (n : Int)
theorem dkErr_ok {n : Nat} {q : List (Int × List Nat)} (h : dkErr n q = 0) : 1 ≤ n ∧ n ≤ 8192 ∧ InQ n q := by
  unfold dkErr at h
  split at h
  · cases h
  · rename_i hx
    refine ⟨by omega, by omega, fun p hp => ?_⟩
    have : ¬ (p.1 < 0 ∨ (n : Int) ≤ p.1) := fun hy => hx (Or.inr (Or.inr ⟨p, hp, hy⟩))
    omega

theorem spl_all {α : Type} {xs vs : List α} (h : vs.length = xs.length) : spl xs 0 vs = vs := by
  unfold spl; rw [List.take_zero, List.nil_append, Nat.zero_add, h, List.drop_length, List.append_nil]
theorem new_set (wr : World) (T : Nat) (xs : Array Value) {vs : List Value} (h : vs.length = xs.size) : Blk ((wr.alloc (.cells xs T)).setCells wr.heap.size 0 vs) wr.heap.size T vs ∧ Below wr.heap.size wr ((wr.alloc (.cells xs T)).setCells wr.heap.size 0 vs) := by
  refine ⟨?_, below_setCells ((Below.refl _ _).alloc (Nat.le_refl _) _) (Nat.le_refl _) 0 vs⟩
  have h1 := (Blk.new wr T xs).setCells (o := 0) (vs := vs) (by simp; omega)
  rw [spl_all (by simpa using h)] at h1
  exact h1
theorem cont_snoc (l : List (List Nat)) (q : List (Int × List Nat)) (p : Int × List Nat) : cont l (q ++ [p]) = (cont l q).set p.1.toNat p.2 := by
  induction q generalizing l with
  | nil => rfl
  | cons a q ih => rw [List.cons_append, cont, cont, ih]
theorem pgc_set {l : List (List Nat)} (h : P16 l) {i : Nat} (hi : i < l.length) {p : List Nat} (hp : p.length = 16) : pgc (l.set i p) = spl (pgc l) (i * 16) (p.map bv) := by
  unfold pgc; rw [flat_set h hi hp, spl_map]
theorem pgc_length {l : List (List Nat)} (h : P16 l) : (pgc l).length = l.length * 16 := by unfold pgc; rw [List.length_map, flat_len h]
theorem bv_one (r : List Nat) : ∀ v ∈ r.map bv, v.oneCell' = true := by intro u hu; obtain ⟨x, _, rfl⟩ := List.mem_map.1 hu; rfl
theorem pdv_one (p : Int × List Nat) : ∀ v ∈ pdv p, v.oneCell' = true := by
  intro u hu
  unfold pdv at hu
  rcases List.mem_cons.1 hu with h | h
  · rw [h]; rfl
  · exact bv_one _ u h
theorem pdv_len {p : Int × List Nat} (h : p.2.length = 16) : (pdv p).length = 17 := by unfold pdv; rw [List.length_cons, List.length_map, h]

/-- What Read answers. -/
def drErr (n : Nat) (q : List (Int × List Nat)) (i c : Int) : Nat := if dkErr n q = 0 then if 0 ≤ i ∧ 0 ≤ c ∧ i ≤ (n : Int) ∧ c ≤ (n : Int) - i then 0 else 2 else dkErr n q
def drPg (l : List (List Nat)) (q : List (Int × List Nat)) (i c : Int) : List (List Nat) := if drErr l.length q i c = 0 then ((cont l q).drop i.toNat).take c.toNat else []
end Go.Proofs.YtkclmfppjhmnjaaGreat

namespace Go.Proofs.YtkclmfppjhmnjaaGreat
open Go.RowKit Img

theorem wpList_want {P : Program} {ops : Array Oper} {Q : Exit → Act → World → Prop} {a : Act} {w : World} {rest : List Oper} {o : Oper} (hw : Region.wanted o (yielded ops a.tmps) = true)
    (h : ∀ K : Act → World → Prop, (∀ a w, wpList P ops Q rest a w → K a w) → o.wp P a w K Q) : wpList P ops Q (o :: rest) a w :=
  wpList_step fun K hK => by rw [if_pos hw]; exact h K hK

theorem beq_cast (x y : Nat) : ((x : Int) == (y : Int)) = decide (x = y) := by
  rw [Bool.eq_iff_iff, beq_iff_eq, decide_eq_true_eq]; omega
theorem eqItems_bytes (d : Nat) (r s : List Nat) (w : World) (is : List Nat) (h : ∀ i ∈ is, i < r.length ∧ i < s.length) :
    (Op.eqItems (d + 1) 5 1 (r.map bv).toArray (s.map bv).toArray is).run Tryz.prog w = .ok (decide (∀ i ∈ is, r.getD i 0 = s.getD i 0)) w := by
  induction is with
  | nil => simp [Op.eqItems]
  | cons i is ih =>
    obtain ⟨h1, h2⟩ := h i (List.mem_cons_self ..)
    have e1 : (r.map bv).toArray[i * 1]? = some (bv (r.getD i 0)) := by rw [Nat.mul_one, List.getElem?_toArray, List.getElem?_map, getD_some (d := 0) h1]; rfl
    have e2 : (s.map bv).toArray[i * 1]? = some (bv (s.getD i 0)) := by rw [Nat.mul_one, List.getElem?_toArray, List.getElem?_map, getD_some (d := 0) h2]; rfl
    have hk : Tryz.prog.plainKey 5 = true := by kernel_rfl
    unfold Op.eqItems
    simp only [Sem.run_bind, run_part_plain w hk e1, run_part_plain w hk e2, Result.andThen_ok]
    rw [show bv (r.getD i 0) = .int .u8 (r.getD i 0 : Nat) from rfl, show bv (s.getD i 0) = .int .u8 (s.getD i 0 : Nat) from rfl, run_equalIn_int w d 5 .u8 .u8 _ _ Tryz.underlying5, Result.andThen_ok, beq_cast]
    by_cases he : r.getD i 0 = s.getD i 0
    · rw [decide_eq_true he]
      simp only [Bool.not_true, Bool.false_eq_true, if_false]
      have e : decide (∀ j ∈ i :: is, r.getD j 0 = s.getD j 0) = decide (∀ j ∈ is, r.getD j 0 = s.getD j 0) := by
        rw [Bool.eq_iff_iff, decide_eq_true_eq, decide_eq_true_eq]
        exact ⟨fun hx j hj => hx j (List.mem_cons_of_mem _ hj), fun hx j hj => by
          rcases List.mem_cons.1 hj with hj | hj
          · rw [hj]; exact he
          · exact hx j hj⟩
      rw [ih (fun j hj => h j (List.mem_cons_of_mem _ hj)), e]
    · rw [decide_eq_false he]
      simp only [Bool.not_false, if_true, Sem.run_pure]
      rw [decide_eq_false fun hx => he (hx i (List.mem_cons_self ..))]

theorem wpList_load_want {P : Program} {ops : Array Oper} {rest : List Oper} {op : Oper} {a : Act} {w : World} {Q : Exit → Act → World → Prop} (hw : Region.wanted op (yielded ops a.tmps) = true) (ty : TypeId) (x : Operand) (ho : op.op = .load ty x)
    (b o : Nat) (hx : a.eval x = .pointer (some ⟨b, o, none⟩)) (cs : List Value) (d : TypeDesc) (hc : w.rangeAt b o cs)
    (hu : P.underlying ty = some d) (hd : d.isRow = true) (hi : (P.info? ty).map (·.size) = some cs.length)
    (h : wpList P ops Q rest (a.put op.dst (.agg cs.toArray)) w) : wpList P ops Q (op :: rest) a w :=
  wpList_want hw fun _ hK => wp_load_mid ty x ho b o hx cs d hc hu hd hi (hK _ _ h)
/-- The page of zeros, as the program makes it. -/
def zpv : Value := .agg #[.int .u8 0, .int .u8 0, .int .u8 0, .int .u8 0, .int .u8 0, .int .u8 0, .int .u8 0, .int .u8 0, .int .u8 0, .int .u8 0, .int .u8 0, .int .u8 0, .int .u8 0, .int .u8 0, .int .u8 0, .int .u8 0]
theorem zpv_eq : zpv = .agg (zp.map bv).toArray := rfl
end Go.Proofs.YtkclmfppjhmnjaaGreat
