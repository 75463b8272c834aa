/- The contract of parity's iterator over the parts that are not lost. -/
import Derived.Test.YtlbomlolomcolaaGal3
import Derived.RangeFuncNested
import Derived.RangeFuncBound
import Derived.RangeFuncCalls
import Derived.RangeFuncLeaves
import Derived.RangeFuncBox
import Derived.Shelf.Abstract
import Derived.OwnWalkIn
import Derived.TacticsInMore
import Derived.LoopNIn
import Derived.LoopIn
namespace Go.Proofs.Ytlbomlolomcolaa
open Go.RowKit Go.Shelf

attribute [local go_sem] Oper.semAt_some

def plen (parts : List (List Nat)) (i : Nat) : Nat := (parts.getD i []).length
/-- The index of a part that is not lost. -/
abbrev PI (parts : List (List Nat)) : Type := { i : Nat // i < parts.length ∧ 1 ≤ plen parts i }
/-- Those below k. -/
def piTo (parts : List (List Nat)) : Nat → List (PI parts)
  | 0 => []
  | k + 1 => if h : k < parts.length ∧ 1 ≤ plen parts k then piTo parts k ++ [⟨k, h⟩] else piTo parts k

theorem piTo_yes {parts : List (List Nat)} {k : Nat} (h : k < parts.length ∧ 1 ≤ plen parts k) : piTo parts (k + 1) = piTo parts k ++ [⟨k, h⟩] := by
  show (if h : _ then _ else _) = _; rw [dif_pos h]
theorem piTo_no {parts : List (List Nat)} {k : Nat} (h : ¬ 1 ≤ plen parts k) : piTo parts (k + 1) = piTo parts k := by
  show (if h : _ then _ else _) = _; rw [dif_neg fun e => h e.2]
theorem piTo_length (parts : List (List Nat)) (k : Nat) : (piTo parts k).length ≤ k := by
  induction k with
  | zero => exact Nat.le_refl _
  | succ k ih =>
    by_cases h : k < parts.length ∧ 1 ≤ plen parts k
    · rw [piTo_yes h, List.length_append, List.length_singleton]; omega
    · show List.length (if h : _ then _ else _) ≤ _; rw [dif_neg h]; omega

/-- A part as the iterator hands it over. -/
def pEnc {parts : List (List Nat)} (A : Nat → Option Addr) (C : Nat → Nat) (x : PI parts) : Array Value := #[.int .i64 (x.1 : Nat), .slice (A x.1) (plen parts x.1) (C x.1)]

set_option maxRecDepth 100000 in
set_option maxHeartbeats 2000000 in
theorem present1_in (F : Fence) (n : Nat) (hfn : F.fn 80) (hro : F.round = none) (hn : 1 ≤ n) (l Bs n₀ b o cap : Nat) (parts : List (List Nat)) (A : Nat → Option Addr) (C : Nat → Nat) (hN : parts.length ≤ 1000000000) (hb : b < n₀) (J Jx : List (PI parts) → World → Prop)
    (hY : Hid (∀ pre x W, J pre W → pre.length < parts.length → YieldAt F (n - 1) Try.prog l (pEnc A C x) W fun e W' =>
      (e = .returned (.bool true) ∧ J (pre ++ [x]) W' ∧ Below n₀ W W') ∨ (e = .returned (.bool false) ∧ Jx (pre ++ [x]) W')))
    (W : World) (hBs : W.cell? ⟨Bs, 0, none⟩ = some (.slice (some ⟨b, o, none⟩) parts.length cap)) (hc : Hid (MxAt W b o parts A C)) (h0 : Hid (J [] W)) :
    CallsIn F n Try.prog 80 #[.func (.yield l) #[] #[], .pointer (some ⟨Bs, 0, none⟩)] W fun e W' => (∃ v, e = .returned v) ∧
      ((∃ ys, ys = piTo parts parts.length ∧ J ys W') ∨ (∃ pre, (∃ k, k ≤ parts.length ∧ pre = piTo parts k) ∧ Jx pre W')) := by
  refine callsIn_of_wp Try.func80 rfl hfn ?_ hro
  simp only [Try.ntmps80, List.size_toArray, List.length_cons, List.length_nil, Nat.reduceAdd, Nat.reduceSub, Array.replicate_succ, Array.replicate_zero, List.push_toArray, List.append_toArray, List.nil_append, List.cons_append]
  gi_wp2
  gi_loopw [7] (fun i wr => ∃ k : Nat, k ≤ parts.length ∧ i = .int .i64 k ∧ Hid (J (piTo parts k) wr) ∧ Hid (Below n₀ W wr))
    (fun i _ => parts.length - (intOf i).toNat)
  case atStart => exact ⟨0, Nat.zero_le _, rfl, h0, Below.refl _ _⟩
  case round =>
    obtain ⟨k, hk, rfl, hJs, hnx⟩ := hrel
    by_cases hlt : k < parts.length
    · have hcx' := (hnx.out.cell (p := ⟨b, o + k, none⟩) hb).trans (hc.out k _ (getD_some (d := []) hlt)).1
      rw [show (parts.getD k []).length = plen parts k from rfl] at hcx'
      by_cases hp : 1 ≤ plen parts k
      · have hpl : 0 < plen parts k := by omega
        obtain ⟨fn, tmps, assign, body, hy, hR⟩ := hY.out _ (⟨k, hlt, hp⟩ : PI parts) wr hJs.out (by have := piTo_length parts k; omega)
        unfold pEnc at hy
        dsimp only at hy
        gi_wp2
        refine hR.mono ?_
        rintro e W3 (⟨rfl, hJ3, hk3⟩ | ⟨rfl, hJx3⟩)
        · gi_wp2
          go_roundw
          case rel => exact ⟨k + 1, by omega, by simp, by rw [piTo_yes ⟨hlt, hp⟩]; exact hJ3, hnx.out.trans hk3⟩
          case measure => simp [intOf]; omega
        · gi_wp2
          refine bodyPost_ret (results_none rfl _ _ _) rfl ?_
          exact ⟨⟨_, rfl⟩, .inr ⟨_, ⟨k + 1, by omega, (piTo_yes ⟨hlt, hp⟩).symm⟩, hJx3⟩⟩
      · have hpl : plen parts k ≤ 0 := by omega
        have hpd : decide (0 < (plen parts k : Int)) = false := by simp; omega
        gi_wp2
        refine ⟨fun _ h => (by cases h), ?_⟩
        gi_wp2
        go_roundw
        case rel => exact ⟨k + 1, by omega, by simp, by rw [piTo_no hp]; exact hJs.out, hnx.out⟩
        case measure => simp [intOf]; omega
    · obtain rfl : k = parts.length := by omega
      gi_wp2
      go_end0
      exact ⟨⟨_, rfl⟩, .inl ⟨_, rfl, hJs.out⟩⟩

set_option maxHeartbeats 1000000 in
theorem present_in (F : Fence) (n : Nat) (hfn : F.fn 54) (hro : F.round = none) (a : Option Addr) (len cap : Nat) (w : World) :
    CallsIn F n Try.prog 54 #[.slice a len cap] w fun e w' => e = .returned (.func (.func 80) #[] #[.pointer (some ⟨w.heap.size, 0, none⟩)]) ∧ w' = w.alloc (.cells #[.slice a len cap] 39) := by
  refine callsIn_of_wp Try.func54 rfl hfn ?_ hro
  simp only [Try.ntmps54, List.size_toArray, List.length_cons, List.length_nil, Nat.reduceAdd, Nat.reduceSub, Array.replicate_succ, Array.replicate_zero, List.push_toArray, List.append_toArray, List.nil_append, List.cons_append]
  gi_wp2
  go_ret
  exact ⟨rfl, rfl⟩

theorem present_stops (F : Fence) (n : Nat) (hfn : F.fn 80) (hro : F.round = none) (hn : 1 ≤ n) (Bs n₀ b o cap : Nat) (parts : List (List Nat)) (A : Nat → Option Addr) (C : Nat → Nat) (hN : parts.length ≤ 1000000000) (w : World) (hBs : Bs < w.heap.size) (hb : b < n₀)
    (hc : w.cell? ⟨Bs, 0, none⟩ = some (.slice (some ⟨b, o, none⟩) parts.length cap)) (hM : MxAt w b o parts A C) :
    SeqStopsK F n Try.prog 80 #[.pointer (some ⟨Bs, 0, none⟩)] (pEnc (parts := parts) A C) (Below n₀) (fun ys => ys = piTo parts parts.length) (fun pre => ∃ k, k ≤ parts.length ∧ pre = piTo parts k) parts.length w := fun l J Jx W hW _ _ hY h0 => by
  have hc' := (hW.cell (p := ⟨Bs, 0, none⟩) hBs).trans hc
  exact present1_in F n hfn hro hn l Bs n₀ b o cap parts A C hN hb J Jx hY W hc' (hM.new hW) h0
end Go.Proofs.Ytlbomlolomcolaa
