/- The contract of awake: the examples of chapter 53 hold. -/
/- Contracts of bytes.Equal, of the reference's SamePages, Same and Few. -/
import Derived.Test.YtkclmfppjhmnjaaGreatB01
import Derived.Test.YtkclmfppjhmnjaaGreatB14
import Derived.Test.YtkclmfppjhmnjaaGreatB10
import Derived.Test.YtkclmfppjhmnjaaGreatB15
import Derived.Test.YtkclmfppjhmnjaaGreatB09
import Derived.Deep.QuietTactic
import Derived.BigQuiet
namespace Go.Proofs.YtkclmfppjhmnjaaGreat
open Go.RowKit

/-- A matrix of two rows of two bytes, as a literal lays it. -/
def W22 (w : World) (a b c d : Nat) : World :=
  ((w.alloc (.cells #[.int .u8 a, .int .u8 b] 5)).alloc (.cells #[.int .u8 c, .int .u8 d] 5)).alloc (.cells #[.slice (some ⟨w.heap.size, 0, none⟩) 2 2, .slice (some ⟨w.heap.size + 1, 0, none⟩) 2 2] 25)

theorem W22_size (w : World) (a b c d : Nat) : (W22 w a b c d).heap.size = w.heap.size + 3 := by simp [W22]
theorem W22_below (w : World) (a b c d : Nat) : Below w.heap.size w (W22 w a b c d) := (((Below.refl _ _).alloc (Nat.le_refl _) _).alloc (by simp) _).alloc (by simp; omega) _

theorem Mx22 (w : World) (a b c d : Nat) : Mx (W22 w a b c d) (.slice (some ⟨w.heap.size + 2, 0, none⟩) 2 2) [[a, b], [c, d]] := by
  have h1 := ((Blk.new w 5 #[.int .u8 a, .int .u8 b]).alloc (.cells #[.int .u8 c, .int .u8 d] 5)).alloc (.cells #[.slice (some ⟨w.heap.size, 0, none⟩) 2 2, .slice (some ⟨w.heap.size + 1, 0, none⟩) 2 2] 25)
  have h2 := (Blk.new (w.alloc (.cells #[.int .u8 a, .int .u8 b] 5)) 5 #[.int .u8 c, .int .u8 d]).alloc (.cells #[.slice (some ⟨w.heap.size, 0, none⟩) 2 2, .slice (some ⟨w.heap.size + 1, 0, none⟩) 2 2] 25)
  have h3 := Blk.new ((w.alloc (.cells #[.int .u8 a, .int .u8 b] 5)).alloc (.cells #[.int .u8 c, .int .u8 d] 5)) 25 #[.slice (some ⟨w.heap.size, 0, none⟩) 2 2, .slice (some ⟨w.heap.size + 1, 0, none⟩) 2 2]
  have s1 : (w.alloc (.cells #[.int .u8 a, .int .u8 b] 5)).heap.size = w.heap.size + 1 := by simp
  have s2 : ((w.alloc (.cells #[.int .u8 a, .int .u8 b] 5)).alloc (.cells #[.int .u8 c, .int .u8 d] 5)).heap.size = w.heap.size + 2 := by simp
  rw [s1] at h2
  rw [s2] at h3
  refine ⟨_, 2, rfl, by simp, Or.inr ⟨w.heap.size + 2, 0, _, _, rfl, MxAt.two (r := [a, b]) (s := [c, d]) (h3.cell rfl) (h3.cell rfl) ⟨by simp, Or.inr ⟨w.heap.size, 0, rfl, ?_⟩, by simp⟩ ⟨by simp, Or.inr ⟨w.heap.size + 1, 0, rfl, ?_⟩, by simp⟩⟩⟩
  · exact Blk.row (l := [a, b]) h1
  · exact Blk.row (l := [c, d]) h2

/-- A matrix of one row of two bytes. -/
def W12 (w : World) (a b : Nat) : World :=
  (w.alloc (.cells #[.int .u8 a, .int .u8 b] 5)).alloc (.cells #[.slice (some ⟨w.heap.size, 0, none⟩) 2 2] 25)
theorem W12_below (w : World) (a b : Nat) : Below w.heap.size w (W12 w a b) := ((Below.refl _ _).alloc (Nat.le_refl _) _).alloc (by simp) _
theorem Mx12 (w : World) (a b : Nat) : Mx (W12 w a b) (.slice (some ⟨w.heap.size + 1, 0, none⟩) 1 1) [[a, b]] := by
  have h1 := (Blk.new w 5 #[.int .u8 a, .int .u8 b]).alloc (.cells #[.slice (some ⟨w.heap.size, 0, none⟩) 2 2] 25)
  have h3 := Blk.new (w.alloc (.cells #[.int .u8 a, .int .u8 b] 5)) 25 #[.slice (some ⟨w.heap.size, 0, none⟩) 2 2]
  have s1 : (w.alloc (.cells #[.int .u8 a, .int .u8 b] 5)).heap.size = w.heap.size + 1 := by simp
  rw [s1] at h3
  refine ⟨_, 1, rfl, by simp, Or.inr ⟨w.heap.size + 1, 0, fun _ => some ⟨w.heap.size, 0, none⟩, fun _ => 2, rfl, ?_⟩⟩
  intro i r hi
  match i, hi with
  | 0, hi =>
    simp only [List.getElem?_cons_zero, Option.some.injEq] at hi
    subst hi
    exact ⟨h3.cell rfl, by simp, Or.inr ⟨w.heap.size, 0, rfl, Blk.row (l := [a, b]) h1⟩, by simp⟩
  | i + 1, hi => simp at hi

theorem GM.mx {w : World} {B : Nat} {v : Value} {hd : List (Nat × Nat)} {m : List (List Nat)} (h : GM w B v hd m) : Mx w v m := by
  by_cases hm : m = []
  · subst hm
    rcases h.outer.2 with ⟨rfl, _⟩ | ⟨g, cap, cur, rfl, _⟩
    · exact ⟨none, 0, rfl, Nat.le_refl _, Or.inl rfl⟩
    · exact ⟨some ⟨g, 0, none⟩, cap, rfl, Nat.zero_le _, Or.inl rfl⟩
  · obtain ⟨bo, cap, rfl, h1, _, hO⟩ := h.done hm
    exact ⟨_, cap, rfl, h1, Or.inr ⟨bo, 0, _, _, rfl, hO.mxAt⟩⟩

theorem ex1 : invErr [[1, 1], [0, 1]] = 0 ∧ invRows [[1, 1], [0, 1]] = [[1, 1], [0, 1]] ∧ rankOf [[2, 4], [1, 2]] = 1 ∧ rankErr [[2, 4], [1, 2]] = 0 ∧ cauM 1 2 = [[1, 142]] := by decide +kernel
theorem ex2 : Gf.gm 2 128 = 29 ∧ Gf.gm 3 7 = 9 ∧ Gf.gm 16 16 = 29 ∧ Gf.gm 29 2 = 58 ∧ Gf.gpow 2 8 = 29 ∧ Gf.gpow 2 (-1) = 142 ∧ Gf.gi0 2 = 142 ∧ Gf.ge0 2 = 0 := by decide +kernel

theorem Byt2 {a b : Nat} (ha : a < 256) (hb : b < 256) : Byt [a, b] := by
  intro x hx
  simp at hx
  omega
theorem BytM22 {a b c d : Nat} (ha : a < 256) (hb : b < 256) (hc : c < 256) (hd : d < 256) : BytM [[a, b], [c, d]] := by
  intro r hr
  simp at hr
  rcases hr with rfl | rfl
  · exact Byt2 ha hb
  · exact Byt2 hc hd
theorem BytM12 {a b : Nat} (ha : a < 256) (hb : b < 256) : BytM [[a, b]] := by
  intro r hr
  simp at hr
  subst hr
  exact Byt2 ha hb

end Go.Proofs.YtkclmfppjhmnjaaGreat

namespace Go.Proofs.YtkclmfppjhmnjaaGreat
open Go.RowKit Img

set_option maxRecDepth 100000 in
theorem bEqual_any (v1 v2 : Value) (a b : List Nat) (w : World) (h1 : Bs w v1 a) (h2 : Bs w v2 b) (ha : Byt a) (hb : Byt b) : Calls Tryz.prog 12 #[v1, v2] w fun e w' => e = .returned (.bool (decide (a = b))) ∧ w = w' := by
  obtain ⟨a1, c1, rfl, _, r1⟩ := h1
  obtain ⟨a2, c2, rfl, _, r2⟩ := h2
  have q1 := conv_row (c := c1) r1 0
  have q2 := conv_row (c := c2) r2 0
  rw [World.drewN_zero] at q1 q2
  have q3 := Lib.hid (bstr_beq ha hb)
  clear r1 r2 ha hb
  generalize bstr a = x at *
  generalize bstr b = y at *
  go_enter Tryz.func12, Tryz.ntmps12
  go_wp2_with fail
  go_ret
  exact ⟨by rw [← q3.out]; rfl, rfl⟩

theorem wpQuiet_w {P : Program} {ops : Array Oper} {C : World → Prop} {Q : Act → Prop} {a : Act} {o : Oper} {rest : List Oper} (hw : Region.wanted o (yielded ops a.tmps) = true) (h : ∀ K : Act → Prop, (∀ a, wpQuiet P ops C Q rest a → K a) → o.quiet P a C K) : wpQuiet P ops C Q (o :: rest) a :=
  wpQuiet_step fun K hK => by rw [if_pos hw]; exact h K hK
theorem quiet_load_mid {P : Program} {op : Oper} {a : Act} {C : World → Prop} {K : Act → Prop} (ty : TypeId) (x : Operand) (ho : op.op = .load ty x) (b o : Nat) (hx : a.eval x = .pointer (some ⟨b, o, none⟩)) (cs : List Value) (d : TypeDesc) (hC : ∀ w, C w → w.rangeAt b o cs)
    (hu : P.underlying ty = some d) (hd : d.isRow = true) (hi : (P.info? ty).map (·.size) = some cs.length) (hk : K (a.put op.dst (.agg cs.toArray))) : op.quiet P a C K :=
  ⟨_, fun w hw => by
    unfold Oper.quietAt execOp
    simp only [ho, hx, Instr.loadAt, Instr.sureAddr, Sem.run_bind, Sem.run_pure, Result.andThen_ok, run_loadVar_mid w b o ty cs d (hC w hw) hu hd hi]
    exact ⟨rfl, rfl⟩, hk⟩
/-- The first k pages are the same. -/
def agreeP (a b : List (List Nat)) (k : Nat) : Prop := ∀ i, i < k → a.getD i [] = b.getD i []
theorem agreeP_all {a b : List (List Nat)} (hl : a.length = b.length) (h : agreeP a b a.length) : a = b := by
  apply List.ext_getElem?
  intro i
  by_cases hi : i < a.length
  · rw [getD_some (d := []) hi, getD_some (l := b) (d := []) (by omega), h i hi]
  · rw [List.getElem?_eq_none (by omega), List.getElem?_eq_none (by omega)]

end Go.Proofs.YtkclmfppjhmnjaaGreat
