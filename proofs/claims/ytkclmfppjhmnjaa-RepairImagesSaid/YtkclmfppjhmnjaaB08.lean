/- Pages and pending writes in memory; stores of many cells; slices.Clone at pages. -/
/- Contracts of disk.Check, fits, contents, Read. -/
/- Contracts of slices.Equal and of the third reference's Same, at any bytes. -/
import Derived.Test.YtkclmfppjhmnjaaB07
import Derived.Deep.MidRow
import Derived.Test.YtkclmfppjhmnjaaB00
import Derived.Deep.DeepCutAuto
import Derived.Deep.QuietTactic
import Derived.BigQuiet
namespace Go.Proofs.Ytkclmfppjhmnjaa
open Go.RowKit Img

theorem Blk.ofN {w : World} {base e k : Nat} {g n cap : Nat} {xs : List Value} (h : w.ownsRow base e k (.slice (some ⟨g, 0, none⟩) n cap) n xs) : Blk w g e xs := by
  rcases h.2 with ⟨h0, _⟩ | ⟨g', cap', cur, hv, _, hh, _, _, _, ht⟩
  · simp at h0
  · simp only [Value.slice.injEq, Option.some.injEq, Addr.mk.injEq] at hv
    obtain ⟨⟨rfl, _⟩, _, _⟩ := hv
    refine ⟨cur.toList.drop (n * k), ?_⟩
    rw [hh, ← ht, List.take_append_drop]

/-- Some elements of a list replaced. -/
def spl {α : Type} (xs : List α) (o : Nat) (vs : List α) : List α := xs.take o ++ vs ++ xs.drop (o + vs.length)
theorem spl_nil {α : Type} (xs : List α) (o : Nat) : spl xs o [] = xs := by
  unfold spl; rw [List.append_nil, List.length_nil, Nat.add_zero, List.take_append_drop]
theorem spl_cons {α : Type} {xs : List α} {o : Nat} {v : α} {r : List α} (h : o < xs.length) : spl xs o (v :: r) = spl (xs.set o v) (o + 1) r := by
  unfold spl
  have e1 : (xs.set o v).take (o + 1) = xs.take o ++ [v] := by
    apply List.ext_getElem?
    intro i
    rw [List.getElem?_take, List.getElem?_append, List.length_take, Nat.min_eq_left (Nat.le_of_lt h), List.getElem?_take]
    by_cases h1 : i < o
    · rw [if_pos (by omega), if_pos h1, if_pos h1, List.getElem?_set_ne (by omega)]
    · rw [if_neg h1]
      by_cases h2 : i = o
      · subst h2; rw [if_pos (by omega), List.getElem?_set_self h, Nat.sub_self]; rfl
      · rw [if_neg (by omega), List.getElem?_eq_none (by simp; omega)]
  rw [e1, List.drop_set_of_lt (by omega), List.length_cons, show o + (r.length + 1) = o + 1 + r.length by omega]
  simp
theorem spl_length {α : Type} {xs : List α} {o : Nat} {vs : List α} (h : o + vs.length ≤ xs.length) : (spl xs o vs).length = xs.length := by
  unfold spl; simp only [List.length_append, List.length_take, List.length_drop]; omega
theorem spl_map {α β : Type} (f : α → β) (xs : List α) (o : Nat) (vs : List α) : spl (xs.map f) o (vs.map f) = (spl xs o vs).map f := by
  unfold spl; simp only [List.map_append, List.map_take, List.map_drop, List.length_map]

theorem Blk.setCells {w : World} {g T : Nat} {xs vs : List Value} {o : Nat} (h : Blk w g T xs) (hb : o + vs.length ≤ xs.length) : Blk (w.setCells g o vs) g T (spl xs o vs) := by
  induction vs generalizing w xs o with
  | nil => rw [spl_nil]; exact h
  | cons v r ih =>
    rw [List.length_cons] at hb
    rw [World.setCells, spl_cons (by omega)]
    exact ih (h.setCell (by omega) v) (by rw [List.length_set]; omega)
theorem heap_setCells (w : World) (b o : Nat) (vs : List Value) {k : Nat} (hk : k ≠ b) : (w.setCells b o vs).heap[k]? = w.heap[k]? := by
  induction vs generalizing w o with
  | nil => rfl
  | cons v r ih => rw [World.setCells, ih]; exact Below.heap_setCell _ _ _ _ hk
theorem Blk.setCells_other {w : World} {g T b o : Nat} {xs vs : List Value} (h : Blk w g T xs) (hne : g ≠ b) : Blk (w.setCells b o vs) g T xs := h.of_same (heap_setCells _ _ _ _ hne)
theorem below_setCells {B : Nat} {a w : World} (h : Below B a w) {b : Nat} (hp : B ≤ b) (o : Nat) (vs : List Value) : Below B a (w.setCells b o vs) := by
  induction vs generalizing w o with
  | nil => exact h
  | cons v r ih => rw [World.setCells]; exact ih (h.setCell (p := ⟨b, o, none⟩) hp v) (o + 1)
theorem size_setCells (w : World) (b o : Nat) (vs : List Value) : (w.setCells b o vs).heap.size = w.heap.size := by
  induction vs generalizing w o with
  | nil => rfl
  | cons v r ih => rw [World.setCells, ih]; simp [World.setCell]

theorem Blk.there {w : World} {g T : Nat} {xs : List Value} (h : Blk w g T xs) {o n : Nat} (hb : o + n ≤ xs.length) : w.there g o n := fun j hj =>
  ⟨by rw [h.cell (i := o + j) (List.getElem?_eq_getElem (by omega))]; rfl, h.frozen _⟩
theorem RowAt.range {w : World} {b o : Nat} {l : List Nat} (h : RowAt w b o l) : w.rangeAt b o (l.map bv) := by
  intro j v hv
  rw [List.getElem?_map] at hv
  cases hx : l[j]? with
  | none => rw [hx] at hv; cases hv
  | some x =>
    rw [hx, Option.map_some, Option.some.injEq] at hv
    rw [← hv]; exact h j x hx

theorem flat_get {l : List (List Nat)} {n : Nat} (h : ∀ r ∈ l, r.length = n) {i : Nat} {r : List Nat} (hi : l[i]? = some r) {j x : Nat} (hj : r[j]? = some x) : l.flatten[i * n + j]? = some x := by
  induction l generalizing i with
  | nil => simp at hi
  | cons a l ih =>
    have ha := h a (List.mem_cons_self ..)
    rw [List.flatten_cons]
    cases i with
    | zero =>
      simp only [List.getElem?_cons_zero, Option.some.injEq] at hi
      subst hi
      rw [Nat.zero_mul, Nat.zero_add, List.getElem?_append_left (List.getElem?_eq_some_iff.1 hj).1]
      exact hj
    | succ i =>
      rw [List.getElem?_append_right (by rw [Nat.succ_mul]; omega), ha, show (i + 1) * n + j - n = i * n + j by rw [Nat.succ_mul]; omega]
      exact ih (fun r hr => h r (List.mem_cons_of_mem _ hr)) (by simpa using hi)
theorem flat_len {l : List (List Nat)} {n : Nat} (h : ∀ r ∈ l, r.length = n) : l.flatten.length = l.length * n := by
  induction l with
  | nil => simp
  | cons a l ih => rw [List.flatten_cons, List.length_append, ih (fun r hr => h r (List.mem_cons_of_mem _ hr)), h a (List.mem_cons_self ..), List.length_cons, Nat.succ_mul]; omega
theorem flat_set {l : List (List Nat)} {n : Nat} (h : ∀ r ∈ l, r.length = n) {i : Nat} (hi : i < l.length) {p : List Nat} (hp : p.length = n) : (l.set i p).flatten = spl l.flatten (i * n) p := by
  induction l generalizing i with
  | nil => simp at hi
  | cons a l ih =>
    have ha := h a (List.mem_cons_self ..)
    unfold spl
    cases i with
    | zero =>
      rw [List.set_cons_zero, List.flatten_cons, List.flatten_cons, Nat.zero_mul, List.take_zero, List.nil_append, Nat.zero_add, List.drop_append, List.drop_of_length_le (by omega), List.nil_append, hp, ← ha, Nat.sub_self, List.drop_zero]
    | succ i =>
      have := ih (fun r hr => h r (List.mem_cons_of_mem _ hr)) (i := i) (by simpa using hi)
      unfold spl at this
      rw [List.set_cons_succ, List.flatten_cons, List.flatten_cons, this, show (i + 1) * n = a.length + i * n by rw [Nat.succ_mul]; omega, List.take_length_add_append, Nat.add_assoc, List.drop_length_add_append, List.append_assoc, List.append_assoc, List.append_assoc]
theorem PgAt.flat {w : World} {b o n : Nat} {l : List (List Nat)} (h : PgAt w b o n l) (hl : ∀ r ∈ l, r.length = n) : RowAt w b o l.flatten := by
  induction l generalizing o with
  | nil => intro i x hx; simp at hx
  | cons a l ih =>
    intro i x hx
    rw [List.flatten_cons] at hx
    have ha := hl a (List.mem_cons_self ..)
    by_cases hi : i < a.length
    · rw [List.getElem?_append_left hi] at hx
      have := h 0 a rfl i x hx
      rw [Nat.zero_mul, Nat.add_zero] at this
      exact this
    · rw [List.getElem?_append_right (by omega)] at hx
      have h2 : PgAt w b (o + n) n l := by
        intro j r hr
        have := h (j + 1) r (by simpa using hr)
        rw [show o + (j + 1) * n = o + n + j * n by rw [Nat.succ_mul]; omega] at this
        exact this
      have := ih h2 (fun r hr => hl r (List.mem_cons_of_mem _ hr)) _ x hx
      rw [show o + n + (i - a.length) = o + i by omega] at this
      exact this
theorem RowAt.page {w : World} {b o n : Nat} {l : List (List Nat)} (h : RowAt w b o l.flatten) (hl : ∀ r ∈ l, r.length = n) : PgAt w b o n l := by
  intro i r hr j x hx
  have := h (i * n + j) x (flat_get hl hr hx)
  rw [← Nat.add_assoc] at this
  exact this

/-- The cells of pages. -/
def pgc (l : List (List Nat)) : List Value := l.flatten.map bv
/-- A slice of pages that owns its block. -/
def PO (w : World) (B : Nat) (v : Value) (l : List (List Nat)) : Prop := w.ownsRow B 82 16 v l.length (pgc l)
theorem PO.nil (w : World) (B : Nat) : PO w B (.slice none 0 0) [] := ⟨rfl, .inl ⟨rfl, rfl⟩⟩
theorem PO.pgs {w : World} {B : Nat} {v : Value} {l : List (List Nat)} (h : PO w B v l) (hl : ∀ r ∈ l, r.length = 16) : Pgs w v 16 l := by
  have h' := h
  rcases h.2 with ⟨rfl, h0⟩ | ⟨g, cap, cur, rfl, hb, hg, hn, hc, hs, ht⟩
  · exact ⟨none, 0, by rw [h0], by omega, Or.inl (List.eq_nil_of_length_eq_zero h0)⟩
  · exact ⟨some ⟨g, 0, none⟩, cap, rfl, hn, Or.inr ⟨g, 0, rfl, (Blk.ofN h').row.page hl⟩⟩
theorem PO.new {w w' : World} {B : Nat} {v : Value} {l : List (List Nat)} (h : PO w B v l) (k : Below w.heap.size w w') : PO w' B v l :=
  World.ownsRow.kept h (row := none) ⟨k.os, k.tape, k.output, k.size, fun i hi _ => k.block i hi⟩ (by cases v.ownBlock <;> simp)
theorem PO.base {w : World} {B B' : Nat} {v : Value} {l : List (List Nat)} (h : PO w B v l) (hB : B' ≤ B) : PO w B' v l := by
  refine ⟨h.1, ?_⟩
  rcases h.2 with h | ⟨g, cap, cur, hv, hb, rest⟩
  · exact .inl h
  · exact .inr ⟨g, cap, cur, hv, by omega, rest⟩
theorem PO.some {w : World} {B : Nat} {v : Value} {l : List (List Nat)} (h : PO w B v l) (hl : l ≠ []) : ∃ g cap, v = .slice (.some ⟨g, 0, .none⟩) l.length cap ∧ B ≤ g ∧ l.length ≤ cap ∧ cap ≤ maxLen ∧ Blk w g 82 (pgc l) := by
  have h' := h
  rcases h.2 with ⟨rfl, h0⟩ | ⟨g, cap, cur, rfl, hb, hg, hn, hc, hs, ht⟩
  · exact absurd (List.eq_nil_of_length_eq_zero h0) hl
  · exact ⟨g, cap, rfl, hb, hn, hc, Blk.ofN h'⟩

/-- A slice of pages in a block of the call's own. -/
def PW (w : World) (B : Nat) (v : Value) (l : List (List Nat)) : Prop := ∃ g cap, v = .slice (some ⟨g, 0, none⟩) l.length cap ∧ B ≤ g ∧ l.length ≤ cap ∧ cap ≤ maxLen ∧ Blk w g 82 (pgc l)
theorem PW.pgs {w : World} {B : Nat} {v : Value} {l : List (List Nat)} (h : PW w B v l) (hl : ∀ r ∈ l, r.length = 16) : Pgs w v 16 l := by
  obtain ⟨g, cap, rfl, h1, h2, h3, hb⟩ := h
  exact ⟨_, cap, rfl, h2, Or.inr ⟨g, 0, rfl, (show Blk w g 82 (l.flatten.map bv) from hb).row.page hl⟩⟩
theorem PW.new {w w' : World} {B : Nat} {v : Value} {l : List (List Nat)} (h : PW w B v l) (k : Below w.heap.size w w') : PW w' B v l := by
  obtain ⟨g, cap, rfl, h1, h2, h3, hb⟩ := h
  exact ⟨g, cap, rfl, h1, h2, h3, hb.below k hb.lt⟩
theorem PW.base {w : World} {B B' : Nat} {v : Value} {l : List (List Nat)} (h : PW w B v l) (hB : B' ≤ B) : PW w B' v l := by
  obtain ⟨g, cap, rfl, h1, h2, h3, hb⟩ := h
  exact ⟨g, cap, rfl, by omega, h2, h3, hb⟩
/-- A pending write as cells. -/
def pdv (p : Int × List Nat) : List Value := .int .i64 p.1 :: p.2.map bv
def PdAt (w : World) (b o : Nat) (q : List (Int × List Nat)) : Prop := ∀ i p, q[i]? = some p → w.rangeAt b (o + i * 17) (pdv p)
def Pds (w : World) (v : Value) (q : List (Int × List Nat)) : Prop :=
  ∃ (a : Option Addr) (cap : Nat), v = .slice a q.length cap ∧ q.length ≤ cap ∧ (q = [] ∨ ∃ b o, a = some ⟨b, o, none⟩ ∧ PdAt w b o q)
theorem range_new {w w' : World} {b o : Nat} {cs : List Value} (h : w.rangeAt b o cs) (k : Below w.heap.size w w') : w'.rangeAt b o cs := fun j v hv => by
  have := h j v hv
  exact (k.cell (p := ⟨b, o + j, none⟩) (World.block_lt_of_cell? w _ this)).trans this
theorem PdAt.new {w w' : World} {b o : Nat} {q : List (Int × List Nat)} (h : PdAt w b o q) (k : Below w.heap.size w w') : PdAt w' b o q := fun i p hp => range_new (h i p hp) k
theorem Pds.new {w w' : World} {v : Value} {q : List (Int × List Nat)} (h : Pds w v q) (k : Below w.heap.size w w') : Pds w' v q := by
  obtain ⟨a, cap, hv, hc, h⟩ := h
  exact ⟨a, cap, hv, hc, h.imp id fun ⟨b, o, ha, hp⟩ => ⟨b, o, ha, hp.new k⟩⟩
/-- All pages have 16 bytes. -/
def P16 (l : List (List Nat)) : Prop := ∀ r ∈ l, r.length = 16
def Q16 (q : List (Int × List Nat)) : Prop := ∀ p ∈ q, p.2.length = 16

theorem eqnilPg (w : World) (a : Option Addr) (l c : Nat) : (binOp .eql 22 (.slice a l c) (.slice none 0 0)).run Try.prog w = .ok (.bool a.isNone) w := Lib.run_eql_slice_nil (P := Try.prog) w 22 82 a l c 0 0 Try.underlying22
theorem noPages (w : World) : (Instr.buildSlice 22 0 #[]).run Try.prog w = .ok (.slice (some ⟨w.heap.size, 0, none⟩) 0 0) (w.alloc (.cells #[] 82)) := by kernel_rfl
theorem infoPage : (Try.prog.info? 82).map (fun i => (i.zero, i.size, i.bytes)) = some (some (.agg (Array.replicate 16 (.int .u8 0))), 16, 16) := by kernel_rfl
/-- What a function that returns pages of its own leaves. -/
def PagesRet (l : List (List Nat)) (w : World) (e : Ending) (w' : World) : Prop := ∃ v', e = .returned v' ∧ PO w' w.heap.size v' l ∧ Below w.heap.size w w'

set_option maxRecDepth 100000 in
set_option maxHeartbeats 400000 in
theorem ClonePg_any (v : Value) (l : List (List Nat)) (w : World) (h : Pgs w v 16 l) (h16 : P16 l) (hl : l.length ≤ 1000000000) : Calls Try.prog 41 #[v] w (PagesRet l w) := by
  have q1 := eqnilPg
  have q2 := noPages
  obtain ⟨i0, hi, hz0, hz1, hz2⟩ := info_parts infoPage
  obtain ⟨a, cap, rfl, hcap, hr⟩ := h
  cases a with
  | none =>
    have h0 : l = [] := by
      rcases hr with h | ⟨b, o, ha, _⟩
      · exact h
      · cases ha
    subst h0
    clear hr
    go_enter Try.func41, Try.ntmps41
    go_wp2_with fail
    go_ret
    exact ⟨_, rfl, PO.nil _ _, Below.refl _ _⟩
  | some ad =>
    have Hsrc : Hid (∀ (w' : World), Below w.heap.size w w' → ∀ j u, (pgc l)[j]? = some u → w'.cell? (ad.add j) = some u) := by
      intro w' hb
      rcases hr with h | ⟨b, o, ha, hp⟩
      · subst h; intro j u hu; cases hu
      · simp only [Option.some.injEq] at ha
        subst ha
        exact (hp.flat h16).src hb
    have Hlen := Lib.hid (show (pgc l).length = l.length * 16 by unfold pgc; rw [List.length_map, flat_len h16])
    have Hone := Lib.hid (show ∀ u ∈ pgc l, u.oneCell' = true by intro u hu; obtain ⟨x, _, rfl⟩ := List.mem_map.1 hu; rfl)
    clear hr h16
    go_enter Try.func41, Try.ntmps41
    go_wp2_with (at_builtin; refine wpList_append_own _ rfl _ _ 22 rfl w.heap.size 82 i0 (.agg (Array.replicate 16 (.int .u8 0))) 16 16 Try.underlying22 hi hz0 hz1 hz2 rfl (by decide) _ 0 [] rfl (World.ownsRow_made w #[] 0 (Nat.le_refl _) (by decide) rfl) ad l.length cap (pgc l) rfl ?c1 ?c2 ?c3 ?c4 ?c5 ?c6 ?_)
    case c1 => exact Hlen.out
    case c2 => exact Hsrc.out _ ((Below.refl _ _).alloc (Nat.le_refl _) _)
    case c3 => exact Hone.out
    case c4 => unfold maxLen; omega
    case c5 => omega
    case c6 => simp
    intro v' w' hown hg _
    have hown' : w'.ownsRow w.heap.size 82 16 v' l.length (pgc l) := by simpa only [Nat.zero_add, List.nil_append] using hown
    have hB : Below w.heap.size w w' := ((Below.refl _ _).alloc (Nat.le_refl _) _).grown hg (by simp) (by intro k hk; simp [Value.ownBlock] at hk; omega)
    have HO := Lib.hid (show PO w' w.heap.size v' l from hown')
    have HB := Lib.hid hB
    clear hown hown' hg hB
    go_wp2_with fail
    go_ret
    exact ⟨v', rfl, HO.out, HB.out⟩
end Go.Proofs.Ytkclmfppjhmnjaa

namespace Go.Proofs.Ytkclmfppjhmnjaa
open Go.RowKit Img

set_option maxRecDepth 100000 in
set_option maxHeartbeats 400000 in
theorem dCheck1_any (p : Int × List Nat) (a : Option Addr) (pb n cap : Nat) (w : World) (hp : p.2.length = 16) (hc : w.cell? ⟨pb, 0, none⟩ = some (.slice a n cap)) :
    Calls Try.prog 72 #[.agg (pdv p).toArray, .pointer (some ⟨pb, 0, none⟩)] w fun e w' => e = .returned (.bool (decide (p.1 < 0 ∨ (n : Int) ≤ p.1))) ∧ Below w.heap.size w w' := by
  obtain ⟨z, r⟩ := p
  have hB := (Below.refl w.heap.size w).alloc (Nat.le_refl _) (.cells (pdv (z, r)).toArray 96)
  have c0 : (w.alloc (.cells (pdv (z, r)).toArray 96)).cell? ⟨w.heap.size, 0, none⟩ = some (.int .i64 z) := (Blk.new w 96 (pdv (z, r)).toArray).cell rfl
  have c1 : (w.alloc (.cells (pdv (z, r)).toArray 96)).cell? ⟨pb, 0, none⟩ = some (.slice a n cap) := (hB.cell (p := ⟨pb, 0, none⟩) (World.block_lt_of_cell? w _ hc)).trans hc
  have HB := Lib.hid hB
  clear hB hc hp
  simp only
  by_cases h1 : z < 0
  · have t1 : decide (z < 0) = true := decide_eq_true h1
    have E := Lib.hid (show decide (z < 0 ∨ (n : Int) ≤ z) = true from decide_eq_true (Or.inl h1))
    clear h1
    go_enter Try.func72, Try.ntmps72
    go_wp2_with fail
    go_ret
    exact ⟨by rw [E.out]; rfl, HB.out⟩
  · have t1 : decide (z < 0) = false := decide_eq_false h1
    have E := Lib.hid (show decide (z < 0 ∨ (n : Int) ≤ z) = decide ((n : Int) ≤ z) by simp [h1])
    clear h1
    go_enter Try.func72, Try.ntmps72
    go_wp2_with fail
    go_ret
    exact ⟨by rw [E.out]; rfl, HB.out⟩

theorem pd_size {p : Int × List Nat} (h : p.2.length = 16) : (Try.prog.info? 96).map (·.size) = some (pdv p).length := by
  have : (pdv p).length = 17 := by unfold pdv; rw [List.length_cons, List.length_map, h]
  have h2 : (Try.prog.info? 96).map (·.size) = some 17 := by kernel_rfl
  rw [h2, this]

set_option maxRecDepth 100000 in
set_option maxHeartbeats 400000 in
theorem IndexPd_any (b o n cap : Nat) (q : List (Int × List Nat)) (c : Value) (f : Nat → Bool) (w : World) (hl : q.length = n) (hn : n ≤ 1000000000) (h16 : Q16 q) (hq : PdAt w b o q)
    (hf : Hid (∀ i p, q[i]? = some p → ∀ W, Below w.heap.size w W → Calls Try.prog 72 #[.agg (pdv p).toArray, c] W fun e w' => e = .returned (.bool (f i)) ∧ Below W.heap.size W w')) :
    Calls Try.prog 101 #[.slice (some ⟨b, o, none⟩) n cap, .func (.func 72) #[] #[c]] w fun e w' => e = .returned (.int .i64 (firstOf f n)) ∧ Below w.heap.size w w' := by
  have Hq := Lib.hid hq
  have H16 := Lib.hid h16
  have Hl := Lib.hid hl
  clear hq h16 hl
  go_enter Try.func101, Try.ntmps101
  go_wp2_with fail
  go_loopg [8] n (fun gk i wr => ∃ k : Nat, k + gk = n ∧ i = .int .i64 k ∧ Hid (∀ j, j < k → f j = false) ∧ Hid (Below w.heap.size w wr))
  case atStart => exact ⟨0, by omega, rfl, fun j h => by omega, Below.refl _ _⟩
  case round =>
    obtain ⟨k, hgk, rfl, hp, hB⟩ := hrel
    have Hgk := Lib.hid hgk
    have hkn : k ≤ n := by omega
    clear hgk
    by_cases hlt : k < n
    · have hk : k < q.length := by rw [Hl.out]; exact hlt
      have hpk := List.getElem?_eq_getElem hk
      obtain ⟨p, hpd⟩ : ∃ p, q[k] = p := ⟨_, rfl⟩
      rw [hpd] at hpk
      have Hrg := Lib.hid (range_new (Hq.out k p hpk) hB.out)
      have Hsz := Lib.hid (pd_size (H16.out p (List.mem_of_getElem? hpk)))
      have hcall := Lib.hid (hf.out k p hpk wr hB.out)
      clear hpk hpd hk
      go_wp2_with (refine wpList_load_mid rfl 96 _ rfl b (o + k * 17) rfl (pdv p) _ Hrg.out Try.underlying96 rfl Hsz.out ?_)
      refine hcall.out.mono ?_
      rintro e w' ⟨rfl, hB'⟩
      have HB' := Lib.hid (hB.out.trans (hB'.mono hB.out.size))
      clear hB'
      cases hfk : f k with
      | true =>
        have Hfk := Lib.hid hfk
        clear hfk
        go_wp2_with fail
        go_ret
        exact ⟨by rw [firstOf_hit hlt Hfk.out hp.out]; rfl, HB'.out⟩
      | false =>
        have Hfk := Lib.hid hfk
        clear hfk
        go_wp2_with fail
        go_roundg (n - k - 1)
        case measure => have := Hgk.out; omega
        case rel =>
          refine ⟨k + 1, by have := Hgk.out; omega, by go_num, fun j hj => ?_, HB'.out⟩
          by_cases h : j = k
          · subst h; exact Hfk.out
          · exact hp.out j (by omega)
    · go_wp2_with fail
      go_ret
      exact ⟨by rw [firstOf_none (fun j hj => hp.out j (by omega))]; rfl, hB.out⟩

set_option maxRecDepth 100000 in
set_option maxHeartbeats 400000 in
theorem IndexPd_nil (a : Option Addr) (cap : Nat) (f : Value) (w : World) : Calls Try.prog 101 #[.slice a 0 cap, f] w fun e w' => e = .returned (.int .i64 (-1)) ∧ w = w' := by
  go_enter Try.func101, Try.ntmps101
  go_wp2_with fail
  go_loop [8] (fun i => i = .int .i64 0) (fun _ => 0)
  case atStart => rfl
  case round =>
    subst hrel
    go_wp2_with fail
    go_ret
    exact ⟨rfl, rfl⟩

/-- Does a pending write lie outside of the disk? -/
def outB (n : Nat) (q : List (Int × List Nat)) : Bool := decide (∃ p ∈ q, p.1 < 0 ∨ (n : Int) ≤ p.1)
theorem firstOf_out (n : Nat) (q : List (Int × List Nat)) : decide (0 ≤ firstOf (fun i => decide ((q.getD i (0, [])).1 < 0 ∨ (n : Int) ≤ (q.getD i (0, [])).1)) q.length) = outB n q := by
  unfold outB
  by_cases h : ∃ i, i < q.length ∧ ((q.getD i (0, [])).1 < 0 ∨ (n : Int) ≤ (q.getD i (0, [])).1)
  · rw [decide_eq_true, decide_eq_true]
    · obtain ⟨i, hi, hx⟩ := h
      exact ⟨q.getD i (0, []), List.mem_of_getElem? (getD_some hi), hx⟩
    · unfold firstOf
      cases hf : (List.range q.length).find? (fun i => decide ((q.getD i (0, [])).1 < 0 ∨ (n : Int) ≤ (q.getD i (0, [])).1)) with
      | some i => simp only; omega
      | none =>
        obtain ⟨i, hi, hx⟩ := h
        have := List.find?_eq_none.1 hf i (List.mem_range.2 hi)
        exact absurd (decide_eq_true hx) this
  · rw [firstOf_none, decide_eq_false, decide_eq_false]
    · rintro ⟨p, hp, hx⟩
      obtain ⟨i, hi⟩ := List.mem_iff_getElem?.1 hp
      have h1 := (List.getElem?_eq_some_iff.1 hi).1
      rw [getD_some (d := (0, [])) h1, Option.some.injEq] at hi
      exact h ⟨i, h1, by rw [hi]; exact hx⟩
    · decide
    · intro j hj
      exact decide_eq_false fun hx => h ⟨j, hj, hx⟩

set_option maxRecDepth 100000 in
set_option maxHeartbeats 400000 in
theorem ContainsPd_any (v : Value) (q : List (Int × List Nat)) (a : Option Addr) (pb n cap : Nat) (w : World) (hn : q.length ≤ 1000000000) (h16 : Q16 q) (hq : Pds w v q) (hc : w.cell? ⟨pb, 0, none⟩ = some (.slice a n cap)) :
    Calls Try.prog 73 #[v, .func (.func 72) #[] #[.pointer (some ⟨pb, 0, none⟩)]] w fun e w' => e = .returned (.bool (outB n q)) ∧ Below w.heap.size w w' := by
  obtain ⟨av, cv, rfl, hcv, hat⟩ := hq
  by_cases h0 : q = []
  · subst h0
    have E := Lib.hid (show outB n [] = false by unfold outB; exact decide_eq_false (by simp))
    clear hat
    go_enter Try.func73, Try.ntmps73
    go_wp2_with fail
    refine (IndexPd_nil _ _ _ _).mono ?_
    rintro e w' ⟨rfl, rfl⟩
    go_wp2_with fail
    go_ret
    exact ⟨by rw [E.out]; rfl, Below.refl _ _⟩
  · obtain ⟨b, o, rfl, hp⟩ : ∃ b o, av = some ⟨b, o, none⟩ ∧ PdAt w b o q := by
      rcases hat with h | h
      · exact absurd h h0
      · exact h
    have H := Lib.hid (IndexPd_any b o q.length cv q (.pointer (some ⟨pb, 0, none⟩)) (fun i => decide ((q.getD i (0, [])).1 < 0 ∨ (n : Int) ≤ (q.getD i (0, [])).1)) w rfl hn h16 hp (fun i p hi W hW => by
      have h1 := (List.getElem?_eq_some_iff.1 hi).1
      have h2 : q.getD i (0, []) = p := by
        have := getD_some (d := (0, [])) h1
        rw [hi, Option.some.injEq] at this
        exact this.symm
      rw [h2]
      exact dCheck1_any p a pb n cap W (h16 p (List.mem_of_getElem? hi)) ((hW.cell (p := ⟨pb, 0, none⟩) (World.block_lt_of_cell? w _ hc)).trans hc)))
    have E := Lib.hid (firstOf_out n q)
    generalize firstOf (fun i => decide ((q.getD i (0, [])).1 < 0 ∨ (n : Int) ≤ (q.getD i (0, [])).1)) q.length = z at *
    clear hat hp hc h16
    go_enter Try.func73, Try.ntmps73
    go_wp2_with fail
    refine H.out.mono ?_
    rintro e w' ⟨rfl, hB⟩
    have HB := Lib.hid hB
    clear hB
    go_wp2_with fail
    go_ret
    exact ⟨by rw [← E.out]; rfl, HB.out⟩
end Go.Proofs.Ytkclmfppjhmnjaa

namespace Go.Proofs.Ytkclmfppjhmnjaa
open Go.RowKit

theorem eq_of_getD {l l' : List Nat} (h : l.length = l'.length) (e : ∀ i, i < l.length → l.getD i 0 = l'.getD i 0) : l = l' := by
  apply List.ext_getElem h
  intro i h1 h2
  have := e i h1
  rwa [List.getD_eq_getElem?_getD, List.getD_eq_getElem?_getD, List.getElem?_eq_getElem h1, List.getElem?_eq_getElem h2] at this

set_option maxRecDepth 100000 in
set_option maxHeartbeats 2000000 in
theorem Equal_bs (v v' : Value) (l l' : List Nat) (w : World) (h : Bs w v l) (h' : Bs w v' l') (hB : Byt l) (hB' : Byt l') (hl : l.length ≤ 1000000000) (hl' : l'.length ≤ 1000000000) :
    Calls Try.prog 82 #[v, v'] w fun e w' => e = .returned (.bool (decide (l = l'))) ∧ Below w.heap.size w w' := by
  obtain ⟨a, cap, rfl, hc, hr⟩ := h
  obtain ⟨a', cap', rfl, hc', hr'⟩ := h'
  have Hr := Lib.hid hr
  have Hr' := Lib.hid hr'
  have HB := Lib.hid hB
  have HB' := Lib.hid hB'
  obtain ⟨n, hn⟩ : ∃ n, l.length = n := ⟨_, rfl⟩
  obtain ⟨n', hn'⟩ : ∃ n, l'.length = n := ⟨_, rfl⟩
  have Hl := Lib.hid hn
  have Hl' := Lib.hid hn'
  rw [hn] at hl hc ⊢
  rw [hn'] at hl' hc' ⊢
  clear hr hr' hB hB' hn hn'
  by_cases hne : n = n'
  · subst hne
    have tn : ((n : Int) != (n : Int)) = false := by simp
    go_enter Try.func82, Try.ntmps82
    go_wp2_with fail
    go_loopg [13] n (fun gk i wr => ∃ k : Nat, k + gk = n ∧ i = .int .i64 k ∧ Hid (∀ j, j < k → l.getD j 0 = l'.getD j 0) ∧ Hid (Below w.heap.size w wr))
    case atStart => exact ⟨0, by omega, rfl, fun j hj => by omega, Below.refl _ _⟩
    case round =>
      obtain ⟨k, hgk, rfl, hag, hbl⟩ := hrel
      have Hgk := Lib.hid hgk
      have hk : k ≤ n := by omega
      clear hgk
      by_cases hlt : k < n
      · obtain ⟨b, o, rfl, hrow⟩ : ∃ b o, a = some ⟨b, o, none⟩ ∧ RowAt w b o l := by
          rcases Hr.out with h | h
          · have := Hl.out; rw [h] at this; simp at this; omega
          · exact h
        obtain ⟨b', o', rfl, hrow'⟩ : ∃ b o, a' = some ⟨b, o, none⟩ ∧ RowAt w b o l' := by
          rcases Hr'.out with h | h
          · have := Hl'.out; rw [h] at this; simp at this; omega
          · exact h
        have c1 := (hrow.new hbl.out) k _ (getD_some (d := 0) (by rw [Hl.out]; exact hlt))
        have c2 := (hrow'.new hbl.out) k _ (getD_some (d := 0) (by rw [Hl'.out]; exact hlt))
        unfold bv at c1 c2
        have b1 := HB.out.getD k
        have b2 := HB'.out.getD k
        have i1 : (0 : Int) ≤ (k : Int) := by omega
        have i2 : (k : Int) < (n : Int) := by omega
        have Hbl := Lib.hid hbl.out
        clear hrow hrow'
        by_cases he : l.getD k 0 = l'.getD k 0
        · have hs : Hid (∀ j, j < k + 1 → l.getD j 0 = l'.getD j 0) := by
            intro j hj
            by_cases hjk : j = k
            · rw [hjk]; exact he
            · exact hag.out j (by omega)
          have te : ((l.getD k 0 : Int) != (l'.getD k 0 : Int)) = false := by rw [bne_eq_false_iff_eq]; omega
          generalize l.getD k 0 = x at *
          generalize l'.getD k 0 = y at *
          clear he hag hbl
          go_wp2_with fail
          go_quiet (fail)
          go_wp2_with fail
          go_roundg (n - k - 1)
          case measure => have := Hgk.out; omega
          case rel => exact ⟨k + 1, by have := Hgk.out; omega, by go_num, hs.out, below_drewN Hbl.out _⟩
        · have hr := Lib.hid (show decide (l = l') = false from decide_eq_false fun e => he (by rw [e]))
          have te : ((l.getD k 0 : Int) != (l'.getD k 0 : Int)) = true := by rw [bne_iff_ne]; omega
          generalize l.getD k 0 = x at *
          generalize l'.getD k 0 = y at *
          clear he hag hbl
          go_wp2_with fail
          go_quiet (fail)
          go_wp2_with fail
          go_ret
          exact ⟨by rw [hr.out]; rfl, below_drewN Hbl.out _⟩
      · obtain rfl : k = n := by omega
        have hr := Lib.hid (show decide (l = l') = true from decide_eq_true (eq_of_getD (by rw [Hl.out, Hl'.out]) fun i hi => hag.out i (by rw [← Hl.out]; exact hi)))
        have Hbl := Lib.hid hbl.out
        clear hag hbl
        go_wp2_with fail
        go_ret
        exact ⟨by rw [hr.out]; rfl, Hbl.out⟩
  · have tn : ((n : Int) != (n' : Int)) = true := by rw [bne_iff_ne]; omega
    have hr := Lib.hid (show decide (l = l') = false from decide_eq_false fun e => hne (by rw [← Hl.out, ← Hl'.out, e]))
    clear hne
    go_enter Try.func82, Try.ntmps82
    go_wp2_with fail
    go_ret
    exact ⟨by rw [hr.out]; rfl, Below.refl _ _⟩

set_option maxRecDepth 100000 in
set_option maxHeartbeats 2000000 in
theorem r3Same_bs (v v' : Value) (l l' : List Nat) (w : World) (h : Bs w v l) (h' : Bs w v' l') (hB : Byt l) (hB' : Byt l') (hl : l.length ≤ 1000000000) (hl' : l'.length ≤ 1000000000) :
    Calls Try.prog 47 #[v, v'] w fun e w' => e = .returned (.bool (decide (l = l'))) ∧ Below w.heap.size w w' := by
  obtain ⟨a, cap, rfl, hc, hr⟩ := h
  obtain ⟨a', cap', rfl, hc', hr'⟩ := h'
  have Hr := Lib.hid hr
  have Hr' := Lib.hid hr'
  have HB := Lib.hid hB
  have HB' := Lib.hid hB'
  obtain ⟨n, hn⟩ : ∃ n, l.length = n := ⟨_, rfl⟩
  obtain ⟨n', hn'⟩ : ∃ n, l'.length = n := ⟨_, rfl⟩
  have Hl := Lib.hid hn
  have Hl' := Lib.hid hn'
  rw [hn] at hl hc ⊢
  rw [hn'] at hl' hc' ⊢
  clear hr hr' hB hB' hn hn'
  by_cases hne : n = n'
  · subst hne
    have tn : ((n : Int) != (n : Int)) = false := by simp
    go_enter Try.func47, Try.ntmps47
    go_wp2_with fail
    go_loopg [5] n (fun gk i wr => ∃ k : Nat, k + gk = n ∧ i = .int .i64 k ∧ Hid (∀ j, j < k → l.getD j 0 = l'.getD j 0) ∧ Hid (Below w.heap.size w wr))
    case atStart => exact ⟨0, by omega, rfl, fun j hj => by omega, Below.refl _ _⟩
    case round =>
      obtain ⟨k, hgk, rfl, hag, hbl⟩ := hrel
      have Hgk := Lib.hid hgk
      have hk : k ≤ n := by omega
      clear hgk
      by_cases hlt : k < n
      · obtain ⟨b, o, rfl, hrow⟩ : ∃ b o, a = some ⟨b, o, none⟩ ∧ RowAt w b o l := by
          rcases Hr.out with h | h
          · have := Hl.out; rw [h] at this; simp at this; omega
          · exact h
        obtain ⟨b', o', rfl, hrow'⟩ : ∃ b o, a' = some ⟨b, o, none⟩ ∧ RowAt w b o l' := by
          rcases Hr'.out with h | h
          · have := Hl'.out; rw [h] at this; simp at this; omega
          · exact h
        have c1 := (hrow.new hbl.out) k _ (getD_some (d := 0) (by rw [Hl.out]; exact hlt))
        have c2 := (hrow'.new hbl.out) k _ (getD_some (d := 0) (by rw [Hl'.out]; exact hlt))
        unfold bv at c1 c2
        have b1 := HB.out.getD k
        have b2 := HB'.out.getD k
        have i1 : (0 : Int) ≤ (k : Int) := by omega
        have i2 : (k : Int) < (n : Int) := by omega
        have Hbl := Lib.hid hbl.out
        clear hrow hrow'
        by_cases he : l.getD k 0 = l'.getD k 0
        · have hs : Hid (∀ j, j < k + 1 → l.getD j 0 = l'.getD j 0) := by
            intro j hj
            by_cases hjk : j = k
            · rw [hjk]; exact he
            · exact hag.out j (by omega)
          have te : ((l.getD k 0 : Int) != (l'.getD k 0 : Int)) = false := by rw [bne_eq_false_iff_eq]; omega
          generalize l.getD k 0 = x at *
          generalize l'.getD k 0 = y at *
          clear he hag hbl
          go_wp2_with fail
          go_quiet (fail)
          go_wp2_with fail
          go_roundg (n - k - 1)
          case measure => have := Hgk.out; omega
          case rel => exact ⟨k + 1, by have := Hgk.out; omega, by go_num, hs.out, below_drewN Hbl.out _⟩
        · have hr := Lib.hid (show decide (l = l') = false from decide_eq_false fun e => he (by rw [e]))
          have te : ((l.getD k 0 : Int) != (l'.getD k 0 : Int)) = true := by rw [bne_iff_ne]; omega
          generalize l.getD k 0 = x at *
          generalize l'.getD k 0 = y at *
          clear he hag hbl
          go_wp2_with fail
          go_quiet (fail)
          go_wp2_with fail
          go_ret
          exact ⟨by rw [hr.out]; rfl, below_drewN Hbl.out _⟩
      · obtain rfl : k = n := by omega
        have hr := Lib.hid (show decide (l = l') = true from decide_eq_true (eq_of_getD (by rw [Hl.out, Hl'.out]) fun i hi => hag.out i (by rw [← Hl.out]; exact hi)))
        have Hbl := Lib.hid hbl.out
        clear hag hbl
        go_wp2_with fail
        go_ret
        exact ⟨by rw [hr.out]; rfl, Hbl.out⟩
  · have tn : ((n : Int) != (n' : Int)) = true := by rw [bne_iff_ne]; omega
    have hr := Lib.hid (show decide (l = l') = false from decide_eq_false fun e => hne (by rw [← Hl.out, ← Hl'.out, e]))
    clear hne
    go_enter Try.func47, Try.ntmps47
    go_wp2_with fail
    go_ret
    exact ⟨by rw [hr.out]; rfl, Below.refl _ _⟩
end Go.Proofs.Ytkclmfppjhmnjaa
