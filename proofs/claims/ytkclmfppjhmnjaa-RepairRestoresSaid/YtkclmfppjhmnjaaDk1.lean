/- Pages and pending writes in memory; stores of many cells; slices.Clone at pages. -/
import Derived.Test.YtkclmfppjhmnjaaW2
import Derived.Test.YtkclmfppjhmnjaaOpen2
import Derived.Test.YtkclmfppjhmnjaaImg
import Derived.Deep.MidRow
namespace Go.Proofs.Ytkclmfppjhmnjaa
open Go.RowKit Img

theorem Blk.ofN {w : World} {base e k : Nat} {g n cap : Nat} {xs : List Value} (h : w.ownsRow base e k (.slice (some ⟨g, 0, none⟩) n cap) n xs) : Blk w g e xs := by
  rcases h.2 with ⟨h0, _⟩ | ⟨g', cap', cur, hv, _, hh, _, _, _, ht⟩
  · simp at h0
  · simp only [Value.slice.injEq, Option.some.injEq, Addr.mk.injEq] at hv
    obtain ⟨⟨rfl, _⟩, _, _⟩ := hv
    refine ⟨cur.toList.drop (n * k), ?_⟩
    rw [hh, ← ht, List.take_append_drop]

/-- Some elements of a list replaced. -/
def spl {α : Type} (xs : List α) (o : Nat) (vs : List α) : List α := xs.take o ++ vs ++ xs.drop (o + vs.length)
theorem spl_nil {α : Type} (xs : List α) (o : Nat) : spl xs o [] = xs := by
  unfold spl; rw [List.append_nil, List.length_nil, Nat.add_zero, List.take_append_drop]
theorem spl_cons {α : Type} {xs : List α} {o : Nat} {v : α} {r : List α} (h : o < xs.length) : spl xs o (v :: r) = spl (xs.set o v) (o + 1) r := by
  unfold spl
  have e1 : (xs.set o v).take (o + 1) = xs.take o ++ [v] := by
    apply List.ext_getElem?
    intro i
    rw [List.getElem?_take, List.getElem?_append, List.length_take, Nat.min_eq_left (Nat.le_of_lt h), List.getElem?_take]
    by_cases h1 : i < o
    · rw [if_pos (by omega), if_pos h1, if_pos h1, List.getElem?_set_ne (by omega)]
    · rw [if_neg h1]
      by_cases h2 : i = o
      · subst h2; rw [if_pos (by omega), List.getElem?_set_self h, Nat.sub_self]; rfl
      · rw [if_neg (by omega), List.getElem?_eq_none (by simp; omega)]
  rw [e1, List.drop_set_of_lt (by omega), List.length_cons, show o + (r.length + 1) = o + 1 + r.length by omega]
  simp
theorem spl_length {α : Type} {xs : List α} {o : Nat} {vs : List α} (h : o + vs.length ≤ xs.length) : (spl xs o vs).length = xs.length := by
  unfold spl; simp only [List.length_append, List.length_take, List.length_drop]; omega
theorem spl_map {α β : Type} (f : α → β) (xs : List α) (o : Nat) (vs : List α) : spl (xs.map f) o (vs.map f) = (spl xs o vs).map f := by
  unfold spl; simp only [List.map_append, List.map_take, List.map_drop, List.length_map]

theorem Blk.setCells {w : World} {g T : Nat} {xs vs : List Value} {o : Nat} (h : Blk w g T xs) (hb : o + vs.length ≤ xs.length) : Blk (w.setCells g o vs) g T (spl xs o vs) := by
  induction vs generalizing w xs o with
  | nil => rw [spl_nil]; exact h
  | cons v r ih =>
    rw [List.length_cons] at hb
    rw [World.setCells, spl_cons (by omega)]
    exact ih (h.setCell (by omega) v) (by rw [List.length_set]; omega)
theorem heap_setCells (w : World) (b o : Nat) (vs : List Value) {k : Nat} (hk : k ≠ b) : (w.setCells b o vs).heap[k]? = w.heap[k]? := by
  induction vs generalizing w o with
  | nil => rfl
  | cons v r ih => rw [World.setCells, ih]; exact Below.heap_setCell _ _ _ _ hk
theorem Blk.setCells_other {w : World} {g T b o : Nat} {xs vs : List Value} (h : Blk w g T xs) (hne : g ≠ b) : Blk (w.setCells b o vs) g T xs := h.of_same (heap_setCells _ _ _ _ hne)
theorem below_setCells {B : Nat} {a w : World} (h : Below B a w) {b : Nat} (hp : B ≤ b) (o : Nat) (vs : List Value) : Below B a (w.setCells b o vs) := by
  induction vs generalizing w o with
  | nil => exact h
  | cons v r ih => rw [World.setCells]; exact ih (h.setCell (p := ⟨b, o, none⟩) hp v) (o + 1)
theorem size_setCells (w : World) (b o : Nat) (vs : List Value) : (w.setCells b o vs).heap.size = w.heap.size := by
  induction vs generalizing w o with
  | nil => rfl
  | cons v r ih => rw [World.setCells, ih]; simp [World.setCell]

theorem Blk.there {w : World} {g T : Nat} {xs : List Value} (h : Blk w g T xs) {o n : Nat} (hb : o + n ≤ xs.length) : w.there g o n := fun j hj =>
  ⟨by rw [h.cell (i := o + j) (List.getElem?_eq_getElem (by omega))]; rfl, h.frozen _⟩
theorem RowAt.range {w : World} {b o : Nat} {l : List Nat} (h : RowAt w b o l) : w.rangeAt b o (l.map bv) := by
  intro j v hv
  rw [List.getElem?_map] at hv
  cases hx : l[j]? with
  | none => rw [hx] at hv; cases hv
  | some x =>
    rw [hx, Option.map_some, Option.some.injEq] at hv
    rw [← hv]; exact h j x hx

theorem flat_get {l : List (List Nat)} {n : Nat} (h : ∀ r ∈ l, r.length = n) {i : Nat} {r : List Nat} (hi : l[i]? = some r) {j x : Nat} (hj : r[j]? = some x) : l.flatten[i * n + j]? = some x := by
  induction l generalizing i with
  | nil => simp at hi
  | cons a l ih =>
    have ha := h a (List.mem_cons_self ..)
    rw [List.flatten_cons]
    cases i with
    | zero =>
      simp only [List.getElem?_cons_zero, Option.some.injEq] at hi
      subst hi
      rw [Nat.zero_mul, Nat.zero_add, List.getElem?_append_left (List.getElem?_eq_some_iff.1 hj).1]
      exact hj
    | succ i =>
      rw [List.getElem?_append_right (by rw [Nat.succ_mul]; omega), ha, show (i + 1) * n + j - n = i * n + j by rw [Nat.succ_mul]; omega]
      exact ih (fun r hr => h r (List.mem_cons_of_mem _ hr)) (by simpa using hi)
theorem flat_len {l : List (List Nat)} {n : Nat} (h : ∀ r ∈ l, r.length = n) : l.flatten.length = l.length * n := by
  induction l with
  | nil => simp
  | cons a l ih => rw [List.flatten_cons, List.length_append, ih (fun r hr => h r (List.mem_cons_of_mem _ hr)), h a (List.mem_cons_self ..), List.length_cons, Nat.succ_mul]; omega
theorem flat_set {l : List (List Nat)} {n : Nat} (h : ∀ r ∈ l, r.length = n) {i : Nat} (hi : i < l.length) {p : List Nat} (hp : p.length = n) : (l.set i p).flatten = spl l.flatten (i * n) p := by
  induction l generalizing i with
  | nil => simp at hi
  | cons a l ih =>
    have ha := h a (List.mem_cons_self ..)
    unfold spl
    cases i with
    | zero =>
      rw [List.set_cons_zero, List.flatten_cons, List.flatten_cons, Nat.zero_mul, List.take_zero, List.nil_append, Nat.zero_add, List.drop_append, List.drop_of_length_le (by omega), List.nil_append, hp, ← ha, Nat.sub_self, List.drop_zero]
    | succ i =>
      have := ih (fun r hr => h r (List.mem_cons_of_mem _ hr)) (i := i) (by simpa using hi)
      unfold spl at this
      rw [List.set_cons_succ, List.flatten_cons, List.flatten_cons, this, show (i + 1) * n = a.length + i * n by rw [Nat.succ_mul]; omega, List.take_length_add_append, Nat.add_assoc, List.drop_length_add_append, List.append_assoc, List.append_assoc, List.append_assoc]
theorem PgAt.flat {w : World} {b o n : Nat} {l : List (List Nat)} (h : PgAt w b o n l) (hl : ∀ r ∈ l, r.length = n) : RowAt w b o l.flatten := by
  induction l generalizing o with
  | nil => intro i x hx; simp at hx
  | cons a l ih =>
    intro i x hx
    rw [List.flatten_cons] at hx
    have ha := hl a (List.mem_cons_self ..)
    by_cases hi : i < a.length
    · rw [List.getElem?_append_left hi] at hx
      have := h 0 a rfl i x hx
      rw [Nat.zero_mul, Nat.add_zero] at this
      exact this
    · rw [List.getElem?_append_right (by omega)] at hx
      have h2 : PgAt w b (o + n) n l := by
        intro j r hr
        have := h (j + 1) r (by simpa using hr)
        rw [show o + (j + 1) * n = o + n + j * n by rw [Nat.succ_mul]; omega] at this
        exact this
      have := ih h2 (fun r hr => hl r (List.mem_cons_of_mem _ hr)) _ x hx
      rw [show o + n + (i - a.length) = o + i by omega] at this
      exact this
theorem RowAt.page {w : World} {b o n : Nat} {l : List (List Nat)} (h : RowAt w b o l.flatten) (hl : ∀ r ∈ l, r.length = n) : PgAt w b o n l := by
  intro i r hr j x hx
  have := h (i * n + j) x (flat_get hl hr hx)
  rw [← Nat.add_assoc] at this
  exact this

/-- The cells of pages. -/
def pgc (l : List (List Nat)) : List Value := l.flatten.map bv
/-- A slice of pages that owns its block. -/
def PO (w : World) (B : Nat) (v : Value) (l : List (List Nat)) : Prop := w.ownsRow B 82 16 v l.length (pgc l)
theorem PO.nil (w : World) (B : Nat) : PO w B (.slice none 0 0) [] := ⟨rfl, .inl ⟨rfl, rfl⟩⟩
theorem PO.pgs {w : World} {B : Nat} {v : Value} {l : List (List Nat)} (h : PO w B v l) (hl : ∀ r ∈ l, r.length = 16) : Pgs w v 16 l := by
  have h' := h
  rcases h.2 with ⟨rfl, h0⟩ | ⟨g, cap, cur, rfl, hb, hg, hn, hc, hs, ht⟩
  · exact ⟨none, 0, by rw [h0], by omega, Or.inl (List.eq_nil_of_length_eq_zero h0)⟩
  · exact ⟨some ⟨g, 0, none⟩, cap, rfl, hn, Or.inr ⟨g, 0, rfl, (Blk.ofN h').row.page hl⟩⟩
theorem PO.new {w w' : World} {B : Nat} {v : Value} {l : List (List Nat)} (h : PO w B v l) (k : Below w.heap.size w w') : PO w' B v l :=
  World.ownsRow.kept h (row := none) ⟨k.os, k.tape, k.output, k.size, fun i hi _ => k.block i hi⟩ (by cases v.ownBlock <;> simp)
theorem PO.base {w : World} {B B' : Nat} {v : Value} {l : List (List Nat)} (h : PO w B v l) (hB : B' ≤ B) : PO w B' v l := by
  refine ⟨h.1, ?_⟩
  rcases h.2 with h | ⟨g, cap, cur, hv, hb, rest⟩
  · exact .inl h
  · exact .inr ⟨g, cap, cur, hv, by omega, rest⟩
theorem PO.some {w : World} {B : Nat} {v : Value} {l : List (List Nat)} (h : PO w B v l) (hl : l ≠ []) : ∃ g cap, v = .slice (.some ⟨g, 0, .none⟩) l.length cap ∧ B ≤ g ∧ l.length ≤ cap ∧ cap ≤ maxLen ∧ Blk w g 82 (pgc l) := by
  have h' := h
  rcases h.2 with ⟨rfl, h0⟩ | ⟨g, cap, cur, rfl, hb, hg, hn, hc, hs, ht⟩
  · exact absurd (List.eq_nil_of_length_eq_zero h0) hl
  · exact ⟨g, cap, rfl, hb, hn, hc, Blk.ofN h'⟩

/-- A slice of pages in a block of the call's own. -/
def PW (w : World) (B : Nat) (v : Value) (l : List (List Nat)) : Prop := ∃ g cap, v = .slice (some ⟨g, 0, none⟩) l.length cap ∧ B ≤ g ∧ l.length ≤ cap ∧ cap ≤ maxLen ∧ Blk w g 82 (pgc l)
theorem PW.pgs {w : World} {B : Nat} {v : Value} {l : List (List Nat)} (h : PW w B v l) (hl : ∀ r ∈ l, r.length = 16) : Pgs w v 16 l := by
  obtain ⟨g, cap, rfl, h1, h2, h3, hb⟩ := h
  exact ⟨_, cap, rfl, h2, Or.inr ⟨g, 0, rfl, (show Blk w g 82 (l.flatten.map bv) from hb).row.page hl⟩⟩
theorem PW.new {w w' : World} {B : Nat} {v : Value} {l : List (List Nat)} (h : PW w B v l) (k : Below w.heap.size w w') : PW w' B v l := by
  obtain ⟨g, cap, rfl, h1, h2, h3, hb⟩ := h
  exact ⟨g, cap, rfl, h1, h2, h3, hb.below k hb.lt⟩
theorem PW.base {w : World} {B B' : Nat} {v : Value} {l : List (List Nat)} (h : PW w B v l) (hB : B' ≤ B) : PW w B' v l := by
  obtain ⟨g, cap, rfl, h1, h2, h3, hb⟩ := h
  exact ⟨g, cap, rfl, by omega, h2, h3, hb⟩
/-- A pending write as cells. -/
def pdv (p : Int × List Nat) : List Value := .int .i64 p.1 :: p.2.map bv
def PdAt (w : World) (b o : Nat) (q : List (Int × List Nat)) : Prop := ∀ i p, q[i]? = some p → w.rangeAt b (o + i * 17) (pdv p)
def Pds (w : World) (v : Value) (q : List (Int × List Nat)) : Prop :=
  ∃ (a : Option Addr) (cap : Nat), v = .slice a q.length cap ∧ q.length ≤ cap ∧ (q = [] ∨ ∃ b o, a = some ⟨b, o, none⟩ ∧ PdAt w b o q)
theorem range_new {w w' : World} {b o : Nat} {cs : List Value} (h : w.rangeAt b o cs) (k : Below w.heap.size w w') : w'.rangeAt b o cs := fun j v hv => by
  have := h j v hv
  exact (k.cell (p := ⟨b, o + j, none⟩) (World.block_lt_of_cell? w _ this)).trans this
theorem PdAt.new {w w' : World} {b o : Nat} {q : List (Int × List Nat)} (h : PdAt w b o q) (k : Below w.heap.size w w') : PdAt w' b o q := fun i p hp => range_new (h i p hp) k
theorem Pds.new {w w' : World} {v : Value} {q : List (Int × List Nat)} (h : Pds w v q) (k : Below w.heap.size w w') : Pds w' v q := by
  obtain ⟨a, cap, hv, hc, h⟩ := h
  exact ⟨a, cap, hv, hc, h.imp id fun ⟨b, o, ha, hp⟩ => ⟨b, o, ha, hp.new k⟩⟩
/-- All pages have 16 bytes. -/
def P16 (l : List (List Nat)) : Prop := ∀ r ∈ l, r.length = 16
def Q16 (q : List (Int × List Nat)) : Prop := ∀ p ∈ q, p.2.length = 16

theorem eqnilPg (w : World) (a : Option Addr) (l c : Nat) : (binOp .eql 22 (.slice a l c) (.slice none 0 0)).run Try.prog w = .ok (.bool a.isNone) w := Lib.run_eql_slice_nil (P := Try.prog) w 22 82 a l c 0 0 Try.underlying22
theorem noPages (w : World) : (Instr.buildSlice 22 0 #[]).run Try.prog w = .ok (.slice (some ⟨w.heap.size, 0, none⟩) 0 0) (w.alloc (.cells #[] 82)) := by kernel_rfl
theorem infoPage : (Try.prog.info? 82).map (fun i => (i.zero, i.size, i.bytes)) = some (some (.agg (Array.replicate 16 (.int .u8 0))), 16, 16) := by kernel_rfl
/-- What a function that returns pages of its own leaves. -/
def PagesRet (l : List (List Nat)) (w : World) (e : Ending) (w' : World) : Prop := ∃ v', e = .returned v' ∧ PO w' w.heap.size v' l ∧ Below w.heap.size w w'

set_option maxRecDepth 100000 in
set_option maxHeartbeats 400000 in
theorem ClonePg_any (v : Value) (l : List (List Nat)) (w : World) (h : Pgs w v 16 l) (h16 : P16 l) (hl : l.length ≤ 1000000000) : Calls Try.prog 41 #[v] w (PagesRet l w) := by
  have q1 := eqnilPg
  have q2 := noPages
  obtain ⟨i0, hi, hz0, hz1, hz2⟩ := info_parts infoPage
  obtain ⟨a, cap, rfl, hcap, hr⟩ := h
  cases a with
  | none =>
    have h0 : l = [] := by
      rcases hr with h | ⟨b, o, ha, _⟩
      · exact h
      · cases ha
    subst h0
    clear hr
    go_enter Try.func41, Try.ntmps41
    go_wp2_with fail
    go_ret
    exact ⟨_, rfl, PO.nil _ _, Below.refl _ _⟩
  | some ad =>
    have Hsrc : Hid (∀ (w' : World), Below w.heap.size w w' → ∀ j u, (pgc l)[j]? = some u → w'.cell? (ad.add j) = some u) := by
      intro w' hb
      rcases hr with h | ⟨b, o, ha, hp⟩
      · subst h; intro j u hu; cases hu
      · simp only [Option.some.injEq] at ha
        subst ha
        exact (hp.flat h16).src hb
    have Hlen := Lib.hid (show (pgc l).length = l.length * 16 by unfold pgc; rw [List.length_map, flat_len h16])
    have Hone := Lib.hid (show ∀ u ∈ pgc l, u.oneCell' = true by intro u hu; obtain ⟨x, _, rfl⟩ := List.mem_map.1 hu; rfl)
    clear hr h16
    go_enter Try.func41, Try.ntmps41
    go_wp2_with (at_builtin; refine wpList_append_own _ rfl _ _ 22 rfl w.heap.size 82 i0 (.agg (Array.replicate 16 (.int .u8 0))) 16 16 Try.underlying22 hi hz0 hz1 hz2 rfl (by decide) _ 0 [] rfl (World.ownsRow_made w #[] 0 (Nat.le_refl _) (by decide) rfl) ad l.length cap (pgc l) rfl ?c1 ?c2 ?c3 ?c4 ?c5 ?c6 ?_)
    case c1 => exact Hlen.out
    case c2 => exact Hsrc.out _ ((Below.refl _ _).alloc (Nat.le_refl _) _)
    case c3 => exact Hone.out
    case c4 => unfold maxLen; omega
    case c5 => omega
    case c6 => simp
    intro v' w' hown hg _
    have hown' : w'.ownsRow w.heap.size 82 16 v' l.length (pgc l) := by simpa only [Nat.zero_add, List.nil_append] using hown
    have hB : Below w.heap.size w w' := ((Below.refl _ _).alloc (Nat.le_refl _) _).grown hg (by simp) (by intro k hk; simp [Value.ownBlock] at hk; omega)
    have HO := Lib.hid (show PO w' w.heap.size v' l from hown')
    have HB := Lib.hid hB
    clear hown hown' hg hB
    go_wp2_with fail
    go_ret
    exact ⟨v', rfl, HO.out, HB.out⟩
end Go.Proofs.Ytkclmfppjhmnjaa
