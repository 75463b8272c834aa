/- The region of parity.whole that appends to two slices, inside a round: in every order. -/
import Derived.Test.YtkclmfppjhmnjaaB12
import Derived.Test.YtkclmfppjhmnjaaB22
import Derived.Maps.AppendAt
namespace Go.Proofs.Ytkclmfppjhmnjaa
open Go.RowKit Go.Shelf

def Ls (ls : Array Bool) (k : Nat) : Prop := ls.getD k false = true
theorem Ls.back {ls : Array Bool} {i k : Nat} (hik : i ≠ k) (h : Ls (ls.setIfInBounds i true) k) : Ls ls k := by
  unfold Ls at *
  rw [Array.getD_eq_getD_getElem?, Array.getElem?_setIfInBounds_ne hik] at h
  rw [Array.getD_eq_getD_getElem?]; exact h
theorem Ls.keep {ls : Array Bool} {i k : Nat} (h : Ls ls k) : Ls (ls.setIfInBounds i true) k := by
  by_cases hik : i = k
  · subst hik
    unfold Ls at *
    have hi : i < ls.size := by
      apply Classical.byContradiction
      intro hn
      rw [Array.getD_eq_getD_getElem?, Array.getElem?_eq_none (by omega)] at h
      simp at h
    rw [Array.getD_eq_getD_getElem?, Array.getElem?_setIfInBounds_self_of_lt hi]; rfl
  · unfold Ls at *
    rw [Array.getD_eq_getD_getElem?, Array.getElem?_setIfInBounds_ne hik]
    rw [Array.getD_eq_getD_getElem?] at h; exact h
theorem Ls.set {ls : Array Bool} {i : Nat} (hi : i < ls.size) : Ls (ls.setIfInBounds i true) i := by
  unfold Ls
  rw [Array.getD_eq_getD_getElem?, Array.getElem?_setIfInBounds_self_of_lt hi]; rfl
theorem Ls.no {ls : Array Bool} {i : Nat} (h : ls.getD i true = false) : ¬ Ls ls i := by
  unfold Ls
  rw [Array.getD_eq_getD_getElem?] at h ⊢
  cases hx : ls[i]? with
  | none => rw [hx] at h; simp at h
  | some b => rw [hx] at h; simp at h; subst h; simp

theorem ev_ne {a : Act} {d k : Nat} {v : Value} (h : d ≠ k) : (a.put (some d) v).eval (.tmp k) = a.eval (.tmp k) := by
  show (a.tmps.setIfInBounds d v).getD k undef = a.tmps.getD k undef
  rw [Array.getD_eq_getD_getElem?, Array.getElem?_setIfInBounds_ne h, Array.getD_eq_getD_getElem?]
theorem ev_eq {a : Act} {d : Nat} {v : Value} (h : d < a.tmps.size) : (a.put (some d) v).eval (.tmp d) = v := by
  show (a.tmps.setIfInBounds d v).getD d undef = v
  rw [Array.getD_eq_getD_getElem?, Array.getElem?_setIfInBounds_self_of_lt h]; rfl
theorem sz_put {a : Act} {d : Nat} {v : Value} : (a.put (some d) v).tmps.size = a.tmps.size := by
  show (a.tmps.setIfInBounds d v).size = _; simp

/-- What holds where the region begins. -/
structure RCtx where
  B7 : Nat
  B8 : Nat
  B9 : Nat
  bR : Nat
  N : Nat
  capR : Nat
  i : Nat
  base : Nat
  hdr : Value
  pv : Value
  vS : Value
  vB : Value
  xs : List Value
  ys : List Value
  W0 : World

structure RCtx.Ok (c : RCtx) : Prop where
  c7 : c.W0.cell? ⟨c.B7, 0, none⟩ = some (.slice (some ⟨c.bR, 0, none⟩) c.N c.capR)
  k7 : Blk c.W0 c.B7 44 [.slice (some ⟨c.bR, 0, none⟩) c.N c.capR]
  k8 : Blk c.W0 c.B8 44 [c.vS]
  k9 : Blk c.W0 c.B9 44 [c.vB]
  n78 : c.B7 ≠ c.B8
  n79 : c.B7 ≠ c.B9
  n89 : c.B8 ≠ c.B9
  cR : c.W0.cell? ⟨c.bR, c.i, none⟩ = some c.hdr
  tR : ∃ xs, Blk c.W0 c.bR 26 xs
  iN : c.i < c.N
  oS : c.W0.ownsRow c.base 26 1 c.vS c.xs.length c.xs
  oB : c.W0.ownsRow c.base 26 1 c.vB c.ys.length c.ys
  ne : ∀ g, c.vS.ownBlock = some g → c.vB.ownBlock = some g → False
  nS : c.vS.ownBlock ≠ some c.bR
  nB : c.vB.ownBlock ≠ some c.bR
  lS : c.xs.length ≤ 1000
  lB : c.ys.length ≤ 1000
  lN : c.N ≤ 1000
  hb : c.base ≤ c.W0.heap.size
  oh : c.hdr.oneCell' = true
  op : c.pv.oneCell' = true
  fh : ∃ a n k, c.hdr = .slice a n k
  fp : ∃ a n k, c.pv = .slice a n k

def RK (c : RCtx) (ls : Array Bool) (k : Nat) : Prop := (Ls ls 6 ∧ c.vS.ownBlock = some k) ∨ (Ls ls 10 ∧ c.vB.ownBlock = some k) ∨ (Ls ls 11 ∧ k = c.B8) ∨ (Ls ls 12 ∧ k = c.B9)
theorem RK.keep {c : RCtx} {ls : Array Bool} {i k : Nat} (h : RK c ls k) : RK c (ls.setIfInBounds i true) k := by
  rcases h with ⟨a, b⟩ | ⟨a, b⟩ | ⟨a, b⟩ | ⟨a, b⟩
  · exact Or.inl ⟨a.keep, b⟩
  · exact Or.inr (Or.inl ⟨a.keep, b⟩)
  · exact Or.inr (Or.inr (Or.inl ⟨a.keep, b⟩))
  · exact Or.inr (Or.inr (Or.inr ⟨a.keep, b⟩))

theorem owns_type' {w : World} {B T T' n g : Nat} {v : Value} {xs ys : List Value} (h : w.ownsRow B T 1 v n xs) (hg : v.ownBlock = some g) (h' : Blk w g T' ys) : T = T' := (owns_block h hg).1.type h'

structure RI (c : RCtx) (ls : Array Bool) (a : Act) (w : World) (g5 g9 : Nat) (vS' vB' : Value) : Prop where
  sz : 52 ≤ a.tmps.size
  t7 : a.eval (.tmp 7) = .pointer (some ⟨c.B7, 0, none⟩)
  t8 : a.eval (.tmp 8) = .pointer (some ⟨c.B8, 0, none⟩)
  t9 : a.eval (.tmp 9) = .pointer (some ⟨c.B9, 0, none⟩)
  t10 : a.eval (.tmp 10) = .int .i64 c.i
  t11 : a.eval (.tmp 11) = c.pv
  e0 : Ls ls 0 → a.eval (.tmp 41) = c.vS
  e1 : Ls ls 1 → a.eval (.tmp 42) = .slice (some ⟨c.bR, 0, none⟩) c.N c.capR
  e2 : Ls ls 2 → a.eval (.tmp 43) = .int .i64 c.i
  e3 : Ls ls 3 → a.eval (.tmp 44) = .pointer (some ⟨c.bR, c.i, none⟩)
  e4 : Ls ls 4 → a.eval (.tmp 45) = c.hdr
  e5 : Ls ls 5 → a.eval (.tmp 46) = .slice (some ⟨g5, 0, none⟩) 1 1 ∧ Blk w g5 26 [c.hdr] ∧ c.W0.heap.size ≤ g5
  e6 : Ls ls 6 → a.eval (.tmp 47) = vS'
  e7 : Ls ls 7 → a.eval (.tmp 48) = c.vB
  e8 : Ls ls 8 → a.eval (.tmp 49) = c.pv
  e9 : Ls ls 9 → a.eval (.tmp 50) = .slice (some ⟨g9, 0, none⟩) 1 1 ∧ Blk w g9 26 [c.pv] ∧ c.W0.heap.size ≤ g9
  e10 : Ls ls 10 → a.eval (.tmp 51) = vB'
  d6 : Ls ls 6 → Ls ls 0
  d107 : Ls ls 10 → Ls ls 7
  d10 : Ls ls 10 → Ls ls 6
  d11 : Ls ls 11 → Ls ls 10
  d12 : Ls ls 12 → Ls ls 11
  K : Kept (RK c ls) c.W0 w
  s6 : Ls ls 6 → w.ownsRow c.base 26 1 vS' (c.xs.length + 1) (c.xs ++ [c.hdr]) ∧ ∀ g, vS'.ownBlock = some g → c.vS.ownBlock = some g ∨ c.W0.heap.size ≤ g
  s10 : Ls ls 10 → w.ownsRow c.base 26 1 vB' (c.ys.length + 1) (c.ys ++ [c.pv]) ∧ (∀ g, vB'.ownBlock = some g → c.vB.ownBlock = some g ∨ c.W0.heap.size ≤ g) ∧ ∀ g, vS'.ownBlock = some g → vB'.ownBlock = some g → False
  c8 : Ls ls 11 → Blk w c.B8 44 [vS']
  c9 : Ls ls 12 → Blk w c.B9 44 [vB']

theorem RI.cell {c : RCtx} {ls : Array Bool} {a : Act} {w : World} {g5 g9 : Nat} {vS' vB' : Value} (h : RI c ls a w g5 g9 vS' vB') {q : Addr} {v : Value} (hc : c.W0.cell? q = some v) (hq : ¬ RK c ls q.block) : w.cell? q = some v := h.K.cell hc hq


theorem RI.put0 {c : RCtx} {ls : Array Bool} {a : Act} {w : World} {g5 g9 : Nat} {vS' vB' : Value} (h : RI c ls a w g5 g9 vS' vB') (_hi : 0 < ls.size) : RI c (ls.setIfInBounds 0 true) (a.put (some 41) c.vS) w g5 g9 vS' vB' where
  sz := by rw [sz_put]; exact h.sz
  t7 := (ev_ne (by decide)).trans h.t7
  t8 := (ev_ne (by decide)).trans h.t8
  t9 := (ev_ne (by decide)).trans h.t9
  t10 := (ev_ne (by decide)).trans h.t10
  t11 := (ev_ne (by decide)).trans h.t11
  e0 := fun _ => ev_eq (by have := h.sz; omega)
  e1 := fun hl => (ev_ne (by decide)).trans (h.e1 (Ls.back (by decide) hl))
  e2 := fun hl => (ev_ne (by decide)).trans (h.e2 (Ls.back (by decide) hl))
  e3 := fun hl => (ev_ne (by decide)).trans (h.e3 (Ls.back (by decide) hl))
  e4 := fun hl => (ev_ne (by decide)).trans (h.e4 (Ls.back (by decide) hl))
  e5 := fun hl => ⟨(ev_ne (by decide)).trans (h.e5 (Ls.back (by decide) hl)).1, (h.e5 (Ls.back (by decide) hl)).2.1, (h.e5 (Ls.back (by decide) hl)).2.2⟩
  e6 := fun hl => (ev_ne (by decide)).trans (h.e6 (Ls.back (by decide) hl))
  e7 := fun hl => (ev_ne (by decide)).trans (h.e7 (Ls.back (by decide) hl))
  e8 := fun hl => (ev_ne (by decide)).trans (h.e8 (Ls.back (by decide) hl))
  e9 := fun hl => ⟨(ev_ne (by decide)).trans (h.e9 (Ls.back (by decide) hl)).1, (h.e9 (Ls.back (by decide) hl)).2.1, (h.e9 (Ls.back (by decide) hl)).2.2⟩
  e10 := fun hl => (ev_ne (by decide)).trans (h.e10 (Ls.back (by decide) hl))
  d6 := fun hl => (h.d6 (Ls.back (by decide) hl)).keep
  d107 := fun hl => (h.d107 (Ls.back (by decide) hl)).keep
  d10 := fun hl => (h.d10 (Ls.back (by decide) hl)).keep
  d11 := fun hl => (h.d11 (Ls.back (by decide) hl)).keep
  d12 := fun hl => (h.d12 (Ls.back (by decide) hl)).keep
  K := h.K.mono fun k _ hk => hk.keep
  s6 := fun hl => (h.s6 (Ls.back (by decide) hl))
  s10 := fun hl => (h.s10 (Ls.back (by decide) hl))
  c8 := fun hl => (h.c8 (Ls.back (by decide) hl))
  c9 := fun hl => (h.c9 (Ls.back (by decide) hl))

theorem RI.put1 {c : RCtx} {ls : Array Bool} {a : Act} {w : World} {g5 g9 : Nat} {vS' vB' : Value} (h : RI c ls a w g5 g9 vS' vB') (_hi : 1 < ls.size) : RI c (ls.setIfInBounds 1 true) (a.put (some 42) (.slice (some ⟨c.bR, 0, none⟩) c.N c.capR)) w g5 g9 vS' vB' where
  sz := by rw [sz_put]; exact h.sz
  t7 := (ev_ne (by decide)).trans h.t7
  t8 := (ev_ne (by decide)).trans h.t8
  t9 := (ev_ne (by decide)).trans h.t9
  t10 := (ev_ne (by decide)).trans h.t10
  t11 := (ev_ne (by decide)).trans h.t11
  e0 := fun hl => (ev_ne (by decide)).trans (h.e0 (Ls.back (by decide) hl))
  e1 := fun _ => ev_eq (by have := h.sz; omega)
  e2 := fun hl => (ev_ne (by decide)).trans (h.e2 (Ls.back (by decide) hl))
  e3 := fun hl => (ev_ne (by decide)).trans (h.e3 (Ls.back (by decide) hl))
  e4 := fun hl => (ev_ne (by decide)).trans (h.e4 (Ls.back (by decide) hl))
  e5 := fun hl => ⟨(ev_ne (by decide)).trans (h.e5 (Ls.back (by decide) hl)).1, (h.e5 (Ls.back (by decide) hl)).2.1, (h.e5 (Ls.back (by decide) hl)).2.2⟩
  e6 := fun hl => (ev_ne (by decide)).trans (h.e6 (Ls.back (by decide) hl))
  e7 := fun hl => (ev_ne (by decide)).trans (h.e7 (Ls.back (by decide) hl))
  e8 := fun hl => (ev_ne (by decide)).trans (h.e8 (Ls.back (by decide) hl))
  e9 := fun hl => ⟨(ev_ne (by decide)).trans (h.e9 (Ls.back (by decide) hl)).1, (h.e9 (Ls.back (by decide) hl)).2.1, (h.e9 (Ls.back (by decide) hl)).2.2⟩
  e10 := fun hl => (ev_ne (by decide)).trans (h.e10 (Ls.back (by decide) hl))
  d6 := fun hl => (h.d6 (Ls.back (by decide) hl)).keep
  d107 := fun hl => (h.d107 (Ls.back (by decide) hl)).keep
  d10 := fun hl => (h.d10 (Ls.back (by decide) hl)).keep
  d11 := fun hl => (h.d11 (Ls.back (by decide) hl)).keep
  d12 := fun hl => (h.d12 (Ls.back (by decide) hl)).keep
  K := h.K.mono fun k _ hk => hk.keep
  s6 := fun hl => (h.s6 (Ls.back (by decide) hl))
  s10 := fun hl => (h.s10 (Ls.back (by decide) hl))
  c8 := fun hl => (h.c8 (Ls.back (by decide) hl))
  c9 := fun hl => (h.c9 (Ls.back (by decide) hl))

theorem RI.put2 {c : RCtx} {ls : Array Bool} {a : Act} {w : World} {g5 g9 : Nat} {vS' vB' : Value} (h : RI c ls a w g5 g9 vS' vB') (_hi : 2 < ls.size) : RI c (ls.setIfInBounds 2 true) (a.put (some 43) (.int .i64 c.i)) w g5 g9 vS' vB' where
  sz := by rw [sz_put]; exact h.sz
  t7 := (ev_ne (by decide)).trans h.t7
  t8 := (ev_ne (by decide)).trans h.t8
  t9 := (ev_ne (by decide)).trans h.t9
  t10 := (ev_ne (by decide)).trans h.t10
  t11 := (ev_ne (by decide)).trans h.t11
  e0 := fun hl => (ev_ne (by decide)).trans (h.e0 (Ls.back (by decide) hl))
  e1 := fun hl => (ev_ne (by decide)).trans (h.e1 (Ls.back (by decide) hl))
  e2 := fun _ => ev_eq (by have := h.sz; omega)
  e3 := fun hl => (ev_ne (by decide)).trans (h.e3 (Ls.back (by decide) hl))
  e4 := fun hl => (ev_ne (by decide)).trans (h.e4 (Ls.back (by decide) hl))
  e5 := fun hl => ⟨(ev_ne (by decide)).trans (h.e5 (Ls.back (by decide) hl)).1, (h.e5 (Ls.back (by decide) hl)).2.1, (h.e5 (Ls.back (by decide) hl)).2.2⟩
  e6 := fun hl => (ev_ne (by decide)).trans (h.e6 (Ls.back (by decide) hl))
  e7 := fun hl => (ev_ne (by decide)).trans (h.e7 (Ls.back (by decide) hl))
  e8 := fun hl => (ev_ne (by decide)).trans (h.e8 (Ls.back (by decide) hl))
  e9 := fun hl => ⟨(ev_ne (by decide)).trans (h.e9 (Ls.back (by decide) hl)).1, (h.e9 (Ls.back (by decide) hl)).2.1, (h.e9 (Ls.back (by decide) hl)).2.2⟩
  e10 := fun hl => (ev_ne (by decide)).trans (h.e10 (Ls.back (by decide) hl))
  d6 := fun hl => (h.d6 (Ls.back (by decide) hl)).keep
  d107 := fun hl => (h.d107 (Ls.back (by decide) hl)).keep
  d10 := fun hl => (h.d10 (Ls.back (by decide) hl)).keep
  d11 := fun hl => (h.d11 (Ls.back (by decide) hl)).keep
  d12 := fun hl => (h.d12 (Ls.back (by decide) hl)).keep
  K := h.K.mono fun k _ hk => hk.keep
  s6 := fun hl => (h.s6 (Ls.back (by decide) hl))
  s10 := fun hl => (h.s10 (Ls.back (by decide) hl))
  c8 := fun hl => (h.c8 (Ls.back (by decide) hl))
  c9 := fun hl => (h.c9 (Ls.back (by decide) hl))

theorem RI.put3 {c : RCtx} {ls : Array Bool} {a : Act} {w : World} {g5 g9 : Nat} {vS' vB' : Value} (h : RI c ls a w g5 g9 vS' vB') (_hi : 3 < ls.size) : RI c (ls.setIfInBounds 3 true) (a.put (some 44) (.pointer (some ⟨c.bR, c.i, none⟩))) w g5 g9 vS' vB' where
  sz := by rw [sz_put]; exact h.sz
  t7 := (ev_ne (by decide)).trans h.t7
  t8 := (ev_ne (by decide)).trans h.t8
  t9 := (ev_ne (by decide)).trans h.t9
  t10 := (ev_ne (by decide)).trans h.t10
  t11 := (ev_ne (by decide)).trans h.t11
  e0 := fun hl => (ev_ne (by decide)).trans (h.e0 (Ls.back (by decide) hl))
  e1 := fun hl => (ev_ne (by decide)).trans (h.e1 (Ls.back (by decide) hl))
  e2 := fun hl => (ev_ne (by decide)).trans (h.e2 (Ls.back (by decide) hl))
  e3 := fun _ => ev_eq (by have := h.sz; omega)
  e4 := fun hl => (ev_ne (by decide)).trans (h.e4 (Ls.back (by decide) hl))
  e5 := fun hl => ⟨(ev_ne (by decide)).trans (h.e5 (Ls.back (by decide) hl)).1, (h.e5 (Ls.back (by decide) hl)).2.1, (h.e5 (Ls.back (by decide) hl)).2.2⟩
  e6 := fun hl => (ev_ne (by decide)).trans (h.e6 (Ls.back (by decide) hl))
  e7 := fun hl => (ev_ne (by decide)).trans (h.e7 (Ls.back (by decide) hl))
  e8 := fun hl => (ev_ne (by decide)).trans (h.e8 (Ls.back (by decide) hl))
  e9 := fun hl => ⟨(ev_ne (by decide)).trans (h.e9 (Ls.back (by decide) hl)).1, (h.e9 (Ls.back (by decide) hl)).2.1, (h.e9 (Ls.back (by decide) hl)).2.2⟩
  e10 := fun hl => (ev_ne (by decide)).trans (h.e10 (Ls.back (by decide) hl))
  d6 := fun hl => (h.d6 (Ls.back (by decide) hl)).keep
  d107 := fun hl => (h.d107 (Ls.back (by decide) hl)).keep
  d10 := fun hl => (h.d10 (Ls.back (by decide) hl)).keep
  d11 := fun hl => (h.d11 (Ls.back (by decide) hl)).keep
  d12 := fun hl => (h.d12 (Ls.back (by decide) hl)).keep
  K := h.K.mono fun k _ hk => hk.keep
  s6 := fun hl => (h.s6 (Ls.back (by decide) hl))
  s10 := fun hl => (h.s10 (Ls.back (by decide) hl))
  c8 := fun hl => (h.c8 (Ls.back (by decide) hl))
  c9 := fun hl => (h.c9 (Ls.back (by decide) hl))

theorem RI.put4 {c : RCtx} {ls : Array Bool} {a : Act} {w : World} {g5 g9 : Nat} {vS' vB' : Value} (h : RI c ls a w g5 g9 vS' vB') (_hi : 4 < ls.size) : RI c (ls.setIfInBounds 4 true) (a.put (some 45) c.hdr) w g5 g9 vS' vB' where
  sz := by rw [sz_put]; exact h.sz
  t7 := (ev_ne (by decide)).trans h.t7
  t8 := (ev_ne (by decide)).trans h.t8
  t9 := (ev_ne (by decide)).trans h.t9
  t10 := (ev_ne (by decide)).trans h.t10
  t11 := (ev_ne (by decide)).trans h.t11
  e0 := fun hl => (ev_ne (by decide)).trans (h.e0 (Ls.back (by decide) hl))
  e1 := fun hl => (ev_ne (by decide)).trans (h.e1 (Ls.back (by decide) hl))
  e2 := fun hl => (ev_ne (by decide)).trans (h.e2 (Ls.back (by decide) hl))
  e3 := fun hl => (ev_ne (by decide)).trans (h.e3 (Ls.back (by decide) hl))
  e4 := fun _ => ev_eq (by have := h.sz; omega)
  e5 := fun hl => ⟨(ev_ne (by decide)).trans (h.e5 (Ls.back (by decide) hl)).1, (h.e5 (Ls.back (by decide) hl)).2.1, (h.e5 (Ls.back (by decide) hl)).2.2⟩
  e6 := fun hl => (ev_ne (by decide)).trans (h.e6 (Ls.back (by decide) hl))
  e7 := fun hl => (ev_ne (by decide)).trans (h.e7 (Ls.back (by decide) hl))
  e8 := fun hl => (ev_ne (by decide)).trans (h.e8 (Ls.back (by decide) hl))
  e9 := fun hl => ⟨(ev_ne (by decide)).trans (h.e9 (Ls.back (by decide) hl)).1, (h.e9 (Ls.back (by decide) hl)).2.1, (h.e9 (Ls.back (by decide) hl)).2.2⟩
  e10 := fun hl => (ev_ne (by decide)).trans (h.e10 (Ls.back (by decide) hl))
  d6 := fun hl => (h.d6 (Ls.back (by decide) hl)).keep
  d107 := fun hl => (h.d107 (Ls.back (by decide) hl)).keep
  d10 := fun hl => (h.d10 (Ls.back (by decide) hl)).keep
  d11 := fun hl => (h.d11 (Ls.back (by decide) hl)).keep
  d12 := fun hl => (h.d12 (Ls.back (by decide) hl)).keep
  K := h.K.mono fun k _ hk => hk.keep
  s6 := fun hl => (h.s6 (Ls.back (by decide) hl))
  s10 := fun hl => (h.s10 (Ls.back (by decide) hl))
  c8 := fun hl => (h.c8 (Ls.back (by decide) hl))
  c9 := fun hl => (h.c9 (Ls.back (by decide) hl))

theorem RI.put7 {c : RCtx} {ls : Array Bool} {a : Act} {w : World} {g5 g9 : Nat} {vS' vB' : Value} (h : RI c ls a w g5 g9 vS' vB') (_hi : 7 < ls.size) : RI c (ls.setIfInBounds 7 true) (a.put (some 48) c.vB) w g5 g9 vS' vB' where
  sz := by rw [sz_put]; exact h.sz
  t7 := (ev_ne (by decide)).trans h.t7
  t8 := (ev_ne (by decide)).trans h.t8
  t9 := (ev_ne (by decide)).trans h.t9
  t10 := (ev_ne (by decide)).trans h.t10
  t11 := (ev_ne (by decide)).trans h.t11
  e0 := fun hl => (ev_ne (by decide)).trans (h.e0 (Ls.back (by decide) hl))
  e1 := fun hl => (ev_ne (by decide)).trans (h.e1 (Ls.back (by decide) hl))
  e2 := fun hl => (ev_ne (by decide)).trans (h.e2 (Ls.back (by decide) hl))
  e3 := fun hl => (ev_ne (by decide)).trans (h.e3 (Ls.back (by decide) hl))
  e4 := fun hl => (ev_ne (by decide)).trans (h.e4 (Ls.back (by decide) hl))
  e5 := fun hl => ⟨(ev_ne (by decide)).trans (h.e5 (Ls.back (by decide) hl)).1, (h.e5 (Ls.back (by decide) hl)).2.1, (h.e5 (Ls.back (by decide) hl)).2.2⟩
  e6 := fun hl => (ev_ne (by decide)).trans (h.e6 (Ls.back (by decide) hl))
  e7 := fun _ => ev_eq (by have := h.sz; omega)
  e8 := fun hl => (ev_ne (by decide)).trans (h.e8 (Ls.back (by decide) hl))
  e9 := fun hl => ⟨(ev_ne (by decide)).trans (h.e9 (Ls.back (by decide) hl)).1, (h.e9 (Ls.back (by decide) hl)).2.1, (h.e9 (Ls.back (by decide) hl)).2.2⟩
  e10 := fun hl => (ev_ne (by decide)).trans (h.e10 (Ls.back (by decide) hl))
  d6 := fun hl => (h.d6 (Ls.back (by decide) hl)).keep
  d107 := fun hl => (h.d107 (Ls.back (by decide) hl)).keep
  d10 := fun hl => (h.d10 (Ls.back (by decide) hl)).keep
  d11 := fun hl => (h.d11 (Ls.back (by decide) hl)).keep
  d12 := fun hl => (h.d12 (Ls.back (by decide) hl)).keep
  K := h.K.mono fun k _ hk => hk.keep
  s6 := fun hl => (h.s6 (Ls.back (by decide) hl))
  s10 := fun hl => (h.s10 (Ls.back (by decide) hl))
  c8 := fun hl => (h.c8 (Ls.back (by decide) hl))
  c9 := fun hl => (h.c9 (Ls.back (by decide) hl))

theorem RI.put8 {c : RCtx} {ls : Array Bool} {a : Act} {w : World} {g5 g9 : Nat} {vS' vB' : Value} (h : RI c ls a w g5 g9 vS' vB') (_hi : 8 < ls.size) : RI c (ls.setIfInBounds 8 true) (a.put (some 49) c.pv) w g5 g9 vS' vB' where
  sz := by rw [sz_put]; exact h.sz
  t7 := (ev_ne (by decide)).trans h.t7
  t8 := (ev_ne (by decide)).trans h.t8
  t9 := (ev_ne (by decide)).trans h.t9
  t10 := (ev_ne (by decide)).trans h.t10
  t11 := (ev_ne (by decide)).trans h.t11
  e0 := fun hl => (ev_ne (by decide)).trans (h.e0 (Ls.back (by decide) hl))
  e1 := fun hl => (ev_ne (by decide)).trans (h.e1 (Ls.back (by decide) hl))
  e2 := fun hl => (ev_ne (by decide)).trans (h.e2 (Ls.back (by decide) hl))
  e3 := fun hl => (ev_ne (by decide)).trans (h.e3 (Ls.back (by decide) hl))
  e4 := fun hl => (ev_ne (by decide)).trans (h.e4 (Ls.back (by decide) hl))
  e5 := fun hl => ⟨(ev_ne (by decide)).trans (h.e5 (Ls.back (by decide) hl)).1, (h.e5 (Ls.back (by decide) hl)).2.1, (h.e5 (Ls.back (by decide) hl)).2.2⟩
  e6 := fun hl => (ev_ne (by decide)).trans (h.e6 (Ls.back (by decide) hl))
  e7 := fun hl => (ev_ne (by decide)).trans (h.e7 (Ls.back (by decide) hl))
  e8 := fun _ => ev_eq (by have := h.sz; omega)
  e9 := fun hl => ⟨(ev_ne (by decide)).trans (h.e9 (Ls.back (by decide) hl)).1, (h.e9 (Ls.back (by decide) hl)).2.1, (h.e9 (Ls.back (by decide) hl)).2.2⟩
  e10 := fun hl => (ev_ne (by decide)).trans (h.e10 (Ls.back (by decide) hl))
  d6 := fun hl => (h.d6 (Ls.back (by decide) hl)).keep
  d107 := fun hl => (h.d107 (Ls.back (by decide) hl)).keep
  d10 := fun hl => (h.d10 (Ls.back (by decide) hl)).keep
  d11 := fun hl => (h.d11 (Ls.back (by decide) hl)).keep
  d12 := fun hl => (h.d12 (Ls.back (by decide) hl)).keep
  K := h.K.mono fun k _ hk => hk.keep
  s6 := fun hl => (h.s6 (Ls.back (by decide) hl))
  s10 := fun hl => (h.s10 (Ls.back (by decide) hl))
  c8 := fun hl => (h.c8 (Ls.back (by decide) hl))
  c9 := fun hl => (h.c9 (Ls.back (by decide) hl))

theorem RI.put5 {c : RCtx} {ls : Array Bool} {a : Act} {w : World} {g5 g9 : Nat} {vS' vB' : Value} (h : RI c ls a w g5 g9 vS' vB') (_hi : 5 < ls.size) : RI c (ls.setIfInBounds 5 true) (a.put (some 46) (.slice (some ⟨w.heap.size, 0, none⟩) 1 1)) (w.alloc (.cells #[c.hdr] 26)) w.heap.size g9 vS' vB' where
  sz := by rw [sz_put]; exact h.sz
  t7 := (ev_ne (by decide)).trans h.t7
  t8 := (ev_ne (by decide)).trans h.t8
  t9 := (ev_ne (by decide)).trans h.t9
  t10 := (ev_ne (by decide)).trans h.t10
  t11 := (ev_ne (by decide)).trans h.t11
  e0 := fun hl => (ev_ne (by decide)).trans (h.e0 (Ls.back (by decide) hl))
  e1 := fun hl => (ev_ne (by decide)).trans (h.e1 (Ls.back (by decide) hl))
  e2 := fun hl => (ev_ne (by decide)).trans (h.e2 (Ls.back (by decide) hl))
  e3 := fun hl => (ev_ne (by decide)).trans (h.e3 (Ls.back (by decide) hl))
  e4 := fun hl => (ev_ne (by decide)).trans (h.e4 (Ls.back (by decide) hl))
  e5 := fun _ => ⟨ev_eq (by have := h.sz; omega), Blk.new w 26 #[c.hdr], h.K.size⟩
  e6 := fun hl => (ev_ne (by decide)).trans (h.e6 (Ls.back (by decide) hl))
  e7 := fun hl => (ev_ne (by decide)).trans (h.e7 (Ls.back (by decide) hl))
  e8 := fun hl => (ev_ne (by decide)).trans (h.e8 (Ls.back (by decide) hl))
  e9 := fun hl => ⟨(ev_ne (by decide)).trans (h.e9 (Ls.back (by decide) hl)).1, (h.e9 (Ls.back (by decide) hl)).2.1.alloc _, (h.e9 (Ls.back (by decide) hl)).2.2⟩
  e10 := fun hl => (ev_ne (by decide)).trans (h.e10 (Ls.back (by decide) hl))
  d6 := fun hl => (h.d6 (Ls.back (by decide) hl)).keep
  d107 := fun hl => (h.d107 (Ls.back (by decide) hl)).keep
  d10 := fun hl => (h.d10 (Ls.back (by decide) hl)).keep
  d11 := fun hl => (h.d11 (Ls.back (by decide) hl)).keep
  d12 := fun hl => (h.d12 (Ls.back (by decide) hl)).keep
  K := (h.K.mono fun k _ hk => hk.keep).alloc _
  s6 := fun hl => ⟨(h.s6 (Ls.back (by decide) hl)).1.alloc _, (h.s6 (Ls.back (by decide) hl)).2⟩
  s10 := fun hl => ⟨(h.s10 (Ls.back (by decide) hl)).1.alloc _, (h.s10 (Ls.back (by decide) hl)).2⟩
  c8 := fun hl => (h.c8 (Ls.back (by decide) hl)).alloc _
  c9 := fun hl => (h.c9 (Ls.back (by decide) hl)).alloc _

theorem RI.put9 {c : RCtx} {ls : Array Bool} {a : Act} {w : World} {g5 g9 : Nat} {vS' vB' : Value} (h : RI c ls a w g5 g9 vS' vB') (_hi : 9 < ls.size) : RI c (ls.setIfInBounds 9 true) (a.put (some 50) (.slice (some ⟨w.heap.size, 0, none⟩) 1 1)) (w.alloc (.cells #[c.pv] 26)) g5 w.heap.size vS' vB' where
  sz := by rw [sz_put]; exact h.sz
  t7 := (ev_ne (by decide)).trans h.t7
  t8 := (ev_ne (by decide)).trans h.t8
  t9 := (ev_ne (by decide)).trans h.t9
  t10 := (ev_ne (by decide)).trans h.t10
  t11 := (ev_ne (by decide)).trans h.t11
  e0 := fun hl => (ev_ne (by decide)).trans (h.e0 (Ls.back (by decide) hl))
  e1 := fun hl => (ev_ne (by decide)).trans (h.e1 (Ls.back (by decide) hl))
  e2 := fun hl => (ev_ne (by decide)).trans (h.e2 (Ls.back (by decide) hl))
  e3 := fun hl => (ev_ne (by decide)).trans (h.e3 (Ls.back (by decide) hl))
  e4 := fun hl => (ev_ne (by decide)).trans (h.e4 (Ls.back (by decide) hl))
  e5 := fun hl => ⟨(ev_ne (by decide)).trans (h.e5 (Ls.back (by decide) hl)).1, (h.e5 (Ls.back (by decide) hl)).2.1.alloc _, (h.e5 (Ls.back (by decide) hl)).2.2⟩
  e6 := fun hl => (ev_ne (by decide)).trans (h.e6 (Ls.back (by decide) hl))
  e7 := fun hl => (ev_ne (by decide)).trans (h.e7 (Ls.back (by decide) hl))
  e8 := fun hl => (ev_ne (by decide)).trans (h.e8 (Ls.back (by decide) hl))
  e9 := fun _ => ⟨ev_eq (by have := h.sz; omega), Blk.new w 26 #[c.pv], h.K.size⟩
  e10 := fun hl => (ev_ne (by decide)).trans (h.e10 (Ls.back (by decide) hl))
  d6 := fun hl => (h.d6 (Ls.back (by decide) hl)).keep
  d107 := fun hl => (h.d107 (Ls.back (by decide) hl)).keep
  d10 := fun hl => (h.d10 (Ls.back (by decide) hl)).keep
  d11 := fun hl => (h.d11 (Ls.back (by decide) hl)).keep
  d12 := fun hl => (h.d12 (Ls.back (by decide) hl)).keep
  K := (h.K.mono fun k _ hk => hk.keep).alloc _
  s6 := fun hl => ⟨(h.s6 (Ls.back (by decide) hl)).1.alloc _, (h.s6 (Ls.back (by decide) hl)).2⟩
  s10 := fun hl => ⟨(h.s10 (Ls.back (by decide) hl)).1.alloc _, (h.s10 (Ls.back (by decide) hl)).2⟩
  c8 := fun hl => (h.c8 (Ls.back (by decide) hl)).alloc _
  c9 := fun hl => (h.c9 (Ls.back (by decide) hl)).alloc _

theorem RI.not6 {c : RCtx} {ls : Array Bool} {a : Act} {w : World} {g5 g9 : Nat} {vS' vB' : Value} (h : RI c ls a w g5 g9 vS' vB') (h6 : ¬ Ls ls 6) (k : Nat) : ¬ RK c ls k := by
  rintro (⟨x, _⟩ | ⟨x, _⟩ | ⟨x, _⟩ | ⟨x, _⟩)
  · exact h6 x
  · exact h6 (h.d10 x)
  · exact h6 (h.d10 (h.d11 x))
  · exact h6 (h.d10 (h.d11 (h.d12 x)))
theorem RI.own6 {c : RCtx} {ls : Array Bool} {a : Act} {w : World} {g5 g9 : Nat} {vS' vB' : Value} (h : RI c ls a w g5 g9 vS' vB') (hc : c.Ok) (h6 : ¬ Ls ls 6) : w.ownsRow c.base 26 1 c.vS c.xs.length c.xs :=
  owns_kept hc.oS h.K fun g _ => h.not6 h6 g
theorem RI.own10 {c : RCtx} {ls : Array Bool} {a : Act} {w : World} {g5 g9 : Nat} {vS' vB' : Value} (h : RI c ls a w g5 g9 vS' vB') (hc : c.Ok) (h10 : ¬ Ls ls 10) : w.ownsRow c.base 26 1 c.vB c.ys.length c.ys := by
  refine owns_kept hc.oB h.K fun g hg => ?_
  rintro (⟨_, x⟩ | ⟨x, _⟩ | ⟨x, _⟩ | ⟨x, _⟩)
  · exact hc.ne g x hg
  · exact h10 x
  · exact h10 (h.d11 x)
  · exact h10 (h.d11 (h.d12 x))

theorem RI.ns10 {c : RCtx} {ls : Array Bool} {a : Act} {w : World} {g5 g9 : Nat} {vS' vB' : Value} (h : RI c ls a w g5 g9 vS' vB') (hc : c.Ok) (h6 : Ls ls 6) : ∀ g, vS'.ownBlock = some g → c.vB.ownBlock = some g → False := by
  intro g hg e
  rcases (h.s6 h6).2 g hg with x | x
  · exact hc.ne g x e
  · have := (owns_block hc.oB e).1.lt; omega

theorem RI.put6 {c : RCtx} {ls : Array Bool} {a : Act} {w : World} {g5 g9 : Nat} {vS' vB' : Value} (h : RI c ls a w g5 g9 vS' vB') (hi : 6 < ls.size) (hc : c.Ok) (h0 : Ls ls 0) (h6 : ¬ Ls ls 6) {vN : Value} {w' : World} (hown : w'.ownsRow c.base 26 1 vN (c.xs.length + 1) (c.xs ++ [c.hdr])) (hgr : w.grownBy w' c.vS.ownBlock) (hat : vN.ownBlock = c.vS.ownBlock ∨ vN.ownBlock = some w.heap.size) : RI c (ls.setIfInBounds 6 true) (a.put (some 47) vN) w' g5 g9 vN vB' where
  sz := by rw [sz_put]; exact h.sz
  t7 := (ev_ne (by decide)).trans h.t7
  t8 := (ev_ne (by decide)).trans h.t8
  t9 := (ev_ne (by decide)).trans h.t9
  t10 := (ev_ne (by decide)).trans h.t10
  t11 := (ev_ne (by decide)).trans h.t11
  e0 := fun hl => (ev_ne (by decide)).trans (h.e0 (Ls.back (by decide) hl))
  e1 := fun hl => (ev_ne (by decide)).trans (h.e1 (Ls.back (by decide) hl))
  e2 := fun hl => (ev_ne (by decide)).trans (h.e2 (Ls.back (by decide) hl))
  e3 := fun hl => (ev_ne (by decide)).trans (h.e3 (Ls.back (by decide) hl))
  e4 := fun hl => (ev_ne (by decide)).trans (h.e4 (Ls.back (by decide) hl))
  e5 := fun hl => ⟨(ev_ne (by decide)).trans (h.e5 (Ls.back (by decide) hl)).1, (h.e5 (Ls.back (by decide) hl)).2.1.kept (Kept.of_grown hgr) (fun e => by have h1 := (owns_block hc.oS e.symm).1.lt; have h2 := (h.e5 (Ls.back (by decide) hl)).2.2; omega), (h.e5 (Ls.back (by decide) hl)).2.2⟩
  e6 := fun _ => ev_eq (by have := h.sz; omega)
  e7 := fun hl => (ev_ne (by decide)).trans (h.e7 (Ls.back (by decide) hl))
  e8 := fun hl => (ev_ne (by decide)).trans (h.e8 (Ls.back (by decide) hl))
  e9 := fun hl => ⟨(ev_ne (by decide)).trans (h.e9 (Ls.back (by decide) hl)).1, (h.e9 (Ls.back (by decide) hl)).2.1.kept (Kept.of_grown hgr) (fun e => by have h1 := (owns_block hc.oS e.symm).1.lt; have h2 := (h.e9 (Ls.back (by decide) hl)).2.2; omega), (h.e9 (Ls.back (by decide) hl)).2.2⟩
  e10 := fun hl => (ev_ne (by decide)).trans (h.e10 (Ls.back (by decide) hl))
  d6 := fun _ => h0.keep
  d107 := fun hl => absurd (h.d10 (Ls.back (by decide) hl)) h6
  d10 := fun hl => absurd (h.d10 (Ls.back (by decide) hl)) h6
  d11 := fun hl => absurd (h.d10 (h.d11 (Ls.back (by decide) hl))) h6
  d12 := fun hl => absurd (h.d10 (h.d11 (h.d12 (Ls.back (by decide) hl)))) h6
  K := (h.K.mono fun k _ hk => hk.keep).then (Kept.of_grown hgr) fun k _ hk => Or.inl ⟨Ls.set hi, hk.symm⟩
  s6 := fun _ => ⟨hown, fun g hg => by rcases hat with e | e; exact Or.inl (by rw [← e]; exact hg); right; rw [e] at hg; have := h.K.size; simp at hg; omega⟩
  s10 := fun hl => absurd (h.d10 (Ls.back (by decide) hl)) h6
  c8 := fun hl => absurd (h.d10 (h.d11 (Ls.back (by decide) hl))) h6
  c9 := fun hl => absurd (h.d10 (h.d11 (h.d12 (Ls.back (by decide) hl)))) h6

theorem RI.put10 {c : RCtx} {ls : Array Bool} {a : Act} {w : World} {g5 g9 : Nat} {vS' vB' : Value} (h : RI c ls a w g5 g9 vS' vB') (hi : 10 < ls.size) (hc : c.Ok) (h7 : Ls ls 7) (h6 : Ls ls 6) (h10 : ¬ Ls ls 10) {vN : Value} {w' : World} (hown : w'.ownsRow c.base 26 1 vN (c.ys.length + 1) (c.ys ++ [c.pv])) (hgr : w.grownBy w' c.vB.ownBlock) (hat : vN.ownBlock = c.vB.ownBlock ∨ vN.ownBlock = some w.heap.size) : RI c (ls.setIfInBounds 10 true) (a.put (some 51) vN) w' g5 g9 vS' vN where
  sz := by rw [sz_put]; exact h.sz
  t7 := (ev_ne (by decide)).trans h.t7
  t8 := (ev_ne (by decide)).trans h.t8
  t9 := (ev_ne (by decide)).trans h.t9
  t10 := (ev_ne (by decide)).trans h.t10
  t11 := (ev_ne (by decide)).trans h.t11
  e0 := fun hl => (ev_ne (by decide)).trans (h.e0 (Ls.back (by decide) hl))
  e1 := fun hl => (ev_ne (by decide)).trans (h.e1 (Ls.back (by decide) hl))
  e2 := fun hl => (ev_ne (by decide)).trans (h.e2 (Ls.back (by decide) hl))
  e3 := fun hl => (ev_ne (by decide)).trans (h.e3 (Ls.back (by decide) hl))
  e4 := fun hl => (ev_ne (by decide)).trans (h.e4 (Ls.back (by decide) hl))
  e5 := fun hl => ⟨(ev_ne (by decide)).trans (h.e5 (Ls.back (by decide) hl)).1, (h.e5 (Ls.back (by decide) hl)).2.1.kept (Kept.of_grown hgr) (fun e => by have h1 := (owns_block hc.oB e.symm).1.lt; have h2 := (h.e5 (Ls.back (by decide) hl)).2.2; omega), (h.e5 (Ls.back (by decide) hl)).2.2⟩
  e6 := fun hl => (ev_ne (by decide)).trans (h.e6 (Ls.back (by decide) hl))
  e7 := fun hl => (ev_ne (by decide)).trans (h.e7 (Ls.back (by decide) hl))
  e8 := fun hl => (ev_ne (by decide)).trans (h.e8 (Ls.back (by decide) hl))
  e9 := fun hl => ⟨(ev_ne (by decide)).trans (h.e9 (Ls.back (by decide) hl)).1, (h.e9 (Ls.back (by decide) hl)).2.1.kept (Kept.of_grown hgr) (fun e => by have h1 := (owns_block hc.oB e.symm).1.lt; have h2 := (h.e9 (Ls.back (by decide) hl)).2.2; omega), (h.e9 (Ls.back (by decide) hl)).2.2⟩
  e10 := fun _ => ev_eq (by have := h.sz; omega)
  d6 := fun hl => (h.d6 (Ls.back (by decide) hl)).keep
  d107 := fun _ => h7.keep
  d10 := fun _ => h6.keep
  d11 := fun hl => absurd (h.d11 (Ls.back (by decide) hl)) h10
  d12 := fun hl => absurd (h.d11 (h.d12 (Ls.back (by decide) hl))) h10
  K := (h.K.mono fun k _ hk => hk.keep).then (Kept.of_grown hgr) fun k _ hk => Or.inr (Or.inl ⟨Ls.set hi, hk.symm⟩)
  s6 := fun _ => ⟨owns_kept (h.s6 h6).1 (Kept.of_grown hgr) (fun g hg e => h.ns10 hc h6 g hg e.symm), (h.s6 h6).2⟩
  s10 := fun _ => ⟨hown, fun g hg => by rcases hat with e | e; exact Or.inl (by rw [← e]; exact hg); right; rw [e] at hg; have := h.K.size; simp at hg; omega, fun g hg hg' => by rcases hat with e | e; exact h.ns10 hc h6 g hg (by rw [← e]; exact hg'); rw [e] at hg'; have := (owns_block (h.s6 h6).1 hg).1.lt; simp at hg'; omega⟩
  c8 := fun hl => absurd (h.d11 (Ls.back (by decide) hl)) h10
  c9 := fun hl => absurd (h.d11 (h.d12 (Ls.back (by decide) hl))) h10

theorem blk_ne {w : World} {g g' T T' : Nat} {xs ys : List Value} (h : Blk w g T xs) (h' : Blk w g' T' ys) (hT : T ≠ T') : g ≠ g' := by
  rintro rfl; exact hT (h.type h')
theorem RI.b8 {c : RCtx} {ls : Array Bool} {a : Act} {w : World} {g5 g9 : Nat} {vS' vB' : Value} (h : RI c ls a w g5 g9 vS' vB') (hc : c.Ok) (h11 : ¬ Ls ls 11) : Blk w c.B8 44 [c.vS] := by
  refine hc.k8.kept h.K ?_
  rintro (⟨_, x⟩ | ⟨_, x⟩ | ⟨x, _⟩ | ⟨_, x⟩)
  · exact absurd (owns_type' hc.oS x hc.k8) (by decide)
  · exact absurd (owns_type' hc.oB x hc.k8) (by decide)
  · exact h11 x
  · exact hc.n89 x
theorem RI.b9 {c : RCtx} {ls : Array Bool} {a : Act} {w : World} {g5 g9 : Nat} {vS' vB' : Value} (h : RI c ls a w g5 g9 vS' vB') (hc : c.Ok) (h12 : ¬ Ls ls 12) : Blk w c.B9 44 [c.vB] := by
  refine hc.k9.kept h.K ?_
  rintro (⟨_, x⟩ | ⟨_, x⟩ | ⟨_, x⟩ | ⟨x, _⟩)
  · exact absurd (owns_type' hc.oS x hc.k9) (by decide)
  · exact absurd (owns_type' hc.oB x hc.k9) (by decide)
  · exact hc.n89 x.symm
  · exact h12 x

theorem RI.put11 {c : RCtx} {ls : Array Bool} {a : Act} {w : World} {g5 g9 : Nat} {vS' vB' : Value} (h : RI c ls a w g5 g9 vS' vB') (hi : 11 < ls.size) (hc : c.Ok) (hneed : Ls ls 10) (hnot : ¬ Ls ls 11) : RI c (ls.setIfInBounds 11 true) (a.put none undef) (w.setCell ⟨c.B8, 0, none⟩ vS') g5 g9 vS' vB' where
  sz := h.sz
  t7 := h.t7
  t8 := h.t8
  t9 := h.t9
  t10 := h.t10
  t11 := h.t11
  e0 := fun hl => h.e0 (Ls.back (by decide) hl)
  e1 := fun hl => h.e1 (Ls.back (by decide) hl)
  e2 := fun hl => h.e2 (Ls.back (by decide) hl)
  e3 := fun hl => h.e3 (Ls.back (by decide) hl)
  e4 := fun hl => h.e4 (Ls.back (by decide) hl)
  e5 := fun hl => ⟨(h.e5 (Ls.back (by decide) hl)).1, (h.e5 (Ls.back (by decide) hl)).2.1.setCell_other (p := ⟨c.B8, 0, none⟩) (blk_ne (h.e5 (Ls.back (by decide) hl)).2.1 (h.b8 hc hnot) (by decide)) _, (h.e5 (Ls.back (by decide) hl)).2.2⟩
  e6 := fun hl => h.e6 (Ls.back (by decide) hl)
  e7 := fun hl => h.e7 (Ls.back (by decide) hl)
  e8 := fun hl => h.e8 (Ls.back (by decide) hl)
  e9 := fun hl => ⟨(h.e9 (Ls.back (by decide) hl)).1, (h.e9 (Ls.back (by decide) hl)).2.1.setCell_other (p := ⟨c.B8, 0, none⟩) (blk_ne (h.e9 (Ls.back (by decide) hl)).2.1 (h.b8 hc hnot) (by decide)) _, (h.e9 (Ls.back (by decide) hl)).2.2⟩
  e10 := fun hl => h.e10 (Ls.back (by decide) hl)
  d6 := fun hl => (h.d6 (Ls.back (by decide) hl)).keep
  d107 := fun hl => (h.d107 (Ls.back (by decide) hl)).keep
  d10 := fun hl => (h.d10 (Ls.back (by decide) hl)).keep
  d11 := fun _ => hneed.keep
  d12 := fun hl => absurd (h.d12 (Ls.back (by decide) hl)) hnot
  K := (h.K.mono fun k _ hk => hk.keep).setCell (p := ⟨c.B8, 0, none⟩) (fun _ => Or.inr (Or.inr (Or.inl ⟨Ls.set hi, rfl⟩))) _
  s6 := fun hl => ⟨owns_kept (h.s6 (Ls.back (by decide) hl)).1 ((Kept.refl (fun x => x = c.B8) w).setCell (p := ⟨c.B8, 0, none⟩) (fun _ => rfl) _) (fun g hg e => absurd (owns_type' (h.s6 (Ls.back (by decide) hl)).1 hg (show Blk w g 44 _ by subst e; exact h.b8 hc hnot)) (by decide)), (h.s6 (Ls.back (by decide) hl)).2⟩
  s10 := fun hl => ⟨owns_kept (h.s10 (Ls.back (by decide) hl)).1 ((Kept.refl (fun x => x = c.B8) w).setCell (p := ⟨c.B8, 0, none⟩) (fun _ => rfl) _) (fun g hg e => absurd (owns_type' (h.s10 (Ls.back (by decide) hl)).1 hg (show Blk w g 44 _ by subst e; exact h.b8 hc hnot)) (by decide)), (h.s10 (Ls.back (by decide) hl)).2⟩
  c8 := fun _ => (h.b8 hc hnot).setCell (i := 0) (by simp) vS'
  c9 := fun hl => absurd (h.d12 (Ls.back (by decide) hl)) hnot

theorem RI.put12 {c : RCtx} {ls : Array Bool} {a : Act} {w : World} {g5 g9 : Nat} {vS' vB' : Value} (h : RI c ls a w g5 g9 vS' vB') (hi : 12 < ls.size) (hc : c.Ok) (hneed : Ls ls 11) (hnot : ¬ Ls ls 12) : RI c (ls.setIfInBounds 12 true) (a.put none undef) (w.setCell ⟨c.B9, 0, none⟩ vB') g5 g9 vS' vB' where
  sz := h.sz
  t7 := h.t7
  t8 := h.t8
  t9 := h.t9
  t10 := h.t10
  t11 := h.t11
  e0 := fun hl => h.e0 (Ls.back (by decide) hl)
  e1 := fun hl => h.e1 (Ls.back (by decide) hl)
  e2 := fun hl => h.e2 (Ls.back (by decide) hl)
  e3 := fun hl => h.e3 (Ls.back (by decide) hl)
  e4 := fun hl => h.e4 (Ls.back (by decide) hl)
  e5 := fun hl => ⟨(h.e5 (Ls.back (by decide) hl)).1, (h.e5 (Ls.back (by decide) hl)).2.1.setCell_other (p := ⟨c.B9, 0, none⟩) (blk_ne (h.e5 (Ls.back (by decide) hl)).2.1 (h.b9 hc hnot) (by decide)) _, (h.e5 (Ls.back (by decide) hl)).2.2⟩
  e6 := fun hl => h.e6 (Ls.back (by decide) hl)
  e7 := fun hl => h.e7 (Ls.back (by decide) hl)
  e8 := fun hl => h.e8 (Ls.back (by decide) hl)
  e9 := fun hl => ⟨(h.e9 (Ls.back (by decide) hl)).1, (h.e9 (Ls.back (by decide) hl)).2.1.setCell_other (p := ⟨c.B9, 0, none⟩) (blk_ne (h.e9 (Ls.back (by decide) hl)).2.1 (h.b9 hc hnot) (by decide)) _, (h.e9 (Ls.back (by decide) hl)).2.2⟩
  e10 := fun hl => h.e10 (Ls.back (by decide) hl)
  d6 := fun hl => (h.d6 (Ls.back (by decide) hl)).keep
  d107 := fun hl => (h.d107 (Ls.back (by decide) hl)).keep
  d10 := fun hl => (h.d10 (Ls.back (by decide) hl)).keep
  d11 := fun hl => (h.d11 (Ls.back (by decide) hl)).keep
  d12 := fun _ => hneed.keep
  K := (h.K.mono fun k _ hk => hk.keep).setCell (p := ⟨c.B9, 0, none⟩) (fun _ => Or.inr (Or.inr (Or.inr ⟨Ls.set hi, rfl⟩))) _
  s6 := fun hl => ⟨owns_kept (h.s6 (Ls.back (by decide) hl)).1 ((Kept.refl (fun x => x = c.B9) w).setCell (p := ⟨c.B9, 0, none⟩) (fun _ => rfl) _) (fun g hg e => absurd (owns_type' (h.s6 (Ls.back (by decide) hl)).1 hg (show Blk w g 44 _ by subst e; exact h.b9 hc hnot)) (by decide)), (h.s6 (Ls.back (by decide) hl)).2⟩
  s10 := fun hl => ⟨owns_kept (h.s10 (Ls.back (by decide) hl)).1 ((Kept.refl (fun x => x = c.B9) w).setCell (p := ⟨c.B9, 0, none⟩) (fun _ => rfl) _) (fun g hg e => absurd (owns_type' (h.s10 (Ls.back (by decide) hl)).1 hg (show Blk w g 44 _ by subst e; exact h.b9 hc hnot)) (by decide)), (h.s10 (Ls.back (by decide) hl)).2⟩
  c8 := fun hl => (h.c8 (Ls.back (by decide) hl)).setCell_other (p := ⟨c.B9, 0, none⟩) hc.n89 _
  c9 := fun _ => (h.b9 hc hnot).setCell (i := 0) (by simp) vB'

end Go.Proofs.Ytkclmfppjhmnjaa
