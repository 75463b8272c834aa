/- The region of parity.whole that appends to two slices: what it leaves, in every order. -/
/- Plain: ranks, inverses and products of square matrices, as the law GaloisReverses asks. -/
/- Plain: any d of the rows of the unit matrix and the Cauchy matrix are independent. No program in sight. -/
import Derived.Test.YtkclmfppjhmnjaaB24
import Derived.Test.YtkclmfppjhmnjaaB27
import Derived.Test.YtkclmfppjhmnjaaB25
import Derived.Test.YtkclmfppjhmnjaaB22
namespace Go.Proofs.Ytkclmfppjhmnjaa
open Go.RowKit Go.Shelf

theorem run_load_mat (w : World) (b k : Nat) (v : Value) (h : w.cell? ⟨b, k, none⟩ = some v) : (Instr.loadAt 44 (.pointer (some ⟨b, k, none⟩))).run Try.prog w = .ok v w := by go_simp
theorem run_load_bytes (w : World) (b k : Nat) (v : Value) (h : w.cell? ⟨b, k, none⟩ = some v) : (Instr.loadAt 26 (.pointer (some ⟨b, k, none⟩))).run Try.prog w = .ok v w := by go_simp
theorem run_store_mat (w : World) (b : Nat) (a : Option Addr) (n c : Nat) (v : Value) (h : w.cell? ⟨b, 0, none⟩ = some v) (hf : w.frozen? ⟨b, 0, none⟩ = false) : (Instr.storeAt 44 (.pointer (some ⟨b, 0, none⟩)) (.slice a n c)).run Try.prog w = .ok () (w.setCell ⟨b, 0, none⟩ (.slice a n c)) := by go_simp
theorem run_index_mat (w : World) (b N cap i : Nat) (h : i < N) (_hN : N ≤ 1000) : (Instr.indexAt 44 (.slice (some ⟨b, 0, none⟩) N cap) (.int .i64 i)).run Try.prog w = .ok (.pointer (some ⟨b, i, none⟩)) w := by go_simp
theorem run_build_mat (w : World) (a : Option Addr) (n c : Nat) : (Instr.buildSlice 44 1 #[(0, .slice a n c)]).run Try.prog w = .ok (.slice (some ⟨w.heap.size, 0, none⟩) 1 1) (w.alloc (.cells #[.slice a n c] 26)) := by go_simp

/-- The operations. -/
structure RShape (ops : Array Oper) : Prop where
  size : ops.size = 13
  o0 : ∃ o, ops[0]? = some o ∧ o.guard = none ∧ o.dst = some 41 ∧ o.op = .load 44 (.tmp 8)
  o1 : ∃ o, ops[1]? = some o ∧ o.guard = none ∧ o.dst = some 42 ∧ o.op = .load 44 (.tmp 7)
  o2 : ∃ o, ops[2]? = some o ∧ o.guard = none ∧ o.dst = some 43 ∧ o.op = .move (.tmp 10)
  o3 : ∃ o, ops[3]? = some o ∧ o.guard = none ∧ o.dst = some 44 ∧ o.op = .indexAddr 44 (.tmp 42) (.tmp 43)
  o4 : ∃ o, ops[4]? = some o ∧ o.guard = none ∧ o.dst = some 45 ∧ o.op = .load 26 (.tmp 44)
  o5 : ∃ o, ops[5]? = some o ∧ o.guard = none ∧ o.dst = some 46 ∧ o.op = .buildSlice 44 1 #[(0, .tmp 45)]
  o6 : ∃ o, ops[6]? = some o ∧ o.guard = none ∧ o.dst = some 47 ∧ o.op = .call { callee := .builtin .append, args := #[.tmp 41, .tmp 46], argTypes := #[44, 44] }
  o7 : ∃ o, ops[7]? = some o ∧ o.guard = none ∧ o.dst = some 48 ∧ o.op = .load 44 (.tmp 9)
  o8 : ∃ o, ops[8]? = some o ∧ o.guard = none ∧ o.dst = some 49 ∧ o.op = .move (.tmp 11)
  o9 : ∃ o, ops[9]? = some o ∧ o.guard = none ∧ o.dst = some 50 ∧ o.op = .buildSlice 44 1 #[(0, .tmp 49)]
  o10 : ∃ o, ops[10]? = some o ∧ o.guard = none ∧ o.dst = some 51 ∧ o.op = .call { callee := .builtin .append, args := #[.tmp 48, .tmp 50], argTypes := #[44, 44] }
  o11 : ∃ o, ops[11]? = some o ∧ o.guard = none ∧ o.dst = none ∧ o.op = .store 44 (.tmp 8) (.tmp 47)
  o12 : ∃ o, ops[12]? = some o ∧ o.guard = none ∧ o.dst = none ∧ o.op = .store 44 (.tmp 9) (.tmp 51)

def depB (ops : Array Oper) (i j : Nat) : Bool := ((ops[i]?).map (·.after.any fun e => Region.binds .any e && e.on == j)).getD false
def depsB (ops : Array Oper) : Bool := [(3, 1), (3, 2), (4, 3), (5, 4), (6, 0), (6, 5), (9, 8), (10, 7), (10, 9), (10, 6), (11, 10), (12, 11)].all fun p => depB ops p.1 p.2

theorem dep_of {ops : Array Oper} {ls : Array Bool} {i j : Nat} (hd : depB ops i j = true) (hi : i ∈ Region.ready .any ops ls) : Ls ls j := by
  obtain ⟨o, ho, _, h⟩ := ready_mem hi
  unfold depB at hd
  rw [ho] at hd
  simp only [Option.map_some, Option.getD_some, Array.any_eq_true'] at hd
  obtain ⟨e, he, hb⟩ := hd
  simp only [Bool.and_eq_true, beq_iff_eq] at hb
  have := h e he hb.1
  rw [hb.2] at this
  exact this
theorem deps_get {ops : Array Oper} (h : depsB ops = true) {i j : Nat} (hm : (i, j) ∈ [(3, 1), (3, 2), (4, 3), (5, 4), (6, 0), (6, 5), (9, 8), (10, 7), (10, 9), (10, 6), (11, 10), (12, 11)]) : depB ops i j = true := by
  unfold depsB at h
  rw [List.all_eq_true] at h
  exact h (i, j) hm

def RInv (c : RCtx) (ls : Array Bool) (a : Act) (w : World) : Prop := ∃ g5 g9 vS' vB', RI c ls a w g5 g9 vS' vB'

theorem owns_slice {w : World} {B T n : Nat} {v : Value} {xs : List Value} (h : w.ownsRow B T 1 v n xs) : ∃ a c, v = .slice a n c := by
  rcases h.2 with ⟨rfl, hl⟩ | ⟨g, cg, cur, rfl, _⟩
  · exact ⟨none, 0, by rw [hl]⟩
  · exact ⟨_, cg, rfl⟩

theorem run_call_append {w w' : World} {o : Oper} {ρ : Operand → Value} {x y : Operand} {vx vy v' : Value} (ho : o.op = .call { callee := .builtin .append, args := #[x, y], argTypes := #[44, 44] }) (hx : ρ x = vx) (hy : ρ y = vy)
    (hr : (Builtin.append_ #[44, 44] o.type #[vx, vy]).run Try.prog w = .ok v' w') : (execOp ρ o).run Try.prog w = .ok (.value v') w' := by
  unfold execOp
  simp only [ho, resolve, invoke, builtin, Sem.run_bind, Sem.run_pure, Result.andThen_ok, List.map_toArray, List.map_cons, List.map_nil, hx, hy, hr]

set_option maxHeartbeats 1000000 in
theorem reg_step {c : RCtx} (hc : c.Ok) {ops : Array Oper} (hS : RShape ops) (hD : depsB ops = true) {l n : Nat} {Q : Exit → Act → World → Prop} (ls : Array Bool) (a : Act) (w : World) (hI : RInv c ls a w) (hsz : ls.size = ops.size) (i : Nat) (hi : i ∈ Region.ready .any ops ls) :
    wpOpIn (Fence.wide.inRound l) n Try.prog ops Q i (RInv c (ls.setIfInBounds i true)) a w := by
  obtain ⟨g5, g9, vS', vB', h⟩ := hI
  obtain ⟨_, ho', hl', _⟩ := ready_mem hi
  have hlt := (Array.getElem?_eq_some_iff.1 ho').1
  have hno := Ls.no hl'
  rw [hS.size] at hlt hsz
  clear ho' hl'
  have hcases : i = 0 ∨ i = 1 ∨ i = 2 ∨ i = 3 ∨ i = 4 ∨ i = 5 ∨ i = 6 ∨ i = 7 ∨ i = 8 ∨ i = 9 ∨ i = 10 ∨ i = 11 ∨ i = 12 := by omega
  rcases hcases with rfl | rfl | rfl | rfl | rfl | rfl | rfl | rfl | rfl | rfl | rfl | rfl | rfl
  · obtain ⟨o, ho, hg, hdst, hop⟩ := hS.o0
    have hc8 := (h.b8 hc (fun x => hno (h.d6 (h.d10 (h.d11 x))))).cell (i := 0) rfl
    refine opIn_value ho hg (by rw [hop]; simp) (v := c.vS) (w' := w) ?_ ?_
    · unfold execOp
      simp only [hop]
      rw [h.t8, Sem.run_bind, run_load_mat w c.B8 0 _ hc8]; rfl
    · rw [hdst]; exact ⟨g5, g9, _, _, h.put0 (by omega)⟩
  · obtain ⟨o, ho, hg, hdst, hop⟩ := hS.o1
    have hn7 : ¬ RK c ls c.B7 := by
      rintro (⟨_, x⟩ | ⟨_, x⟩ | ⟨_, x⟩ | ⟨_, x⟩)
      · exact absurd (owns_type' hc.oS x hc.k7) (by decide)
      · exact absurd (owns_type' hc.oB x hc.k7) (by decide)
      · exact hc.n78 x
      · exact hc.n79 x
    have hc7 := h.cell (q := ⟨c.B7, 0, none⟩) hc.c7 hn7
    refine opIn_value ho hg (by rw [hop]; simp) (v := (.slice (some ⟨c.bR, 0, none⟩) c.N c.capR)) (w' := w) ?_ ?_
    · unfold execOp
      simp only [hop]
      rw [h.t7, Sem.run_bind, run_load_mat w c.B7 0 _ hc7]; rfl
    · rw [hdst]; exact ⟨g5, g9, _, _, h.put1 (by omega)⟩
  · obtain ⟨o, ho, hg, hdst, hop⟩ := hS.o2
    refine opIn_value ho hg (by rw [hop]; simp) (v := (.int .i64 c.i)) (w' := w) ?_ ?_
    · unfold execOp
      simp only [hop]
      rw [h.t10]; rfl
    · rw [hdst]; exact ⟨g5, g9, _, _, h.put2 (by omega)⟩
  · obtain ⟨o, ho, hg, hdst, hop⟩ := hS.o3
    have e1 := h.e1 (dep_of (deps_get hD (i := 3) (j := 1) (by decide)) hi)
    have e2 := h.e2 (dep_of (deps_get hD (i := 3) (j := 2) (by decide)) hi)
    refine opIn_value ho hg (by rw [hop]; simp) (v := (.pointer (some ⟨c.bR, c.i, none⟩))) (w' := w) ?_ ?_
    · unfold execOp
      simp only [hop]
      rw [e1, e2, Sem.run_bind, run_index_mat w c.bR c.N c.capR c.i hc.iN hc.lN]; rfl
    · rw [hdst]; exact ⟨g5, g9, _, _, h.put3 (by omega)⟩
  · obtain ⟨o, ho, hg, hdst, hop⟩ := hS.o4
    have e3 := h.e3 (dep_of (deps_get hD (i := 4) (j := 3) (by decide)) hi)
    have hnR : ¬ RK c ls c.bR := by
      obtain ⟨xs, tR⟩ := hc.tR
      rintro (⟨_, x⟩ | ⟨_, x⟩ | ⟨_, x⟩ | ⟨_, x⟩)
      · exact hc.nS x
      · exact hc.nB x
      · rw [x] at tR; exact absurd (tR.type hc.k8) (by decide)
      · rw [x] at tR; exact absurd (tR.type hc.k9) (by decide)
    have hcR := h.cell (q := ⟨c.bR, c.i, none⟩) hc.cR hnR
    refine opIn_value ho hg (by rw [hop]; simp) (v := c.hdr) (w' := w) ?_ ?_
    · unfold execOp
      simp only [hop]
      rw [e3, Sem.run_bind, run_load_bytes w c.bR c.i _ hcR]; rfl
    · rw [hdst]; exact ⟨g5, g9, _, _, h.put4 (by omega)⟩
  · obtain ⟨o, ho, hg, hdst, hop⟩ := hS.o5
    have e4 := h.e4 (dep_of (deps_get hD (i := 5) (j := 4) (by decide)) hi)
    obtain ⟨x1, x2, x3, hx⟩ := hc.fh
    refine opIn_value ho hg (by rw [hop]; simp) (v := (.slice (some ⟨w.heap.size, 0, none⟩) 1 1)) (w' := (w.alloc (.cells #[c.hdr] 26))) ?_ ?_
    · unfold execOp
      simp only [hop, List.map_toArray, List.map_cons, List.map_nil, e4, hx]
      rw [Sem.run_bind, run_build_mat]; rfl
    · rw [hdst]; exact ⟨w.heap.size, g9, _, _, h.put5 (by omega)⟩
  · obtain ⟨o, ho, hg, hdst, hop⟩ := hS.o6
    obtain ⟨j0, gi, gz0, gz1, gz2⟩ := info_parts infoBytes
    have e0 := h.e0 (dep_of (deps_get hD (i := 6) (j := 0) (by decide)) hi)
    obtain ⟨f1, f2, f3⟩ := h.e5 (dep_of (deps_get hD (i := 6) (j := 5) (by decide)) hi)
    have hone : ∀ u ∈ [c.hdr], u.oneCell' = true := by intro u hu; rw [List.mem_singleton] at hu; rw [hu]; exact hc.oh
    obtain ⟨v', w', hr, r1, r2, _, r4⟩ := run_append_own_at (P := Try.prog) w c.base 44 o.type 26 j0 (.slice none 0 0) 1 24 Try.underlying44 gi gz0 gz1 gz2 rfl (by decide) c.vS c.xs.length c.xs (h.own6 hc hno) ⟨g5, 0, none⟩ 1 1 [c.hdr] rfl f2.src hone (by have := hc.lS; unfold maxLen; omega) (by have := hc.lS; omega) (by have := hc.hb; have := h.K.size; omega)
    refine opIn_value ho hg (by rw [hop]; simp) (v := v') (w' := w') (run_call_append hop e0 f1 hr) ?_
    rw [hdst]
    exact ⟨g5, g9, _, _, h.put6 (by omega) hc (dep_of (deps_get hD (i := 6) (j := 0) (by decide)) hi) hno r1 r2 r4⟩
  · obtain ⟨o, ho, hg, hdst, hop⟩ := hS.o7
    have hc9 := (h.b9 hc (fun x => hno (h.d107 (h.d11 (h.d12 x))))).cell (i := 0) rfl
    refine opIn_value ho hg (by rw [hop]; simp) (v := c.vB) (w' := w) ?_ ?_
    · unfold execOp
      simp only [hop]
      rw [h.t9, Sem.run_bind, run_load_mat w c.B9 0 _ hc9]; rfl
    · rw [hdst]; exact ⟨g5, g9, _, _, h.put7 (by omega)⟩
  · obtain ⟨o, ho, hg, hdst, hop⟩ := hS.o8
    refine opIn_value ho hg (by rw [hop]; simp) (v := c.pv) (w' := w) ?_ ?_
    · unfold execOp
      simp only [hop]
      rw [h.t11]; rfl
    · rw [hdst]; exact ⟨g5, g9, _, _, h.put8 (by omega)⟩
  · obtain ⟨o, ho, hg, hdst, hop⟩ := hS.o9
    have e4 := h.e8 (dep_of (deps_get hD (i := 9) (j := 8) (by decide)) hi)
    obtain ⟨x1, x2, x3, hx⟩ := hc.fp
    refine opIn_value ho hg (by rw [hop]; simp) (v := (.slice (some ⟨w.heap.size, 0, none⟩) 1 1)) (w' := (w.alloc (.cells #[c.pv] 26))) ?_ ?_
    · unfold execOp
      simp only [hop, List.map_toArray, List.map_cons, List.map_nil, e4, hx]
      rw [Sem.run_bind, run_build_mat]; rfl
    · rw [hdst]; exact ⟨g5, w.heap.size, _, _, h.put9 (by omega)⟩
  · obtain ⟨o, ho, hg, hdst, hop⟩ := hS.o10
    obtain ⟨j0, gi, gz0, gz1, gz2⟩ := info_parts infoBytes
    have e7 := h.e7 (dep_of (deps_get hD (i := 10) (j := 7) (by decide)) hi)
    obtain ⟨f1, f2, f3⟩ := h.e9 (dep_of (deps_get hD (i := 10) (j := 9) (by decide)) hi)
    have hone : ∀ u ∈ [c.pv], u.oneCell' = true := by intro u hu; rw [List.mem_singleton] at hu; rw [hu]; exact hc.op
    obtain ⟨v', w', hr, r1, r2, _, r4⟩ := run_append_own_at (P := Try.prog) w c.base 44 o.type 26 j0 (.slice none 0 0) 1 24 Try.underlying44 gi gz0 gz1 gz2 rfl (by decide) c.vB c.ys.length c.ys (h.own10 hc hno) ⟨g9, 0, none⟩ 1 1 [c.pv] rfl f2.src hone (by have := hc.lB; unfold maxLen; omega) (by have := hc.lB; omega) (by have := hc.hb; have := h.K.size; omega)
    refine opIn_value ho hg (by rw [hop]; simp) (v := v') (w' := w') (run_call_append hop e7 f1 hr) ?_
    rw [hdst]
    exact ⟨g5, g9, _, _, h.put10 (by omega) hc (dep_of (deps_get hD (i := 10) (j := 7) (by decide)) hi) (dep_of (deps_get hD (i := 10) (j := 6) (by decide)) hi) hno r1 r2 r4⟩
  · obtain ⟨o, ho, hg, hdst, hop⟩ := hS.o11
    have h10 := dep_of (deps_get hD (i := 11) (j := 10) (by decide)) hi
    have e6 := h.e6 (h.d10 h10)
    have hb := h.b8 hc hno
    obtain ⟨x1, x2, hx⟩ := owns_slice (h.s6 (h.d10 h10)).1
    refine opIn_skip ho hg (by rw [hop]; simp) (w' := w.setCell ⟨c.B8, 0, none⟩ vS') ?_ ?_
    · unfold execOp
      simp only [hop]
      rw [h.t8, e6, hx, Sem.run_bind, run_store_mat w c.B8 _ _ _ _ (hb.cell (i := 0) rfl) (hb.frozen 0)]; rfl
    · rw [hdst]; exact ⟨g5, g9, _, _, h.put11 (by omega) hc h10 hno⟩
  · obtain ⟨o, ho, hg, hdst, hop⟩ := hS.o12
    have h10 := dep_of (deps_get hD (i := 12) (j := 11) (by decide)) hi
    have e6 := h.e10 (h.d11 h10)
    have hb := h.b9 hc hno
    obtain ⟨x1, x2, hx⟩ := owns_slice (h.s10 (h.d11 h10)).1
    refine opIn_skip ho hg (by rw [hop]; simp) (w' := w.setCell ⟨c.B9, 0, none⟩ vB') ?_ ?_
    · unfold execOp
      simp only [hop]
      rw [h.t9, e6, hx, Sem.run_bind, run_store_mat w c.B9 _ _ _ _ (hb.cell (i := 0) rfl) (hb.frozen 0)]; rfl
    · rw [hdst]; exact ⟨g5, g9, _, _, h.put12 (by omega) hc h10 hno⟩

/-- What the region leaves. -/
structure RPost (c : RCtx) (vS' vB' : Value) (w : World) : Prop where
  K : Kept (fun k => c.vS.ownBlock = some k ∨ c.vB.ownBlock = some k ∨ k = c.B8 ∨ k = c.B9) c.W0 w
  oS : w.ownsRow c.base 26 1 vS' (c.xs.length + 1) (c.xs ++ [c.hdr])
  oB : w.ownsRow c.base 26 1 vB' (c.ys.length + 1) (c.ys ++ [c.pv])
  ne : ∀ g, vS'.ownBlock = some g → vB'.ownBlock = some g → False
  atS : ∀ g, vS'.ownBlock = some g → c.vS.ownBlock = some g ∨ c.W0.heap.size ≤ g
  atB : ∀ g, vB'.ownBlock = some g → c.vB.ownBlock = some g ∨ c.W0.heap.size ≤ g
  k8 : Blk w c.B8 44 [vS']
  k9 : Blk w c.B9 44 [vB']

theorem reg_post {c : RCtx} {ls : Array Bool} {a : Act} {w : World} (h : RInv c ls a w) (hall : ∀ i, i < 13 → ls.getD i false = true) : ∃ vS' vB', RPost c vS' vB' w := by
  obtain ⟨g5, g9, vS', vB', h⟩ := h
  have L : ∀ i, i < 13 → Ls ls i := hall
  obtain ⟨a1, a2⟩ := h.s6 (L 6 (by decide))
  obtain ⟨b1, b2, b3⟩ := h.s10 (L 10 (by decide))
  refine ⟨vS', vB', h.K.mono ?_, a1, b1, b3, a2, b2, h.c8 (L 11 (by decide)), h.c9 (L 12 (by decide))⟩
  rintro k _ (⟨_, x⟩ | ⟨_, x⟩ | ⟨_, x⟩ | ⟨_, x⟩)
  · exact Or.inl x
  · exact Or.inr (Or.inl x)
  · exact Or.inr (Or.inr (Or.inl x))
  · exact Or.inr (Or.inr (Or.inr x))

/-- The region, in every order. -/
theorem reg10 {c : RCtx} (hc : c.Ok) {ops : Array Oper} (hS : RShape ops) (hD : depsB ops = true) (hW : downB ops = true) {id l n : Nat} {Q : Exit → Act → World → Prop} {a : Act} {w : World} (hw0 : c.W0 = { w with drawn := w.drawn + 1 })
    (sz : 52 ≤ a.tmps.size) (t7 : a.eval (.tmp 7) = .pointer (some ⟨c.B7, 0, none⟩)) (t8 : a.eval (.tmp 8) = .pointer (some ⟨c.B8, 0, none⟩)) (t9 : a.eval (.tmp 9) = .pointer (some ⟨c.B9, 0, none⟩)) (t10 : a.eval (.tmp 10) = .int .i64 c.i) (t11 : a.eval (.tmp 11) = c.pv)
    (hQ : ∀ a' w' vS' vB', RPost c vS' vB' w' → Q .normal a' w') : (Code.region id ops true).wpIn (Fence.wide.inRound l) n Try.prog Q a w := by
  refine wpIn_region_any (by kernel_rfl) ?_
  rw [← hw0]
  have hnone : ∀ k, ¬ Ls (Array.replicate ops.size false) k := by
    intro k hk
    unfold Ls at hk
    rw [Array.getD_eq_getD_getElem?, Array.getElem?_replicate] at hk
    split at hk <;> simp at hk
  refine anyIn_inv (RInv c) (fun ls a w hI hsz i hi => reg_step hc hS hD ls a w hI hsz i hi) (fun ls a w hI hall => ?_) hW ops.size _ a _ (by simp) (by unfold cnt; simp [List.countP_replicate]) ?_
  · obtain ⟨vS', vB', hp⟩ := reg_post hI (by rw [← hS.size]; exact hall)
    exact hQ a w vS' vB' hp
  · exact ⟨0, 0, .slice none 0 0, .slice none 0 0, sz, t7, t8, t9, t10, t11, fun h => absurd h (hnone _), fun h => absurd h (hnone _), fun h => absurd h (hnone _), fun h => absurd h (hnone _), fun h => absurd h (hnone _), fun h => absurd h (hnone _), fun h => absurd h (hnone _), fun h => absurd h (hnone _), fun h => absurd h (hnone _), fun h => absurd h (hnone _), fun h => absurd h (hnone _), fun h => absurd h (hnone _), fun h => absurd h (hnone _), fun h => absurd h (hnone _), fun h => absurd h (hnone _), fun h => absurd h (hnone _), Kept.refl _ _, fun h => absurd h (hnone _), fun h => absurd h (hnone _), fun h => absurd h (hnone _), fun h => absurd h (hnone _)⟩
end Go.Proofs.Ytkclmfppjhmnjaa

namespace Go.Proofs.Ytkclmfppjhmnjaa
open Alg

/-- A square matrix of bytes. -/
structure Sq (n : Nat) (m : List (List Nat)) : Prop where
  rect : Rect n m
  len : m.length = n
  lo : 1 ≤ n
  hi : n ≤ 64

theorem Sq.row0 {n : Nat} {m : List (List Nat)} (h : Sq n m) : (m.getD 0 []).length = n := (h.rect.get (i := 0) (by rw [h.len]; exact h.lo)).1
theorem Sq.isMat {n : Nat} {m : List (List Nat)} (h : Sq n m) : isMat m := by
  refine ⟨by rw [h.len]; exact h.lo, by rw [h.len]; exact h.hi, by rw [h.row0]; exact h.lo, by rw [h.row0]; exact h.hi, fun r hr => ?_⟩
  rw [h.row0]; exact (h.rect r hr).1
theorem Sq.bytM {n : Nat} {m : List (List Nat)} (h : Sq n m) : BytM m := fun r hr => (h.rect r hr).2
theorem Sq.rankErr {n : Nat} {m : List (List Nat)} (h : Sq n m) : rankErr m = 0 := if_pos h.isMat
theorem Sq.rankOf {n : Nat} {m : List (List Nat)} (h : Sq n m) : rankOf m = (redTo m n).2 := by
  unfold Go.Proofs.Ytkclmfppjhmnjaa.rankOf; rw [if_pos h.isMat, h.row0]
theorem Sq.rank_le {n : Nat} {m : List (List Nat)} (h : Sq n m) : (redTo m n).2 ≤ n := by have := redTo_rank m n; rw [h.len] at this; exact this
theorem Sq.wide {n : Nat} {m : List (List Nat)} (h : Sq n m) : (redTo (wideM m) n).2 = (redTo m n).2 := by
  obtain ⟨P, B, _, _, e, _⟩ := inv_data h.rect h.len
  rw [e]
theorem Sq.invErr {n : Nat} {m : List (List Nat)} (h : Sq n m) : invErr m = if (redTo m n).2 = n then 0 else 17 := by
  unfold Go.Proofs.Ytkclmfppjhmnjaa.invErr
  rw [if_pos h.isMat, if_pos (by rw [h.row0, h.len]), h.len, h.wide]
  have := h.rank_le
  by_cases hr : (redTo m n).2 = n
  · rw [if_neg (by omega), if_pos hr]
  · rw [if_pos (by omega), if_neg hr]
theorem Sq.inv_zero {n : Nat} {m : List (List Nat)} (h : Sq n m) : Go.Proofs.Ytkclmfppjhmnjaa.invErr m = 0 ↔ (redTo m n).2 = n := by
  rw [h.invErr]
  by_cases hr : (redTo m n).2 = n
  · rw [if_pos hr]; exact ⟨fun _ => hr, fun _ => rfl⟩
  · rw [if_neg hr]; exact ⟨fun e => absurd e (by decide), fun e => absurd e hr⟩

/-- The inverse. -/
theorem Sq.inv {n : Nat} {m : List (List Nat)} (h : Sq n m) (h0 : Go.Proofs.Ytkclmfppjhmnjaa.invErr m = 0) : Sq n (invRows m) ∧ Eqv n n (mul n (ent (invRows m)) (ent m)) one ∧ Eqv n n (mul n (ent m) (ent (invRows m))) one := by
  obtain ⟨P, hP, hPl, e, h1, h2⟩ := inv_full h.rect h.len (h.inv_zero.1 h0)
  have hr : invRows m = P := by unfold invRows; rw [if_pos h0, h.len]; exact e
  rw [hr]
  exact ⟨⟨hP, hPl, h.lo, h.hi⟩, h1, h2⟩

theorem Sq.prodErr {n : Nat} {a b : List (List Nat)} (ha : Sq n a) (hb : Sq n b) : prodErr a b = 0 := by
  unfold Go.Proofs.Ytkclmfppjhmnjaa.prodErr; rw [if_pos ⟨ha.isMat, hb.isMat⟩, if_pos (by rw [ha.row0, hb.len])]
theorem Sq.prodRows {n : Nat} {a b : List (List Nat)} (ha : Sq n a) (hb : Sq n b) : prodRows a b = prodM a b := by
  unfold Go.Proofs.Ytkclmfppjhmnjaa.prodRows; rw [if_pos (ha.prodErr hb)]
theorem Sq.prod {n : Nat} {a b : List (List Nat)} (ha : Sq n a) (hb : Sq n b) : Sq n (prodM a b) := by
  refine ⟨fun r hr => ?_, by rw [prodM_length, ha.len], ha.lo, ha.hi⟩
  obtain ⟨row, _, rfl⟩ := List.mem_map.1 hr
  have hb0 : Rect (b.getD 0 []).length b := by rw [hb.row0]; exact hb.rect
  have := prTo_ok (row := row) hb0 b.length (Nat.le_refl _)
  rw [hb.row0] at this ⊢
  exact this
theorem Sq.prod_ent {n : Nat} {a b : List (List Nat)} (ha : Sq n a) (hb : Sq n b) : Eqv n n (ent (prodM a b)) (mul n (ent a) (ent b)) := fun i j hi hj =>
  ent_prod ha.rect hb.rect hb.len (by rw [ha.len]; exact hi) hj hb.row0

theorem Sq.idM {n : Nat} (h1 : 1 ≤ n) (h2 : n ≤ 64) : Sq n (idM n) := ⟨idM_rect n, idM_length n, h1, h2⟩
theorem Sq.ext {n : Nat} {a b : List (List Nat)} (ha : Sq n a) (hb : Sq n b) (h : Eqv n n (ent a) (ent b)) : a = b := ent_ext ha.rect hb.rect ha.len hb.len h

/-- A product has an inverse exactly if both factors have one. -/
theorem Sq.prod_inv {n : Nat} {a b : List (List Nat)} (ha : Sq n a) (hb : Sq n b) : Go.Proofs.Ytkclmfppjhmnjaa.invErr (prodM a b) = 0 ↔ (Go.Proofs.Ytkclmfppjhmnjaa.invErr a = 0 ∧ Go.Proofs.Ytkclmfppjhmnjaa.invErr b = 0) := by
  constructor
  · intro h
    obtain ⟨hz, z1, z2⟩ := (ha.prod hb).inv h
    have hp := ha.prod_ent hb
    constructor
    · rw [ha.inv_zero]
      refine full_of_right ha.rect ha.len (Y := mul n (ent b) (ent (invRows (prodM a b)))) fun i j hi hj => ?_
      rw [← mul_assoc, mul_congr (A' := ent (prodM a b)) (B' := ent (invRows (prodM a b))) (fun k hk => (hp i k hi hk).symm) (fun _ _ => rfl)]
      exact z2 i j hi hj
    · rw [hb.inv_zero]
      refine full_of_left hb.rect hb.len (X := mul n (ent (invRows (prodM a b))) (ent a)) fun i j hi hj => ?_
      rw [mul_assoc, mul_congr (A' := ent (invRows (prodM a b))) (B' := ent (prodM a b)) (fun _ _ => rfl) (fun k hk => (hp k j hk hj).symm)]
      exact z1 i j hi hj
  · rintro ⟨h1, h2⟩
    obtain ⟨hx, x1, x2⟩ := ha.inv h1
    obtain ⟨hy, y1, y2⟩ := hb.inv h2
    rw [(ha.prod hb).inv_zero]
    refine full_of_right (ha.prod hb).rect (ha.prod hb).len (Y := mul n (ent (invRows b)) (ent (invRows a))) fun i j hi hj => ?_
    rw [mul_congr (A' := mul n (ent a) (ent b)) (B' := mul n (ent (invRows b)) (ent (invRows a))) (fun k hk => ha.prod_ent hb i k hi hk) (fun _ _ => rfl), mul_assoc]
    have e1 : ∀ k, k < n → mul n (ent b) (mul n (ent (invRows b)) (ent (invRows a))) k j = ent (invRows a) k j := fun k hk => by
      rw [← mul_assoc, mul_congr (A' := one) (B' := ent (invRows a)) (fun l hl => y2 k l hk hl) (fun _ _ => rfl), one_mul hk]
    rw [mul_congr (A' := ent a) (B' := ent (invRows a)) (fun _ _ => rfl) e1]
    exact x2 i j hi hj

theorem Sq.inv_left {n : Nat} {a : List (List Nat)} (ha : Sq n a) (h : Go.Proofs.Ytkclmfppjhmnjaa.invErr a = 0) : prodM (invRows a) a = Go.Proofs.Ytkclmfppjhmnjaa.idM n := by
  obtain ⟨hx, x1, x2⟩ := ha.inv h
  exact (hx.prod ha).ext (Sq.idM ha.lo ha.hi) fun i j hi hj => by rw [hx.prod_ent ha i j hi hj, x1 i j hi hj, ent_id hi j hj]
theorem Sq.inv_right {n : Nat} {a : List (List Nat)} (ha : Sq n a) (h : Go.Proofs.Ytkclmfppjhmnjaa.invErr a = 0) : prodM a (invRows a) = Go.Proofs.Ytkclmfppjhmnjaa.idM n := by
  obtain ⟨hx, x1, x2⟩ := ha.inv h
  exact (ha.prod hx).ext (Sq.idM ha.lo ha.hi) fun i j hi hj => by rw [ha.prod_ent hx i j hi hj, x2 i j hi hj, ent_id hi j hj]

theorem Sq.inv_prod {n : Nat} {a b : List (List Nat)} (ha : Sq n a) (hb : Sq n b) (h : Go.Proofs.Ytkclmfppjhmnjaa.invErr (prodM a b) = 0) : invRows (prodM a b) = prodM (invRows b) (invRows a) := by
  obtain ⟨h1, h2⟩ := (ha.prod_inv hb).1 h
  obtain ⟨hx, x1, x2⟩ := ha.inv h1
  obtain ⟨hy, y1, y2⟩ := hb.inv h2
  obtain ⟨hz, z1, z2⟩ := (ha.prod hb).inv h
  refine hz.ext (hy.prod hx) fun i j hi hj => ?_
  rw [hy.prod_ent hx i j hi hj]
  -- z = z (ab) (yx) = yx
  have e0 : Eqv n n (mul n (ent (prodM a b)) (mul n (ent (invRows b)) (ent (invRows a)))) one := fun i j hi hj => by
    rw [mul_congr (A' := mul n (ent a) (ent b)) (B' := mul n (ent (invRows b)) (ent (invRows a))) (fun k hk => ha.prod_ent hb i k hi hk) (fun _ _ => rfl), mul_assoc]
    have e1 : ∀ k, k < n → mul n (ent b) (mul n (ent (invRows b)) (ent (invRows a))) k j = ent (invRows a) k j := fun k hk => by
      rw [← mul_assoc, mul_congr (A' := one) (B' := ent (invRows a)) (fun l hl => y2 k l hk hl) (fun _ _ => rfl), one_mul hk]
    rw [mul_congr (A' := ent a) (B' := ent (invRows a)) (fun _ _ => rfl) e1]
    exact x2 i j hi hj
  have e2 : mul n (ent (invRows (prodM a b))) (mul n (ent (prodM a b)) (mul n (ent (invRows b)) (ent (invRows a)))) i j = ent (invRows (prodM a b)) i j := by
    rw [mul_congr (A' := ent (invRows (prodM a b))) (B' := one) (fun _ _ => rfl) (fun k hk => e0 k j hk hj), mul_one hj]
  rw [← e2, ← mul_assoc, mul_congr (A' := one) (B' := mul n (ent (invRows b)) (ent (invRows a))) (fun k hk => z1 i k hi hk) (fun _ _ => rfl), one_mul hi]

end Go.Proofs.Ytkclmfppjhmnjaa

namespace Go.Proofs.Ytkclmfppjhmnjaa.Alg
open Go.Proofs.Ytkclmfppjhmnjaa

theorem S_add (a b : Nat) (f : Nat → G) : S (a + b) f = ga (S a f) (S b fun i => f (a + i)) := by
  induction b with
  | zero => exact (ga_zero _).symm
  | succ b ih => show ga (S (a + b) f) (f (a + b)) = ga (S a f) (ga (S b _) (f (a + b))); rw [ih, ga_assoc]

theorem nodup_le : ∀ {L A : List Nat}, L.Nodup → (∀ x ∈ L, x ∈ A) → L.length ≤ A.length
  | [], _, _, _ => Nat.zero_le _
  | x :: L, A, hn, hs => by
    have hx := hs x (by simp)
    have hn' := List.nodup_cons.1 hn
    have := nodup_le (L := L) (A := A.erase x) hn'.2 (fun y hy => (List.mem_erase_of_ne (by intro e; rw [e] at hy; exact hn'.1 hy)).2 (hs y (by simp [hy])))
    rw [List.length_erase_of_mem hx] at this
    have : 0 < A.length := List.length_pos_of_mem hx
    simp only [List.length_cons]
    omega

theorem filter_split (p : Nat → Bool) (l : List Nat) : l.length = (l.filter p).length + (l.filter fun x => !p x).length := by
  induction l with
  | nil => rfl
  | cons x l ih =>
    cases hx : p x <;> simp [hx] <;> omega

/-- Columns that are not in a short list: there are enough of them. -/
theorem free_cols (d : Nat) (A : List Nat) : ∃ K : List Nat, K.Nodup ∧ (∀ j ∈ K, j < d ∧ j ∉ A) ∧ d ≤ K.length + A.length := by
  refine ⟨(List.range d).filter fun j => decide (j ∉ A), List.Pairwise.filter _ List.nodup_range, fun j hj => ?_, ?_⟩
  · rw [List.mem_filter, List.mem_range] at hj
    exact ⟨hj.1, by simpa using hj.2⟩
  · have h1 : ((List.range d).filter fun j => decide (j ∈ A)).length ≤ A.length := nodup_le (List.Pairwise.filter _ List.nodup_range) fun x hx => by
      rw [List.mem_filter] at hx
      simpa using hx.2
    have h2 := filter_split (fun j => decide (j ∈ A)) (List.range d)
    rw [List.length_range] at h2
    have h3 : ((List.range d).filter fun j => !decide (j ∈ A)) = (List.range d).filter fun j => decide (j ∉ A) := by
      congr 1; funext j; simp
    rw [h3] at h2
    omega

theorem split_at (d : Nat) (s : Nat → Nat) (c : Nat) (hs : ∀ i j, i < j → j < d → s i < s j) : ∃ a, a ≤ d ∧ (∀ i, i < a → s i < c) ∧ ∀ i, a ≤ i → i < d → c ≤ s i := by
  induction d with
  | zero => exact ⟨0, Nat.le_refl _, fun i hi => by omega, fun i _ hi => by omega⟩
  | succ d ih =>
    obtain ⟨a, h1, h2, h3⟩ := ih fun i j hij hj => hs i j hij (by omega)
    by_cases ha : a = d
    · by_cases hd : s d < c
      · refine ⟨d + 1, Nat.le_refl _, fun i hi => ?_, fun i hi hi' => by omega⟩
        by_cases hid : i = d
        · rw [hid]; exact hd
        · exact h2 i (by omega)
      · refine ⟨d, by omega, fun i hi => h2 i (by omega), fun i hi hi' => ?_⟩
        have hid : i = d := by omega
        rw [hid]; omega
    · refine ⟨a, by omega, h2, fun i hi hi' => ?_⟩
      by_cases hid : i = d
      · have h4 := h3 a (Nat.le_refl _) (by omega)
        have h5 := hs a i (by omega) (by omega)
        omega
      · exact h3 i hi (by omega)

theorem rows_indep {d r : Nat} (hN : d + r ≤ 64) {s : Nat → Nat} (hs : ∀ i j, i < j → j < d → s i < s j) (hlt : ∀ i, i < d → s i < d + r) {M : Mt}
    (hI : ∀ i j, i < d → j < d → s i < d → M i j = if s i = j then g1 else g0) (hC : ∀ i j, i < d → j < d → d ≤ s i → M i j = gv (ga (tg (s i - d)) (tg (r + j))))
    (u : Nat → G) (hu : ∀ j, j < d → S d (fun i => gx (u i) (M i j)) = g0) : ∀ i, i < d → u i = g0 := by
  obtain ⟨a, ha, h1, h2⟩ := split_at d s d hs
  have inj : ∀ i j, i < d → j < d → s i = s j → i = j := by
    intro i j hi hj e
    rcases Nat.lt_trichotomy i j with h | h | h
    · have := hs i j h hj; omega
    · exact h
    · have := hs j i h hi; omega
  obtain ⟨K, hK1, hK2, hK3⟩ := free_cols d ((List.range a).map s)
  rw [List.length_map, List.length_range] at hK3
  have hKg : ∀ t, t < d - a → K.getD t 0 < d ∧ ∀ i, i < a → s i ≠ K.getD t 0 := by
    intro t ht
    have hm : K.getD t 0 ∈ K := by rw [List.getD_eq_getElem?_getD, List.getElem?_eq_getElem (by omega)]; exact List.getElem_mem _
    obtain ⟨q1, q2⟩ := hK2 _ hm
    exact ⟨q1, fun i hi e => q2 (List.mem_map.2 ⟨i, List.mem_range.2 hi, e⟩)⟩
  have hB : ∀ i, i < d - a → u (a + i) = g0 := by
    refine cauchy_indep (d - a) (fun i => tg (s (a + i) - d)) (fun t => tg (r + K.getD t 0)) (fun i => u (a + i)) ?_ ?_ ?_ ?_
    · intro i j hi hj e
      have b1 := hlt (a + i) (by omega)
      have b2 := hlt (a + j) (by omega)
      have b3 := h2 (a + i) (by omega) (by omega)
      have b4 := h2 (a + j) (by omega) (by omega)
      have := tg_inj (by omega) (by omega) e
      have := inj (a + i) (a + j) (by omega) (by omega) (by omega)
      omega
    · intro i j hi hj e
      have b1 := (hKg i hi).1
      have b2 := (hKg j hj).1
      have := tg_inj (by omega) (by omega) e
      exact nodup_get hK1 (by omega) (by omega) (by omega)
    · intro i j hi hj e
      have b1 := hlt (a + i) (by omega)
      have b3 := h2 (a + i) (by omega) (by omega)
      have b2 := (hKg j hj).1
      have := tg_inj (by omega) (by omega) (ga_eq_zero e)
      omega
    · intro t ht
      obtain ⟨q1, q2⟩ := hKg t ht
      have := hu (K.getD t 0) q1
      rw [show d = a + (d - a) by omega, S_add, S_zero (n := a) (fun i hi => by rw [hI i _ (by omega) (by omega) (h1 i hi), if_neg (q2 i hi), gx_zero]), zero_ga] at this
      rw [← this]
      exact S_congr fun i hi => by rw [hC (a + i) _ (by omega) q1 (h2 (a + i) (by omega) (by omega))]
  intro i hi
  by_cases hia : i < a
  · have hsi := h1 i hia
    have := hu (s i) hsi
    have e : S d (fun k => gx (u k) (M k (s i))) = S d fun k => if k = i then u k else g0 := by
      refine S_congr fun k hk => ?_
      by_cases hka : k < a
      · rw [hI k _ hk hsi (h1 k hka)]
        by_cases hki : k = i
        · rw [if_pos (by rw [hki]), if_pos hki, gx_one]
        · rw [if_neg (fun e => hki (inj k i hk hi e)), if_neg hki, gx_zero]
      · have h0 := hB (k - a) (by omega)
        rw [show a + (k - a) = k by omega] at h0
        rw [h0, zero_gx]
        split <;> rfl
    rw [e, S_one hi] at this
    exact this
  · have h0 := hB (i - a) (by omega)
    rw [show a + (i - a) = i by omega] at h0
    exact h0

theorem ent_rows {d r i j : Nat} (hN : d + r ≤ 64) (hi : i < d + r) (hj : j < d) : ent (rowsM d r) i j = if i < d then (if i = j then g1 else g0) else gv (ga (tg (i - d)) (tg (r + j))) := by
  unfold ent rowsM
  by_cases h : i < d
  · have e0 : (idM d ++ cauM r d).getD i [] = (idM d).getD i [] := by rw [List.getD_eq_getElem?_getD, List.getD_eq_getElem?_getD, List.getElem?_append_left (by rw [idM_length]; exact h)]
    rw [if_pos h, e0]
    exact ent_id h j hj
  · have e : (cauM r d)[i - d]? = some (cauRow r d (i - d)) := by unfold cauM; rw [List.getElem?_map, List.getElem?_range (by omega)]; rfl
    have e0 : (idM d ++ cauM r d).getD i [] = cauRow r d (i - d) := by rw [List.getD_eq_getElem?_getD, List.getElem?_append_right (by rw [idM_length]; omega), idM_length, e]; rfl
    rw [if_neg h, e0, List.getD_eq_getElem?_getD]
    have e2 : (cauRow r d (i - d))[j]? = some (Gf.gi ((i - d) ^^^ (r + j))) := by simp [cauRow, hj]
    rw [e2, Option.getD_some, tg_gi (Gf.xor_lt (by omega) (by omega)), tg_xor (by omega) (by omega)]

/-- Any d rows, in order, have full rank. -/
theorem sel_full {d r : Nat} (hN : d + r ≤ 64) {sel : List Nat} (hl : sel.length = d) (hs : ∀ i j, i < j → j < d → sel.getD i 0 < sel.getD j 0) (hlt : ∀ i, i < d → sel.getD i 0 < d + r) (hR : Rect d (sel.map fun i => (rowsM d r).getD i [])) : (redTo (sel.map fun i => (rowsM d r).getD i []) d).2 = d := by
  have he : ∀ i j, i < d → ent (sel.map fun i => (rowsM d r).getD i []) i j = ent (rowsM d r) (sel.getD i 0) j := by
    intro i j hi
    have e0 : (sel.map fun i => (rowsM d r).getD i []).getD i [] = (rowsM d r).getD (sel.getD i 0) [] := by
      rw [List.getD_eq_getElem?_getD, List.getElem?_map, List.getElem?_eq_getElem (by omega), Option.map_some, Option.getD_some]
      congr 1
      rw [List.getD_eq_getElem?_getD, List.getElem?_eq_getElem (by omega)]
      rfl
    unfold ent
    rw [e0]
  refine full_of_indep hR (by rw [List.length_map, hl]) fun u hu => ?_
  refine rows_indep hN hs hlt (M := ent (sel.map fun i => (rowsM d r).getD i [])) ?_ ?_ u hu
  · intro i j hi hj hsi
    rw [he i j hi, ent_rows hN (hlt i hi) hj, if_pos hsi]
  · intro i j hi hj hsi
    rw [he i j hi, ent_rows hN (hlt i hi) hj, if_neg (by omega)]
end Go.Proofs.Ytkclmfppjhmnjaa.Alg
