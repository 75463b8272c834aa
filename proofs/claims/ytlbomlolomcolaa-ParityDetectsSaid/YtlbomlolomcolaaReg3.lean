/- The region of parity.whole that appends to two slices: what it leaves, in every order. -/
import Derived.Test.YtlbomlolomcolaaReg2
namespace Go.Proofs.Ytlbomlolomcolaa
open Go.RowKit Go.Shelf

theorem run_load_mat (w : World) (b k : Nat) (v : Value) (h : w.cell? ⟨b, k, none⟩ = some v) : (Instr.loadAt 39 (.pointer (some ⟨b, k, none⟩))).run Try.prog w = .ok v w := by go_simp
theorem run_load_bytes (w : World) (b k : Nat) (v : Value) (h : w.cell? ⟨b, k, none⟩ = some v) : (Instr.loadAt 26 (.pointer (some ⟨b, k, none⟩))).run Try.prog w = .ok v w := by go_simp
theorem run_store_mat (w : World) (b : Nat) (a : Option Addr) (n c : Nat) (v : Value) (h : w.cell? ⟨b, 0, none⟩ = some v) (hf : w.frozen? ⟨b, 0, none⟩ = false) : (Instr.storeAt 39 (.pointer (some ⟨b, 0, none⟩)) (.slice a n c)).run Try.prog w = .ok () (w.setCell ⟨b, 0, none⟩ (.slice a n c)) := by go_simp
theorem run_index_mat (w : World) (b N cap i : Nat) (h : i < N) (_hN : N ≤ 1000) : (Instr.indexAt 39 (.slice (some ⟨b, 0, none⟩) N cap) (.int .i64 i)).run Try.prog w = .ok (.pointer (some ⟨b, i, none⟩)) w := by go_simp
theorem run_build_mat (w : World) (a : Option Addr) (n c : Nat) : (Instr.buildSlice 39 1 #[(0, .slice a n c)]).run Try.prog w = .ok (.slice (some ⟨w.heap.size, 0, none⟩) 1 1) (w.alloc (.cells #[.slice a n c] 26)) := by go_simp

/-- The operations. -/
structure RShape (ops : Array Oper) : Prop where
  size : ops.size = 13
  o0 : ∃ o, ops[0]? = some o ∧ o.guard = none ∧ o.dst = some 41 ∧ o.op = .load 39 (.tmp 8)
  o1 : ∃ o, ops[1]? = some o ∧ o.guard = none ∧ o.dst = some 42 ∧ o.op = .load 39 (.tmp 7)
  o2 : ∃ o, ops[2]? = some o ∧ o.guard = none ∧ o.dst = some 43 ∧ o.op = .move (.tmp 10)
  o3 : ∃ o, ops[3]? = some o ∧ o.guard = none ∧ o.dst = some 44 ∧ o.op = .indexAddr 39 (.tmp 42) (.tmp 43)
  o4 : ∃ o, ops[4]? = some o ∧ o.guard = none ∧ o.dst = some 45 ∧ o.op = .load 26 (.tmp 44)
  o5 : ∃ o, ops[5]? = some o ∧ o.guard = none ∧ o.dst = some 46 ∧ o.op = .buildSlice 39 1 #[(0, .tmp 45)]
  o6 : ∃ o, ops[6]? = some o ∧ o.guard = none ∧ o.dst = some 47 ∧ o.op = .call { callee := .builtin .append, args := #[.tmp 41, .tmp 46], argTypes := #[39, 39] }
  o7 : ∃ o, ops[7]? = some o ∧ o.guard = none ∧ o.dst = some 48 ∧ o.op = .load 39 (.tmp 9)
  o8 : ∃ o, ops[8]? = some o ∧ o.guard = none ∧ o.dst = some 49 ∧ o.op = .move (.tmp 11)
  o9 : ∃ o, ops[9]? = some o ∧ o.guard = none ∧ o.dst = some 50 ∧ o.op = .buildSlice 39 1 #[(0, .tmp 49)]
  o10 : ∃ o, ops[10]? = some o ∧ o.guard = none ∧ o.dst = some 51 ∧ o.op = .call { callee := .builtin .append, args := #[.tmp 48, .tmp 50], argTypes := #[39, 39] }
  o11 : ∃ o, ops[11]? = some o ∧ o.guard = none ∧ o.dst = none ∧ o.op = .store 39 (.tmp 8) (.tmp 47)
  o12 : ∃ o, ops[12]? = some o ∧ o.guard = none ∧ o.dst = none ∧ o.op = .store 39 (.tmp 9) (.tmp 51)

def depB (ops : Array Oper) (i j : Nat) : Bool := ((ops[i]?).map (·.after.any fun e => Region.binds .any e && e.on == j)).getD false
def depsB (ops : Array Oper) : Bool := [(3, 1), (3, 2), (4, 3), (5, 4), (6, 0), (6, 5), (9, 8), (10, 7), (10, 9), (10, 6), (11, 10), (12, 11)].all fun p => depB ops p.1 p.2

theorem dep_of {ops : Array Oper} {ls : Array Bool} {i j : Nat} (hd : depB ops i j = true) (hi : i ∈ Region.ready .any ops ls) : Ls ls j := by
  obtain ⟨o, ho, _, h⟩ := ready_mem hi
  unfold depB at hd
  rw [ho] at hd
  simp only [Option.map_some, Option.getD_some, Array.any_eq_true'] at hd
  obtain ⟨e, he, hb⟩ := hd
  simp only [Bool.and_eq_true, beq_iff_eq] at hb
  have := h e he hb.1
  rw [hb.2] at this
  exact this
theorem deps_get {ops : Array Oper} (h : depsB ops = true) {i j : Nat} (hm : (i, j) ∈ [(3, 1), (3, 2), (4, 3), (5, 4), (6, 0), (6, 5), (9, 8), (10, 7), (10, 9), (10, 6), (11, 10), (12, 11)]) : depB ops i j = true := by
  unfold depsB at h
  rw [List.all_eq_true] at h
  exact h (i, j) hm

def RInv (c : RCtx) (ls : Array Bool) (a : Act) (w : World) : Prop := ∃ g5 g9 vS' vB', RI c ls a w g5 g9 vS' vB'

theorem owns_slice {w : World} {B T n : Nat} {v : Value} {xs : List Value} (h : w.ownsRow B T 1 v n xs) : ∃ a c, v = .slice a n c := by
  rcases h.2 with ⟨rfl, hl⟩ | ⟨g, cg, cur, rfl, _⟩
  · exact ⟨none, 0, by rw [hl]⟩
  · exact ⟨_, cg, rfl⟩

theorem run_call_append {w w' : World} {o : Oper} {ρ : Operand → Value} {x y : Operand} {vx vy v' : Value} (ho : o.op = .call { callee := .builtin .append, args := #[x, y], argTypes := #[39, 39] }) (hx : ρ x = vx) (hy : ρ y = vy)
    (hr : (Builtin.append_ #[39, 39] o.type #[vx, vy]).run Try.prog w = .ok v' w') : (execOp ρ o).run Try.prog w = .ok (.value v') w' := by
  unfold execOp
  simp only [ho, resolve, invoke, builtin, Sem.run_bind, Sem.run_pure, Result.andThen_ok, List.map_toArray, List.map_cons, List.map_nil, hx, hy, hr]

set_option maxHeartbeats 1000000 in
theorem reg_step {c : RCtx} (hc : c.Ok) {ops : Array Oper} (hS : RShape ops) (hD : depsB ops = true) {l n : Nat} {Q : Exit → Act → World → Prop} (ls : Array Bool) (a : Act) (w : World) (hI : RInv c ls a w) (hsz : ls.size = ops.size) (i : Nat) (hi : i ∈ Region.ready .any ops ls) :
    wpOpIn (Fence.wide.inRound l) n Try.prog ops Q i (RInv c (ls.setIfInBounds i true)) a w := by
  obtain ⟨g5, g9, vS', vB', h⟩ := hI
  obtain ⟨_, ho', hl', _⟩ := ready_mem hi
  have hlt := (Array.getElem?_eq_some_iff.1 ho').1
  have hno := Ls.no hl'
  rw [hS.size] at hlt hsz
  clear ho' hl'
  have hcases : i = 0 ∨ i = 1 ∨ i = 2 ∨ i = 3 ∨ i = 4 ∨ i = 5 ∨ i = 6 ∨ i = 7 ∨ i = 8 ∨ i = 9 ∨ i = 10 ∨ i = 11 ∨ i = 12 := by omega
  rcases hcases with rfl | rfl | rfl | rfl | rfl | rfl | rfl | rfl | rfl | rfl | rfl | rfl | rfl
  · obtain ⟨o, ho, hg, hdst, hop⟩ := hS.o0
    have hc8 := (h.b8 hc (fun x => hno (h.d6 (h.d10 (h.d11 x))))).cell (i := 0) rfl
    refine opIn_value ho hg (by rw [hop]; simp) (v := c.vS) (w' := w) ?_ ?_
    · unfold execOp
      simp only [hop]
      rw [h.t8, Sem.run_bind, run_load_mat w c.B8 0 _ hc8]; rfl
    · rw [hdst]; exact ⟨g5, g9, _, _, h.put0 (by omega)⟩
  · obtain ⟨o, ho, hg, hdst, hop⟩ := hS.o1
    have hn7 : ¬ RK c ls c.B7 := by
      rintro (⟨_, x⟩ | ⟨_, x⟩ | ⟨_, x⟩ | ⟨_, x⟩)
      · exact absurd (owns_type' hc.oS x hc.k7) (by decide)
      · exact absurd (owns_type' hc.oB x hc.k7) (by decide)
      · exact hc.n78 x
      · exact hc.n79 x
    have hc7 := h.cell (q := ⟨c.B7, 0, none⟩) hc.c7 hn7
    refine opIn_value ho hg (by rw [hop]; simp) (v := (.slice (some ⟨c.bR, 0, none⟩) c.N c.capR)) (w' := w) ?_ ?_
    · unfold execOp
      simp only [hop]
      rw [h.t7, Sem.run_bind, run_load_mat w c.B7 0 _ hc7]; rfl
    · rw [hdst]; exact ⟨g5, g9, _, _, h.put1 (by omega)⟩
  · obtain ⟨o, ho, hg, hdst, hop⟩ := hS.o2
    refine opIn_value ho hg (by rw [hop]; simp) (v := (.int .i64 c.i)) (w' := w) ?_ ?_
    · unfold execOp
      simp only [hop]
      rw [h.t10]; rfl
    · rw [hdst]; exact ⟨g5, g9, _, _, h.put2 (by omega)⟩
  · obtain ⟨o, ho, hg, hdst, hop⟩ := hS.o3
    have e1 := h.e1 (dep_of (deps_get hD (i := 3) (j := 1) (by decide)) hi)
    have e2 := h.e2 (dep_of (deps_get hD (i := 3) (j := 2) (by decide)) hi)
    refine opIn_value ho hg (by rw [hop]; simp) (v := (.pointer (some ⟨c.bR, c.i, none⟩))) (w' := w) ?_ ?_
    · unfold execOp
      simp only [hop]
      rw [e1, e2, Sem.run_bind, run_index_mat w c.bR c.N c.capR c.i hc.iN hc.lN]; rfl
    · rw [hdst]; exact ⟨g5, g9, _, _, h.put3 (by omega)⟩
  · obtain ⟨o, ho, hg, hdst, hop⟩ := hS.o4
    have e3 := h.e3 (dep_of (deps_get hD (i := 4) (j := 3) (by decide)) hi)
    have hnR : ¬ RK c ls c.bR := by
      obtain ⟨xs, tR⟩ := hc.tR
      rintro (⟨_, x⟩ | ⟨_, x⟩ | ⟨_, x⟩ | ⟨_, x⟩)
      · exact hc.nS x
      · exact hc.nB x
      · rw [x] at tR; exact absurd (tR.type hc.k8) (by decide)
      · rw [x] at tR; exact absurd (tR.type hc.k9) (by decide)
    have hcR := h.cell (q := ⟨c.bR, c.i, none⟩) hc.cR hnR
    refine opIn_value ho hg (by rw [hop]; simp) (v := c.hdr) (w' := w) ?_ ?_
    · unfold execOp
      simp only [hop]
      rw [e3, Sem.run_bind, run_load_bytes w c.bR c.i _ hcR]; rfl
    · rw [hdst]; exact ⟨g5, g9, _, _, h.put4 (by omega)⟩
  · obtain ⟨o, ho, hg, hdst, hop⟩ := hS.o5
    have e4 := h.e4 (dep_of (deps_get hD (i := 5) (j := 4) (by decide)) hi)
    obtain ⟨x1, x2, x3, hx⟩ := hc.fh
    refine opIn_value ho hg (by rw [hop]; simp) (v := (.slice (some ⟨w.heap.size, 0, none⟩) 1 1)) (w' := (w.alloc (.cells #[c.hdr] 26))) ?_ ?_
    · unfold execOp
      simp only [hop, List.map_toArray, List.map_cons, List.map_nil, e4, hx]
      rw [Sem.run_bind, run_build_mat]; rfl
    · rw [hdst]; exact ⟨w.heap.size, g9, _, _, h.put5 (by omega)⟩
  · obtain ⟨o, ho, hg, hdst, hop⟩ := hS.o6
    obtain ⟨j0, gi, gz0, gz1, gz2⟩ := info_parts infoBytes
    have e0 := h.e0 (dep_of (deps_get hD (i := 6) (j := 0) (by decide)) hi)
    obtain ⟨f1, f2, f3⟩ := h.e5 (dep_of (deps_get hD (i := 6) (j := 5) (by decide)) hi)
    have hone : ∀ u ∈ [c.hdr], u.oneCell' = true := by intro u hu; rw [List.mem_singleton] at hu; rw [hu]; exact hc.oh
    obtain ⟨v', w', hr, r1, r2, _, r4⟩ := run_append_own_at (P := Try.prog) w c.base 39 o.type 26 j0 (.slice none 0 0) 1 24 Try.underlying39 gi gz0 gz1 gz2 rfl (by decide) c.vS c.xs.length c.xs (h.own6 hc hno) ⟨g5, 0, none⟩ 1 1 [c.hdr] rfl f2.src hone (by have := hc.lS; unfold maxLen; omega) (by have := hc.lS; omega) (by have := hc.hb; have := h.K.size; omega)
    refine opIn_value ho hg (by rw [hop]; simp) (v := v') (w' := w') (run_call_append hop e0 f1 hr) ?_
    rw [hdst]
    exact ⟨g5, g9, _, _, h.put6 (by omega) hc (dep_of (deps_get hD (i := 6) (j := 0) (by decide)) hi) hno r1 r2 r4⟩
  · obtain ⟨o, ho, hg, hdst, hop⟩ := hS.o7
    have hc9 := (h.b9 hc (fun x => hno (h.d107 (h.d11 (h.d12 x))))).cell (i := 0) rfl
    refine opIn_value ho hg (by rw [hop]; simp) (v := c.vB) (w' := w) ?_ ?_
    · unfold execOp
      simp only [hop]
      rw [h.t9, Sem.run_bind, run_load_mat w c.B9 0 _ hc9]; rfl
    · rw [hdst]; exact ⟨g5, g9, _, _, h.put7 (by omega)⟩
  · obtain ⟨o, ho, hg, hdst, hop⟩ := hS.o8
    refine opIn_value ho hg (by rw [hop]; simp) (v := c.pv) (w' := w) ?_ ?_
    · unfold execOp
      simp only [hop]
      rw [h.t11]; rfl
    · rw [hdst]; exact ⟨g5, g9, _, _, h.put8 (by omega)⟩
  · obtain ⟨o, ho, hg, hdst, hop⟩ := hS.o9
    have e4 := h.e8 (dep_of (deps_get hD (i := 9) (j := 8) (by decide)) hi)
    obtain ⟨x1, x2, x3, hx⟩ := hc.fp
    refine opIn_value ho hg (by rw [hop]; simp) (v := (.slice (some ⟨w.heap.size, 0, none⟩) 1 1)) (w' := (w.alloc (.cells #[c.pv] 26))) ?_ ?_
    · unfold execOp
      simp only [hop, List.map_toArray, List.map_cons, List.map_nil, e4, hx]
      rw [Sem.run_bind, run_build_mat]; rfl
    · rw [hdst]; exact ⟨g5, w.heap.size, _, _, h.put9 (by omega)⟩
  · obtain ⟨o, ho, hg, hdst, hop⟩ := hS.o10
    obtain ⟨j0, gi, gz0, gz1, gz2⟩ := info_parts infoBytes
    have e7 := h.e7 (dep_of (deps_get hD (i := 10) (j := 7) (by decide)) hi)
    obtain ⟨f1, f2, f3⟩ := h.e9 (dep_of (deps_get hD (i := 10) (j := 9) (by decide)) hi)
    have hone : ∀ u ∈ [c.pv], u.oneCell' = true := by intro u hu; rw [List.mem_singleton] at hu; rw [hu]; exact hc.op
    obtain ⟨v', w', hr, r1, r2, _, r4⟩ := run_append_own_at (P := Try.prog) w c.base 39 o.type 26 j0 (.slice none 0 0) 1 24 Try.underlying39 gi gz0 gz1 gz2 rfl (by decide) c.vB c.ys.length c.ys (h.own10 hc hno) ⟨g9, 0, none⟩ 1 1 [c.pv] rfl f2.src hone (by have := hc.lB; unfold maxLen; omega) (by have := hc.lB; omega) (by have := hc.hb; have := h.K.size; omega)
    refine opIn_value ho hg (by rw [hop]; simp) (v := v') (w' := w') (run_call_append hop e7 f1 hr) ?_
    rw [hdst]
    exact ⟨g5, g9, _, _, h.put10 (by omega) hc (dep_of (deps_get hD (i := 10) (j := 7) (by decide)) hi) (dep_of (deps_get hD (i := 10) (j := 6) (by decide)) hi) hno r1 r2 r4⟩
  · obtain ⟨o, ho, hg, hdst, hop⟩ := hS.o11
    have h10 := dep_of (deps_get hD (i := 11) (j := 10) (by decide)) hi
    have e6 := h.e6 (h.d10 h10)
    have hb := h.b8 hc hno
    obtain ⟨x1, x2, hx⟩ := owns_slice (h.s6 (h.d10 h10)).1
    refine opIn_skip ho hg (by rw [hop]; simp) (w' := w.setCell ⟨c.B8, 0, none⟩ vS') ?_ ?_
    · unfold execOp
      simp only [hop]
      rw [h.t8, e6, hx, Sem.run_bind, run_store_mat w c.B8 _ _ _ _ (hb.cell (i := 0) rfl) (hb.frozen 0)]; rfl
    · rw [hdst]; exact ⟨g5, g9, _, _, h.put11 (by omega) hc h10 hno⟩
  · obtain ⟨o, ho, hg, hdst, hop⟩ := hS.o12
    have h10 := dep_of (deps_get hD (i := 12) (j := 11) (by decide)) hi
    have e6 := h.e10 (h.d11 h10)
    have hb := h.b9 hc hno
    obtain ⟨x1, x2, hx⟩ := owns_slice (h.s10 (h.d11 h10)).1
    refine opIn_skip ho hg (by rw [hop]; simp) (w' := w.setCell ⟨c.B9, 0, none⟩ vB') ?_ ?_
    · unfold execOp
      simp only [hop]
      rw [h.t9, e6, hx, Sem.run_bind, run_store_mat w c.B9 _ _ _ _ (hb.cell (i := 0) rfl) (hb.frozen 0)]; rfl
    · rw [hdst]; exact ⟨g5, g9, _, _, h.put12 (by omega) hc h10 hno⟩

/-- What the region leaves. -/
structure RPost (c : RCtx) (vS' vB' : Value) (w : World) : Prop where
  K : Kept (fun k => c.vS.ownBlock = some k ∨ c.vB.ownBlock = some k ∨ k = c.B8 ∨ k = c.B9) c.W0 w
  oS : w.ownsRow c.base 26 1 vS' (c.xs.length + 1) (c.xs ++ [c.hdr])
  oB : w.ownsRow c.base 26 1 vB' (c.ys.length + 1) (c.ys ++ [c.pv])
  ne : ∀ g, vS'.ownBlock = some g → vB'.ownBlock = some g → False
  atS : ∀ g, vS'.ownBlock = some g → c.vS.ownBlock = some g ∨ c.W0.heap.size ≤ g
  atB : ∀ g, vB'.ownBlock = some g → c.vB.ownBlock = some g ∨ c.W0.heap.size ≤ g
  k8 : Blk w c.B8 39 [vS']
  k9 : Blk w c.B9 39 [vB']

theorem reg_post {c : RCtx} {ls : Array Bool} {a : Act} {w : World} (h : RInv c ls a w) (hall : ∀ i, i < 13 → ls.getD i false = true) : ∃ vS' vB', RPost c vS' vB' w := by
  obtain ⟨g5, g9, vS', vB', h⟩ := h
  have L : ∀ i, i < 13 → Ls ls i := hall
  obtain ⟨a1, a2⟩ := h.s6 (L 6 (by decide))
  obtain ⟨b1, b2, b3⟩ := h.s10 (L 10 (by decide))
  refine ⟨vS', vB', h.K.mono ?_, a1, b1, b3, a2, b2, h.c8 (L 11 (by decide)), h.c9 (L 12 (by decide))⟩
  rintro k _ (⟨_, x⟩ | ⟨_, x⟩ | ⟨_, x⟩ | ⟨_, x⟩)
  · exact Or.inl x
  · exact Or.inr (Or.inl x)
  · exact Or.inr (Or.inr (Or.inl x))
  · exact Or.inr (Or.inr (Or.inr x))

/-- The region, in every order. -/
theorem reg10 {c : RCtx} (hc : c.Ok) {ops : Array Oper} (hS : RShape ops) (hD : depsB ops = true) (hW : downB ops = true) {id l n : Nat} {Q : Exit → Act → World → Prop} {a : Act} {w : World} (hw0 : c.W0 = { w with drawn := w.drawn + 1 })
    (sz : 52 ≤ a.tmps.size) (t7 : a.eval (.tmp 7) = .pointer (some ⟨c.B7, 0, none⟩)) (t8 : a.eval (.tmp 8) = .pointer (some ⟨c.B8, 0, none⟩)) (t9 : a.eval (.tmp 9) = .pointer (some ⟨c.B9, 0, none⟩)) (t10 : a.eval (.tmp 10) = .int .i64 c.i) (t11 : a.eval (.tmp 11) = c.pv)
    (hQ : ∀ a' w' vS' vB', RPost c vS' vB' w' → Q .normal a' w') : (Code.region id ops true).wpIn (Fence.wide.inRound l) n Try.prog Q a w := by
  refine wpIn_region_any (by kernel_rfl) ?_
  rw [← hw0]
  have hnone : ∀ k, ¬ Ls (Array.replicate ops.size false) k := by
    intro k hk
    unfold Ls at hk
    rw [Array.getD_eq_getD_getElem?, Array.getElem?_replicate] at hk
    split at hk <;> simp at hk
  refine anyIn_inv (RInv c) (fun ls a w hI hsz i hi => reg_step hc hS hD ls a w hI hsz i hi) (fun ls a w hI hall => ?_) hW ops.size _ a _ (by simp) (by unfold cnt; simp [List.countP_replicate]) ?_
  · obtain ⟨vS', vB', hp⟩ := reg_post hI (by rw [← hS.size]; exact hall)
    exact hQ a w vS' vB' hp
  · exact ⟨0, 0, .slice none 0 0, .slice none 0 0, sz, t7, t8, t9, t10, t11, fun h => absurd h (hnone _), fun h => absurd h (hnone _), fun h => absurd h (hnone _), fun h => absurd h (hnone _), fun h => absurd h (hnone _), fun h => absurd h (hnone _), fun h => absurd h (hnone _), fun h => absurd h (hnone _), fun h => absurd h (hnone _), fun h => absurd h (hnone _), fun h => absurd h (hnone _), fun h => absurd h (hnone _), fun h => absurd h (hnone _), fun h => absurd h (hnone _), fun h => absurd h (hnone _), fun h => absurd h (hnone _), Kept.refl _ _, fun h => absurd h (hnone _), fun h => absurd h (hnone _), fun h => absurd h (hnone _), fun h => absurd h (hnone _)⟩
end Go.Proofs.Ytlbomlolomcolaa
