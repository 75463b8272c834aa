/- The contract of parity.Check. -/
import Derived.Test.YtlbomlolomcolaaPar1
import Derived.Test.YtlbomlolomcolaaPar3
import Derived.Outline
namespace Go.Proofs.Ytlbomlolomcolaa
open Go.RowKit Go.Shelf

attribute [local go_sem] Oper.semAt_some

def longB (parts : List (List Nat)) : Bool := (List.range parts.length).any fun i => decide (65536 < plen parts i)
def misB (parts : List (List Nat)) : Bool := (List.range parts.length).any fun i => (List.range parts.length).any fun j => decide (1 ≤ plen parts i ∧ 1 ≤ plen parts j ∧ plen parts i ≠ plen parts j)
/-- What Check returns. -/
def parErr (parts : List (List Nat)) (data : Int) : Nat :=
  if parts.length < 1 ∨ 64 < parts.length then 6 else if data < 1 ∨ (parts.length : Int) < data then 2 else if longB parts then 5 else if misB parts then 23 else 0

theorem misB_yes {parts : List (List Nat)} {i j : Nat} (hi : i < parts.length) (hj : j < parts.length) (h1 : 1 ≤ plen parts i) (h2 : 1 ≤ plen parts j) (h : plen parts i ≠ plen parts j) : misB parts = true := by
  unfold misB
  rw [List.any_eq_true]
  refine ⟨i, List.mem_range.2 hi, ?_⟩
  rw [List.any_eq_true]
  exact ⟨j, List.mem_range.2 hj, decide_eq_true ⟨h1, h2, h⟩⟩
theorem misB_no {parts : List (List Nat)} {L : Nat} (h : ∀ i, i < parts.length → 1 ≤ plen parts i → plen parts i = L) : misB parts = false := by
  unfold misB
  rw [List.any_eq_false]
  intro i hi
  rw [List.mem_range] at hi
  simp only [Bool.not_eq_true, List.any_eq_false]
  intro j hj
  rw [List.mem_range] at hj
  exact decide_eq_false fun ⟨h1, h2, h3⟩ => h3 (by rw [h i hi h1, h j hj h2])

theorem piTo_all {parts : List (List Nat)} {P : Nat → Prop} (k : Nat) (hk : k ≤ parts.length) (h : ∀ x ∈ piTo parts k, P x.1) : ∀ i, i < k → 1 ≤ plen parts i → P i := by
  induction k with
  | zero => intro i hi; omega
  | succ k ih =>
    intro i hi h1
    by_cases hp : 1 ≤ plen parts k
    · rw [piTo_yes ⟨by omega, hp⟩] at h
      by_cases hik : i = k
      · subst hik; exact h ⟨i, by omega, hp⟩ (by simp)
      · exact ih (by omega) (fun x hx => h x (List.mem_append_left _ hx)) i (by omega) h1
    · rw [piTo_no hp] at h
      by_cases hik : i = k
      · subst hik; exact absurd h1 hp
      · exact ih (by omega) h i (by omega) h1

/-- What holds between two rounds of Check's loop: the length so far, the result's cell. -/
def CkI (parts : List (List Nat)) (w : World) (pre : List (PI parts)) (W : World) : Prop :=
  (∃ L : Nat, (∀ x ∈ pre, plen parts x.1 = L) ∧ (L = 0 ↔ pre = []) ∧ W.cell? ⟨w.heap.size + 1, 0, none⟩ = some (.int .i64 L) ∧ W.frozen? ⟨w.heap.size + 1, 0, none⟩ = false) ∧
  (W.cell? ⟨w.heap.size, 0, none⟩ = some (.int .i64 0) ∧ W.frozen? ⟨w.heap.size, 0, none⟩ = false) ∧ Below w.heap.size w W
def CkX (parts : List (List Nat)) (w : World) (c : Code) (_ : List (PI parts)) (W : World) : Prop :=
  (c = .ret ∧ misB parts = true ∧ W.cell? ⟨w.heap.size, 0, none⟩ = some (.int .i64 23)) ∧ Below w.heap.size w W
theorem ckI_own (parts : List (List Nat)) (w : World) {B : Nat} (hB : w.heap.size ≤ B) : OwnFrom B (CkI parts w) := by
  intro s W W' row ⟨⟨L, h1, h2, h3, h4⟩, ⟨h5, h6⟩, h7⟩ hg hr
  have hr' : ∀ r, row = some r → ∃ o : Obj, W.heap[r]? = some o ∧ o.isCells = false := fun r e => (hr r e).2
  exact ⟨⟨L, h1, h2, cell_kept h3 hg hr', (frozen_kept h3 hg hr').trans h4⟩, ⟨cell_kept h5 hg hr', (frozen_kept h5 hg hr').trans h6⟩, h7.grown hg h7.size fun k e => Nat.le_trans hB (hr k e).1⟩
theorem ckX_own (parts : List (List Nat)) (w : World) {B : Nat} (hB : w.heap.size ≤ B) (c : Code) : OwnFrom B (CkX parts w c) := by
  intro s W W' row ⟨⟨h1, h2, h3⟩, h7⟩ hg hr
  have hr' : ∀ r, row = some r → ∃ o : Obj, W.heap[r]? = some o ∧ o.isCells = false := fun r e => (hr r e).2
  exact ⟨⟨h1, h2, cell_kept h3 hg hr'⟩, h7.grown hg h7.size fun k e => Nat.le_trans hB (hr k e).1⟩

theorem ckI_store {parts : List (List Nat)} {w W : World} {pre : List (PI parts)} {i : Nat} (hi : i < parts.length ∧ 1 ≤ plen parts i) (h : CkI parts w pre W) (hnew : ∀ x ∈ pre, plen parts x.1 = plen parts i) :
    CkI parts w (pre ++ [⟨i, hi⟩]) (W.setCell ⟨w.heap.size + 1, 0, none⟩ (.int .i64 (plen parts i))) := by
  obtain ⟨⟨L, h1, h2, h3, h4⟩, ⟨h5, h6⟩, h7⟩ := h
  refine ⟨⟨plen parts i, ?_, ?_, World.cell?_setCell_same' _ _ _ (by rw [h3]; rfl), by rw [World.frozen?_setCell]; exact h4⟩, ⟨?_, by rw [World.frozen?_setCell]; exact h6⟩, h7.setCell (p := ⟨w.heap.size + 1, 0, none⟩) (by simp) _⟩
  · intro x hx
    rcases List.mem_append.1 hx with hx | hx
    · exact hnew x hx
    · rw [List.mem_singleton] at hx; rw [hx]
  · constructor
    · intro e; omega
    · intro e; simp at e
  · rw [World.cell?_setCell_other _ _ _ _ (by simp)]; exact h5

set_option maxRecDepth 100000 in
set_option maxHeartbeats 4000000 in
theorem pCheck_loop (b o cap : Nat) (parts : List (List Nat)) (A : Nat → Option Addr) (C : Nat → Nat) (data : Int) (w : World) (hM : MxAt w b o parts A C) (h1 : 1 ≤ parts.length) (h2 : parts.length ≤ 64) (h3 : 1 ≤ data) (h4 : data ≤ parts.length) (h5 : longB parts = false) :
    Calls Try.prog 24 #[.slice (some ⟨b, o, none⟩) parts.length cap, .int .i64 data] w fun e w' => e = .returned (.int .i64 (parErr parts data)) ∧ Below w.heap.size w w' := by
  have HM := Lib.hid hM
  have HL := Lib.hid h5
  have HE := Lib.hid (show parErr parts data = if misB parts then 23 else 0 by unfold parErr; rw [if_neg (by omega), if_neg (by omega), if_neg (by rw [h5]; simp)])
  have hbw : b < w.heap.size := World.block_lt_of_cell? w _ (hM 0 _ (getD_some (d := []) (by omega))).1
  have t1 : decide ((parts.length : Int) < 1) = false := by simp; omega
  have t2 : decide ((64 : Int) < (parts.length : Int)) = false := by simp; omega
  have t3 : decide (data < 1) = false := by simp; omega
  have t4 : decide ((parts.length : Int) < data) = false := by simp; omega
  clear hM h5
  refine (callsIn_wide (n := 3)).1 ?_
  refine callsIn_of_wp_marks Try.func24 rfl trivial ?_ rfl
  simp only [Try.ntmps24, List.size_toArray, List.length_cons, List.length_nil, Nat.reduceAdd, Nat.reduceSub, Array.replicate_succ, Array.replicate_zero, List.push_toArray, List.append_toArray, List.nil_append, List.cons_append]
  gi_wp2_with fail
  refine ⟨trivial, ?_⟩
  refine (callsIn_wide.2 (ContainsFunc_long b o parts.length cap (fun i => .slice (A i) (plen parts i) (C i)) (fun i => decide (65536 < plen parts i)) _ (by omega) ?hc ?hf)).mono ?_
  case hc =>
    intro i hi
    exact ((HM.out.new ((Below.refl w.heap.size w).alloc (Nat.le_refl _) _)) i _ (getD_some (d := []) hi)).1
  case hf => exact fun i hi => long_any _ _ _ _
  rintro e w1 ⟨rfl, rfl⟩
  rw [any_firstOf, show ((List.range parts.length).any fun i => decide (65536 < plen parts i)) = longB parts from rfl, HL.out]
  gi_wp2_with fail
  refine ⟨trivial, ?_⟩
  refine (present_in Fence.wide _ trivial rfl _ _ _ _).mono ?_
  rintro e w1 ⟨rfl, rfl⟩
  gi_wp2_with fail
  have hB0 := Lib.hid ((((Below.refl w.heap.size w).alloc (Nat.le_refl _) (.cells #[.int .i64 0] 29)).alloc (by simp) (.cells #[.int .i64 0] 3)).alloc (by simp; omega) (.cells #[.slice (some ⟨b, o, none⟩) parts.length cap] 39))
  have k0 := Lib.hid (((Blk.new w 29 #[.int .i64 0]).alloc (.cells #[.int .i64 0] 3)).alloc (.cells #[.slice (some ⟨b, o, none⟩) parts.length cap] 39))
  have k1 := Lib.hid ((Blk.new (w.alloc (.cells #[.int .i64 0] 29)) 3 #[.int .i64 0]).alloc (.cells #[.slice (some ⟨b, o, none⟩) parts.length cap] 39))
  have k2 := Lib.hid (Blk.new ((w.alloc (.cells #[.int .i64 0] 29)).alloc (.cells #[.int .i64 0] 3)) 39 #[.slice (some ⟨b, o, none⟩) parts.length cap])
  have s1 : (w.alloc (.cells #[.int .i64 0] 29)).heap.size = w.heap.size + 1 := by simp
  have s2 : ((w.alloc (.cells #[.int .i64 0] 29)).alloc (.cells #[.int .i64 0] 3)).heap.size = w.heap.size + 1 + 1 := by simp
  have s3 : (((w.alloc (.cells #[.int .i64 0] 29)).alloc (.cells #[.int .i64 0] 3)).alloc (.cells #[.slice (some ⟨b, o, none⟩) parts.length cap] 39)).heap.size = w.heap.size + 1 + 1 + 1 := by simp
  rw [s1] at k1
  rw [s2] at k2
  obtain ⟨W0, hW0⟩ : ∃ W0, ((w.alloc (.cells #[.int .i64 0] 29)).alloc (.cells #[.int .i64 0] 3)).alloc (.cells #[.slice (some ⟨b, o, none⟩) parts.length cap] 39) = W0 := ⟨_, rfl⟩
  rw [hW0] at hB0 k0 k1 k2 s3 ⊢
  clear hW0 s1 s2
  refine wpIn_rangeFunc_ownG rfl (by decide) (gf := 80) (lb := #[.pointer (some ⟨w.heap.size + 1 + 1, 0, none⟩)]) rfl trivial (enters_of Try.func80 (by kernel_rfl) rfl)
    (present_stops Fence.wide _ trivial rfl (by decide) (w.heap.size + 1 + 1) w.heap.size b o cap parts A C (by omega) W0 (by omega) hbw (k2.out.cell rfl) (HM.out.new hB0.out)) belowK_t (belowK_b (by omega)) (Below.refl _ _) (fun _ => rfl)
    (CkI parts w) (CkX parts w) (ckI_own parts w (by omega)) (ckX_own parts w (by omega)) ⟨⟨0, by simp, by simp, k1.out.cell rfl, k1.out.frozen 0⟩, ⟨k0.out.cell rfl, k0.out.frozen 0⟩, hB0.out⟩
    (fun x => { tmps := #[.slice (some ⟨b, o, none⟩) parts.length cap, .int .i64 data, undef, undef, .pointer (some ⟨w.heap.size, 0, none⟩), .pointer (some ⟨w.heap.size + 1, 0, none⟩), undef, .slice (A x.1) (plen parts x.1) (C x.1), .bool false, .slice (some ⟨b, o, none⟩) parts.length cap, .int .i64 parts.length, .bool false, .bool false, .slice (some ⟨b, o, none⟩) parts.length cap, .int .i64 parts.length, .bool false, .bool false, .bool false, .int .i64 data, .bool false, .bool false, .int .i64 data, .slice (some ⟨b, o, none⟩) parts.length cap, .int .i64 parts.length, .bool false, .bool false, .bool false, .slice (some ⟨b, o, none⟩) parts.length cap, .bool false, .slice (some ⟨b, o, none⟩) parts.length cap, .func (.func 80) #[] #[.pointer (some ⟨w.heap.size + 1 + 1, 0, none⟩)], .int .i64 (x.1 : Nat), .slice (A x.1) (plen parts x.1) (C x.1), undef, undef, undef, undef, undef, undef, undef, undef, undef, undef], defers := [] }) ?assign ?body ?done ?stop
  case assign =>
    intro l x W K hK
    unfold pEnc
    gi_wp2
    exact hK
  case body =>
    rintro l pre ⟨i, hi1, hi2⟩ W ⟨⟨L, hL1, hL2, c1, f1⟩, ⟨c0, f0⟩, hB⟩ _
    have HL1 := Lib.hid hL1
    have HL2 := Lib.hid hL2
    have HB := Lib.hid hB
    have HI := Lib.hid (show CkI parts w pre W from ⟨⟨L, hL1, hL2, c1, f1⟩, ⟨c0, f0⟩, hB⟩)
    dsimp only
    clear hL1 hL2 hB
    by_cases h0 : L = 0
    · have tL : decide ((0 : Int) < (L : Int)) = false := by simp; omega
      have hst := Lib.hid (ckI_store (i := i) ⟨hi1, hi2⟩ HI.out (by rw [HL2.out.1 h0]; simp))
      have hL0 : L ≤ 0 := by omega
      clear h0
      gi_wp2
      exact ⟨(KeepsOthers.setCell _ _ _).from _, (Below.refl w.heap.size W).setCell (p := ⟨w.heap.size + 1, 0, none⟩) (by simp) _, hst.out⟩
    · have tL : decide ((0 : Int) < (L : Int)) = true := by simp; omega
      by_cases hq : plen parts i = L
      · have tQ : ((plen parts i : Int) != (L : Int)) = false := by rw [bne_eq_false_iff_eq]; omega
        have hst := Lib.hid (ckI_store (i := i) ⟨hi1, hi2⟩ HI.out (by intro x hx; rw [HL1.out x hx, hq]))
        have hL0 : 1 ≤ L := by omega
        have hL0' : (0 : Int) < (L : Int) := by omega
        clear h0 hq
        gi_wp2
        exact ⟨(KeepsOthers.setCell _ _ _).from _, (Below.refl w.heap.size W).setCell (p := ⟨w.heap.size + 1, 0, none⟩) (by simp) _, hst.out⟩
      · have tQ : ((plen parts i : Int) != (L : Int)) = true := by rw [bne_iff_ne]; omega
        have hmis : Hid (misB parts = true) := by
          obtain ⟨y, hy⟩ : ∃ y, y ∈ pre := List.exists_mem_of_ne_nil _ (fun e => h0 (HL2.out.2 e))
          have := HL1.out y hy
          exact misB_yes y.2.1 hi1 y.2.2 hi2 (by omega)
        have hL0 : 1 ≤ L := by omega
        have hL0' : (0 : Int) < (L : Int) := by omega
        clear h0 hq
        gi_wp2
        exact ⟨(KeepsOthers.setCell _ _ _).from _, ⟨rfl, hmis.out, World.cell?_setCell_same' _ _ _ (by rw [c0]; rfl)⟩, HB.out.setCell (p := ⟨w.heap.size, 0, none⟩) (Nat.le_refl _) _⟩
  case done =>
    rintro D ys W hD rfl ⟨⟨L, hL1, hL2, c1, f1⟩, ⟨c0, f0⟩, hB⟩ hK
    have hno := Lib.hid (misB_no (piTo_all (P := fun i => plen parts i = L) parts.length (Nat.le_refl _) hL1))
    have HB := Lib.hid hB
    have HK := Lib.hid hK
    clear hL1 hL2 hB c1 f1 hK
    gi_wp2
    have hK' := (KeepsOthers.setCell W ⟨w.heap.size, 0, none⟩ (.int .i64 0)).same D _ HK.out rfl
    refine ⟨by simp, .inl ⟨_, _, rfl, run_takeDeferred hK', ?_⟩⟩
    have hc5 := cell_kept (World.cell?_setCell_same' W ⟨w.heap.size, 0, none⟩ (.int .i64 0) (by rw [c0]; rfl)) (grownBy_putObj' _ D (.deferred none)) (fun r e => by cases e; exact ⟨_, hK', rfl⟩)
    refine ⟨.int .i64 0, ?_, by rw [HE.out, hno.out]; rfl, (HB.out.setCell (p := ⟨w.heap.size, 0, none⟩) (Nat.le_refl _) _).trans (belowK_b (w := w) (Nat.le_refl _) _ D _ _ (by omega) hK' rfl rfl)⟩
    simp [results, Try.f24, go_sem, hc5]
  case stop =>
    rintro D c pre W hD _ ⟨⟨rfl, hm, c0⟩, hB⟩ hK
    have Hm := Lib.hid hm
    have HB := Lib.hid hB
    have HK := Lib.hid hK
    clear hm hB hK
    gi_wp2
    refine ⟨by simp, .inl ⟨_, _, rfl, run_takeDeferred HK.out, ?_⟩⟩
    have hc5 := cell_kept c0 (grownBy_putObj' _ D (.deferred none)) (fun r e => by cases e; exact ⟨_, HK.out, rfl⟩)
    refine ⟨.int .i64 23, ?_, by rw [HE.out, Hm.out]; rfl, HB.out.trans (belowK_b (w := w) (Nat.le_refl _) W D _ _ (by omega) HK.out rfl rfl)⟩
    simp [results, Try.f24, go_sem, hc5]

set_option maxRecDepth 100000 in
set_option maxHeartbeats 2000000 in
theorem pCheck_any (v : Value) (parts : List (List Nat)) (data : Int) (w : World) (hn : parts.length ≤ 1000000000) (hm : Mx w v parts) (hd1 : -9223372036854775808 ≤ data) (hd2 : data ≤ 9223372036854775807) :
    Calls Try.prog 24 #[v, .int .i64 data] w fun e w' => e = .returned (.int .i64 (parErr parts data)) ∧ Below w.heap.size w w' := by
  obtain ⟨a, cap, rfl, hcap, h⟩ := hm
  by_cases h1 : parts.length < 1 ∨ 64 < parts.length
  · have HE := Lib.hid (show parErr parts data = 6 by unfold parErr; rw [if_pos h1])
    clear h
    rcases h1 with h1 | h1
    · have t1 : decide ((parts.length : Int) < 1) = true := by simp; omega
      refine (callsIn_wide (n := 3)).1 ?_
      refine callsIn_of_wp_marks Try.func24 rfl trivial ?_ rfl
      simp only [Try.ntmps24, List.size_toArray, List.length_cons, List.length_nil, Nat.reduceAdd, Nat.reduceSub, Array.replicate_succ, Array.replicate_zero, List.push_toArray, List.append_toArray, List.nil_append, List.cons_append]
      gi_wp2_with fail
      refine ⟨.int .i64 6, ?_, by rw [HE.out]; rfl, (Below.refl _ _).alloc (Nat.le_refl _) _⟩
      simp [results, Try.f24, go_sem]
    · have t1 : decide ((parts.length : Int) < 1) = false := by simp; omega
      have t2 : decide ((64 : Int) < (parts.length : Int)) = true := by simp; omega
      refine (callsIn_wide (n := 3)).1 ?_
      refine callsIn_of_wp_marks Try.func24 rfl trivial ?_ rfl
      simp only [Try.ntmps24, List.size_toArray, List.length_cons, List.length_nil, Nat.reduceAdd, Nat.reduceSub, Array.replicate_succ, Array.replicate_zero, List.push_toArray, List.append_toArray, List.nil_append, List.cons_append]
      gi_wp2_with fail
      refine ⟨.int .i64 6, ?_, by rw [HE.out]; rfl, (Below.refl _ _).alloc (Nat.le_refl _) _⟩
      simp [results, Try.f24, go_sem]
  have t1 : decide ((parts.length : Int) < 1) = false := by simp; omega
  have t2 : decide ((64 : Int) < (parts.length : Int)) = false := by simp; omega
  by_cases h2 : data < 1 ∨ (parts.length : Int) < data
  · have HE := Lib.hid (show parErr parts data = 2 by unfold parErr; rw [if_neg h1, if_pos h2])
    clear h
    rcases h2 with h2 | h2
    · have t3 : decide (data < 1) = true := by simp; omega
      refine (callsIn_wide (n := 3)).1 ?_
      refine callsIn_of_wp_marks Try.func24 rfl trivial ?_ rfl
      simp only [Try.ntmps24, List.size_toArray, List.length_cons, List.length_nil, Nat.reduceAdd, Nat.reduceSub, Array.replicate_succ, Array.replicate_zero, List.push_toArray, List.append_toArray, List.nil_append, List.cons_append]
      gi_wp2_with fail
      refine ⟨.int .i64 2, ?_, by rw [HE.out]; rfl, (Below.refl _ _).alloc (Nat.le_refl _) _⟩
      simp [results, Try.f24, go_sem]
    · have t3' : 1 ≤ data := by omega
      have t3 : decide (data < 1) = false := by simp; omega
      have t4 : decide ((parts.length : Int) < data) = true := by simp; omega
      refine (callsIn_wide (n := 3)).1 ?_
      refine callsIn_of_wp_marks Try.func24 rfl trivial ?_ rfl
      simp only [Try.ntmps24, List.size_toArray, List.length_cons, List.length_nil, Nat.reduceAdd, Nat.reduceSub, Array.replicate_succ, Array.replicate_zero, List.push_toArray, List.append_toArray, List.nil_append, List.cons_append]
      gi_wp2_with fail
      refine ⟨.int .i64 2, ?_, by rw [HE.out]; rfl, (Below.refl _ _).alloc (Nat.le_refl _) _⟩
      simp [results, Try.f24, go_sem]
  have t3 : decide (data < 1) = false := by simp; omega
  have t4 : decide ((parts.length : Int) < data) = false := by simp; omega
  rcases h with h | ⟨b, o, A, C, rfl, hM⟩
  · rw [h] at h1; simp at h1
  cases hL : longB parts with
  | false => exact pCheck_loop b o cap parts A C data w hM (by omega) (by omega) (by omega) (by omega) hL
  | true =>
    have HE := Lib.hid (show parErr parts data = 5 by unfold parErr; rw [if_neg h1, if_neg h2, if_pos hL])
    have HL := Lib.hid hL
    have HM := Lib.hid hM
    clear hL hM h1 h2
    refine (callsIn_wide (n := 3)).1 ?_
    refine callsIn_of_wp_marks Try.func24 rfl trivial ?_ rfl
    simp only [Try.ntmps24, List.size_toArray, List.length_cons, List.length_nil, Nat.reduceAdd, Nat.reduceSub, Array.replicate_succ, Array.replicate_zero, List.push_toArray, List.append_toArray, List.nil_append, List.cons_append]
    gi_wp2_with fail
    refine ⟨trivial, ?_⟩
    refine (callsIn_wide.2 (ContainsFunc_long b o parts.length cap (fun i => .slice (A i) (plen parts i) (C i)) (fun i => decide (65536 < plen parts i)) _ (by omega) ?hc ?hf)).mono ?_
    case hc =>
      intro i hi
      exact ((HM.out.new ((Below.refl w.heap.size w).alloc (Nat.le_refl _) _)) i _ (getD_some (d := []) hi)).1
    case hf => exact fun i hi => long_any _ _ _ _
    rintro e w1 ⟨rfl, rfl⟩
    rw [any_firstOf, show ((List.range parts.length).any fun i => decide (65536 < plen parts i)) = longB parts from rfl, HL.out]
    gi_wp2_with fail
    refine ⟨.int .i64 5, ?_, by rw [HE.out]; rfl, (Below.refl _ _).alloc (Nat.le_refl _) _⟩
    simp [results, Try.f24, go_sem]
end Go.Proofs.Ytlbomlolomcolaa
