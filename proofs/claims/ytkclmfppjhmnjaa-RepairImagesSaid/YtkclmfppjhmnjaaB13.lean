/- Contracts of slices.IndexFunc and ContainsFunc at the functions of parity, and of those. -/
/- The contract of parity.Check. -/
/- Contracts of slices.Grow and slices.Concat at bytes. -/
import Derived.Test.YtkclmfppjhmnjaaB01
import Derived.Test.YtkclmfppjhmnjaaB09
import Derived.Outline
import Derived.Test.YtkclmfppjhmnjaaB02
import Derived.Lib.AppendZeros
import Derived.Laws.AppendOwnNone
import Derived.Deep.LoopGhost
namespace Go.Proofs.Ytkclmfppjhmnjaa
open Go.RowKit

set_option maxRecDepth 100000 in
set_option maxHeartbeats 400000 in
theorem IndexFunc_Recovery1 (b o n cap : Nat) (V : Nat → Value) (c : Value) (p : Nat → Bool) (w : World) (hn : n ≤ 1000000000) (hc : Hid (∀ i, i < n → w.cell? ⟨b, o + i, none⟩ = some (V i)))
    (hf : Hid (∀ i, i < n → Calls Try.prog 87 #[V i, c] w fun e w' => e = .returned (.bool (p i)) ∧ w = w')) :
    Calls Try.prog 103 #[.slice (some ⟨b, o, none⟩) n cap, .func (.func 87) #[] #[c]] w fun e w' => e = .returned (.int .i64 (firstOf p n)) ∧ w = w' := by
  go_enter Try.func103, Try.ntmps103
  go_wp2
  go_loop [8] (fun i => ∃ k : Nat, k ≤ n ∧ i = .int .i64 k ∧ Hid (∀ j, j < k → p j = false)) (fun i => n - (intOf i).toNat)
  case atStart => exact ⟨0, by omega, rfl, fun j h => by omega⟩
  case round =>
    obtain ⟨k, hk, rfl, hp⟩ := hrel
    by_cases hlt : k < n
    · have hcell := hc.out k hlt
      have hcall := Lib.hid (hf.out k hlt)
      cases hpk : p k with
      | true =>
        have Hpk := Lib.hid hpk
        clear hpk
        go_wp2_with fail
        refine hcall.out.mono ?_
        rintro e w' ⟨rfl, rfl⟩
        rw [Hpk.out]
        go_wp2_with fail
        go_ret
        exact ⟨by rw [firstOf_hit hlt Hpk.out hp.out]; rfl, rfl⟩
      | false =>
        have Hpk := Lib.hid hpk
        clear hpk
        go_wp2_with fail
        refine hcall.out.mono ?_
        rintro e w' ⟨rfl, rfl⟩
        rw [Hpk.out]
        go_wp2_with fail
        go_round
        case rel =>
          refine ⟨k + 1, by omega, by go_num, fun j hj => ?_⟩
          by_cases h : j = k
          · subst h; exact Hpk.out
          · exact hp.out j (by omega)
        case measure => simp [intOf]; omega
    · go_wp2_with fail
      go_ret
      exact ⟨by rw [firstOf_none (fun j hj => hp.out j (by omega))]; rfl, rfl⟩
set_option maxRecDepth 100000 in
set_option maxHeartbeats 400000 in
theorem IndexFunc_long (b o n cap : Nat) (V : Nat → Value) (p : Nat → Bool) (w : World) (hn : n ≤ 1000000000) (hc : Hid (∀ i, i < n → w.cell? ⟨b, o + i, none⟩ = some (V i)))
    (hf : Hid (∀ i, i < n → Calls Try.prog 86 #[V i] w fun e w' => e = .returned (.bool (p i)) ∧ w = w')) :
    Calls Try.prog 103 #[.slice (some ⟨b, o, none⟩) n cap, .func (.func 86) #[] #[]] w fun e w' => e = .returned (.int .i64 (firstOf p n)) ∧ w = w' := by
  go_enter Try.func103, Try.ntmps103
  go_wp2
  go_loop [8] (fun i => ∃ k : Nat, k ≤ n ∧ i = .int .i64 k ∧ Hid (∀ j, j < k → p j = false)) (fun i => n - (intOf i).toNat)
  case atStart => exact ⟨0, by omega, rfl, fun j h => by omega⟩
  case round =>
    obtain ⟨k, hk, rfl, hp⟩ := hrel
    by_cases hlt : k < n
    · have hcell := hc.out k hlt
      have hcall := Lib.hid (hf.out k hlt)
      cases hpk : p k with
      | true =>
        have Hpk := Lib.hid hpk
        clear hpk
        go_wp2_with fail
        refine hcall.out.mono ?_
        rintro e w' ⟨rfl, rfl⟩
        rw [Hpk.out]
        go_wp2_with fail
        go_ret
        exact ⟨by rw [firstOf_hit hlt Hpk.out hp.out]; rfl, rfl⟩
      | false =>
        have Hpk := Lib.hid hpk
        clear hpk
        go_wp2_with fail
        refine hcall.out.mono ?_
        rintro e w' ⟨rfl, rfl⟩
        rw [Hpk.out]
        go_wp2_with fail
        go_round
        case rel =>
          refine ⟨k + 1, by omega, by go_num, fun j hj => ?_⟩
          by_cases h : j = k
          · subst h; exact Hpk.out
          · exact hp.out j (by omega)
        case measure => simp [intOf]; omega
    · go_wp2_with fail
      go_ret
      exact ⟨by rw [firstOf_none (fun j hj => hp.out j (by omega))]; rfl, rfl⟩
set_option maxRecDepth 100000 in
set_option maxHeartbeats 400000 in
theorem ContainsFunc_Recovery1 (b o n cap : Nat) (V : Nat → Value) (c : Value) (p : Nat → Bool) (w : World) (hn : n ≤ 1000000000) (hc : Hid (∀ i, i < n → w.cell? ⟨b, o + i, none⟩ = some (V i)))
    (hf : Hid (∀ i, i < n → Calls Try.prog 87 #[V i, c] w fun e w' => e = .returned (.bool (p i)) ∧ w = w')) :
    Calls Try.prog 85 #[.slice (some ⟨b, o, none⟩) n cap, .func (.func 87) #[] #[c]] w fun e w' => e = .returned (.bool (decide (0 ≤ firstOf p n))) ∧ w = w' := by
  go_enter Try.func85, Try.ntmps85
  go_wp2_with fail
  refine (IndexFunc_Recovery1 b o n cap V c p w hn hc hf).mono ?_
  rintro e w' ⟨rfl, rfl⟩
  go_wp2_with fail
  go_ret
  exact ⟨rfl, rfl⟩

set_option maxRecDepth 100000 in
set_option maxHeartbeats 400000 in
theorem ContainsFunc_long (b o n cap : Nat) (V : Nat → Value) (p : Nat → Bool) (w : World) (hn : n ≤ 1000000000) (hc : Hid (∀ i, i < n → w.cell? ⟨b, o + i, none⟩ = some (V i)))
    (hf : Hid (∀ i, i < n → Calls Try.prog 86 #[V i] w fun e w' => e = .returned (.bool (p i)) ∧ w = w')) :
    Calls Try.prog 85 #[.slice (some ⟨b, o, none⟩) n cap, .func (.func 86) #[] #[]] w fun e w' => e = .returned (.bool (decide (0 ≤ firstOf p n))) ∧ w = w' := by
  go_enter Try.func85, Try.ntmps85
  go_wp2_with fail
  refine (IndexFunc_long b o n cap V p w hn hc hf).mono ?_
  rintro e w' ⟨rfl, rfl⟩
  go_wp2_with fail
  go_ret
  exact ⟨rfl, rfl⟩

set_option maxRecDepth 100000 in
set_option maxHeartbeats 400000 in
theorem long_any (a : Option Addr) (n c : Nat) (w : World) : Calls Try.prog 86 #[.slice a n c] w fun e w' => e = .returned (.bool (decide (65536 < n))) ∧ w = w' := by
  go_enter Try.func86, Try.ntmps86
  go_wp2
  all_goals
    go_ret
    refine ⟨?_, rfl⟩
    show Ending.returned (.bool (decide ((65536 : Int) < (n : Int)))) = _
    congr 2
    rw [Bool.eq_iff_iff]; simp; omega

set_option maxRecDepth 100000 in
set_option maxHeartbeats 400000 in
theorem Recovery1_any (a a0 : Option Addr) (n c pc b o m cap n0 c0 : Nat) (w : World) (hm : 0 < m) (hp : w.cell? ⟨pc, 0, none⟩ = some (.slice (some ⟨b, o, none⟩) m cap)) (hc : w.cell? ⟨b, o, none⟩ = some (.slice a0 n0 c0)) :
    Calls Try.prog 87 #[.slice a n c, .pointer (some ⟨pc, 0, none⟩)] w fun e w' => e = .returned (.bool (decide (n = 0 ∨ n ≠ n0))) ∧ w = w' := by
  by_cases h0 : n = 0
  · have t1 : ((n : Int) == 0) = true := by rw [beq_iff_eq]; omega
    have e1 := Lib.hid (show decide (n = 0 ∨ n ≠ n0) = true from decide_eq_true (Or.inl h0))
    clear h0
    go_enter Try.func87, Try.ntmps87
    go_wp2
    go_ret
    exact ⟨by rw [e1.out]; rfl, rfl⟩
  · have t1 : ((n : Int) == 0) = false := by rw [beq_eq_false_iff_ne]; omega
    by_cases h1 : n = n0
    · have t2 : ((n : Int) != (n0 : Int)) = false := by rw [bne_eq_false_iff_eq]; omega
      have e1 := Lib.hid (show decide (n = 0 ∨ n ≠ n0) = false from decide_eq_false (by omega))
      clear h0 h1
      go_enter Try.func87, Try.ntmps87
      go_wp2
      go_ret
      exact ⟨by rw [e1.out]; rfl, rfl⟩
    · have t2 : ((n : Int) != (n0 : Int)) = true := by rw [bne_iff_ne]; omega
      have e1 := Lib.hid (show decide (n = 0 ∨ n ≠ n0) = true from decide_eq_true (by omega))
      clear h0 h1
      go_enter Try.func87, Try.ntmps87
      go_wp2
      go_ret
      exact ⟨by rw [e1.out]; rfl, rfl⟩
end Go.Proofs.Ytkclmfppjhmnjaa

namespace Go.Proofs.Ytkclmfppjhmnjaa
open Go.RowKit Go.Shelf

attribute [local go_sem] Oper.semAt_some

def longB (parts : List (List Nat)) : Bool := (List.range parts.length).any fun i => decide (65536 < plen parts i)
def misB (parts : List (List Nat)) : Bool := (List.range parts.length).any fun i => (List.range parts.length).any fun j => decide (1 ≤ plen parts i ∧ 1 ≤ plen parts j ∧ plen parts i ≠ plen parts j)
/-- What Check returns. -/
def parErr (parts : List (List Nat)) (data : Int) : Nat :=
  if parts.length < 1 ∨ 64 < parts.length then 6 else if data < 1 ∨ (parts.length : Int) < data then 2 else if longB parts then 5 else if misB parts then 23 else 0

theorem misB_yes {parts : List (List Nat)} {i j : Nat} (hi : i < parts.length) (hj : j < parts.length) (h1 : 1 ≤ plen parts i) (h2 : 1 ≤ plen parts j) (h : plen parts i ≠ plen parts j) : misB parts = true := by
  unfold misB
  rw [List.any_eq_true]
  refine ⟨i, List.mem_range.2 hi, ?_⟩
  rw [List.any_eq_true]
  exact ⟨j, List.mem_range.2 hj, decide_eq_true ⟨h1, h2, h⟩⟩
theorem misB_no {parts : List (List Nat)} {L : Nat} (h : ∀ i, i < parts.length → 1 ≤ plen parts i → plen parts i = L) : misB parts = false := by
  unfold misB
  rw [List.any_eq_false]
  intro i hi
  rw [List.mem_range] at hi
  simp only [Bool.not_eq_true, List.any_eq_false]
  intro j hj
  rw [List.mem_range] at hj
  exact decide_eq_false fun ⟨h1, h2, h3⟩ => h3 (by rw [h i hi h1, h j hj h2])

theorem piTo_all {parts : List (List Nat)} {P : Nat → Prop} (k : Nat) (hk : k ≤ parts.length) (h : ∀ x ∈ piTo parts k, P x.1) : ∀ i, i < k → 1 ≤ plen parts i → P i := by
  induction k with
  | zero => intro i hi; omega
  | succ k ih =>
    intro i hi h1
    by_cases hp : 1 ≤ plen parts k
    · rw [piTo_yes ⟨by omega, hp⟩] at h
      by_cases hik : i = k
      · subst hik; exact h ⟨i, by omega, hp⟩ (by simp)
      · exact ih (by omega) (fun x hx => h x (List.mem_append_left _ hx)) i (by omega) h1
    · rw [piTo_no hp] at h
      by_cases hik : i = k
      · subst hik; exact absurd h1 hp
      · exact ih (by omega) h i (by omega) h1

/-- What holds between two rounds of Check's loop: the length so far, the result's cell. -/
def CkI (parts : List (List Nat)) (w : World) (pre : List (PI parts)) (W : World) : Prop :=
  (∃ L : Nat, (∀ x ∈ pre, plen parts x.1 = L) ∧ (L = 0 ↔ pre = []) ∧ W.cell? ⟨w.heap.size + 1, 0, none⟩ = some (.int .i64 L) ∧ W.frozen? ⟨w.heap.size + 1, 0, none⟩ = false) ∧
  (W.cell? ⟨w.heap.size, 0, none⟩ = some (.int .i64 0) ∧ W.frozen? ⟨w.heap.size, 0, none⟩ = false) ∧ Below w.heap.size w W
def CkX (parts : List (List Nat)) (w : World) (c : Code) (_ : List (PI parts)) (W : World) : Prop :=
  (c = .ret ∧ misB parts = true ∧ W.cell? ⟨w.heap.size, 0, none⟩ = some (.int .i64 23)) ∧ Below w.heap.size w W
theorem ckI_own (parts : List (List Nat)) (w : World) {B : Nat} (hB : w.heap.size ≤ B) : OwnFrom B (CkI parts w) := by
  intro s W W' row ⟨⟨L, h1, h2, h3, h4⟩, ⟨h5, h6⟩, h7⟩ hg hr
  have hr' : ∀ r, row = some r → ∃ o : Obj, W.heap[r]? = some o ∧ o.isCells = false := fun r e => (hr r e).2
  exact ⟨⟨L, h1, h2, cell_kept h3 hg hr', (frozen_kept h3 hg hr').trans h4⟩, ⟨cell_kept h5 hg hr', (frozen_kept h5 hg hr').trans h6⟩, h7.grown hg h7.size fun k e => Nat.le_trans hB (hr k e).1⟩
theorem ckX_own (parts : List (List Nat)) (w : World) {B : Nat} (hB : w.heap.size ≤ B) (c : Code) : OwnFrom B (CkX parts w c) := by
  intro s W W' row ⟨⟨h1, h2, h3⟩, h7⟩ hg hr
  have hr' : ∀ r, row = some r → ∃ o : Obj, W.heap[r]? = some o ∧ o.isCells = false := fun r e => (hr r e).2
  exact ⟨⟨h1, h2, cell_kept h3 hg hr'⟩, h7.grown hg h7.size fun k e => Nat.le_trans hB (hr k e).1⟩

theorem ckI_store {parts : List (List Nat)} {w W : World} {pre : List (PI parts)} {i : Nat} (hi : i < parts.length ∧ 1 ≤ plen parts i) (h : CkI parts w pre W) (hnew : ∀ x ∈ pre, plen parts x.1 = plen parts i) :
    CkI parts w (pre ++ [⟨i, hi⟩]) (W.setCell ⟨w.heap.size + 1, 0, none⟩ (.int .i64 (plen parts i))) := by
  obtain ⟨⟨L, h1, h2, h3, h4⟩, ⟨h5, h6⟩, h7⟩ := h
  refine ⟨⟨plen parts i, ?_, ?_, World.cell?_setCell_same' _ _ _ (by rw [h3]; rfl), by rw [World.frozen?_setCell]; exact h4⟩, ⟨?_, by rw [World.frozen?_setCell]; exact h6⟩, h7.setCell (p := ⟨w.heap.size + 1, 0, none⟩) (by simp) _⟩
  · intro x hx
    rcases List.mem_append.1 hx with hx | hx
    · exact hnew x hx
    · rw [List.mem_singleton] at hx; rw [hx]
  · constructor
    · intro e; omega
    · intro e; simp at e
  · rw [World.cell?_setCell_other _ _ _ _ (by simp)]; exact h5

set_option maxRecDepth 100000 in
set_option maxHeartbeats 4000000 in
theorem pCheck_loop (b o cap : Nat) (parts : List (List Nat)) (A : Nat → Option Addr) (C : Nat → Nat) (data : Int) (w : World) (hM : MxAt w b o parts A C) (h1 : 1 ≤ parts.length) (h2 : parts.length ≤ 64) (h3 : 1 ≤ data) (h4 : data ≤ parts.length) (h5 : longB parts = false) :
    Calls Try.prog 130 #[.slice (some ⟨b, o, none⟩) parts.length cap, .int .i64 data] w fun e w' => e = .returned (.int .i64 (parErr parts data)) ∧ Below w.heap.size w w' := by
  have HM := Lib.hid hM
  have HL := Lib.hid h5
  have HE := Lib.hid (show parErr parts data = if misB parts then 23 else 0 by unfold parErr; rw [if_neg (by omega), if_neg (by omega), if_neg (by rw [h5]; simp)])
  have hbw : b < w.heap.size := World.block_lt_of_cell? w _ (hM 0 _ (getD_some (d := []) (by omega))).1
  have t1 : decide ((parts.length : Int) < 1) = false := by simp; omega
  have t2 : decide ((64 : Int) < (parts.length : Int)) = false := by simp; omega
  have t3 : decide (data < 1) = false := by simp; omega
  have t4 : decide ((parts.length : Int) < data) = false := by simp; omega
  clear hM h5
  refine (callsIn_wide (n := 3)).1 ?_
  refine callsIn_of_wp_marks Try.func130 rfl trivial ?_ rfl
  simp only [Try.ntmps130, List.size_toArray, List.length_cons, List.length_nil, Nat.reduceAdd, Nat.reduceSub, Array.replicate_succ, Array.replicate_zero, List.push_toArray, List.append_toArray, List.nil_append, List.cons_append]
  gi_wp2_with fail
  refine ⟨trivial, ?_⟩
  refine (callsIn_wide.2 (ContainsFunc_long b o parts.length cap (fun i => .slice (A i) (plen parts i) (C i)) (fun i => decide (65536 < plen parts i)) _ (by omega) ?hc ?hf)).mono ?_
  case hc =>
    intro i hi
    exact ((HM.out.new ((Below.refl w.heap.size w).alloc (Nat.le_refl _) _)) i _ (getD_some (d := []) hi)).1
  case hf => exact fun i hi => long_any _ _ _ _
  rintro e w1 ⟨rfl, rfl⟩
  rw [any_firstOf, show ((List.range parts.length).any fun i => decide (65536 < plen parts i)) = longB parts from rfl, HL.out]
  gi_wp2_with fail
  refine ⟨trivial, ?_⟩
  refine (present_in Fence.wide _ trivial rfl _ _ _ _).mono ?_
  rintro e w1 ⟨rfl, rfl⟩
  gi_wp2_with fail
  have hB0 := Lib.hid ((((Below.refl w.heap.size w).alloc (Nat.le_refl _) (.cells #[.int .i64 0] 29)).alloc (by simp) (.cells #[.int .i64 0] 3)).alloc (by simp; omega) (.cells #[.slice (some ⟨b, o, none⟩) parts.length cap] 44))
  have k0 := Lib.hid (((Blk.new w 29 #[.int .i64 0]).alloc (.cells #[.int .i64 0] 3)).alloc (.cells #[.slice (some ⟨b, o, none⟩) parts.length cap] 44))
  have k1 := Lib.hid ((Blk.new (w.alloc (.cells #[.int .i64 0] 29)) 3 #[.int .i64 0]).alloc (.cells #[.slice (some ⟨b, o, none⟩) parts.length cap] 44))
  have k2 := Lib.hid (Blk.new ((w.alloc (.cells #[.int .i64 0] 29)).alloc (.cells #[.int .i64 0] 3)) 44 #[.slice (some ⟨b, o, none⟩) parts.length cap])
  have s1 : (w.alloc (.cells #[.int .i64 0] 29)).heap.size = w.heap.size + 1 := by simp
  have s2 : ((w.alloc (.cells #[.int .i64 0] 29)).alloc (.cells #[.int .i64 0] 3)).heap.size = w.heap.size + 1 + 1 := by simp
  have s3 : (((w.alloc (.cells #[.int .i64 0] 29)).alloc (.cells #[.int .i64 0] 3)).alloc (.cells #[.slice (some ⟨b, o, none⟩) parts.length cap] 44)).heap.size = w.heap.size + 1 + 1 + 1 := by simp
  rw [s1] at k1
  rw [s2] at k2
  obtain ⟨W0, hW0⟩ : ∃ W0, ((w.alloc (.cells #[.int .i64 0] 29)).alloc (.cells #[.int .i64 0] 3)).alloc (.cells #[.slice (some ⟨b, o, none⟩) parts.length cap] 44) = W0 := ⟨_, rfl⟩
  rw [hW0] at hB0 k0 k1 k2 s3 ⊢
  clear hW0 s1 s2
  refine wpIn_rangeFunc_ownG rfl (by decide) (gf := 132) (lb := #[.pointer (some ⟨w.heap.size + 1 + 1, 0, none⟩)]) rfl trivial (enters_of Try.func132 (by kernel_rfl) rfl)
    (present_stops Fence.wide _ trivial rfl (by decide) (w.heap.size + 1 + 1) w.heap.size b o cap parts A C (by omega) W0 (by omega) hbw (k2.out.cell rfl) (HM.out.new hB0.out)) belowK_t (belowK_b (by omega)) (Below.refl _ _) (fun _ => rfl)
    (CkI parts w) (CkX parts w) (ckI_own parts w (by omega)) (ckX_own parts w (by omega)) ⟨⟨0, by simp, by simp, k1.out.cell rfl, k1.out.frozen 0⟩, ⟨k0.out.cell rfl, k0.out.frozen 0⟩, hB0.out⟩
    (fun x => { tmps := #[.slice (some ⟨b, o, none⟩) parts.length cap, .int .i64 data, undef, undef, .pointer (some ⟨w.heap.size, 0, none⟩), .pointer (some ⟨w.heap.size + 1, 0, none⟩), undef, .slice (A x.1) (plen parts x.1) (C x.1), .bool false, .slice (some ⟨b, o, none⟩) parts.length cap, .int .i64 parts.length, .bool false, .bool false, .slice (some ⟨b, o, none⟩) parts.length cap, .int .i64 parts.length, .bool false, .bool false, .bool false, .int .i64 data, .bool false, .bool false, .int .i64 data, .slice (some ⟨b, o, none⟩) parts.length cap, .int .i64 parts.length, .bool false, .bool false, .bool false, .slice (some ⟨b, o, none⟩) parts.length cap, .bool false, .slice (some ⟨b, o, none⟩) parts.length cap, .func (.func 132) #[] #[.pointer (some ⟨w.heap.size + 1 + 1, 0, none⟩)], .int .i64 (x.1 : Nat), .slice (A x.1) (plen parts x.1) (C x.1), undef, undef, undef, undef, undef, undef, undef, undef, undef, undef], defers := [] }) ?assign ?body ?done ?stop
  case assign =>
    intro l x W K hK
    unfold pEnc
    gi_wp2
    exact hK
  case body =>
    rintro l pre ⟨i, hi1, hi2⟩ W ⟨⟨L, hL1, hL2, c1, f1⟩, ⟨c0, f0⟩, hB⟩ _
    have HL1 := Lib.hid hL1
    have HL2 := Lib.hid hL2
    have HB := Lib.hid hB
    have HI := Lib.hid (show CkI parts w pre W from ⟨⟨L, hL1, hL2, c1, f1⟩, ⟨c0, f0⟩, hB⟩)
    dsimp only
    clear hL1 hL2 hB
    by_cases h0 : L = 0
    · have tL : decide ((0 : Int) < (L : Int)) = false := by simp; omega
      have hst := Lib.hid (ckI_store (i := i) ⟨hi1, hi2⟩ HI.out (by rw [HL2.out.1 h0]; simp))
      have hL0 : L ≤ 0 := by omega
      clear h0
      gi_wp2
      exact ⟨(KeepsOthers.setCell _ _ _).from _, (Below.refl w.heap.size W).setCell (p := ⟨w.heap.size + 1, 0, none⟩) (by simp) _, hst.out⟩
    · have tL : decide ((0 : Int) < (L : Int)) = true := by simp; omega
      by_cases hq : plen parts i = L
      · have tQ : ((plen parts i : Int) != (L : Int)) = false := by rw [bne_eq_false_iff_eq]; omega
        have hst := Lib.hid (ckI_store (i := i) ⟨hi1, hi2⟩ HI.out (by intro x hx; rw [HL1.out x hx, hq]))
        have hL0 : 1 ≤ L := by omega
        have hL0' : (0 : Int) < (L : Int) := by omega
        clear h0 hq
        gi_wp2
        exact ⟨(KeepsOthers.setCell _ _ _).from _, (Below.refl w.heap.size W).setCell (p := ⟨w.heap.size + 1, 0, none⟩) (by simp) _, hst.out⟩
      · have tQ : ((plen parts i : Int) != (L : Int)) = true := by rw [bne_iff_ne]; omega
        have hmis : Hid (misB parts = true) := by
          obtain ⟨y, hy⟩ : ∃ y, y ∈ pre := List.exists_mem_of_ne_nil _ (fun e => h0 (HL2.out.2 e))
          have := HL1.out y hy
          exact misB_yes y.2.1 hi1 y.2.2 hi2 (by omega)
        have hL0 : 1 ≤ L := by omega
        have hL0' : (0 : Int) < (L : Int) := by omega
        clear h0 hq
        gi_wp2
        exact ⟨(KeepsOthers.setCell _ _ _).from _, ⟨rfl, hmis.out, World.cell?_setCell_same' _ _ _ (by rw [c0]; rfl)⟩, HB.out.setCell (p := ⟨w.heap.size, 0, none⟩) (Nat.le_refl _) _⟩
  case done =>
    rintro D ys W hD rfl ⟨⟨L, hL1, hL2, c1, f1⟩, ⟨c0, f0⟩, hB⟩ hK
    have hno := Lib.hid (misB_no (piTo_all (P := fun i => plen parts i = L) parts.length (Nat.le_refl _) hL1))
    have HB := Lib.hid hB
    have HK := Lib.hid hK
    clear hL1 hL2 hB c1 f1 hK
    gi_wp2
    have hK' := (KeepsOthers.setCell W ⟨w.heap.size, 0, none⟩ (.int .i64 0)).same D _ HK.out rfl
    refine ⟨by simp, .inl ⟨_, _, rfl, run_takeDeferred hK', ?_⟩⟩
    have hc5 := cell_kept (World.cell?_setCell_same' W ⟨w.heap.size, 0, none⟩ (.int .i64 0) (by rw [c0]; rfl)) (grownBy_putObj' _ D (.deferred none)) (fun r e => by cases e; exact ⟨_, hK', rfl⟩)
    refine ⟨.int .i64 0, ?_, by rw [HE.out, hno.out]; rfl, (HB.out.setCell (p := ⟨w.heap.size, 0, none⟩) (Nat.le_refl _) _).trans (belowK_b (w := w) (Nat.le_refl _) _ D _ _ (by omega) hK' rfl rfl)⟩
    simp [results, Try.f130, go_sem, hc5]
  case stop =>
    rintro D c pre W hD _ ⟨⟨rfl, hm, c0⟩, hB⟩ hK
    have Hm := Lib.hid hm
    have HB := Lib.hid hB
    have HK := Lib.hid hK
    clear hm hB hK
    gi_wp2
    refine ⟨by simp, .inl ⟨_, _, rfl, run_takeDeferred HK.out, ?_⟩⟩
    have hc5 := cell_kept c0 (grownBy_putObj' _ D (.deferred none)) (fun r e => by cases e; exact ⟨_, HK.out, rfl⟩)
    refine ⟨.int .i64 23, ?_, by rw [HE.out, Hm.out]; rfl, HB.out.trans (belowK_b (w := w) (Nat.le_refl _) W D _ _ (by omega) HK.out rfl rfl)⟩
    simp [results, Try.f130, go_sem, hc5]

set_option maxRecDepth 100000 in
set_option maxHeartbeats 2000000 in
theorem pCheck_any (v : Value) (parts : List (List Nat)) (data : Int) (w : World) (hn : parts.length ≤ 1000000000) (hm : Mx w v parts) (hd1 : -9223372036854775808 ≤ data) (hd2 : data ≤ 9223372036854775807) :
    Calls Try.prog 130 #[v, .int .i64 data] w fun e w' => e = .returned (.int .i64 (parErr parts data)) ∧ Below w.heap.size w w' := by
  obtain ⟨a, cap, rfl, hcap, h⟩ := hm
  by_cases h1 : parts.length < 1 ∨ 64 < parts.length
  · have HE := Lib.hid (show parErr parts data = 6 by unfold parErr; rw [if_pos h1])
    clear h
    rcases h1 with h1 | h1
    · have t1 : decide ((parts.length : Int) < 1) = true := by simp; omega
      refine (callsIn_wide (n := 3)).1 ?_
      refine callsIn_of_wp_marks Try.func130 rfl trivial ?_ rfl
      simp only [Try.ntmps130, List.size_toArray, List.length_cons, List.length_nil, Nat.reduceAdd, Nat.reduceSub, Array.replicate_succ, Array.replicate_zero, List.push_toArray, List.append_toArray, List.nil_append, List.cons_append]
      gi_wp2_with fail
      refine ⟨.int .i64 6, ?_, by rw [HE.out]; rfl, (Below.refl _ _).alloc (Nat.le_refl _) _⟩
      simp [results, Try.f130, go_sem]
    · have t1 : decide ((parts.length : Int) < 1) = false := by simp; omega
      have t2 : decide ((64 : Int) < (parts.length : Int)) = true := by simp; omega
      refine (callsIn_wide (n := 3)).1 ?_
      refine callsIn_of_wp_marks Try.func130 rfl trivial ?_ rfl
      simp only [Try.ntmps130, List.size_toArray, List.length_cons, List.length_nil, Nat.reduceAdd, Nat.reduceSub, Array.replicate_succ, Array.replicate_zero, List.push_toArray, List.append_toArray, List.nil_append, List.cons_append]
      gi_wp2_with fail
      refine ⟨.int .i64 6, ?_, by rw [HE.out]; rfl, (Below.refl _ _).alloc (Nat.le_refl _) _⟩
      simp [results, Try.f130, go_sem]
  have t1 : decide ((parts.length : Int) < 1) = false := by simp; omega
  have t2 : decide ((64 : Int) < (parts.length : Int)) = false := by simp; omega
  by_cases h2 : data < 1 ∨ (parts.length : Int) < data
  · have HE := Lib.hid (show parErr parts data = 2 by unfold parErr; rw [if_neg h1, if_pos h2])
    clear h
    rcases h2 with h2 | h2
    · have t3 : decide (data < 1) = true := by simp; omega
      refine (callsIn_wide (n := 3)).1 ?_
      refine callsIn_of_wp_marks Try.func130 rfl trivial ?_ rfl
      simp only [Try.ntmps130, List.size_toArray, List.length_cons, List.length_nil, Nat.reduceAdd, Nat.reduceSub, Array.replicate_succ, Array.replicate_zero, List.push_toArray, List.append_toArray, List.nil_append, List.cons_append]
      gi_wp2_with fail
      refine ⟨.int .i64 2, ?_, by rw [HE.out]; rfl, (Below.refl _ _).alloc (Nat.le_refl _) _⟩
      simp [results, Try.f130, go_sem]
    · have t3' : 1 ≤ data := by omega
      have t3 : decide (data < 1) = false := by simp; omega
      have t4 : decide ((parts.length : Int) < data) = true := by simp; omega
      refine (callsIn_wide (n := 3)).1 ?_
      refine callsIn_of_wp_marks Try.func130 rfl trivial ?_ rfl
      simp only [Try.ntmps130, List.size_toArray, List.length_cons, List.length_nil, Nat.reduceAdd, Nat.reduceSub, Array.replicate_succ, Array.replicate_zero, List.push_toArray, List.append_toArray, List.nil_append, List.cons_append]
      gi_wp2_with fail
      refine ⟨.int .i64 2, ?_, by rw [HE.out]; rfl, (Below.refl _ _).alloc (Nat.le_refl _) _⟩
      simp [results, Try.f130, go_sem]
  have t3 : decide (data < 1) = false := by simp; omega
  have t4 : decide ((parts.length : Int) < data) = false := by simp; omega
  rcases h with h | ⟨b, o, A, C, rfl, hM⟩
  · rw [h] at h1; simp at h1
  cases hL : longB parts with
  | false => exact pCheck_loop b o cap parts A C data w hM (by omega) (by omega) (by omega) (by omega) hL
  | true =>
    have HE := Lib.hid (show parErr parts data = 5 by unfold parErr; rw [if_neg h1, if_neg h2, if_pos hL])
    have HL := Lib.hid hL
    have HM := Lib.hid hM
    clear hL hM h1 h2
    refine (callsIn_wide (n := 3)).1 ?_
    refine callsIn_of_wp_marks Try.func130 rfl trivial ?_ rfl
    simp only [Try.ntmps130, List.size_toArray, List.length_cons, List.length_nil, Nat.reduceAdd, Nat.reduceSub, Array.replicate_succ, Array.replicate_zero, List.push_toArray, List.append_toArray, List.nil_append, List.cons_append]
    gi_wp2_with fail
    refine ⟨trivial, ?_⟩
    refine (callsIn_wide.2 (ContainsFunc_long b o parts.length cap (fun i => .slice (A i) (plen parts i) (C i)) (fun i => decide (65536 < plen parts i)) _ (by omega) ?hc ?hf)).mono ?_
    case hc =>
      intro i hi
      exact ((HM.out.new ((Below.refl w.heap.size w).alloc (Nat.le_refl _) _)) i _ (getD_some (d := []) hi)).1
    case hf => exact fun i hi => long_any _ _ _ _
    rintro e w1 ⟨rfl, rfl⟩
    rw [any_firstOf, show ((List.range parts.length).any fun i => decide (65536 < plen parts i)) = longB parts from rfl, HL.out]
    gi_wp2_with fail
    refine ⟨.int .i64 5, ?_, by rw [HE.out]; rfl, (Below.refl _ _).alloc (Nat.le_refl _) _⟩
    simp [results, Try.f130, go_sem]
end Go.Proofs.Ytkclmfppjhmnjaa

namespace Go.Proofs.Ytkclmfppjhmnjaa
open Go.RowKit

set_option maxRecDepth 100000 in
set_option maxHeartbeats 400000 in
theorem Grow_nil (n : Nat) (w : World) (hn : n ≤ 1000000000000) :
    Calls Try.prog 115 #[.slice none 0 0, .int .i64 n] w fun e w' => ∃ v, e = .returned v ∧ w'.ownsRow w.heap.size 5 1 v 0 [] ∧ Below w.heap.size w w' := by
  by_cases h0 : n = 0
  · subst h0
    go_enter Try.func115, Try.ntmps115
    go_wp2
    go_ret
    exact ⟨.slice none 0 0, rfl, World.ownsRow_nil _ _ _ _, Below.refl _ _⟩
  obtain ⟨i0, hi, hz0, hz1, hz2⟩ := info_parts infoByte
  have hgc := grownCap_ge w n 0 5
  have hgm := grownCap_le_maxLen w n 0 5 (by unfold maxLen; omega)
  have hr := Lib.run_append_nil_zeros (P := Try.prog) w 26 3 26 5 i0 (.int .u8 0) .i64 .i64 Try.underlying26 Try.underlying3 hi hz0 n (by omega) (by omega) (by omega) (by rw [hz2]; omega)
  generalize grownCap w n 0 5 = gc at *
  have Hr := Lib.hid hr
  have Hgm := Lib.hid hgm
  clear hr hz0 hz1 hz2 hi hgm
  go_enter Try.func115, Try.ntmps115
  go_wp2_with (refine Lib.wpList_append_run _ rfl _ _ 26 3 rfl (.slice none 0 0) (.int .i64 n) rfl rfl _ _ Hr.out ?_)
  go_ret
  refine ⟨_, rfl, ?_, ((Below.refl _ _).drew).alloc (Nat.le_refl _) _⟩
  refine World.ownsRow_made (base := w.heap.size) w.drew _ gc (Nat.le_refl _) Hgm.out ?_
  simp [size_zeroCells]
  omega

/-- The first k rows, one behind the other. -/
def cat (m : List (List Nat)) (k : Nat) : List Nat := (m.take k).flatten

theorem cat_succ {m : List (List Nat)} {k : Nat} {r : List Nat} (h : m[k]? = some r) : cat m (k + 1) = cat m k ++ r := by
  unfold cat
  rw [List.take_add_one, h]; simp

theorem cat_all {m : List (List Nat)} {k : Nat} (h : m.length ≤ k) : cat m k = m.flatten := by
  unfold cat; rw [List.take_of_length_le h]

theorem cat_le (m : List (List Nat)) (k : Nat) : (cat m k).length ≤ m.flatten.length := by
  have : m.flatten = (m.take k).flatten ++ (m.drop k).flatten := by rw [← List.flatten_append, List.take_append_drop]
  rw [this, List.length_append]; unfold cat; omega

set_option maxRecDepth 100000 in
set_option maxHeartbeats 1000000 in
theorem Concat_any (b o cap : Nat) (m : List (List Nat)) (A : Nat → Option Addr) (C : Nat → Nat) (w : World) (hN : m.length ≤ 1000000000) (hF : m.flatten.length ≤ 1000000000000) (hM : MxAt w b o m A C) :
    Calls Try.prog 96 #[.slice (some ⟨b, o, none⟩) m.length cap] w fun e w' => ∃ v, e = .returned v ∧ w'.ownsRow w.heap.size 5 1 v m.flatten.length (m.flatten.map bv) ∧ Below w.heap.size w w' := by
  obtain ⟨i0, hi, hz0, hz1, hz2⟩ := info_parts infoByte
  have HM := Lib.hid hM
  clear hM
  go_enter Try.func96, Try.ntmps96
  go_wp2_with fail
  go_loopg [3, 11] m.length (fun gk s i wr => ∃ k : Nat, k + gk = m.length ∧ i = .int .i64 k ∧ s = .int .i64 (cat m k).length ∧ w = wr)
  case atStart => exact ⟨0, by omega, rfl, rfl, rfl⟩
  case round =>
    obtain ⟨k, hgk, rfl, rfl, rfl⟩ := hrel
    have Hgk := Lib.hid hgk
    have hk : k ≤ m.length := by omega
    clear hgk
    by_cases hlt : k < m.length
    · have hmk : m[k]? = some (m.getD k []) := getD_some hlt
      have hcell := (HM.out k _ hmk).1
      have hfl := Lib.hid (congrArg List.length (cat_succ hmk))
      have hb1 := cat_le m k
      have hb2 := cat_le m (k + 1)
      rw [hfl.out, List.length_append] at hb2
      generalize m.getD k [] = r at *
      generalize hL : (cat m k).length = L at *
      clear hmk
      go_wp2_with fail
      go_roundg (m.length - k - 1)
      case measure => have := Hgk.out; omega
      case rel =>
        have := Hgk.out
        refine ⟨k + 1, by omega, by go_num, ?_, rfl⟩
        rw [hfl.out, List.length_append, hL]; go_num
    · have hkm := cat_le m k
      go_wp2_with fail
      refine (Grow_nil _ _ (by omega)).mono ?_
      rintro e w1 ⟨v, rfl, hown, hB1⟩
      have Hown := Lib.hid hown
      have HB1 := Lib.hid hB1
      clear hown hB1
      obtain ⟨w0, rfl⟩ : ∃ w0 : World, w0 = w := ⟨_, rfl⟩
      go_wp2_with fail
      go_loopg [6, 27] m.length (fun gk v i wr => ∃ k : Nat, k + gk = m.length ∧ i = .int .i64 k ∧ Hid (wr.ownsRow w0.heap.size 5 1 v (cat m k).length ((cat m k).map bv)) ∧ Hid (Below w0.heap.size w0 wr))
      case atStart => exact ⟨0, by omega, rfl, Hown.out, HB1.out⟩
      case round =>
        obtain ⟨j, hgj, rfl, hO, hB⟩ := hrel
        have Hgj := Lib.hid hgj
        have hj : j ≤ m.length := by omega
        clear hgj Hown HB1
        by_cases hlt2 : j < m.length
        · have hmj : m[j]? = some (m.getD j []) := getD_some hlt2
          have hMj := (HM.out.new hB.out) j _ hmj
          have hfl := cat_succ hmj
          have hb2 := cat_le m (j + 1)
          rw [hfl, List.length_append] at hb2
          generalize m.getD j [] = r at *
          have hcell := hMj.1
          have Hfl := Lib.hid hfl
          have hsz := hB.out.size
          have fin : ∀ (v' : Value) (w' : World), w'.ownsRow w0.heap.size 5 1 v' ((cat m j).length + r.length) ((cat m j).map bv ++ r.map bv) → wr.grownBy w' u6.ownBlock →
              w'.ownsRow w0.heap.size 5 1 v' (cat m (j + 1)).length ((cat m (j + 1)).map bv) ∧ Below w0.heap.size w0 w' := by
            intro v' w' h1 h2
            rw [hfl, List.length_append, List.map_append]
            exact ⟨h1, hB.out.grown h2 hsz fun q hq => (owns_block hO.out hq).2.1⟩
          have Fin := Lib.hid fin
          clear fin hfl
          cases hA : A j with
          | none =>
            have hr0 : r = [] := by
              rcases hMj.2.2.1 with h | ⟨b', o', h, _⟩
              · exact h
              · rw [hA] at h; cases h
            subst hr0
            rw [hA, hMj.2.2.2 hA] at hcell
            have h3 := Lib.hid (Fin.out u6 wr (by simpa using hO.out) ⟨rfl, rfl, rfl, Nat.le_refl _, fun _ _ _ => rfl⟩)
            clear hMj hmj hA
            go_wp2_with (at_builtin; refine wpList_append_own_none rfl _ _ 26 rfl w0.heap.size 5 i0 1 Try.underlying26 hi _ _ _ rfl hO.out rfl ?_)
            go_roundg (m.length - j - 1)
            case measure => have := Hgj.out; omega
            case rel => exact ⟨j + 1, by have := Hgj.out; omega, by go_num, h3.out.1, h3.out.2⟩
          | some a =>
            rw [hA] at hcell
            have hnews : ∀ i u, (r.map bv)[i]? = some u → wr.cell? (a.add i) = some u := by
              rcases hMj.2.2.1 with h | ⟨b', o', h, hrow⟩
              · subst h; simp
              · rw [hA] at h
                simp only [Option.some.injEq] at h
                subst h
                exact hrow.src (Below.refl _ _)
            have Hnews := Lib.hid hnews
            clear hMj hmj hA hnews
            go_wp2_with (at_builtin; refine wpList_append_own _ rfl _ _ 26 rfl w0.heap.size 5 i0 (.int .u8 0) 1 1 Try.underlying26 hi hz0 hz1 hz2 rfl (by decide) _ _ _ rfl hO.out a r.length _ (r.map bv) rfl ?c1 ?c2 ?c3 ?c4 ?c5 ?c6 ?_)
            case c1 => simp
            case c2 => exact Hnews.out
            case c3 => intro u hu; obtain ⟨x, _, rfl⟩ := List.mem_map.1 hu; rfl
            case c4 => unfold maxLen; omega
            case c5 => omega
            case c6 => exact hsz
            intro v' w' h1 h2 _
            have h3 := Lib.hid (Fin.out v' w' h1 h2)
            clear h1 h2
            go_wp2_with fail
            go_roundg (m.length - j - 1)
            case measure => have := Hgj.out; omega
            case rel => exact ⟨j + 1, by have := Hgj.out; omega, by go_num, h3.out.1, h3.out.2⟩
        · have hO2 := hO.out
          rw [cat_all (by omega)] at hO2
          have HO2 := Lib.hid hO2
          clear hO hO2
          go_wp2_with fail
          go_ret
          exact ⟨_, rfl, HO2.out, hB.out⟩
end Go.Proofs.Ytkclmfppjhmnjaa
