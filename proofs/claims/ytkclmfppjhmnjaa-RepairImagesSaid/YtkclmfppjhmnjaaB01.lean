/- Contracts of galois.Power and of the reference's Mul, Inv, Power. -/
/- Contracts of slices.Clone, IndexFunc and ContainsFunc at the types of galois, and of its closures and isMatrix. -/
import Derived.Test.YtkclmfppjhmnjaaB00
namespace Go.Proofs.Ytkclmfppjhmnjaa
open Go.RowKit

theorem rstep_x (s : Nat × Nat × Nat) (hp : s.1 < 256) (hx : s.2.1 < 256) :
    ((s.2.2 : Int) % 2 = 1 → bits .xor .i64 (s.1 : Int) (s.2.1 : Int) = ((Gf.rstep s).1 : Int)) ∧ (¬ (s.2.2 : Int) % 2 = 1 → (s.1 : Int) = ((Gf.rstep s).1 : Int)) ∧
    (256 ≤ 2 * (s.2.1 : Int) → bits .xor .i64 (2 * (s.2.1 : Int)) 285 = ((Gf.rstep s).2.1 : Int)) ∧ (2 * (s.2.1 : Int) < 256 → 2 * (s.2.1 : Int) = ((Gf.rstep s).2.1 : Int)) ∧
    (s.2.2 : Int) / 2 = ((Gf.rstep s).2.2 : Int) := by
  obtain ⟨p, x, y⟩ := s
  dsimp only at hp hx ⊢
  refine ⟨fun h => ?_, fun h => ?_, fun h => ?_, fun h => ?_, ?_⟩
  · rw [bits_xor_i64_nat _ _ (by omega) (by omega)]
    show _ = (((if y % 2 = 1 then p ^^^ x else p : Nat)) : Int)
    rw [if_pos (by omega)]
  · show _ = (((if y % 2 = 1 then p ^^^ x else p : Nat)) : Int)
    rw [if_neg (by omega)]
  · show _ = ((Gf.xt x : Nat) : Int)
    rw [Gf.xt, if_pos (by omega), ← bits_xor_i64_nat _ _ (by omega) (by omega)]
    congr 1
  · show _ = ((Gf.xt x : Nat) : Int)
    rw [Gf.xt, if_neg (by omega)]
    omega
  · show _ = ((y / 2 : Nat) : Int)
    omega

set_option maxRecDepth 100000 in
set_option maxHeartbeats 400000 in
theorem rMul_any (a b : Nat) (w : World) (ha : a < 256) (hb : b < 256) :
    Calls Try.prog 109 #[.int .u8 a, .int .u8 b] w fun e w' => e = .returned (.int .u8 (Gf.gm a b)) ∧ w = w' := by
  rw [← Gf.rm_eq_gm ha hb]
  go_enter Try.func109, Try.ntmps109
  go_wp2
  go_loop [5, 6, 7, 8] (fun p x y i => ∃ k : Nat, k ≤ 8 ∧ i = .int .i64 k ∧ p = .int .i64 (Gf.rst a b k).1 ∧ x = .int .i64 (Gf.rst a b k).2.1 ∧ y = .int .i64 (Gf.rst a b k).2.2) (fun _ _ _ i => 8 - (intOf i).toNat)
  case atStart => exact ⟨0, by omega, rfl, rfl, rfl, rfl⟩
  case round =>
    obtain ⟨k, hk, rfl, rfl, rfl, rfl⟩ := hrel
    obtain ⟨q1, q2⟩ := Gf.rst_lt (b := b) ha k
    have q3 := Gf.rst_le a b k
    by_cases hlt : k < 8
    · have hx := Lib.hid (rstep_x _ q1 q2)
      have hr := Lib.hid (show Gf.rst a b (k + 1) = Gf.rstep (Gf.rst a b k) from rfl)
      generalize Gf.rst a b k = s at *
      go_wp2
      all_goals
        go_round
        case rel =>
          obtain ⟨x1, x2, x3, x4, x5⟩ := hx.out
          refine ⟨k + 1, by omega, by go_num, ?_, ?_, ?_⟩
          all_goals rw [hr.out]
          · first | exact congrArg (Value.int .i64) (x1 (by simp_all)) | exact congrArg (Value.int .i64) (x2 (by simp_all))
          · first | exact congrArg (Value.int .i64) (x3 ‹_›) | exact congrArg (Value.int .i64) (x4 ‹_›)
          · exact congrArg (Value.int .i64) x5
        case measure => simp [intOf]; omega
    · have he := Lib.hid (show Gf.rm a b = (Gf.rst a b k).1 by rw [show k = 8 by omega]; rfl)
      generalize Gf.rst a b k = s at *
      go_wp2
      go_ret
      exact ⟨by rw [he.out]; rfl, rfl⟩

set_option maxRecDepth 100000 in
set_option maxHeartbeats 400000 in
theorem rInv_any (a : Nat) (w : World) (ha : a < 256) :
    Calls Try.prog 128 #[.int .u8 a] w fun e w' => e = .returned (.tuple #[.int .u8 (Gf.gi0 a), .int .i64 (Gf.ge0 a)]) ∧ w = w' := by
  go_enter Try.func128, Try.ntmps128
  go_wp2
  go_loop [4] (fun i => ∃ k : Nat, 1 ≤ k ∧ k ≤ 256 ∧ i = .int .i64 k ∧ Hid (∀ j, 1 ≤ j → j < k → Gf.gm a j ≠ 1)) (fun i => 256 - (intOf i).toNat)
  case atStart => exact ⟨1, by omega, by omega, rfl, fun j h1 h2 => by omega⟩
  case round =>
    obtain ⟨k, hk1, hk2, rfl, hn⟩ := hrel
    by_cases hlt : k < 256
    · by_cases h1 : Gf.gm a k = 1
      · have hb : ((Gf.gm a k : Int) == 1) = true := by rw [h1]; rfl
        have H1 := Lib.hid h1
        clear h1 hn
        go_wp2_with fail
        refine (rMul_any _ _ _ ha hlt).mono ?_
        rintro e w' ⟨rfl, rfl⟩
        go_wp2_with fail
        go_ret2
        have a0 : a ≠ 0 := by intro h; have := H1.out; rw [h, Gf.gm_zero_left] at this; exact absurd this (by decide)
        rw [Gf.gi0_ne a0, Gf.ge0_ne a0, ← Gf.gi_unique ha hlt H1.out]
        exact ⟨rfl, rfl⟩
      · have hb : ((Gf.gm a k : Int) == 1) = false := by simp; omega
        have H1 := Lib.hid h1
        clear h1
        go_wp2_with fail
        refine (rMul_any _ _ _ ha hlt).mono ?_
        rintro e w' ⟨rfl, rfl⟩
        go_wp2_with fail
        go_round
        case rel =>
          refine ⟨k + 1, by omega, by omega, by go_num, fun j h1 h2 => ?_⟩
          by_cases hj : j = k
          · subst hj; exact H1.out
          · exact hn.out j h1 (by omega)
        case measure => simp [intOf]; omega
    · go_wp2_with fail
      go_ret2
      have a0 : a = 0 := by
        apply Classical.byContradiction
        intro a0
        have := Gf.gi_lt a
        exact hn.out (Gf.gi a) (Nat.pos_of_ne_zero (Gf.gi_ne a)) (by omega) (Gf.gm_gi ha a0)
      rw [a0, Gf.gi0_zero, Gf.ge0_zero]
      exact ⟨rfl, rfl⟩

/-- The reference's power where the base is not 0: k rounds of products. -/
theorem gpn_succ (a k : Nat) : Gf.gpn a (k + 1) = Gf.gm (Gf.gpn a k) a := rfl

end Go.Proofs.Ytkclmfppjhmnjaa

namespace Go.Proofs.Ytkclmfppjhmnjaa
open Go.RowKit

theorem infoByte : (Try.prog.info? 5).map (fun i => (i.zero, i.size, i.bytes)) = some (some (.int .u8 0), 1, 1) := by kernel_rfl
theorem infoBytes : (Try.prog.info? 26).map (fun i => (i.zero, i.size, i.bytes)) = some (some (.slice none 0 0), 1, 24) := by kernel_rfl

theorem eqnil (w : World) (a : Option Addr) (l c : Nat) : (binOp .eql 26 (.slice a l c) (.slice none 0 0)).run Try.prog w = .ok (.bool a.isNone) w := Lib.run_eql_slice_nil (P := Try.prog) w 26 5 a l c 0 0 Try.underlying26

theorem noBytes (w : World) : (Instr.buildSlice 26 0 #[]).run Try.prog w = .ok (.slice (some ⟨w.heap.size, 0, none⟩) 0 0) (w.alloc (.cells #[] 5)) := by kernel_rfl

theorem RowAt.src {w w' : World} {b o : Nat} {l : List Nat} (h : RowAt w b o l) (hb : Below w.heap.size w w') : ∀ j u, (l.map bv)[j]? = some u → w'.cell? ((⟨b, o, none⟩ : Addr).add j) = some u := by
  intro j u hu
  rw [List.getElem?_map] at hu
  cases hx : l[j]? with
  | none => simp [hx] at hu
  | some x =>
    simp only [hx, Option.map_some, Option.some.injEq] at hu
    subst hu
    have h1 := h j x hx
    have h2 : (⟨b, o, none⟩ : Addr).add j = ⟨b, o + j, none⟩ := by unfold Addr.add; split <;> simp_all
    rw [h2, hb.cell (p := ⟨b, o + j, none⟩) (World.block_lt_of_cell? w _ h1)]
    exact h1

set_option maxRecDepth 100000 in
set_option maxHeartbeats 400000 in
theorem Clone_any (b o : Nat) (l : List Nat) (cap : Nat) (w : World) (hb : l.length ≤ 1000000000) (hr : Hid (RowAt w b o l)) :
    Calls Try.prog 30 #[.slice (some ⟨b, o, none⟩) l.length cap] w fun e w' => ∃ g cap', e = .returned (.slice (some ⟨g, 0, none⟩) l.length cap') ∧ w.heap.size ≤ g ∧ l.length ≤ cap' ∧ cap' ≤ maxLen ∧ Blk w' g 5 (l.map bv) ∧ Below w.heap.size w w' := by
  have q1 := eqnil
  have q2 := noBytes
  obtain ⟨i0, hi, hz0, hz1, hz2⟩ := info_parts infoByte
  go_enter Try.func30, Try.ntmps30
  go_wp2_with (at_builtin; refine wpList_append_own _ rfl _ _ 26 rfl w.heap.size 5 i0 (.int .u8 0) 1 1 Try.underlying26 hi hz0 hz1 hz2 rfl (by decide) _ 0 [] rfl (World.ownsRow_made w #[] 0 (Nat.le_refl _) (by decide) rfl) ⟨b, o, none⟩ l.length cap (l.map bv) rfl ?c1 ?c2 ?c3 ?c4 ?c5 ?c6 ?_)
  case c1 => simp
  case c2 => exact hr.out.src ((Below.refl _ _).alloc (Nat.le_refl _) _)
  case c3 => intro u hu; obtain ⟨x, _, rfl⟩ := List.mem_map.1 hu; rfl
  case c4 => unfold maxLen; omega
  case c5 => omega
  case c6 => simp
  intro v' w' hown hg _
  have hv : ∃ g cap', v' = .slice (some ⟨g, 0, none⟩) l.length cap' ∧ w.heap.size ≤ g ∧ l.length ≤ cap' ∧ cap' ≤ maxLen := by
    rcases hown.2 with ⟨h0, _⟩ | ⟨g, cap', cur, hv, h1, _, h3, h4, _⟩
    · exact absurd h0 ‹_›
    · exact ⟨g, cap', hv, h1, h3, h4⟩
  obtain ⟨g, cap', hv, h1, h3, h4⟩ := hv
  rw [hv] at hown
  have hB : Below w.heap.size w w' := ((Below.refl _ _).alloc (Nat.le_refl _) _).grown hg (by simp) (by intro k hk; simp [Value.ownBlock] at hk; omega)
  have H := Lib.hid (Blk.of_owns hown)
  rw [hv]
  clear hown hv hg
  go_wp2
  go_ret
  exact ⟨g, cap', rfl, h1, h3, h4, H.out, hB⟩

set_option maxRecDepth 100000 in
set_option maxHeartbeats 400000 in
theorem IndexFunc_isMatrix1 (b o n cap : Nat) (V : Nat → Value) (c : Value) (p : Nat → Bool) (w : World) (hn : n ≤ 1000000000) (hc : Hid (∀ i, i < n → w.cell? ⟨b, o + i, none⟩ = some (V i)))
    (hf : Hid (∀ i, i < n → Calls Try.prog 142 #[V i, c] w fun e w' => e = .returned (.bool (p i)) ∧ w = w')) :
    Calls Try.prog 103 #[.slice (some ⟨b, o, none⟩) n cap, .func (.func 142) #[] #[c]] w fun e w' => e = .returned (.int .i64 (firstOf p n)) ∧ w = w' := by
  go_enter Try.func103, Try.ntmps103
  go_wp2
  go_loop [8] (fun i => ∃ k : Nat, k ≤ n ∧ i = .int .i64 k ∧ Hid (∀ j, j < k → p j = false)) (fun i => n - (intOf i).toNat)
  case atStart => exact ⟨0, by omega, rfl, fun j h => by omega⟩
  case round =>
    obtain ⟨k, hk, rfl, hp⟩ := hrel
    by_cases hlt : k < n
    · have hcell := hc.out k hlt
      have hcall := Lib.hid (hf.out k hlt)
      cases hpk : p k with
      | true =>
        have Hpk := Lib.hid hpk
        clear hpk
        go_wp2_with fail
        refine hcall.out.mono ?_
        rintro e w' ⟨rfl, rfl⟩
        rw [Hpk.out]
        go_wp2_with fail
        go_ret
        exact ⟨by rw [firstOf_hit hlt Hpk.out hp.out]; rfl, rfl⟩
      | false =>
        have Hpk := Lib.hid hpk
        clear hpk
        go_wp2_with fail
        refine hcall.out.mono ?_
        rintro e w' ⟨rfl, rfl⟩
        rw [Hpk.out]
        go_wp2_with fail
        go_round
        case rel =>
          refine ⟨k + 1, by omega, by go_num, fun j hj => ?_⟩
          by_cases h : j = k
          · subst h; exact Hpk.out
          · exact hp.out j (by omega)
        case measure => simp [intOf]; omega
    · go_wp2_with fail
      go_ret
      exact ⟨by rw [firstOf_none (fun j hj => hp.out j (by omega))]; rfl, rfl⟩
set_option maxRecDepth 100000 in
set_option maxHeartbeats 400000 in
theorem IndexFunc_reduced2 (b o n cap : Nat) (V : Nat → Value) (c : Value) (p : Nat → Bool) (w : World) (hn : n ≤ 1000000000) (hc : Hid (∀ i, i < n → w.cell? ⟨b, o + i, none⟩ = some (V i)))
    (hf : Hid (∀ i, i < n → Calls Try.prog 144 #[V i, c] w fun e w' => e = .returned (.bool (p i)) ∧ w = w')) :
    Calls Try.prog 103 #[.slice (some ⟨b, o, none⟩) n cap, .func (.func 144) #[] #[c]] w fun e w' => e = .returned (.int .i64 (firstOf p n)) ∧ w = w' := by
  go_enter Try.func103, Try.ntmps103
  go_wp2
  go_loop [8] (fun i => ∃ k : Nat, k ≤ n ∧ i = .int .i64 k ∧ Hid (∀ j, j < k → p j = false)) (fun i => n - (intOf i).toNat)
  case atStart => exact ⟨0, by omega, rfl, fun j h => by omega⟩
  case round =>
    obtain ⟨k, hk, rfl, hp⟩ := hrel
    by_cases hlt : k < n
    · have hcell := hc.out k hlt
      have hcall := Lib.hid (hf.out k hlt)
      cases hpk : p k with
      | true =>
        have Hpk := Lib.hid hpk
        clear hpk
        go_wp2_with fail
        refine hcall.out.mono ?_
        rintro e w' ⟨rfl, rfl⟩
        rw [Hpk.out]
        go_wp2_with fail
        go_ret
        exact ⟨by rw [firstOf_hit hlt Hpk.out hp.out]; rfl, rfl⟩
      | false =>
        have Hpk := Lib.hid hpk
        clear hpk
        go_wp2_with fail
        refine hcall.out.mono ?_
        rintro e w' ⟨rfl, rfl⟩
        rw [Hpk.out]
        go_wp2_with fail
        go_round
        case rel =>
          refine ⟨k + 1, by omega, by go_num, fun j hj => ?_⟩
          by_cases h : j = k
          · subst h; exact Hpk.out
          · exact hp.out j (by omega)
        case measure => simp [intOf]; omega
    · go_wp2_with fail
      go_ret
      exact ⟨by rw [firstOf_none (fun j hj => hp.out j (by omega))]; rfl, rfl⟩

set_option maxRecDepth 100000 in
set_option maxHeartbeats 400000 in
theorem reduced2_any (b o n cap pc c x : Nat) (w : World) (hcn : c < n) (hp : w.cell? ⟨pc, 0, none⟩ = some (.int .i64 c)) (hc : w.cell? ⟨b, o + c, none⟩ = some (.int .u8 x)) :
    Calls Try.prog 144 #[.slice (some ⟨b, o, none⟩) n cap, .pointer (some ⟨pc, 0, none⟩)] w fun e w' => e = .returned (.bool (x != 0)) ∧ w = w' := by
  go_enter Try.func144, Try.ntmps144
  go_wp2
  go_ret
  refine ⟨?_, rfl⟩
  show Ending.returned (.bool ((x : Int) != 0)) = _
  congr 2
  rw [Bool.eq_iff_iff]; simp

set_option maxRecDepth 100000 in
set_option maxHeartbeats 400000 in
theorem isMatrix1_any (a a0 : Option Addr) (n c pc b o m cap n0 c0 : Nat) (w : World) (hm : 0 < m) (hp : w.cell? ⟨pc, 0, none⟩ = some (.slice (some ⟨b, o, none⟩) m cap)) (hc : w.cell? ⟨b, o, none⟩ = some (.slice a0 n0 c0)) :
    Calls Try.prog 142 #[.slice a n c, .pointer (some ⟨pc, 0, none⟩)] w fun e w' => e = .returned (.bool (n != n0)) ∧ w = w' := by
  go_enter Try.func142, Try.ntmps142
  go_wp2
  go_ret
  refine ⟨?_, rfl⟩
  show Ending.returned (.bool ((n : Int) != (n0 : Int))) = _
  congr 2
  rw [Bool.eq_iff_iff]; simp; omega

set_option maxRecDepth 100000 in
set_option maxHeartbeats 400000 in
theorem ContainsFunc_isMatrix1 (b o n cap : Nat) (V : Nat → Value) (c : Value) (p : Nat → Bool) (w : World) (hn : n ≤ 1000000000) (hc : Hid (∀ i, i < n → w.cell? ⟨b, o + i, none⟩ = some (V i)))
    (hf : Hid (∀ i, i < n → Calls Try.prog 142 #[V i, c] w fun e w' => e = .returned (.bool (p i)) ∧ w = w')) :
    Calls Try.prog 85 #[.slice (some ⟨b, o, none⟩) n cap, .func (.func 142) #[] #[c]] w fun e w' => e = .returned (.bool (decide (0 ≤ firstOf p n))) ∧ w = w' := by
  go_enter Try.func85, Try.ntmps85
  go_wp2_with fail
  refine (IndexFunc_isMatrix1 b o n cap V c p w hn hc hf).mono ?_
  rintro e w' ⟨rfl, rfl⟩
  go_wp2_with fail
  go_ret
  exact ⟨rfl, rfl⟩

theorem any_firstOf (p : Nat → Bool) (n : Nat) : decide (0 ≤ firstOf p n) = (List.range n).any p := by
  cases h : (List.range n).any p with
  | true =>
    obtain ⟨x, hx, hp⟩ := List.any_eq_true.1 h
    have : ∃ y, (List.range n).find? p = some y := Option.isSome_iff_exists.1 (by rw [List.find?_isSome]; exact ⟨x, hx, hp⟩)
    obtain ⟨y, hy⟩ := this
    simp [firstOf, hy]
  | false =>
    rw [firstOf_none]
    · rfl
    · intro j hj
      have := List.any_eq_false.1 h j (List.mem_range.2 hj)
      simpa using this

theorem isMatB_rows {m : List (List Nat)} (h1 : 1 ≤ m.length) (h2 : m.length ≤ 64) (h3 : 1 ≤ (m.getD 0 []).length) (h4 : (m.getD 0 []).length ≤ 64) :
    (!(List.range m.length).any fun i => (m.getD i []).length != (m.getD 0 []).length) = isMatB m := by
  rw [Bool.eq_iff_iff]
  simp only [Bool.not_eq_true', List.any_eq_false, isMatB, decide_eq_true_eq]
  constructor
  · intro h
    refine ⟨h1, h2, h3, h4, fun r hr => ?_⟩
    obtain ⟨i, hi⟩ := List.mem_iff_getElem?.1 hr
    have hl := (List.getElem?_eq_some_iff.1 hi).1
    have := h i (List.mem_range.2 hl)
    rw [List.getD_eq_getElem?_getD, hi] at this
    simpa using this
  · rintro ⟨_, _, _, _, h⟩ x hx
    have hx' := List.mem_range.1 hx
    rw [List.getD_eq_getElem?_getD, List.getElem?_eq_getElem hx']
    simpa using h _ (List.getElem_mem hx')

set_option maxRecDepth 100000 in
set_option maxHeartbeats 400000 in
theorem isMatrix_any (v : Value) (m : List (List Nat)) (w : World) (hn : m.length ≤ 1000000000) (hm : Mx w v m) :
    Calls Try.prog 139 #[v] w fun e w' => e = .returned (.bool (isMatB m)) ∧ Below w.heap.size w w' := by
  obtain ⟨a, cap, rfl, hcap, hm⟩ := hm
  by_cases c1 : m.length < 1
  · have hr := Lib.hid (show isMatB m = false from decide_eq_false fun ⟨_, _, _, _, _⟩ => by omega)
    clear hm
    go_enter Try.func139, Try.ntmps139
    go_wp2
    go_ret
    exact ⟨by rw [hr.out]; rfl, (Below.refl _ _).alloc (Nat.le_refl _) _⟩
  by_cases c2 : 64 < m.length
  · have hr := Lib.hid (show isMatB m = false from decide_eq_false fun ⟨_, _, _, _, _⟩ => by omega)
    clear hm
    go_enter Try.func139, Try.ntmps139
    go_wp2
    go_ret
    exact ⟨by rw [hr.out]; rfl, (Below.refl _ _).alloc (Nat.le_refl _) _⟩
  rcases hm with hm | ⟨b, o, A, C, rfl, hm⟩
  · subst hm; simp at c1
  have h0 : m[0]? = some (m.getD 0 []) := by rw [List.getD_eq_getElem?_getD, List.getElem?_eq_getElem (by omega)]; rfl
  have hcell := (hm 0 _ h0).1
  rw [Nat.add_zero] at hcell
  have hm' := hm.new ((Below.refl w.heap.size w).alloc (Nat.le_refl _) (.cells #[.slice (some ⟨b, o, none⟩) m.length cap] 44))
  have hlt : b < w.heap.size := World.block_lt_of_cell? w _ hcell
  have Hm := Lib.hid hm'
  clear hm hm' h0
  by_cases c3 : (m.getD 0 []).length < 1
  · have hr := Lib.hid (show isMatB m = false from decide_eq_false fun ⟨_, _, _, _, _⟩ => by omega)
    generalize (m.getD 0 []).length = r0 at *
    go_enter Try.func139, Try.ntmps139
    go_wp2
    go_ret
    exact ⟨by rw [hr.out]; rfl, (Below.refl _ _).alloc (Nat.le_refl _) _⟩
  by_cases c4 : 64 < (m.getD 0 []).length
  · have hr := Lib.hid (show isMatB m = false from decide_eq_false fun ⟨_, _, _, _, _⟩ => by omega)
    generalize (m.getD 0 []).length = r0 at *
    go_enter Try.func139, Try.ntmps139
    go_wp2
    go_ret
    exact ⟨by rw [hr.out]; rfl, (Below.refl _ _).alloc (Nat.le_refl _) _⟩
  have hr := Lib.hid (isMatB_rows (m := m) (by omega) (by omega) (by omega) (by omega))
  generalize h0 : (m.getD 0 []).length = r0 at *
  have H0 := Lib.hid h0
  clear h0
  have hbox : (w.alloc (.cells #[.slice (some ⟨b, o, none⟩) m.length cap] 44)).cell? ⟨w.heap.size, 0, none⟩ = some (.slice (some ⟨b, o, none⟩) m.length cap) := (Blk.new w 44 #[.slice (some ⟨b, o, none⟩) m.length cap]).cell (i := 0) rfl
  go_enter Try.func139, Try.ntmps139
  go_wp2_with fail
  refine (ContainsFunc_isMatrix1 b o m.length cap (fun i => .slice (A i) (m.getD i []).length (C i)) _ (fun i => (m.getD i []).length != r0) _ hn ?hc ?hf).mono ?_
  case hc =>
    intro i hi
    exact (Hm.out i (m.getD i []) (by rw [List.getD_eq_getElem?_getD, List.getElem?_eq_getElem hi]; rfl)).1
  case hf =>
    intro i hi
    refine isMatrix1_any _ (A 0) _ _ _ b o m.length cap r0 (C 0) _ (by omega) hbox ?_
    have := (Hm.out 0 (m.getD 0 []) (by rw [List.getD_eq_getElem?_getD, List.getElem?_eq_getElem (by omega)]; rfl)).1
    rw [H0.out, Nat.add_zero] at this
    exact this
  rintro e w' ⟨rfl, rfl⟩
  rw [any_firstOf]
  go_wp2_with fail
  go_ret
  exact ⟨by rw [← hr.out]; rfl, (Below.refl _ _).alloc (Nat.le_refl _) _⟩
end Go.Proofs.Ytkclmfppjhmnjaa
