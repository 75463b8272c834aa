/- Contracts of disk.Check, fits, contents, Read. -/
import Derived.Test.YtkclmfppjhmnjaaDk1
import Derived.Test.YtkclmfppjhmnjaaLin
import Derived.Deep.DeepCutAuto
namespace Go.Proofs.Ytkclmfppjhmnjaa
open Go.RowKit Img

set_option maxRecDepth 100000 in
set_option maxHeartbeats 400000 in
theorem dCheck1_any (p : Int × List Nat) (a : Option Addr) (pb n cap : Nat) (w : World) (hp : p.2.length = 16) (hc : w.cell? ⟨pb, 0, none⟩ = some (.slice a n cap)) :
    Calls Try.prog 72 #[.agg (pdv p).toArray, .pointer (some ⟨pb, 0, none⟩)] w fun e w' => e = .returned (.bool (decide (p.1 < 0 ∨ (n : Int) ≤ p.1))) ∧ Below w.heap.size w w' := by
  obtain ⟨z, r⟩ := p
  have hB := (Below.refl w.heap.size w).alloc (Nat.le_refl _) (.cells (pdv (z, r)).toArray 96)
  have c0 : (w.alloc (.cells (pdv (z, r)).toArray 96)).cell? ⟨w.heap.size, 0, none⟩ = some (.int .i64 z) := (Blk.new w 96 (pdv (z, r)).toArray).cell rfl
  have c1 : (w.alloc (.cells (pdv (z, r)).toArray 96)).cell? ⟨pb, 0, none⟩ = some (.slice a n cap) := (hB.cell (p := ⟨pb, 0, none⟩) (World.block_lt_of_cell? w _ hc)).trans hc
  have HB := Lib.hid hB
  clear hB hc hp
  simp only
  by_cases h1 : z < 0
  · have t1 : decide (z < 0) = true := decide_eq_true h1
    have E := Lib.hid (show decide (z < 0 ∨ (n : Int) ≤ z) = true from decide_eq_true (Or.inl h1))
    clear h1
    go_enter Try.func72, Try.ntmps72
    go_wp2_with fail
    go_ret
    exact ⟨by rw [E.out]; rfl, HB.out⟩
  · have t1 : decide (z < 0) = false := decide_eq_false h1
    have E := Lib.hid (show decide (z < 0 ∨ (n : Int) ≤ z) = decide ((n : Int) ≤ z) by simp [h1])
    clear h1
    go_enter Try.func72, Try.ntmps72
    go_wp2_with fail
    go_ret
    exact ⟨by rw [E.out]; rfl, HB.out⟩

theorem pd_size {p : Int × List Nat} (h : p.2.length = 16) : (Try.prog.info? 96).map (·.size) = some (pdv p).length := by
  have : (pdv p).length = 17 := by unfold pdv; rw [List.length_cons, List.length_map, h]
  have h2 : (Try.prog.info? 96).map (·.size) = some 17 := by kernel_rfl
  rw [h2, this]

set_option maxRecDepth 100000 in
set_option maxHeartbeats 400000 in
theorem IndexPd_any (b o n cap : Nat) (q : List (Int × List Nat)) (c : Value) (f : Nat → Bool) (w : World) (hl : q.length = n) (hn : n ≤ 1000000000) (h16 : Q16 q) (hq : PdAt w b o q)
    (hf : Hid (∀ i p, q[i]? = some p → ∀ W, Below w.heap.size w W → Calls Try.prog 72 #[.agg (pdv p).toArray, c] W fun e w' => e = .returned (.bool (f i)) ∧ Below W.heap.size W w')) :
    Calls Try.prog 101 #[.slice (some ⟨b, o, none⟩) n cap, .func (.func 72) #[] #[c]] w fun e w' => e = .returned (.int .i64 (firstOf f n)) ∧ Below w.heap.size w w' := by
  have Hq := Lib.hid hq
  have H16 := Lib.hid h16
  have Hl := Lib.hid hl
  clear hq h16 hl
  go_enter Try.func101, Try.ntmps101
  go_wp2_with fail
  go_loopg [8] n (fun gk i wr => ∃ k : Nat, k + gk = n ∧ i = .int .i64 k ∧ Hid (∀ j, j < k → f j = false) ∧ Hid (Below w.heap.size w wr))
  case atStart => exact ⟨0, by omega, rfl, fun j h => by omega, Below.refl _ _⟩
  case round =>
    obtain ⟨k, hgk, rfl, hp, hB⟩ := hrel
    have Hgk := Lib.hid hgk
    have hkn : k ≤ n := by omega
    clear hgk
    by_cases hlt : k < n
    · have hk : k < q.length := by rw [Hl.out]; exact hlt
      have hpk := List.getElem?_eq_getElem hk
      obtain ⟨p, hpd⟩ : ∃ p, q[k] = p := ⟨_, rfl⟩
      rw [hpd] at hpk
      have Hrg := Lib.hid (range_new (Hq.out k p hpk) hB.out)
      have Hsz := Lib.hid (pd_size (H16.out p (List.mem_of_getElem? hpk)))
      have hcall := Lib.hid (hf.out k p hpk wr hB.out)
      clear hpk hpd hk
      go_wp2_with (refine wpList_load_mid rfl 96 _ rfl b (o + k * 17) rfl (pdv p) _ Hrg.out Try.underlying96 rfl Hsz.out ?_)
      refine hcall.out.mono ?_
      rintro e w' ⟨rfl, hB'⟩
      have HB' := Lib.hid (hB.out.trans (hB'.mono hB.out.size))
      clear hB'
      cases hfk : f k with
      | true =>
        have Hfk := Lib.hid hfk
        clear hfk
        go_wp2_with fail
        go_ret
        exact ⟨by rw [firstOf_hit hlt Hfk.out hp.out]; rfl, HB'.out⟩
      | false =>
        have Hfk := Lib.hid hfk
        clear hfk
        go_wp2_with fail
        go_roundg (n - k - 1)
        case measure => have := Hgk.out; omega
        case rel =>
          refine ⟨k + 1, by have := Hgk.out; omega, by go_num, fun j hj => ?_, HB'.out⟩
          by_cases h : j = k
          · subst h; exact Hfk.out
          · exact hp.out j (by omega)
    · go_wp2_with fail
      go_ret
      exact ⟨by rw [firstOf_none (fun j hj => hp.out j (by omega))]; rfl, hB.out⟩

set_option maxRecDepth 100000 in
set_option maxHeartbeats 400000 in
theorem IndexPd_nil (a : Option Addr) (cap : Nat) (f : Value) (w : World) : Calls Try.prog 101 #[.slice a 0 cap, f] w fun e w' => e = .returned (.int .i64 (-1)) ∧ w = w' := by
  go_enter Try.func101, Try.ntmps101
  go_wp2_with fail
  go_loop [8] (fun i => i = .int .i64 0) (fun _ => 0)
  case atStart => rfl
  case round =>
    subst hrel
    go_wp2_with fail
    go_ret
    exact ⟨rfl, rfl⟩

/-- Does a pending write lie outside of the disk? -/
def outB (n : Nat) (q : List (Int × List Nat)) : Bool := decide (∃ p ∈ q, p.1 < 0 ∨ (n : Int) ≤ p.1)
theorem firstOf_out (n : Nat) (q : List (Int × List Nat)) : decide (0 ≤ firstOf (fun i => decide ((q.getD i (0, [])).1 < 0 ∨ (n : Int) ≤ (q.getD i (0, [])).1)) q.length) = outB n q := by
  unfold outB
  by_cases h : ∃ i, i < q.length ∧ ((q.getD i (0, [])).1 < 0 ∨ (n : Int) ≤ (q.getD i (0, [])).1)
  · rw [decide_eq_true, decide_eq_true]
    · obtain ⟨i, hi, hx⟩ := h
      exact ⟨q.getD i (0, []), List.mem_of_getElem? (getD_some hi), hx⟩
    · unfold firstOf
      cases hf : (List.range q.length).find? (fun i => decide ((q.getD i (0, [])).1 < 0 ∨ (n : Int) ≤ (q.getD i (0, [])).1)) with
      | some i => simp only; omega
      | none =>
        obtain ⟨i, hi, hx⟩ := h
        have := List.find?_eq_none.1 hf i (List.mem_range.2 hi)
        exact absurd (decide_eq_true hx) this
  · rw [firstOf_none, decide_eq_false, decide_eq_false]
    · rintro ⟨p, hp, hx⟩
      obtain ⟨i, hi⟩ := List.mem_iff_getElem?.1 hp
      have h1 := (List.getElem?_eq_some_iff.1 hi).1
      rw [getD_some (d := (0, [])) h1, Option.some.injEq] at hi
      exact h ⟨i, h1, by rw [hi]; exact hx⟩
    · decide
    · intro j hj
      exact decide_eq_false fun hx => h ⟨j, hj, hx⟩

set_option maxRecDepth 100000 in
set_option maxHeartbeats 400000 in
theorem ContainsPd_any (v : Value) (q : List (Int × List Nat)) (a : Option Addr) (pb n cap : Nat) (w : World) (hn : q.length ≤ 1000000000) (h16 : Q16 q) (hq : Pds w v q) (hc : w.cell? ⟨pb, 0, none⟩ = some (.slice a n cap)) :
    Calls Try.prog 73 #[v, .func (.func 72) #[] #[.pointer (some ⟨pb, 0, none⟩)]] w fun e w' => e = .returned (.bool (outB n q)) ∧ Below w.heap.size w w' := by
  obtain ⟨av, cv, rfl, hcv, hat⟩ := hq
  by_cases h0 : q = []
  · subst h0
    have E := Lib.hid (show outB n [] = false by unfold outB; exact decide_eq_false (by simp))
    clear hat
    go_enter Try.func73, Try.ntmps73
    go_wp2_with fail
    refine (IndexPd_nil _ _ _ _).mono ?_
    rintro e w' ⟨rfl, rfl⟩
    go_wp2_with fail
    go_ret
    exact ⟨by rw [E.out]; rfl, Below.refl _ _⟩
  · obtain ⟨b, o, rfl, hp⟩ : ∃ b o, av = some ⟨b, o, none⟩ ∧ PdAt w b o q := by
      rcases hat with h | h
      · exact absurd h h0
      · exact h
    have H := Lib.hid (IndexPd_any b o q.length cv q (.pointer (some ⟨pb, 0, none⟩)) (fun i => decide ((q.getD i (0, [])).1 < 0 ∨ (n : Int) ≤ (q.getD i (0, [])).1)) w rfl hn h16 hp (fun i p hi W hW => by
      have h1 := (List.getElem?_eq_some_iff.1 hi).1
      have h2 : q.getD i (0, []) = p := by
        have := getD_some (d := (0, [])) h1
        rw [hi, Option.some.injEq] at this
        exact this.symm
      rw [h2]
      exact dCheck1_any p a pb n cap W (h16 p (List.mem_of_getElem? hi)) ((hW.cell (p := ⟨pb, 0, none⟩) (World.block_lt_of_cell? w _ hc)).trans hc)))
    have E := Lib.hid (firstOf_out n q)
    generalize firstOf (fun i => decide ((q.getD i (0, [])).1 < 0 ∨ (n : Int) ≤ (q.getD i (0, [])).1)) q.length = z at *
    clear hat hp hc h16
    go_enter Try.func73, Try.ntmps73
    go_wp2_with fail
    refine H.out.mono ?_
    rintro e w' ⟨rfl, hB⟩
    have HB := Lib.hid hB
    clear hB
    go_wp2_with fail
    go_ret
    exact ⟨by rw [← E.out]; rfl, HB.out⟩
end Go.Proofs.Ytkclmfppjhmnjaa
