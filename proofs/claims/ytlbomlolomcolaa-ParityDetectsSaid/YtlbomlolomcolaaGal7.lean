/- Contracts of slices.Grow and slices.Concat at bytes. -/
import Derived.Test.YtlbomlolomcolaaGal3
import Derived.Test.YtlbomlolomcolaaOwn
import Derived.Lib.AppendZeros
import Derived.Laws.AppendOwnNone
import Derived.Deep.LoopGhost
namespace Go.Proofs.Ytlbomlolomcolaa
open Go.RowKit

set_option maxRecDepth 100000 in
set_option maxHeartbeats 400000 in
theorem Grow_nil (n : Nat) (w : World) (hn : n ≤ 1000000000000) :
    Calls Try.prog 120 #[.slice none 0 0, .int .i64 n] w fun e w' => ∃ v, e = .returned v ∧ w'.ownsRow w.heap.size 5 1 v 0 [] ∧ Below w.heap.size w w' := by
  by_cases h0 : n = 0
  · subst h0
    go_enter Try.func120, Try.ntmps120
    go_wp2
    go_ret
    exact ⟨.slice none 0 0, rfl, World.ownsRow_nil _ _ _ _, Below.refl _ _⟩
  obtain ⟨i0, hi, hz0, hz1, hz2⟩ := info_parts infoByte
  have hgc := grownCap_ge w n 0 5
  have hgm := grownCap_le_maxLen w n 0 5 (by unfold maxLen; omega)
  have hr := Lib.run_append_nil_zeros (P := Try.prog) w 26 3 26 5 i0 (.int .u8 0) .i64 .i64 Try.underlying26 Try.underlying3 hi hz0 n (by omega) (by omega) (by omega) (by rw [hz2]; omega)
  generalize grownCap w n 0 5 = gc at *
  have Hr := Lib.hid hr
  have Hgm := Lib.hid hgm
  clear hr hz0 hz1 hz2 hi hgm
  go_enter Try.func120, Try.ntmps120
  go_wp2_with (refine Lib.wpList_append_run _ rfl _ _ 26 3 rfl (.slice none 0 0) (.int .i64 n) rfl rfl _ _ Hr.out ?_)
  go_ret
  refine ⟨_, rfl, ?_, ((Below.refl _ _).drew).alloc (Nat.le_refl _) _⟩
  refine World.ownsRow_made (base := w.heap.size) w.drew _ gc (Nat.le_refl _) Hgm.out ?_
  simp [size_zeroCells]
  omega

/-- The first k rows, one behind the other. -/
def cat (m : List (List Nat)) (k : Nat) : List Nat := (m.take k).flatten

theorem cat_succ {m : List (List Nat)} {k : Nat} {r : List Nat} (h : m[k]? = some r) : cat m (k + 1) = cat m k ++ r := by
  unfold cat
  rw [List.take_add_one, h]; simp

theorem cat_all {m : List (List Nat)} {k : Nat} (h : m.length ≤ k) : cat m k = m.flatten := by
  unfold cat; rw [List.take_of_length_le h]

theorem cat_le (m : List (List Nat)) (k : Nat) : (cat m k).length ≤ m.flatten.length := by
  have : m.flatten = (m.take k).flatten ++ (m.drop k).flatten := by rw [← List.flatten_append, List.take_append_drop]
  rw [this, List.length_append]; unfold cat; omega

set_option maxRecDepth 100000 in
set_option maxHeartbeats 1000000 in
theorem Concat_any (b o cap : Nat) (m : List (List Nat)) (A : Nat → Option Addr) (C : Nat → Nat) (w : World) (hN : m.length ≤ 1000000000) (hF : m.flatten.length ≤ 1000000000000) (hM : MxAt w b o m A C) :
    Calls Try.prog 106 #[.slice (some ⟨b, o, none⟩) m.length cap] w fun e w' => ∃ v, e = .returned v ∧ w'.ownsRow w.heap.size 5 1 v m.flatten.length (m.flatten.map bv) ∧ Below w.heap.size w w' := by
  obtain ⟨i0, hi, hz0, hz1, hz2⟩ := info_parts infoByte
  have HM := Lib.hid hM
  clear hM
  go_enter Try.func106, Try.ntmps106
  go_wp2_with fail
  go_loopg [3, 11] m.length (fun gk s i wr => ∃ k : Nat, k + gk = m.length ∧ i = .int .i64 k ∧ s = .int .i64 (cat m k).length ∧ w = wr)
  case atStart => exact ⟨0, by omega, rfl, rfl, rfl⟩
  case round =>
    obtain ⟨k, hgk, rfl, rfl, rfl⟩ := hrel
    have Hgk := Lib.hid hgk
    have hk : k ≤ m.length := by omega
    clear hgk
    by_cases hlt : k < m.length
    · have hmk : m[k]? = some (m.getD k []) := getD_some hlt
      have hcell := (HM.out k _ hmk).1
      have hfl := Lib.hid (congrArg List.length (cat_succ hmk))
      have hb1 := cat_le m k
      have hb2 := cat_le m (k + 1)
      rw [hfl.out, List.length_append] at hb2
      generalize m.getD k [] = r at *
      generalize hL : (cat m k).length = L at *
      clear hmk
      go_wp2_with fail
      go_roundg (m.length - k - 1)
      case measure => have := Hgk.out; omega
      case rel =>
        have := Hgk.out
        refine ⟨k + 1, by omega, by go_num, ?_, rfl⟩
        rw [hfl.out, List.length_append, hL]; go_num
    · have hkm := cat_le m k
      go_wp2_with fail
      refine (Grow_nil _ _ (by omega)).mono ?_
      rintro e w1 ⟨v, rfl, hown, hB1⟩
      have Hown := Lib.hid hown
      have HB1 := Lib.hid hB1
      clear hown hB1
      obtain ⟨w0, rfl⟩ : ∃ w0 : World, w0 = w := ⟨_, rfl⟩
      go_wp2_with fail
      go_loopg [6, 27] m.length (fun gk v i wr => ∃ k : Nat, k + gk = m.length ∧ i = .int .i64 k ∧ Hid (wr.ownsRow w0.heap.size 5 1 v (cat m k).length ((cat m k).map bv)) ∧ Hid (Below w0.heap.size w0 wr))
      case atStart => exact ⟨0, by omega, rfl, Hown.out, HB1.out⟩
      case round =>
        obtain ⟨j, hgj, rfl, hO, hB⟩ := hrel
        have Hgj := Lib.hid hgj
        have hj : j ≤ m.length := by omega
        clear hgj Hown HB1
        by_cases hlt2 : j < m.length
        · have hmj : m[j]? = some (m.getD j []) := getD_some hlt2
          have hMj := (HM.out.new hB.out) j _ hmj
          have hfl := cat_succ hmj
          have hb2 := cat_le m (j + 1)
          rw [hfl, List.length_append] at hb2
          generalize m.getD j [] = r at *
          have hcell := hMj.1
          have Hfl := Lib.hid hfl
          have hsz := hB.out.size
          have fin : ∀ (v' : Value) (w' : World), w'.ownsRow w0.heap.size 5 1 v' ((cat m j).length + r.length) ((cat m j).map bv ++ r.map bv) → wr.grownBy w' u6.ownBlock →
              w'.ownsRow w0.heap.size 5 1 v' (cat m (j + 1)).length ((cat m (j + 1)).map bv) ∧ Below w0.heap.size w0 w' := by
            intro v' w' h1 h2
            rw [hfl, List.length_append, List.map_append]
            exact ⟨h1, hB.out.grown h2 hsz fun q hq => (owns_block hO.out hq).2.1⟩
          have Fin := Lib.hid fin
          clear fin hfl
          cases hA : A j with
          | none =>
            have hr0 : r = [] := by
              rcases hMj.2.2.1 with h | ⟨b', o', h, _⟩
              · exact h
              · rw [hA] at h; cases h
            subst hr0
            rw [hA, hMj.2.2.2 hA] at hcell
            have h3 := Lib.hid (Fin.out u6 wr (by simpa using hO.out) ⟨rfl, rfl, rfl, Nat.le_refl _, fun _ _ _ => rfl⟩)
            clear hMj hmj hA
            go_wp2_with (at_builtin; refine wpList_append_own_none rfl _ _ 26 rfl w0.heap.size 5 i0 1 Try.underlying26 hi _ _ _ rfl hO.out rfl ?_)
            go_roundg (m.length - j - 1)
            case measure => have := Hgj.out; omega
            case rel => exact ⟨j + 1, by have := Hgj.out; omega, by go_num, h3.out.1, h3.out.2⟩
          | some a =>
            rw [hA] at hcell
            have hnews : ∀ i u, (r.map bv)[i]? = some u → wr.cell? (a.add i) = some u := by
              rcases hMj.2.2.1 with h | ⟨b', o', h, hrow⟩
              · subst h; simp
              · rw [hA] at h
                simp only [Option.some.injEq] at h
                subst h
                exact hrow.src (Below.refl _ _)
            have Hnews := Lib.hid hnews
            clear hMj hmj hA hnews
            go_wp2_with (at_builtin; refine wpList_append_own _ rfl _ _ 26 rfl w0.heap.size 5 i0 (.int .u8 0) 1 1 Try.underlying26 hi hz0 hz1 hz2 rfl (by decide) _ _ _ rfl hO.out a r.length _ (r.map bv) rfl ?c1 ?c2 ?c3 ?c4 ?c5 ?c6 ?_)
            case c1 => simp
            case c2 => exact Hnews.out
            case c3 => intro u hu; obtain ⟨x, _, rfl⟩ := List.mem_map.1 hu; rfl
            case c4 => unfold maxLen; omega
            case c5 => omega
            case c6 => exact hsz
            intro v' w' h1 h2 _
            have h3 := Lib.hid (Fin.out v' w' h1 h2)
            clear h1 h2
            go_wp2_with fail
            go_roundg (m.length - j - 1)
            case measure => have := Hgj.out; omega
            case rel => exact ⟨j + 1, by have := Hgj.out; omega, by go_num, h3.out.1, h3.out.2⟩
        · have hO2 := hO.out
          rw [cat_all (by omega)] at hO2
          have HO2 := Lib.hid hO2
          clear hO hO2
          go_wp2_with fail
          go_ret
          exact ⟨_, rfl, HO2.out, hB.out⟩
end Go.Proofs.Ytlbomlolomcolaa
