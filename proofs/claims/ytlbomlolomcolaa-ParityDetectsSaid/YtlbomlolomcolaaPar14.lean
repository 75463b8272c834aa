/- The contracts of slices.Equal and parity.Consistent. -/
import Derived.Test.YtlbomlolomcolaaPar9
namespace Go.Proofs.Ytlbomlolomcolaa
open Go.RowKit Go.Shelf

set_option maxRecDepth 100000 in
set_option maxHeartbeats 2000000 in
theorem Equal_any (b o n cap b' o' n' cap' : Nat) (l l' : List Nat) (w : World) (hl : l.length = n) (hl' : l'.length = n') (hn : n ≤ 1000000000) (hn' : n' ≤ 1000000000) (hr : RowAt w b o l) (hr' : RowAt w b' o' l') (hB : Byt l) (hB' : Byt l') :
    Calls Try.prog 62 #[.slice (some ⟨b, o, none⟩) n cap, .slice (some ⟨b', o', none⟩) n' cap'] w fun e w' => e = .returned (.bool (decide (l = l'))) ∧ Below w.heap.size w w' := by
  have Hl := Lib.hid hl
  have Hl' := Lib.hid hl'
  have Hr := Lib.hid hr
  have Hr' := Lib.hid hr'
  have HB := Lib.hid hB
  have HB' := Lib.hid hB'
  by_cases hne : n = n'
  · subst hne
    have tn : ((n : Int) != (n : Int)) = false := by simp
    clear hl hl' hr hr' hB hB'
    go_enter Try.func62, Try.ntmps62
    go_wp2_with fail
    go_loopg [13] n (fun gk i wr => ∃ k : Nat, k + gk = n ∧ i = .int .i64 k ∧ Hid (∀ j, j < k → l.getD j 0 = l'.getD j 0) ∧ Hid (Below w.heap.size w wr))
    case atStart => exact ⟨0, by omega, rfl, fun j hj => by omega, Below.refl _ _⟩
    case round =>
      obtain ⟨k, hgk, rfl, hag, hbl⟩ := hrel
      have Hgk := Lib.hid hgk
      have hk : k ≤ n := by omega
      clear hgk
      by_cases hlt : k < n
      · have c1 := (Hr.out.new hbl.out) k _ (getD_some (d := 0) (by rw [Hl.out]; exact hlt))
        have c2 := (Hr'.out.new hbl.out) k _ (getD_some (d := 0) (by rw [Hl'.out]; exact hlt))
        unfold bv at c1 c2
        have b1 := HB.out.getD k
        have b2 := HB'.out.getD k
        have i1 : (0 : Int) ≤ (k : Int) := by omega
        have i2 : (k : Int) < (n : Int) := by omega
        have Hbl := Lib.hid hbl.out
        by_cases he : l.getD k 0 = l'.getD k 0
        · have hs : Hid (∀ j, j < k + 1 → l.getD j 0 = l'.getD j 0) := by
            intro j hj
            by_cases hjk : j = k
            · rw [hjk]; exact he
            · exact hag.out j (by omega)
          have te : ((l.getD k 0 : Int) != (l'.getD k 0 : Int)) = false := by rw [bne_eq_false_iff_eq]; omega
          generalize l.getD k 0 = x at *
          generalize l'.getD k 0 = y at *
          clear he hag hbl
          go_wp2_with fail
          go_quiet (fail)
          go_wp2_with fail
          go_roundg (n - k - 1)
          case measure => have := Hgk.out; omega
          case rel => exact ⟨k + 1, by have := Hgk.out; omega, by go_num, hs.out, below_drewN Hbl.out _⟩
        · have hr := Lib.hid (show decide (l = l') = false from decide_eq_false fun e => he (by rw [e]))
          have te : ((l.getD k 0 : Int) != (l'.getD k 0 : Int)) = true := by rw [bne_iff_ne]; omega
          generalize l.getD k 0 = x at *
          generalize l'.getD k 0 = y at *
          clear he hag hbl
          go_wp2_with fail
          go_quiet (fail)
          go_wp2_with fail
          go_ret
          exact ⟨by rw [hr.out]; rfl, below_drewN Hbl.out _⟩
      · have hr := Lib.hid (show decide (l = l') = true from decide_eq_true (by
          apply List.ext_getElem?
          intro j
          by_cases hj : j < n
          · have := hag.out j (by omega)
            rw [getD_some (l := l) (d := 0) (by rw [Hl.out]; exact hj), getD_some (l := l') (d := 0) (by rw [Hl'.out]; exact hj), this]
          · rw [List.getElem?_eq_none (by rw [Hl.out]; omega), List.getElem?_eq_none (by rw [Hl'.out]; omega)]))
        have Hbl := Lib.hid hbl.out
        clear hag hbl
        go_wp2_with fail
        go_ret
        exact ⟨by rw [hr.out]; rfl, Hbl.out⟩
  · have tn : ((n : Int) != (n' : Int)) = true := by rw [bne_iff_ne]; omega
    have hr := Lib.hid (show decide (l = l') = false from decide_eq_false fun e => hne (by rw [← Hl.out, ← Hl'.out, e]))
    clear hl hl' hr' hB hB' hne
    go_enter Try.func62, Try.ntmps62
    go_wp2_with fail
    go_ret
    exact ⟨by rw [hr.out]; rfl, Below.refl _ _⟩
end Go.Proofs.Ytlbomlolomcolaa
