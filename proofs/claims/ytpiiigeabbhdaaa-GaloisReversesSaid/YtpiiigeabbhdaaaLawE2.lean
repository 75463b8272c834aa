/- The walk of the law GaloisReverses, for all arguments. -/
import Derived.Test.YtpiiigeabbhdaaaLawE
namespace Go.Proofs.Ytpiiigeabbhdaaa
open Go.RowKit

set_option maxRecDepth 100000 in
set_option maxHeartbeats 2000000 in
theorem GaloisReverses_walk (va : Value) (a : List (List Nat)) (vb : Value) (b : List (List Nat)) (w : World) (hma : Mx w va a) (hBa : BytM a) (hla : a.length ≤ maxLen) (hmb : Mx w vb b) (hBb : BytM b) (hlb : b.length ≤ maxLen) :
    Calls Try.prog 9 #[va, vb] w fun e w' => e = .returned (.bool true) ∧ Below w.heap.size w w' := by
  have Ma := Lib.hid hma
  have Mb := Lib.hid hmb
  by_cases hFa : fewM a
  · have HFa := Lib.hid hFa
    by_cases hFb : fewM b
    · have HFb := Lib.hid hFb
      by_cases ha0 : a.length = 0
      · have ta : ((a.length : Int) == 0) = true := by rw [beq_iff_eq]; omega
        obtain ⟨x, cap, rfl, hc, _⟩ := hma
        clear hFa hFb ha0 hc
        have La := Lib.hid hla
        have Lb := Lib.hid hlb
        clear hmb hBa hBb hla hlb
        go_enter Try.func9, Try.ntmps9
        go_wp2_with fail
        refine (rFew_any _ a _ La.out Ma.out).mono ?_
        rintro e w1 ⟨rfl, rfl⟩
        rw [fewB_true HFa.out]
        go_wp2_with fail
        refine (rFew_any _ b _ Lb.out Mb.out).mono ?_
        rintro e w1 ⟨rfl, rfl⟩
        rw [fewB_true HFb.out]
        go_wp2_with fail
        refine (awake_any _).mono ?_
        rintro e w6 ⟨rfl, hB6⟩
        go_wp2_with fail
        go_ret
        exact ⟨rfl, hB6⟩
      · by_cases hb0 : b.length = 0
        · have ta : ((a.length : Int) == 0) = false := by rw [beq_eq_false_iff_ne]; omega
          have tb : ((b.length : Int) == 0) = true := by rw [beq_iff_eq]; omega
          obtain ⟨x, cap, rfl, hc, _⟩ := hma
          obtain ⟨y, capy, rfl, hcy, _⟩ := hmb
          clear hFa hFb ha0 hb0 hc hcy
          have La := Lib.hid hla
          have Lb := Lib.hid hlb
          clear hBa hBb hla hlb
          go_enter Try.func9, Try.ntmps9
          go_wp2_with fail
          refine (rFew_any _ a _ La.out Ma.out).mono ?_
          rintro e w1 ⟨rfl, rfl⟩
          rw [fewB_true HFa.out]
          go_wp2_with fail
          refine (rFew_any _ b _ Lb.out Mb.out).mono ?_
          rintro e w1 ⟨rfl, rfl⟩
          rw [fewB_true HFb.out]
          go_wp2_with fail
          refine (awake_any _).mono ?_
          rintro e w6 ⟨rfl, hB6⟩
          go_wp2_with fail
          go_ret
          exact ⟨rfl, hB6⟩
        · obtain ⟨xa, ca, rfl, hca, ha⟩ := hma
          obtain ⟨xb, cb, rfl, hcb, hb⟩ := hmb
          rcases ha with ha | ⟨ba, oa, A, C, rfl, hMa⟩
          · subst ha; exact absurd rfl ha0
          rcases hb with hb | ⟨bb, ob, A', C', rfl, hMb⟩
          · subst hb; exact absurd rfl hb0
          by_cases h1 : a.length ≤ b.length ∧ a.length ≤ 6
          · exact rev_main ba oa ca bb ob cb a.length a b A A' C C' w hMa hMb hca hcb hBa hBb hFa hFb (by omega) (Or.inl ⟨rfl, h1⟩)
          · by_cases h2 : b.length ≤ 6
            · exact rev_main ba oa ca bb ob cb b.length a b A A' C C' w hMa hMb hca hcb hBa hBb hFa hFb (by omega) (Or.inr (Or.inl ⟨rfl, by omega, h2⟩))
            · exact rev_main ba oa ca bb ob cb 6 a b A A' C C' w hMa hMb hca hcb hBa hBb hFa hFb (by omega) (Or.inr (Or.inr ⟨rfl, by omega, by omega⟩))
    · have HFb := Lib.hid hFb
      have La := Lib.hid hla
      have Lb := Lib.hid hlb
      clear hFa hFb hma hmb hBa hBb hla hlb
      go_enter Try.func9, Try.ntmps9
      go_wp2_with fail
      refine (rFew_any va a _ La.out Ma.out).mono ?_
      rintro e w1 ⟨rfl, rfl⟩
      rw [fewB_true HFa.out]
      go_wp2_with fail
      refine (rFew_any vb b _ Lb.out Mb.out).mono ?_
      rintro e w1 ⟨rfl, rfl⟩
      rw [fewB_false HFb.out]
      go_wp2_with fail
      refine (awake_any _).mono ?_
      rintro e w6 ⟨rfl, hB6⟩
      go_wp2_with fail
      go_ret
      exact ⟨rfl, hB6⟩
  · have HFa := Lib.hid hFa
    have La := Lib.hid hla
    clear hFa hma hmb hBa hBb hla hlb
    go_enter Try.func9, Try.ntmps9
    go_wp2_with fail
    refine (rFew_any va a _ La.out Ma.out).mono ?_
    rintro e w1 ⟨rfl, rfl⟩
    rw [fewB_false HFa.out]
    go_wp2_with fail
    refine (awake_any _).mono ?_
    rintro e w6 ⟨rfl, hB6⟩
    go_wp2_with fail
    go_ret
    exact ⟨rfl, hB6⟩
end Go.Proofs.Ytpiiigeabbhdaaa
