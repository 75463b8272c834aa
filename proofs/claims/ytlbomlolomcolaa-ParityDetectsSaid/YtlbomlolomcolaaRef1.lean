/- Contracts of the reference's Same, Is and Few. -/
import Derived.Test.YtlbomlolomcolaaGal3
import Derived.Test.YtlbomlolomcolaaOwn
import Derived.Laws.BytesArg
import Derived.Deep.LoopGhost
import Derived.Deep.QuietTactic
import Derived.BigQuiet
namespace Go.Proofs.Ytlbomlolomcolaa
open Go.RowKit

/-- Bytes as a string. -/
def bstr (l : List Nat) : ByteArray := ⟨(l.map UInt8.ofNat).toArray⟩

theorem bstr_inj {a b : List Nat} (ha : Byt a) (hb : Byt b) (h : (bstr a).toList = (bstr b).toList) : a = b := by
  have h1 : a.map UInt8.ofNat = b.map UInt8.ofNat := by simpa [bstr] using h
  clear h
  induction a generalizing b with
  | nil => cases b with
    | nil => rfl
    | cons y b => simp at h1
  | cons x a ih => cases b with
    | nil => simp at h1
    | cons y b =>
      simp only [List.map_cons, List.cons.injEq] at h1
      have hx : x < 256 := ha x (by simp)
      have hy : y < 256 := hb y (by simp)
      have e : x = y := by
        have := congrArg UInt8.toNat h1.1
        simpa [Nat.mod_eq_of_lt hx, Nat.mod_eq_of_lt hy] using this
      rw [e, ih (fun z hz => ha z (by simp [hz])) (fun z hz => hb z (by simp [hz])) h1.2]

theorem bstr_beq {a b : List Nat} (ha : Byt a) (hb : Byt b) : ((bstr a).toList == (bstr b).toList) = decide (a = b) := by
  rw [Bool.eq_iff_iff]
  simp only [beq_iff_eq, decide_eq_true_eq]
  exact ⟨bstr_inj ha hb, fun h => by rw [h]⟩

theorem conv_row {w : World} {r : List Nat} {a : Option Addr} {c : Nat} (h : r = [] ∨ ∃ b' o', a = some ⟨b', o', none⟩ ∧ RowAt w b' o' r) :
    ∀ n, (convert 26 9 (.slice a r.length c)).run Try.prog (w.drewN n) = .ok (.string (bstr r)) (w.drewN n) := by
  intro n
  have key : ∀ b o, RowAt w b o r → (convert 26 9 (.slice (some ⟨b, o, none⟩) r.length c)).run Try.prog (w.drewN n) = .ok (.string (bstr r)) (w.drewN n) := by
    intro b o hr
    have := run_convert_bytes_arg (P := Try.prog) (w.drewN n) 26 5 Try.underlying26 Try.underlying5 b o r.length c (r.map Int.ofNat) (by simp) (fun i hi => ?_) 9 Try.underlying9
    · rw [this]
      simp [strOfNums, bstr, Function.comp_def]
    · have := hr i (r[i]) (List.getElem?_eq_getElem hi)
      simp [List.getD_eq_getElem?_getD, List.getElem?_eq_getElem hi]
      exact this
  rcases h with h | ⟨b, o, rfl, hr⟩
  · subst h
    cases a with
    | none =>
      have := run_convert_bytes_nil (P := Try.prog) (w.drewN n) 26 5 Try.underlying26 Try.underlying5 0 c 9 Try.underlying9
      rw [show ([] : List Nat).length = 0 from rfl, this]
      rfl
    | some a =>
      have h1 := run_convert_bytes_string (P := Try.prog) (w.drewN n) 26 9 5 (some a) 0 c Try.underlying26 Try.underlying5 Try.underlying9
      have h2 := run_bytesToString (P := Try.prog) (w.drewN n) a 0 c [] (by simp [loadCells, loadCellsFrom])
      rw [show ([] : List Nat).length = 0 from rfl, h1, h2]
      rfl
  · exact key b o hr

/-- The matrices agree in their first k rows. -/
def agree (a b : List (List Nat)) (k : Nat) : Prop := ∀ i, i < k → a.getD i [] = b.getD i []

theorem agree_all {a b : List (List Nat)} (hl : a.length = b.length) (h : agree a b a.length) : a = b := by
  apply List.ext_getElem hl
  intro i h1 h2
  have := h i h1
  rw [List.getD_eq_getElem?_getD, List.getD_eq_getElem?_getD, List.getElem?_eq_getElem h1, List.getElem?_eq_getElem h2] at this
  exact this

def sameB (a b : List (List Nat)) : Bool := decide (a = b)

theorem isMatB_from {m : List (List Nat)} (h1 : 1 ≤ m.length) (h2 : m.length ≤ 64) (h3 : 1 ≤ (m.getD 0 []).length) (h4 : (m.getD 0 []).length ≤ 64) (h : ∀ i, i < m.length → (m.getD i []).length = (m.getD 0 []).length) : isMatB m = true := by
  refine decide_eq_true ⟨h1, h2, h3, h4, fun r hr => ?_⟩
  obtain ⟨i, hi⟩ := List.mem_iff_getElem?.1 hr
  have := h i (List.getElem?_eq_some_iff.1 hi).1
  rw [List.getD_eq_getElem?_getD, hi] at this
  exact this

set_option maxRecDepth 100000 in
set_option maxHeartbeats 1000000 in
theorem rIs_any (v : Value) (m : List (List Nat)) (w : World) (hn : m.length ≤ 1000000000) (hm : Mx w v m) :
    Calls Try.prog 108 #[v] w fun e w' => e = .returned (.bool (isMatB m)) ∧ ∃ n, w' = w.drewN n := by
  obtain ⟨a, cap, rfl, hcap, hm⟩ := hm
  by_cases c1 : m.length < 1
  · have hr := Lib.hid (show isMatB m = false from decide_eq_false fun ⟨_, _, _, _, _⟩ => by omega)
    clear hm
    go_enter Try.func108, Try.ntmps108
    go_wp2_with fail
    go_ret
    exact ⟨by rw [hr.out]; rfl, 0, rfl⟩
  by_cases c2 : 64 < m.length
  · have hr := Lib.hid (show isMatB m = false from decide_eq_false fun ⟨_, _, _, _, _⟩ => by omega)
    clear hm
    go_enter Try.func108, Try.ntmps108
    go_wp2_with fail
    go_ret
    exact ⟨by rw [hr.out]; rfl, 0, rfl⟩
  rcases hm with hm | ⟨b, o, A, C, rfl, hm⟩
  · subst hm; simp at c1
  have h0 : m[0]? = some (m.getD 0 []) := getD_some (by omega)
  have hcell := (hm 0 _ h0).1
  rw [Nat.add_zero] at hcell
  have Hm := Lib.hid hm
  clear hm h0
  by_cases c3 : (m.getD 0 []).length < 1
  · have hr := Lib.hid (show isMatB m = false from decide_eq_false fun ⟨_, _, _, _, _⟩ => by omega)
    generalize (m.getD 0 []).length = r0 at *
    go_enter Try.func108, Try.ntmps108
    go_wp2_with fail
    go_ret
    exact ⟨by rw [hr.out]; rfl, 0, rfl⟩
  by_cases c4 : 64 < (m.getD 0 []).length
  · have hr := Lib.hid (show isMatB m = false from decide_eq_false fun ⟨_, _, _, _, _⟩ => by omega)
    generalize (m.getD 0 []).length = r0 at *
    go_enter Try.func108, Try.ntmps108
    go_wp2_with fail
    go_ret
    exact ⟨by rw [hr.out]; rfl, 0, rfl⟩
  have hyes := Lib.hid (isMatB_from (m := m) (by omega) (by omega) (by omega) (by omega))
  have hno := Lib.hid (fun (i : Nat) (hi : i < m.length) (h : (m.getD i []).length ≠ (m.getD 0 []).length) => show isMatB m = false from decide_eq_false fun ⟨_, _, _, _, hh⟩ => h (hh _ (List.mem_of_getElem? (getD_some hi))))
  generalize (m.getD 0 []).length = r0 at *
  go_enter Try.func108, Try.ntmps108
  go_wp2_with fail
  go_loopg [3] m.length (fun gk i wr => ∃ k : Nat, k + gk = m.length ∧ i = .int .i64 k ∧ Hid (∀ i, i < k → (m.getD i []).length = r0) ∧ Hid (∃ n, wr = w.drewN n))
  case atStart => exact ⟨0, by omega, rfl, fun i hi => by omega, 0, rfl⟩
  case round =>
    obtain ⟨k, hgk, rfl, hag, hw⟩ := hrel
    have Hgk := Lib.hid hgk
    have hk : k ≤ m.length := by omega
    clear hgk
    obtain ⟨n, rfl⟩ := hw.out
    clear hw
    by_cases hlt : k < m.length
    · have p1 := (Hm.out k (m.getD k []) (getD_some hlt)).1
      have Hno := Lib.hid (hno.out k hlt)
      have hstep : (m.getD k []).length = r0 → ∀ i, i < k + 1 → (m.getD i []).length = r0 := by
        intro h i hi
        by_cases hik : i = k
        · rw [hik]; exact h
        · exact hag.out i (by omega)
      have Hstep := Lib.hid hstep
      clear hstep
      generalize (m.getD k []).length = x at *
      have ki : (k : Int) < m.length := by omega
      have ki0 : (0 : Int) ≤ k := by omega
      have km : (0 : Int) < m.length := by omega
      by_cases hxy : x = r0
      · have hbt : ((x : Int) != (r0 : Int)) = false := by rw [hxy]; simp
        have Hxy := Lib.hid hxy
        clear hxy
        go_wp2_with fail
        go_quiet (fail)
        go_wp2_with fail
        go_roundg (m.length - k - 1)
        case measure => have := Hgk.out; omega
        case rel => exact ⟨k + 1, by have := Hgk.out; omega, by go_num, Hstep.out Hxy.out, _, rfl⟩
      · have hbt : ((x : Int) != (r0 : Int)) = true := by simp; omega
        have Hxy := Lib.hid hxy
        clear hxy
        go_wp2_with fail
        go_quiet (fail)
        go_wp2_with fail
        go_ret
        exact ⟨by rw [Hno.out Hxy.out]; rfl, _, World.drewN_drewN _ _ _⟩
    · have hr := Lib.hid (hyes.out fun i hi => hag.out i (by omega))
      go_wp2_with fail
      go_ret
      exact ⟨by rw [hr.out]; rfl, _, rfl⟩

set_option maxRecDepth 100000 in
set_option maxHeartbeats 1000000 in
theorem rSame_any (va vb : Value) (ma mb : List (List Nat)) (w : World) (hn : ma.length ≤ 1000000000) (hBa : BytM ma) (hBb : BytM mb) (hma : Mx w va ma) (hmb : Mx w vb mb) :
    Calls Try.prog 23 #[va, vb] w fun e w' => e = .returned (.bool (sameB ma mb)) ∧ ∃ n, w' = w.drewN n := by
  obtain ⟨a1, cap1, rfl, hc1, h1⟩ := hma
  obtain ⟨a2, cap2, rfl, hc2, h2⟩ := hmb
  by_cases hl : ma.length = mb.length
  · have hne : ((ma.length : Int) != (mb.length : Int)) = false := by rw [hl]; simp
    have HL := Lib.hid hl
    have hl1 : ma.length ≤ mb.length := by omega
    have hl2 : mb.length ≤ ma.length := by omega
    by_cases h0 : ma.length = 0
    · have hr := Lib.hid (show sameB ma mb = true from decide_eq_true (by rw [List.length_eq_zero_iff.1 h0, List.length_eq_zero_iff.1 (show mb.length = 0 by omega)]))
      have h0' : ma.length < 1 := by omega
      clear hl h1 h2 hBa hBb h0
      go_enter Try.func23, Try.ntmps23
      go_wp2_with fail
      go_loopg [5] 0 (fun gk i wr => gk = 0 ∧ i = .int .i64 0 ∧ w = wr)
      case atStart => exact ⟨rfl, rfl, rfl⟩
      case round =>
        obtain ⟨_, rfl, rfl⟩ := hrel
        go_wp2_with fail
        go_ret
        exact ⟨by rw [hr.out]; rfl, 0, rfl⟩
    obtain ⟨b1, o1, A1, C1, rfl, M1⟩ : ∃ b o A C, a1 = some ⟨b, o, none⟩ ∧ MxAt w b o ma A C := by
      rcases h1 with h | h
      · rw [h] at h0; simp at h0
      · exact h
    obtain ⟨b2, o2, A2, C2, rfl, M2⟩ : ∃ b o A C, a2 = some ⟨b, o, none⟩ ∧ MxAt w b o mb A C := by
      rcases h2 with h | h
      · rw [h] at hl; simp at hl; rw [hl] at h0; simp at h0
      · exact h
    have H1 := Lib.hid M1
    have H2 := Lib.hid M2
    have HBa := Lib.hid hBa
    have HBb := Lib.hid hBb
    clear hl h1 h2 hBa hBb h0 M1 M2
    go_enter Try.func23, Try.ntmps23
    go_wp2_with fail
    go_loopg [5] ma.length (fun gk i wr => ∃ k : Nat, k + gk = ma.length ∧ i = .int .i64 k ∧ Hid (agree ma mb k) ∧ Hid (∃ n, wr = w.drewN n))
    case atStart => exact ⟨0, by omega, rfl, fun i hi => by omega, 0, rfl⟩
    case round =>
      obtain ⟨k, hgk, rfl, hag, hw⟩ := hrel
      have Hgk := Lib.hid hgk
      have hk : k ≤ ma.length := by omega
      clear hgk
      obtain ⟨n, rfl⟩ := hw.out
      clear hw
      by_cases hlt : k < ma.length
      · have r1 : ma[k]? = some (ma.getD k []) := getD_some hlt
        have r2 : mb[k]? = some (mb.getD k []) := getD_some (by omega)
        have by1 := HBa.out _ (List.mem_of_getElem? r1)
        have by2 := HBb.out _ (List.mem_of_getElem? r2)
        have hbq := bstr_beq by1 by2
        have hstep : ma.getD k [] = mb.getD k [] → agree ma mb (k + 1) := by
          intro h i hi
          by_cases hik : i = k
          · rw [hik]; exact h
          · exact hag.out i (by omega)
        have Hstep := Lib.hid hstep
        have hdiff : ma.getD k [] ≠ mb.getD k [] → sameB ma mb = false := fun h => decide_eq_false fun e => h (by rw [e])
        have Hdiff := Lib.hid hdiff
        obtain ⟨p1, p2, p3, _⟩ := H1.out k _ r1
        obtain ⟨q1, q2, q3, _⟩ := H2.out k _ r2
        clear r1 r2 by1 by2 hstep hdiff
        generalize ma.getD k [] = x at *
        generalize mb.getD k [] = y at *
        have v1 := conv_row (c := C1 k) p3
        have v2 := conv_row (c := C2 k) q3
        clear p3 q3
        have ki : (k : Int) < ma.length := by omega
        have ki2 : (k : Int) < mb.length := by omega
        have ki0 : (0 : Int) ≤ k := by omega
        by_cases hxy : x = y
        · have hbt : ((bstr x).toList == (bstr y).toList) = true := by rw [hbq]; simp [hxy]
          have Hxy := Lib.hid hxy
          clear hbq hxy
          go_wp2_with fail
          go_quiet (fail)
          go_wp2_with fail
          go_roundg (ma.length - k - 1)
          case measure => have := Hgk.out; omega
          case rel => exact ⟨k + 1, by have := Hgk.out; omega, by go_num, Hstep.out Hxy.out, _, rfl⟩
        · have hbt : ((bstr x).toList == (bstr y).toList) = false := by rw [hbq]; simp [hxy]
          have Hxy := Lib.hid hxy
          clear hbq hxy
          go_wp2_with fail
          go_quiet (fail)
          go_wp2_with fail
          go_ret
          exact ⟨by rw [Hdiff.out Hxy.out]; rfl, _, World.drewN_drewN _ _ _⟩
      · have hr := Lib.hid (show sameB ma mb = true from decide_eq_true (agree_all HL.out (by have : k = ma.length := by omega
                                                                                              rw [← this]; exact hag.out)))
        go_wp2_with fail
        go_ret
        exact ⟨by rw [hr.out]; rfl, _, rfl⟩
  · have hr : sameB ma mb = false := decide_eq_false fun h => hl (by rw [h])
    have hne : ((ma.length : Int) != (mb.length : Int)) = true := by simp; omega
    have Hr := Lib.hid hr
    clear hr hl
    go_enter Try.func23, Try.ntmps23
    go_wp2_with fail
    go_ret
    exact ⟨by rw [Hr.out]; rfl, 0, rfl⟩
end Go.Proofs.Ytlbomlolomcolaa
