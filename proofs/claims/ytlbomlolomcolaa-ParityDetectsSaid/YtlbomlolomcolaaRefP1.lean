/- Contracts of the reference's Few, length and Check of chapter 54. -/
import Derived.Test.YtlbomlolomcolaaPar4
import Derived.Test.YtlbomlolomcolaaRef1
namespace Go.Proofs.Ytlbomlolomcolaa
open Go.RowKit

def few54 (parts : List (List Nat)) : Prop := (∀ i, i < parts.length → i < 100 → ¬ (100 < plen parts i ∧ plen parts i ≤ 65536)) ∧ parts.length ≤ 100
instance (parts : List (List Nat)) : Decidable (few54 parts) := by unfold few54; infer_instance
def few54B (parts : List (List Nat)) : Bool := decide (few54 parts)
theorem few54B_true {parts : List (List Nat)} (h : few54 parts) : few54B parts = true := decide_eq_true h
theorem few54B_false {parts : List (List Nat)} (h : ¬ few54 parts) : few54B parts = false := decide_eq_false h

set_option maxRecDepth 100000 in
set_option maxHeartbeats 4000000 in
theorem rFew54_any (v : Value) (parts : List (List Nat)) (w : World) (hn : parts.length ≤ maxLen) (hm : Mx w v parts) : Calls Try.prog 19 #[v] w fun e w' => e = .returned (.bool (few54B parts)) ∧ w = w' := by
  obtain ⟨a, cap, rfl, hcap, hm⟩ := hm
  unfold maxLen at hn
  have Hm := Lib.hid hm
  clear hm
  go_enter Try.func19, Try.ntmps19
  go_wp2_with fail
  go_loopg [3] parts.length (fun gk i wr => ∃ k : Nat, k + gk = parts.length ∧ k ≤ 100 ∧ i = .int .i64 k ∧ Hid (∀ i, i < k → ¬ (100 < plen parts i ∧ plen parts i ≤ 65536)) ∧ w = wr)
  case atStart => exact ⟨0, by omega, by omega, rfl, fun i hi => by omega, rfl⟩
  case round =>
    obtain ⟨k, hgk, hk1, rfl, hag, rfl⟩ := hrel
    have Hgk := Lib.hid hgk
    have hk : k ≤ parts.length := by omega
    clear hgk
    by_cases hlt : k < parts.length
    · by_cases h100 : k < 100
      · obtain ⟨b, o, A, C, rfl, hM⟩ : ∃ b o A C, a = some ⟨b, o, none⟩ ∧ MxAt w b o parts A C := by
          rcases Hm.out with h | h
          · rw [h] at hlt; simp at hlt
          · exact h
        have p1 : w.cell? ⟨b, o + k, none⟩ = some (.slice (A k) (plen parts k) (C k)) := (hM k _ (getD_some (d := []) hlt)).1
        have Hstep : Hid (¬ (100 < plen parts k ∧ plen parts k ≤ 65536) → ∀ i, i < k + 1 → ¬ (100 < plen parts i ∧ plen parts i ≤ 65536)) := by
          intro h i hi
          by_cases hik : i = k
          · rw [hik]; exact h
          · exact hag.out i (by omega)
        have Hno := Lib.hid (fun (h : 100 < plen parts k ∧ plen parts k ≤ 65536) => few54B_false (parts := parts) fun hh => hh.1 k hlt h100 h)
        generalize plen parts k = x at *
        clear hM hag
        by_cases x1 : 100 < x
        · by_cases x2 : x ≤ 65536
          · have hr := Lib.hid (Hno.out ⟨x1, x2⟩)
            go_wp2_with fail
            go_ret
            exact ⟨by rw [hr.out]; rfl, rfl⟩
          · have x3 : 65536 < x := by omega
            have hs := Lib.hid (Hstep.out (by omega))
            go_wp2_with fail
            go_roundg (parts.length - k - 1)
            case measure => have := Hgk.out; omega
            case rel => exact ⟨k + 1, by have := Hgk.out; omega, by omega, by go_num, hs.out, rfl⟩
        · have x3 : x ≤ 100 := by omega
          have hs := Lib.hid (Hstep.out (by omega))
          go_wp2_with fail
          go_roundg (parts.length - k - 1)
          case measure => have := Hgk.out; omega
          case rel => exact ⟨k + 1, by have := Hgk.out; omega, by omega, by go_num, hs.out, rfl⟩
      · have h100' : 100 ≤ k := by omega
        have hr := Lib.hid (few54B_false (parts := parts) fun h => by have := h.2; omega)
        have hl : 100 < parts.length := by omega
        clear hag
        go_wp2_with fail
        go_ret
        refine ⟨?_, rfl⟩
        show Ending.returned (.bool (decide ((parts.length : Int) ≤ 100))) = _
        rw [hr.out, decide_eq_false (by omega)]
    · have hr := Lib.hid (few54B_true (parts := parts) ⟨fun i hi _ => hag.out i (by omega), by omega⟩)
      have hl : parts.length ≤ 100 := by omega
      clear hag
      go_wp2_with fail
      go_ret
      refine ⟨?_, rfl⟩
      show Ending.returned (.bool (decide ((parts.length : Int) ≤ 100))) = _
      rw [hr.out, decide_eq_true (by omega)]

/-- The length of the first part that is not lost. -/
def firstLen (parts : List (List Nat)) : Nat := match (List.range parts.length).find? (fun i => decide (1 ≤ plen parts i)) with | some i => plen parts i | none => 0
theorem firstLen_hit {parts : List (List Nat)} {k : Nat} (hk : k < parts.length) (h1 : 1 ≤ plen parts k) (h0 : ∀ j, j < k → plen parts j = 0) : firstLen parts = plen parts k := by
  have : (List.range parts.length).find? (fun i => decide (1 ≤ plen parts i)) = some k := by
    rw [List.find?_range_eq_some]
    exact ⟨by simpa using h1, by simpa using hk, fun j hj => by simp [h0 j hj]⟩
  unfold firstLen; rw [this]
theorem firstLen_none {parts : List (List Nat)} (h0 : ∀ j, j < parts.length → plen parts j = 0) : firstLen parts = 0 := by
  have : (List.range parts.length).find? (fun i => decide (1 ≤ plen parts i)) = none := by
    rw [List.find?_eq_none]
    intro x hx; simp [h0 x (List.mem_range.1 hx)]
  unfold firstLen; rw [this]
theorem firstLen_le {parts : List (List Nat)} {B : Nat} (h : ∀ j, j < parts.length → plen parts j ≤ B) : firstLen parts ≤ B := by
  unfold firstLen
  split
  · rename_i i hi
    have := List.mem_of_find?_eq_some hi
    exact h i (List.mem_range.1 this)
  · omega
theorem firstLen_some {parts : List (List Nat)} : firstLen parts = 0 ∧ (∀ j, j < parts.length → plen parts j = 0) ∨ ∃ i, i < parts.length ∧ 1 ≤ plen parts i ∧ firstLen parts = plen parts i := by
  unfold firstLen
  split
  · rename_i i hi
    have h1 := List.mem_of_find?_eq_some hi
    have h2 := List.find?_some hi
    exact Or.inr ⟨i, List.mem_range.1 h1, by simpa using h2, rfl⟩
  · rename_i hi
    rw [List.find?_eq_none] at hi
    exact Or.inl ⟨rfl, fun j hj => by have := hi j (List.mem_range.2 hj); simpa using this⟩

set_option maxRecDepth 100000 in
set_option maxHeartbeats 2000000 in
theorem rlength_any (v : Value) (parts : List (List Nat)) (w : World) (hn : parts.length ≤ 1000000000) (hm : Mx w v parts) : Calls Try.prog 55 #[v] w fun e w' => e = .returned (.int .i64 (firstLen parts)) ∧ w = w' := by
  obtain ⟨a, cap, rfl, hcap, hm⟩ := hm
  have Hm := Lib.hid hm
  clear hm
  go_enter Try.func55, Try.ntmps55
  go_wp2_with fail
  go_loopg [3] parts.length (fun gk i wr => ∃ k : Nat, k + gk = parts.length ∧ i = .int .i64 k ∧ Hid (∀ i, i < k → plen parts i = 0) ∧ w = wr)
  case atStart => exact ⟨0, by omega, rfl, fun i hi => by omega, rfl⟩
  case round =>
    obtain ⟨k, hgk, rfl, hag, rfl⟩ := hrel
    have Hgk := Lib.hid hgk
    have hk : k ≤ parts.length := by omega
    clear hgk
    by_cases hlt : k < parts.length
    · obtain ⟨b, o, A, C, rfl, hM⟩ : ∃ b o A C, a = some ⟨b, o, none⟩ ∧ MxAt w b o parts A C := by
        rcases Hm.out with h | h
        · rw [h] at hlt; simp at hlt
        · exact h
      have p1 : w.cell? ⟨b, o + k, none⟩ = some (.slice (A k) (plen parts k) (C k)) := (hM k _ (getD_some (d := []) hlt)).1
      clear hM
      by_cases x1 : 1 ≤ plen parts k
      · have hr := Lib.hid (firstLen_hit hlt x1 hag.out)
        generalize plen parts k = x at *
        clear hag
        have x2 : 0 < x := by omega
        go_wp2_with fail
        go_ret
        exact ⟨by rw [hr.out]; rfl, rfl⟩
      · have hs : Hid (∀ i, i < k + 1 → plen parts i = 0) := by
          intro i hi
          by_cases hik : i = k
          · rw [hik]; omega
          · exact hag.out i (by omega)
        generalize plen parts k = x at p1 x1
        have x2 : x ≤ 0 := by omega
        clear hag x1
        go_wp2_with fail
        go_roundg (parts.length - k - 1)
        case measure => have := Hgk.out; omega
        case rel => exact ⟨k + 1, by have := Hgk.out; omega, by go_num, hs.out, rfl⟩
    · have hr := Lib.hid (firstLen_none (parts := parts) (fun j hj => hag.out j (by omega)))
      clear hag
      go_wp2_with fail
      go_ret
      exact ⟨by rw [hr.out]; rfl, rfl⟩

theorem mis_first {parts : List (List Nat)} : misB parts = true ↔ ∃ i, i < parts.length ∧ 1 ≤ plen parts i ∧ plen parts i ≠ firstLen parts := by
  constructor
  · intro h
    unfold misB at h
    rw [List.any_eq_true] at h
    obtain ⟨i, hi, h⟩ := h
    rw [List.any_eq_true] at h
    obtain ⟨j, hj, h⟩ := h
    obtain ⟨h1, h2, h3⟩ := of_decide_eq_true h
    rw [List.mem_range] at hi hj
    by_cases hf : plen parts i = firstLen parts
    · exact ⟨j, hj, h2, fun e => h3 (by rw [hf, e])⟩
    · exact ⟨i, hi, h1, hf⟩
  · rintro ⟨i, hi, h1, h2⟩
    rcases firstLen_some (parts := parts) with ⟨_, h0⟩ | ⟨j, hj, h3, h4⟩
    · have := h0 i hi; omega
    · exact misB_yes hi hj h1 h3 (by rw [← h4]; exact h2)

set_option maxRecDepth 100000 in
set_option maxHeartbeats 4000000 in
theorem rCheck54_any (v : Value) (parts : List (List Nat)) (data : Int) (w : World) (hn : parts.length ≤ 1000000000) (hL : ∀ j, j < parts.length → plen parts j ≤ maxLen) (hm : Mx w v parts) (hd1 : -9223372036854775808 ≤ data) (hd2 : data ≤ 9223372036854775807) :
    Calls Try.prog 25 #[v, .int .i64 data] w fun e w' => e = .returned (.int .i64 (parErr parts data)) ∧ w = w' := by
  have HL := Lib.hid hL
  have Hmx := Lib.hid hm
  obtain ⟨a, cap, rfl, hcap, h⟩ := hm
  clear hL
  by_cases h1 : parts.length < 1 ∨ 64 < parts.length
  · have HE := Lib.hid (show parErr parts data = 6 by unfold parErr; rw [if_pos h1])
    clear h
    rcases h1 with h1 | h1
    · have t1 : decide ((parts.length : Int) < 1) = true := by simp; omega
      go_enter Try.func25, Try.ntmps25
      go_wp2_with fail
      go_ret
      exact ⟨by rw [HE.out]; rfl, rfl⟩
    · have t1 : decide ((parts.length : Int) < 1) = false := by simp; omega
      have t2 : decide ((64 : Int) < (parts.length : Int)) = true := by simp; omega
      go_enter Try.func25, Try.ntmps25
      go_wp2_with fail
      go_ret
      exact ⟨by rw [HE.out]; rfl, rfl⟩
  have t1 : decide ((parts.length : Int) < 1) = false := by simp; omega
  have t2 : decide ((64 : Int) < (parts.length : Int)) = false := by simp; omega
  by_cases h2 : data < 1 ∨ (parts.length : Int) < data
  · have HE := Lib.hid (show parErr parts data = 2 by unfold parErr; rw [if_neg h1, if_pos h2])
    clear h
    rcases h2 with h2 | h2
    · have t3 : decide (data < 1) = true := by simp; omega
      clear h1
      go_enter Try.func25, Try.ntmps25
      go_wp2_with fail
      go_ret
      exact ⟨by rw [HE.out]; rfl, rfl⟩
    · have t3' : 1 ≤ data := by omega
      have t3 : decide (data < 1) = false := by simp; omega
      have t4 : decide ((parts.length : Int) < data) = true := by simp; omega
      clear h1
      go_enter Try.func25, Try.ntmps25
      go_wp2_with fail
      go_ret
      exact ⟨by rw [HE.out]; rfl, rfl⟩
  have t3 : decide (data < 1) = false := by simp; omega
  have t4 : decide ((parts.length : Int) < data) = false := by simp; omega
  have hE0 : parErr parts data = if longB parts then 5 else if misB parts then 23 else 0 := by unfold parErr; rw [if_neg h1, if_neg h2]
  have HE0 := Lib.hid hE0
  rcases h with h | ⟨b, o, A, C, rfl, hM⟩
  · rw [h] at h1; simp at h1
  have HM := Lib.hid hM
  have q1 : 1 ≤ parts.length := by omega
  have q2 : parts.length ≤ 64 := by omega
  have q3 : 1 ≤ data := by omega
  have q4 : data ≤ parts.length := by omega
  clear hM hE0 h1 h2
  go_enter Try.func25, Try.ntmps25
  go_wp2_with fail
  go_loopg [5] parts.length (fun gk i wr => ∃ k : Nat, k + gk = parts.length ∧ i = .int .i64 k ∧ Hid (∀ i, i < k → plen parts i ≤ 65536) ∧ w = wr)
  case atStart => exact ⟨0, by omega, rfl, fun i hi => by omega, rfl⟩
  case round =>
    obtain ⟨k, hgk, rfl, hag, rfl⟩ := hrel
    have Hgk := Lib.hid hgk
    have hk : k ≤ parts.length := by omega
    clear hgk
    by_cases hlt : k < parts.length
    · have p1 : w.cell? ⟨b, o + k, none⟩ = some (.slice (A k) (plen parts k) (C k)) := (HM.out k _ (getD_some (d := []) hlt)).1
      have hxm := HL.out k hlt
      unfold maxLen at hxm
      by_cases x1 : 65536 < plen parts k
      · have hr := Lib.hid (show parErr parts data = 5 by rw [HE0.out, if_pos]; unfold longB; rw [List.any_eq_true]; exact ⟨k, List.mem_range.2 hlt, decide_eq_true x1⟩)
        generalize plen parts k = x at *
        clear hag
        go_wp2_with fail
        go_ret
        exact ⟨by rw [hr.out]; rfl, rfl⟩
      · have hs : Hid (∀ i, i < k + 1 → plen parts i ≤ 65536) := by
          intro i hi
          by_cases hik : i = k
          · rw [hik]; omega
          · exact hag.out i (by omega)
        generalize plen parts k = x at p1 x1 hxm
        have x2 : x ≤ 65536 := by omega
        clear hag x1
        go_wp2_with fail
        go_roundg (parts.length - k - 1)
        case measure => have := Hgk.out; omega
        case rel => exact ⟨k + 1, by have := Hgk.out; omega, by go_num, hs.out, rfl⟩
    · have hlong : longB parts = false := by
        unfold longB
        rw [List.any_eq_false]
        intro i hi
        have := hag.out i (by have := List.mem_range.1 hi; omega)
        simp; omega
      have hE1 := HE0.out
      rw [hlong, if_neg (by simp)] at hE1
      have HE1 := Lib.hid hE1
      have hfl := firstLen_le (parts := parts) (B := 65536) (fun j hj => hag.out j (by omega))
      have Hag := Lib.hid hag.out
      clear hlong hE1 hag HE0
      go_wp2_with fail
      refine (rlength_any _ parts _ hn Hmx.out).mono ?_
      rintro e w1 ⟨rfl, rfl⟩
      obtain ⟨fl, hflv⟩ : ∃ fl, firstLen parts = fl := ⟨_, rfl⟩
      rw [hflv] at hfl ⊢
      have Hfl := Lib.hid hflv
      clear hflv
      go_wp2_with fail
      go_loopg [7] parts.length (fun gk i wr => ∃ k : Nat, k + gk = parts.length ∧ i = .int .i64 k ∧ Hid (∀ i, i < k → ¬ (1 ≤ plen parts i ∧ plen parts i ≠ firstLen parts)) ∧ w = wr)
      case atStart => exact ⟨0, by omega, rfl, fun i hi => by omega, rfl⟩
      case round =>
        obtain ⟨q, hgq, rfl, hag, rfl⟩ := hrel
        have Hgq := Lib.hid hgq
        have hq : q ≤ parts.length := by omega
        clear hgq
        by_cases hltq : q < parts.length
        · have p1 : w.cell? ⟨b, o + q, none⟩ = some (.slice (A q) (plen parts q) (C q)) := (HM.out q _ (getD_some (d := []) hltq)).1
          have hxm := Hag.out q (by omega)
          by_cases x1 : 1 ≤ plen parts q ∧ plen parts q ≠ firstLen parts
          · have hr := Lib.hid (show parErr parts data = 23 by rw [HE1.out, if_pos (mis_first.2 ⟨q, hltq, x1⟩)])
            rw [Hfl.out] at x1
            generalize plen parts q = x at *
            have x2 : 0 < x := by omega
            have x3 : ((x : Int) != (fl : Int)) = true := by rw [bne_iff_ne]; omega
            clear hag x1
            go_wp2_with fail
            go_ret
            exact ⟨by rw [hr.out]; rfl, rfl⟩
          · have hs : Hid (∀ i, i < q + 1 → ¬ (1 ≤ plen parts i ∧ plen parts i ≠ firstLen parts)) := by
              intro i hi
              by_cases hik : i = q
              · rw [hik]; exact x1
              · exact hag.out i (by omega)
            rw [Hfl.out] at x1
            generalize plen parts q = x at p1 x1 hxm
            clear hag
            by_cases x2 : 0 < x
            · have x3 : ((x : Int) != (fl : Int)) = false := by rw [bne_eq_false_iff_eq]; omega
              clear x1
              go_wp2_with fail
              go_roundg (parts.length - q - 1)
              case measure => have := Hgq.out; omega
              case rel => exact ⟨q + 1, by have := Hgq.out; omega, by go_num, hs.out, rfl⟩
            · have x3 : x ≤ 0 := by omega
              clear x1
              go_wp2_with fail
              go_roundg (parts.length - q - 1)
              case measure => have := Hgq.out; omega
              case rel => exact ⟨q + 1, by have := Hgq.out; omega, by go_num, hs.out, rfl⟩
        · have hr := Lib.hid (show parErr parts data = 0 by
            rw [HE1.out, if_neg]
            intro hm
            obtain ⟨i, hi, h⟩ := mis_first.1 hm
            exact hag.out i (by omega) h)
          clear hag
          go_wp2_with fail
          go_ret
          exact ⟨by rw [hr.out]; rfl, rfl⟩
end Go.Proofs.Ytlbomlolomcolaa
