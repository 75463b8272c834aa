/- Walk of the law GaloisCauchys. -/
/- Contracts of the reference's Few, length and Check of chapter 54. -/
/- Contracts of the third reference's register, Update, Sum, Seal, Same, Open. -/
import Derived.Test.YtkclmfppjhmnjaaB18
import Derived.Test.YtkclmfppjhmnjaaB16
import Derived.Test.YtkclmfppjhmnjaaB13
import Derived.Test.YtkclmfppjhmnjaaB15
namespace Go.Proofs.Ytkclmfppjhmnjaa
open Go.RowKit

set_option maxRecDepth 100000 in
set_option maxHeartbeats 4000000 in
theorem Cauchy_out (n m : Int) (w : World) (h : n < 1 ∨ 64 < n ∨ m < 1 ∨ 64 < m) :
    Calls Try.prog 105 #[.int .i64 n, .int .i64 m] w (RowsErr [] 2 w) := by
  have tri : n < m ∨ m < n ∨ (¬ n < m ∧ ¬ m < n) := by omega
  rcases h with h | h | h | h
  all_goals
    rcases tri with tr | tr | ⟨tr, tr'⟩
    all_goals
      go_enter Try.func105, Try.ntmps105
      go_wp2_with fail
      all_goals
        go_ret2
        exact ⟨.slice none 0 0, [], rfl, GM.nil _ _, Below.refl _ _⟩

set_option maxRecDepth 100000 in
set_option maxHeartbeats 4000000 in
theorem rCauchy_out (n m : Int) (w : World) (h : n < 1 ∨ 64 < n ∨ m < 1 ∨ 64 < m) :
    Calls Try.prog 107 #[.int .i64 n, .int .i64 m] w (RowsErr [] 2 w) := by
  rcases h with h | h | h | h
  all_goals
    go_enter Try.func107, Try.ntmps107
    go_wp2_with fail
    all_goals
      go_ret2
      exact ⟨.slice none 0 0, [], rfl, GM.nil _ _, Below.refl _ _⟩

/-- What Cauchy returns. -/
def cauRows (n m : Int) : List (List Nat) := if 1 ≤ n ∧ n ≤ 64 ∧ 1 ≤ m ∧ m ≤ 64 then cauM n.toNat m.toNat else []
def cauErr (n m : Int) : Nat := if 1 ≤ n ∧ n ≤ 64 ∧ 1 ≤ m ∧ m ≤ 64 then 0 else 2

theorem cauM_byt (n m : Nat) : BytM (cauM n m) := by
  intro r hr
  obtain ⟨i, _, rfl⟩ := List.mem_map.1 hr
  intro x hx
  obtain ⟨k, _, rfl⟩ := List.mem_map.1 hx
  exact Gf.gi_lt _
theorem cauRows_byt (n m : Int) : BytM (cauRows n m) := by
  unfold cauRows; split
  · exact cauM_byt _ _
  · intro r hr; simp at hr
theorem cauRows_length (n m : Int) : (cauRows n m).length ≤ 64 := by
  unfold cauRows; split
  · rw [cauM_length]; omega
  · exact Nat.zero_le _

theorem Cauchy_any (n m : Int) (w : World) : Calls Try.prog 105 #[.int .i64 n, .int .i64 m] w (RowsErr (cauRows n m) (cauErr n m) w) := by
  unfold cauRows cauErr
  by_cases h : 1 ≤ n ∧ n ≤ 64 ∧ 1 ≤ m ∧ m ≤ 64
  · rw [if_pos h, if_pos h]
    obtain ⟨a, rfl⟩ := Int.eq_ofNat_of_zero_le (show 0 ≤ n by omega)
    obtain ⟨b, rfl⟩ := Int.eq_ofNat_of_zero_le (show 0 ≤ m by omega)
    rw [Int.toNat_natCast, Int.toNat_natCast]
    exact Cauchy_in a b w (by omega) (by omega) (by omega) (by omega)
  · rw [if_neg h, if_neg h]
    exact Cauchy_out n m w (by omega)
theorem rCauchy_any (n m : Int) (w : World) : Calls Try.prog 107 #[.int .i64 n, .int .i64 m] w (RowsErr (cauRows n m) (cauErr n m) w) := by
  unfold cauRows cauErr
  by_cases h : 1 ≤ n ∧ n ≤ 64 ∧ 1 ≤ m ∧ m ≤ 64
  · rw [if_pos h, if_pos h]
    obtain ⟨a, rfl⟩ := Int.eq_ofNat_of_zero_le (show 0 ≤ n by omega)
    obtain ⟨b, rfl⟩ := Int.eq_ofNat_of_zero_le (show 0 ≤ m by omega)
    rw [Int.toNat_natCast, Int.toNat_natCast]
    exact rCauchy_in a b w (by omega) (by omega) (by omega) (by omega)
  · rw [if_neg h, if_neg h]
    exact rCauchy_out n m w (by omega)

theorem sameB_self (m : List (List Nat)) : sameB m m = true := decide_eq_true rfl

end Go.Proofs.Ytkclmfppjhmnjaa

namespace Go.Proofs.Ytkclmfppjhmnjaa
open Go.RowKit

def few54 (parts : List (List Nat)) : Prop := (∀ i, i < parts.length → i < 100 → ¬ (100 < plen parts i ∧ plen parts i ≤ 65536)) ∧ parts.length ≤ 100
instance (parts : List (List Nat)) : Decidable (few54 parts) := by unfold few54; infer_instance
def few54B (parts : List (List Nat)) : Bool := decide (few54 parts)
theorem few54B_true {parts : List (List Nat)} (h : few54 parts) : few54B parts = true := decide_eq_true h
theorem few54B_false {parts : List (List Nat)} (h : ¬ few54 parts) : few54B parts = false := decide_eq_false h

/-- The length of the first part that is not lost. -/
def firstLen (parts : List (List Nat)) : Nat := match (List.range parts.length).find? (fun i => decide (1 ≤ plen parts i)) with | some i => plen parts i | none => 0
theorem firstLen_hit {parts : List (List Nat)} {k : Nat} (hk : k < parts.length) (h1 : 1 ≤ plen parts k) (h0 : ∀ j, j < k → plen parts j = 0) : firstLen parts = plen parts k := by
  have : (List.range parts.length).find? (fun i => decide (1 ≤ plen parts i)) = some k := by
    rw [List.find?_range_eq_some]
    exact ⟨by simpa using h1, by simpa using hk, fun j hj => by simp [h0 j hj]⟩
  unfold firstLen; rw [this]
theorem firstLen_none {parts : List (List Nat)} (h0 : ∀ j, j < parts.length → plen parts j = 0) : firstLen parts = 0 := by
  have : (List.range parts.length).find? (fun i => decide (1 ≤ plen parts i)) = none := by
    rw [List.find?_eq_none]
    intro x hx; simp [h0 x (List.mem_range.1 hx)]
  unfold firstLen; rw [this]
theorem firstLen_le {parts : List (List Nat)} {B : Nat} (h : ∀ j, j < parts.length → plen parts j ≤ B) : firstLen parts ≤ B := by
  unfold firstLen
  split
  · rename_i i hi
    have := List.mem_of_find?_eq_some hi
    exact h i (List.mem_range.1 this)
  · omega
theorem firstLen_some {parts : List (List Nat)} : firstLen parts = 0 ∧ (∀ j, j < parts.length → plen parts j = 0) ∨ ∃ i, i < parts.length ∧ 1 ≤ plen parts i ∧ firstLen parts = plen parts i := by
  unfold firstLen
  split
  · rename_i i hi
    have h1 := List.mem_of_find?_eq_some hi
    have h2 := List.find?_some hi
    exact Or.inr ⟨i, List.mem_range.1 h1, by simpa using h2, rfl⟩
  · rename_i hi
    rw [List.find?_eq_none] at hi
    exact Or.inl ⟨rfl, fun j hj => by have := hi j (List.mem_range.2 hj); simpa using this⟩

set_option maxRecDepth 100000 in
set_option maxHeartbeats 2000000 in
theorem rlength_any (v : Value) (parts : List (List Nat)) (w : World) (hn : parts.length ≤ 1000000000) (hm : Mx w v parts) : Calls Try.prog 108 #[v] w fun e w' => e = .returned (.int .i64 (firstLen parts)) ∧ w = w' := by
  obtain ⟨a, cap, rfl, hcap, hm⟩ := hm
  have Hm := Lib.hid hm
  clear hm
  go_enter Try.func108, Try.ntmps108
  go_wp2_with fail
  go_loopg [3] parts.length (fun gk i wr => ∃ k : Nat, k + gk = parts.length ∧ i = .int .i64 k ∧ Hid (∀ i, i < k → plen parts i = 0) ∧ w = wr)
  case atStart => exact ⟨0, by omega, rfl, fun i hi => by omega, rfl⟩
  case round =>
    obtain ⟨k, hgk, rfl, hag, rfl⟩ := hrel
    have Hgk := Lib.hid hgk
    have hk : k ≤ parts.length := by omega
    clear hgk
    by_cases hlt : k < parts.length
    · obtain ⟨b, o, A, C, rfl, hM⟩ : ∃ b o A C, a = some ⟨b, o, none⟩ ∧ MxAt w b o parts A C := by
        rcases Hm.out with h | h
        · rw [h] at hlt; simp at hlt
        · exact h
      have p1 : w.cell? ⟨b, o + k, none⟩ = some (.slice (A k) (plen parts k) (C k)) := (hM k _ (getD_some (d := []) hlt)).1
      clear hM
      by_cases x1 : 1 ≤ plen parts k
      · have hr := Lib.hid (firstLen_hit hlt x1 hag.out)
        generalize plen parts k = x at *
        clear hag
        have x2 : 0 < x := by omega
        go_wp2_with fail
        go_ret
        exact ⟨by rw [hr.out]; rfl, rfl⟩
      · have hs : Hid (∀ i, i < k + 1 → plen parts i = 0) := by
          intro i hi
          by_cases hik : i = k
          · rw [hik]; omega
          · exact hag.out i (by omega)
        generalize plen parts k = x at p1 x1
        have x2 : x ≤ 0 := by omega
        clear hag x1
        go_wp2_with fail
        go_roundg (parts.length - k - 1)
        case measure => have := Hgk.out; omega
        case rel => exact ⟨k + 1, by have := Hgk.out; omega, by go_num, hs.out, rfl⟩
    · have hr := Lib.hid (firstLen_none (parts := parts) (fun j hj => hag.out j (by omega)))
      clear hag
      go_wp2_with fail
      go_ret
      exact ⟨by rw [hr.out]; rfl, rfl⟩

theorem mis_first {parts : List (List Nat)} : misB parts = true ↔ ∃ i, i < parts.length ∧ 1 ≤ plen parts i ∧ plen parts i ≠ firstLen parts := by
  constructor
  · intro h
    unfold misB at h
    rw [List.any_eq_true] at h
    obtain ⟨i, hi, h⟩ := h
    rw [List.any_eq_true] at h
    obtain ⟨j, hj, h⟩ := h
    obtain ⟨h1, h2, h3⟩ := of_decide_eq_true h
    rw [List.mem_range] at hi hj
    by_cases hf : plen parts i = firstLen parts
    · exact ⟨j, hj, h2, fun e => h3 (by rw [hf, e])⟩
    · exact ⟨i, hi, h1, hf⟩
  · rintro ⟨i, hi, h1, h2⟩
    rcases firstLen_some (parts := parts) with ⟨_, h0⟩ | ⟨j, hj, h3, h4⟩
    · have := h0 i hi; omega
    · exact misB_yes hi hj h1 h3 (by rw [← h4]; exact h2)

end Go.Proofs.Ytkclmfppjhmnjaa

namespace Go.Proofs.Ytkclmfppjhmnjaa
open Go.RowKit Crc

set_option maxRecDepth 100000 in
set_option maxHeartbeats 400000 in
theorem r3register_any (r b : Nat) (w : World) (hr : r < 4294967296) (hb : b < 256) : Calls Try.prog 110 #[.int .u32 r, .int .u8 b] w fun e w' => e = .returned (.int .u32 (reg r b)) ∧ w = w' := by
  have hx := xor_u32 r b hr (by omega)
  have hx2 : r ^^^ b < 4294967296 := xor_lt32 hr (by omega)
  have HE := Lib.hid (show reg r b = sh 8 (r ^^^ b) from rfl)
  generalize r ^^^ b = q at *
  have Hq := Lib.hid hx2
  clear hx2
  go_enter Try.func110, Try.ntmps110
  go_wp2_with fail
  go_loop [0, 5] (fun s0 i => ∃ k : Nat, k ≤ 8 ∧ i = .int .i64 k ∧ s0 = .int .u32 (sh k q)) (fun _ i => 8 - (intOf i).toNat)
  case atStart => exact ⟨0, by omega, rfl, rfl⟩
  case round =>
    obtain ⟨k, hk, rfl, rfl⟩ := hrel
    by_cases hlt : k < 8
    · have hx := sh_lt Hq.out k
      have hs : Hid (sh (k + 1) q = s1 (sh k q)) := rfl
      obtain ⟨x, hxd⟩ : ∃ x, sh k q = x := ⟨_, rfl⟩
      rw [hxd] at hx hs ⊢
      have e2 : bits .xor .u32 ((x : Int) / 2) 3988292384 = (((x / 2) ^^^ 3988292384 : Nat) : Int) := by
        have := xor_u32 (x / 2) 3988292384 (by omega) (by decide)
        rw [show (x : Int) / 2 = ((x / 2 : Nat) : Int) by omega]; exact this
      have hx0 : (0 : Int) ≤ x := by omega
      by_cases ho : x % 2 = 1
      · have hs1 := Lib.hid (show s1 x = (x / 2) ^^^ 3988292384 by unfold s1; rw [if_pos ho])
        have t1 : ((x : Int) % 2 == 1) = true := by rw [beq_iff_eq]; omega
        clear hxd ho
        go_wp2_with fail
        refine ⟨⟨k + 1, by omega, by go_num, ?_⟩, by simp [intOf]; omega⟩
        rw [hs.out, hs1.out]
      · have hs1 := Lib.hid (show s1 x = x / 2 by unfold s1; rw [if_neg ho])
        have t1 : ((x : Int) % 2 == 1) = false := by rw [beq_eq_false_iff_ne]; omega
        clear hxd ho
        go_wp2_with fail
        refine ⟨⟨k + 1, by omega, by go_num, ?_⟩, by simp [intOf]; omega⟩
        rw [show ((x : Int) / 2) = ((x / 2 : Nat) : Int) by omega, hs.out, hs1.out]
    · obtain rfl : k = 8 := by omega
      go_wp2_with fail
      go_ret
      exact ⟨by rw [HE.out]; rfl, rfl⟩

set_option maxRecDepth 100000 in
set_option maxHeartbeats 400000 in
theorem r3Update_any (s : Nat) (v : Value) (l : List Nat) (w : World) (hs : s < 4294967296) (h : Bs w v l) (hB : Byt l) (hl : l.length ≤ 1000000000) : Calls Try.prog 92 #[.int .u32 s, v] w fun e w' => e = .returned (.int .u32 (crc s l)) ∧ w = w' := by
  obtain ⟨a, cap, rfl, hcap, hr⟩ := h
  have Hr := Lib.hid hr
  have HBy := Lib.hid hB
  have n1 := not_u32 hs
  have HX := Lib.hid (show crc s l = 4294967295 - upd (4294967295 - s) l from rfl)
  generalize hqd : 4294967295 - s = q at *
  have hq : q < 4294967296 := by omega
  clear hr hB hqd
  go_enter Try.func92, Try.ntmps92
  go_wp2_with fail
  go_loop [5, 6] (fun r i => ∃ k : Nat, k ≤ l.length ∧ i = .int .i64 k ∧ r = .int .u32 (upd q (l.take k))) (fun _ i => l.length - (intOf i).toNat)
  case atStart => exact ⟨0, by omega, rfl, rfl⟩
  case round =>
    obtain ⟨k, hk, rfl, rfl⟩ := hrel
    have hu := upd_lt (l := l.take k) hq (fun y hy => HBy.out y (List.mem_of_mem_take hy))
    by_cases hlt : k < l.length
    · obtain ⟨b, o, rfl, hrow⟩ : ∃ b o, a = some ⟨b, o, none⟩ ∧ RowAt w b o l := by
        rcases Hr.out with h | h
        · rw [h] at hlt; simp at hlt
        · exact h
      have hxk := getD_some (d := 0) hlt
      have hx := HBy.out.getD k
      have hcx := hrow k _ hxk
      unfold bv at hcx
      have hS := Lib.hid (show upd q (l.take (k + 1)) = reg (upd q (l.take k)) (l.getD k 0) by rw [List.take_add_one, hxk, Option.toList_some, upd_snoc])
      generalize l.getD k 0 = x at *
      generalize upd q (l.take k) = u at *
      clear hxk hrow
      go_wp2_with fail
      refine (r3register_any u x _ hu hx).mono ?_
      rintro e w' ⟨rfl, rfl⟩
      go_wp2_with fail
      go_round
      case rel => exact ⟨k + 1, by omega, by go_num, by rw [hS.out]⟩
      case measure => simp [intOf]; omega
    · obtain rfl : k = l.length := by omega
      rw [List.take_length] at hu ⊢
      have n2 := not_u32 hu
      generalize upd q l = u at *
      go_wp2_with fail
      go_ret
      exact ⟨by rw [HX.out]; rfl, rfl⟩

set_option maxRecDepth 100000 in
theorem r3Sum_any (v : Value) (l : List Nat) (w : World) (h : Bs w v l) (hB : Byt l) (hl : l.length ≤ 1000000000) : Calls Try.prog 59 #[v] w fun e w' => e = .returned (.int .u32 (crc 0 l)) ∧ w = w' := by
  have H := Lib.hid (r3Update_any 0 v l w (by decide) h hB hl)
  clear h hB hl
  go_enter Try.func59, Try.ntmps59
  go_wp2_with fail
  refine H.out.mono ?_
  rintro e w1 ⟨rfl, rfl⟩
  go_wp2_with fail
  go_ret
  exact ⟨rfl, rfl⟩

set_option maxRecDepth 100000 in
set_option maxHeartbeats 1000000 in
theorem r3Seal_any (v : Value) (l : List Nat) (w : World) (h : Bs w v l) (hB : Byt l) (hl : l.length ≤ 100000000) : Calls Try.prog 84 #[v] w (BytesRet (seal4 l) w) := by
  have H := Lib.hid h
  have hc := crc_lt 0 l
  have HBy := Lib.hid hB
  have hX := Lib.hid (show seal4 l = l ++ tail4 (crc 0 l) from rfl)
  obtain ⟨c, hcd⟩ : ∃ c, crc 0 l = c := ⟨_, rfl⟩
  have Hcd := Lib.hid hcd
  rw [hcd] at hc hX
  clear h hB hcd
  go_enter Try.func84, Try.ntmps84
  go_wp2_with (at_builtin; refine wpList_append_bs rfl (.tmp 5) (.tmp 6) rfl w.heap.size _ _ [] l rfl rfl (BO.nil _ _) H.out (by simp; omega) (Nat.le_refl _) ?_)
  intro v1 w1 hO1 hg1
  have HB1 := Lib.hid (bo_below (Below.refl w.heap.size w) hg1 (Nat.le_refl _) (BO.nil w w.heap.size) (Nat.le_refl _))
  have HO1 := Lib.hid hO1
  have H1 := Lib.hid (H.out.new HB1.out)
  have hz1 := HB1.out.size
  clear hO1 hg1
  go_wp2_with fail
  refine (r3Sum_any _ l _ H1.out HBy.out (by omega)).mono ?_
  rintro e w' ⟨rfl, rfl⟩
  rw [Hcd.out]
  have HT := Lib.hid (tail_bs hc w1)
  go_wp2_with (at_builtin; refine wpList_append_bs rfl (.tmp 10) (.tmp 22) rfl w.heap.size _ _ ([] ++ l) (tail4 c) rfl rfl (HO1.out.alloc _) HT.out (by rw [tail4_len]; simp; omega) (by simp; omega) ?_)
  intro v3 w3 hO3 hg3
  have HB3 := Lib.hid (bo_below (HB1.out.alloc hz1 _) hg3 (by simp; omega) (HO1.out.alloc _) (Nat.le_refl _))
  have HO3 := Lib.hid hO3
  clear hO3 hg3
  go_wp2_with fail
  go_ret
  exact ⟨_, rfl, by rw [hX.out]; exact HO3.out, HB3.out⟩
end Go.Proofs.Ytkclmfppjhmnjaa
