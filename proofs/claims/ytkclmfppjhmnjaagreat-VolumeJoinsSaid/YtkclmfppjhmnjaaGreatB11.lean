/- The contract of repair.Image. -/
/- The contract of wire.Int. -/
import Derived.Test.YtkclmfppjhmnjaaGreatB09
import Derived.Deep.CutBlock
import Derived.Test.YtkclmfppjhmnjaaGreatB07
import Derived.Deep.QuietTactic
import Derived.BigQuiet
import Derived.OwnWalk
import Derived.Deep.DeepCutAuto
namespace Go.Proofs.YtkclmfppjhmnjaaGreat
open Go.RowKit Img

/-- Bytes and an error. -/
def BsErr (l : List Nat) (x : Nat) (w : World) (e : Ending) (w' : World) : Prop := ∃ v', e = .returned (.tuple #[v', .int .i64 x]) ∧ BO w' w.heap.size v' l ∧ Below w.heap.size w w'

theorem cutN_step {l : List (List Nat)} {k : Nat} (h : l.getD k [] = zp) : cutN l (k + 1) = cutN l k := by rw [cutN, if_pos h]
theorem cutN_stop {l : List (List Nat)} {k : Nat} (h : l.getD k [] ≠ zp) : cutN l (k + 1) = k + 1 := by rw [cutN, if_neg h]
theorem dr_all (l : List (List Nat)) (q : List (Int × List Nat)) : drErr l.length q 0 l.length = dkErr l.length q ∧ drPg l q 0 l.length = if dkErr l.length q = 0 then cont l q else [] := by
  have h1 : drErr l.length q 0 l.length = dkErr l.length q := by
    unfold drErr
    by_cases h : dkErr l.length q = 0
    · rw [if_pos h, if_pos (by omega), h]
    · rw [if_neg h]
  refine ⟨h1, ?_⟩
  unfold drPg
  rw [h1]
  split
  · show ((cont l q).drop 0).take l.length = _
    rw [List.drop_zero, List.take_of_length_le (by rw [cont_length]; exact Nat.le_refl _)]
  · rfl

end Go.Proofs.YtkclmfppjhmnjaaGreat

namespace Go.Proofs.YtkclmfppjhmnjaaGreat
open Go.RowKit Wire

/-- What reading a number leaves. -/
def IntRet (l : List Nat) (w : World) (e : Ending) (w' : World) : Prop := ∃ vr, e = .returned (.tuple #[.int .i64 (rdNum l), vr, .int .i64 (rdErr l)]) ∧ BO w' w.heap.size vr (rdRest l) ∧ Below w.heap.size w w'

theorem xor_255 : ∀ b : Fin 256, 255 ^^^ b.val = 255 - b.val := by decide +kernel
theorem not_u8 {b : Nat} (hb : b < 256) : bits .xor .u8 IntKind.u8.max (b : Int) = ((255 - b : Nat) : Int) := by
  have h1 : (BitVec.ofInt 8 (b : Int)).toNat = b := by
    rw [BitVec.ofInt_natCast, BitVec.toNat_ofNat]; exact Nat.mod_eq_of_lt (by omega)
  show IntKind.u8.wrap ((BitVec.ofInt 8 (255 : Int) ^^^ BitVec.ofInt 8 (b : Int)).toNat : Int) = _
  rw [BitVec.toNat_xor, h1]
  show IntKind.u8.wrap ((255 ^^^ b : Nat) : Int) = _
  rw [xor_255 ⟨b, hb⟩]
  exact IntWalk.u8_in _ (by simp only; omega)
theorem and_u8 (a b : Nat) (ha : a < 256) (hb : b < 256) : bits .and .u8 (a : Int) (b : Int) = ((a &&& b : Nat) : Int) := by
  have hx : a &&& b ≤ a := Nat.and_le_left
  have h1 : (BitVec.ofInt 8 (a : Int)).toNat = a := by
    rw [BitVec.ofInt_natCast, BitVec.toNat_ofNat]; exact Nat.mod_eq_of_lt (by omega)
  have h2 : (BitVec.ofInt 8 (b : Int)).toNat = b := by
    rw [BitVec.ofInt_natCast, BitVec.toNat_ofNat]; exact Nat.mod_eq_of_lt (by omega)
  show IntKind.u8.wrap ((BitVec.ofInt 8 (a : Int) &&& BitVec.ofInt 8 (b : Int)).toNat : Int) = _
  rw [BitVec.toNat_and, h1, h2]
  exact IntWalk.u8_in _ (by omega)
theorem or_i64 (a b : Nat) (ha : a < 2 ^ 62) (hb : b < 2 ^ 62) : bits .or .i64 (a : Int) (b : Int) = ((a ||| b : Nat) : Int) := by
  have hx : a ||| b < 2 ^ 62 := Nat.or_lt_two_pow ha hb
  have h1 : (BitVec.ofInt 64 (a : Int)).toNat = a := by
    rw [BitVec.ofInt_natCast, BitVec.toNat_ofNat]; exact Nat.mod_eq_of_lt (by omega)
  have h2 : (BitVec.ofInt 64 (b : Int)).toNat = b := by
    rw [BitVec.ofInt_natCast, BitVec.toNat_ofNat]; exact Nat.mod_eq_of_lt (by omega)
  show IntKind.i64.wrap ((BitVec.ofInt 64 (a : Int) ||| BitVec.ofInt 64 (b : Int)).toNat : Int) = _
  rw [BitVec.toNat_or, h1, h2]
  exact IntWalk.i64_in _ (by omega)
theorem shl_or {n b : Nat} (hn : n < 2 ^ 53) (hb : b < 256) : bits .or .i64 ((n : Int) * 256) (b : Int) = ((n * 256 + b : Nat) : Int) := by
  have h1 := or_i64 (n * 256) b (by omega) (by omega)
  rw [show n * 256 ||| b = n * 256 + b by rw [Nat.mul_comm]; exact (Nat.two_pow_add_eq_or_of_lt (i := 8) hb n).symm] at h1
  rw [← h1]
  congr 1
theorem and_head : ∀ b : Fin 256, ones b.val ≤ 7 → b.val &&& (127 / 2 ^ ones b.val) = b.val - (256 - 2 ^ (8 - ones b.val)) := by decide +kernel
theorem big_bound {x k : Nat} {t : List Nat} (hx : x < 2 ^ (7 - k)) (hk : k ≤ 7) (ht : ∀ y ∈ t, y < 256) (hl : t.length ≤ k) : big x t < 2 ^ 56 := by
  have h1 := big_lt ht
  rw [big_lin]
  have h2 : (x + 1) * 2 ^ (8 * t.length) ≤ 2 ^ (7 - k) * 2 ^ (8 * t.length) := Nat.mul_le_mul_right _ hx
  rw [Nat.add_mul, Nat.one_mul, ← Nat.pow_add] at h2
  have h3 : 2 ^ (7 - k + 8 * t.length) ≤ 2 ^ 56 := Nat.pow_le_pow_right (by decide) (by omega)
  omega
theorem big_bound2 {x k : Nat} {t : List Nat} (hx : x < 2 ^ (7 - k)) (hk : k ≤ 7) (ht : ∀ y ∈ t, y < 256) (hl : t.length < k) : big x t < 2 ^ 53 := by
  have h1 := big_lt ht
  rw [big_lin]
  have h2 : (x + 1) * 2 ^ (8 * t.length) ≤ 2 ^ (7 - k) * 2 ^ (8 * t.length) := Nat.mul_le_mul_right _ hx
  rw [Nat.add_mul, Nat.one_mul, ← Nat.pow_add] at h2
  have h3 : 2 ^ (7 - k + 8 * t.length) ≤ 2 ^ 53 := Nat.pow_le_pow_right (by decide) (by omega)
  omega
theorem big_snoc (x : Nat) (t : List Nat) (b : Nat) : big x (t ++ [b]) = big x t * 256 + b := by
  induction t generalizing x with
  | nil => rfl
  | cons c t ih => rw [List.cons_append, big, big, ih]

theorem Bs.tailAt {w : World} {B o q c j b : Nat} {r : List Nat} (hr : RowAt w B o (b :: r)) (hq : r.length - j = 0 ∨ q = o + (j + 1)) (hc : r.length - j ≤ c) : Bs w (.slice (some ⟨B, q, none⟩) (r.length - j) c) (r.drop j) := by
  refine ⟨_, c, by rw [List.length_drop], by rw [List.length_drop]; exact hc, ?_⟩
  rcases hq with h | h
  · exact Or.inl (List.drop_of_length_le (by omega))
  · exact Or.inr ⟨B, q, rfl, by have := hr.drop (j + 1); rw [List.drop_succ_cons, ← h] at this; exact this⟩

set_option maxRecDepth 100000 in
set_option maxHeartbeats 4000000 in
theorem wInt_any (v : Value) (l : List Nat) (w : World) (h : Bs w v l) (hb : Byt l) (hl : l.length ≤ 1000000000) : Calls Tryz.prog 33 #[v] w (IntRet l w) := by
  have H := Lib.hid h
  cases l with
  | nil =>
    obtain ⟨a, cap, rfl, hcap, _⟩ := h
    clear H
    go_enter Tryz.func33, Tryz.ntmps33
    go_wp2_with fail
    go_ret3
    exact ⟨_, rfl, BO.nil _ _, Below.refl _ _⟩
  | cons b r =>
    obtain ⟨a, cap, rfl, hcap, hr0⟩ := h
    obtain ⟨B, o, hae, hrow⟩ : ∃ B o, a = some ⟨B, o, none⟩ ∧ RowAt w B o (b :: r) := by
      rcases hr0 with h | h
      · cases h
      · exact h
    subst hae
    have hb0 := hb b (by simp)
    have hc0 := hrow 0 b rfl
    rw [Nat.add_zero] at hc0
    unfold bv at hc0
    have hLZ := Lib.hid (LeadingZeros8_any (255 - b) w (by omega))
    have hkd : 8 - bl (255 - b) = ones b := rfl
    rw [hkd] at hLZ
    have hk8 := ones_le b
    obtain ⟨k, hk⟩ : ∃ k, ones b = k := ⟨_, rfl⟩
    rw [hk] at hLZ hk8
    have Hk := Lib.hid hk
    have hnt := not_u8 hb0
    have Hrow := Lib.hid hrow
    have Hb := Lib.hid hb
    have Hb0 := Lib.hid hb0
    clear hkd hk hrow hb
    simp only [List.length_cons] at *
    by_cases h7 : 7 < k
    · have he := Lib.hid (show rdErr (b :: r) = 3 by rw [rdErr, Hk.out, if_pos h7])
      have t1 : decide ((7 : Int) < (k : Int)) = true := by simp; omega
      clear h7
      go_enter Tryz.func33, Tryz.ntmps33
      go_wp2_with fail
      refine hLZ.out.mono ?_
      rintro e w' ⟨rfl, rfl⟩
      go_wp2_with fail
      go_ret3
      exact ⟨_, by unfold rdNum; rw [if_neg (by rw [he.out]; decide), he.out]; rfl, by unfold rdRest; rw [if_neg (by rw [he.out]; decide)]; exact BO.nil _ _, Below.refl _ _⟩
    have t1 : decide ((7 : Int) < (k : Int)) = false := by simp; omega
    by_cases hrl : r.length < k
    · have he := Lib.hid (show rdErr (b :: r) = 9 by rw [rdErr, Hk.out, if_neg h7, if_pos hrl])
      have t2 : decide ((r.length : Int) + 1 ≤ (k : Int)) = true := by simp; omega
      clear h7 hrl
      go_enter Tryz.func33, Tryz.ntmps33
      go_wp2_with fail
      refine hLZ.out.mono ?_
      rintro e w' ⟨rfl, rfl⟩
      go_wp2_with fail
      go_ret3
      exact ⟨_, by unfold rdNum; rw [if_neg (by rw [he.out]; decide), he.out]; rfl, by unfold rdRest; rw [if_neg (by rw [he.out]; decide)]; exact BO.nil _ _, Below.refl _ _⟩
    have t2 : decide ((r.length : Int) + 1 ≤ (k : Int)) = false := by simp; omega
    obtain ⟨x, hx⟩ : ∃ x, b - (256 - 2 ^ (8 - k)) = x := ⟨_, rfl⟩
    have hx2 : x < 2 ^ (7 - k) := by have := (of_ones hb0 (by rw [Hk.out]; omega)).2; rw [Hk.out, hx] at this; exact this
    have e1 : bits .and .u8 (b : Int) (127 / 2 ^ k) = (x : Int) := by
      have h := and_head ⟨b, hb0⟩ (by simp only; rw [Hk.out]; omega)
      simp only at h
      rw [Hk.out, hx] at h
      have h2 : (127 : Int) / 2 ^ k = ((127 / 2 ^ k : Nat) : Int) := div_cast 127 k
      rw [h2, and_u8 _ _ hb0 (Nat.lt_of_le_of_lt (Nat.div_le_self _ _) (by decide)), h]
    have Hx := Lib.hid hx
    have hx56 : x < 256 := by omega
    have Hx2 := Lib.hid hx2
    have hk7 : k ≤ 7 := by omega
    have hkr : k ≤ r.length := by omega
    clear hx hx2 h7 hrl
    rcases (show cap = 1 ∨ 1 < cap by omega) with rfl | hc1
    all_goals
      go_enter Tryz.func33, Tryz.ntmps33
      go_wp2_with fail
      refine hLZ.out.mono ?_
      rintro e w' ⟨rfl, rfl⟩
      go_wp2_with fail
      go_quiet (fail)
      have HBq := Lib.hid (below_drewN (Below.refl w'.heap.size w') nq)
      generalize w'.drewN nq = w1 at *
      go_upto_region 9 with (fail)
      go_cut [33, 34, 35] (fun s33 s34 s35 wx => ∃ p cp, s33 = .slice (some ⟨B, p, none⟩) k cp ∧ (k = 0 ∨ p = o + 1) ∧ s34 = .int .i64 k ∧ s35 = .int .i64 0 ∧ w1 = wx)
      case first =>
        go_wp2_with fail
        all_goals
          go_meet
          first | exact ⟨_, _, rfl, Or.inr rfl, rfl, rfl, rfl⟩ | exact ⟨_, _, rfl, Or.inl (by omega), rfl, rfl, rfl⟩
      case rest =>
      obtain ⟨p, cp, rfl, hp, rfl, rfl, rfl⟩ := hcut
      have Hp := Lib.hid hp
      clear hp
      go_wp2_with fail
      go_loopg [6, 35] k (fun gk n i wr => ∃ j : Nat, j + gk = k ∧ i = .int .i64 j ∧ n = .int .i64 (big x (r.take j)) ∧ w1 = wr)
      case atStart => exact ⟨0, by omega, rfl, rfl, rfl⟩
      case round =>
        obtain ⟨j, hgk, rfl, rfl, rfl⟩ := hrel
        have Hgk := Lib.hid hgk
        have hjk : j ≤ k := by omega
        clear hgk
        by_cases hlt : j < k
        · have hy := getD_some (l := r) (d := 0) (i := j) (by omega)
          obtain ⟨y, hyd⟩ : ∃ y, r.getD j 0 = y := ⟨_, rfl⟩
          rw [hyd] at hy
          have hy2 : y < 256 := Hb.out y (List.mem_cons_of_mem _ (List.mem_of_getElem? hy))
          have hp1 : p = o + 1 := by rcases Hp.out with h | h <;> omega
          have hcy := (HBq.out.cell (p := ⟨B, o + (j + 1), none⟩) (World.block_lt_of_cell? w' _ (Hrow.out (j + 1) y (by simpa using hy)))).trans (Hrow.out (j + 1) y (by simpa using hy))
          rw [show o + (j + 1) = p + j by omega] at hcy
          unfold bv at hcy
          have htk : r.take (j + 1) = r.take j ++ [y] := by rw [List.take_add_one, hy]; rfl
          have htb : ∀ z ∈ r.take j, z < 256 := fun z hz => Hb.out z (List.mem_cons_of_mem _ (List.mem_of_mem_take hz))
          have hN := big_bound2 Hx2.out hk7 htb (by rw [List.length_take]; omega)
          have hS := Lib.hid (show big x (r.take (j + 1)) = big x (r.take j) * 256 + y by rw [htk, big_snoc])
          obtain ⟨N, hNd⟩ : ∃ N, big x (r.take j) = N := ⟨_, rfl⟩
          rw [hNd] at hN hS ⊢
          have e2 := shl_or hN hy2
          have hN2 : N < 9007199254740992 := by omega
          clear htk htb hN hNd hy hyd hp1
          go_wp2_with fail
          go_roundg (k - j - 1)
          case measure => have := Hgk.out; omega
          case rel => exact ⟨j + 1, by have := Hgk.out; omega, by go_num, by rw [hS.out]; go_num, rfl⟩
        · obtain rfl : j = k := by omega
          have hN56 := big_bound Hx2.out hk7 (fun z hz => Hb.out z (List.mem_cons_of_mem _ (List.mem_of_mem_take hz))) (show (r.take j).length ≤ j by rw [List.length_take]; omega)
          obtain ⟨N, hNd⟩ : ∃ N, big x (r.take j) = N := ⟨_, rfl⟩
          have hErr : Hid (rdErr (b :: r) = if 9007199254740991 < N ∨ fur N ≠ j then 3 else 0) := by
            show rdErr (b :: r) = _
            rw [rdErr, Hk.out, if_neg (by omega), if_neg (by omega), Hx.out, hNd]
          have hRaw := Lib.hid (show rdRaw (b :: r) = N by rw [rdRaw, Hk.out, Hx.out, hNd])
          rw [hNd] at hN56 ⊢
          have hN63 : N < 9223372036854775808 := Nat.lt_trans hN56 (by decide)
          clear hNd hN56
          by_cases hbig : 9007199254740991 < N
          · have t3 : decide ((9007199254740991 : Int) < (N : Int)) = true := by simp; omega
            have he := Lib.hid (show rdErr (b :: r) = 3 by rw [hErr.out, if_pos (Or.inl hbig)])
            go_wp2_with fail
            go_ret3
            exact ⟨_, by unfold rdNum; rw [if_neg (by rw [he.out]; decide), he.out]; rfl, by unfold rdRest; rw [if_neg (by rw [he.out]; decide)]; exact BO.nil _ _, HBq.out⟩
          have t3 : decide ((9007199254740991 : Int) < (N : Int)) = false := by simp; omega
          have hF := Lib.hid (wfurther_any N w1 hN63)
          by_cases hfk : fur N ≠ j
          · have he := Lib.hid (show rdErr (b :: r) = 3 by rw [hErr.out, if_pos (Or.inr hfk)])
            have t4 : ((fur N : Int) != (j : Int)) = true := by simp; omega
            go_wp2_with fail
            refine hF.out.mono ?_
            rintro e w2 ⟨rfl, rfl⟩
            go_wp2_with fail
            go_ret3
            exact ⟨_, by unfold rdNum; rw [if_neg (by rw [he.out]; decide), he.out]; rfl, by unfold rdRest; rw [if_neg (by rw [he.out]; decide)]; exact BO.nil _ _, HBq.out⟩
          have he := Lib.hid (show rdErr (b :: r) = 0 by rw [hErr.out, if_neg (by omega)])
          have t4 : ((fur N : Int) != (j : Int)) = false := by simp; omega
          go_wp2_with fail
          refine hF.out.mono ?_
          rintro e w2 ⟨rfl, rfl⟩
          clear hErr hfk hbig hF
          go_wp2_with fail
          all_goals
            refine (Clone_bs _ (r.drop j) _ (Bs.tailAt (Hrow.out.new HBq.out) (by first | exact Or.inr rfl | exact Or.inl (by omega)) (by omega)) (by rw [List.length_drop]; omega)).mono ?_
            rintro e w3 ⟨v3, rfl, hO3, hB3⟩
            have HO3 := Lib.hid (hO3.base HBq.out.size)
            have HB3 := Lib.hid (HBq.out.trans (hB3.mono HBq.out.size))
            clear hO3 hB3
            go_wp2_with fail
            go_ret3
            exact ⟨_, by unfold rdNum; rw [if_pos he.out, hRaw.out, he.out]; rfl, by unfold rdRest; rw [if_pos he.out, List.headD_cons, Hk.out, List.drop_succ_cons]; exact HO3.out, HB3.out⟩
end Go.Proofs.YtkclmfppjhmnjaaGreat
