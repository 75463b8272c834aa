/- The contract of the second reference's Int. -/
/- The contract of the reference's numbers. -/
/- The contract of the reference's Header. -/
import Derived.Test.YtkclmfppjhmnjaaB38
import Derived.Test.YtkclmfppjhmnjaaB11
import Derived.Test.YtkclmfppjhmnjaaB30
import Derived.Deep.QuietTactic
import Derived.BigQuiet
namespace Go.Proofs.Ytkclmfppjhmnjaa
open Go.RowKit Wire

theorem ones_step : ∀ b : Fin 256, ∀ k : Fin 8, (256 - 2 ^ (7 - k.val) ≤ b.val ↔ k.val < ones b.val) := by decide +kernel
theorem ones_255 : ∀ b : Fin 256, (7 < ones b.val ↔ b.val = 255) := by decide +kernel

set_option maxRecDepth 100000 in
set_option maxHeartbeats 8000000 in
theorem r2Int_any (v : Value) (l : List Nat) (w : World) (h : Bs w v l) (hb : Byt l) (hl : l.length ≤ 1000000000) : Calls Try.prog 46 #[v] w (IntRet l w) := by
  have H := Lib.hid h
  cases l with
  | nil =>
    obtain ⟨a, cap, rfl, hcap, _⟩ := h
    clear H
    go_enter Try.func46, Try.ntmps46
    go_wp2_with fail
    go_ret3
    exact ⟨_, rfl, BO.nil _ _, Below.refl _ _⟩
  | cons b r =>
    obtain ⟨a, cap, rfl, hcap, hr0⟩ := h
    obtain ⟨B, o, hae, hrow⟩ : ∃ B o, a = some ⟨B, o, none⟩ ∧ RowAt w B o (b :: r) := by
      rcases hr0 with h | h
      · cases h
      · exact h
    subst hae
    have hb0 := hb b (by simp)
    have hc0 := hrow 0 b rfl
    rw [Nat.add_zero] at hc0
    unfold bv at hc0
    have hk8 := ones_le b
    have Host := Lib.hid (fun k (hk : k < 8) => ones_step ⟨b, hb0⟩ ⟨k, hk⟩)
    have ho5 := ones_255 ⟨b, hb0⟩
    simp only at ho5
    obtain ⟨k, hk⟩ : ∃ k, ones b = k := ⟨_, rfl⟩
    simp only [hk] at Host
    rw [hk] at hk8 ho5
    have Hk := Lib.hid hk
    have Hrow := Lib.hid hrow
    have Hb := Lib.hid hb
    have Hb0 := Lib.hid hb0
    have hbk := Lib.hid (World.block_lt_of_cell? w _ hc0)
    obtain ⟨n, hn⟩ : ∃ n, (b :: r).length = n := ⟨_, rfl⟩
    have hn1 : n = r.length + 1 := by rw [← hn]; rfl
    have Hn := Lib.hid hn1
    rw [hn] at H hcap hl ⊢
    have hnz : ((n : Int) == 0) = false := by rw [beq_eq_false_iff_ne]; omega
    have hn0 : 0 < n := by omega
    clear hk hrow hb hn hr0
    by_cases h7 : 7 < k
    · have he := Lib.hid (show rdErr (b :: r) = 3 by rw [rdErr, Hk.out, if_pos h7])
      have hb5 := ho5.1 h7
      have t1 : ((b : Int) == 255) = true := by rw [beq_iff_eq]; omega
      clear h7 ho5 hb5 hn1
      go_enter Try.func46, Try.ntmps46
      go_wp2_with fail
      go_ret3
      exact ⟨_, by unfold rdNum; rw [if_neg (by rw [he.out]; decide), he.out]; rfl, by unfold rdRest; rw [if_neg (by rw [he.out]; decide)]; exact BO.nil _ _, Below.refl _ _⟩
    have t1 : ((b : Int) == 255) = false := by rw [beq_eq_false_iff_ne]; omega
    have hk7 : k ≤ 7 := by omega
    clear ho5 hn1
    go_enter Try.func46, Try.ntmps46
    go_wp2_with fail
    go_loop [6] (fun i => ∃ j : Nat, j ≤ k ∧ i = .int .i64 j) (fun i => 8 - (intOf i).toNat)
    case atStart => exact ⟨0, by omega, rfl⟩
    case round =>
      obtain ⟨j, hj, rfl⟩ := hrel
      have hst := Host.out j (by omega)
      have hP := fun w' => r2power_any (7 - j) w' (by omega)
      rw [show ((7 - j : Nat) : Int) = 7 - (j : Int) by omega] at hP
      have hp2 : 2 ^ (7 - j) ≤ 128 := Nat.pow_le_pow_right (n := 2) (by decide) (by omega : 7 - j ≤ 7)
      obtain ⟨p, hp⟩ : ∃ p, 2 ^ (7 - j) = p := ⟨_, rfl⟩
      rw [hp] at hP hst hp2
      have HP := Lib.hid hP
      clear hp hP
      by_cases hjk : j < k
      · have hpb := hst.2 hjk
        have t2 : decide ((256 : Int) - (p : Int) ≤ (b : Int)) = true := by simp; omega
        clear hst hpb
        go_wp2_with fail
        refine (HP.out _).mono ?_
        rintro e w' ⟨rfl, rfl⟩
        go_wp2_with fail
        go_round
        case rel => exact ⟨j + 1, by omega, by go_num⟩
        case measure => simp [intOf]; omega
      · obtain rfl : j = k := by omega
        have hpb : ¬ 256 - p ≤ b := fun h => hjk (hst.1 h)
        have t2 : decide ((256 : Int) - (p : Int) ≤ (b : Int)) = false := by simp; omega
        clear hst hpb hjk
        by_cases hrl : r.length < j
        · have he := Lib.hid (show rdErr (b :: r) = 9 by rw [rdErr, Hk.out, if_neg h7, if_pos hrl])
          have t3 : decide ((n : Int) < (j : Int) + 1) = true := by have := Hn.out; simp; omega
          clear hrl h7
          go_wp2_with fail
          refine (HP.out _).mono ?_
          rintro e w' ⟨rfl, rfl⟩
          go_wp2_with fail
          go_ret3
          exact ⟨_, by unfold rdNum; rw [if_neg (by rw [he.out]; decide), he.out]; rfl, by unfold rdRest; rw [if_neg (by rw [he.out]; decide)]; exact BO.nil _ _, Below.refl _ _⟩
        have t3 : decide ((n : Int) < (j : Int) + 1) = false := by have := Hn.out; simp; omega
        have hjn : j + 1 ≤ n := by have := Hn.out; omega
        have hP8 := fun w' => r2power_any (8 - j) w' (by omega)
        rw [show ((8 - j : Nat) : Int) = 8 - (j : Int) by omega] at hP8
        obtain ⟨x, hx⟩ : ∃ x, b - (256 - 2 ^ (8 - j)) = x := ⟨_, rfl⟩
        obtain ⟨hxa, hxb⟩ := of_ones Hb0.out (by rw [Hk.out]; omega)
        rw [Hk.out, hx] at hxb
        rw [Hk.out] at hxa
        obtain ⟨g1, g2, g3⟩ := two_pow_cases hk7
        have Hx := Lib.hid hx
        obtain ⟨p8, hp8⟩ : ∃ p, 2 ^ (8 - j) = p := ⟨_, rfl⟩
        rw [hp8] at hP8 hx hxa g1 g2
        have HP8 := Lib.hid hP8
        have e1 : (b : Int) - ((256 : Int) - (p8 : Int)) = (x : Int) := by omega
        have Hxb := Lib.hid hxb
        have hx56 : x < 256 := by omega
        have hrl' : j ≤ r.length := by omega
        clear hP8 hx hxa hxb g1 g3 hp8 hrl
        go_wp2_with fail
        refine (HP.out _).mono ?_
        rintro e w' ⟨rfl, rfl⟩
        go_wp2_with fail
        refine (HP8.out _).mono ?_
        rintro e w' ⟨rfl, rfl⟩
        go_wp2_with fail
        go_loopg [7, 8] j (fun gk n' i wr => ∃ q : Nat, q + gk = j ∧ i = .int .i64 ((q : Int) + 1) ∧ n' = .int .i64 (big x (r.take q)) ∧ w = wr)
        case atStart => exact ⟨0, by omega, rfl, rfl, rfl⟩
        case round =>
          obtain ⟨q, hgk, rfl, rfl, rfl⟩ := hrel
          have Hgk := Lib.hid hgk
          have hqj : q ≤ j := by omega
          clear hgk
          by_cases hlt : q < j
          · have hy := getD_some (l := r) (d := 0) (i := q) (by omega)
            obtain ⟨y, hyd⟩ : ∃ y, r.getD q 0 = y := ⟨_, rfl⟩
            rw [hyd] at hy
            have hy2 : y < 256 := Hb.out y (List.mem_cons_of_mem _ (List.mem_of_getElem? hy))
            have hcy := Hrow.out (q + 1) y (by simpa using hy)
            unfold bv at hcy
            have htk : r.take (q + 1) = r.take q ++ [y] := by rw [List.take_add_one, hy]; rfl
            have htb : ∀ z ∈ r.take q, z < 256 := fun z hz => Hb.out z (List.mem_cons_of_mem _ (List.mem_of_mem_take hz))
            have hN := big_bound2 Hxb.out hk7 htb (by rw [List.length_take]; omega)
            have hS := Lib.hid (show big x (r.take (q + 1)) = big x (r.take q) * 256 + y by rw [htk, big_snoc])
            obtain ⟨N, hNd⟩ : ∃ N, big x (r.take q) = N := ⟨_, rfl⟩
            rw [hNd] at hN hS ⊢
            have hN2 : N < 9007199254740992 := by omega
            have i1 : (0 : Int) ≤ (q : Int) := by omega
            have i2 : (q : Int) + 1 < (n : Int) := by omega
            have t4 : decide ((q : Int) + 1 ≤ (j : Int)) = true := by simp; omega
            clear htk htb hN hNd hy hyd
            go_wp2_with fail
            go_roundg (j - q - 1)
            case measure => have := Hgk.out; omega
            case rel => exact ⟨q + 1, by have := Hgk.out; omega, by go_num, by rw [hS.out]; go_num, rfl⟩
          · obtain rfl : q = j := by omega
            have t4 : decide ((q : Int) + 1 ≤ (q : Int)) = false := by simp; omega
            have hN56 := big_bound Hxb.out hk7 (fun z hz => Hb.out z (List.mem_cons_of_mem _ (List.mem_of_mem_take hz))) (show (r.take q).length ≤ q by rw [List.length_take]; omega)
            obtain ⟨N, hNd⟩ : ∃ N, big x (r.take q) = N := ⟨_, rfl⟩
            have hErr : Hid (rdErr (b :: r) = if 9007199254740991 < N ∨ fur N ≠ q then 3 else 0) := by
              show rdErr (b :: r) = _
              rw [rdErr, Hk.out, if_neg (by omega), if_neg (by omega), Hx.out, hNd]
            have hRaw := Lib.hid (show rdRaw (b :: r) = N by rw [rdRaw, Hk.out, Hx.out, hNd])
            rw [hNd] at hN56 ⊢
            have hN63 : N < 9223372036854775808 := Nat.lt_trans hN56 (by decide)
            clear hNd hN56
            by_cases hbig : 9007199254740991 < N
            · have t5 : decide ((9007199254740991 : Int) < (N : Int)) = true := by simp; omega
              have he := Lib.hid (show rdErr (b :: r) = 3 by rw [hErr.out, if_pos (Or.inl hbig)])
              clear hbig h7
              go_wp2_with fail
              go_ret3
              exact ⟨_, by unfold rdNum; rw [if_neg (by rw [he.out]; decide), he.out]; rfl, by unfold rdRest; rw [if_neg (by rw [he.out]; decide)]; exact BO.nil _ _, Below.refl _ _⟩
            have t5 : decide ((9007199254740991 : Int) < (N : Int)) = false := by simp; omega
            have hZ := Lib.hid (show ∀ w', Calls Try.prog 77 #[.int .i64 N] w' fun e w'' => e = .returned (.int .i64 ((fur N : Nat) + 1)) ∧ w' = w'' from fun w' => by
              have := r2Size_any (N : Int) w'
              rwa [num_of (n := N) (by omega)] at this)
            have hfN := fur_lt8 (n := N) (by omega)
            by_cases hfk : fur N ≠ q
            · have he := Lib.hid (show rdErr (b :: r) = 3 by rw [hErr.out, if_pos (Or.inr hfk)])
              have t6 : ((fur N : Int) + 1 != (q : Int) + 1) = true := by rw [bne_iff_ne]; omega
              clear hbig h7 hfk
              go_wp2_with fail
              refine (hZ.out _).mono ?_
              rintro e w' ⟨rfl, rfl⟩
              go_wp2_with fail
              go_ret3
              exact ⟨_, by unfold rdNum; rw [if_neg (by rw [he.out]; decide), he.out]; rfl, by unfold rdRest; rw [if_neg (by rw [he.out]; decide)]; exact BO.nil _ _, Below.refl _ _⟩
            have he := Lib.hid (show rdErr (b :: r) = 0 by rw [hErr.out, if_neg (by omega)])
            have t6 : ((fur N : Int) + 1 != (q : Int) + 1) = false := by rw [bne_eq_false_iff_eq]; omega
            have HT := Lib.hid (show ∀ (p c : Nat), (n - (q + 1) = 0 ∨ p = o + (q + 1)) → n - (q + 1) ≤ c → Bs w (.slice (some ⟨B, p, none⟩) (n - (q + 1)) c) (r.drop q) from fun p c h1 h2 => by
              have hrq : r.length - q = n - (q + 1) := by have := Hn.out; omega
              have := Bs.tailAt (c := c) Hrow.out (by rw [hrq]; exact h1) (by rw [hrq]; exact h2)
              rwa [hrq] at this)
            clear hbig h7 hfk
            go_wp2_with fail
            refine (hZ.out _).mono ?_
            rintro e w' ⟨rfl, rfl⟩
            go_wp2_with fail
            all_goals
              refine (r2rest_any _ (r.drop q) _ (HT.out _ _ (by first | exact Or.inr rfl | exact Or.inl (by omega)) (by omega)) (by have := Hn.out; rw [List.length_drop]; omega)).mono ?_
              rintro e w3 ⟨v3, rfl, hO3, hB3⟩
              have HO3 := Lib.hid hO3
              have HB3 := Lib.hid hB3
              clear hO3 hB3
              go_wp2_with fail
              go_ret3
              exact ⟨_, by unfold rdNum; rw [if_pos he.out, hRaw.out, he.out]; rfl, by unfold rdRest; rw [if_pos he.out, List.headD_cons, Hk.out, List.drop_succ_cons]; exact HO3.out, HB3.out⟩
end Go.Proofs.Ytkclmfppjhmnjaa

namespace Go.Proofs.Ytkclmfppjhmnjaa
open Go.RowKit Wire Vol Crc

/-- The numbers so far, as cells. -/
def nv (r0 : List Nat) (k : Nat) : List Value := (List.range 5).map fun i => .int .i64 ((if i < k then nmN r0 i else 0 : Nat) : Int)
theorem nv_length (r0 : List Nat) (k : Nat) : (nv r0 k).length = 5 := by simp [nv]
theorem nv_get (r0 : List Nat) {k i : Nat} (h : i < 5) : (nv r0 k)[i]? = some (.int .i64 ((if i < k then nmN r0 i else 0 : Nat) : Int)) := by
  unfold nv; rw [List.getElem?_map, List.getElem?_range h]; rfl
theorem nv_set (r0 : List Nat) (k : Nat) : (nv r0 k).set k (.int .i64 (nmN r0 k : Nat)) = nv r0 (k + 1) := by
  apply List.ext_getElem?
  intro i
  by_cases hi : i < 5
  · rw [nv_get r0 hi]
    by_cases hk : k = i
    · subst hk; rw [List.getElem?_set_self (by rw [nv_length]; exact hi), if_pos (by omega)]
    · rw [List.getElem?_set_ne hk, nv_get r0 hi]
      by_cases h1 : i < k
      · rw [if_pos h1, if_pos (by omega)]
      · rw [if_neg h1, if_neg (by omega)]
  · rw [List.getElem?_eq_none (by rw [List.length_set, nv_length]; omega), List.getElem?_eq_none (by rw [nv_length]; omega)]
theorem nv_one (r0 : List Nat) (k : Nat) : (nv r0 k).toArray.all (·.oneCell') = true := all_oneCell_toArray (by intro v hv; unfold nv at hv; obtain ⟨i, _, rfl⟩ := List.mem_map.1 hv; rfl)
theorem sizeArr5 : (Try.prog.info? 103).map (·.size) = some 5 := by kernel_rfl
theorem results_nv {fn : Func} {p u v : Tmp} (h : fn.results = #[.cell p 103, .tmp u, .tmp v]) (tmps : Array Value) (w : World) (R : Nat) (r0 : List Nat) (k : Nat) (hp : tmps.getD p undef = .pointer (some ⟨R, 0, none⟩)) (hb : Blk w R 103 (nv r0 k)) :
    (results fn tmps).run Try.prog w = .ok (.tuple #[.agg (nv r0 k).toArray, tmps.getD u undef, tmps.getD v undef]) w := by
  have hl := run_loadVar_mid (P := Try.prog) w R 0 103 (nv r0 k) _ hb.range Try.underlying103 rfl (by rw [nv_length]; exact sizeArr5)
  rw [results_cell_tmp2 h, hp]
  simp only [asAddr, Sem.run_pure, Result.andThen_ok, hl]
/-- What reading the numbers leaves. -/
def NumRet (r0 : List Nat) (w : World) (e : Ending) (w' : World) : Prop := ∃ k vr, e = .returned (.tuple #[.agg (nv r0 k).toArray, vr, .int .i64 (nmErr 5 r0)]) ∧ (nmErr 5 r0 = 0 → k = 5 ∧ BO w' w.heap.size vr (nmR 5 r0)) ∧ Below w.heap.size w w'
theorem nv_end {w0 w : World} {R : Nat} {xs : List Value} (h : Blk w R 103 xs) (hx : xs.length = 5) (hB : Below w0.heap.size w0 w) (hR : w0.heap.size ≤ R) (r0 : List Nat) (k : Nat) :
    w.there R 0 (nv r0 k).toArray.size ∧ Blk (w.setCells R 0 (nv r0 k)) R 103 (nv r0 k) ∧ Below w0.heap.size w0 (w.setCells R 0 (nv r0 k)) :=
  ⟨h.there (by rw [List.size_toArray, nv_length]; omega), h.over (by rw [nv_length, hx]), below_setCells hB hR 0 _⟩
theorem sizeArr5' (r0 : List Nat) (k : Nat) : (Try.prog.info? 103).map (·.size) = some (nv r0 k).toArray.size := by rw [List.size_toArray, nv_length]; exact sizeArr5
theorem sizeArr5'' (r0 : List Nat) (k : Nat) : (Try.prog.info? 103).map (·.size) = some (nv r0 k).length := by rw [nv_length]; exact sizeArr5

set_option maxRecDepth 100000 in
set_option maxHeartbeats 8000000 in
theorem r5numbers_any (v : Value) (r0 : List Nat) (w : World) (h : Bs w v r0) (hB : Byt r0) (hl : r0.length ≤ 1000000000) : Calls Try.prog 52 #[v] w (NumRet r0 w) := by
  have hB1 := (Below.refl w.heap.size w).alloc (Nat.le_refl _) (.cells #[.int .i64 0, .int .i64 0, .int .i64 0, .int .i64 0, .int .i64 0] 103)
  have hb1 : Blk (w.alloc (.cells #[.int .i64 0, .int .i64 0, .int .i64 0, .int .i64 0, .int .i64 0] 103)) w.heap.size 103 (nv r0 0) := Blk.new w 103 (nv r0 0).toArray
  have hb2 : Blk ((w.alloc (.cells #[.int .i64 0, .int .i64 0, .int .i64 0, .int .i64 0, .int .i64 0] 103)).alloc (.cells #[.int .i64 0, .int .i64 0, .int .i64 0, .int .i64 0, .int .i64 0] 103)) (w.heap.size + 1) 103 (nv r0 0) := by
    have := Blk.new (w.alloc (.cells #[.int .i64 0, .int .i64 0, .int .i64 0, .int .i64 0, .int .i64 0] 103)) 103 (nv r0 0).toArray
    rw [show (w.alloc (.cells #[.int .i64 0, .int .i64 0, .int .i64 0, .int .i64 0, .int .i64 0] 103)).heap.size = w.heap.size + 1 by simp] at this
    exact this
  have HBy := Lib.hid hB
  have hB2 := hB1.alloc (by simp) (.cells #[.int .i64 0, .int .i64 0, .int .i64 0, .int .i64 0, .int .i64 0] 103)
  have hbb := hb1.alloc (.cells #[.int .i64 0, .int .i64 0, .int .i64 0, .int .i64 0, .int .i64 0] 103)
  obtain ⟨W0, hW0⟩ : ∃ W0, (w.alloc (.cells #[.int .i64 0, .int .i64 0, .int .i64 0, .int .i64 0, .int .i64 0] 103)).alloc (.cells #[.int .i64 0, .int .i64 0, .int .i64 0, .int .i64 0, .int .i64 0] 103) = W0 := ⟨_, rfl⟩
  rw [hW0] at hb2 hB2 hbb
  have HBs := Lib.hid (h.new hB2)
  have Hb1 := Lib.hid hbb
  have Hb2 := Lib.hid hb2
  have HB2 := Lib.hid hB2
  have HW0 := Lib.hid hW0
  clear hB1 hb1 hb2 hB hB2 hbb h hW0
  go_enter Try.func52, Try.ntmps52
  go_wp2_with fail
  rw [HW0.out]
  clear HW0
  go_loopg [0, 6] 5 (fun gk vx i wr => ∃ (k : Nat) (vy : Value), k + gk = 5 ∧ i = .int .i64 k ∧ vy = vx ∧ Hid (nmErr k r0 = 0) ∧ Hid (Bs wr vy (nmR k r0)) ∧ Hid (0 < k → BO wr (w.heap.size + 1 + 1) vy (nmR k r0)) ∧ Hid (Blk wr (w.heap.size + 1) 103 (nv r0 k)) ∧ Hid (Blk wr w.heap.size 103 (nv r0 0)) ∧ Hid (Below w.heap.size w wr))
  case atStart => exact ⟨0, v, by omega, rfl, rfl, rfl, HBs.out, fun h => absurd h (by omega), Hb2.out, Hb1.out, HB2.out⟩
  case round =>
    obtain ⟨k, vx, hgk, rfl, rfl, hne, hBs, hOk, h5, hb, hBk⟩ := hrel
    have Hgk := Lib.hid hgk
    have hk5 : k ≤ 5 := by omega
    have hzr := hBk.out.size
    have hz5 := h5.out.lt
    clear hgk
    by_cases hlt : k < 5
    · obtain ⟨HBk, hlk⟩ := nmR_byt HBy.out k
      have HI := Lib.hid (fun w' (hb : Bs w' vx (nmR k r0)) => r2Int_any vx (nmR k r0) w' hb HBk (by omega))
      clear HBk hlk
      by_cases hE2 : rdErr (nmR k r0) = 0
      · have hN := Lib.hid (nmN_eq r0 hlt)
        have Hne1 := Lib.hid (show nmErr (k + 1) r0 = 0 by rw [nmErr_succ, if_pos hne.out, hE2])
        have HE2 := Lib.hid hE2
        clear hE2
        go_wp2_with fail
        refine (HI.out _ hBs.out).mono ?_
        rintro e w3 ⟨v3, rfl, hO3, hB3⟩
        rw [HE2.out, ← hN.out]
        rw [← nmR_succ] at hO3
        have k5 := h5.out.below hB3 h5.out.lt
        have ck := k5.cell (nv_get r0 hlt)
        have cf := k5.frozen k
        have n5 := k5.setCell (i := k) (by rw [nv_length]; exact hlt) (.int .i64 (nmN r0 k : Nat))
        rw [nv_set] at n5
        have N5 := Lib.hid n5
        have Nb := Lib.hid ((hb.out.below hB3 hb.out.lt).setCell_other (p := ⟨w.heap.size + 1, k, none⟩) (by show w.heap.size ≠ w.heap.size + 1; omega) (.int .i64 (nmN r0 k : Nat)))
        have NB := Lib.hid ((hBk.out.trans (hB3.mono hzr)).setCell (p := ⟨w.heap.size + 1, k, none⟩) (by show w.heap.size ≤ w.heap.size + 1; omega) (.int .i64 (nmN r0 k : Nat)))
        have NO := Lib.hid ((hO3.far (p := ⟨w.heap.size + 1, k, none⟩) (by show w.heap.size + 1 < wr.heap.size; omega) (.int .i64 (nmN r0 k : Nat))).base (show w.heap.size + 1 + 1 ≤ wr.heap.size by omega))
        generalize nmN r0 k = nk at *
        clear hO3 hB3 k5 n5
        go_wp2_with fail
        go_roundg (5 - k - 1)
        case measure => have := Hgk.out; omega
        case rel => exact ⟨k + 1, v3, by have := Hgk.out; omega, by go_num, rfl, Hne1.out, NO.out.bs, fun _ => NO.out, N5.out, Nb.out, NB.out⟩
      · have e5 : nmErr 5 r0 = rdErr (nmR k r0) := nmErr_stop hne.out hE2 (by omega)
        have HX := Lib.hid e5
        have t1 : ((rdErr (nmR k r0) : Int) != 0) = true := by rw [bne_iff_ne]; omega
        obtain ⟨er, her⟩ : ∃ er, rdErr (nmR k r0) = er := ⟨_, rfl⟩
        have Her := Lib.hid her
        have hne0 : er ≠ 0 := by rw [← her]; exact hE2
        have Hn0 := Lib.hid hne0
        rw [her] at HX t1
        clear hE2 her e5 hne0
        go_wp2_with fail
        refine (HI.out _ hBs.out).mono ?_
        rintro e w3 ⟨v3, rfl, hO3, hB3⟩
        rw [Her.out]
        have k5 := h5.out.below hB3 h5.out.lt
        have Hrg := Lib.hid k5.range
        have HZ := Lib.hid (nv_end (hb.out.below hB3 hb.out.lt) (nv_length _ _) (hBk.out.trans (hB3.mono hzr)) (Nat.le_refl _) r0 k)
        clear hO3 hB3 k5
        go_wp2_with (first
          | (refine wpList_load_mid rfl 103 (.tmp 5) rfl (w.heap.size + 1) 0 rfl (nv r0 k) _ Hrg.out Try.underlying103 rfl (sizeArr5'' r0 k) ?_)
          | (refine wpList_store_mid rfl 103 (.tmp 2) (.tmp 22) rfl w.heap.size 0 (nv r0 k).toArray rfl rfl HZ.out.1 (sizeArr5' r0 k) (nv_one r0 k) ?_))
        (try simp only [Exit.inBlock, Exit.then])
        refine bodyPost_ret (results_nv rfl _ _ w.heap.size r0 k rfl HZ.out.2.1) rfl ?_
        exact ⟨k, _, by rw [HX.out]; rfl, fun h => absurd (HX.out.symm.trans h) Hn0.out, HZ.out.2.2⟩
    · obtain rfl : k = 5 := by omega
      have Hrg := Lib.hid h5.out.range
      have HO5 := hOk.out (by omega)
      have HO6 := Lib.hid (HO5.farCells (BO.apart HO5 hb.out (by decide)) (nv r0 5))
      have HZ := Lib.hid (nv_end hb.out (nv_length _ _) hBk.out (Nat.le_refl _) r0 5)
      clear HO5
      go_wp2_with (first
        | (refine wpList_load_mid rfl 103 (.tmp 5) rfl (w.heap.size + 1) 0 rfl (nv r0 5) _ Hrg.out Try.underlying103 rfl (sizeArr5'' r0 5) ?_)
        | (refine wpList_store_mid rfl 103 (.tmp 2) (.tmp 28) rfl w.heap.size 0 (nv r0 5).toArray rfl rfl HZ.out.1 (sizeArr5' r0 5) (nv_one r0 5) ?_))
      (try simp only [Exit.inBlock, Exit.then])
      refine bodyPost_ret (results_nv rfl _ _ w.heap.size r0 5 rfl HZ.out.2.1) rfl ?_
      exact ⟨5, _, by rw [hne.out]; rfl, fun _ => ⟨rfl, HO6.out.base (by omega)⟩, HZ.out.2.2⟩
end Go.Proofs.Ytkclmfppjhmnjaa

namespace Go.Proofs.Ytkclmfppjhmnjaa
open Go.RowKit Wire Vol Crc

set_option maxRecDepth 100000 in
set_option maxHeartbeats 4000000 in
theorem r5Header_any (v : Value) (l : List Nat) (w : World) (h : Bs w v l) (hB : Byt l) (hl : l.length ≤ 100000000) : Calls Try.prog 26 #[v] w (HdRet l w) := by
  have hB0 := (Below.refl w.heap.size w).alloc (Nat.le_refl _) (.cells #[.int .u32 0, .int .i64 0, .int .i64 0, .int .i64 0, .int .i64 0] 54)
  have Hb0 := Lib.hid (show Blk (w.alloc (.cells #[.int .u32 0, .int .i64 0, .int .i64 0, .int .i64 0, .int .i64 0] 54)) w.heap.size 54 (hdL hd0) from Blk.new w 54 (hdL hd0).toArray)
  have HB0 := Lib.hid hB0
  have HBy := Lib.hid hB
  have hz0 : w.heap.size < (w.alloc (.cells #[.int .u32 0, .int .i64 0, .int .i64 0, .int .i64 0, .int .i64 0] 54)).heap.size := by simp
  have HO0 := Lib.hid (r3Open_any v l _ (h.new hB0) hB hl)
  have Hll := Lib.hid hl
  clear hB0 hB h
  go_enter Try.func26, Try.ntmps26
  go_wp2_with fail
  obtain ⟨W0, hW0⟩ : ∃ W0, w.alloc (.cells #[.int .u32 0, .int .i64 0, .int .i64 0, .int .i64 0, .int .i64 0] 54) = W0 := ⟨_, rfl⟩
  rw [hW0] at Hb0 HB0 hz0 HO0 ⊢
  clear hW0
  refine HO0.out.mono ?_
  rintro e w1 ⟨vr, rfl, hO, hB1⟩
  have HO := Lib.hid (hO.base HB0.out.size)
  have HB1 := Lib.hid (HB0.out.trans (hB1.mono HB0.out.size))
  have Hb1 := Lib.hid (Hb0.out.below hB1 hz0)
  have hz1 := HB1.out.size
  have hzb := Hb1.out.lt
  clear hO hB1 HO0
  by_cases hE : opErr l = 0
  · rw [hE]
    have HE := Lib.hid hE
    have HBr0 := Lib.hid (opB_byt HBy.out)
    obtain ⟨r0, hr0⟩ : ∃ r0, opB l = r0 := ⟨_, rfl⟩
    have Hr0 := Lib.hid hr0
    rw [hr0] at HO HBr0
    have HN := Lib.hid (r5numbers_any vr r0 w1 HO.out.bs HBr0.out.1 (by have := HBr0.out.2; omega))
    clear hE hr0
    go_wp2_with fail
    refine HN.out.mono ?_
    rintro e w2 ⟨k, v2, rfl, hO2, hB2⟩
    have HO2 := Lib.hid hO2
    have HB2 := Lib.hid (HB1.out.trans (hB2.mono hz1))
    have Hb2 := Lib.hid (Hb1.out.below hB2 hzb)
    have hz2 := HB2.out.size
    have hzb2 := Hb2.out.lt
    have h6 := Blk.new w2 103 (nv r0 0).toArray
    have Hth := Lib.hid (show (w2.alloc (.cells #[.int .i64 0, .int .i64 0, .int .i64 0, .int .i64 0, .int .i64 0] 103)).there w2.heap.size 0 (nv r0 k).toArray.size from h6.there (by rw [List.size_toArray, nv_length]; exact Nat.le_refl _))
    have H6 := Lib.hid (show Blk ((w2.alloc (.cells #[.int .i64 0, .int .i64 0, .int .i64 0, .int .i64 0, .int .i64 0] 103)).setCells w2.heap.size 0 (nv r0 k)) w2.heap.size 103 (nv r0 k) from h6.over (by rw [nv_length]; rfl))
    have hBx := below_setCells ((Below.refl w2.heap.size w2).alloc (Nat.le_refl _) (.cells #[.int .i64 0, .int .i64 0, .int .i64 0, .int .i64 0, .int .i64 0] 103)) (Nat.le_refl _) 0 (nv r0 k)
    have HB3 := Lib.hid (HB2.out.trans (hBx.mono hz2))
    have Hb3 := Lib.hid (Hb2.out.below hBx hzb2)
    have HO3 := Lib.hid (show nmErr 5 r0 = 0 → k = 5 ∧ BO ((w2.alloc (.cells #[.int .i64 0, .int .i64 0, .int .i64 0, .int .i64 0, .int .i64 0] 103)).setCells w2.heap.size 0 (nv r0 k)) w.heap.size v2 (nmR 5 r0) from fun h => ⟨(hO2 h).1, ((hO2 h).2.new hBx).base hz1⟩)
    clear hO2 hB2 h6 hBx HO2
    go_upto_region 5 with ((with_reducible show wpList _ _ _ (Oper.mk _ (Op.store _ _ _) _ _ _ _ :: _) _ _); refine wpList_store_mid rfl 103 (.tmp 6) (.tmp 24) rfl w2.heap.size 0 (nv r0 k).toArray rfl rfl Hth.out (sizeArr5' r0 k) (nv_one r0 k) ?_)
    have Hzg := Lib.hid (show w.heap.size < w2.heap.size from hzb2)
    obtain ⟨g, hg⟩ : ∃ g, w2.heap.size = g := ⟨_, rfl⟩
    rw [hg] at H6 HB3 Hb3 HO3 Hzg ⊢
    generalize (w2.alloc (.cells #[.int .i64 0, .int .i64 0, .int .i64 0, .int .i64 0, .int .i64 0] 103)).setCells g 0 (nv r0 k) = W3 at *
    clear hg Hth hz2 hzb2 HB2 Hb2
    by_cases hne : nmErr 5 r0 = 0
    · rw [hne]
      obtain ⟨rfl, hO3⟩ := HO3.out hne
      have Hne := Lib.hid hne
      have HOk := Lib.hid hO3
      have c0 := H6.out.cell (nv_get r0 (i := 0) (by decide))
      have c1 := H6.out.cell (nv_get r0 (i := 1) (by decide))
      have c2 := H6.out.cell (nv_get r0 (i := 2) (by decide))
      have c3 := H6.out.cell (nv_get r0 (i := 3) (by decide))
      have c4 := H6.out.cell (nv_get r0 (i := 4) (by decide))
      rw [if_pos (by decide)] at c0 c1 c2 c3 c4
      have b0 := (show nmN r0 0 ≤ 9007199254740991 from rdNum_le _)
      have b1 := (show nmN r0 1 ≤ 9007199254740991 from rdNum_le _)
      have b2 := (show nmN r0 2 ≤ 9007199254740991 from rdNum_le _)
      have b3 := (show nmN r0 3 ≤ 9007199254740991 from rdNum_le _)
      have b4 := (show nmN r0 4 ≤ 9007199254740991 from rdNum_le _)
      have hX : hdErr l = if 4294967295 < nmN r0 0 ∨ nmN r0 2 = 0 ∨ 64 < nmN r0 2 + nmN r0 3 ∨ nmN r0 2 + nmN r0 3 ≤ nmN r0 1 ∨ 65536 < nmN r0 4 then 2 else if (nmR 5 r0).length ≠ szP (nmN r0 4) (nmN r0 2) then 3 else 0 := by
        rw [← Hr0.out]
        unfold hdErr
        rw [HE.out, if_neg (by simp), if_neg (by rw [Hr0.out, Hne.out]; simp)]
        rfl
      have HX := Lib.hid hX
      have HV := Lib.hid (show hdErr l = 0 → hdOf l = (nmN r0 0, nmN r0 1, nmN r0 2, nmN r0 3, nmN r0 4) ∧ hdP l = nmR 5 r0 from fun h => by
        rw [← Hr0.out]
        unfold hdOf hdP
        rw [if_pos h, if_pos h]
        exact ⟨rfl, rfl⟩)
      obtain ⟨ax, cx, hvx⟩ := hO3.form
      subst hvx
      have hrl : (nmR 5 r0).length ≤ 100000000 := by have := (nmR_byt HBr0.out.1 5).2; have := HBr0.out.2; have := Hll.out; omega
      clear hne hO3 HO3 hX
      generalize nmN r0 0 = n0 at *
      generalize nmN r0 1 = n1 at *
      generalize nmN r0 2 = n2 at *
      generalize nmN r0 3 = n3 at *
      generalize nmN r0 4 = n4 at *
      go_wp2_with fail
      go_quiet (fail)
      have Hb3 := Lib.hid (show Blk (W3.drewN nq) w.heap.size 54 (hdL hd0) from Hb3.out)
      have HB3 := Lib.hid (below_drewN HB3.out nq)
      have HOk := Lib.hid (show BO (W3.drewN nq) w.heap.size (.slice ax (nmR 5 r0).length cx) (nmR 5 r0) from HOk.out)
      generalize W3.drewN nq = W4 at *
      by_cases hbad : 4294967295 < n0 ∨ n2 = 0 ∨ 64 < n2 + n3 ∨ n2 + n3 ≤ n1 ∨ 65536 < n4
      · have hE2 : hdErr l = 2 := by rw [HX.out, if_pos hbad]
        have HE2 := Lib.hid hE2
        have HY := Lib.hid (hdErr_no hE2 (by decide))
        have HZ := Lib.hid (hd_end Hb3.out rfl HB3.out (Nat.le_refl _) hd0)
        clear hE2
        have hc : (decide ((4294967296 : Int) ≤ (n0 : Int)) = true) ∨ (decide ((4294967296 : Int) ≤ (n0 : Int)) = false ∧ decide ((n2 : Int) < 1) = true) ∨
            (decide ((4294967296 : Int) ≤ (n0 : Int)) = false ∧ decide ((n2 : Int) < 1) = false ∧ decide ((64 : Int) < (n2 : Int) + (n3 : Int)) = true) ∨
            (decide ((4294967296 : Int) ≤ (n0 : Int)) = false ∧ decide ((n2 : Int) < 1) = false ∧ decide ((64 : Int) < (n2 : Int) + (n3 : Int)) = false ∧ decide ((n2 : Int) + (n3 : Int) ≤ (n1 : Int)) = true) ∨
            (decide ((4294967296 : Int) ≤ (n0 : Int)) = false ∧ decide ((n2 : Int) < 1) = false ∧ decide ((64 : Int) < (n2 : Int) + (n3 : Int)) = false ∧ decide ((n2 : Int) + (n3 : Int) ≤ (n1 : Int)) = false ∧ decide ((65536 : Int) < (n4 : Int)) = true) := by
          simp only [decide_eq_true_eq, decide_eq_false_iff_not]
          omega
        clear hbad
        rcases hc with q1 | ⟨q1, q2⟩ | ⟨q1, q2, q3⟩ | ⟨q1, q2, q3, q4⟩ | ⟨q1, q2, q3, q4, q5⟩
        all_goals
          go_wp2_with ((with_reducible show wpList _ _ _ (Oper.mk _ (Op.store _ _ _) _ _ _ _ :: _) _ _); refine wpList_store_mid rfl 54 (.tmp 2) (.tmp 64) rfl w.heap.size 0 (hdL hd0).toArray rfl rfl HZ.out.1 sizeVol (hd_one hd0) ?_)
          (try simp only [Exit.inBlock, Exit.then])
          refine bodyPost_ret (results_hd rfl _ _ w.heap.size hd0 rfl HZ.out.2.1) rfl ?_
          exact ⟨_, by rw [HE2.out, HY.out.1]; rfl, by rw [HY.out.2]; exact BO.nil _ _, HZ.out.2.2⟩
      · have q1 : decide ((4294967296 : Int) ≤ (n0 : Int)) = false := by simp; omega
        have q2 : decide ((n2 : Int) < 1) = false := by simp; omega
        have q3 : decide ((64 : Int) < (n2 : Int) + (n3 : Int)) = false := by simp; omega
        have q4 : decide ((n2 : Int) + (n3 : Int) ≤ (n1 : Int)) = false := by simp; omega
        have q5 : decide ((65536 : Int) < (n4 : Int)) = false := by simp; omega
        have hS := Lib.hid (fun w' => r5Size_any n4 n2 w' b4 (by omega) b2)
        have HX2 := Lib.hid (show hdErr l = if (nmR 5 r0).length ≠ szP n4 n2 then 3 else 0 by rw [HX.out, if_neg hbad])
        have b0' : n0 ≤ 4294967295 := by omega
        clear hbad
        by_cases hsz : (nmR 5 r0).length = szP n4 n2
        · have hE2 : hdErr l = 0 := by rw [HX2.out, if_neg (by rw [hsz]; simp)]
          have HE2 := Lib.hid hE2
          have HY := Lib.hid (HV.out hE2)
          have q6 : (((nmR 5 r0).length : Int) != (szP n4 n2 : Int)) = false := by rw [bne_eq_false_iff_eq, hsz]
          have HZ := Lib.hid (hd_end Hb3.out rfl HB3.out (Nat.le_refl _) (n0, n1, n2, n3, n4))
          have kO2 := Lib.hid (HOk.out.farCells (BO.apart HOk.out Hb3.out (by decide)) (hdL (n0, n1, n2, n3, n4)))
          clear hE2
          generalize hlr : (nmR 5 r0).length = lr at *
          generalize szP n4 n2 = sz at *
          clear hsz hlr
          go_wp2_with fail
          refine (hS.out _).mono ?_
          rintro e w' ⟨rfl, rfl⟩
          go_wp2_with ((with_reducible show wpList _ _ _ (Oper.mk _ (Op.store _ _ _) _ _ _ _ :: _) _ _); refine wpList_store_mid rfl 54 (.tmp 2) (.tmp 78) rfl w.heap.size 0 (hdL (n0, n1, n2, n3, n4)).toArray rfl rfl HZ.out.1 sizeVol (hd_one _) ?_)
          (try simp only [Exit.inBlock, Exit.then])
          refine bodyPost_ret (results_hd rfl _ _ w.heap.size (n0, n1, n2, n3, n4) rfl HZ.out.2.1) rfl ?_
          exact ⟨_, by rw [HE2.out, HY.out.1]; rfl, by rw [HY.out.2]; exact kO2.out, HZ.out.2.2⟩
        · have hE2 : hdErr l = 3 := by rw [HX2.out, if_pos hsz]
          have HE2 := Lib.hid hE2
          have HY := Lib.hid (hdErr_no hE2 (by decide))
          have HZ := Lib.hid (hd_end Hb3.out rfl HB3.out (Nat.le_refl _) hd0)
          have q6 : (((nmR 5 r0).length : Int) != (szP n4 n2 : Int)) = true := by rw [bne_iff_ne]; omega
          generalize (nmR 5 r0).length = lr at *
          generalize szP n4 n2 = sz at *
          clear hE2 hsz
          go_wp2_with fail
          refine (hS.out _).mono ?_
          rintro e w' ⟨rfl, rfl⟩
          go_wp2_with ((with_reducible show wpList _ _ _ (Oper.mk _ (Op.store _ _ _) _ _ _ _ :: _) _ _); refine wpList_store_mid rfl 54 (.tmp 2) (.tmp 71) rfl w.heap.size 0 (hdL hd0).toArray rfl rfl HZ.out.1 sizeVol (hd_one hd0) ?_)
          (try simp only [Exit.inBlock, Exit.then])
          refine bodyPost_ret (results_hd rfl _ _ w.heap.size hd0 rfl HZ.out.2.1) rfl ?_
          exact ⟨_, by rw [HE2.out, HY.out.1]; rfl, by rw [HY.out.2]; exact BO.nil _ _, HZ.out.2.2⟩
    · have HX := Lib.hid (show hdErr l = nmErr 5 r0 by unfold hdErr; rw [HE.out, if_neg (by simp), Hr0.out, if_pos hne])
      have HY := Lib.hid (hdErr_no HX.out hne)
      have HZ := Lib.hid (hd_end Hb3.out rfl HB3.out (Nat.le_refl _) hd0)
      have t1 : ((nmErr 5 r0 : Int) != 0) = true := by rw [bne_iff_ne]; omega
      generalize nmErr 5 r0 = er at *
      clear hne HO3
      go_wp2_with (refine wpList_store_mid rfl 54 (.tmp 2) (.tmp 29) rfl w.heap.size 0 (hdL hd0).toArray rfl rfl HZ.out.1 sizeVol (hd_one hd0) ?_)
      (try simp only [Exit.inBlock, Exit.then])
      refine bodyPost_ret (results_hd rfl _ _ w.heap.size hd0 rfl HZ.out.2.1) rfl ?_
      exact ⟨_, by rw [HX.out, HY.out.1]; rfl, by rw [HY.out.2]; exact BO.nil _ _, HZ.out.2.2⟩
  · have HX := Lib.hid (show hdErr l = opErr l by unfold hdErr; rw [if_pos hE])
    have HY := Lib.hid (hdErr_no HX.out hE)
    have HZ := Lib.hid (hd_end Hb1.out rfl HB1.out (Nat.le_refl _) hd0)
    have t1 : ((opErr l : Int) != 0) = true := by rw [bne_iff_ne]; omega
    generalize opErr l = er at *
    clear hE
    go_wp2_with (refine wpList_store_mid rfl 54 (.tmp 2) (.tmp 19) rfl w.heap.size 0 (hdL hd0).toArray rfl rfl HZ.out.1 sizeVol (hd_one hd0) ?_)
    (try simp only [Exit.inBlock, Exit.then])
    refine bodyPost_ret (results_hd rfl _ _ w.heap.size hd0 rfl HZ.out.2.1) rfl ?_
    exact ⟨_, by rw [HX.out, HY.out.1]; rfl, by rw [HY.out.2]; exact BO.nil _ _, HZ.out.2.2⟩
end Go.Proofs.Ytkclmfppjhmnjaa
