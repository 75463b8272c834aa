/- The contract of the second reference's PutInt. -/
/- The contract of the reference's Recovery of chapter 54. -/
/- Plain: a new part of a set; sums of sets. No program in sight. -/
import Derived.Test.YtkclmfppjhmnjaaB07
import Derived.Test.YtkclmfppjhmnjaaB26
import Derived.Test.YtkclmfppjhmnjaaB23
import Derived.Deep.QuietTactic
import Derived.BigQuiet
import Derived.Test.YtkclmfppjhmnjaaB35
namespace Go.Proofs.Ytkclmfppjhmnjaa
open Go.RowKit Wire

theorem one_byte_bs (w : World) (h : Nat) : Bs (w.alloc (.cells #[.int .u8 (h : Nat)] 5)) (.slice (some ⟨w.heap.size, 0, none⟩) 1 1) [h] := bs_new w [h]
theorem pow_bound {k : Nat} (h : k ≤ 61) : 2 ^ k ≤ 2305843009213693952 ∧ 1 ≤ 2 ^ k := ⟨Nat.pow_le_pow_right (n := 2) (by decide) h, Nat.two_pow_pos k⟩

set_option maxRecDepth 100000 in
set_option maxHeartbeats 4000000 in
theorem r2PutInt_any (v : Value) (l : List Nat) (n : Int) (w : World) (h : Bs w v l) (hl : l.length ≤ 100000000) : Calls Try.prog 45 #[v, .int .i64 n] w (BytesRet (l ++ enc (num n)) w) := by
  have H := Lib.hid h
  have hN := Lib.hid (r2number_any n w)
  have hm := num_lt n
  have hmf := fur_lt8 hm
  obtain ⟨m, hm'⟩ : ∃ m, num n = m := ⟨_, rfl⟩
  rw [hm'] at hN hm hmf ⊢
  have hZ := Lib.hid (r2Size_any (m : Int) w)
  rw [num_of hm] at hZ
  have hh := head_lt hm
  have hE : enc m = (256 - 2 ^ (8 - fur m) + m / 2 ^ (8 * fur m)) :: low m (fur m) := rfl
  have hm53 : m < 9007199254740992 := hm
  clear hm' hm h
  obtain ⟨k, hk⟩ : ∃ k, fur m = k := ⟨_, rfl⟩
  rw [hk] at hZ hmf hh hE
  clear hk
  obtain ⟨g1, g2, g3⟩ := two_pow_cases hmf
  have hP1 := fun w' => r2power_any (8 - k) w' (by omega)
  have hP2 := fun w' => r2power_any (8 * k) w' (by omega)
  obtain ⟨b1, b2⟩ := pow_bound (k := 8 * k) (by omega)
  rw [show ((8 - k : Nat) : Int) = 8 - (k : Int) by omega] at hP1
  rw [show ((8 * k : Nat) : Int) = 8 * (k : Int) by omega] at hP2
  have e3 : (m : Int) / ((2 ^ (8 * k) : Nat) : Int) = ((m / 2 ^ (8 * k) : Nat) : Int) := by omega
  obtain ⟨p1, hp1⟩ : ∃ p, 2 ^ (8 - k) = p := ⟨_, rfl⟩
  obtain ⟨p2, hp2⟩ : ∃ p, 2 ^ (8 * k) = p := ⟨_, rfl⟩
  rw [hp1] at hP1 hE g1 g2
  rw [hp2] at hP2 hE hh b1 b2 e3
  obtain ⟨x, hx⟩ : ∃ x, m / p2 = x := ⟨_, rfl⟩
  rw [hx] at hE hh e3
  have HE := Lib.hid hE
  have HP1 := Lib.hid hP1
  have HP2 := Lib.hid hP2
  have z2 : ((p2 : Int) == 0) = false := by rw [beq_eq_false_iff_ne]; omega
  obtain ⟨hd, hhd⟩ : ∃ hd, 256 - p1 + x = hd := ⟨_, rfl⟩
  rw [hhd] at HE
  have hd2 : hd < 256 := by omega
  have e4 : (256 : Int) - (p1 : Int) + (x : Int) = (hd : Int) := by omega
  have p1b : p1 ≤ 256 := by omega
  have xb : x < 256 := by omega
  clear hE hP1 hP2 g1 g2 g3 hh hp1 hp2 hx hhd
  go_enter Try.func45, Try.ntmps45
  go_wp2_with fail
  refine hN.out.mono ?_
  rintro e w' ⟨rfl, rfl⟩
  go_wp2_with fail
  refine hZ.out.mono ?_
  rintro e w' ⟨rfl, rfl⟩
  clear hN hZ
  go_wp2_with (at_builtin; refine wpList_append_bs rfl (.tmp 13) (.tmp 14) rfl w.heap.size _ _ [] l rfl rfl (BO.nil _ _) H.out (by simp; omega) (Nat.le_refl _) ?_)
  intro v1 w1 hO1 hg1
  have HB1 := Lib.hid (bo_below (Below.refl w.heap.size w) hg1 (Nat.le_refl _) (BO.nil w w.heap.size) (Nat.le_refl _))
  have HO1 := Lib.hid (show BO w1 w.heap.size v1 l from hO1)
  have hz1 := HB1.out.size
  clear hO1 hg1
  go_wp2_with fail
  refine (HP1.out _).mono ?_
  rintro e w' ⟨rfl, rfl⟩
  go_wp2_with fail
  refine (HP2.out _).mono ?_
  rintro e w' ⟨rfl, rfl⟩
  have HT := Lib.hid (one_byte_bs w1 hd)
  go_wp2_with (at_builtin; refine wpList_append_bs rfl (.tmp 16) (.tmp 28) rfl w.heap.size _ _ l [hd] rfl rfl (HO1.out.alloc _) HT.out (by simp; omega) (by simp; omega) ?_)
  intro v2 w2 hO2 hg2
  have HB2 := Lib.hid (bo_below (HB1.out.alloc hz1 _) hg2 (by simp; omega) (HO1.out.alloc _) (Nat.le_refl _))
  have HO2 := Lib.hid hO2
  clear hO2 hg2 HO1 HT
  go_wp2_with fail
  go_loopg [6, 7] k (fun gk v i wr => ∃ (r : Nat) (p : List Nat), r = gk ∧ r ≤ 7 ∧ i = .int .i64 ((r : Int) - 1) ∧ Hid (BO wr w.heap.size v p) ∧ Hid (p ++ low m r = l ++ enc m) ∧ Hid (Below w.heap.size w wr))
  case atStart => exact ⟨k, l ++ [hd], rfl, hmf, by go_num, HO2.out, show l ++ [hd] ++ low m k = l ++ enc m by rw [HE.out, List.append_assoc]; rfl, HB2.out⟩
  case round =>
    obtain ⟨r, p, hgk, hr7, rfl, hO, hP, hBr⟩ := hrel
    have Hgk := Lib.hid hgk
    clear hgk
    cases r with
    | zero =>
      have hO' := hO.out
      have hP' := hP.out
      rw [low, List.append_nil] at hP'
      rw [hP'] at hO'
      have HO' := Lib.hid hO'
      clear hO' hP' hO
      go_wp2_with fail
      go_ret
      exact ⟨_, rfl, HO'.out, hBr.out⟩
    | succ q =>
      have hP' := hP.out
      rw [low_step] at hP'
      have hlen := congrArg List.length hP'
      have hel := congrArg List.length HE.out
      simp only [List.length_append, List.length_cons, low_length] at hlen hel
      rw [show ((q + 1 : Nat) : Int) - 1 = (q : Int) by omega]
      have hP3 := fun w' => r2power_any (8 * q) w' (by omega)
      rw [show ((8 * q : Nat) : Int) = 8 * (q : Int) by omega] at hP3
      obtain ⟨b3, b4⟩ := pow_bound (k := 8 * q) (by omega)
      have e5 : (m : Int) / ((2 ^ (8 * q) : Nat) : Int) = ((m / 2 ^ (8 * q) : Nat) : Int) := by omega
      have HP := Lib.hid hP'
      obtain ⟨p3, hp3⟩ : ∃ p, 2 ^ (8 * q) = p := ⟨_, rfl⟩
      rw [hp3] at hP3 b3 b4 e5 HP
      obtain ⟨y, hy⟩ : ∃ y, m / p3 = y := ⟨_, rfl⟩
      rw [hy] at e5 HP
      have hy53 : y < 9007199254740992 := by rw [← hy]; exact Nat.lt_of_le_of_lt (Nat.div_le_self _ _) hm53
      have HP3 := Lib.hid hP3
      have z3 : ((p3 : Int) == 0) = false := by rw [beq_eq_false_iff_ne]; omega
      have hzr := hBr.out.size
      have hpl : p.length ≤ 100000010 := by omega
      have HBr := Lib.hid hBr.out
      have HOr := Lib.hid hO.out
      have HTr := Lib.hid (one_byte_bs wr (y % 256))
      clear hP' hP hp3 hy hO hBr hP3 hlen hel
      go_wp2_with fail
      refine (HP3.out _).mono ?_
      rintro e w' ⟨rfl, rfl⟩
      go_wp2_with (at_builtin; refine wpList_append_bs rfl (.tmp 36) (.tmp 44) rfl w.heap.size _ _ p [y % 256] rfl rfl (HOr.out.alloc _) HTr.out (by simp; omega) (by simp; omega) ?_)
      intro v6 w6 hO6 hg6
      have HB6 := Lib.hid (bo_below (HBr.out.alloc hzr _) hg6 (by simp; omega) (HOr.out.alloc _) (Nat.le_refl _))
      have HO6 := Lib.hid hO6
      clear hO6 hg6
      go_wp2_with fail
      go_roundg q
      case measure => have := Hgk.out; omega
      case rel => exact ⟨q, p ++ [y % 256], rfl, by omega, by go_num, HO6.out, show p ++ [y % 256] ++ low m q = l ++ enc m by rw [List.append_assoc]; exact HP.out, HB6.out⟩
end Go.Proofs.Ytkclmfppjhmnjaa

namespace Go.Proofs.Ytkclmfppjhmnjaa
open Go.RowKit

set_option maxRecDepth 100000 in
set_option maxHeartbeats 8000000 in
theorem rRecovery_loop (b o cap L r : Nat) (data : List (List Nat)) (A : Nat → Option Addr) (C : Nat → Nat) (w : World) (hcap : data.length ≤ cap) (hM : MxAt w b o data A C) (h1 : 1 ≤ data.length) (h2 : data.length + r ≤ 64) (hL0 : plen data 0 = L) (hLm : ∀ j, j < data.length → plen data j ≤ maxLen) (hBy : BytM data) :
    Calls Try.prog 57 #[.slice (some ⟨b, o, none⟩) data.length cap, .int .i64 r] w (RowsErr (recRows data r) (recErr data r) w) := by
  obtain ⟨j0, gi, gz0, gz1, gz2⟩ := info_parts infoBytes
  have HM := Lib.hid hM
  have HL0 := Lib.hid hL0
  have HLm := Lib.hid hLm
  have HBy := Lib.hid hBy
  have HE0 := Lib.hid (show recErr data r = if longB data then 5 else if badB data then 23 else 0 by unfold recErr; rw [if_neg (by omega)])
  have t1 : decide ((data.length : Int) < 1) = false := by simp; omega
  have t2 : decide ((64 : Int) < (data.length : Int)) = false := by simp; omega
  have t3 : decide ((r : Int) < 0) = false := by simp
  have t4 : decide ((64 : Int) - (data.length : Int) < (r : Int)) = false := by simp; omega
  clear hM hL0 hLm hBy
  go_enter Try.func57, Try.ntmps57
  go_wp2_with fail
  go_loopg [6] data.length (fun gk i wr => ∃ k : Nat, k + gk = data.length ∧ i = .int .i64 k ∧ Hid (∀ i, i < k → plen data i ≤ 65536) ∧ w = wr)
  case atStart => exact ⟨0, by omega, rfl, fun i hi => by omega, rfl⟩
  case round =>
    obtain ⟨k, hgk, rfl, hag, rfl⟩ := hrel
    have Hgk := Lib.hid hgk
    have hk : k ≤ data.length := by omega
    clear hgk
    by_cases hlt : k < data.length
    · have p1 : w.cell? ⟨b, o + k, none⟩ = some (.slice (A k) (plen data k) (C k)) := (HM.out k _ (getD_some (d := []) hlt)).1
      have hxm := HLm.out k hlt
      unfold maxLen at hxm
      by_cases x1 : 65536 < plen data k
      · have hr := Lib.hid (show recErr data r = 5 by rw [HE0.out, if_pos]; unfold longB; rw [List.any_eq_true]; exact ⟨k, List.mem_range.2 hlt, decide_eq_true x1⟩)
        have hr2 := Lib.hid (show recRows data r = [] by unfold recRows; rw [hr.out]; rfl)
        generalize plen data k = x at *
        clear hag
        go_wp2_with fail
        go_ret2
        exact ⟨.slice none 0 0, [], by rw [hr.out]; rfl, by rw [hr2.out]; exact GM.nil _ _, Below.refl _ _⟩
      · have hs : Hid (∀ i, i < k + 1 → plen data i ≤ 65536) := by
          intro i hi
          by_cases hik : i = k
          · rw [hik]; omega
          · exact hag.out i (by omega)
        generalize plen data k = x at p1 x1 hxm
        have x2 : x ≤ 65536 := by omega
        clear hag x1
        go_wp2_with fail
        go_roundg (data.length - k - 1)
        case measure => have := Hgk.out; omega
        case rel => exact ⟨k + 1, by have := Hgk.out; omega, by go_num, hs.out, rfl⟩
    · have hlong : longB data = false := by
        unfold longB
        rw [List.any_eq_false]
        intro i hi
        have := hag.out i (by have := List.mem_range.1 hi; omega)
        simp; omega
      have hE1 := HE0.out
      rw [hlong, if_neg (by simp)] at hE1
      have HE1 := Lib.hid hE1
      have Hlong := Lib.hid hlong
      have Hag := Lib.hid hag.out
      have p0 : w.cell? ⟨b, o, none⟩ = some (.slice (A 0) L (C 0)) := by rw [← HL0.out]; exact (HM.out 0 _ (getD_some (d := []) (by omega))).1
      have hL2 : L ≤ 65536 := by rw [← HL0.out]; exact Hag.out 0 (by omega)
      clear hlong hE1 hag HE0
      go_wp2_with fail
      go_loopg [7] data.length (fun gk i wr => ∃ k : Nat, k + gk = data.length ∧ i = .int .i64 k ∧ Hid (∀ i, i < k → ¬ (plen data i = 0 ∨ plen data i ≠ plen data 0)) ∧ Hid (Below w.heap.size w wr))
      case atStart => exact ⟨0, by omega, rfl, fun i hi => by omega, Below.refl _ _⟩
      case round =>
        obtain ⟨q, hgq, rfl, hag, hwr⟩ := hrel
        have Hgq := Lib.hid hgq
        have hq : q ≤ data.length := by omega
        clear hgq
        by_cases hltq : q < data.length
        · have p1 : wr.cell? ⟨b, o + q, none⟩ = some (.slice (A q) (plen data q) (C q)) := ((HM.out.new hwr.out) q _ (getD_some (d := []) hltq)).1
          have p0' : wr.cell? ⟨b, o, none⟩ = some (.slice (A 0) L (C 0)) := by rw [← HL0.out]; exact ((HM.out.new hwr.out) 0 _ (getD_some (d := []) (by omega))).1
          have hxm := Hag.out q (by omega)
          have i1 : (0 : Int) ≤ (q : Int) := by omega
          have i2 : (q : Int) < (data.length : Int) := by omega
          have i3 : (0 : Int) < (data.length : Int) := by omega
          have Hwr := Lib.hid hwr.out
          by_cases x1 : plen data q = 0 ∨ plen data q ≠ plen data 0
          · have hr := Lib.hid (show recErr data r = 23 by rw [HE1.out, if_pos]; unfold badB; rw [List.any_eq_true]; exact ⟨q, List.mem_range.2 hltq, decide_eq_true x1⟩)
            have hr2 := Lib.hid (show recRows data r = [] by unfold recRows; rw [hr.out]; rfl)
            rw [HL0.out] at x1
            generalize plen data q = x at p1 x1 hxm
            clear hag hwr
            by_cases x0 : x = 0
            · have x3 : ((x : Int) == 0) = true := by rw [beq_iff_eq]; omega
              clear x1 x0
              go_wp2_with fail
              go_quiet (fail)
              go_wp2_with fail
              go_ret2
              exact ⟨.slice none 0 0, [], by rw [hr.out]; rfl, by rw [hr2.out]; exact GM.nil _ _, below_drewN Hwr.out _⟩
            · have x3 : ((x : Int) == 0) = false := by rw [beq_eq_false_iff_ne]; omega
              have x4 : ((x : Int) != (L : Int)) = true := by rw [bne_iff_ne]; omega
              clear x1 x0
              go_wp2_with fail
              go_quiet (fail)
              go_wp2_with fail
              go_ret2
              exact ⟨.slice none 0 0, [], by rw [hr.out]; rfl, by rw [hr2.out]; exact GM.nil _ _, below_drewN Hwr.out _⟩
          · have hs : Hid (∀ i, i < q + 1 → ¬ (plen data i = 0 ∨ plen data i ≠ plen data 0)) := by
              intro i hi
              by_cases hik : i = q
              · rw [hik]; exact x1
              · exact hag.out i (by omega)
            rw [HL0.out] at x1
            generalize plen data q = x at p1 x1 hxm
            have x3 : ((x : Int) == 0) = false := by rw [beq_eq_false_iff_ne]; omega
            have x4 : ((x : Int) != (L : Int)) = false := by rw [bne_eq_false_iff_eq]; omega
            clear x1 hag hwr
            go_wp2_with fail
            go_quiet (fail)
            go_wp2_with fail
            go_roundg (data.length - q - 1)
            case measure => have := Hgq.out; omega
            case rel => exact ⟨q + 1, by have := Hgq.out; omega, by go_num, hs.out, below_drewN Hwr.out _⟩
        · have hbad : badB data = false := by
            unfold badB
            rw [List.any_eq_false]
            intro i hi
            have := hag.out i (by have := List.mem_range.1 hi; omega)
            simpa using this
          obtain ⟨hR, hL1, _⟩ := badB_rect HBy.out hbad Hlong.out h1
          rw [HL0.out] at hR hL1
          have hr := Lib.hid (show recErr data r = 0 by rw [HE1.out, if_neg (by rw [hbad]; simp)])
          have hr2 := Lib.hid (show recRows data r = prodM (cauM r data.length) data by unfold recRows; rw [hr.out]; rfl)
          have HR := Lib.hid hR
          have Hwr := Lib.hid hwr.out
          obtain ⟨w2, rfl⟩ : ∃ w2 : World, w2 = wr := ⟨_, rfl⟩
          have hz2 := hwr.out.size
          clear hbad hR hag hwr p0
          go_wp2_with fail
          refine (rRows_any data.length r _ h1 h2).mono ?_
          rintro e w3 ⟨vr, hd, rfl, hG, hB3⟩
          obtain ⟨bo, co, hvr, hco, _, hO⟩ := hG.done (by intro h; have := rowsM_length data.length r; rw [h] at this; simp at this; omega)
          rw [rowsM_length] at hvr hco
          subst hvr
          have HO := Lib.hid hO
          have HB3 := Lib.hid hB3
          have HB03 := Lib.hid (Hwr.out.trans (hB3.mono hz2))
          have HMr := Lib.hid (HM.out.new HB03.out)
          have hz3 := hB3.size
          clear hG hO hB3
          go_wp2_with fail
          go_loopg [9, 10] r (fun gk v i wr => ∃ k : Nat, k + gk = r ∧ i = .int .i64 k ∧ Hid (∃ hd', GM wr w3.heap.size v hd' ((prodM (cauM r data.length) data).take k)) ∧ Hid (Below w3.heap.size w3 wr))
          case atStart => exact ⟨0, by omega, rfl, ⟨[], GM.nil _ _⟩, Below.refl _ _⟩
          case round =>
            obtain ⟨k', hgk, rfl, hG, hB⟩ := hrel
            have Hgk' := Lib.hid hgk
            have hk' : k' ≤ r := by omega
            clear hgk
            by_cases hltk : k' < r
            · obtain ⟨hd', hG⟩ := hG.out
              have hrg := rows_get (d := data.length) hltk
              obtain ⟨p, hp⟩ : ∃ p, hd[data.length + k']? = some p := ⟨hd.getD (data.length + k') (0, 0), getD_some (by rw [HO.out.len, rowsM_length]; omega)⟩
              have hpc := (HO.out.outer.below hB.out HO.out.outer.lt).cell (hvs_get hp hrg)
              obtain ⟨hpb, _, hpl⟩ := HO.out.rows _ p _ hp hrg
              rw [cauRow_length] at hpl hpc
              unfold hv at hpc
              have Hrow := Lib.hid (hpb.below hB.out hpb.lt).row
              have HMx := Lib.hid (HMr.out.new hB.out)
              have htk := Lib.hid (prodM_take (b := data) (show (cauM r data.length)[k']? = some (cauRow r data.length k') by simp [cauM, hltk]))
              have HG := Lib.hid hG
              have HBr := Lib.hid hB.out
              have hzz : w3.heap.size ≤ wr.heap.size := hB.out.size
              clear hG hB hrg hp hpb
              go_wp2_with fail
              refine (combined_any p.1 0 p.2 b o cap L data.length data.length (cauRow r data.length k') data A C wr (cauRow_length _ _ _) rfl Hrow.out HMx.out hcap HR.out rfl h1 (by omega) (by omega) hL1 (cauRow_byt _ _ _)).mono ?_
              rintro e w5 ⟨g, cg, rfl, g1, g2, g3, hblk, hB5⟩
              have Hlk := Lib.hid (show ((prodM (cauM r data.length) data).take k').length = k' by rw [List.length_take, prodM_length, cauM_length]; omega)
              have hL0' : (data.getD 0 []).length = L := HL0.out
              rw [hL0'] at htk
              generalize prTo (cauRow r data.length k') data L data.length = pr at *
              have Hblk := Lib.hid hblk
              have HB5 := Lib.hid hB5
              have HGo := Lib.hid ((HG.out.new hB5).outer)
              have Hg2 := Lib.hid g2
              have hz5 := hB5.size
              clear hblk hB5 g2 g3 hL0'
              go_wp2_with (at_builtin; refine wpList_append_own _ rfl _ _ 44 rfl w3.heap.size 26 j0 (.slice none 0 0) 1 24 Try.underlying44 gi gz0 gz1 gz2 rfl (by decide) _ _ _ rfl (HGo.out.alloc _) ⟨w5.heap.size, 0, none⟩ 1 1 [hv pr.length (g, cg)] rfl rfl ?d1 ?d2 ?d3 ?d4 ?d5 ?_)
              case d1 => exact cell_one_new _ _ _
              case d2 => intro u hu; simp only [List.mem_cons, List.not_mem_nil, or_false] at hu; subst hu; rfl
              case d3 => rw [Hlk.out]; unfold maxLen; omega
              case d4 => rw [Hlk.out]; omega
              case d5 => simp; omega
              intro v' w7 hown hgr _
              have hG7 := HG.out.snoc HB5.out (p := (g, cg)) (r := pr) Hblk.out g1 HBr.out.size Hg2.out (by rw [Hlk.out]; simpa [prodM_length, cauM_length, Nat.min_eq_left hk'] using hown) (by simpa using hgr)
              rw [← htk.out] at hG7
              have hB7 : Below w3.heap.size w3 w7 := ((HBr.out.trans (HB5.out.mono HBr.out.size)).alloc (by omega) _).grown hgr (by simp; omega) (fun q hq => (owns_block HG.out.outer hq).2.1)
              have HG7 := Lib.hid hG7
              have HB7 := Lib.hid hB7
              clear hown hgr hG7 hB7
              go_wp2_with fail
              go_roundg (r - k' - 1)
              case measure => have := Hgk'.out; omega
              case rel => exact ⟨k' + 1, by have := Hgk'.out; omega, by go_num, ⟨_, HG7.out⟩, HB7.out⟩
            · have hkn : (prodM (cauM r data.length) data).take k' = prodM (cauM r data.length) data := List.take_of_length_le (by rw [prodM_length, cauM_length]; omega)
              obtain ⟨hd', hG⟩ := hG.out
              rw [hkn] at hG
              have HG := Lib.hid hG
              have HBr := Lib.hid hB.out
              clear hG hkn hB
              go_wp2_with fail
              go_ret2
              have hss : w.heap.size ≤ w3.heap.size := HB03.out.size
              exact ⟨_, hd', by rw [hr.out]; rfl, by rw [hr2.out]; exact HG.out.base hss, HB03.out.trans (HBr.out.mono hss)⟩

set_option maxRecDepth 100000 in
set_option maxHeartbeats 4000000 in
theorem rRecovery_any (v : Value) (data : List (List Nat)) (count : Int) (w : World) (hn : data.length ≤ 1000000000) (hLm : ∀ j, j < data.length → plen data j ≤ maxLen) (hBy : BytM data) (hm : Mx w v data) (hd1 : -9223372036854775808 ≤ count) (hd2 : count ≤ 9223372036854775807) :
    Calls Try.prog 57 #[v, .int .i64 count] w (RowsErr (recRows data count) (recErr data count) w) := by
  obtain ⟨a, cap, rfl, hcap, h⟩ := hm
  by_cases hc : data.length < 1 ∨ 64 < data.length ∨ count < 0 ∨ 64 - (data.length : Int) < count
  · have e1 : recErr data count = 6 := by unfold recErr; rw [if_pos hc]
    have e2 : recRows data count = [] := by unfold recRows; rw [e1]; rfl
    rw [e1, e2]
    clear e1 e2 h hLm
    by_cases h1 : data.length < 1
    · have t1 : decide ((data.length : Int) < 1) = true := by simp; omega
      clear hc
      go_enter Try.func57, Try.ntmps57
      go_wp2_with fail
      go_ret2
      exact ⟨.slice none 0 0, [], rfl, GM.nil _ _, Below.refl _ _⟩
    have t1 : decide ((data.length : Int) < 1) = false := by simp; omega
    by_cases h2 : 64 < data.length
    · have t2 : decide ((64 : Int) < (data.length : Int)) = true := by simp; omega
      clear hc
      go_enter Try.func57, Try.ntmps57
      go_wp2_with fail
      go_ret2
      exact ⟨.slice none 0 0, [], rfl, GM.nil _ _, Below.refl _ _⟩
    have t2 : decide ((64 : Int) < (data.length : Int)) = false := by simp; omega
    by_cases h3 : count < 0
    · have t3 : decide (count < 0) = true := by simp; omega
      clear hc
      go_enter Try.func57, Try.ntmps57
      go_wp2_with fail
      go_ret2
      exact ⟨.slice none 0 0, [], rfl, GM.nil _ _, Below.refl _ _⟩
    have t3 : decide (count < 0) = false := by simp; omega
    have t4 : decide ((64 : Int) - (data.length : Int) < count) = true := by simp; omega
    have t5 : (64 : Int) - (data.length : Int) < count := by omega
    clear hc
    go_enter Try.func57, Try.ntmps57
    go_wp2_with fail
    go_ret2
    exact ⟨.slice none 0 0, [], rfl, GM.nil _ _, Below.refl _ _⟩
  rcases h with h | ⟨b, o, A, C, rfl, hM⟩
  · rw [h] at hc; simp at hc
  obtain ⟨r, rfl⟩ : ∃ r : Nat, count = r := ⟨count.toNat, by omega⟩
  exact rRecovery_loop b o cap _ r data A C w hcap hM (by omega) (by omega) rfl hLm hBy
end Go.Proofs.Ytkclmfppjhmnjaa

namespace Go.Proofs.Ytkclmfppjhmnjaa
open Alg

theorem set_rect {D : List (List Nat)} {c k : Nat} {p : List Nat} (hD : Rect c D) (hp : p.length = c) (hb : Byt p) : Rect c (D.set k p) := by
  intro x hx
  rcases List.mem_or_eq_of_mem_set hx with h | h
  · exact hD x h
  · rw [h]; exact ⟨hp, hb⟩
theorem ent_setRow {D : List (List Nat)} {k : Nat} {p : List Nat} (hk : k < D.length) (i j : Nat) : ent (D.set k p) i j = if i = k then tg (p.getD j 0) else ent D i j := by
  unfold ent
  rw [Alg.getD_set hk]
  split <;> rfl

theorem getD_left {α : Type} {a b : List α} {i : Nat} {d : α} (h : i < a.length) : (a ++ b).getD i d = a.getD i d := by
  rw [List.getD_eq_getElem?_getD, List.getElem?_append_left h, ← List.getD_eq_getElem?_getD]

theorem ent_set {D : List (List Nat)} {d r c i j : Nat} (hD : Rect c D) (ld : D.length = d) (h1 : 1 ≤ d) (hi : i < d + r) (hj : j < c) : ent (setM d r D) i j = S d fun k => gx (ent (rowsM d r) i k) (ent D k j) := by
  unfold setM
  exact ent_prod (rowsM_rect d r) hD ld (by rw [rowsM_length]; exact hi) hj (row0_of hD (by omega))

/-- A part is replaced: the set with the new part. -/
theorem upd_set {D : List (List Nat)} {d r c t : Nat} {p : List Nat} (hD : Rect c D) (ld : D.length = d) (h1 : 1 ≤ d) (h2 : d + r ≤ 64) (hc1 : 1 ≤ c) (hc2 : c ≤ 65536) (ht : t < d) (hp : p.length = c) (hb : Byt p) :
    updErr (setM d r D) d t p = 0 ∧ updRows (setM d r D) d t p = setM d r (D.set t p) := by
  have hS := setM_rect (r := r) hD ld h1
  have hSl := setM_length d r D
  have hP : parErr (setM d r D) d = 0 := parErr_set (c := c) (by omega) h1 (by omega) hc2 fun i hi => Or.inr (plen_of hS hi)
  have hlo : lostB (setM d r D) = false := by
    unfold lostB; rw [List.any_eq_false]
    intro i hi
    rw [plen_of hS (List.mem_range.1 hi)]
    simp; omega
  have hE : updErr (setM d r D) d t p = 0 := by
    unfold updErr
    rw [if_pos hP, hlo, if_neg (by decide), if_neg (by omega), if_neg (by rw [plen_of hS (by omega)]; omega)]
  refine ⟨hE, ?_⟩
  have hD' : Rect c (D.set t p) := set_rect hD hp hb
  have ld' : (D.set t p).length = d := by simpa using ld
  have hSt : (setM d r D).getD t [] = D.getD t [] := by
    have hEr : recErr D r = 0 := recErr_ok hD hc1 hc2 (by omega) (by omega)
    have := set_eq (n := r) hD (by omega) hEr
    rw [ld] at this
    rw [← this]
    exact getD_left (by omega)
  unfold updRows
  rw [if_pos hE]
  show updM _ (d : Int).toNat (t : Int).toNat p = _
  rw [Int.toNat_natCast, Int.toNat_natCast]
  have hrow : ∀ i, i < d + r → (updM (setM d r D) d t p).getD i [] = updRow (setM d r D) d t p i := by
    intro i hi
    unfold updM
    rw [List.getD_eq_getElem?_getD, List.getElem?_map, List.getElem?_range (by omega)]; rfl
  have hDt := hD.get (i := t) (by omega)
  have hch : (addMul 1 p (D.getD t [])).length = c := by rw [addMul_length, hp, hDt.1]; exact Nat.min_self _
  have hru : ∀ i, i < d + r → (updRow (setM d r D) d t p i).length = c ∧ Byt (updRow (setM d r D) d t p i) := by
    intro i hi
    have hSi := hS.get (i := i) (by omega)
    unfold updRow
    rw [hSt]
    exact ⟨by rw [addMul_length, hSi.1, hch]; exact Nat.min_self _, addMul_byt hSi.2⟩
  have hU : Rect c (updM (setM d r D) d t p) := by
    intro x hx
    unfold updM at hx
    obtain ⟨i, hi, rfl⟩ := List.mem_map.1 hx
    exact hru i (by have := List.mem_range.1 hi; omega)
  refine ent_ext (n := d + r) hU (setM_rect hD' ld' h1) (by rw [updM_length, hSl]) (setM_length _ _ _) fun i j hi hj => ?_
  rw [ent_set hD' ld' h1 hi hj]
  have hSi := hS.get (i := i) (by omega)
  have e1 : ent (updM (setM d r D) d t p) i j = ga (ent (setM d r D) i j) (gx (ent (rowsM d r) i t) (ga (tg (p.getD j 0)) (ent D t j))) := by
    have hRi := (rowsM_rect d r).get (i := i) (by rw [rowsM_length]; exact hi)
    show tg (((updM (setM d r D) d t p).getD i []).getD j 0) = _
    rw [hrow i hi]
    unfold updRow
    rw [hSt, hSl, Nat.add_sub_cancel_left, addMul_getD (by rw [hSi.1, hch]) (by omega), addMul_getD (by rw [hp, hDt.1]) (by omega)]
    rw [tg_xor (hSi.2.getD j) (Gf.gm_lt _ _), tg_gm (hRi.2.getD t) (Gf.xor_lt (hb.getD j) (Gf.gm_lt _ _)), tg_xor (hb.getD j) (Gf.gm_lt _ _), Gf.one_gm (hDt.2.getD j)]
    rfl
  rw [e1, ent_set hD ld h1 hi hj]
  have e2 : (S d fun k => gx (ent (rowsM d r) i k) (ent (D.set t p) k j)) = S d fun k => ga (gx (ent (rowsM d r) i k) (ent D k j)) (if k = t then gx (ent (rowsM d r) i k) (ga (tg (p.getD j 0)) (ent D k j)) else g0) := by
    refine S_congr fun k hk => ?_
    rw [ent_setRow (by omega)]
    by_cases hkt : k = t
    · rw [if_pos hkt, if_pos hkt, ← gx_ga, ga_comm (tg _), ← ga_assoc, ga_self, zero_ga]
    · rw [if_neg hkt, if_neg hkt, ga_zero]
  rw [e2, S_ga, S_one ht]
end Go.Proofs.Ytkclmfppjhmnjaa
