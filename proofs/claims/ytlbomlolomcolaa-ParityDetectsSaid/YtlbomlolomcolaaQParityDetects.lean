/- Contracts of the reference's Rows and combined of chapter 54. -/
/- The contract of the reference's Update of chapter 54. -/
/- How the arguments of the laws are opened: numbers, matrices of bytes. -/
/- Slices of rows whose headers the call lays itself, over bytes that others hold; the contracts of chapter 54's parts and set. -/
/- Plain: sets of parts, lost parts, new parts, sums. No program in sight. -/
/- Plain: a new part of a set; sums of sets. No program in sight. -/
/- Plain: a set is consistent; with one changed byte it is not. -/
/- The contract of the reference's Recovery of chapter 54. -/
/- The walk of the law ParityRecovers. -/
/- The contract of chapter 54's set. -/
/- The walk of the law ParityDetects. -/
/- How more arguments of the laws are opened: byte strings, a change of a part. -/
/- How slices of arrays of bytes are opened. -/
/- How more arguments of the laws are opened: numbers of 16 bits, arrays of three bytes. -/
/- For every input the law ParityDetects of the program returns true and leaves its arguments as they were: the given statement Rows.ParityDetectsSaid. No condition. -/
import Derived.Test.YtlbomlolomcolaaRefP1
import Derived.Test.YtlbomlolomcolaaPar5
import Derived.Test.YtlbomlolomcolaaRef2
import Derived.StillTailTactics
import Derived.Deep.RegionWith
import Derived.Test.YtlbomlolomcolaaPar11
import Derived.Deep.QuietTactic
import Derived.BigQuiet
import Derived.Test.YtlbomlolomcolaaChecked
import Derived.Test.YtlbomlolomcolaaMem
import Derived.ProofKit
import Derived.OpenShut
import Derived.Deep.Matrix
import Derived.Test.YtlbomlolomcolaaPar13
import Derived.Laws.AppendOwnNone
import Derived.Test.YtlbomlolomcolaaMds2
import Derived.Test.YtlbomlolomcolaaPar10
import Derived.Test.YtlbomlolomcolaaPar15
import Derived.Test.YtlbomlolomcolaaPar6
import Derived.Test.YtlbomlolomcolaaLawC
import Derived.Lib.SmallJoins
import Derived.Deep.Slices
import Derived.Test.YtlbomlolomcolaaRows
import Derived.WalkKit
import Derived.ShutString
import Derived.ChangeOld
import Derived.Below
namespace Go.Proofs.Ytlbomlolomcolaa
open Go.RowKit

set_option maxRecDepth 100000 in
set_option maxHeartbeats 4000000 in
theorem rRows_any (d r : Nat) (w : World) (h1 : 1 ≤ d) (h2 : d + r ≤ 64) : Calls Try.prog 52 #[.int .i64 d, .int .i64 r] w (RowsRet (rowsM d r) w) := by
  obtain ⟨j0, gi, gz0, gz1, gz2⟩ := info_parts infoBytes
  go_enter Try.func52, Try.ntmps52
  go_wp2_with fail
  refine (rIdentity_any d _ (by omega)).mono ?_
  rintro e w1 ⟨v1, hd, rfl, hG1, hB1⟩
  have hG := Lib.hid hG1
  have HBr := Lib.hid hB1
  have hs0 := hB1.size
  clear hG1 hB1
  by_cases hr : r = 0
  · have tr : decide ((0 : Int) < (r : Int)) = false := by simp; omega
    have he := Lib.hid (show rowsM d r = idM d by unfold rowsM; rw [hr]; simp [cauM])
    have hr0 : r ≤ 0 := by omega
    clear hr
    go_wp2_with fail
    go_ret
    exact ⟨_, hd, rfl, by rw [he.out]; exact hG.out, HBr.out⟩
  · have tr : decide ((0 : Int) < (r : Int)) = true := by simp; omega
    have hr1 : 1 ≤ r := by omega
    clear hr
    go_wp2_with fail
    refine (rCauchy_in r d _ hr1 (by omega) h1 (by omega)).mono ?_
    rintro e w2 ⟨vc, hdc, rfl, hGc, hBc⟩
    obtain ⟨bc, cc, rfl, hcc, _, hO⟩ := hGc.done (by intro h; have := cauM_length r d; rw [h] at this; simp at this; omega)
    have HO := Lib.hid hO.outer
    have HGc := Lib.hid hGc
    have HBc := Lib.hid hBc
    have Ho2 := Lib.hid (hG.out.new hBc).outer
    have hlc := cauM_length r d
    have Hlc := Lib.hid hlc
    have Hvl := Lib.hid (hvs_length hGc.len)
    have hsc := hBc.size
    have Hid' := Lib.hid (idM_length d)
    rw [hlc]
    rw [idM_length] at Ho2
    clear hO hGc hBc hlc
    go_wp2_with (at_builtin; refine wpList_append_own _ rfl _ _ 39 rfl w.heap.size 26 j0 (.slice none 0 0) 1 24 Try.underlying39 gi gz0 gz1 gz2 rfl (by decide) _ _ _ rfl Ho2.out ⟨bc, 0, none⟩ r cc (hvs hdc (cauM r d)) rfl ?d0 ?d1 ?d2 ?d3 ?d4 ?d5 ?_)
    case d0 => rw [Hvl.out, Hlc.out]; simp
    case d1 => exact HO.out.src
    case d2 => exact hvs_one
    case d3 => unfold maxLen; omega
    case d4 => omega
    case d5 => omega
    intro v' w3 hown hgr _
    have hG3 := hG.out.append HBc.out HGc.out HBr.out.size (by rw [Hid'.out, Hlc.out]; exact hown) hgr
    have hB3 : Below w.heap.size w w3 := (HBr.out.trans (HBc.out.mono HBr.out.size)).grown hgr (by omega) (fun q hq => (owns_block hG.out.outer hq).2.1)
    have HG3 := Lib.hid hG3
    have HB3 := Lib.hid hB3
    clear hown hgr hG3 hB3
    go_wp2_with fail
    go_ret
    exact ⟨_, _, rfl, HG3.out, HB3.out⟩

set_option maxRecDepth 100000 in
set_option maxHeartbeats 8000000 in
theorem combined_any (b o cap bp op capp L n N : Nat) (row : List Nat) (parts : List (List Nat)) (A : Nat → Option Addr) (C : Nat → Nat) (w : World) (hn : row.length = n) (hNl : parts.length = N) (hrow : RowAt w b o row) (hM : MxAt w bp op parts A C) (hcp : N ≤ capp)
    (hR : Rect L parts) (hl : n = N) (h1 : 1 ≤ N) (hN : N ≤ 1000) (hL : L ≤ 1000000) (hL1 : 1 ≤ L) (hBr : Byt row) :
    Calls Try.prog 53 #[.slice (some ⟨b, o, none⟩) n cap, .slice (some ⟨bp, op, none⟩) N capp] w (RowOut (prTo row parts L N) w) := by
  subst hl
  have hmk := mkBytes L (by omega)
  have Hmx := Lib.hid (show Mx w (.slice (some ⟨bp, op, none⟩) n capp) parts from ⟨_, capp, by rw [hNl], by rw [hNl]; exact hcp, Or.inr ⟨bp, op, A, C, rfl, hM⟩⟩)
  have Hfl := Lib.hid (show firstLen parts = L from (firstLen_hit (k := 0) (by omega) (by unfold plen; rw [(hR.get (i := 0) (by omega)).1]; exact hL1) (fun j hj => by omega)).trans (hR.get (i := 0) (by omega)).1)
  have Hrow := Lib.hid hrow
  have HM := Lib.hid hM
  have HR := Lib.hid hR
  have Hn := Lib.hid hn
  have HNl := Lib.hid hNl
  have HBr := Lib.hid hBr
  clear hM hR hBr hrow hn hNl
  go_enter Try.func53, Try.ntmps53
  go_wp2_with fail
  refine (rlength_any _ parts _ (by rw [HNl.out]; omega) Hmx.out).mono ?_
  rintro e w1 ⟨rfl, rfl⟩
  rw [Hfl.out]
  go_wp2_with fail
  clear hmk
  have hK0 : Kept (· = w.heap.size) w (w.alloc (.cells (zs L) 5)) := (Kept.refl _ _).alloc _
  have HB0 := Lib.hid (Blk.new w 5 (zs L))
  go_loopg [6] n (fun gk i wr => ∃ k : Nat, k + gk = n ∧ i = .int .i64 k ∧ Hid (Kept (· = w.heap.size) w wr) ∧ Hid (Blk wr w.heap.size 5 ((prTo row parts L k).map bv)))
  case atStart => exact ⟨0, by omega, rfl, hK0, by have := HB0.out; rw [zs_map] at this; exact this⟩
  case round =>
    obtain ⟨k, hgk, rfl, hK, hB⟩ := hrel
    have Hgk := Lib.hid hgk
    have hk : k ≤ n := by omega
    clear hgk
    by_cases hlt : k < n
    · obtain ⟨wo, rfl⟩ : ∃ wo : World, wo = wr := ⟨_, rfl⟩
      have c1 := Lib.hid (Hrow.out k _ (getD_some (d := 0) (by rw [Hn.out]; exact hlt)))
      have b1 := HBr.out.getD k
      have hpk : parts[k]? = some (parts.getD k []) := getD_some (by rw [HNl.out]; exact hlt)
      have hfl := HR.out.get (i := k) (by rw [HNl.out]; exact hlt)
      obtain ⟨c3', _, c3r, _⟩ := HM.out k _ hpk
      rw [hfl.1] at c3'
      obtain ⟨b', o', hA, hrowk⟩ : ∃ b' o', A k = some ⟨b', o', none⟩ ∧ RowAt w b' o' (parts.getD k []) := by
        rcases c3r with h0 | h
        · rw [h0] at hfl; simp at hfl; omega
        · exact h
      rw [hA] at c3'
      have c3 := Lib.hid c3'
      have hpr := prTo_ok (row := row) HR.out k (by rw [HNl.out]; exact hk)
      have hps := Lib.hid (show prTo row parts L (k + 1) = addMul (row.getD k 0) (prTo row parts L k) (parts.getD k []) from rfl)
      have Hrk := Lib.hid hrowk
      have Hfl' := Lib.hid hfl
      have Hpr := Lib.hid hpr
      have HKo := Lib.hid hK.out
      have HBo := Lib.hid hB.out
      generalize parts.getD k [] = fr at *
      generalize row.getD k 0 = f at *
      generalize prTo row parts L k = pr at *
      clear hpk hfl c3' c3r hA hrowk hpr hK hB hK0
      go_wp2_with fail
      go_loopg [7] L (fun gx j wx => ∃ x : Nat, x + gx = L ∧ j = .int .i64 x ∧ Hid (Kept (· = w.heap.size) w wx) ∧ Hid (Blk wx w.heap.size 5 ((amTo f pr fr x).map bv)))
      case atStart => exact ⟨0, by omega, rfl, HKo.out, by have := HBo.out; rw [amTo_zero]; exact this⟩
      case round =>
        obtain ⟨x, hgx, rfl, hK, hB⟩ := hrel
        have Hgx := Lib.hid hgx
        have hx : x ≤ L := by omega
        clear hgx
        by_cases hltx : x < L
        · have nb : ∀ {p : Addr} {v : Value}, w.cell? p = some v → wr.cell? p = some v := fun {p v} h => hK.out.cell h (by have := World.block_lt_of_cell? w _ h; omega)
          have hfl1 := Hfl'.out.1
          have hpl1 := Hpr.out.1
          have d1 : wr.cell? ⟨w.heap.size, x, none⟩ = some (.int .u8 (pr.getD x 0)) := hB.out.cell (by rw [List.getElem?_map, amTo_get (by omega) (by omega)]; rfl)
          have f1 := hB.out.frozen x
          have d2 := nb (Hrk.out x _ (getD_some (d := 0) (by omega)))
          have d3 := nb c1.out
          have d4 := nb c3.out
          unfold bv at d2 d3
          have e1 := Hpr.out.2.getD x
          have e2 := Hfl'.out.2.getD x
          have HK := Lib.hid hK.out
          have HB := Lib.hid hB.out
          generalize hxx : pr.getD x 0 = px at *
          generalize hyy : fr.getD x 0 = fx at *
          have Hxx := Lib.hid hxx
          have Hyy := Lib.hid hyy
          clear hxx hyy hfl1 hpl1 hK hB nb
          go_wp2_with fail
          go_region_with (go_at_call 59; refine (rMul_any _ _ _ b1 e2).mono ?_; rintro e w' ⟨rfl, rfl⟩)
          all_goals
            go_wp2
            go_roundg (L - x - 1)
            case measure => have := Hgx.out; omega
            case rel =>
              obtain ⟨r1, r2⟩ := red1_step (f := f) 1 (by rw [Hfl'.out.1]; exact hltx) (by rw [Hfl'.out.1, Hpr.out.1]) Hxx.out Hyy.out e1 HK.out HB.out
              exact ⟨x + 1, by have := Hgx.out; omega, by go_num, r1, r2⟩
        · have hxl : x = fr.length := by rw [Hfl'.out.1]; omega
          have Hfin := hB.out
          rw [amTo_all hxl (by rw [Hfl'.out.1, Hpr.out.1]), ← hps.out] at Hfin
          have Hfin := Lib.hid Hfin
          have HK := Lib.hid hK.out
          clear hxl hK hB
          go_wp2_with fail
          go_roundg (n - k - 1)
          case measure => have := Hgk.out; omega
          case rel => exact ⟨k + 1, by have := Hgk.out; omega, by go_num, HK.out, Hfin.out⟩
    · have hkl : k = n := by omega
      have Hfin := hB.out
      have HK := Lib.hid hK.out
      rw [hkl] at Hfin
      have hlen := (prTo_ok (row := row) HR.out n (by rw [HNl.out]; exact Nat.le_refl _)).1
      have Hlen := Lib.hid hlen
      have Hfin := Lib.hid Hfin
      clear hlen hkl hK hB
      go_wp2_with fail
      go_ret
      refine ⟨w.heap.size, L, ?_, Nat.le_refl _, ?_, ?_, Hfin.out, HK.out.below (Nat.le_refl _) (fun q hq => by omega)⟩
      · rw [Hlen.out]; rfl
      · rw [Hlen.out]; exact Nat.le_refl _
      · unfold maxLen; omega
end Go.Proofs.Ytlbomlolomcolaa

namespace Go.Proofs.Ytlbomlolomcolaa
open Go.RowKit

theorem parErr_flags {parts : List (List Nat)} {data : Int} (hP : parErr parts data = 0) : longB parts = false ∧ misB parts = false := by
  unfold parErr at hP
  split at hP
  · simp at hP
  split at hP
  · simp at hP
  split at hP
  · simp at hP
  split at hP
  · simp at hP
  rename_i h1 h2
  exact ⟨by simpa using h1, by simpa using h2⟩

theorem ch_get {part pt : List Nat} {x : Nat} (h1 : x < part.length) (h2 : x < pt.length) (b1 : Byt part) (b2 : Byt pt) : bits .xor .u8 (pt.getD x 0) (part.getD x 0) = ((addMul 1 part pt).getD x 0 : Nat) := by
  rw [xor_u8 _ _ (b2.getD x) (b1.getD x)]
  unfold addMul
  rw [List.getD_eq_getElem?_getD (l := List.zipWith _ _ _), List.getElem?_zipWith, getD_some (l := part) (d := 0) h1, getD_some (l := pt) (d := 0) h2]
  show ((_ : Nat) : Int) = ((_ : Nat) : Int)
  congr 1
  show _ = part.getD x 0 ^^^ Gf.gm 1 (pt.getD x 0)
  rw [Gf.one_gm (b2.getD x), Nat.xor_comm]

theorem owns_empty (w : World) (T : Nat) : (w.alloc (.cells #[] T)).ownsRow w.heap.size T 1 (.slice (some ⟨w.heap.size, 0, none⟩) 0 0) 0 [] :=
  ⟨rfl, .inr ⟨w.heap.size, 0, #[], rfl, Nat.le_refl _, (by show (w.heap.push _)[w.heap.size]? = _; simp), Nat.le_refl _, Nat.zero_le _, rfl, rfl⟩⟩

set_option maxRecDepth 100000 in
set_option maxHeartbeats 8000000 in
theorem rUpdate_loop (b o cap L d : Nat) (at' : Int) (parts : List (List Nat)) (ap : Option Addr) (capp : Nat) (part : List Nat) (A : Nat → Option Addr) (C : Nat → Nat) (w : World) (hM : MxAt w b o parts A C) (hm : Mx w (.slice (some ⟨b, o, none⟩) parts.length cap) parts)
    (hp : part = [] ∨ ∃ bp op, ap = some ⟨bp, op, none⟩ ∧ RowAt w bp op part) (hE : parErr parts d = 0) (hLm : ∀ j, j < parts.length → plen parts j ≤ maxLen) (hBy : BytM parts) (hL0 : plen parts 0 = L) (hBp : Byt part) (hpn : part.length ≤ maxLen) (ha1 : -9223372036854775808 ≤ at') (ha2 : at' ≤ 9223372036854775807) :
    Calls Try.prog 27 #[.slice (some ⟨b, o, none⟩) parts.length cap, .int .i64 d, .int .i64 at', .slice ap part.length capp] w (RowsErr (updRows parts d at' part) (updErr parts d at' part) w) := by
  obtain ⟨i0, hi, hz0, hz1, hz2⟩ := info_parts infoByte
  obtain ⟨j0, gi, gz0, gz1, gz2⟩ := info_parts infoBytes
  obtain ⟨q1, q2, q3, q4⟩ := parErr_in hE
  have HM := Lib.hid hM
  have Hm := Lib.hid hm
  have Hp := Lib.hid hp
  have HE := Lib.hid hE
  have HLm := Lib.hid hLm
  have HBy := Lib.hid hBy
  have HL0 := Lib.hid hL0
  have HBp := Lib.hid hBp
  have HE0 := Lib.hid (show updErr parts d at' part = if lostB parts then 26 else if at' < 0 ∨ (d : Int) ≤ at' then 2 else if part.length ≠ plen parts 0 then 23 else 0 by unfold updErr; rw [if_pos hE])
  have hpm := hpn
  unfold maxLen at hpm
  clear hM hm hp hE hLm hBy hL0 hBp hpn
  go_enter Try.func27, Try.ntmps27
  go_wp2_with fail
  refine (rCheck54_any _ parts d _ (by omega) HLm.out Hm.out (by omega) (by omega)).mono ?_
  rintro e w1 ⟨rfl, rfl⟩
  rw [HE.out]
  go_wp2_with fail
  go_loopg [11] parts.length (fun gk i wr => ∃ k : Nat, k + gk = parts.length ∧ i = .int .i64 k ∧ Hid (∀ i, i < k → plen parts i ≠ 0) ∧ w = wr)
  case atStart => exact ⟨0, by omega, rfl, fun i hi => by omega, rfl⟩
  case round =>
    obtain ⟨k, hgk, rfl, hag, rfl⟩ := hrel
    have Hgk := Lib.hid hgk
    have hk : k ≤ parts.length := by omega
    clear hgk
    by_cases hlt : k < parts.length
    · have p1 : w.cell? ⟨b, o + k, none⟩ = some (.slice (A k) (plen parts k) (C k)) := (HM.out k _ (getD_some (d := []) hlt)).1
      have hxm := HLm.out k hlt
      unfold maxLen at hxm
      by_cases x1 : plen parts k = 0
      · have hr := Lib.hid (show updErr parts d at' part = 26 by rw [HE0.out, if_pos]; unfold lostB; rw [List.any_eq_true]; exact ⟨k, List.mem_range.2 hlt, decide_eq_true x1⟩)
        have hr2 := Lib.hid (show updRows parts d at' part = [] by unfold updRows; rw [hr.out]; rfl)
        have x3 : ((plen parts k : Int) == 0) = true := by rw [beq_iff_eq]; omega
        generalize plen parts k = x at *
        clear hag x1
        go_wp2_with fail
        go_ret2
        exact ⟨.slice none 0 0, [], by rw [hr.out]; rfl, by rw [hr2.out]; exact GM.nil _ _, Below.refl _ _⟩
      · have hs : Hid (∀ i, i < k + 1 → plen parts i ≠ 0) := by
          intro i hi
          by_cases hik : i = k
          · rw [hik]; omega
          · exact hag.out i (by omega)
        have x3 : ((plen parts k : Int) == 0) = false := by rw [beq_eq_false_iff_ne]; omega
        generalize plen parts k = x at p1 x1 hxm x3
        clear hag x1
        go_wp2_with fail
        go_roundg (parts.length - k - 1)
        case measure => have := Hgk.out; omega
        case rel => exact ⟨k + 1, by have := Hgk.out; omega, by go_num, hs.out, rfl⟩
    · have hlost : lostB parts = false := by
        unfold lostB
        rw [List.any_eq_false]
        intro i hi
        have := hag.out i (by have := List.mem_range.1 hi; omega)
        simpa using this
      have hE1 := HE0.out
      rw [hlost, if_neg (by simp)] at hE1
      clear hag HE0
      by_cases a1 : at' < 0
      · have t1 : decide (at' < 0) = true := by simp; omega
        rw [if_pos (Or.inl a1)] at hE1
        have hr := Lib.hid hE1
        have hr2 := Lib.hid (show updRows parts d at' part = [] by unfold updRows; rw [hr.out]; rfl)
        clear hE1 hlost
        go_wp2_with fail
        go_ret2
        exact ⟨.slice none 0 0, [], by rw [hr.out]; rfl, by rw [hr2.out]; exact GM.nil _ _, Below.refl _ _⟩
      have t1 : decide (at' < 0) = false := by simp; omega
      by_cases a2 : (d : Int) ≤ at'
      · have t2 : decide ((d : Int) ≤ at') = true := by simp; omega
        rw [if_pos (Or.inr a2)] at hE1
        have hr := Lib.hid hE1
        have hr2 := Lib.hid (show updRows parts d at' part = [] by unfold updRows; rw [hr.out]; rfl)
        clear hE1 hlost
        go_wp2_with fail
        go_ret2
        exact ⟨.slice none 0 0, [], by rw [hr.out]; rfl, by rw [hr2.out]; exact GM.nil _ _, Below.refl _ _⟩
      have t2 : decide ((d : Int) ≤ at') = false := by simp; omega
      rw [if_neg (by omega)] at hE1
      obtain ⟨t, rfl⟩ : ∃ t : Nat, at' = t := ⟨at'.toNat, by omega⟩
      have p0 : w.cell? ⟨b, o, none⟩ = some (.slice (A 0) L (C 0)) := by rw [← HL0.out]; exact (HM.out 0 _ (getD_some (d := []) (by omega))).1
      have hLx := HLm.out 0 (by omega)
      rw [HL0.out] at hLx
      unfold maxLen at hLx
      by_cases a3 : part.length ≠ L
      · have t3 : ((part.length : Int) != (L : Int)) = true := by rw [bne_iff_ne]; omega
        rw [if_pos (by rw [HL0.out]; exact a3)] at hE1
        have hr := Lib.hid hE1
        have hr2 := Lib.hid (show updRows parts d t part = [] by unfold updRows; rw [hr.out]; rfl)
        clear hE1 hlost
        go_wp2_with fail
        go_ret2
        exact ⟨.slice none 0 0, [], by rw [hr.out]; rfl, by rw [hr2.out]; exact GM.nil _ _, Below.refl _ _⟩
      have a4 : part.length = L := by omega
      have t3 : ((part.length : Int) != (L : Int)) = false := by rw [bne_eq_false_iff_eq]; omega
      rw [if_neg (by rw [HL0.out]; exact a3)] at hE1
      have hr := Lib.hid hE1
      have hr2 := Lib.hid (show updRows parts d t part = updM parts d t part by unfold updRows; rw [hr.out]; rfl)
      obtain ⟨hlo, hmi⟩ := parErr_flags HE.out
      obtain ⟨hR, hL1⟩ := lostB_rect HBy.out hlost hmi (by omega)
      rw [HL0.out] at hR hL1
      have hL2 : L ≤ 65536 := by rw [← HL0.out]; exact long_le hlo (by omega)
      obtain ⟨bp, op, rfl, hrow⟩ : ∃ bp op, ap = some ⟨bp, op, none⟩ ∧ RowAt w bp op part := by
        rcases Hp.out with h | h
        · rw [h] at a4; simp at a4; omega
        · exact h
      have HR := Lib.hid hR
      have Hrow := Lib.hid hrow
      have Hpl := Lib.hid a4
      have ht : t < d := by omega
      have hd1 : 1 ≤ d := by omega
      have e1 : ((parts.length : Int) - (d : Int)) = ((parts.length - d : Nat) : Int) := by omega
      rw [a4] at t3 ⊢
      clear hE1 hlost a1 a2 a3 a4 hlo hmi hR hrow hpm ha1 ha2 hLx
      go_wp2_with fail
      refine (rRows_any d (parts.length - d) _ (by omega) (by omega)).mono ?_
      rintro e w4 ⟨vr, hdR, rfl, hG, hB4⟩
      obtain ⟨bR, cR, hvr, hcR, _, hO4⟩ := hG.done (by intro h; have := rowsM_length d (parts.length - d); rw [h] at this; simp at this; omega)
      rw [rowsM_length, show d + (parts.length - d) = parts.length by omega] at hvr hcR
      subst hvr
      have HO4 := Lib.hid hO4
      have HB4 := Lib.hid hB4
      have HM4 := Lib.hid (HM.out.new hB4)
      have hz4 := hB4.size
      have HRl := Lib.hid (show (rowsM d (parts.length - d)).length = parts.length by rw [rowsM_length]; omega)
      have HRr2 := Lib.hid (rowsM_rect d (parts.length - d))
      have hat := HM.out t _ (getD_some (d := []) (by omega))
      have hRt := HR.out.get (i := t) (by omega)
      obtain ⟨bt, ot, hAt, hrt⟩ : ∃ bt ot, A t = some ⟨bt, ot, none⟩ ∧ RowAt w bt ot (parts.getD t []) := by
        rcases hat.2.2.1 with h0 | h
        · rw [h0] at hRt; simp at hRt; omega
        · exact h
      have cat := hat.1
      rw [hAt, hRt.1] at cat
      have Hcat := Lib.hid cat
      have Hrt := Lib.hid hrt
      have HRt := Lib.hid hRt
      generalize hpt : parts.getD t [] = pt at Hrt HRt
      have Hpt := Lib.hid hpt
      obtain ⟨ch, hch⟩ : ∃ ch, addMul 1 part pt = ch := ⟨_, rfl⟩
      have Hch := Lib.hid hch
      have Hcl := Lib.hid (show ch.length = L by rw [← hch, addMul_length, Hpl.out, HRt.out.1]; omega)
      have HchB := Lib.hid (show Byt ch by rw [← hch]; exact addMul_byt HBp.out)
      clear hG hO4 hB4 e1 p0 hat hRt hAt hrt cat hpt hch
      go_wp2_with fail
      go_loopg [13, 14] parts.length (fun gk v i wr => ∃ q : Nat, q + gk = parts.length ∧ i = .int .i64 q ∧ Hid (∃ hd', GM wr w4.heap.size v hd' ((updM parts d t part).take q)) ∧ Hid (Below w4.heap.size w4 wr))
      case atStart => exact ⟨0, by omega, rfl, ⟨[], GM.nil _ _⟩, Below.refl _ _⟩
      case round =>
        obtain ⟨q, hgq, rfl, hG, hB⟩ := hrel
        have Hgq := Lib.hid hgq
        have hq : q ≤ parts.length := by omega
        clear hgq
        by_cases hltq : q < parts.length
        · obtain ⟨hd2, hG⟩ := hG.out
          obtain ⟨wo, rfl⟩ : ∃ wo : World, wo = wr := ⟨_, rfl⟩
          have hrg : (rowsM d (parts.length - d))[q]? = some ((rowsM d (parts.length - d)).getD q []) := getD_some (by rw [HRl.out]; exact hltq)
          obtain ⟨p, hp⟩ : ∃ p, hdR[q]? = some p := ⟨hdR.getD q (0, 0), getD_some (by rw [HO4.out.len, HRl.out]; exact hltq)⟩
          have hrr := HRr2.out.get (i := q) (by rw [HRl.out]; exact hltq)
          have hpc := (HO4.out.outer.below hB.out HO4.out.outer.lt).cell (hvs_get hp hrg)
          have hbR : bR < w4.heap.size := HO4.out.outer.lt
          obtain ⟨hpb, _, hpl⟩ := HO4.out.rows _ p _ hp hrg
          rw [hrr.1] at hpc hpl
          unfold hv at hpc
          have hplt := hpb.lt
          have hprow := (hpb.below hB.out hpb.lt)
          have htk := Lib.hid (updM_take (d := d) (t := t) (part := part) hltq)
          have hat := (HM4.out.new hB.out) q _ (getD_some (d := []) hltq)
          have hRq := HR.out.get (i := q) hltq
          obtain ⟨bq, oq, hAq, hrq⟩ : ∃ bq oq, A q = some ⟨bq, oq, none⟩ ∧ RowAt wo bq oq (parts.getD q []) := by
            rcases hat.2.2.1 with h0 | h
            · rw [h0] at hRq; simp at hRq; omega
            · exact h
          have caq := hat.1
          rw [hAq, hRq.1] at caq
          have Hur := Lib.hid (show updRow parts d t part q = addMul (((rowsM d (parts.length - d)).getD q []).getD t 0) (parts.getD q []) ch by unfold updRow; rw [Hpt.out, Hch.out])
          have hfb := hrr.2.getD t
          have hct := hprow.cell (i := t) (v := bv (((rowsM d (parts.length - d)).getD q []).getD t 0)) (by rw [List.getElem?_map, getD_some (d := 0) (by rw [hrr.1]; exact ht)]; rfl)
          unfold bv at hct
          generalize ((rowsM d (parts.length - d)).getD q []).getD t 0 = f at *
          generalize parts.getD q [] = pq at *
          have hBe : Below wo.heap.size wo (wo.alloc (.cells #[] 5)) := (Below.refl _ wo).alloc (Nat.le_refl _) _
          have Hsrc := Lib.hid (hrq.src hBe)
          have caq' := (hBe.cell (p := ⟨b, o + q, none⟩) (World.block_lt_of_cell? wo _ caq)).trans caq
          have HBe := Lib.hid hBe
          have HRq := Lib.hid hRq
          have HG := Lib.hid hG
          have HBr := Lib.hid hB.out
          have hzz : w4.heap.size ≤ wo.heap.size := hB.out.size
          have Hct := Lib.hid hct
          have Hpc := Lib.hid hpc
          clear hG hB hrg hp hpb hrr hat hAq hrq hRq hprow hct hpc caq hBe
          go_wp2_with (at_builtin; refine wpList_append_own _ rfl _ _ 26 rfl wo.heap.size 5 i0 (.int .u8 0) 1 1 Try.underlying26 hi hz0 hz1 hz2 rfl (by decide) _ 0 [] rfl (owns_empty wo _) ⟨bq, oq, none⟩ L (C q) (pq.map bv) rfl ?c1 ?c2 ?c3 ?c4 ?c5 ?c6 ?_)
          case c1 => simp [HRq.out.1]
          case c2 => exact Hsrc.out
          case c3 => intro u hu; obtain ⟨x, _, rfl⟩ := List.mem_map.1 hu; rfl
          case c4 => unfold maxLen; omega
          case c5 => omega
          case c6 => exact HBe.out.size
          intro v3 w5 hown3 hgr3 _
          have hown3' : w5.ownsRow wo.heap.size 5 1 v3 L (pq.map bv) := by simpa [HRq.out.1] using hown3
          obtain ⟨gq, cq, hv3, q1, q2, q3⟩ := ne_of_owns hown3' (by omega)
          rw [hv3] at hown3' ⊢
          have Hblk5 := Lib.hid (Blk.of_owns hown3')
          have HB5 := Lib.hid (show Below wo.heap.size wo w5 from HBe.out.grown hgr3 HBe.out.size (fun q hq => by simp [Value.ownBlock] at hq; omega))
          have hz5 := HB5.out.size
          have hgq := Hblk5.out.lt
          have HB05 := Lib.hid (HB4.out.trans ((HBr.out.trans (HB5.out.mono hzz)).mono hz4))
          clear hown3 hown3' hgr3 hv3 caq'
          go_wp2_with fail
          go_loopg [16] L (fun gx i wr => ∃ x : Nat, x + gx = L ∧ i = .int .i64 x ∧ Hid (Kept (· = gq) w5 wr) ∧ Hid (Blk wr gq 5 ((amTo f pq ch x).map bv)))
          case atStart => exact ⟨0, by omega, rfl, Kept.refl _ _, by rw [amTo_zero]; exact Hblk5.out⟩
          case round =>
            obtain ⟨x, hgx, rfl, hK, hB⟩ := hrel
            have Hgx := Lib.hid hgx
            have hx : x ≤ L := by omega
            clear hgx
            by_cases hltx : x < L
            · have hl1 := HRq.out.1
              have hl2 := Hcl.out
              have hl3 := HRt.out.1
              have hl4 := Hpl.out
              have nb : ∀ {p : Addr} {v : Value}, w.cell? p = some v → wr.cell? p = some v := fun {p v} h => by
                have hlt := World.block_lt_of_cell? w _ h
                exact hK.out.cell ((HB05.out.cell hlt).trans h) (by omega)
              have d1 : wr.cell? ⟨gq, x, none⟩ = some (.int .u8 (pq.getD x 0)) := hB.out.cell (by rw [List.getElem?_map, amTo_get (by omega) (by omega)]; rfl)
              have f1 := hB.out.frozen x
              have d3 := hK.out.cell ((HB5.out.cell (p := ⟨p.1, t, none⟩) (show p.1 < wo.heap.size by omega)).trans Hct.out) (show ¬ p.1 = gq by omega)
              have d4 := hK.out.cell ((HB5.out.cell (p := ⟨bR, q, none⟩) (show bR < wo.heap.size by omega)).trans Hpc.out) (show ¬ bR = gq by omega)
              have d5 := nb Hcat.out
              have d6 := nb (Hrt.out x _ (getD_some (d := 0) (by omega)))
              have d7 := nb (Hrow.out x _ (getD_some (d := 0) (by omega)))
              unfold bv at d6 d7
              have e1 := HRq.out.2.getD x
              have e2 := HchB.out.getD x
              have e3 := HRt.out.2.getD x
              have e4 := HBp.out.getD x
              have hfx := ch_get (part := part) (pt := pt) (x := x) (by omega) (by omega) HBp.out HRt.out.2
              rw [Hch.out] at hfx
              have HK := Lib.hid hK.out
              have HB := Lib.hid hB.out
              generalize hxx : pq.getD x 0 = px at *
              generalize hyy : ch.getD x 0 = fx at *
              generalize pt.getD x 0 = ptx at *
              generalize part.getD x 0 = ppx at *
              have Hxx := Lib.hid hxx
              have Hyy := Lib.hid hyy
              have i1 : (0 : Int) ≤ (x : Int) := by omega
              have i2 : (x : Int) < (L : Int) := by omega
              have i3 : (0 : Int) ≤ (q : Int) := by omega
              have i4 : (q : Int) < (parts.length : Int) := by omega
              have i5 : (0 : Int) ≤ (t : Int) := by omega
              have i6 : (t : Int) < (parts.length : Int) := by omega
              have i7 : (t : Int) < (d : Int) := by omega
              clear hxx hyy hl1 hl2 hl3 hl4 hK hB nb
              go_wp2_with fail
              go_still_tail 28, (by kernel_rfl)
              refine wpStill_step (fun K hK => ?_)
              go_simp
              refine ⟨_, (rMul_any _ _ _ hfb e2).mono (fun _ _ h => ⟨h.1, h.2.symm⟩), hK _ ?_⟩
              clear hK K
              repeat still_step
              refine wpStill_nil ?_
              have d1' : (wr.drewN 1).cell? ⟨gq, x, none⟩ = some (.int .u8 px) := d1
              have f1' : (wr.drewN 1).frozen? ⟨gq, x, none⟩ = false := f1
              have hst := Lib.hid (red1_step (f := f) 1 (by rw [Hcl.out]; exact hltx) (by rw [HRq.out.1, Hcl.out]) Hxx.out Hyy.out e1 HK.out HB.out)
              change wpList _ _ _ _ _ (wr.drewN 1)
              generalize wr.drewN 1 = wd at *
              go_wp2_with fail
              go_roundg (L - x - 1)
              case measure => have := Hgx.out; omega
              case rel => exact ⟨x + 1, by have := Hgx.out; omega, by go_num, hst.out.1, hst.out.2⟩
            · have hxl : x = ch.length := by rw [Hcl.out]; omega
              have hfin := hB.out
              rw [amTo_all hxl (by rw [HRq.out.1, Hcl.out]), ← Hur.out] at hfin
              have Hurl := Lib.hid (show (updRow parts d t part q).length = L by rw [Hur.out, addMul_length, HRq.out.1, Hcl.out]; omega)
              generalize updRow parts d t part q = pr at *
              have HBx := Lib.hid (HB5.out.trans (hK.out.below (B := wo.heap.size) (by omega) (fun j hj e => by omega)))
              have Hblk := Lib.hid hfin
              have HGo := Lib.hid ((HG.out.new HBx.out).outer)
              have hzr := HBx.out.size
              have Hlk := Lib.hid (show ((updM parts d t part).take q).length = q by rw [List.length_take, updM_length]; omega)
              have Hq2 := Lib.hid q2
              clear hxl hfin hK hB q2 q3
              go_wp2_with (at_builtin; refine wpList_append_own _ rfl _ _ 39 rfl w4.heap.size 26 j0 (.slice none 0 0) 1 24 Try.underlying39 gi gz0 gz1 gz2 rfl (by decide) _ _ _ rfl (HGo.out.alloc _) ⟨wr.heap.size, 0, none⟩ 1 1 [hv L (gq, cq)] rfl rfl ?d1 ?d2 ?d3 ?d4 ?d5 ?_)
              case d1 => exact cell_one_new _ _ _
              case d2 => intro u hu; simp only [List.mem_cons, List.not_mem_nil, or_false] at hu; subst hu; rfl
              case d3 => rw [Hlk.out]; unfold maxLen; omega
              case d4 => rw [Hlk.out]; omega
              case d5 => simp; omega
              intro v' w9 hown hgr _
              have hG9 := HG.out.snoc HBx.out (p := (gq, cq)) (r := pr) Hblk.out q1 HBr.out.size (by rw [Hurl.out]; exact Hq2.out) (by rw [Hlk.out, Hurl.out]; simpa [updM_length, Nat.min_eq_left hq] using hown) (by simpa using hgr)
              rw [← htk.out] at hG9
              have hB9 : Below w4.heap.size w4 w9 := ((HBr.out.trans (HBx.out.mono HBr.out.size)).alloc (by omega) _).grown hgr (by simp; omega) (fun q hq => (owns_block HG.out.outer hq).2.1)
              have HG9 := Lib.hid hG9
              have HB9 := Lib.hid hB9
              clear hown hgr hG9 hB9
              go_wp2_with fail
              go_roundg (parts.length - q - 1)
              case measure => have := Hgq.out; omega
              case rel => exact ⟨q + 1, by have := Hgq.out; omega, by go_num, ⟨_, HG9.out⟩, HB9.out⟩
        · have hkn : (updM parts d t part).take q = updM parts d t part := List.take_of_length_le (by rw [updM_length]; omega)
          obtain ⟨hd2, hG⟩ := hG.out
          rw [hkn] at hG
          have HG := Lib.hid hG
          have HBe := Lib.hid hB.out
          clear hG hkn hB
          go_wp2_with fail
          go_ret2
          exact ⟨_, hd2, by rw [hr.out]; rfl, by rw [hr2.out]; exact HG.out.base hz4, HB4.out.trans (HBe.out.mono hz4)⟩

set_option maxRecDepth 100000 in
set_option maxHeartbeats 2000000 in
theorem rUpdate_any (v : Value) (parts : List (List Nat)) (data at' : Int) (vp : Value) (part : List Nat) (w : World) (hn : parts.length ≤ 1000000000) (hLm : ∀ j, j < parts.length → plen parts j ≤ maxLen) (hBy : BytM parts) (hm : Mx w v parts) (hp : Bs w vp part) (hBp : Byt part) (hpn : part.length ≤ maxLen)
    (hd1 : -9223372036854775808 ≤ data) (hd2 : data ≤ 9223372036854775807) (ha1 : -9223372036854775808 ≤ at') (ha2 : at' ≤ 9223372036854775807) :
    Calls Try.prog 27 #[v, .int .i64 data, .int .i64 at', vp] w (RowsErr (updRows parts data at' part) (updErr parts data at' part) w) := by
  by_cases hE : parErr parts data = 0
  · obtain ⟨q1, q2, q3, q4⟩ := parErr_in hE
    have hm' := hm
    obtain ⟨a, cap, rfl, hcap, h⟩ := hm
    obtain ⟨ap, capp, rfl, hcapp, hp⟩ := hp
    rcases h with h | ⟨b, o, A, C, rfl, hM⟩
    · rw [h] at q3; simp at q3
    obtain ⟨d, rfl⟩ : ∃ d : Nat, data = d := ⟨data.toNat, by omega⟩
    exact rUpdate_loop b o cap _ d at' parts ap capp part A C w hM hm' hp hE hLm hBy rfl hBp hpn ha1 ha2
  · have e1 : updErr parts data at' part = parErr parts data := by unfold updErr; rw [if_neg hE]
    have e2 : updRows parts data at' part = [] := by unfold updRows; rw [e1, if_neg hE]
    rw [e1, e2]
    have Hm := Lib.hid hm
    have HLm := Lib.hid hLm
    obtain ⟨pe, hpe⟩ : ∃ pe, parErr parts data = pe := ⟨_, rfl⟩
    have tP : ((pe : Int) != 0) = true := by rw [bne_iff_ne]; rw [hpe] at hE; omega
    have Hpe := Lib.hid hpe
    obtain ⟨a, cap, rfl, hcap, h⟩ := hm
    obtain ⟨ap, capp, rfl, hcapp, hp⟩ := hp
    clear hE e1 e2 hpe h hBy hp hLm
    go_enter Try.func27, Try.ntmps27
    go_wp2_with fail
    refine (rCheck54_any _ parts data _ (by omega) HLm.out Hm.out hd1 hd2).mono ?_
    rintro e w1 ⟨rfl, rfl⟩
    rw [Hpe.out]
    go_wp2_with fail
    go_ret2
    exact ⟨.slice none 0 0, [], by rw [Hpe.out]; rfl, GM.nil _ _, Below.refl _ _⟩
end Go.Proofs.Ytlbomlolomcolaa

namespace Go.Proofs.Ytlbomlolomcolaa
open Go.ChangeShapes Go.WideShapes Go.ChangeAt Go.RowKit

theorem ownKnobNone : ownKnob Try.prog.godebug = none := by kernel_rfl
theorem laidOutYes : laidOutB Try.prog = true := by kernel_rfl

theorem u8_nat {a : Int} (h : (Lit.int .u8 a).wf = true) : ∃ x : Nat, x < 256 ∧ a = x := by
  have := bounds_u8 h
  exact ⟨a.toNat, by omega, by omega⟩
theorem i64_bounds {a : Int} (h : (Lit.int .i64 a).wf = true) : -9223372036854775808 ≤ a ∧ a ≤ 9223372036854775807 := bounds_i64 h
theorem i16_bounds {a : Int} (h : (Lit.int .i16 a).wf = true) : -32768 ≤ a ∧ a ≤ 32767 := bounds_i16 h

theorem addr_plain {w : World} {a : Addr} {v : Value} (h : w.cell? a = some v) : a.spot = none := by
  unfold World.cell? at h
  split at h
  · split at h
    · simp at h
    · rename_i hs; simpa using hs
  · simp at h

theorem add_plain {a : Addr} (h : a.spot = none) (i : Nat) : a.add i = ⟨a.block, a.off + i, none⟩ := by
  obtain ⟨b, o, s⟩ := a
  simp only at h
  subst h
  unfold Addr.add
  split
  · rename_i hi; subst hi; rfl
  · rfl

set_option maxRecDepth 100000 in
theorem open_mat {H : Type} {enc : TypeId × Value → H} {W : World} {base : Nat} {v : Value} {d : DataW H} {p : List MemPlace} (hv : Value.okWide Try.prog W .any base 39 v) (h : DataW.Trod enc Try.prog W 0 (fun _ => true) true 39 v d p) :
    ∃ m : List (List Nat), Mx W v m ∧ BytM m ∧ m.length ≤ maxLen := by
  obtain ⟨a0, len0, cap0, rfl⟩ := okWide_slice Try.underlying39 hv
  obtain ⟨fuel, hf⟩ := h
  rcases Go.Deep.open_int_rows Try.underlying39 Try.underlying26 Try.underlying5 (by kernel_rfl) (by kernel_rfl) hf with ⟨hcs, _⟩ | ⟨a, len, cap, A, L, C, Z, hcs, _, hl, hm, _, hr⟩
  · simp only [Value.cells] at hcs
    obtain ⟨rfl, rfl, rfl⟩ : a0 = none ∧ len0 = 0 ∧ cap0 = 0 := by simpa using hcs
    exact ⟨[], ⟨none, 0, rfl, Nat.le_refl _, Or.inl rfl⟩, fun r hr => by simp at hr, Nat.zero_le _⟩
  · simp only [Value.cells] at hcs
    obtain ⟨rfl, rfl, rfl⟩ : a0 = some a ∧ len0 = len ∧ cap0 = cap := by simpa using hcs
    have hget : ∀ i r, ((List.range len0).map fun r => ((Z r).take (L r)).map Int.toNat)[i]? = some r → i < len0 ∧ r = ((Z i).take (L i)).map Int.toNat := by
      intro i r hi
      have h1 := (List.getElem?_eq_some_iff.1 hi).1
      simp only [List.length_map, List.length_range] at h1
      simp [h1] at hi
      exact ⟨h1, by rw [List.map_take]; exact hi.symm⟩
    have hlen : ∀ i, i < len0 → (((Z i).take (L i)).map Int.toNat).length = L i := by
      intro i hi
      obtain ⟨_, h2, _, h4, _⟩ := hr i (by omega)
      simp; omega
    refine ⟨(List.range len0).map fun r => ((Z r).take (L r)).map Int.toNat, ⟨some a, cap0, by simp, by simpa using hl, ?_⟩, ?_, by simp; omega⟩
    · by_cases h0 : len0 = 0
      · subst h0; exact Or.inl rfl
      · right
        have hpl := addr_plain (hr 0 (by omega)).1
        have hpl' : a.spot = none := by
          have : a.add 0 = a := by unfold Addr.add; simp
          rw [this] at hpl; exact hpl
        refine ⟨a.block, a.off, A, C, by obtain ⟨b, o, s⟩ := a; simp only at hpl'; subst hpl'; rfl, ?_⟩
        intro i r hi
        obtain ⟨h1, rfl⟩ := hget i r hi
        obtain ⟨k1, k2, k3, k4, k5, k6, k7⟩ := hr i (by omega)
        rw [add_plain hpl'] at k1
        refine ⟨by rw [hlen i h1]; exact k1, by rw [hlen i h1]; exact k2, ?_, k6⟩
        cases hA : A i with
        | none =>
          left
          have := k6 hA
          apply List.eq_nil_of_length_eq_zero
          rw [hlen i h1]; omega
        | some a' =>
          by_cases hL : L i = 0
          · left
            apply List.eq_nil_of_length_eq_zero
            rw [hlen i h1, hL]
          · right
            have kk := (k7 a' hA).2
            have hp0 := addr_plain (kk 0 (by omega))
            have hp' : a'.spot = none := by
              have : a'.add 0 = a' := by unfold Addr.add; simp
              rw [this] at hp0; exact hp0
            refine ⟨a'.block, a'.off, by obtain ⟨b, o, s⟩ := a'; simp only at hp'; subst hp'; rfl, ?_⟩
            intro j x hj
            have hj1 := (List.getElem?_eq_some_iff.1 hj).1
            rw [hlen i h1] at hj1
            have hc := kk j (by omega)
            rw [add_plain hp'] at hc
            rw [hc]
            have hz : (Z i)[j]? = some ((Z i).getD j 0) := getD_some (by omega)
            have hw := bounds_u8 (k5 _ (List.mem_of_getElem? hz))
            simp only [List.getElem?_map, List.getElem?_take, if_pos hj1, hz, Option.map_some, Option.some.injEq] at hj
            subst hj
            unfold bv
            rw [Int.toNat_of_nonneg hw.1]
    · intro r hr2
      obtain ⟨i, hi⟩ := List.mem_iff_getElem?.1 hr2
      obtain ⟨h1, rfl⟩ := hget i r hi
      intro x hx
      obtain ⟨z, hz, rfl⟩ := List.mem_map.1 hx
      have := bounds_u8 ((hr i (by omega)).2.2.2.2.1 z (List.mem_of_mem_take hz))
      omega
end Go.Proofs.Ytlbomlolomcolaa

namespace Go.Proofs.Ytlbomlolomcolaa
open Go.RowKit

/-- A header that reads as a row. -/
def HdOk (w : World) (x : Value) (r : List Nat) : Prop := ∃ a c, x = .slice a r.length c ∧ r.length ≤ c ∧ (r = [] ∨ ∃ b o, a = some ⟨b, o, none⟩ ∧ RowAt w b o r) ∧ (a = none → c = 0)
theorem HdOk.new {w w' : World} {x : Value} {r : List Nat} (h : HdOk w x r) (k : Below w.heap.size w w') : HdOk w' x r := by
  obtain ⟨a, c, h1, h2, h3, h4⟩ := h
  refine ⟨a, c, h1, h2, ?_, h4⟩
  rcases h3 with h3 | ⟨b, o, ha, hr⟩
  · exact Or.inl h3
  · exact Or.inr ⟨b, o, ha, hr.new k⟩
theorem HdOk.nil (w : World) : HdOk w (.slice none 0 0) [] := ⟨none, 0, rfl, Nat.le_refl _, Or.inl rfl, fun _ => rfl⟩

/-- Headers that read as the rows. -/
def HdsOk (w : World) (vs : List Value) (m : List (List Nat)) : Prop := vs.length = m.length ∧ ∀ (i : Nat) (x : Value) (r : List Nat), vs[i]? = some x → m[i]? = some r → HdOk w x r
theorem HdsOk.new {w w' : World} {vs : List Value} {m : List (List Nat)} (h : HdsOk w vs m) (k : Below w.heap.size w w') : HdsOk w' vs m := ⟨h.1, fun i x r hx hr => (h.2 i x r hx hr).new k⟩
theorem HdsOk.nil (w : World) : HdsOk w [] [] := ⟨rfl, fun i x r h => by simp at h⟩
theorem HdsOk.append {w : World} {vs us : List Value} {m n : List (List Nat)} (h : HdsOk w vs m) (k : HdsOk w us n) : HdsOk w (vs ++ us) (m ++ n) := by
  refine ⟨by rw [List.length_append, List.length_append, h.1, k.1], fun i x r hx hr => ?_⟩
  by_cases hi : i < vs.length
  · rw [List.getElem?_append_left hi] at hx
    rw [List.getElem?_append_left (by rw [← h.1]; exact hi)] at hr
    exact h.2 i x r hx hr
  · rw [List.getElem?_append_right (by omega)] at hx
    rw [List.getElem?_append_right (by rw [← h.1]; omega), ← h.1] at hr
    exact k.2 _ x r hx hr
theorem HdsOk.one {w : World} {x : Value} {r : List Nat} (h : HdOk w x r) : HdsOk w [x] [r] := by
  refine ⟨rfl, fun i y s hy hs => ?_⟩
  cases i with
  | zero =>
    simp only [List.getElem?_cons_zero, Option.some.injEq] at hy hs
    subst hy; subst hs; exact h
  | succ i => simp at hy
theorem HdsOk.set {w : World} {vs : List Value} {m : List (List Nat)} (h : HdsOk w vs m) {i : Nat} {x : Value} {r : List Nat} (hx : HdOk w x r) : HdsOk w (vs.set i x) (m.set i r) := by
  refine ⟨by simp [h.1], fun j y s hy hs => ?_⟩
  by_cases hj : i = j
  · subst hj
    have hi : i < vs.length := by have := (List.getElem?_eq_some_iff.1 hy).1; simpa using this
    rw [List.getElem?_set_self hi] at hy
    rw [List.getElem?_set_self (by rw [← h.1]; exact hi)] at hs
    simp only [Option.some.injEq] at hy hs
    subst hy; subst hs; exact hx
  · rw [List.getElem?_set_ne hj] at hy hs
    exact h.2 j y s hy hs
theorem HdsOk.oneCell {w : World} {vs : List Value} {m : List (List Nat)} (h : HdsOk w vs m) : ∀ u ∈ vs, u.oneCell' = true := by
  intro u hu
  obtain ⟨i, hi⟩ := List.mem_iff_getElem?.1 hu
  have hl := (List.getElem?_eq_some_iff.1 hi).1
  obtain ⟨a, c, h1, _⟩ := h.2 i u _ hi (getD_some (d := []) (by rw [← h.1]; exact hl))
  rw [h1]; rfl

def hdA (vs : List Value) (i : Nat) : Option Addr := match vs.getD i (.slice none 0 0) with | .slice a _ _ => a | _ => none
def hdC (vs : List Value) (i : Nat) : Nat := match vs.getD i (.slice none 0 0) with | .slice _ _ c => c | _ => 0
/-- Headers in a row of cells: a matrix. -/
theorem HdsOk.mxAt {w : World} {b o : Nat} {vs : List Value} {m : List (List Nat)} (h : HdsOk w vs m) (hc : ∀ (i : Nat) (x : Value), vs[i]? = some x → w.cell? ⟨b, o + i, none⟩ = some x) : MxAt w b o m (hdA vs) (hdC vs) := by
  intro i r hr
  have hi : i < vs.length := by rw [h.1]; exact (List.getElem?_eq_some_iff.1 hr).1
  have hx := getD_some (d := Value.slice none 0 0) hi
  obtain ⟨a, c, h1, h2, h3, h4⟩ := h.2 i _ r hx hr
  have hA : hdA vs i = a := by unfold hdA; rw [h1]
  have hC : hdC vs i = c := by unfold hdC; rw [h1]
  rw [hA, hC, hc i _ hx, h1]
  exact ⟨rfl, h2, h3, h4⟩
theorem HdsOk.mx {w : World} {g T cap : Nat} {vs : List Value} {m : List (List Nat)} (h : HdsOk w vs m) (hb : Blk w g T vs) (hc : m.length ≤ cap) : Mx w (.slice (some ⟨g, 0, none⟩) m.length cap) m :=
  ⟨_, cap, rfl, hc, Or.inr ⟨g, 0, _, _, rfl, h.mxAt fun i x hx => by rw [Nat.zero_add]; exact hb.cell hx⟩⟩

/-- The headers of a matrix. -/
def mvs (m : List (List Nat)) (A : Nat → Option Addr) (C : Nat → Nat) : List Value := (List.range m.length).map fun i => .slice (A i) (plen m i) (C i)
theorem mvs_length (m : List (List Nat)) (A : Nat → Option Addr) (C : Nat → Nat) : (mvs m A C).length = m.length := by simp [mvs]
theorem mvs_get {m : List (List Nat)} {A : Nat → Option Addr} {C : Nat → Nat} {i : Nat} {x : Value} (h : (mvs m A C)[i]? = some x) : i < m.length ∧ x = .slice (A i) (plen m i) (C i) := by
  have hi : i < m.length := by have := (List.getElem?_eq_some_iff.1 h).1; rwa [mvs_length] at this
  refine ⟨hi, ?_⟩
  unfold mvs at h
  rw [List.getElem?_map, List.getElem?_range hi] at h
  simpa using h.symm
theorem MxAt.hds {w : World} {b o : Nat} {m : List (List Nat)} {A : Nat → Option Addr} {C : Nat → Nat} (h : MxAt w b o m A C) : HdsOk w (mvs m A C) m := by
  refine ⟨mvs_length _ _ _, fun i x r hx hr => ?_⟩
  obtain ⟨hi, rfl⟩ := mvs_get hx
  obtain ⟨_, h2, h3, h4⟩ := h i r hr
  have e : plen m i = r.length := by unfold plen; rw [List.getD_eq_getElem?_getD, hr]; rfl
  exact ⟨A i, C i, by rw [e], h2, h3, h4⟩
theorem MxAt.src {w : World} {b o : Nat} {m : List (List Nat)} {A : Nat → Option Addr} {C : Nat → Nat} (h : MxAt w b o m A C) : ∀ j u, (mvs m A C)[j]? = some u → w.cell? ((⟨b, o, none⟩ : Addr).add j) = some u := by
  intro j u hu
  obtain ⟨hi, rfl⟩ := mvs_get hu
  rw [add_plain rfl]
  exact (h j _ (getD_some (d := []) hi)).1
theorem GM.hds {w : World} {B : Nat} {v : Value} {hd : List (Nat × Nat)} {m : List (List Nat)} (h : GM w B v hd m) : HdsOk w (hvs hd m) m := by
  refine ⟨hvs_length h.len, fun i x r hx hr => ?_⟩
  have hi : i < hd.length := by rw [h.len]; exact (List.getElem?_eq_some_iff.1 hr).1
  have hp := getD_some (d := (0, 0)) hi
  rw [hvs_get hp hr] at hx
  simp only [Option.some.injEq] at hx
  subst hx
  obtain ⟨k1, _, k3⟩ := h.rows i _ r hp hr
  exact ⟨_, _, rfl, k3, Or.inr ⟨_, 0, rfl, k1.row⟩, by simp⟩

/-- A slice of headers of the call's own. -/
structure VM (w : World) (B : Nat) (v : Value) (vs : List Value) (m : List (List Nat)) : Prop where
  outer : w.ownsRow B 26 1 v m.length vs
  hds : HdsOk w vs m
theorem VM.nil (w : World) (B : Nat) : VM w B (.slice none 0 0) [] [] := ⟨World.ownsRow_nil w B _ 1, HdsOk.nil w⟩
theorem VM.new {w w' : World} {B : Nat} {v : Value} {vs : List Value} {m : List (List Nat)} (h : VM w B v vs m) (k : Below w.heap.size w w') : VM w' B v vs m :=
  ⟨owns_kept h.outer (Kept.of_new k) (S := fun _ => False) (fun _ _ => id), h.hds.new k⟩
theorem VM.done {w : World} {B : Nat} {v : Value} {vs : List Value} {m : List (List Nat)} (h : VM w B v vs m) (hm : m ≠ []) : ∃ bo cap, v = .slice (some ⟨bo, 0, none⟩) m.length cap ∧ m.length ≤ cap ∧ cap ≤ maxLen ∧ Blk w bo 26 vs ∧ B ≤ bo := by
  have h0 := h.outer
  rcases h0.2 with ⟨rfl, hz⟩ | ⟨g, cap, cur, rfl, hb, hgg, h1, h2, h3⟩
  · exact absurd (List.length_eq_zero_iff.1 hz) hm
  · exact ⟨g, cap, rfl, h1, h2, Blk.of_owns h0, hb⟩
theorem VM.mx {w : World} {B : Nat} {v : Value} {vs : List Value} {m : List (List Nat)} (h : VM w B v vs m) : Mx w v m := by
  by_cases hm : m = []
  · subst hm
    obtain ⟨a, c, rfl⟩ := owns_slice h.outer
    exact ⟨a, c, rfl, Nat.zero_le _, Or.inl rfl⟩
  · obtain ⟨bo, cap, rfl, h1, _, hb, _⟩ := h.done hm
    exact h.hds.mx hb h1
/-- What a function that returns a slice of headers of its own leaves. -/
def VmRet (m : List (List Nat)) (w : World) (e : Ending) (w' : World) : Prop := ∃ vo vs, e = .returned vo ∧ VM w' w.heap.size vo vs m ∧ Below w.heap.size w w'

/-- Parts of n bytes. -/
def ptM (l : List Nat) (n k : Nat) : List (List Nat) := (List.range k).map fun i => (l.drop (i * n)).take n
def ptN (l : List Nat) (n : Nat) : Nat := min 8 (l.length / n)
theorem ptM_length (l : List Nat) (n k : Nat) : (ptM l n k).length = k := by simp [ptM]
theorem ptM_succ (l : List Nat) (n k : Nat) : ptM l n (k + 1) = ptM l n k ++ [(l.drop (k * n)).take n] := by
  unfold ptM; rw [List.range_succ, List.map_append]; rfl
theorem ptN_go {l : List Nat} {n k : Nat} (hn : 1 ≤ n) (h1 : k < 8) (h2 : n ≤ l.length - k * n) (h3 : k * n ≤ l.length) : k + 1 ≤ ptN l n := by
  unfold ptN
  refine Nat.le_min.2 ⟨h1, (Nat.le_div_iff_mul_le hn).2 ?_⟩
  rw [Nat.add_mul]; omega
theorem ptN_end {l : List Nat} {n k : Nat} (hn : 1 ≤ n) (hk : k ≤ ptN l n) (h : l.length - k * n < n ∨ 8 ≤ k) : k = ptN l n := by
  unfold ptN at hk ⊢
  have h8 := Nat.le_trans hk (Nat.min_le_left _ _)
  have hd := (Nat.le_div_iff_mul_le hn).1 (Nat.le_trans hk (Nat.min_le_right _ _))
  rcases h with h | h
  · have : l.length / n = k := (Nat.div_eq_iff hn).2 ⟨by omega, by omega⟩
    rw [this]; omega
  · have : 8 ≤ l.length / n := (Nat.le_div_iff_mul_le hn).2 (by have : k = 8 := by omega
                                                                rw [this] at hd; exact hd)
    omega

set_option maxRecDepth 100000 in
set_option maxHeartbeats 2000000 in
theorem parts_any (v : Value) (l : List Nat) (n : Nat) (w : World) (hb : Bs w v l) (hl : l.length ≤ 60) (h1 : 1 ≤ n) (h2 : n ≤ 60) :
    Calls Try.prog 28 #[v, .int .i64 n] w (VmRet (ptM l n (ptN l n)) w) := by
  obtain ⟨j0, gi, gz0, gz1, gz2⟩ := info_parts infoBytes
  obtain ⟨a, cap, rfl, hcap, hb⟩ := hb
  obtain ⟨bb, oo, hab⟩ : ∃ bb oo, l = [] ∨ (a = some ⟨bb, oo, none⟩ ∧ RowAt w bb oo l) := by
    rcases hb with h | ⟨b, o, h⟩
    · exact ⟨0, 0, Or.inl h⟩
    · exact ⟨b, o, Or.inr h⟩
  have Hab := Lib.hid hab
  obtain ⟨L, hL⟩ : ∃ L, l.length = L := ⟨_, rfl⟩
  have HL := Lib.hid hL
  have H0 := Lib.hid (show 1 ≤ L → a = some ⟨bb, oo + 0, none⟩ by
    intro h
    rcases hab with h0 | ⟨h0, _⟩
    · rw [h0] at hL; simp at hL; omega
    · exact h0)
  have HR := Lib.hid (show 1 ≤ L → RowAt w bb oo l by
    intro h
    rcases hab with h0 | ⟨_, h0⟩
    · rw [h0] at hL; simp at hL; omega
    · exact h0)
  rw [hL] at hl hcap ⊢
  clear hb hab hL Hab
  go_enter Try.func28, Try.ntmps28
  go_wp2_with fail
  go_loopg [0, 5] 8 (fun gk s v wr => ∃ (k off rem : Nat) (a' : Option Addr) (c' : Nat), k + gk = 8 ∧ off + rem = L ∧ s = .slice a' rem c' ∧ rem ≤ c' ∧ Hid (off = k * n) ∧ Hid (k ≤ ptN l n) ∧ Hid (1 ≤ rem → a' = some ⟨bb, oo + off, none⟩) ∧ Hid (∃ vs, wr.ownsRow w.heap.size 26 1 v k vs ∧ HdsOk w vs (ptM l n k)) ∧ Hid (Below w.heap.size w wr))
  case atStart => exact ⟨0, 0, L, a, cap, rfl, by omega, rfl, hcap, (Nat.zero_mul n).symm, Nat.zero_le _, H0, ⟨[], World.ownsRow_nil w _ _ 1, HdsOk.nil w⟩, Below.refl _ _⟩
  case round =>
    obtain ⟨k, off, rem, a', c', hgk, hor, rfl, hrc, hoff, hkp, ha', hV, hB⟩ := hrel
    have Hgk := Lib.hid hgk
    have hk8 : k ≤ 8 := by omega
    clear hgk
    obtain ⟨vs, hVo, hVh⟩ := hV.out
    obtain ⟨av, cv, rfl⟩ := owns_slice hVo
    have HVo := Lib.hid hVo
    have HVh := Lib.hid hVh
    clear hVo hVh hV
    by_cases hlt : n ≤ rem
    · have t1 : decide ((n : Int) ≤ (rem : Int)) = true := by simp; omega
      by_cases h8 : k < 8
      · have t2 : decide ((k : Int) < 8) = true := by simp; omega
        obtain rfl := ha'.out (by omega)
        have hzz : w.heap.size ≤ wr.heap.size := hB.out.size
        have Hrow := Lib.hid (show RowAt w bb (oo + off) ((l.drop off).take n) from ((HR.out (by omega)).drop off).take n)
        have Hrl := Lib.hid (show ((l.drop off).take n).length = n by rw [List.length_take, List.length_drop, HL.out]; omega)
        have Hnx := Lib.hid (show k + 1 ≤ ptN l n from ptN_go h1 h8 (by rw [← hoff.out, HL.out]; omega) (by rw [← hoff.out, HL.out]; omega))
        have hnc : (n : Int) ≤ (c' : Int) := by omega
        go_wp2_with (at_builtin; refine wpList_append_own _ rfl _ _ 39 rfl w.heap.size 26 j0 (.slice none 0 0) 1 24 Try.underlying39 gi gz0 gz1 gz2 rfl (by decide) _ _ _ rfl (owns_kept HVo.out (Kept.of_new (al _ _)) (S := fun _ => False) (fun _ _ => id)) ⟨wr.heap.size, 0, none⟩ 1 1 [.slice (some ⟨bb, oo + off, none⟩) n c'] rfl rfl ?d1 ?d2 ?d3 ?d4 ?d5 ?_)
        case d2 => rfl
        case d3 => unfold maxLen; omega
        case d4 => omega
        case d5 => omega
        intro v' w5 hown hgr _
        have hBa := al wr (.cells #[.slice (some ⟨bb, oo + off, none⟩) n c'] 26)
        have HB5 := Lib.hid (show Below w.heap.size w w5 from (hB.out.trans (hBa.mono hzz)).grown hgr (by simp; omega) (fun q hq => (owns_block HVo.out hq).2.1))
        have HV5 := Lib.hid (show ∃ vs, w5.ownsRow w.heap.size 26 1 v' (k + 1) vs ∧ HdsOk w vs (ptM l n (k + 1)) by
          refine ⟨_, hown, ?_⟩
          rw [ptM_succ, ← hoff.out]
          exact HVh.out.append (HdsOk.one ⟨some ⟨bb, oo + off, none⟩, c', by rw [Hrl.out], by rw [Hrl.out]; omega, Or.inr ⟨bb, oo + off, rfl, Hrow.out⟩, by simp⟩))
        have Hof := Lib.hid (show off + n = (k + 1) * n by rw [Nat.add_mul, ← hoff.out]; omega)
        clear hown hgr hBa
        by_cases hcn : c' = n
        · subst hcn
          obtain rfl : rem = c' := by omega
          go_wp2_with fail
          go_roundg (8 - k - 1)
          case measure => have := Hgk.out; omega
          case rel => exact ⟨k + 1, off + rem, 0, _, _, by have := Hgk.out; omega, by omega, rfl, Nat.zero_le _, Hof.out, Hnx.out, fun h => by omega, HV5.out, HB5.out⟩
        · have hcl : n < c' := by omega
          clear hcn
          go_wp2_with fail
          go_roundg (8 - k - 1)
          case measure => have := Hgk.out; omega
          case rel => exact ⟨k + 1, off + n, rem - n, _, _, by have := Hgk.out; omega, by omega, by congr 1, by omega, Hof.out, Hnx.out, fun h => by rw [Nat.add_assoc], HV5.out, HB5.out⟩
      · have t2 : decide ((k : Int) < 8) = false := by simp; omega
        have he := Lib.hid (ptN_end h1 hkp.out (Or.inr (by omega)))
        go_wp2_with fail
        go_ret
        exact ⟨_, vs, rfl, ⟨by rw [ptM_length, ← he.out]; exact HVo.out, by rw [← he.out]; exact HVh.out.new hB.out⟩, hB.out⟩
    · have t1 : decide ((n : Int) ≤ (rem : Int)) = false := by simp; omega
      have he := Lib.hid (ptN_end h1 hkp.out (Or.inl (by rw [← hoff.out, HL.out]; omega)))
      go_wp2_with fail
      go_ret
      exact ⟨_, vs, rfl, ⟨by rw [ptM_length, ← he.out]; exact HVo.out, by rw [← he.out]; exact HVh.out.new hB.out⟩, hB.out⟩
end Go.Proofs.Ytlbomlolomcolaa

namespace Go.Proofs.Ytlbomlolomcolaa
open Alg

theorem plen_of {m : List (List Nat)} {c : Nat} (h : Rect c m) {i : Nat} (hi : i < m.length) : plen m i = c := (h.get hi).1
theorem rect_byt {m : List (List Nat)} {c : Nat} (h : Rect c m) : BytM m := fun r hr => (h r hr).2

theorem recErr_ok {D : List (List Nat)} {c n : Nat} (h : Rect c D) (h1 : 1 ≤ c) (h2 : c ≤ 65536) (hd : 1 ≤ D.length) (hn : D.length + n ≤ 64) : recErr D n = 0 := by
  have hl : longB D = false := by
    unfold longB; rw [List.any_eq_false]
    intro i hi
    rw [plen_of h (List.mem_range.1 hi)]
    simp; omega
  have hb : badB D = false := by
    unfold badB; rw [List.any_eq_false]
    intro i hi
    rw [plen_of h (List.mem_range.1 hi), plen_of h (by omega)]
    simp; omega
  unfold recErr
  rw [if_neg (by omega), hl, hb]
  rfl
theorem recRows_ok {D : List (List Nat)} {n : Nat} (h : recErr D n = 0) : recRows D n = prodM (cauM n D.length) D := by unfold recRows; rw [if_pos h]; rfl
/-- Data parts and their recovery parts: the set. -/
theorem set_eq {D : List (List Nat)} {c n : Nat} (h : Rect c D) (hd : 1 ≤ D.length) (hE : recErr D n = 0) : D ++ recRows D n = setM D.length n D := by
  rw [recRows_ok hE]
  unfold setM rowsM prodM
  rw [List.map_append]
  have := prod_id h rfl hd
  unfold prodM at this
  rw [this]

theorem parErr_set {P : List (List Nat)} {d c : Nat} (hl : P.length ≤ 64) (h1 : 1 ≤ d) (h2 : d ≤ P.length) (hc : c ≤ 65536) (hp : ∀ i, i < P.length → plen P i = 0 ∨ plen P i = c) : parErr P d = 0 := by
  have hl' : longB P = false := by
    unfold longB; rw [List.any_eq_false]
    intro i hi
    rcases hp i (List.mem_range.1 hi) with h | h <;> rw [h] <;> simp <;> omega
  have hm : misB P = false := misB_no (L := c) fun i hi h => by rcases hp i hi with h' | h' <;> omega
  unfold parErr
  rw [if_neg (by omega), if_neg (by omega), hl', hm]
  rfl

/-- Some parts are lost. -/
def loseTo {α : Type} (z : α) (m : List α) (f : Nat → Bool) : Nat → List α
  | 0 => m
  | k + 1 => if f k then (loseTo z m f k).set k z else loseTo z m f k
def lostN (f : Nat → Bool) : Nat → Nat
  | 0 => 0
  | k + 1 => if f k then lostN f k + 1 else lostN f k
theorem lostN_le (f : Nat → Bool) (k : Nat) : lostN f k ≤ k := by
  induction k with
  | zero => exact Nat.le_refl _
  | succ k ih => unfold lostN; split <;> omega
theorem loseTo_length {α : Type} (z : α) (m : List α) (f : Nat → Bool) (k : Nat) : (loseTo z m f k).length = m.length := by
  induction k with
  | zero => rfl
  | succ k ih => unfold loseTo; split <;> simp [ih]
theorem loseTo_get {α : Type} (z : α) (m : List α) (f : Nat → Bool) (k i : Nat) (hi : i < m.length) (d : α) : (loseTo z m f k).getD i d = if i < k ∧ f i = true then z else m.getD i d := by
  induction k with
  | zero => rw [if_neg (by omega)]; rfl
  | succ k ih =>
    unfold loseTo
    by_cases hf : f k = true
    · rw [if_pos hf, List.getD_eq_getElem?_getD, List.getElem?_set]
      by_cases hik : k = i
      · subst hik
        rw [if_pos rfl, if_pos (by rw [loseTo_length]; exact hi), if_pos ⟨by omega, hf⟩]; rfl
      · rw [if_neg hik, ← List.getD_eq_getElem?_getD, ih]
        have : (i < k ∧ f i = true) ↔ (i < k + 1 ∧ f i = true) := ⟨fun h => ⟨by omega, h.2⟩, fun h => ⟨by omega, h.2⟩⟩
        simp only [this]
    · rw [if_neg hf, ih]
      by_cases hik : i = k
      · subst hik; simp [hf]
      · have : (i < k ∧ f i = true) ↔ (i < k + 1 ∧ f i = true) := ⟨fun h => ⟨by omega, h.2⟩, fun h => ⟨by omega, h.2⟩⟩
        simp only [this]

theorem over_same {P S : List (List Nat)} (h : ∀ i, i < P.length → 1 ≤ plen P i → P.getD i [] = S.getD i []) : overM P S = S := by
  have key : ∀ l : List (PI P), overTo P S l = S := by
    intro l
    induction l with
    | nil => rfl
    | cons x l ih =>
      show overTo P (S.set x.1 (P.getD x.1 [])) l = S
      rw [h x.1 x.2.1 x.2.2]
      have : S.set x.1 (S.getD x.1 []) = S := by
        apply List.ext_getElem?
        intro j
        rw [List.getElem?_set]
        by_cases hj : x.1 = j
        · subst hj
          rw [if_pos rfl]
          split
          · rename_i hl; rw [getD_some (d := []) hl]
          · rename_i hl; rw [List.getElem?_eq_none (by omega)]
        · rw [if_neg hj]
      rw [this, ih]
  exact key _

theorem pres_count (P : List (List Nat)) (f : Nat → Bool) (k : Nat) (h : ∀ i, i < k → (1 ≤ plen P i ↔ f i = false)) : ((List.range k).filter fun i => decide (1 ≤ plen P i)).length + lostN f k = k := by
  induction k with
  | zero => rfl
  | succ k ih =>
    have := ih fun i hi => h i (by omega)
    rw [List.range_succ, List.filter_append, List.length_append]
    unfold lostN
    cases hf : f k with
    | true =>
      have hn : ¬ 1 ≤ plen P k := fun hp => by have := (h k (by omega)).1 hp; rw [hf] at this; exact absurd this (by decide)
      simp [hn] at this ⊢; omega
    | false =>
      have hn : 1 ≤ plen P k := (h k (by omega)).2 hf
      simp [hn] at this ⊢; omega

/-- Lost parts of a set: repaired if there are enough. -/
theorem lose_ok {D : List (List Nat)} {d r c : Nat} (hD : Rect c D) (ld : D.length = d) (h1 : 1 ≤ d) (h2 : d + r ≤ 64) (hc1 : 1 ≤ c) (hc2 : c ≤ 65536) (f : Nat → Bool) :
    BytM (loseTo [] (setM d r D) f (d + r)) ∧ repErr (loseTo [] (setM d r D) f (d + r)) d = (if r < lostN f (d + r) then 26 else 0) ∧ repRows (loseTo [] (setM d r D) f (d + r)) d = (if r < lostN f (d + r) then [] else setM d r D) := by
  have hS := setM_rect (r := r) hD ld h1
  have hSl := setM_length d r D
  obtain ⟨P, hP⟩ : ∃ P, loseTo [] (setM d r D) f (d + r) = P := ⟨_, rfl⟩
  have hPl : P.length = d + r := by rw [← hP, loseTo_length, hSl]
  have hPg : ∀ i, i < d + r → P.getD i [] = if f i = true then [] else (setM d r D).getD i [] := by
    intro i hi
    rw [← hP, loseTo_get _ _ _ _ _ (by rw [hSl]; exact hi)]
    by_cases hf : f i = true
    · rw [if_pos ⟨hi, hf⟩, if_pos hf]
    · rw [if_neg (fun h => hf h.2), if_neg hf]
  have hPp : ∀ i, i < d + r → plen P i = if f i = true then 0 else c := by
    intro i hi
    unfold plen
    rw [hPg i hi]
    split
    · rfl
    · exact (hS.get (by rw [hSl]; exact hi)).1
  have hPf : ∀ i, i < d + r → (1 ≤ plen P i ↔ f i = false) := by
    intro i hi
    rw [hPp i hi]
    cases hf : f i <;> simp <;> omega
  have hPb : BytM P := by
    intro x hx
    obtain ⟨i, hi⟩ := List.mem_iff_getElem?.1 hx
    have hl := (List.getElem?_eq_some_iff.1 hi).1
    have hg : P.getD i [] = x := by rw [List.getD_eq_getElem?_getD, hi]; rfl
    rw [← hg, hPg i (by omega)]
    split
    · intro y hy; simp at hy
    · exact (hS.get (by rw [hSl]; omega)).2
  have hE : parErr P d = 0 := parErr_set (c := c) (by omega) h1 (by omega) hc2 fun i hi => by
    rw [hPp i (by omega)]; split
    · exact Or.inl rfl
    · exact Or.inr rfl
  have hcount : (pidx P).length + lostN f (d + r) = d + r := by
    rw [pidx_eq, hPl]; exact pres_count P f (d + r) hPf
  rw [hP]
  have hw : wErr P d = if r < lostN f (d + r) then 26 else 0 := by
    unfold wErr
    rw [if_pos hE]
    show wholeErr P (d : Int).toNat = _
    rw [Int.toNat_natCast, wholeErr_eq h1 (by omega) (by omega)]
    by_cases h : r < lostN f (d + r)
    · rw [if_pos h, if_pos (by omega)]
    · rw [if_neg h, if_neg (by omega)]
  refine ⟨hPb, hw, ?_⟩
  unfold repRows
  rw [hw]
  by_cases h : r < lostN f (d + r)
  · rw [if_pos h, if_neg (by decide), if_pos h]
  · rw [if_neg h, if_pos rfl, if_neg h]
    have hd : d ≤ (pidx P).length := by omega
    have e : wRows P d = setM d r D := by
      unfold wRows
      rw [if_pos hE]
      unfold wholeRows
      rw [Int.toNat_natCast, wholeErr_eq h1 (by omega) (by omega), if_neg (show ¬ (pidx P).length < d by omega), if_pos rfl]
      refine whole_set hD ld h1 h2 hPl (fun i hi hp => ?_) hd
      rw [hPg i hi, if_neg]
      rw [(hPf i hi).1 hp]; decide
    rw [e]
    refine over_same fun i hi hp => ?_
    rw [hPg i (by omega), if_neg]
    rw [(hPf i (by omega)).1 hp]; decide

theorem ptM_rect {l : List Nat} {n k : Nat} (hB : Byt l) (hk : k * n ≤ l.length) : Rect n (ptM l n k) := by
  intro x hx
  unfold ptM at hx
  obtain ⟨i, hi, rfl⟩ := List.mem_map.1 hx
  have hi := List.mem_range.1 hi
  refine ⟨?_, fun y hy => hB y (List.mem_of_mem_drop (List.mem_of_mem_take hy))⟩
  rw [List.length_take, List.length_drop]
  have : (i + 1) * n ≤ k * n := Nat.mul_le_mul_right n hi
  rw [Nat.add_mul] at this
  omega
theorem ptN_mul (l : List Nat) (n : Nat) : ptN l n * n ≤ l.length := by
  unfold ptN
  exact Nat.le_trans (Nat.mul_le_mul_right n (Nat.min_le_right _ _)) (Nat.div_mul_le_self _ _)
theorem ptN_le (l : List Nat) (n : Nat) : ptN l n ≤ 8 := Nat.min_le_left _ _
end Go.Proofs.Ytlbomlolomcolaa

namespace Go.Proofs.Ytlbomlolomcolaa
open Alg

theorem set_rect {D : List (List Nat)} {c k : Nat} {p : List Nat} (hD : Rect c D) (hp : p.length = c) (hb : Byt p) : Rect c (D.set k p) := by
  intro x hx
  rcases List.mem_or_eq_of_mem_set hx with h | h
  · exact hD x h
  · rw [h]; exact ⟨hp, hb⟩
theorem ent_setRow {D : List (List Nat)} {k : Nat} {p : List Nat} (hk : k < D.length) (i j : Nat) : ent (D.set k p) i j = if i = k then tg (p.getD j 0) else ent D i j := by
  unfold ent
  rw [getD_set hk]
  split <;> rfl

theorem getD_left {α : Type} {a b : List α} {i : Nat} {d : α} (h : i < a.length) : (a ++ b).getD i d = a.getD i d := by
  rw [List.getD_eq_getElem?_getD, List.getElem?_append_left h, ← List.getD_eq_getElem?_getD]

theorem ent_set {D : List (List Nat)} {d r c i j : Nat} (hD : Rect c D) (ld : D.length = d) (h1 : 1 ≤ d) (hi : i < d + r) (hj : j < c) : ent (setM d r D) i j = S d fun k => gx (ent (rowsM d r) i k) (ent D k j) := by
  unfold setM
  exact ent_prod (rowsM_rect d r) hD ld (by rw [rowsM_length]; exact hi) hj (row0_of hD (by omega))

/-- A part is replaced: the set with the new part. -/
theorem upd_set {D : List (List Nat)} {d r c t : Nat} {p : List Nat} (hD : Rect c D) (ld : D.length = d) (h1 : 1 ≤ d) (h2 : d + r ≤ 64) (hc1 : 1 ≤ c) (hc2 : c ≤ 65536) (ht : t < d) (hp : p.length = c) (hb : Byt p) :
    updErr (setM d r D) d t p = 0 ∧ updRows (setM d r D) d t p = setM d r (D.set t p) := by
  have hS := setM_rect (r := r) hD ld h1
  have hSl := setM_length d r D
  have hP : parErr (setM d r D) d = 0 := parErr_set (c := c) (by omega) h1 (by omega) hc2 fun i hi => Or.inr (plen_of hS hi)
  have hlo : lostB (setM d r D) = false := by
    unfold lostB; rw [List.any_eq_false]
    intro i hi
    rw [plen_of hS (List.mem_range.1 hi)]
    simp; omega
  have hE : updErr (setM d r D) d t p = 0 := by
    unfold updErr
    rw [if_pos hP, hlo, if_neg (by decide), if_neg (by omega), if_neg (by rw [plen_of hS (by omega)]; omega)]
  refine ⟨hE, ?_⟩
  have hD' : Rect c (D.set t p) := set_rect hD hp hb
  have ld' : (D.set t p).length = d := by simpa using ld
  have hSt : (setM d r D).getD t [] = D.getD t [] := by
    have hEr : recErr D r = 0 := recErr_ok hD hc1 hc2 (by omega) (by omega)
    have := set_eq (n := r) hD (by omega) hEr
    rw [ld] at this
    rw [← this]
    exact getD_left (by omega)
  unfold updRows
  rw [if_pos hE]
  show updM _ (d : Int).toNat (t : Int).toNat p = _
  rw [Int.toNat_natCast, Int.toNat_natCast]
  have hrow : ∀ i, i < d + r → (updM (setM d r D) d t p).getD i [] = updRow (setM d r D) d t p i := by
    intro i hi
    unfold updM
    rw [List.getD_eq_getElem?_getD, List.getElem?_map, List.getElem?_range (by omega)]; rfl
  have hDt := hD.get (i := t) (by omega)
  have hch : (addMul 1 p (D.getD t [])).length = c := by rw [addMul_length, hp, hDt.1]; exact Nat.min_self _
  have hru : ∀ i, i < d + r → (updRow (setM d r D) d t p i).length = c ∧ Byt (updRow (setM d r D) d t p i) := by
    intro i hi
    have hSi := hS.get (i := i) (by omega)
    unfold updRow
    rw [hSt]
    exact ⟨by rw [addMul_length, hSi.1, hch]; exact Nat.min_self _, addMul_byt hSi.2⟩
  have hU : Rect c (updM (setM d r D) d t p) := by
    intro x hx
    unfold updM at hx
    obtain ⟨i, hi, rfl⟩ := List.mem_map.1 hx
    exact hru i (by have := List.mem_range.1 hi; omega)
  refine ent_ext (n := d + r) hU (setM_rect hD' ld' h1) (by rw [updM_length, hSl]) (setM_length _ _ _) fun i j hi hj => ?_
  rw [ent_set hD' ld' h1 hi hj]
  have hSi := hS.get (i := i) (by omega)
  have e1 : ent (updM (setM d r D) d t p) i j = ga (ent (setM d r D) i j) (gx (ent (rowsM d r) i t) (ga (tg (p.getD j 0)) (ent D t j))) := by
    have hRi := (rowsM_rect d r).get (i := i) (by rw [rowsM_length]; exact hi)
    show tg (((updM (setM d r D) d t p).getD i []).getD j 0) = _
    rw [hrow i hi]
    unfold updRow
    rw [hSt, hSl, Nat.add_sub_cancel_left, addMul_getD (by rw [hSi.1, hch]) (by omega), addMul_getD (by rw [hp, hDt.1]) (by omega)]
    rw [tg_xor (hSi.2.getD j) (Gf.gm_lt _ _), tg_gm (hRi.2.getD t) (Gf.xor_lt (hb.getD j) (Gf.gm_lt _ _)), tg_xor (hb.getD j) (Gf.gm_lt _ _), Gf.one_gm (hDt.2.getD j)]
    rfl
  rw [e1, ent_set hD ld h1 hi hj]
  have e2 : (S d fun k => gx (ent (rowsM d r) i k) (ent (D.set t p) k j)) = S d fun k => ga (gx (ent (rowsM d r) i k) (ent D k j)) (if k = t then gx (ent (rowsM d r) i k) (ga (tg (p.getD j 0)) (ent D k j)) else g0) := by
    refine S_congr fun k hk => ?_
    rw [ent_setRow (by omega)]
    by_cases hkt : k = t
    · rw [if_pos hkt, if_pos hkt, ← gx_ga, ga_comm (tg _), ← ga_assoc, ga_self, zero_ga]
    · rw [if_neg hkt, if_neg hkt, ga_zero]
  rw [e2, S_ga, S_one ht]
end Go.Proofs.Ytlbomlolomcolaa

namespace Go.Proofs.Ytlbomlolomcolaa
open Alg

/-- All parts are there: what whole computes hangs on the first d alone. -/
theorem whole_first {P Q : List (List Nat)} {d : Nat} (hl : P.length = Q.length) (h1 : ∀ i, i < P.length → 1 ≤ plen P i) (h2 : ∀ i, i < Q.length → 1 ≤ plen Q i) (hd : d ≤ P.length) (he : ∀ i, i < d → P.getD i [] = Q.getD i []) : wholeM P d = wholeM Q d := by
  have hp : pidx P = List.range P.length := by
    rw [pidx_eq, List.filter_eq_self]
    intro i hi
    exact decide_eq_true (h1 i (List.mem_range.1 hi))
  have hq : pidx Q = List.range Q.length := by
    rw [pidx_eq, List.filter_eq_self]
    intro i hi
    exact decide_eq_true (h2 i (List.mem_range.1 hi))
  have e1 : selM P d = selM Q d := by unfold selM; rw [hp, hq, hl]
  have e2 : selP P d = selP Q d := by
    unfold selP
    rw [hp, hq, ← hl]
    refine List.map_congr_left fun i hi => he i ?_
    rw [List.take_range] at hi
    have := List.mem_range.1 hi
    omega
  unfold wholeM
  rw [e1, e2, hl]

theorem pidx_all {P : List (List Nat)} (h : ∀ i, i < P.length → 1 ≤ plen P i) : (pidx P).length = P.length := by
  have hp : pidx P = List.range P.length := by
    rw [pidx_eq, List.filter_eq_self]
    intro i hi
    exact decide_eq_true (h i (List.mem_range.1 hi))
  rw [hp, List.length_range]

/-- All parts are there: no error, and the rows of the first d parts' set. -/
theorem con_rows {P D : List (List Nat)} {d r c : Nat} (hP : Rect c P) (lP : P.length = d + r) (hD : Rect c D) (ld : D.length = d) (h1 : 1 ≤ d) (h2 : d + r ≤ 64) (hc1 : 1 ≤ c) (hc2 : c ≤ 65536) (he : ∀ i, i < d → P.getD i [] = D.getD i []) :
    wErr P d = 0 ∧ conRes P d = conB P (setM d r D) := by
  have hpl : ∀ i, i < P.length → 1 ≤ plen P i := fun i hi => by rw [plen_of hP hi]; exact hc1
  have hS := setM_rect (r := r) hD ld h1
  have hSl := setM_length d r D
  have hsl : ∀ i, i < (setM d r D).length → 1 ≤ plen (setM d r D) i := fun i hi => by rw [plen_of hS hi]; exact hc1
  have hE : parErr P d = 0 := parErr_set (c := c) (by omega) h1 (by omega) hc2 fun i hi => Or.inr (plen_of hP hi)
  have hw0 : wholeErr P d = 0 := by
    rw [wholeErr_eq h1 (by omega) (by omega), if_neg (by rw [pidx_all hpl]; omega)]
  have hw : wErr P d = 0 := by
    unfold wErr
    rw [if_pos hE]
    exact hw0
  refine ⟨hw, ?_⟩
  have hDS : ∀ i, i < d → D.getD i [] = (setM d r D).getD i [] := by
    intro i hi
    have hEr : recErr D r = 0 := recErr_ok hD hc1 hc2 (by omega) (by omega)
    have := set_eq (n := r) hD (by omega) hEr
    rw [ld] at this
    rw [← this]
    exact (getD_left (by omega)).symm
  have e : wRows P d = setM d r D := by
    unfold wRows
    rw [if_pos hE]
    unfold wholeRows
    rw [Int.toNat_natCast, if_pos hw0, whole_first (Q := setM d r D) (by omega) hpl hsl (by omega) (fun i hi => (he i hi).trans (hDS i hi))]
    exact whole_set hD ld h1 h2 hSl (fun _ _ _ => rfl) (by rw [pidx_all hsl]; omega)
  unfold conRes
  rw [hw, e]
  rfl

/-- A set is consistent. -/
theorem con_set {D : List (List Nat)} {d r c : Nat} (hD : Rect c D) (ld : D.length = d) (h1 : 1 ≤ d) (h2 : d + r ≤ 64) (hc1 : 1 ≤ c) (hc2 : c ≤ 65536) : wErr (setM d r D) d = 0 ∧ conRes (setM d r D) d = true := by
  have hS := setM_rect (r := r) hD ld h1
  have hSl := setM_length d r D
  have hDS : ∀ i, i < d → (setM d r D).getD i [] = D.getD i [] := by
    intro i hi
    have hEr : recErr D r = 0 := recErr_ok hD hc1 hc2 (by omega) (by omega)
    have := set_eq (n := r) hD (by omega) hEr
    rw [ld] at this
    rw [← this]
    exact getD_left (by omega)
  obtain ⟨k1, k2⟩ := con_rows hS hSl hD ld h1 h2 hc1 hc2 hDS
  exact ⟨k1, k2.trans (conB_yes fun _ _ _ => rfl)⟩

/-- One part of it is another one: not consistent. -/
theorem con_changed {D : List (List Nat)} {d r c t : Nat} {p : List Nat} (hD : Rect c D) (ld : D.length = d) (h1 : 1 ≤ d) (h2 : d + r ≤ 64) (hr : 1 ≤ r) (hc1 : 1 ≤ c) (hc2 : c ≤ 65536) (ht : t < d + r) (hp : p.length = c) (hb : Byt p) (hne : p ≠ (setM d r D).getD t []) :
    wErr ((setM d r D).set t p) d = 0 ∧ conRes ((setM d r D).set t p) d = false := by
  have hS := setM_rect (r := r) hD ld h1
  have hSl := setM_length d r D
  have hP := set_rect (k := t) hS hp hb
  have lP : ((setM d r D).set t p).length = d + r := by simpa using hSl
  have hDS : ∀ i, i < d → (setM d r D).getD i [] = D.getD i [] := by
    intro i hi
    have hEr : recErr D r = 0 := recErr_ok hD hc1 hc2 (by omega) (by omega)
    have := set_eq (n := r) hD (by omega) hEr
    rw [ld] at this
    rw [← this]
    exact getD_left (by omega)
  have hg : ∀ i, ((setM d r D).set t p).getD i [] = if i = t then p else (setM d r D).getD i [] := fun i => getD_set (by omega)
  by_cases htd : t < d
  · have hD' := set_rect (k := t) hD hp hb
    have ld' : (D.set t p).length = d := by simpa using ld
    obtain ⟨k1, k2⟩ := con_rows (r := r) hP lP hD' ld' h1 h2 hc1 hc2 (fun i hi => by
      rw [hg, getD_set (by omega)]
      split
      · rfl
      · exact hDS i hi)
    refine ⟨k1, k2.trans ?_⟩
    refine conB_no (i := d) (by omega) (by rw [plen_of hP (by omega)]; exact hc1) ?_
    rw [hg, if_neg (by omega)]
    intro e
    -- the byte in which the parts differ
    have hpD : p ≠ D.getD t [] := by rw [← hDS t htd]; exact hne
    have hDt := hD.get (i := t) (by omega)
    obtain ⟨j, hj, hj2⟩ : ∃ j, j < c ∧ p.getD j 0 ≠ (D.getD t []).getD j 0 := by
      apply Classical.byContradiction
      intro hno
      apply hpD
      apply List.ext_getElem?
      intro j
      by_cases hj : j < c
      · rw [getD_some (d := 0) (by omega), getD_some (l := D.getD t []) (d := 0) (by omega)]
        congr 1
        apply Classical.byContradiction
        intro hx
        exact hno ⟨j, hj, hx⟩
      · rw [List.getElem?_eq_none (by omega), List.getElem?_eq_none (by omega)]
    have e1 := ent_set (r := r) hD ld h1 (i := d) (by omega) hj
    have e2 := ent_set (r := r) hD' ld' h1 (i := d) (by omega) hj
    have e3 : ent (setM d r D) d j = ent (setM d r (D.set t p)) d j := by unfold ent; rw [e]
    have e4 : (S d fun k => gx (ent (rowsM d r) d k) (ent (D.set t p) k j)) = S d fun k => ga (gx (ent (rowsM d r) d k) (ent D k j)) (if k = t then gx (ent (rowsM d r) d k) (ga (tg (p.getD j 0)) (ent D k j)) else g0) := by
      refine S_congr fun k hk => ?_
      rw [ent_setRow (by omega)]
      by_cases hkt : k = t
      · rw [if_pos hkt, if_pos hkt, ← gx_ga, ga_comm (tg _), ← ga_assoc, ga_self, zero_ga]
      · rw [if_neg hkt, if_neg hkt, ga_zero]
    rw [e1, e2, e4, S_ga, S_one htd] at e3
    have hz : gx (ent (rowsM d r) d t) (ga (tg (p.getD j 0)) (ent D t j)) = g0 := by
      have := congrArg (fun z => ga (S d fun k => gx (ent (rowsM d r) d k) (ent D k j)) z) e3
      simp only [ga_self, ← ga_assoc, zero_ga] at this
      exact this.symm
    have hx : ga (tg (p.getD j 0)) (ent D t j) ≠ g0 := by
      intro h0
      have := ga_eq_zero h0
      exact hj2 (tg_inj (hb.getD j) (hDt.2.getD j) this)
    have hy := gx_eq_zero hz hx
    rw [ent_rows h2 (by omega) htd, if_neg (by omega)] at hy
    exact gv_ne _ hy
  · obtain ⟨k1, k2⟩ := con_rows (r := r) hP lP hD ld h1 h2 hc1 hc2 (fun i hi => by rw [hg, if_neg (by omega)]; exact hDS i hi)
    refine ⟨k1, k2.trans ?_⟩
    refine conB_no (i := t) (by omega) (by rw [plen_of hP (by omega)]; exact hc1) ?_
    rw [hg, if_pos rfl]
    exact hne
end Go.Proofs.Ytlbomlolomcolaa

namespace Go.Proofs.Ytlbomlolomcolaa
open Go.RowKit

set_option maxRecDepth 100000 in
set_option maxHeartbeats 8000000 in
theorem rRecovery_loop (b o cap L r : Nat) (data : List (List Nat)) (A : Nat → Option Addr) (C : Nat → Nat) (w : World) (hcap : data.length ≤ cap) (hM : MxAt w b o data A C) (h1 : 1 ≤ data.length) (h2 : data.length + r ≤ 64) (hL0 : plen data 0 = L) (hLm : ∀ j, j < data.length → plen data j ≤ maxLen) (hBy : BytM data) :
    Calls Try.prog 22 #[.slice (some ⟨b, o, none⟩) data.length cap, .int .i64 r] w (RowsErr (recRows data r) (recErr data r) w) := by
  obtain ⟨j0, gi, gz0, gz1, gz2⟩ := info_parts infoBytes
  have HM := Lib.hid hM
  have HL0 := Lib.hid hL0
  have HLm := Lib.hid hLm
  have HBy := Lib.hid hBy
  have HE0 := Lib.hid (show recErr data r = if longB data then 5 else if badB data then 23 else 0 by unfold recErr; rw [if_neg (by omega)])
  have t1 : decide ((data.length : Int) < 1) = false := by simp; omega
  have t2 : decide ((64 : Int) < (data.length : Int)) = false := by simp; omega
  have t3 : decide ((r : Int) < 0) = false := by simp
  have t4 : decide ((64 : Int) - (data.length : Int) < (r : Int)) = false := by simp; omega
  clear hM hL0 hLm hBy
  go_enter Try.func22, Try.ntmps22
  go_wp2_with fail
  go_loopg [6] data.length (fun gk i wr => ∃ k : Nat, k + gk = data.length ∧ i = .int .i64 k ∧ Hid (∀ i, i < k → plen data i ≤ 65536) ∧ w = wr)
  case atStart => exact ⟨0, by omega, rfl, fun i hi => by omega, rfl⟩
  case round =>
    obtain ⟨k, hgk, rfl, hag, rfl⟩ := hrel
    have Hgk := Lib.hid hgk
    have hk : k ≤ data.length := by omega
    clear hgk
    by_cases hlt : k < data.length
    · have p1 : w.cell? ⟨b, o + k, none⟩ = some (.slice (A k) (plen data k) (C k)) := (HM.out k _ (getD_some (d := []) hlt)).1
      have hxm := HLm.out k hlt
      unfold maxLen at hxm
      by_cases x1 : 65536 < plen data k
      · have hr := Lib.hid (show recErr data r = 5 by rw [HE0.out, if_pos]; unfold longB; rw [List.any_eq_true]; exact ⟨k, List.mem_range.2 hlt, decide_eq_true x1⟩)
        have hr2 := Lib.hid (show recRows data r = [] by unfold recRows; rw [hr.out]; rfl)
        generalize plen data k = x at *
        clear hag
        go_wp2_with fail
        go_ret2
        exact ⟨.slice none 0 0, [], by rw [hr.out]; rfl, by rw [hr2.out]; exact GM.nil _ _, Below.refl _ _⟩
      · have hs : Hid (∀ i, i < k + 1 → plen data i ≤ 65536) := by
          intro i hi
          by_cases hik : i = k
          · rw [hik]; omega
          · exact hag.out i (by omega)
        generalize plen data k = x at p1 x1 hxm
        have x2 : x ≤ 65536 := by omega
        clear hag x1
        go_wp2_with fail
        go_roundg (data.length - k - 1)
        case measure => have := Hgk.out; omega
        case rel => exact ⟨k + 1, by have := Hgk.out; omega, by go_num, hs.out, rfl⟩
    · have hlong : longB data = false := by
        unfold longB
        rw [List.any_eq_false]
        intro i hi
        have := hag.out i (by have := List.mem_range.1 hi; omega)
        simp; omega
      have hE1 := HE0.out
      rw [hlong, if_neg (by simp)] at hE1
      have HE1 := Lib.hid hE1
      have Hlong := Lib.hid hlong
      have Hag := Lib.hid hag.out
      have p0 : w.cell? ⟨b, o, none⟩ = some (.slice (A 0) L (C 0)) := by rw [← HL0.out]; exact (HM.out 0 _ (getD_some (d := []) (by omega))).1
      have hL2 : L ≤ 65536 := by rw [← HL0.out]; exact Hag.out 0 (by omega)
      clear hlong hE1 hag HE0
      go_wp2_with fail
      go_loopg [7] data.length (fun gk i wr => ∃ k : Nat, k + gk = data.length ∧ i = .int .i64 k ∧ Hid (∀ i, i < k → ¬ (plen data i = 0 ∨ plen data i ≠ plen data 0)) ∧ Hid (Below w.heap.size w wr))
      case atStart => exact ⟨0, by omega, rfl, fun i hi => by omega, Below.refl _ _⟩
      case round =>
        obtain ⟨q, hgq, rfl, hag, hwr⟩ := hrel
        have Hgq := Lib.hid hgq
        have hq : q ≤ data.length := by omega
        clear hgq
        by_cases hltq : q < data.length
        · have p1 : wr.cell? ⟨b, o + q, none⟩ = some (.slice (A q) (plen data q) (C q)) := ((HM.out.new hwr.out) q _ (getD_some (d := []) hltq)).1
          have p0' : wr.cell? ⟨b, o, none⟩ = some (.slice (A 0) L (C 0)) := by rw [← HL0.out]; exact ((HM.out.new hwr.out) 0 _ (getD_some (d := []) (by omega))).1
          have hxm := Hag.out q (by omega)
          have i1 : (0 : Int) ≤ (q : Int) := by omega
          have i2 : (q : Int) < (data.length : Int) := by omega
          have i3 : (0 : Int) < (data.length : Int) := by omega
          have Hwr := Lib.hid hwr.out
          by_cases x1 : plen data q = 0 ∨ plen data q ≠ plen data 0
          · have hr := Lib.hid (show recErr data r = 23 by rw [HE1.out, if_pos]; unfold badB; rw [List.any_eq_true]; exact ⟨q, List.mem_range.2 hltq, decide_eq_true x1⟩)
            have hr2 := Lib.hid (show recRows data r = [] by unfold recRows; rw [hr.out]; rfl)
            rw [HL0.out] at x1
            generalize plen data q = x at p1 x1 hxm
            clear hag hwr
            by_cases x0 : x = 0
            · have x3 : ((x : Int) == 0) = true := by rw [beq_iff_eq]; omega
              clear x1 x0
              go_wp2_with fail
              go_quiet (fail)
              go_wp2_with fail
              go_ret2
              exact ⟨.slice none 0 0, [], by rw [hr.out]; rfl, by rw [hr2.out]; exact GM.nil _ _, below_drewN Hwr.out _⟩
            · have x3 : ((x : Int) == 0) = false := by rw [beq_eq_false_iff_ne]; omega
              have x4 : ((x : Int) != (L : Int)) = true := by rw [bne_iff_ne]; omega
              clear x1 x0
              go_wp2_with fail
              go_quiet (fail)
              go_wp2_with fail
              go_ret2
              exact ⟨.slice none 0 0, [], by rw [hr.out]; rfl, by rw [hr2.out]; exact GM.nil _ _, below_drewN Hwr.out _⟩
          · have hs : Hid (∀ i, i < q + 1 → ¬ (plen data i = 0 ∨ plen data i ≠ plen data 0)) := by
              intro i hi
              by_cases hik : i = q
              · rw [hik]; exact x1
              · exact hag.out i (by omega)
            rw [HL0.out] at x1
            generalize plen data q = x at p1 x1 hxm
            have x3 : ((x : Int) == 0) = false := by rw [beq_eq_false_iff_ne]; omega
            have x4 : ((x : Int) != (L : Int)) = false := by rw [bne_eq_false_iff_eq]; omega
            clear x1 hag hwr
            go_wp2_with fail
            go_quiet (fail)
            go_wp2_with fail
            go_roundg (data.length - q - 1)
            case measure => have := Hgq.out; omega
            case rel => exact ⟨q + 1, by have := Hgq.out; omega, by go_num, hs.out, below_drewN Hwr.out _⟩
        · have hbad : badB data = false := by
            unfold badB
            rw [List.any_eq_false]
            intro i hi
            have := hag.out i (by have := List.mem_range.1 hi; omega)
            simpa using this
          obtain ⟨hR, hL1, _⟩ := badB_rect HBy.out hbad Hlong.out h1
          rw [HL0.out] at hR hL1
          have hr := Lib.hid (show recErr data r = 0 by rw [HE1.out, if_neg (by rw [hbad]; simp)])
          have hr2 := Lib.hid (show recRows data r = prodM (cauM r data.length) data by unfold recRows; rw [hr.out]; rfl)
          have HR := Lib.hid hR
          have Hwr := Lib.hid hwr.out
          obtain ⟨w2, rfl⟩ : ∃ w2 : World, w2 = wr := ⟨_, rfl⟩
          have hz2 := hwr.out.size
          clear hbad hR hag hwr p0
          go_wp2_with fail
          refine (rRows_any data.length r _ h1 h2).mono ?_
          rintro e w3 ⟨vr, hd, rfl, hG, hB3⟩
          obtain ⟨bo, co, hvr, hco, _, hO⟩ := hG.done (by intro h; have := rowsM_length data.length r; rw [h] at this; simp at this; omega)
          rw [rowsM_length] at hvr hco
          subst hvr
          have HO := Lib.hid hO
          have HB3 := Lib.hid hB3
          have HB03 := Lib.hid (Hwr.out.trans (hB3.mono hz2))
          have HMr := Lib.hid (HM.out.new HB03.out)
          have hz3 := hB3.size
          clear hG hO hB3
          go_wp2_with fail
          go_loopg [9, 10] r (fun gk v i wr => ∃ k : Nat, k + gk = r ∧ i = .int .i64 k ∧ Hid (∃ hd', GM wr w3.heap.size v hd' ((prodM (cauM r data.length) data).take k)) ∧ Hid (Below w3.heap.size w3 wr))
          case atStart => exact ⟨0, by omega, rfl, ⟨[], GM.nil _ _⟩, Below.refl _ _⟩
          case round =>
            obtain ⟨k', hgk, rfl, hG, hB⟩ := hrel
            have Hgk' := Lib.hid hgk
            have hk' : k' ≤ r := by omega
            clear hgk
            by_cases hltk : k' < r
            · obtain ⟨hd', hG⟩ := hG.out
              have hrg := rows_get (d := data.length) hltk
              obtain ⟨p, hp⟩ : ∃ p, hd[data.length + k']? = some p := ⟨hd.getD (data.length + k') (0, 0), getD_some (by rw [HO.out.len, rowsM_length]; omega)⟩
              have hpc := (HO.out.outer.below hB.out HO.out.outer.lt).cell (hvs_get hp hrg)
              obtain ⟨hpb, _, hpl⟩ := HO.out.rows _ p _ hp hrg
              rw [cauRow_length] at hpl hpc
              unfold hv at hpc
              have Hrow := Lib.hid (hpb.below hB.out hpb.lt).row
              have HMx := Lib.hid (HMr.out.new hB.out)
              have htk := Lib.hid (prodM_take (b := data) (show (cauM r data.length)[k']? = some (cauRow r data.length k') by simp [cauM, hltk]))
              have HG := Lib.hid hG
              have HBr := Lib.hid hB.out
              have hzz : w3.heap.size ≤ wr.heap.size := hB.out.size
              clear hG hB hrg hp hpb
              go_wp2_with fail
              refine (combined_any p.1 0 p.2 b o cap L data.length data.length (cauRow r data.length k') data A C wr (cauRow_length _ _ _) rfl Hrow.out HMx.out hcap HR.out rfl h1 (by omega) (by omega) hL1 (cauRow_byt _ _ _)).mono ?_
              rintro e w5 ⟨g, cg, rfl, g1, g2, g3, hblk, hB5⟩
              have Hlk := Lib.hid (show ((prodM (cauM r data.length) data).take k').length = k' by rw [List.length_take, prodM_length, cauM_length]; omega)
              have hL0' : (data.getD 0 []).length = L := HL0.out
              rw [hL0'] at htk
              generalize prTo (cauRow r data.length k') data L data.length = pr at *
              have Hblk := Lib.hid hblk
              have HB5 := Lib.hid hB5
              have HGo := Lib.hid ((HG.out.new hB5).outer)
              have Hg2 := Lib.hid g2
              have hz5 := hB5.size
              clear hblk hB5 g2 g3 hL0'
              go_wp2_with (at_builtin; refine wpList_append_own _ rfl _ _ 39 rfl w3.heap.size 26 j0 (.slice none 0 0) 1 24 Try.underlying39 gi gz0 gz1 gz2 rfl (by decide) _ _ _ rfl (HGo.out.alloc _) ⟨w5.heap.size, 0, none⟩ 1 1 [hv pr.length (g, cg)] rfl rfl ?d1 ?d2 ?d3 ?d4 ?d5 ?_)
              case d1 => exact cell_one_new _ _ _
              case d2 => intro u hu; simp only [List.mem_cons, List.not_mem_nil, or_false] at hu; subst hu; rfl
              case d3 => rw [Hlk.out]; unfold maxLen; omega
              case d4 => rw [Hlk.out]; omega
              case d5 => simp; omega
              intro v' w7 hown hgr _
              have hG7 := HG.out.snoc HB5.out (p := (g, cg)) (r := pr) Hblk.out g1 HBr.out.size Hg2.out (by rw [Hlk.out]; simpa [prodM_length, cauM_length, Nat.min_eq_left hk'] using hown) (by simpa using hgr)
              rw [← htk.out] at hG7
              have hB7 : Below w3.heap.size w3 w7 := ((HBr.out.trans (HB5.out.mono HBr.out.size)).alloc (by omega) _).grown hgr (by simp; omega) (fun q hq => (owns_block HG.out.outer hq).2.1)
              have HG7 := Lib.hid hG7
              have HB7 := Lib.hid hB7
              clear hown hgr hG7 hB7
              go_wp2_with fail
              go_roundg (r - k' - 1)
              case measure => have := Hgk'.out; omega
              case rel => exact ⟨k' + 1, by have := Hgk'.out; omega, by go_num, ⟨_, HG7.out⟩, HB7.out⟩
            · have hkn : (prodM (cauM r data.length) data).take k' = prodM (cauM r data.length) data := List.take_of_length_le (by rw [prodM_length, cauM_length]; omega)
              obtain ⟨hd', hG⟩ := hG.out
              rw [hkn] at hG
              have HG := Lib.hid hG
              have HBr := Lib.hid hB.out
              clear hG hkn hB
              go_wp2_with fail
              go_ret2
              have hss : w.heap.size ≤ w3.heap.size := HB03.out.size
              exact ⟨_, hd', by rw [hr.out]; rfl, by rw [hr2.out]; exact HG.out.base hss, HB03.out.trans (HBr.out.mono hss)⟩

set_option maxRecDepth 100000 in
set_option maxHeartbeats 4000000 in
theorem rRecovery_any (v : Value) (data : List (List Nat)) (count : Int) (w : World) (hn : data.length ≤ 1000000000) (hLm : ∀ j, j < data.length → plen data j ≤ maxLen) (hBy : BytM data) (hm : Mx w v data) (hd1 : -9223372036854775808 ≤ count) (hd2 : count ≤ 9223372036854775807) :
    Calls Try.prog 22 #[v, .int .i64 count] w (RowsErr (recRows data count) (recErr data count) w) := by
  obtain ⟨a, cap, rfl, hcap, h⟩ := hm
  by_cases hc : data.length < 1 ∨ 64 < data.length ∨ count < 0 ∨ 64 - (data.length : Int) < count
  · have e1 : recErr data count = 6 := by unfold recErr; rw [if_pos hc]
    have e2 : recRows data count = [] := by unfold recRows; rw [e1]; rfl
    rw [e1, e2]
    clear e1 e2 h hLm
    by_cases h1 : data.length < 1
    · have t1 : decide ((data.length : Int) < 1) = true := by simp; omega
      clear hc
      go_enter Try.func22, Try.ntmps22
      go_wp2_with fail
      go_ret2
      exact ⟨.slice none 0 0, [], rfl, GM.nil _ _, Below.refl _ _⟩
    have t1 : decide ((data.length : Int) < 1) = false := by simp; omega
    by_cases h2 : 64 < data.length
    · have t2 : decide ((64 : Int) < (data.length : Int)) = true := by simp; omega
      clear hc
      go_enter Try.func22, Try.ntmps22
      go_wp2_with fail
      go_ret2
      exact ⟨.slice none 0 0, [], rfl, GM.nil _ _, Below.refl _ _⟩
    have t2 : decide ((64 : Int) < (data.length : Int)) = false := by simp; omega
    by_cases h3 : count < 0
    · have t3 : decide (count < 0) = true := by simp; omega
      clear hc
      go_enter Try.func22, Try.ntmps22
      go_wp2_with fail
      go_ret2
      exact ⟨.slice none 0 0, [], rfl, GM.nil _ _, Below.refl _ _⟩
    have t3 : decide (count < 0) = false := by simp; omega
    have t4 : decide ((64 : Int) - (data.length : Int) < count) = true := by simp; omega
    have t5 : (64 : Int) - (data.length : Int) < count := by omega
    clear hc
    go_enter Try.func22, Try.ntmps22
    go_wp2_with fail
    go_ret2
    exact ⟨.slice none 0 0, [], rfl, GM.nil _ _, Below.refl _ _⟩
  rcases h with h | ⟨b, o, A, C, rfl, hM⟩
  · rw [h] at hc; simp at hc
  obtain ⟨r, rfl⟩ : ∃ r : Nat, count = r := ⟨count.toNat, by omega⟩
  exact rRecovery_loop b o cap _ r data A C w hcap hM (by omega) (by omega) rfl hLm hBy
end Go.Proofs.Ytlbomlolomcolaa

namespace Go.Proofs.Ytlbomlolomcolaa
open Go.RowKit

theorem recRows_byt {data : List (List Nat)} {count : Int} (hB : BytM data) : BytM (recRows data count) := by
  unfold recRows
  split
  · rename_i h
    have hne : 1 ≤ data.length ∧ longB data = false ∧ badB data = false := by
      unfold recErr at h
      split at h
      · simp at h
      split at h
      · simp at h
      split at h
      · simp at h
      rename_i h1 h2 h3
      exact ⟨by omega, by simpa using h2, by simpa using h3⟩
    have hR := (badB_rect hB hne.2.2 hne.2.1 hne.1).1
    exact prodM_byt hR
  · intro r hr; simp at hr
theorem recRows_length {data : List (List Nat)} {count : Int} : (recRows data count).length ≤ 64 := by
  unfold recRows
  split
  · rename_i h
    rw [prodM_length, cauM_length]
    unfold recErr at h
    split at h
    · simp at h
    omega
  · simp
theorem recErr_le (data : List (List Nat)) (count : Int) : recErr data count ≤ 23 := by
  unfold recErr
  split
  · decide
  split
  · decide
  split <;> decide
theorem parErr_le (data : List (List Nat)) (count : Int) : parErr data count ≤ 23 := by
  unfold parErr
  split
  · decide
  split
  · decide
  split
  · decide
  split <;> decide

set_option maxRecDepth 100000 in
set_option maxHeartbeats 4000000 in
theorem ParityRecovers_walk (v : Value) (m : List (List Nat)) (count : Int) (w : World) (hm : Mx w v m) (hB : BytM m) (hl : m.length ≤ maxLen) (hL : ∀ j, j < m.length → plen m j ≤ maxLen) (hd1 : -9223372036854775808 ≤ count) (hd2 : count ≤ 9223372036854775807) :
    Calls Try.prog 4 #[v, .int .i64 count] w fun e w' => e = .returned (.bool true) ∧ Below w.heap.size w w' := by
  have HM := Lib.hid hm
  have HB := Lib.hid hB
  have HL := Lib.hid hl
  have HLr := Lib.hid hL
  obtain ⟨re, hre⟩ : ∃ re, recErr m count = re := ⟨_, rfl⟩
  obtain ⟨pe, hpe⟩ : ∃ pe, parErr m count = pe := ⟨_, rfl⟩
  have t1 : ((re : Int) == (re : Int)) = true := by simp
  have t2 : ((pe : Int) == (pe : Int)) = true := by simp
  have t3 : re ≤ 23 := by rw [← hre]; exact recErr_le _ _
  have t4 : pe ≤ 23 := by rw [← hpe]; exact parErr_le _ _
  have Hre := Lib.hid hre
  have Hpe := Lib.hid hpe
  clear hm hB hl hL hre hpe
  by_cases hF : few54 m
  · have HF := Lib.hid hF
    have hlen : m.length ≤ 100 := hF.2
    clear hF
    go_enter Try.func4, Try.ntmps4
    go_wp2_with fail
    refine (rFew54_any v m _ HL.out HM.out).mono ?_
    rintro e w1 ⟨rfl, rfl⟩
    rw [few54B_true HF.out]
    go_wp2_with fail
    refine (pRecovery_any v m count _ (by omega) HB.out HM.out hd1 hd2).mono ?_
    rintro e w1 ⟨v1, hd1', rfl, hG1, hB1⟩
    rw [Hre.out]
    have B1 := Lib.hid hB1
    have M1 := Lib.hid (HM.out.new hB1)
    have G1 := Lib.hid hG1.mx
    clear hB1 hG1
    go_wp2_with fail
    refine (rRecovery_any v m count _ (by omega) HLr.out HB.out M1.out hd1 hd2).mono ?_
    rintro e w2 ⟨v2, hd2', rfl, hG2, hB2⟩
    rw [Hre.out]
    have B2 := Lib.hid (B1.out.trans (hB2.mono B1.out.size))
    have M2 := Lib.hid (M1.out.new hB2)
    have G12 := Lib.hid (G1.out.new hB2)
    have G2 := Lib.hid hG2.mx
    clear hB2 hG2 B1 M1 G1
    go_wp2_with fail
    refine (awake54_any _).mono ?_
    rintro e w3 ⟨rfl, hB3⟩
    have B3 := Lib.hid (B2.out.trans (hB3.mono B2.out.size))
    have M3 := Lib.hid (M2.out.new hB3)
    have G13 := Lib.hid (G12.out.new hB3)
    have G23 := Lib.hid (G2.out.new hB3)
    clear hB3 B2 M2 G12 G2
    go_wp2_with fail
    refine (rSame_any v1 v2 (recRows m count) (recRows m count) _ (by have := recRows_length (data := m) (count := count); omega) (recRows_byt HB.out) (recRows_byt HB.out) G13.out G23.out).mono ?_
    rintro e w5 ⟨rfl, q, hq⟩
    rw [sameB_self]
    have hB5 : Below w3.heap.size w3 w5 := by rw [hq]; exact below_drewN (Below.refl _ _) q
    have B5 := Lib.hid (B3.out.trans (hB5.mono B3.out.size))
    have M5 := Lib.hid (M3.out.new hB5)
    clear hB5 hq B3 M3 G13 G23
    go_wp2_with fail
    refine (pCheck_any v m count _ (by omega) M5.out hd1 hd2).mono ?_
    rintro e w6 ⟨rfl, hB6⟩
    rw [Hpe.out]
    have B6 := Lib.hid (B5.out.trans (hB6.mono B5.out.size))
    have M6 := Lib.hid (M5.out.new hB6)
    clear hB6 B5 M5
    go_wp2_with fail
    refine (rCheck54_any v m count _ (by omega) HLr.out M6.out hd1 hd2).mono ?_
    rintro e w7 ⟨rfl, rfl⟩
    rw [Hpe.out]
    go_wp2_with fail
    go_ret
    exact ⟨rfl, B6.out⟩
  · have HF := Lib.hid hF
    clear hF
    go_enter Try.func4, Try.ntmps4
    go_wp2_with fail
    refine (rFew54_any v m _ HL.out HM.out).mono ?_
    rintro e w1 ⟨rfl, rfl⟩
    rw [few54B_false HF.out]
    go_wp2_with fail
    refine (awake54_any _).mono ?_
    rintro e w6 ⟨rfl, hB6⟩
    go_wp2_with fail
    go_ret
    exact ⟨rfl, hB6⟩
end Go.Proofs.Ytlbomlolomcolaa

namespace Go.Proofs.Ytlbomlolomcolaa
open Go.RowKit

theorem owns_mono {w : World} {B B' T n : Nat} {v : Value} {xs : List Value} (h : w.ownsRow B' T 1 v n xs) (hB : B ≤ B') : w.ownsRow B T 1 v n xs := by
  refine ⟨h.1, ?_⟩
  rcases h.2 with hn | ⟨g, cap, cur, hv, hb, rest⟩
  · exact .inl hn
  · exact .inr ⟨g, cap, cur, hv, by omega, rest⟩
theorem VM.mono {w : World} {B B' : Nat} {v : Value} {vs : List Value} {m : List (List Nat)} (h : VM w B' v vs m) (hB : B ≤ B') : VM w B v vs m := ⟨owns_mono h.outer hB, h.hds⟩

def SetRet (m : List (List Nat)) (w : World) (e : Ending) (w' : World) : Prop := ∃ vo vs, e = .returned (.tuple #[vo, .bool true]) ∧ VM w' w.heap.size vo vs m ∧ Below w.heap.size w w'

/-- The same, and the slice of headers is newer than the rows. -/
def SetFresh (m : List (List Nat)) (w : World) (e : Ending) (w' : World) : Prop := ∃ w1 vo vs, e = .returned (.tuple #[vo, .bool true]) ∧ HdsOk w1 vs m ∧ w'.ownsRow w1.heap.size 26 1 vo m.length vs ∧ Below w1.heap.size w1 w' ∧ Below w.heap.size w w1

theorem recErr_in {data : List (List Nat)} {n : Nat} (h : recErr data n = 0) : 1 ≤ data.length ∧ data.length + n ≤ 64 ∧ longB data = false ∧ badB data = false ∧ (recRows data n).length = n := by
  have hr : recRows data n = prodM (cauM n data.length) data := by unfold recRows; rw [if_pos h]; rfl
  unfold recErr at h
  split at h
  · simp at h
  split at h
  · simp at h
  split at h
  · simp at h
  rename_i h1 h2 h3
  exact ⟨by omega, by omega, by simpa using h2, by simpa using h3, by rw [hr, prodM_length, cauM_length]⟩

set_option maxRecDepth 100000 in
set_option maxHeartbeats 2000000 in
theorem set_fresh (v : Value) (data : List (List Nat)) (n : Nat) (w : World) (hE : recErr data n = 0) (hBy : BytM data) (hm : Mx w v data) :
    Calls Try.prog 29 #[v, .int .i64 n] w (SetFresh (data ++ recRows data n) w) := by
  obtain ⟨j0, gi, gz0, gz1, gz2⟩ := info_parts infoBytes
  obtain ⟨q1, q2, _, _, q5⟩ := recErr_in hE
  have Hm := Lib.hid hm
  have HE := Lib.hid hE
  have HBy := Lib.hid hBy
  have Hrl := Lib.hid q5
  have t1 : ((n : Int) == (n : Int)) = true := by simp
  obtain ⟨a, cap, rfl, hcap, h⟩ := hm
  obtain ⟨b, o, A, C, rfl, hM⟩ : ∃ b o A C, a = some ⟨b, o, none⟩ ∧ MxAt w b o data A C := by
    rcases h with h | h
    · rw [h] at q1; simp at q1
    · exact h
  have HM := Lib.hid hM
  clear h hM hE hBy q5
  go_enter Try.func29, Try.ntmps29
  go_wp2_with fail
  refine (pRecovery_any _ data n _ (by omega) HBy.out Hm.out (by omega) (by omega)).mono ?_
  rintro e w1 ⟨v1, hd1, rfl, hG, hB⟩
  rw [HE.out]
  have HM1 := Lib.hid (HM.out.new hB)
  have HG := Lib.hid hG.hds
  have HB := Lib.hid hB
  have hz1 := hB.size
  have hml := mvs_length data A C
  have hvl := hvs_length hG.len
  rw [Hrl.out] at hvl
  have Hml := Lib.hid hml
  have Hvl := Lib.hid hvl
  have hO := hG.outer
  rw [Hrl.out] at hO
  have Ho := Lib.hid hO
  clear hG hB hml hvl
  rcases hO.2 with ⟨rfl, hn0⟩ | ⟨g, cg, cur, rfl, k1, _, k3, k4, _⟩
  · subst hn0
    clear hO
    go_wp2_with (at_builtin; refine wpList_append_own _ rfl _ _ 39 rfl w1.heap.size 26 j0 (.slice none 0 0) 1 24 Try.underlying39 gi gz0 gz1 gz2 rfl (by decide) _ 0 [] rfl (owns_empty w1 _) ⟨b, o, none⟩ data.length cap (mvs data A C) rfl ?d0 ?d1 ?d2 ?d3 ?d4 ?d5 ?_)
    case d0 => rw [Hml.out]; simp
    case d1 => exact (HM1.out.new (al _ _)).src
    case d2 => exact HM1.out.hds.oneCell
    case d3 => unfold maxLen; omega
    case d4 => omega
    case d5 => simp
    intro v2 w2 hown hgr _
    have hown' : w2.ownsRow w1.heap.size 26 1 v2 data.length (mvs data A C) := by simpa only [Nat.zero_add, List.nil_append] using hown
    have HB2 := Lib.hid (show Below w1.heap.size w1 w2 from (al w1 _).grown hgr (by simp) (fun q hq => by simp [Value.ownBlock] at hq; omega))
    have Ho2 := Lib.hid hown'
    clear hown hown' hgr
    go_wp2_with (at_builtin; refine wpList_append_own_none rfl _ _ 39 rfl w1.heap.size 26 j0 1 Try.underlying39 gi _ _ _ rfl Ho2.out rfl ?_)
    go_wp2_with fail
    go_ret2
    have hz : recRows data (0 : Nat) = [] := List.length_eq_zero_iff.1 Hrl.out
    rw [hz, List.append_nil]
    exact ⟨w1, _, _, rfl, HM1.out.hds, Ho2.out, HB2.out, HB.out⟩
  · have Hb1 := Lib.hid (Blk.of_owns hO)
    clear hO
    go_wp2_with (at_builtin; refine wpList_append_own _ rfl _ _ 39 rfl w1.heap.size 26 j0 (.slice none 0 0) 1 24 Try.underlying39 gi gz0 gz1 gz2 rfl (by decide) _ 0 [] rfl (owns_empty w1 _) ⟨b, o, none⟩ data.length cap (mvs data A C) rfl ?d0 ?d1 ?d2 ?d3 ?d4 ?d5 ?_)
    case d0 => rw [Hml.out]; simp
    case d1 => exact (HM1.out.new (al _ _)).src
    case d2 => exact HM1.out.hds.oneCell
    case d3 => unfold maxLen; omega
    case d4 => omega
    case d5 => simp
    intro v2 w2 hown hgr _
    have hown' : w2.ownsRow w1.heap.size 26 1 v2 data.length (mvs data A C) := by simpa only [Nat.zero_add, List.nil_append] using hown
    have HB2 := Lib.hid (show Below w1.heap.size w1 w2 from (al w1 _).grown hgr (by simp) (fun q hq => by simp [Value.ownBlock] at hq; omega))
    have Ho2 := Lib.hid hown'
    have Hb2 := Lib.hid (Hb1.out.below HB2.out Hb1.out.lt)
    have hz2 := HB2.out.size
    clear hown hown' hgr
    go_wp2_with (at_builtin; refine wpList_append_own _ rfl _ _ 39 rfl w1.heap.size 26 j0 (.slice none 0 0) 1 24 Try.underlying39 gi gz0 gz1 gz2 rfl (by decide) _ _ _ rfl Ho2.out ⟨g, 0, none⟩ n cg (hvs hd1 (recRows data n)) rfl ?e0 ?e1 ?e2 ?e3 ?e4 ?e5 ?_)
    case e0 => rw [Hvl.out]; simp
    case e1 => exact Hb2.out.src
    case e2 => exact hvs_one
    case e3 => unfold maxLen; omega
    case e4 => omega
    case e5 => omega
    intro v3 w3 hown hgr _
    have HB3 := Lib.hid (show Below w1.heap.size w1 w3 from HB2.out.grown hgr (by omega) (fun q hq => (owns_block Ho2.out hq).2.1))
    have Ho3 := Lib.hid hown
    clear hown hgr
    go_wp2_with fail
    go_ret2
    exact ⟨w1, _, _, rfl, HM1.out.hds.append HG.out, by rw [List.length_append, Hrl.out]; exact Ho3.out, HB3.out, HB.out⟩

theorem set_any (v : Value) (data : List (List Nat)) (n : Nat) (w : World) (hE : recErr data n = 0) (hBy : BytM data) (hm : Mx w v data) :
    Calls Try.prog 29 #[v, .int .i64 n] w (SetRet (data ++ recRows data n) w) := by
  refine (set_fresh v data n w hE hBy hm).mono ?_
  rintro e w' ⟨w1, vo, vs, rfl, h1, h2, h3, h4⟩
  exact ⟨vo, vs, rfl, ⟨owns_mono h2 h4.size, h1.new h3⟩, h4.trans (h3.mono h4.size)⟩
end Go.Proofs.Ytlbomlolomcolaa

namespace Go.Proofs.Ytlbomlolomcolaa
open Go.RowKit

theorem xor_ne {a m : Nat} (h : m ≠ 0) : a ^^^ m ≠ a := by
  intro e
  apply h
  have h2 : a ^^^ (a ^^^ m) = a ^^^ a := by rw [e]
  rw [← Nat.xor_assoc, Nat.xor_self, Nat.zero_xor] at h2
  exact h2
theorem set_ne {p : List Nat} {j y : Nat} (hj : j < p.length) (h : y ≠ p.getD j 0) : p.set j y ≠ p := by
  intro e
  have h1 : (p.set j y).getD j 0 = y := by rw [List.getD_eq_getElem?_getD, List.getElem?_set_self hj]; rfl
  rw [e] at h1
  exact h h1.symm
theorem set_byt {p : List Nat} {j y : Nat} (hp : Byt p) (hy : y < 256) : Byt (p.set j y) := by
  intro x hx
  rcases List.mem_or_eq_of_mem_set hx with h | h
  · exact hp x h
  · rw [h]; exact hy

/-- The memory behind the two stores. -/
theorem det_mx {w1' w3 w4 : World} {ba g T i j N ca c cg : Nat} {vsa : List Value} {S : List (List Nat)} {pr : List Nat} {y : Nat} (hH : HdsOk w1' vsa S) (hSl : S.length = N) (hb : Blk w3 ba T vsa) (hba : w1'.heap.size ≤ ba) (hB23 : Below w1'.heap.size w1' w3) (hB4 : Below w3.heap.size w3 w4) (hk : Blk w4 g 5 (pr.map bv)) (hg : w3.heap.size ≤ g) (hpr : pr.length = c) (hj : j < c) (hcg : c ≤ cg) (hi : i < N) (hca : N ≤ ca) :
    Mx ((w4.setCell ⟨g, j, none⟩ (bv y)).setCell ⟨ba, i, none⟩ (.slice (some ⟨g, 0, none⟩) c cg)).drew (.slice (some ⟨ba, 0, none⟩) N ca) (S.set i (pr.set j y)) := by
  have hne : ba ≠ g := by have := hb.lt; omega
  have B : Below w1'.heap.size w1' ((w4.setCell ⟨g, j, none⟩ (bv y)).setCell ⟨ba, i, none⟩ (.slice (some ⟨g, 0, none⟩) c cg)).drew :=
    (((hB23.trans (hB4.mono hB23.size)).setCell (p := ⟨g, j, none⟩) (by have := hB23.size; show _ ≤ g; omega) _).setCell (p := ⟨ba, i, none⟩) hba _).drew
  have kg : Blk ((w4.setCell ⟨g, j, none⟩ (bv y)).setCell ⟨ba, i, none⟩ (.slice (some ⟨g, 0, none⟩) c cg)).drew g 5 ((pr.set j y).map bv) := by
    have h1 := hk.setCell (i := j) (by rw [List.length_map, hpr]; exact hj) (bv y)
    rw [← List.map_set] at h1
    exact (h1.setCell_other (p := ⟨ba, i, none⟩) (fun h => hne h.symm) _).drew
  have kb : Blk ((w4.setCell ⟨g, j, none⟩ (bv y)).setCell ⟨ba, i, none⟩ (.slice (some ⟨g, 0, none⟩) c cg)).drew ba T (vsa.set i (.slice (some ⟨g, 0, none⟩) c cg)) :=
    (((hb.below hB4 hb.lt).setCell_other (p := ⟨g, j, none⟩) hne _).setCell (by rw [hH.1, hSl]; exact hi) _).drew
  have hd : HdOk ((w4.setCell ⟨g, j, none⟩ (bv y)).setCell ⟨ba, i, none⟩ (.slice (some ⟨g, 0, none⟩) c cg)).drew (.slice (some ⟨g, 0, none⟩) c cg) (pr.set j y) :=
    ⟨some ⟨g, 0, none⟩, cg, by rw [List.length_set, hpr], by rw [List.length_set, hpr]; exact hcg, Or.inr ⟨g, 0, rfl, kg.row⟩, fun h => by cases h⟩
  have h := ((hH.new B).set (i := i) hd).mx (cap := ca) kb (by rw [List.length_set]; omega)
  rw [List.length_set, hSl] at h
  exact h

set_option maxRecDepth 100000 in
set_option maxHeartbeats 8000000 in
theorem ParityDetects_walk (v : Value) (l : List Nat) (rc x y z : Nat) (w : World) (hm : Bs w v l) (hB : Byt l) (hl : l.length ≤ maxLen) (hr : rc < 256) (hx : x < 256) (hy : y < 256) (hz : z < 256) :
    Calls Try.prog 10 #[v, .int .u8 rc, .agg #[.int .u8 x, .int .u8 y, .int .u8 z]] w fun e w' => e = .returned (.bool true) ∧ Below w.heap.size w w' := by
  obtain ⟨i0, hi, hz0, hz1, hz2⟩ := info_parts infoByte
  have Hm := Lib.hid hm
  have HB := Lib.hid hB
  obtain ⟨a, cap, rfl, hcap, _⟩ := hm
  have hlm := hl
  unfold maxLen at hlm
  have hBb := al w (.cells #[.int .u8 x, .int .u8 y, .int .u8 z] 66)
  have HBb := Lib.hid hBb
  have Qb := Lib.hid (Blk.new w 66 #[.int .u8 x, .int .u8 y, .int .u8 z])
  have sb : (w.alloc (.cells #[.int .u8 x, .int .u8 y, .int .u8 z] 66)).heap.size = w.heap.size + 1 := by simp
  clear hB hl hBb
  by_cases h60 : 60 < l.length
  · have t1 : decide ((60 : Int) < (l.length : Int)) = true := by simp; omega
    go_enter Try.func10, Try.ntmps10
    go_wp2_with fail
    refine (awake54_any _).mono ?_
    rintro e w6 ⟨rfl, hB6⟩
    go_wp2_with fail
    go_ret
    exact ⟨rfl, HBb.out.trans (hB6.mono HBb.out.size)⟩
  · have t1 : decide ((60 : Int) < (l.length : Int)) = false := by simp; omega
    obtain ⟨c, hc⟩ : ∃ c, c = 1 + l.length % 5 := ⟨_, rfl⟩
    have hc1 : 1 ≤ c := by omega
    have hc2 : c ≤ 5 := by omega
    obtain ⟨r5, hr5⟩ : ∃ r5 : Nat, (l.length : Int) % 5 = (r5 : Int) := ⟨l.length % 5, by omega⟩
    have e2 : r5 ≤ 4 := by omega
    have e3 : c = 1 + r5 := by omega
    go_enter Try.func10, Try.ntmps10
    go_wp2_with fail
    rw [show (1 : Int) + (r5 : Int) = (c : Int) by omega]
    have Hm0 := Lib.hid (Hm.out.new HBb.out)
    generalize w.alloc (.cells #[.int .u8 x, .int .u8 y, .int .u8 z] 66) = w0 at *
    refine (parts_any _ l c _ Hm0.out (by omega) hc1 (by omega)).mono ?_
    rintro e w1 ⟨vd, vsd, rfl, hV, hB1⟩
    obtain ⟨D, hD⟩ : ∃ D, ptM l c (ptN l c) = D := ⟨_, rfl⟩
    obtain ⟨d, hd⟩ : ∃ d, ptN l c = d := ⟨_, rfl⟩
    have HR := Lib.hid (show Rect c D by rw [← hD]; exact ptM_rect HB.out (ptN_mul l c))
    have hDl : D.length = d := by rw [← hD, ptM_length, hd]
    have hd8 : d ≤ 8 := by rw [← hd]; exact ptN_le l c
    rw [hD] at hV
    obtain ⟨ad, cd, rfl⟩ := owns_slice hV.outer
    have HMd := Lib.hid hV.mx
    have HB1 := Lib.hid (HBb.out.trans (hB1.mono HBb.out.size))
    have Q1 := Lib.hid (Qb.out.below hB1 (by omega))
    have hz01 : w.heap.size < w1.heap.size := by have := hB1.size; omega
    rw [hDl] at HMd ⊢
    obtain ⟨q5, hq5⟩ : ∃ q5 : Nat, (rc : Int) % 5 = (q5 : Int) := ⟨rc % 5, by omega⟩
    have hq4 : q5 ≤ 4 := by omega
    obtain ⟨n, hn⟩ : ∃ n, n = 1 + q5 := ⟨_, rfl⟩
    have HDl := Lib.hid hDl
    clear hV hB1 hDl hd hD hr5 e2 e3 hc Qb sb Hm Hm0 HBb
    by_cases hd0 : d = 0
    · subst hd0
      go_wp2_with fail
      refine (awake54_any _).mono ?_
      rintro e w6 ⟨rfl, hB6⟩
      go_wp2_with fail
      go_ret
      exact ⟨rfl, HB1.out.trans (hB6.mono HB1.out.size)⟩
    · have t2 : ((d : Int) == 0) = false := by rw [beq_eq_false_iff_ne]; omega
      have hd1 : 1 ≤ d := by omega
      clear hd0
      have HE := Lib.hid (recErr_ok (n := n) HR.out hc1 (by omega) (by rw [HDl.out]; exact hd1) (by rw [HDl.out]; omega))
      go_wp2_with fail
      rw [show (1 : Int) + (q5 : Int) = (n : Int) by omega]
      refine (set_fresh _ D n _ HE.out (rect_byt HR.out) HMd.out).mono ?_
      rintro e w2 ⟨w1', va, vsa, rfl, hH, hO, hB2, hB2'⟩
      rw [set_eq HR.out (by rw [HDl.out]; exact hd1) HE.out, HDl.out] at hH hO
      have hSl := setM_length d n D
      have hcs := con_set (r := n) HR.out HDl.out hd1 (by omega) hc1 (by omega)
      have hcc := fun t p => con_changed (r := n) (t := t) (p := p) HR.out HDl.out hd1 (by omega) (by omega) hc1 (by omega)
      have hSR := setM_rect (r := n) HR.out HDl.out hd1
      obtain ⟨S, hS⟩ : ∃ S, setM d n D = S := ⟨_, rfl⟩
      rw [hS] at hH hO hSl hcs hSR
      simp only [hS] at hcc
      obtain ⟨N, hN⟩ : ∃ N, d + n = N := ⟨_, rfl⟩
      rw [hN] at hSl
      simp only [hN] at hcc
      rw [hSl] at hO
      have hN13 : N ≤ 13 := by omega
      have hN1 : 1 ≤ N := by omega
      have HCc := Lib.hid hcc
      have HC1 := Lib.hid hcs.1
      have HC2 := Lib.hid hcs.2
      have HSR := Lib.hid hSR
      have HSl := Lib.hid hSl
      have HH := Lib.hid hH
      obtain ⟨ba, ca, rfl, hba, hca, _⟩ := ne_of_owns hO (by omega)
      have Hba := Lib.hid (Blk.of_owns hO)
      have HB2 := Lib.hid hB2
      have HB2' := Lib.hid hB2'
      have hvl := hH.1
      rw [hSl] at hvl
      have Hvl := Lib.hid hvl
      have HM2 := Lib.hid (show Mx w2 (.slice (some ⟨ba, 0, none⟩) N ca) S by have := (hH.new hB2).mx (cap := ca) Hba.out (by omega); rw [hSl] at this; exact this)
      have Q2 := Lib.hid ((Q1.out.below hB2' hz01).below hB2 (by have := hB2'.size; omega))
      have B2 := Lib.hid (HB1.out.trans ((hB2'.trans (hB2.mono hB2'.size)).mono HB1.out.size))
      have hz12 := hB2'.size
      clear hcs hcc hSR hSl hH hO hB2 hB2' hvl hS
      go_wp2_with fail
      refine (pConsistent_any _ S d _ (by rw [HSl.out]; omega) (rect_byt HSR.out) HM2.out (by omega) (by omega)).mono ?_
      rintro e w3 ⟨rfl, hB3⟩
      rw [HC1.out, HC2.out]
      have Q3 := Lib.hid (Q2.out.below hB3 Q2.out.lt)
      have Hba3 := Lib.hid (Hba.out.below hB3 Hba.out.lt)
      have B23 := Lib.hid (show Below w1'.heap.size w1' w3 from HB2.out.trans (hB3.mono HB2.out.size))
      have B3 := Lib.hid (B2.out.trans (hB3.mono B2.out.size))
      clear hB3 Q1 Q2 Hba HM2 B2
      obtain ⟨i, hiN⟩ : ∃ i, i = x % N := ⟨_, rfl⟩
      have hil : i < N := by rw [hiN]; exact Nat.mod_lt _ hN1
      have t4 : (x : Int).tmod (N : Int) = (i : Int) := by rw [Int.tmod_eq_emod_of_nonneg (by omega), hiN]; omega
      have c0 := Q3.out.cell (i := 0) rfl
      have c1 := Q3.out.cell (i := 1) rfl
      have c2 := Q3.out.cell (i := 2) rfl
      have ri := getD_some (l := S) (d := []) (i := i) (by rw [HSl.out]; exact hil)
      have vi := getD_some (l := vsa) (d := Value.slice none 0 0) (i := i) (by rw [Hvl.out]; exact hil)
      obtain ⟨pr, hpr⟩ : ∃ pr, S.getD i [] = pr := ⟨_, rfl⟩
      rw [hpr] at ri
      have hprR := HSR.out pr (List.mem_of_getElem? ri)
      obtain ⟨ax, cx, hax, _, hrow, _⟩ := HH.out.2 i _ pr vi ri
      obtain ⟨b', o', rfl, hrw⟩ : ∃ b' o', ax = some ⟨b', o', none⟩ ∧ RowAt w1' b' o' pr := by
        rcases hrow with h | h
        · rw [h] at hprR; simp at hprR; omega
        · exact h
      rw [hprR.1] at hax
      have hcell := Hba3.out.cell vi
      rw [hax] at hcell
      have hBe : Below w3.heap.size w3 (w3.alloc (.cells #[] 5)) := al _ _
      have hcell' := (hBe.cell (p := ⟨ba, i, none⟩) Hba3.out.lt).trans hcell
      have Hsrc := Lib.hid ((hrw.new B23.out).src hBe)
      have HBe := Lib.hid hBe
      have HprR := Lib.hid hprR
      have Hpr := Lib.hid hpr
      have hiNi : (i : Int) < (N : Int) := by omega
      clear ri vi hax hrow hrw hpr hprR hBe hiN
      go_wp2_with (at_builtin; refine wpList_append_own _ rfl _ _ 26 rfl w3.heap.size 5 i0 (.int .u8 0) 1 1 Try.underlying26 hi hz0 hz1 hz2 rfl (by decide) _ 0 [] rfl (owns_empty w3 _) ⟨b', o', none⟩ c cx (pr.map bv) rfl ?c1 ?c2 ?c3 ?c4 ?c5 ?c6 ?_)
      case c1 => simp [HprR.out.1]
      case c2 => exact Hsrc.out
      case c3 => intro u hu; obtain ⟨x, _, rfl⟩ := List.mem_map.1 hu; rfl
      case c4 => unfold maxLen; omega
      case c5 => omega
      case c6 => exact HBe.out.size
      intro v4 w4 hown hgr _
      have hown' : w4.ownsRow w3.heap.size 5 1 v4 c (pr.map bv) := by simpa only [Nat.zero_add, List.nil_append] using hown
      obtain ⟨g, cg, rfl, g1, g2, g3⟩ := ne_of_owns hown' (by omega)
      have hB4 : Below w3.heap.size w3 w4 := HBe.out.grown hgr HBe.out.size (fun q hq => by simp [Value.ownBlock] at hq; omega)
      have blk := Blk.of_owns hown'
      have HB4 := Lib.hid hB4
      have Hblk := Lib.hid blk
      obtain ⟨j, hjc⟩ : ∃ j, j = y % c := ⟨_, rfl⟩
      have hjl : j < c := by rw [hjc]; exact Nat.mod_lt _ hc1
      have t5 : (y : Int).tmod (c : Int) = (j : Int) := by rw [Int.tmod_eq_emod_of_nonneg (by omega), hjc]; omega
      have px := getD_some (l := pr) (d := 0) (i := j) (by rw [HprR.out.1]; exact hjl)
      have hpb := HprR.out.2.getD j
      obtain ⟨pj, hpj⟩ : ∃ pj, pr.getD j 0 = pj := ⟨_, rfl⟩
      rw [hpj] at px hpb
      have hcp := blk.row j pj px
      rw [Nat.zero_add] at hcp
      unfold bv at hcp
      have hfp := blk.frozen j
      have d1 := (hB4.cell (p := ⟨w.heap.size, 1, none⟩) Q3.out.lt).trans c1
      have d2 := (hB4.cell (p := ⟨w.heap.size, 2, none⟩) Q3.out.lt).trans c2
      have hc0 : c ≠ 0 := by omega
      have t6 : IntKind.i64.wrap (y : Int) = y := IntWalk.i64_in _ (by omega)
      have hjci : (j : Int) < (c : Int) := by omega
      have Hpj := Lib.hid hpj
      have hcb4 := (hB4.cell (p := ⟨ba, i, none⟩) Hba3.out.lt).trans hcell
      have hfb4 := (hB4.frozen (p := ⟨ba, i, none⟩) Hba3.out.lt).trans (Hba3.out.frozen i)
      have hgb : ba ≠ g := by have := Hba3.out.lt; omega
      have hgb' : g ≠ ba := fun h => hgb h.symm
      clear hown hown' hgr hB4 blk px hpj c0 c1 c2 hcell hcell' hjc
      obtain ⟨zz, hzz1, hzz2, hzz3⟩ : ∃ zz : Nat, zz ≠ 0 ∧ zz < 256 ∧ ((1 ≤ z ∧ zz = z) ∨ (¬ 1 ≤ z ∧ zz = 1)) := by
        by_cases h1 : 1 ≤ z
        · exact ⟨z, by omega, hz, Or.inl ⟨h1, rfl⟩⟩
        · exact ⟨1, by omega, by omega, Or.inr ⟨h1, rfl⟩⟩
      have hpne : pr.set j (pj ^^^ zz) ≠ S.getD i [] := by rw [Hpr.out]; exact set_ne (by rw [HprR.out.1]; exact hjl) (by rw [Hpj.out]; exact xor_ne hzz1)
      have hpB : Byt (pr.set j (pj ^^^ zz)) := set_byt HprR.out.2 (Nat.xor_lt_two_pow (n := 8) hpb hzz2)
      have hpL : (pr.set j (pj ^^^ zz)).length = c := by rw [List.length_set, HprR.out.1]
      have hcc := HCc.out i (pr.set j (pj ^^^ zz)) hil hpL hpB hpne
      have HK1 := Lib.hid hcc.1
      have HK2 := Lib.hid hcc.2
      have HbM := Lib.hid (rect_byt (set_rect (k := i) HSR.out hpL hpB))
      have HM := Lib.hid (det_mx (y := pj ^^^ zz) HH.out HSl.out Hba3.out hba B23.out HB4.out Hblk.out g1 HprR.out.1 hjl g2 hil hca)
      unfold bv at HM
      rw [← xor_u8 pj zz hpb hzz2] at HM
      have BW := Lib.hid (show Below w.heap.size w ((w4.setCell ⟨g, j, none⟩ (.int .u8 (bits .xor .u8 (pj : Int) (zz : Int)))).setCell ⟨ba, i, none⟩ (.slice (some ⟨g, 0, none⟩) c cg)).drew from
        (((B3.out.trans (HB4.out.mono B3.out.size)).setCell (p := ⟨g, j, none⟩) (by have := B3.out.size; show _ ≤ g; omega) _).setCell (p := ⟨ba, i, none⟩) (by show _ ≤ ba; omega) _).drew)
      have HSn := Lib.hid (show (S.set i (pr.set j (pj ^^^ zz))).length ≤ 1000000000 by rw [List.length_set, HSl.out]; omega)
      clear hpne hpB hpL hcc
      clear hzz1 hzz2
      rcases hzz3 with ⟨h1, rfl⟩ | ⟨h1, rfl⟩
      all_goals
        go_wp2_with fail
        go_still_tail 14, (by kernel_rfl)
        go_wp2_with fail
        refine (pConsistent_any _ _ d _ HSn.out HbM.out HM.out (by omega) (by omega)).mono ?_
        rintro e w5 ⟨rfl, hB5⟩
        rw [HK1.out, HK2.out]
        have B5 := Lib.hid (BW.out.trans (hB5.mono BW.out.size))
        clear hB5
        go_wp2_with fail
        refine (awake54_any _).mono ?_
        rintro e w6 ⟨rfl, hB6⟩
        go_wp2_with fail
        go_ret
        exact ⟨rfl, B5.out.trans (hB6.mono B5.out.size)⟩
end Go.Proofs.Ytlbomlolomcolaa

namespace Go.Proofs.Ytlbomlolomcolaa
open Go.ChangeShapes Go.WideShapes Go.ChangeAt Go.RowKit

set_option maxRecDepth 100000 in
theorem open_bytes_cell {H : Type} {enc : TypeId × Value → H} {W : World} {n : Nat} {v : Value} {y : DataW H × List MemPlace} (h : DataW.trod enc Try.prog W 0 (fun _ => true) true n 26 [v] = some y) :
    ∃ l : List Nat, Bs W v l ∧ Byt l ∧ l.length ≤ maxLen := by
  rcases open_ints Try.underlying26 Try.underlying5 (by kernel_rfl) h with ⟨hcs, _⟩ | ⟨a, len, cap, zs, hcs, _, hl, hm, hz, _, hc, hw⟩
  · simp only [List.cons.injEq, and_true] at hcs
    subst hcs
    exact ⟨[], ⟨none, 0, rfl, Nat.le_refl _, Or.inl rfl⟩, fun x hx => by simp at hx, Nat.zero_le _⟩
  · simp only [List.cons.injEq, and_true] at hcs
    subst hcs
    simp only [if_true] at hz
    have hb : ∀ i, i < zs.length → (0 : Int) ≤ zs.getD i 0 ∧ zs.getD i 0 < 256 := by
      intro i hi
      have := bounds_u8 (hw (zs.getD i 0) (List.mem_of_getElem? (getD_some hi)))
      omega
    have hlen : ((zs.take len).map Int.toNat).length = len := by simp; omega
    refine ⟨(zs.take len).map Int.toNat, ⟨some a, cap, by rw [hlen], by omega, ?_⟩, ?_, by omega⟩
    · by_cases h0 : len = 0
      · left; subst h0; simp
      · right
        have hp := addr_plain (hc 0 (by omega))
        have hp' : a.spot = none := by
          have : a.add 0 = a := by unfold Addr.add; simp
          rw [this] at hp; exact hp
        refine ⟨a.block, a.off, by obtain ⟨b, o, s⟩ := a; simp only at hp'; subst hp'; rfl, ?_⟩
        intro i x hx
        have hi : i < len := by have := (List.getElem?_eq_some_iff.1 hx).1; omega
        have h1 := hc i (by omega)
        rw [add_plain hp'] at h1
        rw [h1]
        have hb' := hb i (by omega)
        rw [List.getElem?_map, List.getElem?_take_of_lt hi, getD_some (l := zs) (d := 0) (by omega)] at hx
        simp only [Option.map_some, Option.some.injEq] at hx
        unfold bv
        rw [← hx, Int.toNat_of_nonneg hb'.1]
    · intro x hx
      obtain ⟨z, hz', rfl⟩ := List.mem_map.1 hx
      have := bounds_u8 (hw z (List.mem_of_mem_take hz'))
      omega

set_option maxRecDepth 100000 in
theorem open_bytes {H : Type} {enc : TypeId × Value → H} {W : World} {base : Nat} {v : Value} {d : DataW H} {p : List MemPlace} (hv : Value.okWide Try.prog W .any base 26 v) (h : DataW.Trod enc Try.prog W 0 (fun _ => true) true 26 v d p) :
    ∃ l : List Nat, Bs W v l ∧ Byt l ∧ l.length ≤ maxLen := by
  obtain ⟨a0, len0, cap0, rfl⟩ := okWide_slice Try.underlying26 hv
  obtain ⟨fuel, hf⟩ := h
  exact open_bytes_cell hf

set_option maxRecDepth 100000 in
theorem open_change {H : Type} {enc : TypeId × Value → H} {W : World} {base : Nat} {v : Value} {d : DataW H} {p : List MemPlace} (hv : Value.okWide Try.prog W .any base 50 v) (h : DataW.Trod enc Try.prog W 0 (fun _ => true) true 50 v d p) :
    ∃ (a : Int) (vp : Value) (l : List Nat), v = .agg #[.int .i64 a, vp] ∧ (-9223372036854775808 ≤ a ∧ a ≤ 9223372036854775807) ∧ Bs W vp l ∧ Byt l ∧ l.length ≤ maxLen := by
  obtain ⟨c0, c1, y0, y1, m, rfl, rfl, rfl, hy0, hy1⟩ := Joins.open_agg2 Try.underlying50 (by kernel_rfl) (by kernel_rfl) hv h
  obtain ⟨a, e0, rfl, wa⟩ := DataW.trod_int Try.underlying3 hy0
  simp at e0
  subst e0
  obtain ⟨l, h1, h2, h3⟩ := open_bytes_cell hy1
  exact ⟨a, c1, l, rfl, i64_bounds wa, h1, h2, h3⟩
end Go.Proofs.Ytlbomlolomcolaa

namespace Go.Proofs.Ytlbomlolomcolaa
open Go.ChangeShapes Go.WideShapes Go.ChangeAt Go.RowKit

/-- From (b, o) on lie arrays of n bytes each. -/
def PgAt (w : World) (b o n : Nat) (l : List (List Nat)) : Prop := ∀ i r, l[i]? = some r → RowAt w b (o + i * n) r
/-- A slice of arrays of n bytes reads as l. -/
def Pgs (w : World) (v : Value) (n : Nat) (l : List (List Nat)) : Prop :=
  ∃ (a : Option Addr) (cap : Nat), v = .slice a l.length cap ∧ l.length ≤ cap ∧ (l = [] ∨ ∃ b o, a = some ⟨b, o, none⟩ ∧ PgAt w b o n l)

def vnat : Value → Nat
  | .int _ z => z.toNat
  | _ => 0

theorem PgAt.new {w w' : World} {b o n : Nat} {l : List (List Nat)} (h : PgAt w b o n l) (k : Below w.heap.size w w') : PgAt w' b o n l := fun i r hr => (h i r hr).new k
theorem Pgs.new {w w' : World} {v : Value} {n : Nat} {l : List (List Nat)} (h : Pgs w v n l) (k : Below w.heap.size w w') : Pgs w' v n l := by
  obtain ⟨a, cap, hv, hc, h⟩ := h
  exact ⟨a, cap, hv, hc, h.imp id fun ⟨b, o, ha, hp⟩ => ⟨b, o, ha, hp.new k⟩⟩

theorem open_arr {H : Type} {enc : TypeId × Value → H} {P : Program} {W : World} {base : Nat} {spare : Nat → Bool} {held : Bool} {e eb n fuel : Nat} {cs : List Value} {x : DataW H × List MemPlace} (he : P.underlying e = some (.array n eb)) (hb : P.underlying eb = some (.int .u8)) (hce : P.cellsOf eb = 1) (hcn : P.cellsOf e = n)
    (h : DataW.trod enc P W base spare held fuel e cs = some x) : cs.length = n ∧ Byt (cs.map vnat) ∧ cs = (cs.map vnat).map bv := by
  obtain ⟨xs, m, _, _, hl, hxl, hx⟩ := DataW.trod_array he h
  rw [hcn] at hl
  have key : ∀ (j : Nat) (v : Value), cs[j]? = some v → vnat v < 256 ∧ v = bv (vnat v) := by
    intro j v hj
    have hj1 := (List.getElem?_eq_some_iff.1 hj).1
    have h1 := hx j (by omega)
    rw [hce, Nat.mul_one, List.getElem?_eq_getElem (by omega)] at h1
    obtain ⟨z, hz, _, hw⟩ := DataW.trod_int hb h1
    rw [List.drop_eq_getElem_cons hj1] at hz
    simp only [List.take_succ_cons, List.take_zero, List.cons.injEq, and_true] at hz
    rw [List.getElem?_eq_getElem hj1, Option.some.injEq] at hj
    rw [hj] at hz
    subst hz
    have := bounds_u8 hw
    refine ⟨show z.toNat < 256 by omega, ?_⟩
    show Value.int .u8 z = .int .u8 (z.toNat : Int)
    rw [Int.toNat_of_nonneg this.1]
  refine ⟨hl, ?_, ?_⟩
  · intro y hy
    obtain ⟨v, hv, rfl⟩ := List.mem_map.1 hy
    obtain ⟨j, hj⟩ := List.mem_iff_getElem?.1 hv
    exact (key j v hj).1
  · apply List.ext_getElem?
    intro j
    rw [List.getElem?_map, List.getElem?_map]
    cases hj : cs[j]? with
    | none => rfl
    | some v => simp only [Option.map_some]; rw [← (key j v hj).2]

theorem open_pgs {H : Type} {enc : TypeId × Value → H} {P : Program} {W : World} {base bs t e eb n : Nat} {r : Reach} {v : Value} {d : DataW H} {p : List MemPlace} {spare : Nat → Bool} {held : Bool} (ht : P.underlying t = some (.slice e)) (he : P.underlying e = some (.array n eb)) (hb : P.underlying eb = some (.int .u8)) (hce : P.cellsOf eb = 1) (hcn : P.cellsOf e = n) (hn : 0 < n)
    (hv : Value.okWide P W r base t v) (h : DataW.Trod enc P W bs spare held t v d p) :
    ∃ l : List (List Nat), Pgs W v n l ∧ (∀ r ∈ l, r.length = n) ∧ BytM l ∧ l.length ≤ maxLen := by
  obtain ⟨a0, len0, cap0, rfl⟩ := okWide_slice ht hv
  obtain ⟨fuel, hf⟩ := h
  rcases Go.Deep.open_slice ht hf with ⟨hcs, _⟩ | ⟨a, len, cap, m, q, D, Pl, hcs, _, hl, hm, hmm, _, hi⟩
  · simp only [Value.cells] at hcs
    obtain ⟨rfl, rfl, rfl⟩ : a0 = none ∧ len0 = 0 ∧ cap0 = 0 := by simpa using hcs
    exact ⟨[], ⟨none, 0, rfl, Nat.le_refl _, Or.inl rfl⟩, by simp, fun r hr => by simp at hr, Nat.zero_le _⟩
  · simp only [Value.cells] at hcs
    obtain ⟨rfl, rfl, rfl⟩ : a0 = some a ∧ len0 = len ∧ cap0 = cap := by simpa using hcs
    have hlm : len0 ≤ m := by rw [hmm]; split <;> omega
    have row : ∀ i : Nat, ∃ s : List Nat, i < len0 → s.length = n ∧ Byt s ∧ ∀ (j x : Nat), s[j]? = some x → W.cell? ((a.add (i * n)).add j) = some (bv x) := by
      intro i
      by_cases hil : i < len0
      · obtain ⟨cs', hc, htr⟩ := hi i (by omega)
        rw [hcn] at hc
        obtain ⟨_, hcl, hat⟩ := World.cells?_some hc
        obtain ⟨k1, k2, k3⟩ := open_arr he hb hce hcn htr
        refine ⟨cs'.map vnat, fun _ => ⟨by simpa using k1, k2, fun j x hx => ?_⟩⟩
        have hj := (List.getElem?_eq_some_iff.1 hx).1
        rw [List.length_map, k1] at hj
        rw [hat j hj]
        rw [k3, List.getElem?_map, hx]
        rfl
      · exact ⟨[], fun h => absurd h hil⟩
    obtain ⟨f, hf⟩ := Classical.axiomOfChoice row
    have hget : ∀ (i : Nat) (r : List Nat), ((List.range len0).map f)[i]? = some r → i < len0 ∧ r = f i := by
      intro i r hr
      have h1 := (List.getElem?_eq_some_iff.1 hr).1
      simp only [List.length_map, List.length_range] at h1
      simp [h1] at hr
      exact ⟨h1, hr.symm⟩
    refine ⟨(List.range len0).map f, ⟨some a, cap0, by simp, by simpa using hl, ?_⟩, ?_, ?_, by simp; omega⟩
    · by_cases h0 : len0 = 0
      · subst h0; exact Or.inl rfl
      · right
        have h00 := hf 0 (by omega)
        have hpl := addr_plain (h00.2.2 0 _ (List.getElem?_eq_getElem (by omega)))
        have e0 : (a.add (0 * n)).add 0 = a := by rw [Nat.zero_mul]; unfold Addr.add; simp
        rw [e0] at hpl
        refine ⟨a.block, a.off, by obtain ⟨b, o, s⟩ := a; simp only at hpl; subst hpl; rfl, ?_⟩
        intro i r hr j x hx
        obtain ⟨h1, rfl⟩ := hget i r hr
        have := (hf i h1).2.2 j x hx
        rw [add_plain hpl, add_plain rfl] at this
        exact this
    · intro r hr
      obtain ⟨i, hi⟩ := List.mem_iff_getElem?.1 hr
      obtain ⟨h1, rfl⟩ := hget i r hi
      exact (hf i h1).1
    · intro r hr
      obtain ⟨i, hi⟩ := List.mem_iff_getElem?.1 hr
      obtain ⟨h1, rfl⟩ := hget i r hi
      exact (hf i h1).2.1
end Go.Proofs.Ytlbomlolomcolaa

namespace Go.Proofs.Ytlbomlolomcolaa
open Go.ChangeShapes Go.WideShapes Go.ChangeAt Go.RowKit

theorem u16_nat {a : Int} (h : (Lit.int .u16 a).wf = true) : ∃ x : Nat, x < 65536 ∧ a = x := by
  have := bounds_u16 h
  exact ⟨a.toNat, by omega, by omega⟩

theorem list_three {α : Type} {l : List α} (h : l.length = 3) : ∃ a b c, l = [a, b, c] := by
  match l, h with
  | [a, b, c], _ => exact ⟨a, b, c, rfl⟩

set_option maxRecDepth 100000 in
theorem open_arr3 {H : Type} {enc : TypeId × Value → H} {W : World} {base : Nat} {v : Value} {d : DataW H} {p : List MemPlace} (hv : Value.okWide Try.prog W .any base 66 v) (h : DataW.Trod enc Try.prog W 0 (fun _ => true) true 66 v d p) :
    ∃ x y z : Nat, v = .agg #[.int .u8 x, .int .u8 y, .int .u8 z] ∧ x < 256 ∧ y < 256 ∧ z < 256 := by
  have hc : ∃ cs : Array Value, v = .agg cs := by
    simp only [Value.okWide, Try.underlying66] at hv
    obtain ⟨cs, h1, _⟩ := hv
    exact ⟨cs, h1⟩
  obtain ⟨⟨l⟩, rfl⟩ := hc
  obtain ⟨fuel, hf⟩ := h
  obtain ⟨h1, h2, h3⟩ := open_arr Try.underlying66 Try.underlying5 (by kernel_rfl) (by kernel_rfl) hf
  simp only [Value.cells] at h1 h2 h3
  obtain ⟨a, b, c, rfl⟩ := list_three h1
  simp only [List.map_cons, List.map_nil, List.cons.injEq, and_true] at h3
  refine ⟨vnat a, vnat b, vnat c, ?_, h2 _ (by simp), h2 _ (by simp), h2 _ (by simp)⟩
  obtain ⟨k1, k2, k3⟩ := h3
  rw [k1, k2, k3]
  rfl
end Go.Proofs.Ytlbomlolomcolaa

namespace Go.Proofs.Ytlbomlolomcolaa
open Go.ChangeShapes Go.WideShapes Go.ChangeAt Go.RowKit
open Go.ChangeMaps (open_string shut_string)
set_option linter.unusedVariables false

set_option maxRecDepth 100000 in
theorem ParityDetects_lifted (os : Os) (started : os.Started) (H : Type) (enc : TypeId × Value → H) :
    ReturnsInHanded {} Try.checked os 10 .any (Rows.parityDetectsSpec.pre6 enc Try.prog Try.f10 Rows.parityDetectsRow.domain false) (Rows.parityDetectsSpec.post enc Try.prog Try.f10 false true false false) := by
  refine returnsInHanded_of_change (C := Try.checked) ownKnobNone started (by kernel_rfl) Try.func10
    (ChangeSpec.witness6 (enc := enc) (C := Try.checked) false ⟨#[], #[.slice none 0 0, .int .u8 0, .agg #[.int .u8 0, .int .u8 0, .int .u8 0]], []⟩ 8 (by kernel_rfl) (by kernel_rfl) (by kernel_rfl) (by kernel_rfl)) ?_
  intro W base args ds gs before hval0 hW hcnd _
  have hval : ∀ (j : Nat) t v, Try.f10.params[j]? = some t → args[j]? = some v → Value.okWide Try.prog W .any base t v := hval0
  have hW' := hW
  obtain ⟨p, q, hA0, hV, rfl, hfz, hnd⟩ := hW
  have hA : DataW.TrodAll enc Try.prog W 0 (fun _ => true) true Try.f10.params.toList args.toList ds p := hA0
  rw [Try.params10] at hA hval
  obtain ⟨v0, vs0, d0, ds0, p0, q0, hargs, rfl, rfl, h0, r0⟩ := trodAll_cons hA
  obtain ⟨v1, vs1, d1, ds1, p1, q1, rfl, rfl, rfl, h1, r1⟩ := trodAll_cons r0
  obtain ⟨v2, vs2, d2, ds2, p2, q2, rfl, rfl, rfl, h2, r2⟩ := trodAll_cons r1
  obtain ⟨rfl, rfl, rfl⟩ := trodAll_nil r2
  obtain rfl : args = #[v0, v1, v2] := by cases args; simp_all
  obtain ⟨rfl, rfl⟩ := trodVars_none hV
  have k0 := h0
  have lt0 : ∀ x ∈ p0, x.block < W.heap.size := by obtain ⟨m, hm⟩ := k0; exact DataW.trod_lt m _ _ _ hm
  obtain ⟨m0, M0, B0, L0⟩ := open_bytes (hval 0 26 v0 rfl rfl) h0
  obtain ⟨a1, rfl, rfl, rfl, w1⟩ := open_int Try.underlying5 (hval 1 5 v1 rfl rfl) h1
  obtain ⟨x1, b1, rfl⟩ := u8_nat w1
  have k2 := h2
  have lt2 : ∀ x ∈ p2, x.block < W.heap.size := by obtain ⟨m, hm⟩ := k2; exact DataW.trod_lt m _ _ _ hm
  obtain ⟨x2, y2, z2, rfl, b2, c2, d2'⟩ := open_arr3 (hval 2 66 v2 rfl rfl) h2
  clear hA0 hval0
  refine (ParityDetects_walk v0 m0 x1 x2 y2 z2 W M0 B0 L0 b1 b2 c2 d2').mono fun e W' ⟨he, bel⟩ => ?_
  subst he
  exact ⟨_, rfl, _, _, _, [], _, [], hW', trodAll_mk1 (shut_bool Try.underlying4 _), (trodAll_cons_mk (Below.trod laidOutYes (by kernel_rfl) (of_decide_eq_true (by kernel_rfl)) k0 bel lt0) (trodAll_cons_mk (shut_int Try.underlying5 w1) (trodAll_cons_mk (Below.trod laidOutYes (by kernel_rfl) (of_decide_eq_true (by kernel_rfl)) k2 bel lt2) trodAll_mk0))), rfl, bel.frame _, fun h => by cases h⟩

theorem parityDetects_holds : Rows.ParityDetectsSaid :=
  OpenClaim.holds_of_wide 10 Try.f10 rfl rfl rfl rfl rfl rfl rfl ⟨rfl, rfl, rfl, rfl, rfl⟩ rfl rfl rfl rfl rfl (by kernel_rfl) Try.func10 (by kernel_rfl)
    (of_decide_eq_true (by kernel_rfl)) (by unfold Func.isWrapper; first | (rw [if_pos (by decide +kernel)]; kernel_rfl) | (rw [if_neg (by decide +kernel)]; exact ⟨rfl, rfl⟩))
    (fun os started H enc _ => ParityDetects_lifted os started H enc)
#print axioms parityDetects_holds
end Go.Proofs.Ytlbomlolomcolaa
