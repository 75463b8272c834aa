/- Contracts of the reference's Rows and combined of chapter 54. -/
import Derived.Test.YtkclmfppjhmnjaaB19
import Derived.Test.YtkclmfppjhmnjaaB22
import Derived.Test.YtkclmfppjhmnjaaB16
import Derived.StillTailTactics
import Derived.Deep.RegionWith
namespace Go.Proofs.Ytkclmfppjhmnjaa
open Go.RowKit

set_option maxRecDepth 100000 in
set_option maxHeartbeats 4000000 in
theorem rRows_any (d r : Nat) (w : World) (h1 : 1 ≤ d) (h2 : d + r ≤ 64) : Calls Try.prog 90 #[.int .i64 d, .int .i64 r] w (RowsRet (rowsM d r) w) := by
  obtain ⟨j0, gi, gz0, gz1, gz2⟩ := info_parts infoBytes
  go_enter Try.func90, Try.ntmps90
  go_wp2_with fail
  refine (rIdentity_any d _ (by omega)).mono ?_
  rintro e w1 ⟨v1, hd, rfl, hG1, hB1⟩
  have hG := Lib.hid hG1
  have HBr := Lib.hid hB1
  have hs0 := hB1.size
  clear hG1 hB1
  by_cases hr : r = 0
  · have tr : decide ((0 : Int) < (r : Int)) = false := by simp; omega
    have he := Lib.hid (show rowsM d r = idM d by unfold rowsM; rw [hr]; simp [cauM])
    have hr0 : r ≤ 0 := by omega
    clear hr
    go_wp2_with fail
    go_ret
    exact ⟨_, hd, rfl, by rw [he.out]; exact hG.out, HBr.out⟩
  · have tr : decide ((0 : Int) < (r : Int)) = true := by simp; omega
    have hr1 : 1 ≤ r := by omega
    clear hr
    go_wp2_with fail
    refine (rCauchy_in r d _ hr1 (by omega) h1 (by omega)).mono ?_
    rintro e w2 ⟨vc, hdc, rfl, hGc, hBc⟩
    obtain ⟨bc, cc, rfl, hcc, _, hO⟩ := hGc.done (by intro h; have := cauM_length r d; rw [h] at this; simp at this; omega)
    have HO := Lib.hid hO.outer
    have HGc := Lib.hid hGc
    have HBc := Lib.hid hBc
    have Ho2 := Lib.hid (hG.out.new hBc).outer
    have hlc := cauM_length r d
    have Hlc := Lib.hid hlc
    have Hvl := Lib.hid (hvs_length hGc.len)
    have hsc := hBc.size
    have Hid' := Lib.hid (idM_length d)
    rw [hlc]
    rw [idM_length] at Ho2
    clear hO hGc hBc hlc
    go_wp2_with (at_builtin; refine wpList_append_own _ rfl _ _ 44 rfl w.heap.size 26 j0 (.slice none 0 0) 1 24 Try.underlying44 gi gz0 gz1 gz2 rfl (by decide) _ _ _ rfl Ho2.out ⟨bc, 0, none⟩ r cc (hvs hdc (cauM r d)) rfl ?d0 ?d1 ?d2 ?d3 ?d4 ?d5 ?_)
    case d0 => rw [Hvl.out, Hlc.out]; simp
    case d1 => exact HO.out.src
    case d2 => exact hvs_one
    case d3 => unfold maxLen; omega
    case d4 => omega
    case d5 => omega
    intro v' w3 hown hgr _
    have hG3 := hG.out.append HBc.out HGc.out HBr.out.size (by rw [Hid'.out, Hlc.out]; exact hown) hgr
    have hB3 : Below w.heap.size w w3 := (HBr.out.trans (HBc.out.mono HBr.out.size)).grown hgr (by omega) (fun q hq => (owns_block hG.out.outer hq).2.1)
    have HG3 := Lib.hid hG3
    have HB3 := Lib.hid hB3
    clear hown hgr hG3 hB3
    go_wp2_with fail
    go_ret
    exact ⟨_, _, rfl, HG3.out, HB3.out⟩

set_option maxRecDepth 100000 in
set_option maxHeartbeats 8000000 in
theorem combined_any (b o cap bp op capp L n N : Nat) (row : List Nat) (parts : List (List Nat)) (A : Nat → Option Addr) (C : Nat → Nat) (w : World) (hn : row.length = n) (hNl : parts.length = N) (hrow : RowAt w b o row) (hM : MxAt w bp op parts A C) (hcp : N ≤ capp)
    (hR : Rect L parts) (hl : n = N) (h1 : 1 ≤ N) (hN : N ≤ 1000) (hL : L ≤ 1000000) (hL1 : 1 ≤ L) (hBr : Byt row) :
    Calls Try.prog 91 #[.slice (some ⟨b, o, none⟩) n cap, .slice (some ⟨bp, op, none⟩) N capp] w (RowOut (prTo row parts L N) w) := by
  subst hl
  have hmk := mkBytes L (by omega)
  have Hmx := Lib.hid (show Mx w (.slice (some ⟨bp, op, none⟩) n capp) parts from ⟨_, capp, by rw [hNl], by rw [hNl]; exact hcp, Or.inr ⟨bp, op, A, C, rfl, hM⟩⟩)
  have Hfl := Lib.hid (show firstLen parts = L from (firstLen_hit (k := 0) (by omega) (by unfold plen; rw [(hR.get (i := 0) (by omega)).1]; exact hL1) (fun j hj => by omega)).trans (hR.get (i := 0) (by omega)).1)
  have Hrow := Lib.hid hrow
  have HM := Lib.hid hM
  have HR := Lib.hid hR
  have Hn := Lib.hid hn
  have HNl := Lib.hid hNl
  have HBr := Lib.hid hBr
  clear hM hR hBr hrow hn hNl
  go_enter Try.func91, Try.ntmps91
  go_wp2_with fail
  refine (rlength_any _ parts _ (by rw [HNl.out]; omega) Hmx.out).mono ?_
  rintro e w1 ⟨rfl, rfl⟩
  rw [Hfl.out]
  go_wp2_with fail
  clear hmk
  have hK0 : Kept (· = w.heap.size) w (w.alloc (.cells (zs L) 5)) := (Kept.refl _ _).alloc _
  have HB0 := Lib.hid (Blk.new w 5 (zs L))
  go_loopg [6] n (fun gk i wr => ∃ k : Nat, k + gk = n ∧ i = .int .i64 k ∧ Hid (Kept (· = w.heap.size) w wr) ∧ Hid (Blk wr w.heap.size 5 ((prTo row parts L k).map bv)))
  case atStart => exact ⟨0, by omega, rfl, hK0, by have := HB0.out; rw [zs_map] at this; exact this⟩
  case round =>
    obtain ⟨k, hgk, rfl, hK, hB⟩ := hrel
    have Hgk := Lib.hid hgk
    have hk : k ≤ n := by omega
    clear hgk
    by_cases hlt : k < n
    · obtain ⟨wo, rfl⟩ : ∃ wo : World, wo = wr := ⟨_, rfl⟩
      have c1 := Lib.hid (Hrow.out k _ (getD_some (d := 0) (by rw [Hn.out]; exact hlt)))
      have b1 := HBr.out.getD k
      have hpk : parts[k]? = some (parts.getD k []) := getD_some (by rw [HNl.out]; exact hlt)
      have hfl := HR.out.get (i := k) (by rw [HNl.out]; exact hlt)
      obtain ⟨c3', _, c3r, _⟩ := HM.out k _ hpk
      rw [hfl.1] at c3'
      obtain ⟨b', o', hA, hrowk⟩ : ∃ b' o', A k = some ⟨b', o', none⟩ ∧ RowAt w b' o' (parts.getD k []) := by
        rcases c3r with h0 | h
        · rw [h0] at hfl; simp at hfl; omega
        · exact h
      rw [hA] at c3'
      have c3 := Lib.hid c3'
      have hpr := prTo_ok (row := row) HR.out k (by rw [HNl.out]; exact hk)
      have hps := Lib.hid (show prTo row parts L (k + 1) = addMul (row.getD k 0) (prTo row parts L k) (parts.getD k []) from rfl)
      have Hrk := Lib.hid hrowk
      have Hfl' := Lib.hid hfl
      have Hpr := Lib.hid hpr
      have HKo := Lib.hid hK.out
      have HBo := Lib.hid hB.out
      generalize parts.getD k [] = fr at *
      generalize row.getD k 0 = f at *
      generalize prTo row parts L k = pr at *
      clear hpk hfl c3' c3r hA hrowk hpr hK hB hK0
      go_wp2_with fail
      go_loopg [7] L (fun gx j wx => ∃ x : Nat, x + gx = L ∧ j = .int .i64 x ∧ Hid (Kept (· = w.heap.size) w wx) ∧ Hid (Blk wx w.heap.size 5 ((amTo f pr fr x).map bv)))
      case atStart => exact ⟨0, by omega, rfl, HKo.out, by have := HBo.out; rw [amTo_zero]; exact this⟩
      case round =>
        obtain ⟨x, hgx, rfl, hK, hB⟩ := hrel
        have Hgx := Lib.hid hgx
        have hx : x ≤ L := by omega
        clear hgx
        by_cases hltx : x < L
        · have nb : ∀ {p : Addr} {v : Value}, w.cell? p = some v → wr.cell? p = some v := fun {p v} h => hK.out.cell h (by have := World.block_lt_of_cell? w _ h; omega)
          have hfl1 := Hfl'.out.1
          have hpl1 := Hpr.out.1
          have d1 : wr.cell? ⟨w.heap.size, x, none⟩ = some (.int .u8 (pr.getD x 0)) := hB.out.cell (by rw [List.getElem?_map, amTo_get (by omega) (by omega)]; rfl)
          have f1 := hB.out.frozen x
          have d2 := nb (Hrk.out x _ (getD_some (d := 0) (by omega)))
          have d3 := nb c1.out
          have d4 := nb c3.out
          unfold bv at d2 d3
          have e1 := Hpr.out.2.getD x
          have e2 := Hfl'.out.2.getD x
          have HK := Lib.hid hK.out
          have HB := Lib.hid hB.out
          generalize hxx : pr.getD x 0 = px at *
          generalize hyy : fr.getD x 0 = fx at *
          have Hxx := Lib.hid hxx
          have Hyy := Lib.hid hyy
          clear hxx hyy hfl1 hpl1 hK hB nb
          go_wp2_with fail
          go_region_with (go_at_call 109; refine (rMul_any _ _ _ b1 e2).mono ?_; rintro e w' ⟨rfl, rfl⟩)
          all_goals
            go_wp2
            go_roundg (L - x - 1)
            case measure => have := Hgx.out; omega
            case rel =>
              obtain ⟨r1, r2⟩ := red1_step (f := f) 1 (by rw [Hfl'.out.1]; exact hltx) (by rw [Hfl'.out.1, Hpr.out.1]) Hxx.out Hyy.out e1 HK.out HB.out
              exact ⟨x + 1, by have := Hgx.out; omega, by go_num, r1, r2⟩
        · have hxl : x = fr.length := by rw [Hfl'.out.1]; omega
          have Hfin := hB.out
          rw [amTo_all hxl (by rw [Hfl'.out.1, Hpr.out.1]), ← hps.out] at Hfin
          have Hfin := Lib.hid Hfin
          have HK := Lib.hid hK.out
          clear hxl hK hB
          go_wp2_with fail
          go_roundg (n - k - 1)
          case measure => have := Hgk.out; omega
          case rel => exact ⟨k + 1, by have := Hgk.out; omega, by go_num, HK.out, Hfin.out⟩
    · have hkl : k = n := by omega
      have Hfin := hB.out
      have HK := Lib.hid hK.out
      rw [hkl] at Hfin
      have hlen := (prTo_ok (row := row) HR.out n (by rw [HNl.out]; exact Nat.le_refl _)).1
      have Hlen := Lib.hid hlen
      have Hfin := Lib.hid Hfin
      clear hlen hkl hK hB
      go_wp2_with fail
      go_ret
      refine ⟨w.heap.size, L, ?_, Nat.le_refl _, ?_, ?_, Hfin.out, HK.out.below (Nat.le_refl _) (fun q hq => by omega)⟩
      · rw [Hlen.out]; rfl
      · rw [Hlen.out]; exact Nat.le_refl _
      · unfold maxLen; omega
end Go.Proofs.Ytkclmfppjhmnjaa
