/- Contracts of parity's combiner. -/
import Derived.Test.YtlbomlolomcolaaPar1
import Derived.Test.YtlbomlolomcolaaProd
namespace Go.Proofs.Ytlbomlolomcolaa
open Go.RowKit

/-- What a function that returns a new row leaves. -/
def RowOut (r : List Nat) (w : World) (e : Ending) (w' : World) : Prop :=
  ∃ g cap, e = .returned (.slice (some ⟨g, 0, none⟩) r.length cap) ∧ w.heap.size ≤ g ∧ r.length ≤ cap ∧ cap ≤ maxLen ∧ Blk w' g 5 (r.map bv) ∧ Below w.heap.size w w'

theorem cm_step {w1 wr w' : World} {g T f k x y : Nat} {ts fr : List Nat} (hk : k < fr.length) (hl : ts.length = fr.length) (hx : ts.getD k 0 = x) (hy : fr.getD k 0 = y) (b1 : x < 256)
    (hK : Kept (· = g) w1 wr) (hB : Blk wr g T ((amTo f ts fr k).map bv)) (hB' : Below wr.heap.size wr w') :
    Kept (· = g) w1 (w'.setCell ⟨g, k, none⟩ (.int .u8 (bits .xor .u8 x (Gf.gm f y)))) ∧ Blk (w'.setCell ⟨g, k, none⟩ (.int .u8 (bits .xor .u8 x (Gf.gm f y)))) g T ((amTo f ts fr (k + 1)).map bv) := by
  refine ⟨(hK.trans (.of_new hB')).setCell (fun _ => rfl) _, ?_⟩
  have h1 := (hB.below hB' hB.lt).setCell (i := k) (by simpa using (List.getElem?_eq_some_iff.1 (amTo_get (f := f) hk hl)).1) (.int .u8 (bits .xor .u8 x (Gf.gm f y)))
  rw [xor_u8 _ _ b1 (Gf.gm_lt _ _)] at h1 ⊢
  rw [← amTo_set hk hl, hx, hy, List.map_set]
  exact h1

set_option maxRecDepth 100000 in
set_option maxHeartbeats 4000000 in
theorem combiner1_any (b o cap pb bp op capp L : Nat) (row : List Nat) (parts : List (List Nat)) (A : Nat → Option Addr) (C : Nat → Nat) (w : World) (hrow : RowAt w b o row) (hbox : w.cell? ⟨pb, 0, none⟩ = some (.slice (some ⟨bp, op, none⟩) parts.length capp)) (hM : MxAt w bp op parts A C)
    (hR : Rect L parts) (hl : row.length = parts.length) (h1 : 1 ≤ parts.length) (hN : parts.length ≤ 1000) (hL : L ≤ 1000000) (hL1 : 1 ≤ L) (hBr : Byt row) :
    Calls Try.prog 76 #[.slice (some ⟨b, o, none⟩) row.length cap, .pointer (some ⟨pb, 0, none⟩)] w (RowOut (prTo row parts L parts.length) w) := by
  have hmk := mkBytes L (by omega)
  have hc0 := (hM 0 _ (getD_some (d := []) (by omega))).1
  rw [Nat.add_zero, (hR.get (i := 0) (by omega)).1] at hc0
  have Hrow := Lib.hid hrow
  have HM := Lib.hid hM
  have HR := Lib.hid hR
  have Hl := Lib.hid hl
  have HBr := Lib.hid hBr
  have Hbox := Lib.hid hbox
  have hl1 : row.length ≤ parts.length := by omega
  have hl2 : parts.length ≤ row.length := by omega
  clear hM hR hl hBr hrow
  go_enter Try.func76, Try.ntmps76
  go_wp2_with fail
  clear hmk hc0 hbox
  have hK0 : Kept (· = w.heap.size) w (w.alloc (.cells (zs L) 5)) := (Kept.refl _ _).alloc _
  have HB0 := Lib.hid (Blk.new w 5 (zs L))
  have hs0 : w.heap.size < (w.alloc (.cells (zs L) 5)).heap.size := by simp
  go_loopg [16] parts.length (fun gk i wr => ∃ k : Nat, k + gk = parts.length ∧ i = .int .i64 k ∧ Hid (Kept (· = w.heap.size) w wr) ∧ Hid (Blk wr w.heap.size 5 ((prTo row parts L k).map bv)))
  case atStart => exact ⟨0, by omega, rfl, hK0, by have := HB0.out; rw [zs_map] at this; exact this⟩
  case round =>
    obtain ⟨k, hgk, rfl, hK, hB⟩ := hrel
    have Hgk := Lib.hid hgk
    have hk : k ≤ parts.length := by omega
    clear hgk
    by_cases hlt : k < parts.length
    · obtain ⟨wo, rfl⟩ : ∃ wo : World, wo = wr := ⟨_, rfl⟩
      have hltr : k < row.length := by omega
      have nb : ∀ {p : Addr} {v : Value}, w.cell? p = some v → wo.cell? p = some v := fun {p v} h => hK.out.cell h (by have := World.block_lt_of_cell? w _ h; omega)
      have c1 := nb (Hrow.out k _ (getD_some (d := 0) (by omega)))
      unfold bv at c1
      have b1 := HBr.out.getD k
      have c2 := nb Hbox.out
      have hpk : parts[k]? = some (parts.getD k []) := getD_some hlt
      have hfl := HR.out.get hlt
      obtain ⟨c3', _, c3r, _⟩ := HM.out k _ hpk
      have c3 := nb c3'
      rw [hfl.1] at c3
      obtain ⟨b', o', hA, hrowk⟩ : ∃ b' o', A k = some ⟨b', o', none⟩ ∧ RowAt w b' o' (parts.getD k []) := by
        rcases c3r with h0 | h
        · rw [h0] at hfl; simp at hfl; omega
        · exact h
      rw [hA] at c3
      have hpr := prTo_ok (row := row) HR.out k hk
      have hps := Lib.hid (show prTo row parts L (k + 1) = addMul (row.getD k 0) (prTo row parts L k) (parts.getD k []) from rfl)
      have Hrk := Lib.hid hrowk
      have Hfl := Lib.hid hfl
      have Hpr := Lib.hid hpr
      have HKo := Lib.hid hK.out
      have HBo := Lib.hid hB.out
      generalize parts.getD k [] = fr at *
      generalize row.getD k 0 = f at *
      generalize prTo row parts L k = pr at *
      clear hpk hfl c3' c3r hA hrowk hpr hK hB nb hK0
      go_wp2_with fail
      clear c1 c2 c3
      go_loopg [26] L (fun gx j wx => ∃ x : Nat, x + gx = L ∧ j = .int .i64 x ∧ Hid (Kept (· = w.heap.size) w wx) ∧ Hid (Blk wx w.heap.size 5 ((amTo f pr fr x).map bv)))
      case atStart => exact ⟨0, by omega, rfl, HKo.out, by have := HBo.out; rw [amTo_zero]; exact this⟩
      case round =>
        obtain ⟨x, hgx, rfl, hK, hB⟩ := hrel
        have Hgx := Lib.hid hgx
        have hx : x ≤ L := by omega
        clear hgx
        by_cases hltx : x < L
        · have hfl1 := Hfl.out.1
          have hpl1 := Hpr.out.1
          have d1 : wr.cell? ⟨w.heap.size, x, none⟩ = some (.int .u8 (pr.getD x 0)) := hB.out.cell (by rw [List.getElem?_map, amTo_get (by omega) (by omega)]; rfl)
          have f1 := hB.out.frozen x
          have d2' := Hrk.out x _ (getD_some (d := 0) (by omega))
          have d2 := hK.out.cell d2' (by have := World.block_lt_of_cell? w _ d2'; omega)
          unfold bv at d2
          have e1 := Hpr.out.2.getD x
          have e2 := Hfl.out.2.getD x
          have HK := Lib.hid hK.out
          have HB := Lib.hid hB.out
          generalize hxx : pr.getD x 0 = px at *
          generalize hyy : fr.getD x 0 = fx at *
          have Hxx := Lib.hid hxx
          have Hyy := Lib.hid hyy
          have hzw : w.heap.size < wr.heap.size := hB.out.lt
          clear hxx hyy d2' hfl1 hpl1 hK hB
          go_wp2_with fail
          go_region_with (go_at_call 58; refine (Mul_any _ _ _ b1 e2).mono ?_; rintro e w' ⟨rfl, hB'⟩; have HB' : Hid (Below wr.heap.size wr w') := ⟨hB'.os, hB'.tape, hB'.output, hB'.size, hB'.block⟩; have d1' := (HB'.out.cell (p := ⟨w.heap.size, x, none⟩) hzw).trans d1; have f1' := (HB'.out.frozen (p := ⟨w.heap.size, x, none⟩) hzw).trans f1; clear hB')
          all_goals
            go_wp2_with fail
            go_roundg (L - x - 1)
            case measure => have := Hgx.out; omega
            case rel =>
              obtain ⟨r1, r2⟩ := cm_step (f := f) (by rw [Hfl.out.1]; exact hltx) (by rw [Hfl.out.1, Hpr.out.1]) Hxx.out Hyy.out e1 HK.out HB.out HB'.out
              exact ⟨x + 1, by have := Hgx.out; omega, by go_num, r1, r2⟩
        · have hxl : x = fr.length := by rw [Hfl.out.1]; omega
          have Hfin := hB.out
          rw [amTo_all hxl (by rw [Hfl.out.1, Hpr.out.1]), ← hps.out] at Hfin
          have Hfin := Lib.hid Hfin
          have HK := Lib.hid hK.out
          clear hxl hK hB
          go_wp2_with fail
          go_roundg (parts.length - k - 1)
          case measure => have := Hgk.out; omega
          case rel => exact ⟨k + 1, by have := Hgk.out; omega, by go_num, HK.out, Hfin.out⟩
    · have hkl : k = parts.length := by omega
      have Hfin := hB.out
      have HK := Lib.hid hK.out
      rw [hkl] at Hfin
      have hlen := (prTo_ok (row := row) HR.out parts.length (Nat.le_refl _)).1
      have Hlen := Lib.hid hlen
      have Hfin := Lib.hid Hfin
      clear hlen hkl hK hB
      go_wp2_with fail
      go_ret
      refine ⟨w.heap.size, L, ?_, Nat.le_refl _, ?_, ?_, Hfin.out, HK.out.below (Nat.le_refl _) (fun q hq => by omega)⟩
      · rw [Hlen.out]; rfl
      · rw [Hlen.out]; exact Nat.le_refl _
      · unfold maxLen; omega

theorem combiner1_n (b o cap pb bp op capp L n N : Nat) (row : List Nat) (parts : List (List Nat)) (A : Nat → Option Addr) (C : Nat → Nat) (w : World) (hn : row.length = n) (hNl : parts.length = N) (hrow : RowAt w b o row) (hbox : w.cell? ⟨pb, 0, none⟩ = some (.slice (some ⟨bp, op, none⟩) N capp)) (hM : MxAt w bp op parts A C)
    (hR : Rect L parts) (hl : n = N) (h1 : 1 ≤ N) (hN : N ≤ 1000) (hL : L ≤ 1000000) (hL1 : 1 ≤ L) (hBr : Byt row) :
    Calls Try.prog 76 #[.slice (some ⟨b, o, none⟩) n cap, .pointer (some ⟨pb, 0, none⟩)] w (RowOut (prTo row parts L N) w) := by
  subst hn hNl
  exact combiner1_any b o cap pb bp op capp L row parts A C w hrow hbox hM hR hl h1 hN hL hL1 hBr
end Go.Proofs.Ytlbomlolomcolaa
