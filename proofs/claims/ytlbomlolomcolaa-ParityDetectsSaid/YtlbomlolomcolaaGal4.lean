/- The contract of the closure combine of galois.reduced. -/
import Derived.Test.YtlbomlolomcolaaGal3
import Derived.Test.YtlbomlolomcolaaLin
import Derived.Deep.RegionWith
import Derived.Deep.LoopGhost
import Derived.Outline
namespace Go.Proofs.Ytlbomlolomcolaa
open Go.RowKit

theorem Tab.kept {S : Nat → Prop} {w w' : World} {b : Nat} (h : Tab w b) (k : Kept S w w') (hb : ¬ S b) : Tab w' b :=
  ⟨fun i hi => k.cell (h.1 i hi) hb, fun i hi => k.cell (h.2 i hi) hb⟩

theorem xor_u8 (a b : Nat) (ha : a < 256) (hb : b < 256) : bits .xor .u8 (a : Int) (b : Int) = ((a ^^^ b : Nat) : Int) := by
  have hx : a ^^^ b < 2 ^ 8 := Nat.xor_lt_two_pow (by omega) (by omega)
  have h1 : (BitVec.ofInt 8 (a : Int)).toNat = a := by
    rw [BitVec.ofInt_natCast, BitVec.toNat_ofNat]; exact Nat.mod_eq_of_lt (by omega)
  have h2 : (BitVec.ofInt 8 (b : Int)).toNat = b := by
    rw [BitVec.ofInt_natCast, BitVec.toNat_ofNat]; exact Nat.mod_eq_of_lt (by omega)
  show IntKind.u8.wrap ((BitVec.ofInt 8 (a : Int) ^^^ BitVec.ofInt 8 (b : Int)).toNat : Int) = _
  rw [BitVec.toNat_xor, h1, h2]
  exact IntWalk.u8_in _ (by omega)

theorem red1_step {w wr : World} {g T f k x y : Nat} {to fr : List Nat} (m : Nat) (hk : k < fr.length) (hl : to.length = fr.length) (hx : to.getD k 0 = x) (hy : fr.getD k 0 = y) (b1 : x < 256)
    (hK : Kept (· = g) w wr) (hB : Blk wr g T ((amTo f to fr k).map bv)) :
    Kept (· = g) w ((wr.drewN m).setCell ⟨g, k, none⟩ (.int .u8 (bits .xor .u8 x (Gf.gm f y)))) ∧ Blk ((wr.drewN m).setCell ⟨g, k, none⟩ (.int .u8 (bits .xor .u8 x (Gf.gm f y)))) g T ((amTo f to fr (k + 1)).map bv) := by
  refine ⟨(hK.drewN _).setCell (fun _ => rfl) _, ?_⟩
  have h1 := (hB.drewN m).setCell (i := k) (by simpa using (List.getElem?_eq_some_iff.1 (amTo_get (f := f) hk hl)).1) (.int .u8 (bits .xor .u8 x (Gf.gm f y)))
  rw [xor_u8 _ _ b1 (Gf.gm_lt _ _)] at h1 ⊢
  rw [← amTo_set hk hl, hx, hy, List.map_set]
  exact h1

set_option maxRecDepth 100000 in
set_option maxHeartbeats 1000000 in
theorem reduced1_any (g cap b o cap2 f pp tk : Nat) (to fr : List Nat) (w : World) (hl : to.length = fr.length) (hn : fr.length ≤ 1000000000) (hf : f < 256) (ht : Byt to) (hfr : Byt fr)
    (hg : Blk w g 5 (to.map bv)) (hb : RowAt w b o fr) (hp : w.cell? ⟨pp, 0, none⟩ = some (.pointer (some ⟨tk, 0, none⟩))) (hT : Tab w tk) (n1 : b ≠ g) (n2 : pp ≠ g) (n3 : tk ≠ g) :
    Calls Try.prog 121 #[.slice (some ⟨g, 0, none⟩) to.length cap, .slice (some ⟨b, o, none⟩) fr.length cap2, .int .u8 f, .pointer (some ⟨pp, 0, none⟩)] w fun e w' =>
      e = .returned (.tuple #[]) ∧ Kept (· = g) w w' ∧ Blk w' g 5 ((addMul f to fr).map bv) := by
  have HL := Lib.hid hl
  have Hg := Lib.hid hg
  have Hb := Lib.hid hb
  have Hp := Lib.hid hp
  have HT := Lib.hid hT
  have hl1 : to.length ≤ fr.length := by omega
  have hl2 : fr.length ≤ to.length := by omega
  clear hl hg hb hp hT
  go_enter Try.func121, Try.ntmps121
  go_wp2
  go_loopw [11] (fun i wr => ∃ k : Nat, k ≤ fr.length ∧ i = .int .i64 k ∧ Hid (Kept (· = g) w wr) ∧ Hid (Blk wr g 5 ((amTo f to fr k).map bv))) (fun i _ => fr.length - (intOf i).toNat)
  case atStart => exact ⟨0, by omega, rfl, Kept.refl _ _, by have := Hg.out; rw [amTo_zero]; exact this⟩
  case round =>
    obtain ⟨k, hk, rfl, hK, hB⟩ := hrel
    by_cases hlt : k < fr.length
    · have c1 : wr.cell? ⟨g, k, none⟩ = some (.int .u8 (to.getD k 0)) := hB.out.cell (by simp [amTo_get hlt HL.out, bv])
      have c2 : wr.cell? ⟨b, o + k, none⟩ = some (.int .u8 (fr.getD k 0)) := hK.out.cell (Hb.out k (fr.getD k 0) (by simp [hlt])) n1
      have c3 : wr.cell? ⟨pp, 0, none⟩ = some (.pointer (some ⟨tk, 0, none⟩)) := hK.out.cell Hp.out n2
      have c4 := hB.out.frozen k
      have cT := Lib.hid (HT.out.kept hK.out n3)
      have b1 := ht.getD k
      have b2 := hfr.getD k
      generalize hx : to.getD k 0 = x at *
      generalize hy : fr.getD k 0 = y at *
      have Hx := Lib.hid hx
      have Hy := Lib.hid hy
      clear hx hy
      go_wp2_with fail
      go_region_with (go_at_call 82; refine (mul_any _ _ _ _ hf b2 (by exact cT.out)).mono ?_; rintro e w' ⟨rfl, n, rfl⟩)
      all_goals
        go_wp2
        go_roundw
        case rel =>
          obtain ⟨r1, r2⟩ := red1_step (f := f) _ hlt HL.out Hx.out Hy.out b1 hK.out hB.out
          exact ⟨k + 1, by omega, by go_num, r1, r2⟩
        case measure => simp [intOf]; omega
    · have he := Lib.hid (show k = fr.length by omega)
      go_wp2
      go_end0
      refine ⟨rfl, hK.out, ?_⟩
      have := hB.out
      rw [amTo_all he.out HL.out] at this
      exact this
end Go.Proofs.Ytlbomlolomcolaa
