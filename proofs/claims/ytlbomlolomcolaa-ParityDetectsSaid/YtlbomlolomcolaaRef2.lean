/- Contracts of the reference's Cauchy, Few, Copy, Identity, scale and subtract. -/
import Derived.Test.YtlbomlolomcolaaGal8
import Derived.Test.YtlbomlolomcolaaGal2
import Derived.Test.YtlbomlolomcolaaRef1
namespace Go.Proofs.Ytlbomlolomcolaa
open Go.RowKit

set_option maxRecDepth 100000 in
set_option maxHeartbeats 4000000 in
theorem rCauchy_in (n m : Nat) (w : World) (h1 : 1 ≤ n) (h2 : n ≤ 64) (h3 : 1 ≤ m) (h4 : m ≤ 64) :
    Calls Try.prog 79 #[.int .i64 n, .int .i64 m] w (RowsErr (cauM n m) 0 w) := by
  obtain ⟨i0, hi, hz0, hz1, hz2⟩ := info_parts infoByte
  obtain ⟨j0, gi, gz0, gz1, gz2⟩ := info_parts infoBytes
  have hx := fun (i k : Nat) (hi : i < n) (hk : k < m) => cau_xor h2 h4 hi hk
  have Hx := Lib.hid hx
  clear hx
  go_enter Try.func79, Try.ntmps79
  go_wp2_with fail
  go_loopg [6, 7] n (fun gk v i wr => ∃ k : Nat, k + gk = n ∧ i = .int .i64 k ∧ Hid (∃ hd, GM wr w.heap.size v hd ((cauM n m).take k)) ∧ Hid (Below w.heap.size w wr))
  case atStart => exact ⟨0, by omega, rfl, ⟨[], GM.nil _ _⟩, Below.refl _ _⟩
  case round =>
    obtain ⟨k, hgk, rfl, hG, hB⟩ := hrel
    have Hgk := Lib.hid hgk
    have hk : k ≤ n := by omega
    clear hgk
    by_cases hlt : k < n
    · obtain ⟨wo, rfl⟩ : ∃ wo : World, wo = wr := ⟨_, rfl⟩
      go_wp2_with fail
      go_loopg [8, 9] m (fun gk v i wr => ∃ j : Nat, j + gk = m ∧ i = .int .i64 j ∧ Hid (wr.ownsRow wo.heap.size 5 1 v j (((cauRow n m k).take j).map bv)) ∧ Hid (Below wo.heap.size wo wr))
      case atStart => exact ⟨0, by omega, rfl, World.ownsRow_nil _ _ _ _, Below.refl _ _⟩
      case round =>
        obtain ⟨j, hgj, rfl, hO, hBr⟩ := hrel
        have Hgj := Lib.hid hgj
        have hj : j ≤ m := by omega
        clear hgj
        by_cases hlt2 : j < m
        · have hxx := Hx.out k j hlt hlt2
          have e1 : bits .xor .u8 (k : Int) ((n : Int) + j) = ((k ^^^ (n + j) : Nat) : Int) := by
            have := xor_u8 k (n + j) (by omega) (by omega)
            rw [← this]; congr 1
          have htk := Lib.hid (cauRow_take (n := n) (i := k) hlt2)
          generalize k ^^^ (n + j) = x at *
          have hx1 := hxx.1
          have hx0 := Lib.hid hxx.2
          have hz3 : wo.heap.size ≤ wr.heap.size := hBr.out.size
          clear hxx
          go_wp2_with fail
          refine (rInv_any x _ hx1).mono ?_
          rintro e w3 ⟨rfl, rfl⟩
          rw [Gf.gi0_ne hx0.out, Gf.ge0_ne hx0.out]
          go_wp2_with (at_builtin; refine wpList_append_own _ rfl _ _ 26 rfl wo.heap.size 5 i0 (.int .u8 0) 1 1 Try.underlying26 hi hz0 hz1 hz2 rfl (by decide) _ _ _ rfl (hO.out.alloc _) ⟨wr.heap.size, 0, none⟩ 1 1 [bv (Gf.gi x)] rfl rfl ?c1 ?c2 ?c3 ?c4 ?c5 ?_)
          case c1 => exact cell_one_new _ _ _
          case c2 => intro u hu; simp at hu; subst hu; rfl
          case c3 => unfold maxLen; omega
          case c4 => omega
          case c5 => simp; omega
          intro v' w5 hown hgr _
          have hown' : w5.ownsRow wo.heap.size 5 1 v' (j + 1) (((cauRow n m k).take (j + 1)).map bv) := by rw [htk.out, List.map_append, List.map_take]; exact hown
          have hB5 : Below wo.heap.size wo w5 := (hBr.out.alloc hz3 _).grown hgr (by simp; omega) (fun q hq => (owns_block hO.out hq).2.1)
          have Hown := Lib.hid hown'
          have HB5 := Lib.hid hB5
          clear hown hown' hB5 hgr
          go_wp2_with fail
          go_roundg (m - j - 1)
          case measure => have := Hgj.out; omega
          case rel => exact ⟨j + 1, by have := Hgj.out; omega, by go_num, Hown.out, HB5.out⟩
        · have hjm : (cauRow n m k).take j = cauRow n m k := List.take_of_length_le (by rw [cauRow_length]; omega)
          have hO' := hO.out
          rw [hjm, show j = (cauRow n m k).length by rw [cauRow_length]; omega] at hO'
          obtain ⟨hd, hG⟩ := hG.out
          obtain ⟨g, cg, hv, g1, g3, g4⟩ := ne_of_owns hO' (by rw [cauRow_length]; omega)
          rw [hv] at hO'
          have Hblk := Lib.hid (Blk.of_owns hO')
          have HG := Lib.hid hG
          have HGo := Lib.hid ((hG.new hBr.out).outer)
          have hzr : w.heap.size ≤ wr.heap.size := by have := hB.out.size; have := hBr.out.size; omega
          have hlk : ((cauM n m).take k).length = k := by rw [List.length_take, cauM_length]; omega
          have Hlk := Lib.hid hlk
          rw [hv]
          clear hjm hO' hv hG hO hlk
          go_wp2_with (at_builtin; refine wpList_append_own _ rfl _ _ 39 rfl w.heap.size 26 j0 (.slice none 0 0) 1 24 Try.underlying39 gi gz0 gz1 gz2 rfl (by decide) _ _ _ rfl (HGo.out.alloc _) ⟨wr.heap.size, 0, none⟩ 1 1 [hv (cauRow n m k).length (g, cg)] rfl rfl ?d1 ?d2 ?d3 ?d4 ?d5 ?_)
          case d1 => exact cell_one_new _ _ _
          case d2 => intro u hu; simp at hu; subst hu; rfl
          case d3 => rw [Hlk.out]; unfold maxLen; omega
          case d4 => rw [Hlk.out]; omega
          case d5 => simp; omega
          intro v' w5 hown hgr _
          have hG5 := HG.out.snoc hBr.out (p := (g, cg)) (r := cauRow n m k) Hblk.out g1 hB.out.size g3 (by rw [Hlk.out]; rw [cauM_length, Nat.min_eq_left hk] at hown; exact hown) hgr
          rw [← cauM_take hlt] at hG5
          have hB5 : Below w.heap.size w w5 := ((hB.out.trans (hBr.out.mono hB.out.size)).alloc hzr _).grown hgr (by simp; omega) (fun q hq => (owns_block HG.out.outer hq).2.1)
          have HG5 := Lib.hid hG5
          have HB5 := Lib.hid hB5
          clear hown hgr hG5 hB5
          go_wp2_with fail
          go_roundg (n - k - 1)
          case measure => have := Hgk.out; omega
          case rel => exact ⟨k + 1, by have := Hgk.out; omega, by go_num, ⟨_, HG5.out⟩, HB5.out⟩
    · have hkn : (cauM n m).take k = cauM n m := List.take_of_length_le (by rw [cauM_length]; omega)
      obtain ⟨hd, hG⟩ := hG.out
      rw [hkn] at hG
      have HG := Lib.hid hG
      clear hG hkn
      go_wp2_with fail
      go_ret2
      exact ⟨_, hd, rfl, HG.out, hB.out⟩

def scaleRow (x : Nat) (r : List Nat) : List Nat := r.map fun t => Gf.gm t x
def scTo (x : Nat) (r : List Nat) (k : Nat) : List Nat := (scaleRow x r).take k ++ r.drop k
theorem scaleRow_length (x : Nat) (r : List Nat) : (scaleRow x r).length = r.length := by simp [scaleRow]
theorem scTo_zero (x : Nat) (r : List Nat) : scTo x r 0 = r := by simp [scTo]
theorem scTo_all {x : Nat} {r : List Nat} {k : Nat} (hk : r.length ≤ k) : scTo x r k = scaleRow x r := by
  unfold scTo
  rw [List.take_of_length_le (by rw [scaleRow_length]; exact hk), List.drop_of_length_le hk, List.append_nil]
theorem scTo_get {x : Nat} {r : List Nat} {k : Nat} (hk : k < r.length) : (scTo x r k)[k]? = some (r.getD k 0) := by
  have h1 : ((scaleRow x r).take k).length = k := by rw [List.length_take, scaleRow_length]; omega
  unfold scTo
  rw [List.getElem?_append_right (by omega), h1, Nat.sub_self, List.getElem?_drop, Nat.add_zero]
  exact getD_some hk
theorem scTo_set {x : Nat} {r : List Nat} {k : Nat} (hk : k < r.length) : (scTo x r k).set k (Gf.gm (r.getD k 0) x) = scTo x r (k + 1) := by
  have h1 : ((scaleRow x r).take k).length = k := by rw [List.length_take, scaleRow_length]; omega
  have h2 : k < (scaleRow x r).length := by rw [scaleRow_length]; exact hk
  have h3 : (scaleRow x r)[k] = Gf.gm (r.getD k 0) x := by simp [scaleRow, List.getD_eq_getElem?_getD, List.getElem?_eq_getElem hk]
  unfold scTo
  rw [List.set_append_right _ _ (by omega), h1, Nat.sub_self, List.take_succ_eq_append_getElem h2, h3, List.drop_eq_getElem_cons hk, List.append_assoc]
  rfl

theorem sc_step {w wr : World} {g T x k t : Nat} {r : List Nat} (hk : k < r.length) (ht : r.getD k 0 = t) (hK : Kept (· = g) w wr) (hB : Blk wr g T ((scTo x r k).map bv)) :
    Kept (· = g) w (wr.setCell ⟨g, k, none⟩ (.int .u8 (Gf.gm t x))) ∧ Blk (wr.setCell ⟨g, k, none⟩ (.int .u8 (Gf.gm t x))) g T ((scTo x r (k + 1)).map bv) := by
  refine ⟨hK.setCell (fun _ => rfl) _, ?_⟩
  have h1 := hB.setCell (i := k) (by simpa using (List.getElem?_eq_some_iff.1 (scTo_get (x := x) hk)).1) (.int .u8 (Gf.gm t x))
  rw [← scTo_set hk, ht, List.map_set]
  exact h1

set_option maxRecDepth 100000 in
set_option maxHeartbeats 1000000 in
theorem rscale_any (g cap n x : Nat) (r : List Nat) (w : World) (hl : r.length = n) (hn : n ≤ 1000000000) (hx : x < 256) (hr : Byt r) (hg : Blk w g 5 (r.map bv)) :
    Calls Try.prog 123 #[.slice (some ⟨g, 0, none⟩) n cap, .int .u8 x] w fun e w' => e = .returned (.tuple #[]) ∧ Kept (· = g) w w' ∧ Blk w' g 5 ((scaleRow x r).map bv) := by
  have HL := Lib.hid hl
  have Hg := Lib.hid hg
  clear hl hg
  go_enter Try.func123, Try.ntmps123
  go_wp2_with fail
  go_loopg [4] n (fun gk i wr => ∃ k : Nat, k + gk = n ∧ i = .int .i64 k ∧ Hid (Kept (· = g) w wr) ∧ Hid (Blk wr g 5 ((scTo x r k).map bv)))
  case atStart => exact ⟨0, by omega, rfl, Kept.refl _ _, by have := Hg.out; rw [scTo_zero]; exact this⟩
  case round =>
    obtain ⟨k, hgk, rfl, hK, hB⟩ := hrel
    have Hgk := Lib.hid hgk
    have hk : k ≤ n := by omega
    clear hgk
    by_cases hlt : k < n
    · have hlt' : k < r.length := by rw [HL.out]; exact hlt
      have c1 : wr.cell? ⟨g, k, none⟩ = some (.int .u8 (r.getD k 0)) := hB.out.cell (by rw [List.getElem?_map, scTo_get hlt']; rfl)
      have c4 := hB.out.frozen k
      have b1 := hr.getD k
      generalize ht : r.getD k 0 = t at *
      have Ht := Lib.hid ht
      have Hlt := Lib.hid hlt'
      clear ht hlt'
      go_wp2_with fail
      refine (rMul_any _ _ _ b1 hx).mono ?_
      rintro e w3 ⟨rfl, rfl⟩
      go_wp2_with fail
      go_roundg (n - k - 1)
      case measure => have := Hgk.out; omega
      case rel =>
        obtain ⟨r1, r2⟩ := sc_step (x := x) Hlt.out Ht.out hK.out hB.out
        exact ⟨k + 1, by have := Hgk.out; omega, by go_num, r1, r2⟩
    · have hfin := hB.out
      rw [scTo_all (by rw [HL.out]; omega)] at hfin
      have Hfin := Lib.hid hfin
      clear hfin
      go_wp2_with fail
      go_end0
      exact ⟨rfl, hK.out, Hfin.out⟩

set_option maxRecDepth 100000 in
set_option maxHeartbeats 1000000 in
theorem rscale_nil (x : Nat) (w : World) : Calls Try.prog 123 #[.slice none 0 0, .int .u8 x] w fun e w' => e = .returned (.tuple #[]) ∧ w = w' := by
  go_enter Try.func123, Try.ntmps123
  go_wp2_with fail
  go_loopg [4] 0 (fun gk i wr => gk = 0 ∧ i = .int .i64 0 ∧ w = wr)
  case atStart => exact ⟨rfl, rfl, rfl⟩
  case round =>
    obtain ⟨_, rfl, rfl⟩ := hrel
    go_wp2_with fail
    go_end0
    exact ⟨rfl, rfl⟩

set_option maxRecDepth 100000 in
set_option maxHeartbeats 1000000 in
theorem rsubtract_nil (x : Nat) (w : World) : Calls Try.prog 124 #[.slice none 0 0, .slice none 0 0, .int .u8 x] w fun e w' => e = .returned (.tuple #[]) ∧ w = w' := by
  go_enter Try.func124, Try.ntmps124
  go_wp2_with fail
  go_loopg [6] 0 (fun gk i wr => gk = 0 ∧ i = .int .i64 0 ∧ w = wr)
  case atStart => exact ⟨rfl, rfl, rfl⟩
  case round =>
    obtain ⟨_, rfl, rfl⟩ := hrel
    go_wp2_with fail
    go_end0
    exact ⟨rfl, rfl⟩

set_option maxRecDepth 100000 in
set_option maxHeartbeats 2000000 in
theorem rsubtract_any (g cap b o cap2 f n : Nat) (dst fr : List Nat) (w : World) (hl1 : dst.length = n) (hl2 : fr.length = n) (hn : n ≤ 1000000000) (hf : f < 256) (ht : Byt dst) (hfr : Byt fr)
    (hg : Blk w g 5 (dst.map bv)) (hb : RowAt w b o fr) (n1 : b ≠ g) :
    Calls Try.prog 124 #[.slice (some ⟨b, o, none⟩) n cap2, .slice (some ⟨g, 0, none⟩) n cap, .int .u8 f] w fun e w' =>
      e = .returned (.tuple #[]) ∧ Kept (· = g) w w' ∧ Blk w' g 5 ((addMul f dst fr).map bv) := by
  have HL := Lib.hid (hl1.trans hl2.symm)
  have HL2 := Lib.hid hl2
  have Hg := Lib.hid hg
  have Hb := Lib.hid hb
  clear hl1 hl2 hg hb
  go_enter Try.func124, Try.ntmps124
  go_wp2_with fail
  go_loopg [6] n (fun gk i wr => ∃ k : Nat, k + gk = n ∧ i = .int .i64 k ∧ Hid (Kept (· = g) w wr) ∧ Hid (Blk wr g 5 ((amTo f dst fr k).map bv)))
  case atStart => exact ⟨0, by omega, rfl, Kept.refl _ _, by have := Hg.out; rw [amTo_zero]; exact this⟩
  case round =>
    obtain ⟨k, hgk, rfl, hK, hB⟩ := hrel
    have Hgk := Lib.hid hgk
    have hk : k ≤ n := by omega
    clear hgk
    by_cases hlt : k < n
    · have hlt' : k < fr.length := by rw [HL2.out]; exact hlt
      have c1 : wr.cell? ⟨g, k, none⟩ = some (.int .u8 (dst.getD k 0)) := hB.out.cell (by rw [List.getElem?_map, amTo_get hlt' HL.out]; rfl)
      have c2 : wr.cell? ⟨b, o + k, none⟩ = some (.int .u8 (fr.getD k 0)) := hK.out.cell (Hb.out k (fr.getD k 0) (getD_some hlt')) n1
      have c4 := hB.out.frozen k
      have b1 := ht.getD k
      have b2 := hfr.getD k
      generalize hx : dst.getD k 0 = x at *
      generalize hy : fr.getD k 0 = y at *
      have Hx := Lib.hid hx
      have Hy := Lib.hid hy
      have Hlt := Lib.hid hlt'
      clear hx hy hlt'
      go_wp2_with fail
      go_region_with (go_at_call 59; refine (rMul_any _ _ _ b2 hf).mono ?_; rintro e w' ⟨rfl, rfl⟩; rw [Gf.gm_comm y f])
      all_goals
        go_wp2
        go_roundg (n - k - 1)
        case measure => have := Hgk.out; omega
        case rel =>
          obtain ⟨r1, r2⟩ := red1_step (f := f) 1 Hlt.out HL.out Hx.out Hy.out b1 hK.out hB.out
          exact ⟨k + 1, by have := Hgk.out; omega, by go_num, r1, r2⟩
    · have hfin := hB.out
      rw [amTo_all (by rw [HL2.out]; omega) HL.out] at hfin
      have Hfin := Lib.hid hfin
      clear hfin
      go_wp2_with fail
      go_end0
      exact ⟨rfl, hK.out, Hfin.out⟩
end Go.Proofs.Ytlbomlolomcolaa
