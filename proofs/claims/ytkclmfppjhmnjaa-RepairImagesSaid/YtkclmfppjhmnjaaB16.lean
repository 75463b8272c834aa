/- Contracts of the reference's Cauchy, Few, Copy, Identity, scale and subtract. -/
/- Contracts of the reference's Few, Copy and Identity. -/
import Derived.Test.YtkclmfppjhmnjaaB14
import Derived.Test.YtkclmfppjhmnjaaB01
import Derived.Test.YtkclmfppjhmnjaaB15
namespace Go.Proofs.Ytkclmfppjhmnjaa
open Go.RowKit

set_option maxRecDepth 100000 in
set_option maxHeartbeats 4000000 in
theorem rCauchy_in (n m : Nat) (w : World) (h1 : 1 ≤ n) (h2 : n ≤ 64) (h3 : 1 ≤ m) (h4 : m ≤ 64) :
    Calls Try.prog 107 #[.int .i64 n, .int .i64 m] w (RowsErr (cauM n m) 0 w) := by
  obtain ⟨i0, hi, hz0, hz1, hz2⟩ := info_parts infoByte
  obtain ⟨j0, gi, gz0, gz1, gz2⟩ := info_parts infoBytes
  have hx := fun (i k : Nat) (hi : i < n) (hk : k < m) => cau_xor h2 h4 hi hk
  have Hx := Lib.hid hx
  clear hx
  go_enter Try.func107, Try.ntmps107
  go_wp2_with fail
  go_loopg [6, 7] n (fun gk v i wr => ∃ k : Nat, k + gk = n ∧ i = .int .i64 k ∧ Hid (∃ hd, GM wr w.heap.size v hd ((cauM n m).take k)) ∧ Hid (Below w.heap.size w wr))
  case atStart => exact ⟨0, by omega, rfl, ⟨[], GM.nil _ _⟩, Below.refl _ _⟩
  case round =>
    obtain ⟨k, hgk, rfl, hG, hB⟩ := hrel
    have Hgk := Lib.hid hgk
    have hk : k ≤ n := by omega
    clear hgk
    by_cases hlt : k < n
    · obtain ⟨wo, rfl⟩ : ∃ wo : World, wo = wr := ⟨_, rfl⟩
      go_wp2_with fail
      go_loopg [8, 9] m (fun gk v i wr => ∃ j : Nat, j + gk = m ∧ i = .int .i64 j ∧ Hid (wr.ownsRow wo.heap.size 5 1 v j (((cauRow n m k).take j).map bv)) ∧ Hid (Below wo.heap.size wo wr))
      case atStart => exact ⟨0, by omega, rfl, World.ownsRow_nil _ _ _ _, Below.refl _ _⟩
      case round =>
        obtain ⟨j, hgj, rfl, hO, hBr⟩ := hrel
        have Hgj := Lib.hid hgj
        have hj : j ≤ m := by omega
        clear hgj
        by_cases hlt2 : j < m
        · have hxx := Hx.out k j hlt hlt2
          have e1 : bits .xor .u8 (k : Int) ((n : Int) + j) = ((k ^^^ (n + j) : Nat) : Int) := by
            have := xor_u8 k (n + j) (by omega) (by omega)
            rw [← this]; congr 1
          have htk := Lib.hid (cauRow_take (n := n) (i := k) hlt2)
          generalize k ^^^ (n + j) = x at *
          have hx1 := hxx.1
          have hx0 := Lib.hid hxx.2
          have hz3 : wo.heap.size ≤ wr.heap.size := hBr.out.size
          clear hxx
          go_wp2_with fail
          refine (rInv_any x _ hx1).mono ?_
          rintro e w3 ⟨rfl, rfl⟩
          rw [Gf.gi0_ne hx0.out, Gf.ge0_ne hx0.out]
          go_wp2_with (at_builtin; refine wpList_append_own _ rfl _ _ 26 rfl wo.heap.size 5 i0 (.int .u8 0) 1 1 Try.underlying26 hi hz0 hz1 hz2 rfl (by decide) _ _ _ rfl (hO.out.alloc _) ⟨wr.heap.size, 0, none⟩ 1 1 [bv (Gf.gi x)] rfl rfl ?c1 ?c2 ?c3 ?c4 ?c5 ?_)
          case c1 => exact cell_one_new _ _ _
          case c2 => intro u hu; simp at hu; subst hu; rfl
          case c3 => unfold maxLen; omega
          case c4 => omega
          case c5 => simp; omega
          intro v' w5 hown hgr _
          have hown' : w5.ownsRow wo.heap.size 5 1 v' (j + 1) (((cauRow n m k).take (j + 1)).map bv) := by rw [htk.out, List.map_append, List.map_take]; exact hown
          have hB5 : Below wo.heap.size wo w5 := (hBr.out.alloc hz3 _).grown hgr (by simp; omega) (fun q hq => (owns_block hO.out hq).2.1)
          have Hown := Lib.hid hown'
          have HB5 := Lib.hid hB5
          clear hown hown' hB5 hgr
          go_wp2_with fail
          go_roundg (m - j - 1)
          case measure => have := Hgj.out; omega
          case rel => exact ⟨j + 1, by have := Hgj.out; omega, by go_num, Hown.out, HB5.out⟩
        · have hjm : (cauRow n m k).take j = cauRow n m k := List.take_of_length_le (by rw [cauRow_length]; omega)
          have hO' := hO.out
          rw [hjm, show j = (cauRow n m k).length by rw [cauRow_length]; omega] at hO'
          obtain ⟨hd, hG⟩ := hG.out
          obtain ⟨g, cg, hv, g1, g3, g4⟩ := ne_of_owns hO' (by rw [cauRow_length]; omega)
          rw [hv] at hO'
          have Hblk := Lib.hid (Blk.of_owns hO')
          have HG := Lib.hid hG
          have HGo := Lib.hid ((hG.new hBr.out).outer)
          have hzr : w.heap.size ≤ wr.heap.size := by have := hB.out.size; have := hBr.out.size; omega
          have hlk : ((cauM n m).take k).length = k := by rw [List.length_take, cauM_length]; omega
          have Hlk := Lib.hid hlk
          rw [hv]
          clear hjm hO' hv hG hO hlk
          go_wp2_with (at_builtin; refine wpList_append_own _ rfl _ _ 44 rfl w.heap.size 26 j0 (.slice none 0 0) 1 24 Try.underlying44 gi gz0 gz1 gz2 rfl (by decide) _ _ _ rfl (HGo.out.alloc _) ⟨wr.heap.size, 0, none⟩ 1 1 [hv (cauRow n m k).length (g, cg)] rfl rfl ?d1 ?d2 ?d3 ?d4 ?d5 ?_)
          case d1 => exact cell_one_new _ _ _
          case d2 => intro u hu; simp at hu; subst hu; rfl
          case d3 => rw [Hlk.out]; unfold maxLen; omega
          case d4 => rw [Hlk.out]; omega
          case d5 => simp; omega
          intro v' w5 hown hgr _
          have hG5 := HG.out.snoc hBr.out (p := (g, cg)) (r := cauRow n m k) Hblk.out g1 hB.out.size g3 (by rw [Hlk.out]; rw [cauM_length, Nat.min_eq_left hk] at hown; exact hown) hgr
          rw [← cauM_take hlt] at hG5
          have hB5 : Below w.heap.size w w5 := ((hB.out.trans (hBr.out.mono hB.out.size)).alloc hzr _).grown hgr (by simp; omega) (fun q hq => (owns_block HG.out.outer hq).2.1)
          have HG5 := Lib.hid hG5
          have HB5 := Lib.hid hB5
          clear hown hgr hG5 hB5
          go_wp2_with fail
          go_roundg (n - k - 1)
          case measure => have := Hgk.out; omega
          case rel => exact ⟨k + 1, by have := Hgk.out; omega, by go_num, ⟨_, HG5.out⟩, HB5.out⟩
    · have hkn : (cauM n m).take k = cauM n m := List.take_of_length_le (by rw [cauM_length]; omega)
      obtain ⟨hd, hG⟩ := hG.out
      rw [hkn] at hG
      have HG := Lib.hid hG
      clear hG hkn
      go_wp2_with fail
      go_ret2
      exact ⟨_, hd, rfl, HG.out, hB.out⟩

def scaleRow (x : Nat) (r : List Nat) : List Nat := r.map fun t => Gf.gm t x
def scTo (x : Nat) (r : List Nat) (k : Nat) : List Nat := (scaleRow x r).take k ++ r.drop k
theorem scaleRow_length (x : Nat) (r : List Nat) : (scaleRow x r).length = r.length := by simp [scaleRow]
theorem scTo_zero (x : Nat) (r : List Nat) : scTo x r 0 = r := by simp [scTo]
theorem scTo_all {x : Nat} {r : List Nat} {k : Nat} (hk : r.length ≤ k) : scTo x r k = scaleRow x r := by
  unfold scTo
  rw [List.take_of_length_le (by rw [scaleRow_length]; exact hk), List.drop_of_length_le hk, List.append_nil]
theorem scTo_get {x : Nat} {r : List Nat} {k : Nat} (hk : k < r.length) : (scTo x r k)[k]? = some (r.getD k 0) := by
  have h1 : ((scaleRow x r).take k).length = k := by rw [List.length_take, scaleRow_length]; omega
  unfold scTo
  rw [List.getElem?_append_right (by omega), h1, Nat.sub_self, List.getElem?_drop, Nat.add_zero]
  exact getD_some hk
theorem scTo_set {x : Nat} {r : List Nat} {k : Nat} (hk : k < r.length) : (scTo x r k).set k (Gf.gm (r.getD k 0) x) = scTo x r (k + 1) := by
  have h1 : ((scaleRow x r).take k).length = k := by rw [List.length_take, scaleRow_length]; omega
  have h2 : k < (scaleRow x r).length := by rw [scaleRow_length]; exact hk
  have h3 : (scaleRow x r)[k] = Gf.gm (r.getD k 0) x := by simp [scaleRow, List.getD_eq_getElem?_getD, List.getElem?_eq_getElem hk]
  unfold scTo
  rw [List.set_append_right _ _ (by omega), h1, Nat.sub_self, List.take_succ_eq_append_getElem h2, h3, List.drop_eq_getElem_cons hk, List.append_assoc]
  rfl

theorem sc_step {w wr : World} {g T x k t : Nat} {r : List Nat} (hk : k < r.length) (ht : r.getD k 0 = t) (hK : Kept (· = g) w wr) (hB : Blk wr g T ((scTo x r k).map bv)) :
    Kept (· = g) w (wr.setCell ⟨g, k, none⟩ (.int .u8 (Gf.gm t x))) ∧ Blk (wr.setCell ⟨g, k, none⟩ (.int .u8 (Gf.gm t x))) g T ((scTo x r (k + 1)).map bv) := by
  refine ⟨hK.setCell (fun _ => rfl) _, ?_⟩
  have h1 := hB.setCell (i := k) (by simpa using (List.getElem?_eq_some_iff.1 (scTo_get (x := x) hk)).1) (.int .u8 (Gf.gm t x))
  rw [← scTo_set hk, ht, List.map_set]
  exact h1

end Go.Proofs.Ytkclmfppjhmnjaa

namespace Go.Proofs.Ytkclmfppjhmnjaa
open Go.RowKit

/-- What a function that returns rows of its own leaves. -/
def RowsRet (rows : List (List Nat)) (w : World) (e : Ending) (w' : World) : Prop :=
  ∃ v hd, e = .returned v ∧ GM w' w.heap.size v hd rows ∧ Below w.heap.size w w'

def rowFew (r : List Nat) : Prop := ¬ (12 < r.length ∧ r.length ≤ 64 ∨ 200 < r.length)
def fewM (m : List (List Nat)) : Prop := ¬ (12 < m.length ∧ m.length ≤ 64) ∧ (∀ i, i < m.length → rowFew (m.getD i [])) ∧ m.length ≤ 200
instance (r : List Nat) : Decidable (rowFew r) := by unfold rowFew; infer_instance
instance (m : List (List Nat)) : Decidable (fewM m) := by unfold fewM; infer_instance
def fewB (m : List (List Nat)) : Bool := decide (fewM m)

theorem fewB_true {m : List (List Nat)} (h : fewM m) : fewB m = true := by unfold fewB; exact decide_eq_true h
theorem fewB_false {m : List (List Nat)} (h : ¬ fewM m) : fewB m = false := by unfold fewB; exact decide_eq_false h

theorem fewM.small {m : List (List Nat)} (h : fewM m) (hI : isMat m) : m.length ≤ 12 ∧ (m.getD 0 []).length ≤ 12 := by
  have h1 := hI.1
  have h2 := hI.2.1
  have h3 := hI.2.2.2.1
  have h4 := h.2.1 0 (by omega)
  unfold rowFew at h4
  have h5 := h.1
  omega

def idM (n : Nat) : List (List Nat) := (List.range n).map (unitVec n)
theorem idM_length (n : Nat) : (idM n).length = n := by simp [idM]
theorem idM_take {n k : Nat} (hk : k < n) : (idM n).take (k + 1) = (idM n).take k ++ [unitVec n k] := by
  rw [List.take_add_one]; simp [idM, hk]

set_option maxRecDepth 100000 in
set_option maxHeartbeats 2000000 in
theorem rIdentity_any (n : Nat) (w : World) (hn : n ≤ 1000) : Calls Try.prog 106 #[.int .i64 n] w (RowsRet (idM n) w) := by
  obtain ⟨j0, gi, gz0, gz1, gz2⟩ := info_parts infoBytes
  have mk := mkBytes n (by omega)
  go_enter Try.func106, Try.ntmps106
  go_wp2_with fail
  go_loopg [3, 4] n (fun gk v i wr => ∃ k : Nat, k + gk = n ∧ i = .int .i64 k ∧ Hid (∃ hd, GM wr w.heap.size v hd ((idM n).take k)) ∧ Hid (Below w.heap.size w wr))
  case atStart => exact ⟨0, by omega, rfl, ⟨[], GM.nil _ _⟩, Below.refl _ _⟩
  case round =>
    obtain ⟨k, hgk, rfl, hG, hB⟩ := hrel
    have Hgk := Lib.hid hgk
    have hk : k ≤ n := by omega
    clear hgk
    by_cases hlt : k < n
    · obtain ⟨hd, hG⟩ := hG.out
      have hzk := zs_get hlt
      have htk := Lib.hid (idM_take hlt)
      have hu := Blk.new wr 5 ((zs n).setIfInBounds k (.int .u8 1))
      have hz1 := zs_set n k 1
      rw [show ((1 : Nat) : Int) = 1 from rfl] at hz1
      rw [hz1] at hu
      have Hblk := Lib.hid (show Blk _ _ _ ((unitVec n k).map bv) from hu)
      have hBw : Below wr.heap.size wr (wr.alloc (.cells ((zs n).setIfInBounds k (.int .u8 1)) 5)) := (Below.refl _ _).alloc (Nat.le_refl _) _
      have HBw := Lib.hid hBw
      have HG := Lib.hid hG
      have HGo := Lib.hid ((hG.new hBw).outer)
      have HBr := Lib.hid hB.out
      have hzz : w.heap.size ≤ wr.heap.size := hB.out.size
      have hlk : ((idM n).take k).length = k := by rw [List.length_take, idM_length]; omega
      have Hlk := Lib.hid hlk
      clear hG hB hu hz1 hBw hlk
      go_wp2_with (at_builtin; refine wpList_append_own _ rfl _ _ 44 rfl w.heap.size 26 j0 (.slice none 0 0) 1 24 Try.underlying44 gi gz0 gz1 gz2 rfl (by decide) _ _ _ rfl (HGo.out.alloc _) ⟨wr.heap.size + 1, 0, none⟩ 1 1 [hv n (wr.heap.size, n)] rfl rfl ?d1 ?d2 ?d3 ?d4 ?d5 ?_)
      case d1 =>
        have := cell_one_new (wr.alloc (.cells ((zs n).setIfInBounds k (.int .u8 1)) 5)) (hv n (wr.heap.size, n)) 26
        unfold hv at this ⊢
        simpa using this
      case d2 => intro u hu; simp only [List.mem_cons, List.not_mem_nil, or_false] at hu; subst hu; rfl
      case d3 => rw [Hlk.out]; unfold maxLen; omega
      case d4 => rw [Hlk.out]; omega
      case d5 => simp; omega
      intro v' w5 hown hgr _
      have hG5 := HG.out.snoc HBw.out (p := (wr.heap.size, n)) (r := unitVec n k) Hblk.out (Nat.le_refl _) HBr.out.size (by rw [unitVec_length]; exact Nat.le_refl _) (by rw [Hlk.out, unitVec_length]; simpa [idM_length, Nat.min_eq_left hk] using hown) (by simpa using hgr)
      rw [← htk.out] at hG5
      have hB5 : Below w.heap.size w w5 := ((HBr.out.trans (HBw.out.mono HBr.out.size)).alloc (by simp; omega) _).grown hgr (by simp; omega) (fun q hq => (owns_block HG.out.outer hq).2.1)
      have HG5 := Lib.hid hG5
      have HB5 := Lib.hid hB5
      clear hown hgr hG5 hB5
      go_wp2_with fail
      go_roundg (n - k - 1)
      case measure => have := Hgk.out; omega
      case rel => exact ⟨k + 1, by have := Hgk.out; omega, by go_num, ⟨_, HG5.out⟩, HB5.out⟩
    · have hkn : (idM n).take k = idM n := List.take_of_length_le (by rw [idM_length]; omega)
      obtain ⟨hd, hG⟩ := hG.out
      rw [hkn] at hG
      have HG := Lib.hid hG
      clear hG hkn
      go_wp2_with fail
      go_ret
      exact ⟨_, hd, rfl, HG.out, hB.out⟩
end Go.Proofs.Ytkclmfppjhmnjaa
