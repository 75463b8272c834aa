/- Contracts of galois.Product and of the reference's Product. -/
import Derived.Test.YtpiiigeabbhdaaaLawC
namespace Go.Proofs.Ytpiiigeabbhdaaa
open Go.RowKit

/-- The sum of the first i rows of b, times the first i elements of row. -/
def prTo (row : List Nat) (b : List (List Nat)) (cols : Nat) : Nat → List Nat
  | 0 => List.replicate cols 0
  | i + 1 => addMul (row.getD i 0) (prTo row b cols i) (b.getD i [])
def prodM (a b : List (List Nat)) : List (List Nat) := a.map fun row => prTo row b (b.getD 0 []).length b.length
def prodErr (a b : List (List Nat)) : Nat := if isMat a ∧ isMat b then if (a.getD 0 []).length = b.length then 0 else 23 else 6
def prodRows (a b : List (List Nat)) : List (List Nat) := if prodErr a b = 0 then prodM a b else []

theorem prTo_ok {row : List Nat} {b : List (List Nat)} {cols : Nat} (hb : Rect cols b) (i : Nat) (hi : i ≤ b.length) : (prTo row b cols i).length = cols ∧ Byt (prTo row b cols i) := by
  induction i with
  | zero =>
    refine ⟨by simp [prTo], fun x hx => ?_⟩
    have := List.eq_of_mem_replicate hx
    omega
  | succ i ih =>
    have h1 := ih (by omega)
    have h2 := hb.get (i := i) (by omega)
    exact ⟨by show (addMul _ _ _).length = _; rw [addMul_length]; omega, addMul_byt h1.2⟩

theorem prodM_length (a b : List (List Nat)) : (prodM a b).length = a.length := by simp [prodM]
theorem prodM_get {a b : List (List Nat)} {i : Nat} {r : List Nat} (h : a[i]? = some r) : (prodM a b)[i]? = some (prTo r b (b.getD 0 []).length b.length) := by simp [prodM, h]
theorem prodM_byt {a b : List (List Nat)} (hb : Rect (b.getD 0 []).length b) : BytM (prodM a b) := by
  intro r hr
  obtain ⟨row, _, rfl⟩ := List.mem_map.1 hr
  exact (prTo_ok hb _ (Nat.le_refl _)).2

theorem zs_map (n : Nat) : (zs n).toList = (List.replicate n 0).map bv := by
  unfold zs
  rw [List.map_replicate]

/-- galois.Product, where the sizes fit. -/
theorem Product_pre {w : World} {ba oa bb ob : Nat} {a b : List (List Nat)} {A A' : Nat → Option Addr} {C C' : Nat → Nat} (hMa : MxAt w ba oa a A C) (hMb : MxAt w bb ob b A' C') (ha : Rect b.length a) {cols : Nat} (hb : Rect cols b) (hc : 1 ≤ cols) (hbl : 1 ≤ b.length) :
    (∀ i, i < a.length → ∃ b' o', A i = some ⟨b', o', none⟩ ∧ RowAt w b' o' (a.getD i []) ∧ b' < w.heap.size) ∧ (∀ i, i < b.length → ∃ b' o', A' i = some ⟨b', o', none⟩ ∧ RowAt w b' o' (b.getD i []) ∧ b' < w.heap.size) := by
  constructor
  · intro i hi
    obtain ⟨b', o', h1, h2⟩ := RowAt.of_mx hMa (getD_some hi) (ha.nonempty hbl _ (List.mem_of_getElem? (getD_some hi)))
    have h3 := h2 0 _ (getD_some (d := 0) (by rw [(ha.get hi).1]; omega))
    exact ⟨b', o', h1, h2, World.block_lt_of_cell? w _ h3⟩
  · intro i hi
    obtain ⟨b', o', h1, h2⟩ := RowAt.of_mx hMb (getD_some hi) (hb.nonempty hc _ (List.mem_of_getElem? (getD_some hi)))
    have h3 := h2 0 _ (getD_some (d := 0) (by rw [(hb.get hi).1]; omega))
    exact ⟨b', o', h1, h2, World.block_lt_of_cell? w _ h3⟩

set_option maxRecDepth 100000 in
set_option maxHeartbeats 8000000 in
theorem Product_fit (ba oa capa bb ob capb cols : Nat) (a b : List (List Nat)) (A A' : Nat → Option Addr) (C C' : Nat → Nat) (w : World) (hca : a.length ≤ capa) (hcb : b.length ≤ capb) (hIa : isMat a) (hIb : isMat b) (hsq : (a.getD 0 []).length = b.length) (hcols : (b.getD 0 []).length = cols)
    (hBa : BytM a) (hBb : BytM b) (hMa : MxAt w ba oa a A C) (hMb : MxAt w bb ob b A' C') :
    Calls Try.prog 26 #[.slice (some ⟨ba, oa, none⟩) a.length capa, .slice (some ⟨bb, ob, none⟩) b.length capb] w (RowsErr (prodM a b) 0 w) := by
  obtain ⟨j0, gi, gz0, gz1, gz2⟩ := info_parts infoBytes
  have a1 := hIa.1
  have a2 := hIa.2.1
  have b1 := hIb.1
  have b2 := hIb.2.1
  have b3 := hIb.2.2.1
  have b4 := hIb.2.2.2.1
  rw [hcols] at b3 b4
  have hRa0 := hIa.rect hBa
  have hRb0 := hIb.rect hBb
  rw [hsq] at hRa0
  rw [hcols] at hRb0
  have hRa := Lib.hid hRa0
  have hRb := Lib.hid hRb0
  have hXa := Lib.hid (show Mx w (.slice (some ⟨ba, oa, none⟩) a.length capa) a from ⟨_, _, rfl, hca, Or.inr ⟨ba, oa, A, C, rfl, hMa⟩⟩)
  have hXb := Lib.hid (show Mx w (.slice (some ⟨bb, ob, none⟩) b.length capb) b from ⟨_, _, rfl, hcb, Or.inr ⟨bb, ob, A', C', rfl, hMb⟩⟩)
  obtain ⟨pa, pb⟩ := Product_pre hMa hMb hRa0 hRb0 b3 b1
  have HMa := Lib.hid hMa
  have HMb := Lib.hid hMb
  have Pa := Lib.hid pa
  have Pb := Lib.hid pb
  have HIa := Lib.hid hIa
  have HIb := Lib.hid hIb
  have nq : ((b.length : Int) != (b.length : Int)) = false := by simp
  have mk := mkBytes cols (by omega)
  have Hcols := Lib.hid hcols
  have Hsq := Lib.hid hsq
  clear hMa hMb pa pb hIa hIb hRa0 hRb0 hcols hsq hBa hBb
  go_enter Try.func26, Try.ntmps26
  go_wp2_with fail
  refine (isMatrix_any _ a _ (by omega) hXa.out).mono ?_
  rintro e w1 ⟨rfl, hB1⟩
  rw [isMatB_true HIa.out]
  have Xb1 := Lib.hid (hXb.out.new hB1)
  have B1 := Lib.hid hB1
  clear hB1
  go_wp2_with fail
  refine (isMatrix_any _ b _ (by omega) Xb1.out).mono ?_
  rintro e w2 ⟨rfl, hB2⟩
  rw [isMatB_true HIb.out]
  have hB12 := B1.out.trans (hB2.mono B1.out.size)
  have B2 := Lib.hid hB12
  have Ma2 := Lib.hid (HMa.out.new hB12)
  have Mb2 := Lib.hid (HMb.out.new hB12)
  have hca0 := (Ma2.out 0 _ (getD_some (d := []) (by omega))).1
  rw [Nat.add_zero, Hsq.out] at hca0
  clear hB2 hB12 B1 Xb1
  go_wp2_with fail
  refine (field_any _).mono ?_
  rintro e w' ⟨rfl, rfl⟩
  have hT0 := Tab.made w2
  have hB23 : Below w2.heap.size w2 (w2.alloc (.cells (tb 255) 64)) := (Below.refl _ _).alloc (Nat.le_refl _) _
  have hs3 : (w2.alloc (.cells (tb 255) 64)).heap.size = w2.heap.size + 1 := by simp
  have B3 := Lib.hid (B2.out.trans (hB23.mono B2.out.size))
  have hzw : w.heap.size ≤ w2.heap.size := B2.out.size
  generalize w2.alloc (.cells (tb 255) 64) = w3 at *
  have HT := Lib.hid hT0
  have Hs3 := Lib.hid hs3
  clear hT0 hB23 hs3 hca0 Ma2 Mb2 B2
  go_wp2_with fail
  go_loopg [7, 33] a.length (fun gk v i wr => ∃ k : Nat, k + gk = a.length ∧ i = .int .i64 k ∧ Hid (∃ hd, GM wr w3.heap.size v hd ((prodM a b).take k)) ∧ Hid (Below w3.heap.size w3 wr))
  case atStart => exact ⟨0, by omega, rfl, ⟨[], GM.nil _ _⟩, Below.refl _ _⟩
  case round =>
    obtain ⟨k, hgk, rfl, hG, hB⟩ := hrel
    have Hgk := Lib.hid hgk
    have hk : k ≤ a.length := by omega
    clear hgk
    by_cases hlt : k < a.length
    · obtain ⟨wo, rfl⟩ : ∃ wo : World, wo = wr := ⟨_, rfl⟩
      have hBo : Below w.heap.size w wo := B3.out.trans (hB.out.mono B3.out.size)
      have hak : a[k]? = some (a.getD k []) := getD_some hlt
      have hca := ((HMa.out.new hBo) k _ hak).1
      have hrl := (hRa.out.get hlt)
      obtain ⟨b', o', hA, hrow, hbw⟩ := Pa.out k hlt
      have hrowo := hrow.new hBo
      rw [hA, hrl.1] at hca
      have hcb0 := ((HMb.out.new hBo) 0 _ (getD_some (d := []) (by omega))).1
      rw [Nat.add_zero, Hcols.out] at hcb0
      have hpk := Lib.hid (show (prodM a b).take (k + 1) = (prodM a b).take k ++ [prTo (a.getD k []) b cols b.length] by rw [List.take_add_one, prodM_get hak, Hcols.out]; rfl)
      generalize hrr : a.getD k [] = r at *
      have HBo := Lib.hid hBo
      have Hrow := Lib.hid hrowo
      have Hr := Lib.hid hrl
      have hTo := Lib.hid (HT.out.below hB.out (by have := Hs3.out; omega))
      have hto : w2.heap.size < wo.heap.size := by have := Hs3.out; have := hB.out.size; omega
      have hnew := Lib.hid (show Blk (wo.alloc (.cells (zs cols) 5)) wo.heap.size 5 ((prTo r b cols 0).map bv) by have := Blk.new wo 5 (zs cols); rw [zs_map] at this; exact this)
      have hBn := Lib.hid ((Below.refl wo.heap.size wo).alloc (Nat.le_refl _) (.cells (zs cols) 5))
      clear hBo hak hrl hrow hrowo hA hrr
      go_wp2_with fail
      clear hca hcb0
      go_loopg [44] b.length (fun gk i wx => ∃ j : Nat, j + gk = b.length ∧ i = .int .i64 j ∧ Hid (Blk wx wo.heap.size 5 ((prTo r b cols j).map bv)) ∧ Hid (Below wo.heap.size wo wx))
      case atStart => exact ⟨0, by omega, rfl, hnew.out, hBn.out⟩
      case round =>
        obtain ⟨j, hgj, rfl, hS, hBx⟩ := hrel
        have Hgj := Lib.hid hgj
        have hj : j ≤ b.length := by omega
        clear hgj hnew hBn
        obtain ⟨wm, rfl⟩ : ∃ wm : World, wm = wr := ⟨_, rfl⟩
        by_cases hltj : j < b.length
        · have hBm : Below w.heap.size w wm := HBo.out.trans (hBx.out.mono HBo.out.size)
          have hx := (Hrow.out.new hBx.out) j _ (getD_some (d := 0) (by rw [Hr.out.1]; exact hltj))
          have hxB := Hr.out.2.getD j
          have hbj : b[j]? = some (b.getD j []) := getD_some hltj
          have hcb := ((HMb.out.new hBm) j _ hbj).1
          have hbl := hRb.out.get hltj
          obtain ⟨b2', o2', hA2, hrow2, hbw2⟩ := Pb.out j hltj
          have hb2o : b2' < wo.heap.size := by have := HBo.out.size; omega
          have hrow2m := hrow2.new hBm
          rw [hA2, hbl.1] at hcb
          have hsn := Lib.hid (show prTo r b cols (j + 1) = addMul (r.getD j 0) (prTo r b cols j) (b.getD j []) from rfl)
          have hso := Lib.hid (prTo_ok (row := r) hRb.out j hj)
          unfold bv at hx
          generalize r.getD j 0 = x at *
          generalize b.getD j [] = bj at *
          generalize prTo r b cols j = acc at *
          have Hrow2 := Lib.hid hrow2m
          have Hbl := Lib.hid hbl
          clear hBm hbj hA2 hrow2 hrow2m hbl
          go_wp2_with fail
          clear hx hcb
          go_loopg [54] cols (fun gk i wx => ∃ q : Nat, q + gk = cols ∧ i = .int .i64 q ∧ Hid (Blk wx wo.heap.size 5 ((amTo x acc bj q).map bv)) ∧ Hid (Kept (· = wo.heap.size) wm wx))
          case atStart => exact ⟨0, by omega, rfl, by rw [amTo_zero]; exact hS.out, Kept.refl _ _⟩
          case round =>
            obtain ⟨q, hgq, rfl, hSq, hKq⟩ := hrel
            have Hgq := Lib.hid hgq
            have hq : q ≤ cols := by omega
            clear hgq
            by_cases hltq : q < cols
            · have hq1 : q < bj.length := by rw [Hbl.out.1]; exact hltq
              have hll : acc.length = bj.length := by rw [Hbl.out.1, hso.out.1]
              have d1 : wr.cell? ⟨wo.heap.size, q, none⟩ = some (.int .u8 (acc.getD q 0)) := hSq.out.cell (by rw [List.getElem?_map, amTo_get hq1 hll]; rfl)
              have d4 := hSq.out.frozen q
              have d2 : wr.cell? ⟨b2', o2' + q, none⟩ = some (.int .u8 (bj.getD q 0)) := by
                have h1 := Hrow2.out q _ (getD_some (d := 0) hq1)
                exact hKq.out.cell h1 (by show ¬ b2' = wo.heap.size; omega)
              have cT := Lib.hid ((hTo.out.below hBx.out hto).kept hKq.out (by show ¬ w2.heap.size = wo.heap.size; omega))
              have e1 := hso.out.2.getD q
              have e2 := Hbl.out.2.getD q
              generalize hxx : acc.getD q 0 = u at *
              generalize hyy : bj.getD q 0 = y at *
              have Hxx := Lib.hid hxx
              have Hyy := Lib.hid hyy
              have Hq1 := Lib.hid hq1
              have Hll := Lib.hid hll
              clear hxx hyy hq1 hll
              go_wp2_with fail
              go_region_with (go_at_call 32; refine (mul_any _ _ _ _ hxB e2 (by exact cT.out)).mono ?_; rintro e w' ⟨rfl, n, rfl⟩)
              all_goals
                go_wp2
                go_roundg (cols - q - 1)
                case measure => have := Hgq.out; omega
                case rel =>
                  obtain ⟨r1, r2⟩ := red1_step (f := x) _ Hq1.out Hll.out Hxx.out Hyy.out e1 hKq.out hSq.out
                  exact ⟨q + 1, by have := Hgq.out; omega, by go_num, r2, r1⟩
            · have hfin := hSq.out
              rw [amTo_all (by rw [Hbl.out.1]; omega) (by rw [Hbl.out.1, hso.out.1]), ← hsn.out] at hfin
              have Hfin := Lib.hid hfin
              have hBe : Below wo.heap.size wo wr := hBx.out.trans (hKq.out.below hBx.out.size fun g hg e => by omega)
              have HBe := Lib.hid hBe
              clear hfin hBe
              go_wp2_with fail
              go_roundg (b.length - j - 1)
              case measure => have := Hgj.out; omega
              case rel => exact ⟨j + 1, by have := Hgj.out; omega, by go_num, Hfin.out, HBe.out⟩
        · have hjb : j = b.length := by omega
          obtain ⟨hd, hG⟩ := hG.out
          have Hblk := Lib.hid (show Blk wm wo.heap.size 5 ((prTo r b cols b.length).map bv) by have := hS.out; rw [hjb] at this; exact this)
          have hpl := Lib.hid (prTo_ok (row := r) hRb.out b.length (Nat.le_refl _)).1
          have HG := Lib.hid hG
          have HGo := Lib.hid ((hG.new hBx.out).outer)
          have hzr : w3.heap.size ≤ wm.heap.size := by have := hB.out.size; have := hBx.out.size; omega
          have hlk : ((prodM a b).take k).length = k := by rw [List.length_take, prodM_length]; omega
          have Hlk := Lib.hid hlk
          generalize prTo r b cols b.length = pr at *
          clear hjb hG hlk hS
          go_wp2_with (at_builtin; refine wpList_append_own _ rfl _ _ 31 rfl w3.heap.size 56 j0 (.slice none 0 0) 1 24 Try.underlying31 gi gz0 gz1 gz2 rfl (by decide) _ _ _ rfl (HGo.out.alloc _) ⟨wm.heap.size, 0, none⟩ 1 1 [hv cols (wo.heap.size, cols)] rfl rfl ?d1 ?d2 ?d3 ?d4 ?d5 ?_)
          case d1 => exact cell_one_new _ _ _
          case d2 => intro u hu; simp only [List.mem_cons, List.not_mem_nil, or_false] at hu; subst hu; rfl
          case d3 => rw [Hlk.out]; unfold maxLen; omega
          case d4 => rw [Hlk.out]; omega
          case d5 => simp; omega
          intro v' w5 hown hgr _
          have hG5 := HG.out.snoc hBx.out (p := (wo.heap.size, cols)) (r := pr) Hblk.out (Nat.le_refl _) hB.out.size (by rw [hpl.out]; exact Nat.le_refl _) (by rw [Hlk.out, hpl.out]; simpa [prodM_length, Nat.min_eq_left hk] using hown) (by simpa using hgr)
          rw [← hpk.out] at hG5
          have hB5 : Below w3.heap.size w3 w5 := ((hB.out.trans (hBx.out.mono hB.out.size)).alloc hzr _).grown hgr (by simp; omega) (fun q hq => (owns_block HG.out.outer hq).2.1)
          have HG5 := Lib.hid hG5
          have HB5 := Lib.hid hB5
          clear hown hgr hG5 hB5
          go_wp2_with fail
          go_roundg (a.length - k - 1)
          case measure => have := Hgk.out; omega
          case rel => exact ⟨k + 1, by have := Hgk.out; omega, by go_num, ⟨_, HG5.out⟩, HB5.out⟩
    · have hkn : (prodM a b).take k = prodM a b := List.take_of_length_le (by rw [prodM_length]; omega)
      obtain ⟨hd, hG⟩ := hG.out
      rw [hkn] at hG
      have HG := Lib.hid hG
      clear hG hkn
      go_wp2_with fail
      go_ret2
      have hss : w.heap.size ≤ w3.heap.size := B3.out.size
      exact ⟨_, hd, rfl, HG.out.base hss, B3.out.trans (hB.out.mono hss)⟩
end Go.Proofs.Ytpiiigeabbhdaaa
