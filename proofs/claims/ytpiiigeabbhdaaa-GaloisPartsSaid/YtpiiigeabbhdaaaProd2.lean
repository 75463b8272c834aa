/- The contract of the reference's Product; the walk of the law GaloisProducts. -/
import Derived.Test.YtpiiigeabbhdaaaProd
namespace Go.Proofs.Ytpiiigeabbhdaaa
open Go.RowKit

/-- The sum of products that the reference forms for one element. -/
def acc (r : List Nat) (b : List (List Nat)) (k : Nat) : Nat → Nat
  | 0 => 0
  | i + 1 => acc r b k i ^^^ Gf.gm (r.getD i 0) ((b.getD i []).getD k 0)

theorem acc_lt (r : List Nat) (b : List (List Nat)) (k i : Nat) : acc r b k i < 256 := by
  induction i with
  | zero => exact show 0 < 256 by decide
  | succ i ih => exact Gf.xor_lt ih (Gf.gm_lt _ _)

theorem prTo_acc {r : List Nat} {b : List (List Nat)} {cols : Nat} (hb : Rect cols b) {k : Nat} (hk : k < cols) (i : Nat) (hi : i ≤ b.length) : (prTo r b cols i)[k]? = some (acc r b k i) := by
  induction i with
  | zero => simp [prTo, acc, hk]
  | succ i ih =>
    have h1 := ih (by omega)
    have h2 := hb.get (i := i) (by omega)
    have h3 : (b.getD i [])[k]? = some ((b.getD i []).getD k 0) := getD_some (by omega)
    show (addMul _ _ _)[k]? = _
    unfold addMul
    rw [List.getElem?_zipWith, h1, h3]
    rfl

theorem prTo_take {r : List Nat} {b : List (List Nat)} {cols : Nat} (hb : Rect cols b) {k : Nat} (hk : k < cols) : (prTo r b cols b.length).take (k + 1) = (prTo r b cols b.length).take k ++ [acc r b k b.length] := by
  rw [List.take_add_one, prTo_acc hb hk b.length (Nat.le_refl _)]; rfl

theorem rMul_q (x y : Nat) (w : World) (n : Nat) (hx : x < 256) (hy : y < 256) : Calls Try.prog 14 #[.int .u8 x, .int .u8 y] (w.drewN n) fun e w'' => e = .returned (.int .u8 (Gf.gm x y)) ∧ ∃ m, w'' = w.drewN m :=
  (rMul_any x y _ hx hy).mono fun _ _ ⟨he, hm⟩ => ⟨he, n, hm.symm⟩

set_option maxRecDepth 100000 in
set_option maxHeartbeats 8000000 in
theorem rProduct_fit (ba oa capa bb ob capb cols : Nat) (a b : List (List Nat)) (A A' : Nat → Option Addr) (C C' : Nat → Nat) (w : World) (hca : a.length ≤ capa) (hcb : b.length ≤ capb) (hIa : isMat a) (hIb : isMat b) (hsq : (a.getD 0 []).length = b.length) (hcols : (b.getD 0 []).length = cols)
    (hBa : BytM a) (hBb : BytM b) (hMa : MxAt w ba oa a A C) (hMb : MxAt w bb ob b A' C') :
    Calls Try.prog 27 #[.slice (some ⟨ba, oa, none⟩) a.length capa, .slice (some ⟨bb, ob, none⟩) b.length capb] w (RowsErr (prodM a b) 0 w) := by
  obtain ⟨i0, hi, hz0, hz1, hz2⟩ := info_parts infoByte
  obtain ⟨j0, gi, gz0, gz1, gz2⟩ := info_parts infoBytes
  have a1 := hIa.1
  have a2 := hIa.2.1
  have b1 := hIb.1
  have b2 := hIb.2.1
  have b3 := hIb.2.2.1
  have b4 := hIb.2.2.2.1
  rw [hcols] at b3 b4
  have hRa0 := hIa.rect hBa
  have hRb0 := hIb.rect hBb
  rw [hsq] at hRa0
  rw [hcols] at hRb0
  have hRa := Lib.hid hRa0
  have hRb := Lib.hid hRb0
  have hXa := Lib.hid (show Mx w (.slice (some ⟨ba, oa, none⟩) a.length capa) a from ⟨_, _, rfl, hca, Or.inr ⟨ba, oa, A, C, rfl, hMa⟩⟩)
  have hXb := Lib.hid (show Mx w (.slice (some ⟨bb, ob, none⟩) b.length capb) b from ⟨_, _, rfl, hcb, Or.inr ⟨bb, ob, A', C', rfl, hMb⟩⟩)
  obtain ⟨pa, pb⟩ := Product_pre hMa hMb hRa0 hRb0 b3 b1
  have HMa := Lib.hid hMa
  have HMb := Lib.hid hMb
  have Pa := Lib.hid pa
  have Pb := Lib.hid pb
  have HIa := Lib.hid hIa
  have HIb := Lib.hid hIb
  have nq : ((b.length : Int) != (b.length : Int)) = false := by simp
  have Hcols := Lib.hid hcols
  have Hsq := Lib.hid hsq
  clear hMa hMb pa pb hIa hIb hRa0 hRb0 hcols hsq hBa hBb
  go_enter Try.func27, Try.ntmps27
  go_wp2_with fail
  refine (rIs_any _ a _ (by omega) hXa.out).mono ?_
  rintro e w1 ⟨rfl, n1, rfl⟩
  rw [isMatB_true HIa.out]
  have hB1 : Below w.heap.size w (w.drewN n1) := below_drewN (Below.refl _ _) n1
  generalize w.drewN n1 = w1 at *
  have Xb1 := Lib.hid (hXb.out.new hB1)
  have B1 := Lib.hid hB1
  clear hB1
  go_wp2_with fail
  refine (rIs_any _ b _ (by omega) Xb1.out).mono ?_
  rintro e w2 ⟨rfl, n2, rfl⟩
  rw [isMatB_true HIb.out]
  have hB12 := below_drewN B1.out n2
  generalize w1.drewN n2 = w3 at *
  have B3 := Lib.hid hB12
  have Ma2 := Lib.hid (HMa.out.new hB12)
  have hca0 := (Ma2.out 0 _ (getD_some (d := []) (by omega))).1
  rw [Nat.add_zero, Hsq.out] at hca0
  clear hB12 B1 Xb1
  go_wp2_with fail
  clear hca0 Ma2
  go_loopg [6, 7] a.length (fun gk v i wr => ∃ k : Nat, k + gk = a.length ∧ i = .int .i64 k ∧ Hid (∃ hd, GM wr w3.heap.size v hd ((prodM a b).take k)) ∧ Hid (Below w3.heap.size w3 wr))
  case atStart => exact ⟨0, by omega, rfl, ⟨[], GM.nil _ _⟩, Below.refl _ _⟩
  case round =>
    obtain ⟨k, hgk, rfl, hG, hB⟩ := hrel
    have Hgk := Lib.hid hgk
    have hk : k ≤ a.length := by omega
    clear hgk
    by_cases hlt : k < a.length
    · obtain ⟨wo, rfl⟩ : ∃ wo : World, wo = wr := ⟨_, rfl⟩
      have hBo : Below w.heap.size w wo := B3.out.trans (hB.out.mono B3.out.size)
      have hak : a[k]? = some (a.getD k []) := getD_some hlt
      have hca := Lib.hid ((HMa.out.new hBo) k _ hak).1
      have hrl := (hRa.out.get hlt)
      obtain ⟨b', o', hA, hrow, hbw⟩ := Pa.out k hlt
      have hrowo := hrow.new hBo
      rw [hA, hrl.1] at hca
      have hpk := Lib.hid (show (prodM a b).take (k + 1) = (prodM a b).take k ++ [prTo (a.getD k []) b cols b.length] by rw [List.take_add_one, prodM_get hak, Hcols.out]; rfl)
      generalize hrr : a.getD k [] = r at *
      have HBo := Lib.hid hBo
      have Hrow := Lib.hid hrowo
      have Hr := Lib.hid hrl
      clear hBo hak hrl hrow hrowo hA hrr
      go_wp2_with fail
      go_loopg [8, 9] cols (fun gk v i wx => ∃ j : Nat, j + gk = cols ∧ i = .int .i64 j ∧ Hid (wx.ownsRow wo.heap.size 5 1 v j (((prTo r b cols b.length).take j).map bv)) ∧ Hid (Below wo.heap.size wo wx))
      case atStart => exact ⟨0, by omega, rfl, World.ownsRow_nil _ _ _ _, Below.refl _ _⟩
      case round =>
        obtain ⟨j, hgj, rfl, hS, hBx⟩ := hrel
        have Hgj := Lib.hid hgj
        have hj : j ≤ cols := by omega
        clear hgj
        obtain ⟨wm, rfl⟩ : ∃ wm : World, wm = wr := ⟨_, rfl⟩
        have hBm : Below w.heap.size w wm := HBo.out.trans (hBx.out.mono HBo.out.size)
        have HBm := Lib.hid hBm
        have hcb0 := ((HMb.out.new hBm) 0 _ (getD_some (d := []) (by omega))).1
        rw [Nat.add_zero, Hcols.out] at hcb0
        clear hBm
        by_cases hltj : j < cols
        · go_wp2_with fail
          clear hcb0
          go_loopg [10, 11] b.length (fun gk x i wx => ∃ q : Nat, q + gk = b.length ∧ i = .int .i64 q ∧ x = .int .u8 (acc r b j q) ∧ Hid (Below wm.heap.size wm wx))
          case atStart => exact ⟨0, by omega, rfl, rfl, Below.refl _ _⟩
          case round =>
            obtain ⟨q, hgq, rfl, rfl, hBq⟩ := hrel
            have Hgq := Lib.hid hgq
            have hq : q ≤ b.length := by omega
            clear hgq
            by_cases hltq : q < b.length
            · have hBwq : Below w.heap.size w wr := HBm.out.trans (hBq.out.mono HBm.out.size)
              have hBoq : Below wo.heap.size wo wr := hBx.out.trans (hBq.out.mono hBx.out.size)
              have c1 : wr.cell? ⟨ba, oa + k, none⟩ = some (.slice (some ⟨b', o', none⟩) b.length (C k)) := by
                rw [hBoq.cell (p := ⟨ba, oa + k, none⟩) (World.block_lt_of_cell? wo _ hca.out)]; exact hca.out
              have c2 := (Hrow.out.new hBoq) q _ (getD_some (d := 0) (by rw [Hr.out.1]; exact hltq))
              have c2B := Hr.out.2.getD q
              have hbq : b[q]? = some (b.getD q []) := getD_some hltq
              have c3 := ((HMb.out.new hBwq) q _ hbq).1
              have hbl := hRb.out.get hltq
              obtain ⟨b2', o2', hA2, hrow2, _⟩ := Pb.out q hltq
              rw [hA2, hbl.1] at c3
              have c4 := (hrow2.new hBwq) j _ (getD_some (d := 0) (by rw [hbl.1]; exact hltj))
              have c4B := hbl.2.getD j
              have hac := acc_lt r b j q
              have hsn := Lib.hid (show acc r b j (q + 1) = acc r b j q ^^^ Gf.gm (r.getD q 0) ((b.getD q []).getD j 0) from rfl)
              unfold bv at c2 c4
              generalize r.getD q 0 = x at *
              generalize (b.getD q []).getD j 0 = y at *
              generalize acc r b j q = ac at *
              have hxr : bits .xor .u8 (ac : Int) (Gf.gm x y : Int) = ((ac ^^^ Gf.gm x y : Nat) : Int) := xor_u8 _ _ hac (Gf.gm_lt _ _)
              generalize ac ^^^ Gf.gm x y = ac2 at *
              have i1 : (k : Int) < a.length := by omega
              have i2 : (0 : Int) ≤ k := by omega
              have i3 : (q : Int) < b.length := by omega
              have i4 : (0 : Int) ≤ q := by omega
              have i5 : (j : Int) < cols := by omega
              have i6 : (0 : Int) ≤ j := by omega
              clear hbq hbl hA2 hrow2 hBwq hBoq
              go_wp2_with fail
              go_quiet ((go_at_call 14; exact rMul_q _ _ _ _ c2B c4B))
              go_wp2_with fail
              go_roundg (b.length - q - 1)
              case measure => have := Hgq.out; omega
              case rel => exact ⟨q + 1, by have := Hgq.out; omega, by go_num, by rw [hsn.out], below_drewN hBq.out _⟩
            · have hqb : q = b.length := by omega
              have hac := Lib.hid (show acc r b j q = acc r b j b.length by rw [hqb])
              have htk := Lib.hid (prTo_take (r := r) hRb.out hltj)
              have hO := Lib.hid (owns_kept (S := fun _ => False) hS.out (Kept.of_new hBq.out) fun _ _ => id)
              have hBr := Lib.hid (hBx.out.trans (hBq.out.mono hBx.out.size))
              have hz3 : wo.heap.size ≤ wr.heap.size := hBr.out.size
              generalize acc r b j q = ac at *
              clear hqb
              go_wp2_with (at_builtin; refine wpList_append_own _ rfl _ _ 56 rfl wo.heap.size 5 i0 (.int .u8 0) 1 1 Try.underlying56 hi hz0 hz1 hz2 rfl (by decide) _ _ _ rfl (hO.out.alloc _) ⟨wr.heap.size, 0, none⟩ 1 1 [bv ac] rfl rfl ?c1 ?c2 ?c3 ?c4 ?c5 ?_)
              case c1 => exact cell_one_new _ _ _
              case c2 => intro u hu; simp at hu; subst hu; rfl
              case c3 => unfold maxLen; omega
              case c4 => omega
              case c5 => simp; omega
              intro v' w5 hown hgr _
              have hown' : w5.ownsRow wo.heap.size 5 1 v' (j + 1) (((prTo r b cols b.length).take (j + 1)).map bv) := by rw [htk.out, ← hac.out, List.map_append, List.map_take]; exact hown
              have hB5 : Below wo.heap.size wo w5 := (hBr.out.alloc hz3 _).grown hgr (by simp; omega) (fun q hq => (owns_block hO.out hq).2.1)
              have Hown := Lib.hid hown'
              have HB5 := Lib.hid hB5
              clear hown hown' hB5 hgr
              go_wp2_with fail
              go_roundg (cols - j - 1)
              case measure => have := Hgj.out; omega
              case rel => exact ⟨j + 1, by have := Hgj.out; omega, by go_num, Hown.out, HB5.out⟩
        · have hpl := (prTo_ok (row := r) hRb.out b.length (Nat.le_refl _)).1
          have hO' := hS.out
          rw [List.take_of_length_le (by rw [hpl]; omega), show j = (prTo r b cols b.length).length by rw [hpl]; omega] at hO'
          obtain ⟨g, cg, hv8, g1, g3, g4⟩ := ne_of_owns hO' (by rw [hpl]; omega)
          rw [hv8] at hO'
          rw [hv8]
          obtain ⟨hd, hG⟩ := hG.out
          have Hblk := Lib.hid (Blk.of_owns hO')
          have HG := Lib.hid hG
          have HGo := Lib.hid ((hG.new hBx.out).outer)
          have hzr : w3.heap.size ≤ wm.heap.size := by have := hB.out.size; have := hBx.out.size; omega
          have hlk : ((prodM a b).take k).length = k := by rw [List.length_take, prodM_length]; omega
          have Hlk := Lib.hid hlk
          have Hg3 := Lib.hid g3
          generalize prTo r b cols b.length = pr at *
          clear hG hlk hS hO' hpl hv8 g3 g4
          go_wp2_with (at_builtin; refine wpList_append_own _ rfl _ _ 31 rfl w3.heap.size 56 j0 (.slice none 0 0) 1 24 Try.underlying31 gi gz0 gz1 gz2 rfl (by decide) _ _ _ rfl (HGo.out.alloc _) ⟨wm.heap.size, 0, none⟩ 1 1 [hv pr.length (g, cg)] rfl rfl ?d1 ?d2 ?d3 ?d4 ?d5 ?_)
          case d1 => exact cell_one_new _ _ _
          case d2 => intro u hu; simp only [List.mem_cons, List.not_mem_nil, or_false] at hu; subst hu; rfl
          case d3 => rw [Hlk.out]; unfold maxLen; omega
          case d4 => rw [Hlk.out]; omega
          case d5 => simp; omega
          intro v' w5 hown hgr _
          have hG5 := HG.out.snoc hBx.out (p := (g, cg)) (r := pr) Hblk.out g1 hB.out.size Hg3.out (by rw [Hlk.out]; simpa [prodM_length, Nat.min_eq_left hk] using hown) (by simpa using hgr)
          rw [← hpk.out] at hG5
          have hB5 : Below w3.heap.size w3 w5 := ((hB.out.trans (hBx.out.mono hB.out.size)).alloc hzr _).grown hgr (by simp; omega) (fun q hq => (owns_block HG.out.outer hq).2.1)
          have HG5 := Lib.hid hG5
          have HB5 := Lib.hid hB5
          clear hown hgr hG5 hB5
          go_wp2_with fail
          go_roundg (a.length - k - 1)
          case measure => have := Hgk.out; omega
          case rel => exact ⟨k + 1, by have := Hgk.out; omega, by go_num, ⟨_, HG5.out⟩, HB5.out⟩
    · have hkn : (prodM a b).take k = prodM a b := List.take_of_length_le (by rw [prodM_length]; omega)
      obtain ⟨hd, hG⟩ := hG.out
      rw [hkn] at hG
      have HG := Lib.hid hG
      clear hG hkn
      go_wp2_with fail
      go_ret2
      have hss : w.heap.size ≤ w3.heap.size := B3.out.size
      exact ⟨_, hd, rfl, HG.out.base hss, B3.out.trans (hB.out.mono hss)⟩
end Go.Proofs.Ytpiiigeabbhdaaa
