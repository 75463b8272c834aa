/- Contracts of galois.Cauchy and of the reference's Cauchy. -/
/- Contracts of checksum.shifted and table. -/
import Derived.Test.YtkclmfppjhmnjaaB05
import Derived.Test.YtkclmfppjhmnjaaB02
import Derived.Deep.LoopGhost
import Derived.Test.YtkclmfppjhmnjaaB07
import Derived.Test.YtkclmfppjhmnjaaB09
namespace Go.Proofs.Ytkclmfppjhmnjaa
open Go.RowKit

def cauRow (n m i : Nat) : List Nat := (List.range m).map fun k => Gf.gi (i ^^^ (n + k))
def cauM (n m : Nat) : List (List Nat) := (List.range n).map (cauRow n m)

theorem cauRow_length (n m i : Nat) : (cauRow n m i).length = m := by simp [cauRow]
theorem cauM_length (n m : Nat) : (cauM n m).length = n := by simp [cauM]
theorem cauRow_take {n m i k : Nat} (hk : k < m) : (cauRow n m i).take (k + 1) = (cauRow n m i).take k ++ [Gf.gi (i ^^^ (n + k))] := by
  rw [List.take_add_one]; simp [cauRow, hk]
theorem cauM_take {n m k : Nat} (hk : k < n) : (cauM n m).take (k + 1) = (cauM n m).take k ++ [cauRow n m k] := by
  rw [List.take_add_one]; simp [cauM, hk]

theorem cau_xor {n m i k : Nat} (hn : n ≤ 64) (hm : m ≤ 64) (hi : i < n) (hk : k < m) : i ^^^ (n + k) < 256 ∧ i ^^^ (n + k) ≠ 0 := by
  refine ⟨Gf.xor_lt (by omega) (by omega), fun h => ?_⟩
  have : i = n + k := by
    have h1 := congrArg (· ^^^ (n + k)) h
    simpa [Nat.xor_assoc] using h1
  omega

theorem owns_base {w : World} {B B' T n : Nat} {v : Value} {xs : List Value} (h : w.ownsRow B T 1 v n xs) (hB : B' ≤ B) : w.ownsRow B' T 1 v n xs := by
  refine ⟨h.1, ?_⟩
  rcases h.2 with hn | ⟨g, cap, cur, rfl, hb, rest⟩
  · exact .inl hn
  · exact .inr ⟨g, cap, cur, rfl, Nat.le_trans hB hb, rest⟩

theorem OwnRows.base {w : World} {B B' : Nat} {hd : List (Nat × Nat)} {m : List (List Nat)} (h : OwnRows w B hd m) (hB : B' ≤ B) : OwnRows w B' hd m :=
  ⟨h.len, h.inj, fun i p r hp hr => ⟨(h.rows i p r hp hr).1, Nat.le_trans hB (h.rows i p r hp hr).2.1, (h.rows i p r hp hr).2.2⟩⟩

theorem GM.base {w : World} {B B' : Nat} {v : Value} {hd : List (Nat × Nat)} {m : List (List Nat)} (h : GM w B v hd m) (hB : B' ≤ B) : GM w B' v hd m :=
  { h.toOwnRows.base hB with outer := owns_base h.outer hB }

set_option maxRecDepth 100000 in
set_option maxHeartbeats 4000000 in
theorem Cauchy_in (n m : Nat) (w : World) (h1 : 1 ≤ n) (h2 : n ≤ 64) (h3 : 1 ≤ m) (h4 : m ≤ 64) :
    Calls Try.prog 105 #[.int .i64 n, .int .i64 m] w (RowsErr (cauM n m) 0 w) := by
  obtain ⟨i0, hi, hz0, hz1, hz2⟩ := info_parts infoByte
  obtain ⟨j0, gi, gz0, gz1, gz2⟩ := info_parts infoBytes
  have HT0 := Lib.hid (Tab.made w)
  have hx := fun (i k : Nat) (hi : i < n) (hk : k < m) => cau_xor h2 h4 hi hk
  have Hx := Lib.hid hx
  clear hx
  obtain ⟨tri⟩ : Nonempty (PLift (n < m ∨ m < n ∨ (¬ n < m ∧ ¬ m < n))) := ⟨⟨by omega⟩⟩
  rcases tri.down with tr | tr | ⟨tr, tr'⟩
  all_goals
    clear tri
    go_enter Try.func105, Try.ntmps105
    go_wp2_with fail
    refine (field_any _).mono ?_
    rintro e w' ⟨rfl, rfl⟩
    have hB0 := Lib.hid ((Below.refl w.heap.size w).alloc (Nat.le_refl _) (.cells (tb 255) 148))
    have hs1 : (w.alloc (.cells (tb 255) 148)).heap.size = w.heap.size + 1 := by simp
    obtain ⟨w1, hw1⟩ : ∃ w1, w.alloc (.cells (tb 255) 148) = w1 := ⟨_, rfl⟩
    rw [hw1] at hs1 HT0 hB0
    rw [hw1]
    have Hs1 := Lib.hid hs1
    clear hw1 hs1
    go_wp2_with fail
    go_loopg [7, 23] n (fun gk v i wr => ∃ k : Nat, k + gk = n ∧ i = .int .i64 k ∧ Hid (∃ hd, GM wr w1.heap.size v hd ((cauM n m).take k)) ∧ Hid (Below w1.heap.size w1 wr))
    case atStart => exact ⟨0, by omega, rfl, ⟨[], GM.nil _ _⟩, Below.refl _ _⟩
    case round =>
      obtain ⟨k, hgk, rfl, hG, hB⟩ := hrel
      have Hgk := Lib.hid hgk
      have hk : k ≤ n := by omega
      clear hgk
      by_cases hlt : k < n
      · obtain ⟨wo, rfl⟩ : ∃ wo : World, wo = wr := ⟨_, rfl⟩
        have hTo := Lib.hid (HT0.out.below hB.out (by have := Hs1.out; omega))
        have hto : w.heap.size < wo.heap.size := by have := Hs1.out; have := hB.out.size; omega
        go_wp2_with fail
        go_loopg [9, 27] m (fun gk v i wr => ∃ j : Nat, j + gk = m ∧ i = .int .i64 j ∧ Hid (wr.ownsRow wo.heap.size 5 1 v j (((cauRow n m k).take j).map bv)) ∧ Hid (Below wo.heap.size wo wr))
        case atStart => exact ⟨0, by omega, rfl, World.ownsRow_nil _ _ _ _, Below.refl _ _⟩
        case round =>
          obtain ⟨j, hgj, rfl, hO, hBr⟩ := hrel
          have Hgj := Lib.hid hgj
          have hj : j ≤ m := by omega
          clear hgj
          by_cases hlt2 : j < m
          · have hxx := Hx.out k j hlt hlt2
            have e1 : bits .xor .u8 (k : Int) ((n : Int) + j) = ((k ^^^ (n + j) : Nat) : Int) := by
              have := xor_u8 k (n + j) (by omega) (by omega)
              rw [← this]; congr 1
            have htk := Lib.hid (cauRow_take (n := n) (i := k) hlt2)
            generalize k ^^^ (n + j) = x at *
            have hx1 := hxx.1
            have hTr := Lib.hid (hTo.out.below hBr.out hto)
            clear hxx
            go_wp2_with fail
            refine (inv_any _ x _ hx1 hTr.out).mono ?_
            rintro e w3 ⟨rfl, q, rfl⟩
            have hO3 := Lib.hid (owns_kept (S := fun _ => False) hO.out ((Kept.refl _ _).drewN q) fun _ _ => id)
            have hB3 := Lib.hid (below_drewN hBr.out q)
            have hz3 : wo.heap.size ≤ (wr.drewN q).heap.size := hB3.out.size
            generalize wr.drewN q = w3 at *
            go_wp2_with (at_builtin; refine wpList_append_own _ rfl _ _ 26 rfl wo.heap.size 5 i0 (.int .u8 0) 1 1 Try.underlying26 hi hz0 hz1 hz2 rfl (by decide) _ _ _ rfl (hO3.out.alloc _) ⟨w3.heap.size, 0, none⟩ 1 1 [bv (Gf.gi x)] rfl rfl ?c1 ?c2 ?c3 ?c4 ?c5 ?_)
            case c1 => exact cell_one_new _ _ _
            case c2 => intro u hu; simp at hu; subst hu; rfl
            case c3 => unfold maxLen; omega
            case c4 => omega
            case c5 => simp; omega
            intro v' w5 hown hgr _
            have hown' : w5.ownsRow wo.heap.size 5 1 v' (j + 1) (((cauRow n m k).take (j + 1)).map bv) := by rw [htk.out, List.map_append, List.map_take]; exact hown
            have hB5 : Below wo.heap.size wo w5 := (hB3.out.alloc hz3 _).grown hgr (by simp; omega) (fun q hq => (owns_block hO3.out hq).2.1)
            have Hown := Lib.hid hown'
            have HB5 := Lib.hid hB5
            clear hown hown' hB5 hgr
            go_wp2_with fail
            go_roundg (m - j - 1)
            case measure => have := Hgj.out; omega
            case rel => exact ⟨j + 1, by have := Hgj.out; omega, by go_num, Hown.out, HB5.out⟩
          · have hjm : (cauRow n m k).take j = cauRow n m k := List.take_of_length_le (by rw [cauRow_length]; omega)
            have hO' := hO.out
            rw [hjm, show j = (cauRow n m k).length by rw [cauRow_length]; omega] at hO'
            obtain ⟨hd, hG⟩ := hG.out
            have hne : ∃ g cg, u9 = .slice (some ⟨g, 0, none⟩) (cauRow n m k).length cg ∧ wo.heap.size ≤ g ∧ (cauRow n m k).length ≤ cg := by
              rcases hO'.2 with ⟨h0, hl⟩ | ⟨g, cg, cur, hv, g1, _, g3, _⟩
              · rw [cauRow_length] at hl; omega
              · exact ⟨g, cg, hv, g1, g3⟩
            obtain ⟨g, cg, hv, g1, g3⟩ := hne
            rw [hv] at hO'
            have Hblk := Lib.hid (Blk.of_owns hO')
            have HG := Lib.hid hG
            have HGo := Lib.hid ((hG.new hBr.out).outer)
            have hzr : w1.heap.size ≤ wr.heap.size := by have := hB.out.size; have := hBr.out.size; omega
            have hlk : ((cauM n m).take k).length = k := by rw [List.length_take, cauM_length]; omega
            have Hlk := Lib.hid hlk
            rw [hv]
            clear hjm hO' hv hG hO hlk
            go_wp2_with (at_builtin; refine wpList_append_own _ rfl _ _ 44 rfl w1.heap.size 26 j0 (.slice none 0 0) 1 24 Try.underlying44 gi gz0 gz1 gz2 rfl (by decide) _ _ _ rfl (HGo.out.alloc _) ⟨wr.heap.size, 0, none⟩ 1 1 [hv (cauRow n m k).length (g, cg)] rfl rfl ?d1 ?d2 ?d3 ?d4 ?d5 ?_)
            case d1 => exact cell_one_new _ _ _
            case d2 => intro u hu; simp at hu; subst hu; rfl
            case d3 => rw [Hlk.out]; unfold maxLen; omega
            case d4 => rw [Hlk.out]; omega
            case d5 => simp; omega
            intro v' w5 hown hgr _
            have hG5 := HG.out.snoc hBr.out (p := (g, cg)) (r := cauRow n m k) Hblk.out g1 hB.out.size g3 (by rw [Hlk.out]; rw [cauM_length, Nat.min_eq_left hk] at hown; exact hown) hgr
            rw [← cauM_take hlt] at hG5
            have hB5 : Below w1.heap.size w1 w5 := ((hB.out.trans (hBr.out.mono hB.out.size)).alloc hzr _).grown hgr (by simp; omega) (fun q hq => (owns_block HG.out.outer hq).2.1)
            have HG5 := Lib.hid hG5
            have HB5 := Lib.hid hB5
            clear hown hgr hG5 hB5
            go_wp2_with fail
            go_roundg (n - k - 1)
            case measure => have := Hgk.out; omega
            case rel => exact ⟨k + 1, by have := Hgk.out; omega, by go_num, ⟨_, HG5.out⟩, HB5.out⟩
      · have hkn : (cauM n m).take k = cauM n m := List.take_of_length_le (by rw [cauM_length]; omega)
        obtain ⟨hd, hG⟩ := hG.out
        rw [hkn] at hG
        have HG := Lib.hid hG
        clear hG hkn
        go_wp2_with fail
        go_ret2
        have hss : w.heap.size ≤ w1.heap.size := by have := Hs1.out; omega
        exact ⟨_, hd, rfl, HG.out.base hss, hB0.out.trans (hB.out.mono hss)⟩
end Go.Proofs.Ytkclmfppjhmnjaa

namespace Go.Proofs.Ytkclmfppjhmnjaa
open Go.RowKit Crc

theorem xor_u32 (a b : Nat) (ha : a < 4294967296) (hb : b < 4294967296) : bits .xor .u32 (a : Int) (b : Int) = ((a ^^^ b : Nat) : Int) := by
  have hx : a ^^^ b < 2 ^ 32 := Nat.xor_lt_two_pow (by omega) (by omega)
  have h1 : (BitVec.ofInt 32 (a : Int)).toNat = a := by
    rw [BitVec.ofInt_natCast, BitVec.toNat_ofNat]; exact Nat.mod_eq_of_lt (by omega)
  have h2 : (BitVec.ofInt 32 (b : Int)).toNat = b := by
    rw [BitVec.ofInt_natCast, BitVec.toNat_ofNat]; exact Nat.mod_eq_of_lt (by omega)
  show IntKind.u32.wrap ((BitVec.ofInt 32 (a : Int) ^^^ BitVec.ofInt 32 (b : Int)).toNat : Int) = _
  rw [BitVec.toNat_xor, h1, h2]
  exact IntWalk.u32_in _ (by omega)
theorem and_u32 (a b : Nat) (ha : a < 4294967296) (hb : b < 4294967296) : bits .and .u32 (a : Int) (b : Int) = ((a &&& b : Nat) : Int) := by
  have hx : a &&& b ≤ a := Nat.and_le_left
  have h1 : (BitVec.ofInt 32 (a : Int)).toNat = a := by
    rw [BitVec.ofInt_natCast, BitVec.toNat_ofNat]; exact Nat.mod_eq_of_lt (by omega)
  have h2 : (BitVec.ofInt 32 (b : Int)).toNat = b := by
    rw [BitVec.ofInt_natCast, BitVec.toNat_ofNat]; exact Nat.mod_eq_of_lt (by omega)
  show IntKind.u32.wrap ((BitVec.ofInt 32 (a : Int) &&& BitVec.ofInt 32 (b : Int)).toNat : Int) = _
  rw [BitVec.toNat_and, h1, h2]
  exact IntWalk.u32_in _ (by omega)

set_option maxRecDepth 100000 in
set_option maxHeartbeats 400000 in
theorem cshifted_any (r : Nat) (w : World) (hr : r < 4294967296) : Calls Try.prog 129 #[.int .u32 r] w fun e w' => e = .returned (.int .u32 (shf r)) ∧ w = w' := by
  have Hr := Lib.hid hr
  clear hr
  go_enter Try.func129, Try.ntmps129
  go_wp2_with fail
  go_loop [0, 4] (fun s0 i => ∃ k : Nat, k ≤ 8 ∧ i = .int .i64 k ∧ s0 = .int .u32 (sh k r)) (fun _ i => 8 - (intOf i).toNat)
  case atStart => exact ⟨0, by omega, rfl, rfl⟩
  case round =>
    obtain ⟨k, hk, rfl, rfl⟩ := hrel
    by_cases hlt : k < 8
    · have hx := sh_lt Hr.out k
      have hs : Hid (sh (k + 1) r = s1 (sh k r)) := rfl
      obtain ⟨x, hxd⟩ : ∃ x, sh k r = x := ⟨_, rfl⟩
      rw [hxd] at hx hs ⊢
      have e1 : bits .and .u32 (x : Int) 1 = ((x % 2 : Nat) : Int) := by
        have := and_u32 x 1 hx (by decide)
        rw [Nat.and_one_is_mod] at this
        exact this
      have e2 : bits .xor .u32 ((x / 2 : Nat) : Int) 3988292384 = (((x / 2) ^^^ 3988292384 : Nat) : Int) := xor_u32 (x / 2) 3988292384 (by omega) (by decide)
      have hx0 : (0 : Int) ≤ x := by omega
      by_cases ho : x % 2 = 1
      · have hs1 := Lib.hid (show s1 x = (x / 2) ^^^ 3988292384 by unfold s1; rw [if_pos ho])
        have t1 : (((x % 2 : Nat) : Int) == 1) = true := by rw [ho]; rfl
        clear hxd
        go_wp2_with fail
        refine ⟨⟨k + 1, by omega, by go_num, ?_⟩, by simp [intOf]; omega⟩
        rw [show ((x : Int) / 2) = ((x / 2 : Nat) : Int) by omega, e2, hs.out, hs1.out]
      · have hs1 := Lib.hid (show s1 x = x / 2 by unfold s1; rw [if_neg ho])
        have t1 : (((x % 2 : Nat) : Int) == 1) = false := by rw [beq_eq_false_iff_ne]; omega
        clear hxd
        go_wp2_with fail
        refine ⟨⟨k + 1, by omega, by go_num, ?_⟩, by simp [intOf]; omega⟩
        rw [show ((x : Int) / 2) = ((x / 2 : Nat) : Int) by omega, hs.out, hs1.out]
    · obtain rfl : k = 8 := by omega
      go_wp2_with fail
      go_ret
      exact ⟨rfl, rfl⟩

/-- The table, as values. -/
def tv (i : Nat) : Value := .int .u32 (shf i)
def tabL (k : Nat) : List Value := (List.range 256).map fun i => if i < k then tv i else .int .u32 0
theorem tabL_length (k : Nat) : (tabL k).length = 256 := by simp [tabL]
theorem tabL_get {k i : Nat} (h : i < 256) : (tabL k)[i]? = some (if i < k then tv i else .int .u32 0) := by
  unfold tabL; rw [List.getElem?_map, List.getElem?_range h]; rfl
theorem tabL_set (k : Nat) : (tabL k).set k (tv k) = tabL (k + 1) := by
  apply List.ext_getElem?
  intro i
  by_cases hi : i < 256
  · rw [tabL_get hi]
    by_cases hk : k = i
    · subst hk; rw [List.getElem?_set_self (by rw [tabL_length]; exact hi), if_pos (by omega)]
    · rw [List.getElem?_set_ne hk, tabL_get hi]
      by_cases h1 : i < k
      · rw [if_pos h1, if_pos (by omega)]
      · rw [if_neg h1, if_neg (by omega)]
  · rw [List.getElem?_eq_none (by rw [List.length_set, tabL_length]; omega), List.getElem?_eq_none (by rw [tabL_length]; omega)]
theorem tabL_zero : tabL 0 = List.replicate 256 (.int .u32 0) := by
  apply List.ext_getElem?
  intro i
  rw [List.getElem?_replicate]
  by_cases hi : i < 256
  · rw [tabL_get hi, if_pos hi, if_neg (by omega)]
  · rw [List.getElem?_eq_none (by rw [tabL_length]; omega), if_neg hi]
theorem tab_one : ∀ v ∈ tabL 256, v.oneCell' = true := by
  intro v hv
  unfold tabL at hv
  obtain ⟨i, _, rfl⟩ := List.mem_map.1 hv
  split <;> rfl
theorem tab_size : (Try.prog.info? 155).map (·.size) = some (tabL 256).length := by
  have h : (Try.prog.info? 155).map (·.size) = some 256 := by kernel_rfl
  rw [h, tabL_length]

theorem results_mid {P : Program} {fn : Func} {p : Tmp} {ty : TypeId} (h : fn.results = #[.cell p ty]) (tmps : Array Value) (w : World) (g : Nat) (cs : List Value) (d : TypeDesc)
    (hp : tmps.getD p undef = .pointer (some ⟨g, 0, none⟩)) (hc : w.rangeAt g 0 cs) (hu : P.underlying ty = some d) (hd : d.isRow = true) (hi : (P.info? ty).map (·.size) = some cs.length) :
    (results fn tmps).run P w = .ok (.agg cs.toArray) w := by
  have hp' : tmps[p]?.getD undef = .pointer (some ⟨g, 0, none⟩) := by simpa using hp
  simp [results, h, hp', asAddr, run_loadVar_mid w g 0 ty cs d hc hu hd hi]
theorem Blk.range {w : World} {g T : Nat} {xs : List Value} (h : Blk w g T xs) : w.rangeAt g 0 xs := fun j v hv => by rw [Nat.zero_add]; exact h.cell hv
theorem zero_tab : (Try.zeroCells155).toList = tabL 0 := by
  rw [tabL_zero]
  kernel_rfl

set_option maxRecDepth 100000 in
set_option maxHeartbeats 4000000 in
theorem ctable_any (w : World) : Calls Try.prog 111 #[] w fun e w' => e = .returned (.agg (tabL 256).toArray) ∧ Below w.heap.size w w' := by
  have h0 := (Blk.new w 155 Try.zeroCells155).alloc (.cells Try.zeroCells155 155)
  have h1 := Blk.new (w.alloc (.cells Try.zeroCells155 155)) 155 Try.zeroCells155
  rw [show (w.alloc (.cells Try.zeroCells155 155)).heap.size = w.heap.size + 1 by simp] at h1
  rw [zero_tab] at h0 h1
  have hB : Below w.heap.size w ((w.alloc (.cells Try.zeroCells155 155)).alloc (.cells Try.zeroCells155 155)) := ((Below.refl _ _).alloc (Nat.le_refl _) _).alloc (by simp) _
  have H0 := Lib.hid h0
  have H1 := Lib.hid h1
  have HB := Lib.hid hB
  clear h0 h1 hB
  go_enter Try.func111, Try.ntmps111
  go_wp2_with fail
  generalize (w.alloc (.cells Try.zeroCells155 155)).alloc (.cells Try.zeroCells155 155) = W0 at *
  go_loopg [3] 256 (fun gk i wr => ∃ k : Nat, k + gk = 256 ∧ i = .int .i64 k ∧ Hid (Blk wr (w.heap.size + 1) 155 (tabL k)) ∧ Hid (Blk wr w.heap.size 155 (tabL 0)) ∧ Hid (Below w.heap.size w wr))
  case atStart => exact ⟨0, by omega, rfl, H1.out, H0.out, HB.out⟩
  case round =>
    obtain ⟨k, hgk, rfl, h1, h0, hB⟩ := hrel
    have Hgk := Lib.hid hgk
    have hk : k ≤ 256 := by omega
    clear hgk
    by_cases hlt : k < 256
    · have hc := h1.out.cell (tabL_get hlt)
      have hfz := h1.out.frozen k
      rw [if_neg (by omega)] at hc
      have Hn := Lib.hid (show Blk (wr.setCell ⟨w.heap.size + 1, k, none⟩ (.int .u32 (shf k))) (w.heap.size + 1) 155 (tabL (k + 1)) by
        rw [← tabL_set]; exact h1.out.setCell (by rw [tabL_length]; exact hlt) _)
      have H0n := Lib.hid (h0.out.setCell_other (p := ⟨w.heap.size + 1, k, none⟩) (by show w.heap.size ≠ w.heap.size + 1; omega) (.int .u32 (shf k)))
      have HBn := Lib.hid (hB.out.setCell (p := ⟨w.heap.size + 1, k, none⟩) (by show w.heap.size ≤ w.heap.size + 1; omega) (.int .u32 (shf k)))
      have hcv : IntKind.u32.wrap (k : Int) = (k : Int) := IntWalk.u32_in _ (by omega)
      go_wp2_with fail
      refine (cshifted_any k _ (by omega)).mono ?_
      rintro e w' ⟨rfl, rfl⟩
      go_wp2_with fail
      go_roundg (256 - k - 1)
      case measure => have := Hgk.out; omega
      case rel => exact ⟨k + 1, by have := Hgk.out; omega, by go_num, Hn.out, H0n.out, HBn.out⟩
    · obtain rfl : k = 256 := by omega
      have Hrg := Lib.hid h1.out.range
      have Hth := Lib.hid (show wr.there w.heap.size 0 (tabL 256).toArray.size from h0.out.there (by rw [List.size_toArray, tabL_length, tabL_length]; decide))
      have Hs2 := Lib.hid (show (Try.prog.info? 155).map (·.size) = some (tabL 256).toArray.size by rw [List.size_toArray]; exact tab_size)
      have Hone := Lib.hid (all_oneCell_toArray tab_one)
      have hb := h0.out.setCells (o := 0) (vs := tabL 256) (by rw [tabL_length, tabL_length]; decide)
      rw [spl_all (by rw [tabL_length, tabL_length])] at hb
      have Hb := Lib.hid hb
      have HBe := Lib.hid (below_setCells hB.out (Nat.le_refl _) 0 (tabL 256))
      clear hb
      go_wp2_with (first
        | (refine wpList_load_mid rfl 155 _ rfl (w.heap.size + 1) 0 rfl (tabL 256) _ Hrg.out Try.underlying155 rfl tab_size ?_)
        | (refine wpList_store_mid rfl 155 _ _ rfl w.heap.size 0 (tabL 256).toArray rfl rfl Hth.out Hs2.out Hone.out ?_))
      (try simp only [Exit.inBlock, Exit.then])
      refine bodyPost_ret (results_mid rfl _ _ w.heap.size (tabL 256) _ rfl Hb.out.range Try.underlying155 rfl tab_size) rfl ?_
      exact ⟨rfl, HBe.out⟩
end Go.Proofs.Ytkclmfppjhmnjaa
