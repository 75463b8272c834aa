/- Contracts of galois.Cauchy and of the reference's Cauchy. -/
import Derived.Test.YtlbomlolomcolaaGal4
import Derived.Test.YtlbomlolomcolaaOwn
import Derived.Deep.LoopGhost
namespace Go.Proofs.Ytlbomlolomcolaa
open Go.RowKit

def cauRow (n m i : Nat) : List Nat := (List.range m).map fun k => Gf.gi (i ^^^ (n + k))
def cauM (n m : Nat) : List (List Nat) := (List.range n).map (cauRow n m)

theorem cauRow_length (n m i : Nat) : (cauRow n m i).length = m := by simp [cauRow]
theorem cauM_length (n m : Nat) : (cauM n m).length = n := by simp [cauM]
theorem cauRow_take {n m i k : Nat} (hk : k < m) : (cauRow n m i).take (k + 1) = (cauRow n m i).take k ++ [Gf.gi (i ^^^ (n + k))] := by
  rw [List.take_add_one]; simp [cauRow, hk]
theorem cauM_take {n m k : Nat} (hk : k < n) : (cauM n m).take (k + 1) = (cauM n m).take k ++ [cauRow n m k] := by
  rw [List.take_add_one]; simp [cauM, hk]

theorem cau_xor {n m i k : Nat} (hn : n ≤ 64) (hm : m ≤ 64) (hi : i < n) (hk : k < m) : i ^^^ (n + k) < 256 ∧ i ^^^ (n + k) ≠ 0 := by
  refine ⟨Gf.xor_lt (by omega) (by omega), fun h => ?_⟩
  have : i = n + k := by
    have h1 := congrArg (· ^^^ (n + k)) h
    simpa [Nat.xor_assoc] using h1
  omega

theorem owns_base {w : World} {B B' T n : Nat} {v : Value} {xs : List Value} (h : w.ownsRow B T 1 v n xs) (hB : B' ≤ B) : w.ownsRow B' T 1 v n xs := by
  refine ⟨h.1, ?_⟩
  rcases h.2 with hn | ⟨g, cap, cur, rfl, hb, rest⟩
  · exact .inl hn
  · exact .inr ⟨g, cap, cur, rfl, Nat.le_trans hB hb, rest⟩

theorem OwnRows.base {w : World} {B B' : Nat} {hd : List (Nat × Nat)} {m : List (List Nat)} (h : OwnRows w B hd m) (hB : B' ≤ B) : OwnRows w B' hd m :=
  ⟨h.len, h.inj, fun i p r hp hr => ⟨(h.rows i p r hp hr).1, Nat.le_trans hB (h.rows i p r hp hr).2.1, (h.rows i p r hp hr).2.2⟩⟩

theorem GM.base {w : World} {B B' : Nat} {v : Value} {hd : List (Nat × Nat)} {m : List (List Nat)} (h : GM w B v hd m) (hB : B' ≤ B) : GM w B' v hd m :=
  { h.toOwnRows.base hB with outer := owns_base h.outer hB }

set_option maxRecDepth 100000 in
set_option maxHeartbeats 4000000 in
theorem Cauchy_in (n m : Nat) (w : World) (h1 : 1 ≤ n) (h2 : n ≤ 64) (h3 : 1 ≤ m) (h4 : m ≤ 64) :
    Calls Try.prog 77 #[.int .i64 n, .int .i64 m] w (RowsErr (cauM n m) 0 w) := by
  obtain ⟨i0, hi, hz0, hz1, hz2⟩ := info_parts infoByte
  obtain ⟨j0, gi, gz0, gz1, gz2⟩ := info_parts infoBytes
  have HT0 := Lib.hid (Tab.made w)
  have hx := fun (i k : Nat) (hi : i < n) (hk : k < m) => cau_xor h2 h4 hi hk
  have Hx := Lib.hid hx
  clear hx
  obtain ⟨tri⟩ : Nonempty (PLift (n < m ∨ m < n ∨ (¬ n < m ∧ ¬ m < n))) := ⟨⟨by omega⟩⟩
  rcases tri.down with tr | tr | ⟨tr, tr'⟩
  all_goals
    clear tri
    go_enter Try.func77, Try.ntmps77
    go_wp2_with fail
    refine (field_any _).mono ?_
    rintro e w' ⟨rfl, rfl⟩
    have hB0 := Lib.hid ((Below.refl w.heap.size w).alloc (Nat.le_refl _) (.cells (tb 255) 137))
    have hs1 : (w.alloc (.cells (tb 255) 137)).heap.size = w.heap.size + 1 := by simp
    obtain ⟨w1, hw1⟩ : ∃ w1, w.alloc (.cells (tb 255) 137) = w1 := ⟨_, rfl⟩
    rw [hw1] at hs1 HT0 hB0
    rw [hw1]
    have Hs1 := Lib.hid hs1
    clear hw1 hs1
    go_wp2_with fail
    go_loopg [7, 23] n (fun gk v i wr => ∃ k : Nat, k + gk = n ∧ i = .int .i64 k ∧ Hid (∃ hd, GM wr w1.heap.size v hd ((cauM n m).take k)) ∧ Hid (Below w1.heap.size w1 wr))
    case atStart => exact ⟨0, by omega, rfl, ⟨[], GM.nil _ _⟩, Below.refl _ _⟩
    case round =>
      obtain ⟨k, hgk, rfl, hG, hB⟩ := hrel
      have Hgk := Lib.hid hgk
      have hk : k ≤ n := by omega
      clear hgk
      by_cases hlt : k < n
      · obtain ⟨wo, rfl⟩ : ∃ wo : World, wo = wr := ⟨_, rfl⟩
        have hTo := Lib.hid (HT0.out.below hB.out (by have := Hs1.out; omega))
        have hto : w.heap.size < wo.heap.size := by have := Hs1.out; have := hB.out.size; omega
        go_wp2_with fail
        go_loopg [9, 27] m (fun gk v i wr => ∃ j : Nat, j + gk = m ∧ i = .int .i64 j ∧ Hid (wr.ownsRow wo.heap.size 5 1 v j (((cauRow n m k).take j).map bv)) ∧ Hid (Below wo.heap.size wo wr))
        case atStart => exact ⟨0, by omega, rfl, World.ownsRow_nil _ _ _ _, Below.refl _ _⟩
        case round =>
          obtain ⟨j, hgj, rfl, hO, hBr⟩ := hrel
          have Hgj := Lib.hid hgj
          have hj : j ≤ m := by omega
          clear hgj
          by_cases hlt2 : j < m
          · have hxx := Hx.out k j hlt hlt2
            have e1 : bits .xor .u8 (k : Int) ((n : Int) + j) = ((k ^^^ (n + j) : Nat) : Int) := by
              have := xor_u8 k (n + j) (by omega) (by omega)
              rw [← this]; congr 1
            have htk := Lib.hid (cauRow_take (n := n) (i := k) hlt2)
            generalize k ^^^ (n + j) = x at *
            have hx1 := hxx.1
            have hTr := Lib.hid (hTo.out.below hBr.out hto)
            clear hxx
            go_wp2_with fail
            refine (inv_any _ x _ hx1 hTr.out).mono ?_
            rintro e w3 ⟨rfl, q, rfl⟩
            have hO3 := Lib.hid (owns_kept (S := fun _ => False) hO.out ((Kept.refl _ _).drewN q) fun _ _ => id)
            have hB3 := Lib.hid (below_drewN hBr.out q)
            have hz3 : wo.heap.size ≤ (wr.drewN q).heap.size := hB3.out.size
            generalize wr.drewN q = w3 at *
            go_wp2_with (at_builtin; refine wpList_append_own _ rfl _ _ 26 rfl wo.heap.size 5 i0 (.int .u8 0) 1 1 Try.underlying26 hi hz0 hz1 hz2 rfl (by decide) _ _ _ rfl (hO3.out.alloc _) ⟨w3.heap.size, 0, none⟩ 1 1 [bv (Gf.gi x)] rfl rfl ?c1 ?c2 ?c3 ?c4 ?c5 ?_)
            case c1 => exact cell_one_new _ _ _
            case c2 => intro u hu; simp at hu; subst hu; rfl
            case c3 => unfold maxLen; omega
            case c4 => omega
            case c5 => simp; omega
            intro v' w5 hown hgr _
            have hown' : w5.ownsRow wo.heap.size 5 1 v' (j + 1) (((cauRow n m k).take (j + 1)).map bv) := by rw [htk.out, List.map_append, List.map_take]; exact hown
            have hB5 : Below wo.heap.size wo w5 := (hB3.out.alloc hz3 _).grown hgr (by simp; omega) (fun q hq => (owns_block hO3.out hq).2.1)
            have Hown := Lib.hid hown'
            have HB5 := Lib.hid hB5
            clear hown hown' hB5 hgr
            go_wp2_with fail
            go_roundg (m - j - 1)
            case measure => have := Hgj.out; omega
            case rel => exact ⟨j + 1, by have := Hgj.out; omega, by go_num, Hown.out, HB5.out⟩
          · have hjm : (cauRow n m k).take j = cauRow n m k := List.take_of_length_le (by rw [cauRow_length]; omega)
            have hO' := hO.out
            rw [hjm, show j = (cauRow n m k).length by rw [cauRow_length]; omega] at hO'
            obtain ⟨hd, hG⟩ := hG.out
            have hne : ∃ g cg, u9 = .slice (some ⟨g, 0, none⟩) (cauRow n m k).length cg ∧ wo.heap.size ≤ g ∧ (cauRow n m k).length ≤ cg := by
              rcases hO'.2 with ⟨h0, hl⟩ | ⟨g, cg, cur, hv, g1, _, g3, _⟩
              · rw [cauRow_length] at hl; omega
              · exact ⟨g, cg, hv, g1, g3⟩
            obtain ⟨g, cg, hv, g1, g3⟩ := hne
            rw [hv] at hO'
            have Hblk := Lib.hid (Blk.of_owns hO')
            have HG := Lib.hid hG
            have HGo := Lib.hid ((hG.new hBr.out).outer)
            have hzr : w1.heap.size ≤ wr.heap.size := by have := hB.out.size; have := hBr.out.size; omega
            have hlk : ((cauM n m).take k).length = k := by rw [List.length_take, cauM_length]; omega
            have Hlk := Lib.hid hlk
            rw [hv]
            clear hjm hO' hv hG hO hlk
            go_wp2_with (at_builtin; refine wpList_append_own _ rfl _ _ 39 rfl w1.heap.size 26 j0 (.slice none 0 0) 1 24 Try.underlying39 gi gz0 gz1 gz2 rfl (by decide) _ _ _ rfl (HGo.out.alloc _) ⟨wr.heap.size, 0, none⟩ 1 1 [hv (cauRow n m k).length (g, cg)] rfl rfl ?d1 ?d2 ?d3 ?d4 ?d5 ?_)
            case d1 => exact cell_one_new _ _ _
            case d2 => intro u hu; simp at hu; subst hu; rfl
            case d3 => rw [Hlk.out]; unfold maxLen; omega
            case d4 => rw [Hlk.out]; omega
            case d5 => simp; omega
            intro v' w5 hown hgr _
            have hG5 := HG.out.snoc hBr.out (p := (g, cg)) (r := cauRow n m k) Hblk.out g1 hB.out.size g3 (by rw [Hlk.out]; rw [cauM_length, Nat.min_eq_left hk] at hown; exact hown) hgr
            rw [← cauM_take hlt] at hG5
            have hB5 : Below w1.heap.size w1 w5 := ((hB.out.trans (hBr.out.mono hB.out.size)).alloc hzr _).grown hgr (by simp; omega) (fun q hq => (owns_block HG.out.outer hq).2.1)
            have HG5 := Lib.hid hG5
            have HB5 := Lib.hid hB5
            clear hown hgr hG5 hB5
            go_wp2_with fail
            go_roundg (n - k - 1)
            case measure => have := Hgk.out; omega
            case rel => exact ⟨k + 1, by have := Hgk.out; omega, by go_num, ⟨_, HG5.out⟩, HB5.out⟩
      · have hkn : (cauM n m).take k = cauM n m := List.take_of_length_le (by rw [cauM_length]; omega)
        obtain ⟨hd, hG⟩ := hG.out
        rw [hkn] at hG
        have HG := Lib.hid hG
        clear hG hkn
        go_wp2_with fail
        go_ret2
        have hss : w.heap.size ≤ w1.heap.size := by have := Hs1.out; omega
        exact ⟨_, hd, rfl, HG.out.base hss, hB0.out.trans (hB.out.mono hss)⟩
end Go.Proofs.Ytlbomlolomcolaa
