/- The contract of repair.Image. -/
/- The contract of wire.Int. -/
import Derived.Test.YtkclmfppjhmnjaaB09
import Derived.Deep.CutBlock
import Derived.Test.YtkclmfppjhmnjaaB07
import Derived.Deep.QuietTactic
import Derived.BigQuiet
import Derived.OwnWalk
import Derived.Deep.DeepCutAuto
namespace Go.Proofs.Ytkclmfppjhmnjaa
open Go.RowKit Img

/-- Bytes and an error. -/
def BsErr (l : List Nat) (x : Nat) (w : World) (e : Ending) (w' : World) : Prop := ∃ v', e = .returned (.tuple #[v', .int .i64 x]) ∧ BO w' w.heap.size v' l ∧ Below w.heap.size w w'

theorem cutN_step {l : List (List Nat)} {k : Nat} (h : l.getD k [] = zp) : cutN l (k + 1) = cutN l k := by rw [cutN, if_pos h]
theorem cutN_stop {l : List (List Nat)} {k : Nat} (h : l.getD k [] ≠ zp) : cutN l (k + 1) = k + 1 := by rw [cutN, if_neg h]
theorem dr_all (l : List (List Nat)) (q : List (Int × List Nat)) : drErr l.length q 0 l.length = dkErr l.length q ∧ drPg l q 0 l.length = if dkErr l.length q = 0 then cont l q else [] := by
  have h1 : drErr l.length q 0 l.length = dkErr l.length q := by
    unfold drErr
    by_cases h : dkErr l.length q = 0
    · rw [if_pos h, if_pos (by omega), h]
    · rw [if_neg h]
  refine ⟨h1, ?_⟩
  unfold drPg
  rw [h1]
  split
  · show ((cont l q).drop 0).take l.length = _
    rw [List.drop_zero, List.take_of_length_le (by rw [cont_length]; exact Nat.le_refl _)]
  · rfl

theorem page_range {w : World} {g : Nat} {l : List (List Nat)} (hb : Blk w g 82 (pgc l)) (h16 : P16 l) {i : Nat} (hi : i < l.length) : w.rangeAt g (i * 16) ((l.getD i []).map bv) := by
  have := (show Blk w g 82 (l.flatten.map bv) from hb).row.page h16 i _ (getD_some (d := []) hi)
  rw [Nat.zero_add] at this
  exact this.range

set_option maxRecDepth 100000 in
set_option maxHeartbeats 4000000 in
theorem Image_any (vs vp : Value) (l : List (List Nat)) (q : List (Int × List Nat)) (w : World) (hv : Pgs w vs 16 l) (h16 : P16 l) (hl : l.length ≤ 1000000000) (hq : Pds w vp q) (hq16 : Q16 q) (hqn : q.length ≤ 1000000000) :
    Calls Try.prog 13 #[.agg #[vs, vp]] w (BsErr (imRes l q) (imErr l q) w) := by
  obtain ⟨i0, hi, hz0, hz1, hz2⟩ := info_parts infoByte
  have hB := (Below.refl w.heap.size w).alloc (Nat.le_refl _) (.cells #[vs, vp] 25)
  have c0 : (w.alloc (.cells #[vs, vp] 25)).cell? ⟨w.heap.size, 0, none⟩ = some vs := (Blk.new w 25 #[vs, vp]).cell rfl
  have c1 : (w.alloc (.cells #[vs, vp] 25)).cell? ⟨w.heap.size, 1, none⟩ = some vp := (Blk.new w 25 #[vs, vp]).cell rfl
  have HV := Lib.hid (hv.new hB)
  have HQ := Lib.hid (hq.new hB)
  have HB := Lib.hid hB
  obtain ⟨av, cv, rfl, hcv, _⟩ := hv
  obtain ⟨aq, cq, rfl, hcq, _⟩ := hq
  have H16 := Lib.hid h16
  have Hq16 := Lib.hid hq16
  clear h16 hq16 hB
  go_enter Try.func13, Try.ntmps13
  go_wp2_with fail
  generalize w.alloc (.cells #[.slice av l.length cv, .slice aq q.length cq] 25) = W0 at *
  refine (dRead_any _ _ l q 0 l.length _ HV.out H16.out hl HQ.out Hq16.out hqn (by decide)).mono ?_
  rintro e w1 ⟨v1, rfl, hO, hB1⟩
  obtain ⟨e1, e2⟩ := dr_all l q
  rw [e1]
  rw [e2] at hO
  have HB1 := Lib.hid (HB.out.trans (hB1.mono HB.out.size))
  have hzw := HB.out.size
  have hzw1 := hB1.size
  clear e1 e2 hB1 c0 c1 HV HQ
  by_cases hE : dkErr l.length q = 0
  · rw [if_pos hE] at hO
    obtain ⟨hn1, hn2, hin⟩ := dkErr_ok hE
    have hLl := cont_length l q
    have HL16 := Lib.hid (show P16 (cont l q) from cont_all H16.out (fun p hp => Hq16.out p hp))
    have HIE := Lib.hid (show imErr l q = if 65536 < (imgB (cont l q)).length then 5 else 0 by unfold imErr; rw [if_pos hE])
    have HIR := Lib.hid (show imRes l q = if imErr l q = 0 then imgB (cont l q) else [] from rfl)
    have HIL := Lib.hid (imgB_length HL16.out)
    have HIB := Lib.hid (show imgB (cont l q) = Wire.enc l.length ++ ((cont l q).take (cutN (cont l q) l.length)).flatten by unfold imgB; rw [hLl])
    rw [hE]
    generalize imErr l q = xe at *
    generalize imRes l q = xr at *
    generalize cont l q = L at *
    generalize l.length = n at *
    have HLl := Lib.hid hLl
    have hfur := fur_small hn2
    rw [hLl] at HIL
    have hnum := Wire.num_of (n := n) (Nat.lt_of_le_of_lt hn2 (by decide))
    have Hnum := Lib.hid hnum
    obtain ⟨g, cap, rfl, hg, hc1, hc2, hblk⟩ := hO.some (by intro h; rw [h] at hLl; simp at hLl; omega)
    rw [hLl] at hc1 ⊢
    have Hblk := Lib.hid hblk
    clear hO hblk hE hLl hnum
    go_upto_block 0 with (fail)
    go_cut [6] (fun s6 wx => s6 = .int .i64 (cutN L n) ∧ w1 = wx)
    case first =>
      go_wp2_with fail
      go_loop [6] (fun s6 => ∃ k : Nat, k ≤ n ∧ s6 = .int .i64 k ∧ Hid (cutN L k = cutN L n)) (fun i => (intOf i).toNat)
      case atStart => exact ⟨n, Nat.le_refl _, rfl, rfl⟩
      case round =>
        obtain ⟨k, hk, rfl, hcut⟩ := hrel
        cases k with
        | zero =>
          go_wp2_with fail
          go_meet
          exact ⟨by rw [← hcut.out]; rfl, rfl⟩
        | succ k =>
          have Hrg := Lib.hid (page_range Hblk.out HL16.out (i := k) (by rw [HLl.out]; omega))
          have hr16 := HL16.out _ (List.mem_of_getElem? (getD_some (d := []) (show k < L.length by rw [HLl.out]; omega)))
          have Hps := Lib.hid (page_size hr16)
          obtain ⟨r, hr⟩ : ∃ r, L.getD k [] = r := ⟨_, rfl⟩
          rw [hr] at Hrg hr16 Hps
          by_cases hzr : r = zp
          · have Hd := Lib.hid (decide_eq_true hzr)
            have Hc := Lib.hid (show cutN L k = cutN L n by rw [← hcut.out, cutN_step (by rw [hr, hzr])])
            clear hzr hr hcut
            go_wp2_with (first
              | (refine wpList_load_want (by rfl) 82 _ rfl g (k * 16) rfl (r.map bv) _ Hrg.out Try.underlying82 rfl Hps.out ?_)
              | (refine wpList_eq_page (by rfl) _ _ _ rfl r zp rfl rfl hr16 zp_length true Hd.out ?_))
            go_round
            case rel => exact ⟨k, by omega, by go_num, Hc.out⟩
            case measure => simp [intOf]
          · have Hd := Lib.hid (decide_eq_false hzr)
            have Hc := Lib.hid (show cutN L n = k + 1 by rw [← hcut.out, cutN_stop (by rw [hr]; exact hzr)])
            clear hzr hr hcut
            go_wp2_with (first
              | (refine wpList_load_want (by rfl) 82 _ rfl g (k * 16) rfl (r.map bv) _ Hrg.out Try.underlying82 rfl Hps.out ?_)
              | (refine wpList_eq_page (by rfl) _ _ _ rfl r zp rfl rfl hr16 zp_length false Hd.out ?_))
            go_meet
            exact ⟨by rw [Hc.out]; rfl, rfl⟩
    case rest =>
    obtain ⟨rfl, rfl⟩ := hcut
    have hkn := cutN_le L n
    generalize cutN L n = k at *
    have hkn' : (k : Int) ≤ (cap : Int) := by omega
    go_wp2_with fail
    refine (PutInt_any _ [] n _ ⟨none, 0, rfl, Nat.le_refl _, Or.inl rfl⟩ (by simp)).mono ?_
    rintro e w2 ⟨v2, rfl, hO2, hB2⟩
    rw [Hnum.out, List.nil_append] at hO2
    have HO2 := Lib.hid hO2
    have Hb2 := Lib.hid (Hblk.out.below hB2 Hblk.out.lt)
    have HB2 := Lib.hid (HB1.out.trans (hB2.mono HB1.out.size))
    have HBw := Lib.hid hB2
    have Hgb := Lib.hid Hblk.out.lt
    clear hO2 hB2 Hb2 HB2
    go_wp2_with fail
    have hO2f := HO2.out.form
    obtain ⟨a2, c2, rfl⟩ := hO2f
    go_loopg [7, 43] k (fun gk v i wr => ∃ j : Nat, j + gk = k ∧ i = .int .i64 j ∧ Hid (BO wr w1.heap.size v (Wire.enc n ++ (L.take j).flatten)) ∧ Hid (Below w1.heap.size w1 wr))
    case atStart => exact ⟨0, by omega, rfl, by show BO _ _ _ (Wire.enc n ++ []); rw [List.append_nil]; exact HO2.out, HBw.out⟩
    case round =>
      obtain ⟨j, hgk, rfl, hO, hBr⟩ := hrel
      have Hgk := Lib.hid hgk
      have hjk : j ≤ k := by omega
      clear hgk
      obtain ⟨av', cv', rfl⟩ := hO.out.form
      by_cases hlt : j < k
      · have hjL : j < L.length := by rw [HLl.out]; omega
        have hr0 := getD_some (l := L) (d := []) hjL
        have Hbr := Lib.hid (Hblk.out.below hBr.out Hgb.out)
        have Hrg := Lib.hid (page_range Hbr.out HL16.out hjL)
        have hr16 := HL16.out _ (List.mem_of_getElem? hr0)
        obtain ⟨r, hr⟩ : ∃ r, L.getD j [] = r := ⟨_, rfl⟩
        rw [hr] at Hrg hr16 hr0
        have Hps := Lib.hid (page_size hr16)
        have Hps2 := Lib.hid (show (Try.prog.info? 82).map (·.size) = some (r.map bv).toArray.size by rw [List.size_toArray]; exact Hps.out)
        have Hone := Lib.hid (all_oneCell_toArray (bv_one r))
        have Hone' := Lib.hid (bv_one r)
        have Hth := Lib.hid (fun (xs : Array Value) (hs : xs.size = 16) => (Blk.new wr 82 xs).there (o := 0) (n := (r.map bv).toArray.size) (by simp [hr16, hs]))
        have HN := Lib.hid (new_set wr 82 #[Value.int IntKind.u8 0, Value.int IntKind.u8 0, Value.int IntKind.u8 0, Value.int IntKind.u8 0, Value.int IntKind.u8 0, Value.int IntKind.u8 0, Value.int IntKind.u8 0, Value.int IntKind.u8 0, Value.int IntKind.u8 0, Value.int IntKind.u8 0, Value.int IntKind.u8 0, Value.int IntKind.u8 0, Value.int IntKind.u8 0, Value.int IntKind.u8 0, Value.int IntKind.u8 0, Value.int IntKind.u8 0] (vs := r.map bv) (by rw [List.length_map, hr16]; rfl))
        have Htk := Lib.hid (show Wire.enc n ++ (L.take (j + 1)).flatten = (Wire.enc n ++ (L.take j).flatten) ++ r by rw [List.take_add_one, hr0]; simp)
        have hpl : (Wire.enc n ++ (L.take j).flatten).length ≤ 1000000 := by
          have h1 := flat_len (n := 16) (l := L.take j) (fun x hx => HL16.out x (List.mem_of_mem_take hx))
          have h2 := List.length_take_le j L
          rw [List.length_append, Wire.enc_length, h1]
          omega
        obtain ⟨p, hp⟩ : ∃ p, Wire.enc n ++ (L.take j).flatten = p := ⟨_, rfl⟩
        rw [hp] at hO Htk hpl ⊢
        clear hr hr0 hjL hp
        go_upto_region 11 with (first
          | (refine wpList_load_want (by rfl) 82 _ rfl g (j * 16) rfl (r.map bv) _ Hrg.out Try.underlying82 rfl Hps.out ?_)
          | (refine wpList_store_mid rfl 82 _ _ rfl wr.heap.size 0 (r.map bv).toArray rfl rfl (Hth.out _ rfl) Hps2.out Hone.out ?_))
        generalize (wr.alloc (.cells #[Value.int IntKind.u8 0, Value.int IntKind.u8 0, Value.int IntKind.u8 0, Value.int IntKind.u8 0, Value.int IntKind.u8 0, Value.int IntKind.u8 0, Value.int IntKind.u8 0, Value.int IntKind.u8 0, Value.int IntKind.u8 0, Value.int IntKind.u8 0, Value.int IntKind.u8 0, Value.int IntKind.u8 0, Value.int IntKind.u8 0, Value.int IntKind.u8 0, Value.int IntKind.u8 0, Value.int IntKind.u8 0] 82)).setCells wr.heap.size 0 (r.map bv) = W2 at *
        have hzr := hBr.out.size
        have HO3 := Lib.hid (hO.out.new HN.out.2)
        have HB3 := Lib.hid (hBr.out.trans (HN.out.2.mono hBr.out.size))
        have Hsrc := Lib.hid (show ∀ jj u, (r.map bv)[jj]? = some u → W2.cell? ((⟨wr.heap.size, 0, none⟩ : Addr).add jj) = some u from (HN.out.1.row).src (Below.refl _ _))
        have hz3 := HN.out.2.size
        go_wp2_with (at_builtin; refine wpList_append_own _ rfl _ _ 26 rfl w1.heap.size 5 i0 (.int .u8 0) 1 1 Try.underlying26 hi hz0 hz1 hz2 rfl (by decide) _ p.length (p.map bv) rfl HO3.out ⟨wr.heap.size, 0, none⟩ 16 16 (r.map bv) rfl ?c1 Hsrc.out Hone'.out ?c4 ?c5 ?c6 ?_)
        case c1 => rw [List.length_map, hr16]
        case c4 => unfold maxLen; omega
        case c5 => omega
        case c6 => omega
        intro v5 w5 hown hgr _
        have hO5 : BO w5 w1.heap.size v5 (p ++ r) := by unfold BO; rw [List.length_append, List.map_append, hr16]; exact hown
        have hB5 : Below w1.heap.size w1 w5 := Below.grown HB3.out hgr (by omega) HO3.out.block
        rw [← Htk.out] at hO5
        have HO5 := Lib.hid hO5
        have HB5 := Lib.hid hB5
        clear hown hgr hO5 hB5
        go_wp2_with fail
        go_roundg (k - j - 1)
        case measure => have := Hgk.out; omega
        case rel => exact ⟨j + 1, by have := Hgk.out; omega, by go_num, HO5.out, HB5.out⟩
      · obtain rfl : j = k := by omega
        have hO' := hO.out
        rw [← HIB.out] at hO'
        rw [← HIB.out]
        have HBe := Lib.hid (HB1.out.trans (hBr.out.mono HB1.out.size))
        have HOe := Lib.hid (hO'.base (Nat.le_trans hzw hzw1))
        generalize imgB L = M at *
        clear hO hO'
        by_cases hL : 65536 < M.length
        · have t1 : decide ((65536 : Int) < (M.length : Int)) = true := by simp; omega
          have hx := HIE.out
          rw [if_pos hL] at hx
          have Hx := Lib.hid hx
          clear hx hL
          go_wp2_with fail
          go_ret2
          exact ⟨_, by rw [Hx.out]; rfl, by rw [HIR.out, if_neg (by rw [Hx.out]; decide)]; exact BO.nil _ _, HBe.out⟩
        · have t1 : decide ((65536 : Int) < (M.length : Int)) = false := by simp; omega
          have hx := HIE.out
          rw [if_neg hL] at hx
          have Hx := Lib.hid hx
          clear hx hL
          go_wp2_with fail
          go_ret2
          exact ⟨_, by rw [Hx.out]; rfl, by rw [HIR.out, if_pos Hx.out]; exact HOe.out, HBe.out⟩
  · rw [if_neg hE] at hO
    have HIE := Lib.hid (show imErr l q = dkErr l.length q by unfold imErr; rw [if_neg hE])
    have HD := Lib.hid (show dkErr l.length q = 2 by unfold dkErr at hE ⊢; split at hE; (rename_i h; rw [if_pos h]); exact absurd rfl hE)
    rw [HD.out]
    obtain ⟨a1, c1, rfl⟩ : ∃ a1 c1, v1 = .slice a1 0 c1 := by
      rcases hO.2 with ⟨h, _⟩ | ⟨g, cap, _, h, _⟩
      · exact ⟨none, 0, h⟩
      · exact ⟨_, _, h⟩
    clear hO hE
    go_wp2_with fail
    go_ret2
    exact ⟨_, by rw [HIE.out, HD.out]; rfl, by unfold imRes; rw [if_neg (by rw [HIE.out, HD.out]; decide)]; exact BO.nil _ _, HB1.out⟩
end Go.Proofs.Ytkclmfppjhmnjaa

namespace Go.Proofs.Ytkclmfppjhmnjaa
open Go.RowKit Wire

/-- What reading a number leaves. -/
def IntRet (l : List Nat) (w : World) (e : Ending) (w' : World) : Prop := ∃ vr, e = .returned (.tuple #[.int .i64 (rdNum l), vr, .int .i64 (rdErr l)]) ∧ BO w' w.heap.size vr (rdRest l) ∧ Below w.heap.size w w'

theorem xor_255 : ∀ b : Fin 256, 255 ^^^ b.val = 255 - b.val := by decide +kernel
theorem not_u8 {b : Nat} (hb : b < 256) : bits .xor .u8 IntKind.u8.max (b : Int) = ((255 - b : Nat) : Int) := by
  have h1 : (BitVec.ofInt 8 (b : Int)).toNat = b := by
    rw [BitVec.ofInt_natCast, BitVec.toNat_ofNat]; exact Nat.mod_eq_of_lt (by omega)
  show IntKind.u8.wrap ((BitVec.ofInt 8 (255 : Int) ^^^ BitVec.ofInt 8 (b : Int)).toNat : Int) = _
  rw [BitVec.toNat_xor, h1]
  show IntKind.u8.wrap ((255 ^^^ b : Nat) : Int) = _
  rw [xor_255 ⟨b, hb⟩]
  exact IntWalk.u8_in _ (by simp only; omega)
theorem and_u8 (a b : Nat) (ha : a < 256) (hb : b < 256) : bits .and .u8 (a : Int) (b : Int) = ((a &&& b : Nat) : Int) := by
  have hx : a &&& b ≤ a := Nat.and_le_left
  have h1 : (BitVec.ofInt 8 (a : Int)).toNat = a := by
    rw [BitVec.ofInt_natCast, BitVec.toNat_ofNat]; exact Nat.mod_eq_of_lt (by omega)
  have h2 : (BitVec.ofInt 8 (b : Int)).toNat = b := by
    rw [BitVec.ofInt_natCast, BitVec.toNat_ofNat]; exact Nat.mod_eq_of_lt (by omega)
  show IntKind.u8.wrap ((BitVec.ofInt 8 (a : Int) &&& BitVec.ofInt 8 (b : Int)).toNat : Int) = _
  rw [BitVec.toNat_and, h1, h2]
  exact IntWalk.u8_in _ (by omega)
theorem or_i64 (a b : Nat) (ha : a < 2 ^ 62) (hb : b < 2 ^ 62) : bits .or .i64 (a : Int) (b : Int) = ((a ||| b : Nat) : Int) := by
  have hx : a ||| b < 2 ^ 62 := Nat.or_lt_two_pow ha hb
  have h1 : (BitVec.ofInt 64 (a : Int)).toNat = a := by
    rw [BitVec.ofInt_natCast, BitVec.toNat_ofNat]; exact Nat.mod_eq_of_lt (by omega)
  have h2 : (BitVec.ofInt 64 (b : Int)).toNat = b := by
    rw [BitVec.ofInt_natCast, BitVec.toNat_ofNat]; exact Nat.mod_eq_of_lt (by omega)
  show IntKind.i64.wrap ((BitVec.ofInt 64 (a : Int) ||| BitVec.ofInt 64 (b : Int)).toNat : Int) = _
  rw [BitVec.toNat_or, h1, h2]
  exact IntWalk.i64_in _ (by omega)
theorem shl_or {n b : Nat} (hn : n < 2 ^ 53) (hb : b < 256) : bits .or .i64 ((n : Int) * 256) (b : Int) = ((n * 256 + b : Nat) : Int) := by
  have h1 := or_i64 (n * 256) b (by omega) (by omega)
  rw [show n * 256 ||| b = n * 256 + b by rw [Nat.mul_comm]; exact (Nat.two_pow_add_eq_or_of_lt (i := 8) hb n).symm] at h1
  rw [← h1]
  congr 1
theorem and_head : ∀ b : Fin 256, ones b.val ≤ 7 → b.val &&& (127 / 2 ^ ones b.val) = b.val - (256 - 2 ^ (8 - ones b.val)) := by decide +kernel
theorem big_bound {x k : Nat} {t : List Nat} (hx : x < 2 ^ (7 - k)) (hk : k ≤ 7) (ht : ∀ y ∈ t, y < 256) (hl : t.length ≤ k) : big x t < 2 ^ 56 := by
  have h1 := big_lt ht
  rw [big_lin]
  have h2 : (x + 1) * 2 ^ (8 * t.length) ≤ 2 ^ (7 - k) * 2 ^ (8 * t.length) := Nat.mul_le_mul_right _ hx
  rw [Nat.add_mul, Nat.one_mul, ← Nat.pow_add] at h2
  have h3 : 2 ^ (7 - k + 8 * t.length) ≤ 2 ^ 56 := Nat.pow_le_pow_right (by decide) (by omega)
  omega
theorem big_bound2 {x k : Nat} {t : List Nat} (hx : x < 2 ^ (7 - k)) (hk : k ≤ 7) (ht : ∀ y ∈ t, y < 256) (hl : t.length < k) : big x t < 2 ^ 53 := by
  have h1 := big_lt ht
  rw [big_lin]
  have h2 : (x + 1) * 2 ^ (8 * t.length) ≤ 2 ^ (7 - k) * 2 ^ (8 * t.length) := Nat.mul_le_mul_right _ hx
  rw [Nat.add_mul, Nat.one_mul, ← Nat.pow_add] at h2
  have h3 : 2 ^ (7 - k + 8 * t.length) ≤ 2 ^ 53 := Nat.pow_le_pow_right (by decide) (by omega)
  omega
theorem big_snoc (x : Nat) (t : List Nat) (b : Nat) : big x (t ++ [b]) = big x t * 256 + b := by
  induction t generalizing x with
  | nil => rfl
  | cons c t ih => rw [List.cons_append, big, big, ih]

theorem Bs.tailAt {w : World} {B o q c j b : Nat} {r : List Nat} (hr : RowAt w B o (b :: r)) (hq : r.length - j = 0 ∨ q = o + (j + 1)) (hc : r.length - j ≤ c) : Bs w (.slice (some ⟨B, q, none⟩) (r.length - j) c) (r.drop j) := by
  refine ⟨_, c, by rw [List.length_drop], by rw [List.length_drop]; exact hc, ?_⟩
  rcases hq with h | h
  · exact Or.inl (List.drop_of_length_le (by omega))
  · exact Or.inr ⟨B, q, rfl, by have := hr.drop (j + 1); rw [List.drop_succ_cons, ← h] at this; exact this⟩

set_option maxRecDepth 100000 in
set_option maxHeartbeats 4000000 in
theorem wInt_any (v : Value) (l : List Nat) (w : World) (h : Bs w v l) (hb : Byt l) (hl : l.length ≤ 1000000000) : Calls Try.prog 38 #[v] w (IntRet l w) := by
  have H := Lib.hid h
  cases l with
  | nil =>
    obtain ⟨a, cap, rfl, hcap, _⟩ := h
    clear H
    go_enter Try.func38, Try.ntmps38
    go_wp2_with fail
    go_ret3
    exact ⟨_, rfl, BO.nil _ _, Below.refl _ _⟩
  | cons b r =>
    obtain ⟨a, cap, rfl, hcap, hr0⟩ := h
    obtain ⟨B, o, hae, hrow⟩ : ∃ B o, a = some ⟨B, o, none⟩ ∧ RowAt w B o (b :: r) := by
      rcases hr0 with h | h
      · cases h
      · exact h
    subst hae
    have hb0 := hb b (by simp)
    have hc0 := hrow 0 b rfl
    rw [Nat.add_zero] at hc0
    unfold bv at hc0
    have hLZ := Lib.hid (LeadingZeros8_any (255 - b) w (by omega))
    have hkd : 8 - bl (255 - b) = ones b := rfl
    rw [hkd] at hLZ
    have hk8 := ones_le b
    obtain ⟨k, hk⟩ : ∃ k, ones b = k := ⟨_, rfl⟩
    rw [hk] at hLZ hk8
    have Hk := Lib.hid hk
    have hnt := not_u8 hb0
    have Hrow := Lib.hid hrow
    have Hb := Lib.hid hb
    have Hb0 := Lib.hid hb0
    clear hkd hk hrow hb
    simp only [List.length_cons] at *
    by_cases h7 : 7 < k
    · have he := Lib.hid (show rdErr (b :: r) = 3 by rw [rdErr, Hk.out, if_pos h7])
      have t1 : decide ((7 : Int) < (k : Int)) = true := by simp; omega
      clear h7
      go_enter Try.func38, Try.ntmps38
      go_wp2_with fail
      refine hLZ.out.mono ?_
      rintro e w' ⟨rfl, rfl⟩
      go_wp2_with fail
      go_ret3
      exact ⟨_, by unfold rdNum; rw [if_neg (by rw [he.out]; decide), he.out]; rfl, by unfold rdRest; rw [if_neg (by rw [he.out]; decide)]; exact BO.nil _ _, Below.refl _ _⟩
    have t1 : decide ((7 : Int) < (k : Int)) = false := by simp; omega
    by_cases hrl : r.length < k
    · have he := Lib.hid (show rdErr (b :: r) = 9 by rw [rdErr, Hk.out, if_neg h7, if_pos hrl])
      have t2 : decide ((r.length : Int) + 1 ≤ (k : Int)) = true := by simp; omega
      clear h7 hrl
      go_enter Try.func38, Try.ntmps38
      go_wp2_with fail
      refine hLZ.out.mono ?_
      rintro e w' ⟨rfl, rfl⟩
      go_wp2_with fail
      go_ret3
      exact ⟨_, by unfold rdNum; rw [if_neg (by rw [he.out]; decide), he.out]; rfl, by unfold rdRest; rw [if_neg (by rw [he.out]; decide)]; exact BO.nil _ _, Below.refl _ _⟩
    have t2 : decide ((r.length : Int) + 1 ≤ (k : Int)) = false := by simp; omega
    obtain ⟨x, hx⟩ : ∃ x, b - (256 - 2 ^ (8 - k)) = x := ⟨_, rfl⟩
    have hx2 : x < 2 ^ (7 - k) := by have := (of_ones hb0 (by rw [Hk.out]; omega)).2; rw [Hk.out, hx] at this; exact this
    have e1 : bits .and .u8 (b : Int) (127 / 2 ^ k) = (x : Int) := by
      have h := and_head ⟨b, hb0⟩ (by simp only; rw [Hk.out]; omega)
      simp only at h
      rw [Hk.out, hx] at h
      have h2 : (127 : Int) / 2 ^ k = ((127 / 2 ^ k : Nat) : Int) := div_cast 127 k
      rw [h2, and_u8 _ _ hb0 (Nat.lt_of_le_of_lt (Nat.div_le_self _ _) (by decide)), h]
    have Hx := Lib.hid hx
    have hx56 : x < 256 := by omega
    have Hx2 := Lib.hid hx2
    have hk7 : k ≤ 7 := by omega
    have hkr : k ≤ r.length := by omega
    clear hx hx2 h7 hrl
    rcases (show cap = 1 ∨ 1 < cap by omega) with rfl | hc1
    all_goals
      go_enter Try.func38, Try.ntmps38
      go_wp2_with fail
      refine hLZ.out.mono ?_
      rintro e w' ⟨rfl, rfl⟩
      go_wp2_with fail
      go_quiet (fail)
      have HBq := Lib.hid (below_drewN (Below.refl w'.heap.size w') nq)
      generalize w'.drewN nq = w1 at *
      go_upto_region 9 with (fail)
      go_cut [33, 34, 35] (fun s33 s34 s35 wx => ∃ p cp, s33 = .slice (some ⟨B, p, none⟩) k cp ∧ (k = 0 ∨ p = o + 1) ∧ s34 = .int .i64 k ∧ s35 = .int .i64 0 ∧ w1 = wx)
      case first =>
        go_wp2_with fail
        all_goals
          go_meet
          first | exact ⟨_, _, rfl, Or.inr rfl, rfl, rfl, rfl⟩ | exact ⟨_, _, rfl, Or.inl (by omega), rfl, rfl, rfl⟩
      case rest =>
      obtain ⟨p, cp, rfl, hp, rfl, rfl, rfl⟩ := hcut
      have Hp := Lib.hid hp
      clear hp
      go_wp2_with fail
      go_loopg [6, 35] k (fun gk n i wr => ∃ j : Nat, j + gk = k ∧ i = .int .i64 j ∧ n = .int .i64 (big x (r.take j)) ∧ w1 = wr)
      case atStart => exact ⟨0, by omega, rfl, rfl, rfl⟩
      case round =>
        obtain ⟨j, hgk, rfl, rfl, rfl⟩ := hrel
        have Hgk := Lib.hid hgk
        have hjk : j ≤ k := by omega
        clear hgk
        by_cases hlt : j < k
        · have hy := getD_some (l := r) (d := 0) (i := j) (by omega)
          obtain ⟨y, hyd⟩ : ∃ y, r.getD j 0 = y := ⟨_, rfl⟩
          rw [hyd] at hy
          have hy2 : y < 256 := Hb.out y (List.mem_cons_of_mem _ (List.mem_of_getElem? hy))
          have hp1 : p = o + 1 := by rcases Hp.out with h | h <;> omega
          have hcy := (HBq.out.cell (p := ⟨B, o + (j + 1), none⟩) (World.block_lt_of_cell? w' _ (Hrow.out (j + 1) y (by simpa using hy)))).trans (Hrow.out (j + 1) y (by simpa using hy))
          rw [show o + (j + 1) = p + j by omega] at hcy
          unfold bv at hcy
          have htk : r.take (j + 1) = r.take j ++ [y] := by rw [List.take_add_one, hy]; rfl
          have htb : ∀ z ∈ r.take j, z < 256 := fun z hz => Hb.out z (List.mem_cons_of_mem _ (List.mem_of_mem_take hz))
          have hN := big_bound2 Hx2.out hk7 htb (by rw [List.length_take]; omega)
          have hS := Lib.hid (show big x (r.take (j + 1)) = big x (r.take j) * 256 + y by rw [htk, big_snoc])
          obtain ⟨N, hNd⟩ : ∃ N, big x (r.take j) = N := ⟨_, rfl⟩
          rw [hNd] at hN hS ⊢
          have e2 := shl_or hN hy2
          have hN2 : N < 9007199254740992 := by omega
          clear htk htb hN hNd hy hyd hp1
          go_wp2_with fail
          go_roundg (k - j - 1)
          case measure => have := Hgk.out; omega
          case rel => exact ⟨j + 1, by have := Hgk.out; omega, by go_num, by rw [hS.out]; go_num, rfl⟩
        · obtain rfl : j = k := by omega
          have hN56 := big_bound Hx2.out hk7 (fun z hz => Hb.out z (List.mem_cons_of_mem _ (List.mem_of_mem_take hz))) (show (r.take j).length ≤ j by rw [List.length_take]; omega)
          obtain ⟨N, hNd⟩ : ∃ N, big x (r.take j) = N := ⟨_, rfl⟩
          have hErr : Hid (rdErr (b :: r) = if 9007199254740991 < N ∨ fur N ≠ j then 3 else 0) := by
            show rdErr (b :: r) = _
            rw [rdErr, Hk.out, if_neg (by omega), if_neg (by omega), Hx.out, hNd]
          have hRaw := Lib.hid (show rdRaw (b :: r) = N by rw [rdRaw, Hk.out, Hx.out, hNd])
          rw [hNd] at hN56 ⊢
          have hN63 : N < 9223372036854775808 := Nat.lt_trans hN56 (by decide)
          clear hNd hN56
          by_cases hbig : 9007199254740991 < N
          · have t3 : decide ((9007199254740991 : Int) < (N : Int)) = true := by simp; omega
            have he := Lib.hid (show rdErr (b :: r) = 3 by rw [hErr.out, if_pos (Or.inl hbig)])
            go_wp2_with fail
            go_ret3
            exact ⟨_, by unfold rdNum; rw [if_neg (by rw [he.out]; decide), he.out]; rfl, by unfold rdRest; rw [if_neg (by rw [he.out]; decide)]; exact BO.nil _ _, HBq.out⟩
          have t3 : decide ((9007199254740991 : Int) < (N : Int)) = false := by simp; omega
          have hF := Lib.hid (wfurther_any N w1 hN63)
          by_cases hfk : fur N ≠ j
          · have he := Lib.hid (show rdErr (b :: r) = 3 by rw [hErr.out, if_pos (Or.inr hfk)])
            have t4 : ((fur N : Int) != (j : Int)) = true := by simp; omega
            go_wp2_with fail
            refine hF.out.mono ?_
            rintro e w2 ⟨rfl, rfl⟩
            go_wp2_with fail
            go_ret3
            exact ⟨_, by unfold rdNum; rw [if_neg (by rw [he.out]; decide), he.out]; rfl, by unfold rdRest; rw [if_neg (by rw [he.out]; decide)]; exact BO.nil _ _, HBq.out⟩
          have he := Lib.hid (show rdErr (b :: r) = 0 by rw [hErr.out, if_neg (by omega)])
          have t4 : ((fur N : Int) != (j : Int)) = false := by simp; omega
          go_wp2_with fail
          refine hF.out.mono ?_
          rintro e w2 ⟨rfl, rfl⟩
          clear hErr hfk hbig hF
          go_wp2_with fail
          all_goals
            refine (Clone_bs _ (r.drop j) _ (Bs.tailAt (Hrow.out.new HBq.out) (by first | exact Or.inr rfl | exact Or.inl (by omega)) (by omega)) (by rw [List.length_drop]; omega)).mono ?_
            rintro e w3 ⟨v3, rfl, hO3, hB3⟩
            have HO3 := Lib.hid (hO3.base HBq.out.size)
            have HB3 := Lib.hid (HBq.out.trans (hB3.mono HBq.out.size))
            clear hO3 hB3
            go_wp2_with fail
            go_ret3
            exact ⟨_, by unfold rdNum; rw [if_pos he.out, hRaw.out, he.out]; rfl, by unfold rdRest; rw [if_pos he.out, List.headD_cons, Hk.out, List.drop_succ_cons]; exact HO3.out, HB3.out⟩
end Go.Proofs.Ytkclmfppjhmnjaa
