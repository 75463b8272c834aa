/- The contract of repair.Image. -/
import Derived.Test.YtkclmfppjhmnjaaDk4
import Derived.Deep.CutBlock
namespace Go.Proofs.Ytkclmfppjhmnjaa
open Go.RowKit Img

/-- Bytes and an error. -/
def BsErr (l : List Nat) (x : Nat) (w : World) (e : Ending) (w' : World) : Prop := ∃ v', e = .returned (.tuple #[v', .int .i64 x]) ∧ BO w' w.heap.size v' l ∧ Below w.heap.size w w'

theorem cutN_step {l : List (List Nat)} {k : Nat} (h : l.getD k [] = zp) : cutN l (k + 1) = cutN l k := by rw [cutN, if_pos h]
theorem cutN_stop {l : List (List Nat)} {k : Nat} (h : l.getD k [] ≠ zp) : cutN l (k + 1) = k + 1 := by rw [cutN, if_neg h]
theorem dr_all (l : List (List Nat)) (q : List (Int × List Nat)) : drErr l.length q 0 l.length = dkErr l.length q ∧ drPg l q 0 l.length = if dkErr l.length q = 0 then cont l q else [] := by
  have h1 : drErr l.length q 0 l.length = dkErr l.length q := by
    unfold drErr
    by_cases h : dkErr l.length q = 0
    · rw [if_pos h, if_pos (by omega), h]
    · rw [if_neg h]
  refine ⟨h1, ?_⟩
  unfold drPg
  rw [h1]
  split
  · show ((cont l q).drop 0).take l.length = _
    rw [List.drop_zero, List.take_of_length_le (by rw [cont_length]; exact Nat.le_refl _)]
  · rfl

theorem page_range {w : World} {g : Nat} {l : List (List Nat)} (hb : Blk w g 82 (pgc l)) (h16 : P16 l) {i : Nat} (hi : i < l.length) : w.rangeAt g (i * 16) ((l.getD i []).map bv) := by
  have := (show Blk w g 82 (l.flatten.map bv) from hb).row.page h16 i _ (getD_some (d := []) hi)
  rw [Nat.zero_add] at this
  exact this.range

set_option maxRecDepth 100000 in
set_option maxHeartbeats 4000000 in
theorem Image_any (vs vp : Value) (l : List (List Nat)) (q : List (Int × List Nat)) (w : World) (hv : Pgs w vs 16 l) (h16 : P16 l) (hl : l.length ≤ 1000000000) (hq : Pds w vp q) (hq16 : Q16 q) (hqn : q.length ≤ 1000000000) :
    Calls Try.prog 13 #[.agg #[vs, vp]] w (BsErr (imRes l q) (imErr l q) w) := by
  obtain ⟨i0, hi, hz0, hz1, hz2⟩ := info_parts infoByte
  have hB := (Below.refl w.heap.size w).alloc (Nat.le_refl _) (.cells #[vs, vp] 25)
  have c0 : (w.alloc (.cells #[vs, vp] 25)).cell? ⟨w.heap.size, 0, none⟩ = some vs := (Blk.new w 25 #[vs, vp]).cell rfl
  have c1 : (w.alloc (.cells #[vs, vp] 25)).cell? ⟨w.heap.size, 1, none⟩ = some vp := (Blk.new w 25 #[vs, vp]).cell rfl
  have HV := Lib.hid (hv.new hB)
  have HQ := Lib.hid (hq.new hB)
  have HB := Lib.hid hB
  obtain ⟨av, cv, rfl, hcv, _⟩ := hv
  obtain ⟨aq, cq, rfl, hcq, _⟩ := hq
  have H16 := Lib.hid h16
  have Hq16 := Lib.hid hq16
  clear h16 hq16 hB
  go_enter Try.func13, Try.ntmps13
  go_wp2_with fail
  generalize w.alloc (.cells #[.slice av l.length cv, .slice aq q.length cq] 25) = W0 at *
  refine (dRead_any _ _ l q 0 l.length _ HV.out H16.out hl HQ.out Hq16.out hqn (by decide)).mono ?_
  rintro e w1 ⟨v1, rfl, hO, hB1⟩
  obtain ⟨e1, e2⟩ := dr_all l q
  rw [e1]
  rw [e2] at hO
  have HB1 := Lib.hid (HB.out.trans (hB1.mono HB.out.size))
  have hzw := HB.out.size
  have hzw1 := hB1.size
  clear e1 e2 hB1 c0 c1 HV HQ
  by_cases hE : dkErr l.length q = 0
  · rw [if_pos hE] at hO
    obtain ⟨hn1, hn2, hin⟩ := dkErr_ok hE
    have hLl := cont_length l q
    have HL16 := Lib.hid (show P16 (cont l q) from cont_all H16.out (fun p hp => Hq16.out p hp))
    have HIE := Lib.hid (show imErr l q = if 65536 < (imgB (cont l q)).length then 5 else 0 by unfold imErr; rw [if_pos hE])
    have HIR := Lib.hid (show imRes l q = if imErr l q = 0 then imgB (cont l q) else [] from rfl)
    have HIL := Lib.hid (imgB_length HL16.out)
    have HIB := Lib.hid (show imgB (cont l q) = Wire.enc l.length ++ ((cont l q).take (cutN (cont l q) l.length)).flatten by unfold imgB; rw [hLl])
    rw [hE]
    generalize imErr l q = xe at *
    generalize imRes l q = xr at *
    generalize cont l q = L at *
    generalize l.length = n at *
    have HLl := Lib.hid hLl
    have hfur := fur_small hn2
    rw [hLl] at HIL
    have hnum := Wire.num_of (n := n) (Nat.lt_of_le_of_lt hn2 (by decide))
    have Hnum := Lib.hid hnum
    obtain ⟨g, cap, rfl, hg, hc1, hc2, hblk⟩ := hO.some (by intro h; rw [h] at hLl; simp at hLl; omega)
    rw [hLl] at hc1 ⊢
    have Hblk := Lib.hid hblk
    clear hO hblk hE hLl hnum
    go_upto_block 0 with (fail)
    go_cut [6] (fun s6 wx => s6 = .int .i64 (cutN L n) ∧ w1 = wx)
    case first =>
      go_wp2_with fail
      go_loop [6] (fun s6 => ∃ k : Nat, k ≤ n ∧ s6 = .int .i64 k ∧ Hid (cutN L k = cutN L n)) (fun i => (intOf i).toNat)
      case atStart => exact ⟨n, Nat.le_refl _, rfl, rfl⟩
      case round =>
        obtain ⟨k, hk, rfl, hcut⟩ := hrel
        cases k with
        | zero =>
          go_wp2_with fail
          go_meet
          exact ⟨by rw [← hcut.out]; rfl, rfl⟩
        | succ k =>
          have Hrg := Lib.hid (page_range Hblk.out HL16.out (i := k) (by rw [HLl.out]; omega))
          have hr16 := HL16.out _ (List.mem_of_getElem? (getD_some (d := []) (show k < L.length by rw [HLl.out]; omega)))
          have Hps := Lib.hid (page_size hr16)
          obtain ⟨r, hr⟩ : ∃ r, L.getD k [] = r := ⟨_, rfl⟩
          rw [hr] at Hrg hr16 Hps
          by_cases hzr : r = zp
          · have Hd := Lib.hid (decide_eq_true hzr)
            have Hc := Lib.hid (show cutN L k = cutN L n by rw [← hcut.out, cutN_step (by rw [hr, hzr])])
            clear hzr hr hcut
            go_wp2_with (first
              | (refine wpList_load_want (by rfl) 82 _ rfl g (k * 16) rfl (r.map bv) _ Hrg.out Try.underlying82 rfl Hps.out ?_)
              | (refine wpList_eq_page (by rfl) _ _ _ rfl r zp rfl rfl hr16 zp_length true Hd.out ?_))
            go_round
            case rel => exact ⟨k, by omega, by go_num, Hc.out⟩
            case measure => simp [intOf]
          · have Hd := Lib.hid (decide_eq_false hzr)
            have Hc := Lib.hid (show cutN L n = k + 1 by rw [← hcut.out, cutN_stop (by rw [hr]; exact hzr)])
            clear hzr hr hcut
            go_wp2_with (first
              | (refine wpList_load_want (by rfl) 82 _ rfl g (k * 16) rfl (r.map bv) _ Hrg.out Try.underlying82 rfl Hps.out ?_)
              | (refine wpList_eq_page (by rfl) _ _ _ rfl r zp rfl rfl hr16 zp_length false Hd.out ?_))
            go_meet
            exact ⟨by rw [Hc.out]; rfl, rfl⟩
    case rest =>
    obtain ⟨rfl, rfl⟩ := hcut
    have hkn := cutN_le L n
    generalize cutN L n = k at *
    have hkn' : (k : Int) ≤ (cap : Int) := by omega
    go_wp2_with fail
    refine (PutInt_any _ [] n _ ⟨none, 0, rfl, Nat.le_refl _, Or.inl rfl⟩ (by simp)).mono ?_
    rintro e w2 ⟨v2, rfl, hO2, hB2⟩
    rw [Hnum.out, List.nil_append] at hO2
    have HO2 := Lib.hid hO2
    have Hb2 := Lib.hid (Hblk.out.below hB2 Hblk.out.lt)
    have HB2 := Lib.hid (HB1.out.trans (hB2.mono HB1.out.size))
    have HBw := Lib.hid hB2
    have Hgb := Lib.hid Hblk.out.lt
    clear hO2 hB2 Hb2 HB2
    go_wp2_with fail
    have hO2f := HO2.out.form
    obtain ⟨a2, c2, rfl⟩ := hO2f
    go_loopg [7, 43] k (fun gk v i wr => ∃ j : Nat, j + gk = k ∧ i = .int .i64 j ∧ Hid (BO wr w1.heap.size v (Wire.enc n ++ (L.take j).flatten)) ∧ Hid (Below w1.heap.size w1 wr))
    case atStart => exact ⟨0, by omega, rfl, by show BO _ _ _ (Wire.enc n ++ []); rw [List.append_nil]; exact HO2.out, HBw.out⟩
    case round =>
      obtain ⟨j, hgk, rfl, hO, hBr⟩ := hrel
      have Hgk := Lib.hid hgk
      have hjk : j ≤ k := by omega
      clear hgk
      obtain ⟨av', cv', rfl⟩ := hO.out.form
      by_cases hlt : j < k
      · have hjL : j < L.length := by rw [HLl.out]; omega
        have hr0 := getD_some (l := L) (d := []) hjL
        have Hbr := Lib.hid (Hblk.out.below hBr.out Hgb.out)
        have Hrg := Lib.hid (page_range Hbr.out HL16.out hjL)
        have hr16 := HL16.out _ (List.mem_of_getElem? hr0)
        obtain ⟨r, hr⟩ : ∃ r, L.getD j [] = r := ⟨_, rfl⟩
        rw [hr] at Hrg hr16 hr0
        have Hps := Lib.hid (page_size hr16)
        have Hps2 := Lib.hid (show (Try.prog.info? 82).map (·.size) = some (r.map bv).toArray.size by rw [List.size_toArray]; exact Hps.out)
        have Hone := Lib.hid (all_oneCell_toArray (bv_one r))
        have Hone' := Lib.hid (bv_one r)
        have Hth := Lib.hid (fun (xs : Array Value) (hs : xs.size = 16) => (Blk.new wr 82 xs).there (o := 0) (n := (r.map bv).toArray.size) (by simp [hr16, hs]))
        have HN := Lib.hid (new_set wr 82 #[Value.int IntKind.u8 0, Value.int IntKind.u8 0, Value.int IntKind.u8 0, Value.int IntKind.u8 0, Value.int IntKind.u8 0, Value.int IntKind.u8 0, Value.int IntKind.u8 0, Value.int IntKind.u8 0, Value.int IntKind.u8 0, Value.int IntKind.u8 0, Value.int IntKind.u8 0, Value.int IntKind.u8 0, Value.int IntKind.u8 0, Value.int IntKind.u8 0, Value.int IntKind.u8 0, Value.int IntKind.u8 0] (vs := r.map bv) (by rw [List.length_map, hr16]; rfl))
        have Htk := Lib.hid (show Wire.enc n ++ (L.take (j + 1)).flatten = (Wire.enc n ++ (L.take j).flatten) ++ r by rw [List.take_add_one, hr0]; simp)
        have hpl : (Wire.enc n ++ (L.take j).flatten).length ≤ 1000000 := by
          have h1 := flat_len (n := 16) (l := L.take j) (fun x hx => HL16.out x (List.mem_of_mem_take hx))
          have h2 := List.length_take_le j L
          rw [List.length_append, Wire.enc_length, h1]
          omega
        obtain ⟨p, hp⟩ : ∃ p, Wire.enc n ++ (L.take j).flatten = p := ⟨_, rfl⟩
        rw [hp] at hO Htk hpl ⊢
        clear hr hr0 hjL hp
        go_upto_region 11 with (first
          | (refine wpList_load_want (by rfl) 82 _ rfl g (j * 16) rfl (r.map bv) _ Hrg.out Try.underlying82 rfl Hps.out ?_)
          | (refine wpList_store_mid rfl 82 _ _ rfl wr.heap.size 0 (r.map bv).toArray rfl rfl (Hth.out _ rfl) Hps2.out Hone.out ?_))
        generalize (wr.alloc (.cells #[Value.int IntKind.u8 0, Value.int IntKind.u8 0, Value.int IntKind.u8 0, Value.int IntKind.u8 0, Value.int IntKind.u8 0, Value.int IntKind.u8 0, Value.int IntKind.u8 0, Value.int IntKind.u8 0, Value.int IntKind.u8 0, Value.int IntKind.u8 0, Value.int IntKind.u8 0, Value.int IntKind.u8 0, Value.int IntKind.u8 0, Value.int IntKind.u8 0, Value.int IntKind.u8 0, Value.int IntKind.u8 0] 82)).setCells wr.heap.size 0 (r.map bv) = W2 at *
        have hzr := hBr.out.size
        have HO3 := Lib.hid (hO.out.new HN.out.2)
        have HB3 := Lib.hid (hBr.out.trans (HN.out.2.mono hBr.out.size))
        have Hsrc := Lib.hid (show ∀ jj u, (r.map bv)[jj]? = some u → W2.cell? ((⟨wr.heap.size, 0, none⟩ : Addr).add jj) = some u from (HN.out.1.row).src (Below.refl _ _))
        have hz3 := HN.out.2.size
        go_wp2_with (at_builtin; refine wpList_append_own _ rfl _ _ 26 rfl w1.heap.size 5 i0 (.int .u8 0) 1 1 Try.underlying26 hi hz0 hz1 hz2 rfl (by decide) _ p.length (p.map bv) rfl HO3.out ⟨wr.heap.size, 0, none⟩ 16 16 (r.map bv) rfl ?c1 Hsrc.out Hone'.out ?c4 ?c5 ?c6 ?_)
        case c1 => rw [List.length_map, hr16]
        case c4 => unfold maxLen; omega
        case c5 => omega
        case c6 => omega
        intro v5 w5 hown hgr _
        have hO5 : BO w5 w1.heap.size v5 (p ++ r) := by unfold BO; rw [List.length_append, List.map_append, hr16]; exact hown
        have hB5 : Below w1.heap.size w1 w5 := Below.grown HB3.out hgr (by omega) HO3.out.block
        rw [← Htk.out] at hO5
        have HO5 := Lib.hid hO5
        have HB5 := Lib.hid hB5
        clear hown hgr hO5 hB5
        go_wp2_with fail
        go_roundg (k - j - 1)
        case measure => have := Hgk.out; omega
        case rel => exact ⟨j + 1, by have := Hgk.out; omega, by go_num, HO5.out, HB5.out⟩
      · obtain rfl : j = k := by omega
        have hO' := hO.out
        rw [← HIB.out] at hO'
        rw [← HIB.out]
        have HBe := Lib.hid (HB1.out.trans (hBr.out.mono HB1.out.size))
        have HOe := Lib.hid (hO'.base (Nat.le_trans hzw hzw1))
        generalize imgB L = M at *
        clear hO hO'
        by_cases hL : 65536 < M.length
        · have t1 : decide ((65536 : Int) < (M.length : Int)) = true := by simp; omega
          have hx := HIE.out
          rw [if_pos hL] at hx
          have Hx := Lib.hid hx
          clear hx hL
          go_wp2_with fail
          go_ret2
          exact ⟨_, by rw [Hx.out]; rfl, by rw [HIR.out, if_neg (by rw [Hx.out]; decide)]; exact BO.nil _ _, HBe.out⟩
        · have t1 : decide ((65536 : Int) < (M.length : Int)) = false := by simp; omega
          have hx := HIE.out
          rw [if_neg hL] at hx
          have Hx := Lib.hid hx
          clear hx hL
          go_wp2_with fail
          go_ret2
          exact ⟨_, by rw [Hx.out]; rfl, by rw [HIR.out, if_pos Hx.out]; exact HOe.out, HBe.out⟩
  · rw [if_neg hE] at hO
    have HIE := Lib.hid (show imErr l q = dkErr l.length q by unfold imErr; rw [if_neg hE])
    have HD := Lib.hid (show dkErr l.length q = 2 by unfold dkErr at hE ⊢; split at hE; (rename_i h; rw [if_pos h]); exact absurd rfl hE)
    rw [HD.out]
    obtain ⟨a1, c1, rfl⟩ : ∃ a1 c1, v1 = .slice a1 0 c1 := by
      rcases hO.2 with ⟨h, _⟩ | ⟨g, cap, _, h, _⟩
      · exact ⟨none, 0, h⟩
      · exact ⟨_, _, h⟩
    clear hO hE
    go_wp2_with fail
    go_ret2
    exact ⟨_, by rw [HIE.out, HD.out]; rfl, by unfold imRes; rw [if_neg (by rw [HIE.out, HD.out]; decide)]; exact BO.nil _ _, HB1.out⟩
end Go.Proofs.Ytkclmfppjhmnjaa
