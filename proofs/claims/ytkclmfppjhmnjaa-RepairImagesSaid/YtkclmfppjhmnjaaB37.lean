/- The contract of volume.collect. -/
import Derived.Test.YtkclmfppjhmnjaaB36
import Derived.Test.YtkclmfppjhmnjaaB33
import Derived.Outline
namespace Go.Proofs.Ytkclmfppjhmnjaa
open Go.RowKit Wire Vol Crc Go.Maps

theorem lawInt : Keyed Try.prog 3 := int_keyed Try.underlying3
theorem zeroBytes (w : World) : (zeroValue 26).run Try.prog w = .ok (.slice none 0 0) w := by kernel_rfl
theorem keyI {i : Nat} (h : i ≤ 9007199254740991) : keyOf Try.prog 3 (.int .i64 (i : Int)) = some (.int .i64 (i : Int)) := keyOf_int_mk Try.underlying3 (WalkArith.wf_i64 (by omega))

set_option maxRecDepth 100000 in
set_option maxHeartbeats 4000000 in
theorem vcollect_any (v : Value) (L : List (List Nat)) (w : World) (hm : Mx w v L) (hBy : BytM L) (hLl : L.length ≤ 1000000000) (hl : ∀ b ∈ L, b.length ≤ 100000000) : Calls Try.prog 62 #[v] w (ClRet L w) := by
  have hmm := @run_makeMap Try.prog
  have Hm := Lib.hid hm
  have HBy := Lib.hid hBy
  have Hll := Lib.hid hl
  obtain ⟨a, cap, rfl, hcap, _⟩ := hm
  have hB0 := al w (.cells #[.int .u32 0, .int .i64 0, .int .i64 0, .int .i64 0, .int .i64 0, .map none] 115)
  have hb0 : Blk (w.alloc (.cells #[.int .u32 0, .int .i64 0, .int .i64 0, .int .i64 0, .int .i64 0, .map none] 115)) w.heap.size 115 (stL hd0 (.map none)) := Blk.new w 115 (stL hd0 (.map none)).toArray
  by_cases h128 : 128 < L.length
  · have HE := Lib.hid (show clErr L = 6 by unfold clErr; rw [if_pos h128])
    have HH := Lib.hid (show clHd L = hd0 by unfold clHd; rw [HE.out]; rfl)
    have t1 : decide ((128 : Int) < (L.length : Int)) = true := by simp; omega
    have HZ := Lib.hid (st_end hb0 rfl hB0 (Nat.le_refl _) hd0 (.map none))
    clear hb0 hB0 h128 hBy hl Hm
    go_enter Try.func62, Try.ntmps62
    go_wp2_with ((with_reducible show wpList _ _ _ (Oper.mk _ (Op.store _ _ _) _ _ _ _ :: _) _ _); refine wpList_store_mid rfl 115 (.tmp 2) (.tmp 16) rfl w.heap.size 0 (stL hd0 (.map none)).toArray rfl rfl HZ.out.1 sizeSet (st_one _ _ rfl) ?_)
    (try simp only [Exit.inBlock, Exit.then])
    refine bodyPost_ret (results_st rfl _ _ w.heap.size hd0 (.map none) rfl HZ.out.2.1) rfl ?_
    exact ⟨none, by rw [HE.out, HH.out]; rfl, (fun h => by rw [HE.out] at h; cases h), HZ.out.2.2⟩
  have t1 : decide ((128 : Int) < (L.length : Int)) = false := by simp; omega
  have hL128 : L.length ≤ 128 := by omega
  have HnE := Lib.hid (show clErr L = if (clAll L).1 = none then 7 else 0 by unfold clErr; rw [if_neg h128])
  have Hb0 := Lib.hid hb0
  have HB0 := Lib.hid hB0
  clear hb0 hB0 h128 hBy hl
  go_enter Try.func62, Try.ntmps62
  go_upto_region 4 with (fail)
  have hB1 := ((HB0.out.alloc HB0.out.size (.map #[] 0)).alloc (by simp; omega) (.cells #[.int .u32 0, .int .i64 0, .int .i64 0, .int .i64 0, .int .i64 0, .map (some (w.heap.size + 1))] 115))
  have hown0 := (World.ownsMap_made (w.alloc (.cells #[.int .u32 0, .int .i64 0, .int .i64 0, .int .i64 0, .int .i64 0, .map none] 115)) Try.prog 3 rdV).alloc (.cells #[.int .u32 0, .int .i64 0, .int .i64 0, .int .i64 0, .int .i64 0, .map (some (w.heap.size + 1))] 115)
  have hs4 : Blk (((w.alloc (.cells #[.int .u32 0, .int .i64 0, .int .i64 0, .int .i64 0, .int .i64 0, .map none] 115)).alloc (.map #[] 0)).alloc (.cells #[.int .u32 0, .int .i64 0, .int .i64 0, .int .i64 0, .int .i64 0, .map (some (w.heap.size + 1))] 115)) (w.heap.size + 1 + 1) 115 (stL hd0 (.map (some (w.heap.size + 1)))) := by
    have := Blk.new ((w.alloc (.cells #[.int .u32 0, .int .i64 0, .int .i64 0, .int .i64 0, .int .i64 0, .map none] 115)).alloc (.map #[] 0)) 115 (stL hd0 (.map (some (w.heap.size + 1)))).toArray
    rw [show ((w.alloc (.cells #[.int .u32 0, .int .i64 0, .int .i64 0, .int .i64 0, .int .i64 0, .map none] 115)).alloc (.map #[] 0)).heap.size = w.heap.size + 1 + 1 by simp] at this
    exact this
  have hb2 := (Hb0.out.alloc (.map #[] 0)).alloc (.cells #[.int .u32 0, .int .i64 0, .int .i64 0, .int .i64 0, .int .i64 0, .map (some (w.heap.size + 1))] 115)
  rw [show (w.alloc (.cells #[.int .u32 0, .int .i64 0, .int .i64 0, .int .i64 0, .int .i64 0, .map none] 115)).heap.size = w.heap.size + 1 by simp] at hown0
  obtain ⟨W1, hW1⟩ : ∃ W1, ((w.alloc (.cells #[.int .u32 0, .int .i64 0, .int .i64 0, .int .i64 0, .int .i64 0, .map none] 115)).alloc (.map #[] 0)).alloc (.cells #[.int .u32 0, .int .i64 0, .int .i64 0, .int .i64 0, .int .i64 0, .map (some (w.heap.size + 1))] 115) = W1 := ⟨_, rfl⟩
  rw [hW1] at hB1 hown0 hs4 hb2 ⊢
  have HB1 := Lib.hid hB1
  have HO1 := Lib.hid hown0
  have HS1 := Lib.hid hs4
  have Hb1 := Lib.hid hb2
  clear hB1 hown0 hs4 hb2 hW1 hmm Hb0 HB0
  go_wp2_with fail
  go_loopg [21] L.length (fun gk i wr => ∃ (k n : Nat) (h : Hd) (D : DataW Value) (vs : List Value), k + gk = L.length ∧ i = .int .i64 k ∧ Hid (n ≤ k) ∧ Hid (Blk wr (w.heap.size + 1 + 1) 115 (stL h (.map (some (w.heap.size + 1))))) ∧ Hid (wr.ownsMap Try.prog 3 rdV (w.heap.size + 1) n D) ∧ Hid (CsM (clTo L k) h D vs) ∧ Hid (HdsOk wr vs (clTo L k).2) ∧ Hid (Far w.heap.size vs) ∧ Hid (Blk wr w.heap.size 115 (stL hd0 (.map none))) ∧ Hid (Below w.heap.size w wr))
  case atStart => exact ⟨0, 0, hd0, .map [], [], by omega, rfl, Nat.le_refl _, HS1.out, HO1.out, ⟨fun _ => ⟨rfl, rfl, rfl⟩, (fun k hk => by cases hk)⟩, HdsOk.nil _, (fun x hx => by cases hx), Hb1.out, HB1.out⟩
  case round =>
    obtain ⟨k, n, h, D, vs, hgk, rfl, hnk, hS, hOm, hC, hV, hF, hb, hB⟩ := hrel
    have Hgk := Lib.hid hgk
    have hk : k ≤ L.length := by omega
    have hzr := hB.out.size
    clear hgk
    by_cases hlt : k < L.length
    · have hbk := getD_some (l := L) (d := []) hlt
      have Hst := Lib.hid (clTo_succ hbk)
      obtain ⟨b, hbd⟩ : ∃ b, L.getD k [] = b := ⟨_, rfl⟩
      rw [hbd] at hbk Hst
      have hbm := List.mem_of_getElem? hbk
      have Hbb := Lib.hid (HBy.out b hbm)
      have hbl := Hll.out b hbm
      obtain ⟨aL, cL, hvL, _, hrL⟩ := Hm.out.new hB.out
      simp only [Value.slice.injEq] at hvL
      obtain ⟨rfl, _, rfl⟩ := hvL
      obtain ⟨gL, oL, AL, CL, rfl, hML⟩ : ∃ b o A C, a = some ⟨b, o, none⟩ ∧ MxAt wr b o L A C := by
        rcases hrL with h | h
        · rw [h] at hlt; simp at hlt
        · exact h
      obtain ⟨cx, hx2, hx3, _⟩ := hML k b hbk
      have Hbs := Lib.hid (show Bs wr (.slice (AL k) b.length (CL k)) b from ⟨_, _, rfl, hx2, hx3⟩)
      have HHd := Lib.hid (vHeader_any (.slice (AL k) b.length (CL k)) b wr Hbs.out Hbb.out hbl)
      clear hML hbk hbd hbm hrL hx2 hx3
      by_cases he : hdErr b = 0
      · have hnum := hd_nums he
        obtain ⟨_, ⟨p1, p2, p3, p4, p5⟩, pl⟩ := hd_len he
        have HE := Lib.hid he
        have Hnum := Lib.hid hnum
        have hz : hdz (hdOf b) = (nst b, 0, ndt b, nrc b, nln b) := by rw [hnum]; rfl
        have Hz := Lib.hid hz
        have hok := clTo_ok L k
        have Hok := Lib.hid hok
        have hp4 : nix b ≤ 9007199254740991 := by omega
        have HK := Lib.hid (keyI hp4)
        have HX := Lib.hid (show nix b = nix b from rfl)
        clear hok hnum hz p1 p2 p3 p4 p5 HX pl
        go_wp2_with fail
        refine HHd.out.mono ?_
        rintro e w3 ⟨vr, rfl, hO3, hB3⟩
        rw [Hnum.out, HE.out]
        obtain ⟨avr, cvr, rfl⟩ := hO3.form
        have hB4 := hB3.trans ((al w3 (.cells #[.int .u32 (nst b), .int .i64 0, .int .i64 (ndt b), .int .i64 (nrc b), .int .i64 (nln b)] 54)).mono hB3.size)
        have h7 : Blk (w3.alloc (.cells #[.int .u32 (nst b), .int .i64 0, .int .i64 (ndt b), .int .i64 (nrc b), .int .i64 (nln b)] 54)) w3.heap.size 54 (hdL (nst b, 0, ndt b, nrc b, nln b)) := Blk.new w3 54 (hdL (nst b, 0, ndt b, nrc b, nln b)).toArray
        have hO4 := hO3.new (al w3 (.cells #[.int .u32 (nst b), .int .i64 0, .int .i64 (ndt b), .int .i64 (nrc b), .int .i64 (nln b)] 54))
        have hzz : w.heap.size + 1 + 1 < w3.heap.size := Nat.lt_of_lt_of_le hS.out.lt hB3.size
        have HS := Lib.hid (hS.out.below hB4 hS.out.lt)
        have HOm := Lib.hid (hOm.out.kept (row := none) ⟨hB4.os, hB4.tape, hB4.output, hB4.size, fun i hi _ => hB4.block i hi⟩ (by simp))
        have HV := Lib.hid (hV.out.new hB4)
        have Hb := Lib.hid (hb.out.below hB4 hb.out.lt)
        have HB := Lib.hid (hB.out.trans (hB4.mono hzr))
        have H7 := Lib.hid h7
        have hFx := Lib.hid (BO.apart hO4 Hb.out (by decide))
        have HO4 := Lib.hid hO4
        clear hB3 hB4 hO3 hO4 h7 HHd
        unfold hdV hdL
        go_upto_region 11 with (fail)
        obtain ⟨W4, hW4⟩ : ∃ W4, w3.alloc (.cells #[.int .u32 (nst b), .int .i64 0, .int .i64 (ndt b), .int .i64 (nrc b), .int .i64 (nln b)] 54) = W4 := ⟨_, rfl⟩
        rw [hW4] at HS HOm HV Hb HB H7 HO4 ⊢
        obtain ⟨g7, hg7⟩ : ∃ g7, w3.heap.size = g7 := ⟨_, rfl⟩
        rw [hg7] at H7 hzz ⊢
        clear hW4 hg7
        have c4 := HS.out.cell (i := 5) rfl
        have H4 := Lib.hid c4
        have R7 := Lib.hid H7.out.range
        have hz4 := HB.out.size
        clear c4
        cases hs : (clTo L k).1 with
        | none =>
          obtain ⟨rfl, rfl, rfl⟩ := hC.out.1 hs
          have Hs := Lib.hid hs
          have t3 : (((Maps.size (.map [] : DataW Value) : Nat) : Int) == 0) = true := rfl
          have c4 := H4.out
          have Hth := Lib.hid (HS.out.there (o := 0) (n := 5) (show 0 + 5 ≤ 6 by decide))
          have HS5 := Lib.hid (st_head (k := (nst b, 0, ndt b, nrc b, nln b)) HS.out)
          have H75 := Lib.hid ((H7.out.setCells_other (b := w.heap.size + 1 + 1) (o := 0) (vs := hdL (nst b, 0, ndt b, nrc b, nln b)) (by omega)).range)
          have HRS := Lib.hid (st_headRange HS5.out)
          have HOm5 := Lib.hid (HOm.out.kept (grown_setCells W4 (w.heap.size + 1 + 1) 0 (hdL (nst b, 0, ndt b, nrc b, nln b))) (by simp))
          have HO5 := Lib.hid ((HO4.out.farCells (BO.apart HO4.out HS.out (by decide)) (hdL (nst b, 0, ndt b, nrc b, nln b))).hd (hdP_ne HE.out))
          have Hb5 := Lib.hid (Hb.out.setCells_other (b := w.heap.size + 1 + 1) (o := 0) (vs := hdL (nst b, 0, ndt b, nrc b, nln b)) (by omega))
          have HB5 := Lib.hid (below_setCells HB.out (show w.heap.size ≤ w.heap.size + 1 + 1 by omega) 0 (hdL (nst b, 0, ndt b, nrc b, nln b)))
          have c45 := HS5.out.cell (i := 5) rfl
          have C45 := Lib.hid c45
          clear hs c45
          go_upto_region 13 with (first
            | (at_len; refine wpList_len_own _ rfl _ 113 rfl 3 26 Try.underlying113 rdV (w.heap.size + 1) n (.map []) rfl HOm.out ?_)
            | ((with_reducible show wpList _ _ _ (Oper.mk _ (Op.load 54 (.tmp 7)) _ _ _ _ :: _) _ _); refine wpList_load_mid rfl 54 (.tmp 7) rfl g7 0 rfl (hdL (nst b, 0, ndt b, nrc b, nln b)) _ R7.out Try.underlying54 rfl sizeVol ?_)
            | ((with_reducible show wpList _ _ _ (Oper.mk _ (Op.store _ _ _) _ _ _ _ :: _) _ _); refine wpList_store_mid rfl 54 (.tmp 41) (.tmp 40) rfl (w.heap.size + 1 + 1) 0 (hdL (nst b, 0, ndt b, nrc b, nln b)).toArray rfl rfl Hth.out sizeVol (hd_one _) ?_))
          have c45 := C45.out
          generalize W4.setCells (w.heap.size + 1 + 1) 0 (hdL (nst b, 0, ndt b, nrc b, nln b)) = W5 at *
          have hh : Maps.has (.map [] : DataW Value) (.int .i64 (nix b : Nat)) = false := rfl
          clear c4
          go_wp2_with (first
            | ((with_reducible show wpList _ _ _ (Oper.mk _ (Op.load 54 (.tmp 7)) _ _ _ _ :: _) _ _); refine wpList_load_mid rfl 54 (.tmp 7) rfl g7 0 rfl (hdL (nst b, 0, ndt b, nrc b, nln b)) _ H75.out Try.underlying54 rfl sizeVol ?_)
            | ((with_reducible show wpList _ _ _ (Oper.mk _ (Op.load 54 (.tmp 50)) _ _ _ _ :: _) _ _); refine wpList_load_mid rfl 54 (.tmp 50) rfl (w.heap.size + 1 + 1) 0 rfl (hdL (nst b, 0, ndt b, nrc b, nln b)) _ HRS.out Try.underlying54 rfl sizeVol ?_)
            | (at_lookup; refine wpList_lookup_own_ok _ rfl _ _ 113 rfl 3 26 lawInt Try.underlying113 rdV (zeroBytes _) (.held (.slice none 0 0)) [] rfl (w.heap.size + 1) n (.map []) rfl HOm5.out _ _ rfl HK.out ?_; intro v46 ps46 hv46; clear hv46)
            | ((with_reducible show wpList _ _ _ (Oper.mk _ (Op.binOp .eql 54 _ _ _) _ _ _ _ :: _) _ _); refine wpList_eq_hd rfl (.tmp 49) (.tmp 51) _ rfl (nst b, 0, ndt b, nrc b, nln b) (nst b, 0, ndt b, nrc b, nln b) true rfl rfl (decide_eq_true rfl) ?_)
            | (at_mapUpdate; refine wpList_mapUpdate_own _ rfl _ _ _ 113 rfl 3 26 lawInt Try.underlying113 rdV (w.heap.size + 1) n (.map []) rfl HOm5.out (by have := hnk.out; unfold maxLen; omega) _ _ _ rfl rfl HK.out (.held (.slice avr (hdP b).length cvr)) [] rfl ?_; intro w6 hown6 hg6))
          obtain ⟨hcm, hst⟩ := csM_first Hs.out HE.out (.slice avr (hdP b).length cvr)
          rw [Hz.out] at hcm
          obtain ⟨q1, q2, q3, q4⟩ := cl_turn HOm5.out hg6 (Nat.le_succ _) ((HdsOk.nils _ (ndt b + nrc b)).set (i := nix b) HO5.out) HS5.out Hb5.out HB5.out
          go_roundg (L.length - k - 1)
          case measure => have := Hgk.out; omega
          case rel => exact ⟨k + 1, n + 1, _, _, _, by have := Hgk.out; omega, by go_num, (by have := hnk.out; omega : n + 1 ≤ k + 1), q2, hown6, by rw [Hst.out]; exact hcm, by rw [Hst.out, hst]; exact q1, (far_nils _ _).set hFx.out _, q3, q4⟩
        | some k0 =>
          obtain ⟨rfl, hMo, hsz, hvl⟩ := hC.out.2 k0 hs
          have Hs := Lib.hid hs
          have t3 : (((Maps.size D : Nat) : Int) == 0) = false := by rw [beq_eq_false_iff_ne]; omega
          have hhas := Lib.hid (mapOf_has' hMo (nix b))
          have HRS := Lib.hid (st_headRange HS.out)
          have HO5 := Lib.hid (HO4.out.hd (hdP_ne HE.out))
          have hbk := hOm.out
          have c4 := H4.out
          clear hs hMo hsz hvl hbk
          by_cases hh1 : ((nst b, 0, ndt b, nrc b, nln b) : Hd) = h
          · by_cases hh2 : (clTo L k).2.getD (nix b) [] = []
            · have hhf : Maps.has D (.int .i64 (nix b : Nat)) = false := by rw [hhas.out]; exact decide_eq_false (by simpa using hh2)
              have Hh1 := Lib.hid hh1
              have Hh2 := Lib.hid hh2
              clear hh1 hh2
              go_wp2_with (first
                | (at_len; refine wpList_len_own _ rfl _ 113 rfl 3 26 Try.underlying113 rdV (w.heap.size + 1) n D rfl HOm.out ?_)
                | ((with_reducible show wpList _ _ _ (Oper.mk _ (Op.load 54 (.tmp 7)) _ _ _ _ :: _) _ _); refine wpList_load_mid rfl 54 (.tmp 7) rfl g7 0 rfl (hdL (nst b, 0, ndt b, nrc b, nln b)) _ R7.out Try.underlying54 rfl sizeVol ?_)
                | ((with_reducible show wpList _ _ _ (Oper.mk _ (Op.load 54 (.tmp 50)) _ _ _ _ :: _) _ _); refine wpList_load_mid rfl 54 (.tmp 50) rfl (w.heap.size + 1 + 1) 0 rfl (hdL h) _ HRS.out Try.underlying54 rfl sizeVol ?_)
                | (at_lookup; refine wpList_lookup_own_ok _ rfl _ _ 113 rfl 3 26 lawInt Try.underlying113 rdV (zeroBytes _) (.held (.slice none 0 0)) [] rfl (w.heap.size + 1) n D rfl HOm.out _ _ rfl HK.out ?_; intro v46 ps46 hv46; clear hv46)
                | ((with_reducible show wpList _ _ _ (Oper.mk _ (Op.binOp .eql 54 _ _ _) _ _ _ _ :: _) _ _); refine wpList_eq_hd rfl (.tmp 49) (.tmp 51) _ rfl (nst b, 0, ndt b, nrc b, nln b) h true rfl rfl (decide_eq_true Hh1.out) ?_)
                | (at_mapUpdate; refine wpList_mapUpdate_own _ rfl _ _ _ 113 rfl 3 26 lawInt Try.underlying113 rdV (w.heap.size + 1) n D rfl HOm.out (by have := hnk.out; unfold maxLen; omega) _ _ _ rfl rfl HK.out (.held (.slice avr (hdP b).length cvr)) [] rfl ?_; intro w6 hown6 hg6))
              obtain ⟨hcm, hst, _⟩ := csM_more hC.out (hOm.out.tidy lawInt) Hok.out Hs.out HE.out (by rw [Hz.out]; exact Hh1.out) Hh2.out (.slice avr (hdP b).length cvr)
              obtain ⟨q1, q2, q3, q4⟩ := cl_turn HOm.out hg6 (Nat.le_succ _) (HV.out.set (i := nix b) HO5.out) HS.out Hb.out HB.out
              go_roundg (L.length - k - 1)
              case measure => have := Hgk.out; omega
              case rel => exact ⟨k + 1, n + 1, _, _, _, by have := Hgk.out; omega, by go_num, (by have := hnk.out; omega : n + 1 ≤ k + 1), q2, hown6, by rw [Hst.out]; exact hcm, by rw [Hst.out, hst]; exact q1, hF.out.set hFx.out _, q3, q4⟩
            · have hhf : Maps.has D (.int .i64 (nix b : Nat)) = true := by rw [hhas.out]; exact decide_eq_true (by simpa using hh2)
              have hst := Lib.hid (clStep_skip Hs.out HE.out (fun h => hh2 h.2))
              have Hh1 := Lib.hid hh1
              clear hh1 hh2
              go_wp2_with (first
                | (at_len; refine wpList_len_own _ rfl _ 113 rfl 3 26 Try.underlying113 rdV (w.heap.size + 1) n D rfl HOm.out ?_)
                | ((with_reducible show wpList _ _ _ (Oper.mk _ (Op.load 54 (.tmp 7)) _ _ _ _ :: _) _ _); refine wpList_load_mid rfl 54 (.tmp 7) rfl g7 0 rfl (hdL (nst b, 0, ndt b, nrc b, nln b)) _ R7.out Try.underlying54 rfl sizeVol ?_)
                | ((with_reducible show wpList _ _ _ (Oper.mk _ (Op.load 54 (.tmp 50)) _ _ _ _ :: _) _ _); refine wpList_load_mid rfl 54 (.tmp 50) rfl (w.heap.size + 1 + 1) 0 rfl (hdL h) _ HRS.out Try.underlying54 rfl sizeVol ?_)
                | (at_lookup; refine wpList_lookup_own_ok _ rfl _ _ 113 rfl 3 26 lawInt Try.underlying113 rdV (zeroBytes _) (.held (.slice none 0 0)) [] rfl (w.heap.size + 1) n D rfl HOm.out _ _ rfl HK.out ?_; intro v46 ps46 hv46; clear hv46)
                | ((with_reducible show wpList _ _ _ (Oper.mk _ (Op.binOp .eql 54 _ _ _) _ _ _ _ :: _) _ _); refine wpList_eq_hd rfl (.tmp 49) (.tmp 51) _ rfl (nst b, 0, ndt b, nrc b, nln b) h true rfl rfl (decide_eq_true Hh1.out) ?_))
              go_roundg (L.length - k - 1)
              case measure => have := Hgk.out; omega
              case rel => exact ⟨k + 1, n, h, D, vs, by have := Hgk.out; omega, by go_num, (by have := hnk.out; omega : n ≤ k + 1), HS.out, HOm.out, by rw [Hst.out, hst.out]; exact hC.out, by rw [Hst.out, hst.out]; exact HV.out, hF.out, Hb.out, HB.out⟩
          · have hst := Lib.hid (clStep_skip Hs.out HE.out (fun h => hh1 (by rw [← Hz.out]; exact h.1)))
            have Hh1 := Lib.hid hh1
            clear hh1
            go_wp2_with (first
              | (at_len; refine wpList_len_own _ rfl _ 113 rfl 3 26 Try.underlying113 rdV (w.heap.size + 1) n D rfl HOm.out ?_)
              | ((with_reducible show wpList _ _ _ (Oper.mk _ (Op.load 54 (.tmp 7)) _ _ _ _ :: _) _ _); refine wpList_load_mid rfl 54 (.tmp 7) rfl g7 0 rfl (hdL (nst b, 0, ndt b, nrc b, nln b)) _ R7.out Try.underlying54 rfl sizeVol ?_)
              | ((with_reducible show wpList _ _ _ (Oper.mk _ (Op.load 54 (.tmp 50)) _ _ _ _ :: _) _ _); refine wpList_load_mid rfl 54 (.tmp 50) rfl (w.heap.size + 1 + 1) 0 rfl (hdL h) _ HRS.out Try.underlying54 rfl sizeVol ?_)
              | (at_lookup; refine wpList_lookup_own_ok _ rfl _ _ 113 rfl 3 26 lawInt Try.underlying113 rdV (zeroBytes _) (.held (.slice none 0 0)) [] rfl (w.heap.size + 1) n D rfl HOm.out _ _ rfl HK.out ?_; intro v46 ps46 hv46; clear hv46)
              | ((with_reducible show wpList _ _ _ (Oper.mk _ (Op.binOp .eql 54 _ _ _) _ _ _ _ :: _) _ _); refine wpList_eq_hd rfl (.tmp 49) (.tmp 51) _ rfl (nst b, 0, ndt b, nrc b, nln b) h false rfl rfl (decide_eq_false Hh1.out) ?_))
            go_roundg (L.length - k - 1)
            case measure => have := Hgk.out; omega
            case rel => exact ⟨k + 1, n, h, D, vs, by have := Hgk.out; omega, by go_num, (by have := hnk.out; omega : n ≤ k + 1), HS.out, HOm.out, by rw [Hst.out, hst.out]; exact hC.out, by rw [Hst.out, hst.out]; exact HV.out, hF.out, Hb.out, HB.out⟩
      · have hE := Lib.hid (clStep_err (s := clTo L k) he)
        have t2 : ((hdErr b : Int) != 0) = true := by rw [bne_iff_ne]; omega
        have hno := (hdErr_no (l := b) rfl he)
        have Hno := Lib.hid hno.1
        clear he hno
        go_wp2_with fail
        refine HHd.out.mono ?_
        rintro e w3 ⟨vr, rfl, hO3, hB3⟩
        rw [Hno.out]
        generalize hdErr b = er at *
        have hB4 := hB3.trans ((al w3 (.cells #[.int .u32 0, .int .i64 0, .int .i64 0, .int .i64 0, .int .i64 0] 54)).mono hB3.size)
        have HS := Lib.hid (hS.out.below hB4 hS.out.lt)
        have HOm := Lib.hid (hOm.out.kept (row := none) ⟨hB4.os, hB4.tape, hB4.output, hB4.size, fun i hi _ => hB4.block i hi⟩ (by simp))
        have HV := Lib.hid (hV.out.new hB4)
        have Hb := Lib.hid (hb.out.below hB4 hb.out.lt)
        have HB := Lib.hid (hB.out.trans (hB4.mono hzr))
        clear hB3 hB4 hO3
        unfold hdV hdL
        go_wp2_with fail
        go_roundg (L.length - k - 1)
        case measure => have := Hgk.out; omega
        case rel => exact ⟨k + 1, n, h, D, vs, by have := Hgk.out; omega, by go_num, (by have := hnk.out; omega : n ≤ k + 1), HS.out, HOm.out, by rw [Hst.out, hE.out]; exact hC.out, by rw [Hst.out, hE.out]; exact HV.out, hF.out, Hb.out, HB.out⟩
    · obtain rfl : k = L.length := by omega
      have c4 := hS.out.cell (i := 5) rfl
      cases hs : (clTo L L.length).1 with
      | none =>
        obtain ⟨rfl, rfl, rfl⟩ := hC.out.1 hs
        have HE := Lib.hid (show clErr L = 7 by rw [HnE.out]; exact if_pos hs)
        have HH := Lib.hid (show clHd L = hd0 by unfold clHd; rw [HE.out]; rfl)
        have t3 : (((Maps.size (.map [] : DataW Value) : Nat) : Int) == 0) = true := rfl
        have HZ := Lib.hid (st_end hb.out rfl hB.out (Nat.le_refl _) hd0 (.map none))
        clear hs
        go_wp2_with (first
          | (at_len; refine wpList_len_own _ rfl _ 113 rfl 3 26 Try.underlying113 rdV (w.heap.size + 1) n (.map []) rfl hOm.out ?_)
          | ((with_reducible show wpList _ _ _ (Oper.mk _ (Op.store _ _ _) _ _ _ _ :: _) _ _); refine wpList_store_mid rfl 115 (.tmp 2) (.tmp 66) rfl w.heap.size 0 (stL hd0 (.map none)).toArray rfl rfl HZ.out.1 sizeSet (st_one _ _ rfl) ?_))
        (try simp only [Exit.inBlock, Exit.then])
        refine bodyPost_ret (results_st rfl _ _ w.heap.size hd0 (.map none) rfl HZ.out.2.1) rfl ?_
        exact ⟨none, by rw [HE.out, HH.out]; rfl, (fun h => by rw [HE.out] at h; cases h), HZ.out.2.2⟩
      | some k0 =>
        obtain ⟨rfl, hMo, hsz, hvl⟩ := hC.out.2 k0 hs
        have HE := Lib.hid (show clErr L = 0 by rw [HnE.out]; exact if_neg (by rw [show (clAll L).1 = some h from hs]; simp))
        have HH := Lib.hid (show clHd L = h by unfold clHd; rw [HE.out, if_pos rfl, show (clAll L).1 = some h from hs]; rfl)
        have t3 : (((Maps.size D : Nat) : Int) == 0) = false := by rw [beq_eq_false_iff_ne]; omega
        have HM := Lib.hid hMo
        have HZ := Lib.hid (st_end hb.out rfl hB.out (Nat.le_refl _) h (.map (some (w.heap.size + 1))))
        have R4 := Lib.hid hS.out.range
        clear hs hMo hsz hvl
        go_wp2_with (first
          | (at_len; refine wpList_len_own _ rfl _ 113 rfl 3 26 Try.underlying113 rdV (w.heap.size + 1) n D rfl hOm.out ?_)
          | ((with_reducible show wpList _ _ _ (Oper.mk _ (Op.load _ (.tmp 4)) _ _ _ _ :: _) _ _); refine wpList_load_mid rfl 115 (.tmp 4) rfl (w.heap.size + 1 + 1) 0 rfl (stL h (.map (some (w.heap.size + 1)))) _ R4.out Try.underlying115 rfl sizeSet ?_)
          | ((with_reducible show wpList _ _ _ (Oper.mk _ (Op.store _ _ _) _ _ _ _ :: _) _ _); refine wpList_store_mid rfl 115 (.tmp 2) (.tmp 67) rfl w.heap.size 0 (stL h (.map (some (w.heap.size + 1)))).toArray rfl rfl HZ.out.1 sizeSet (st_one _ _ rfl) ?_))
        (try simp only [Exit.inBlock, Exit.then])
        refine bodyPost_ret (results_st rfl _ _ w.heap.size h (.map (some (w.heap.size + 1))) rfl HZ.out.2.1) rfl ?_
        exact ⟨some (w.heap.size + 1), by rw [HE.out, HH.out]; rfl, fun _ => ⟨w.heap.size + 1, n, D, vs, rfl, hOm.out.kept (grown_setCells _ _ 0 _) (by simp), HM.out, hV.out.far hF.out _⟩, HZ.out.2.2⟩
end Go.Proofs.Ytkclmfppjhmnjaa
