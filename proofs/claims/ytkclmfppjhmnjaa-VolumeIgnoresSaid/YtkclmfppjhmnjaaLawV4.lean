/- The walk of the law VolumeIgnores. -/
import Derived.Test.YtkclmfppjhmnjaaB43
import Derived.Test.YtkclmfppjhmnjaaMix0
import Derived.Test.YtkclmfppjhmnjaaMi1
namespace Go.Proofs.Ytkclmfppjhmnjaa
open Go.RowKit Wire Vol Crc Alg

theorem HdR.take1 {w : World} {b1 k1 n : Nat} {xs : List Value} (h : HdR w (.slice (some ⟨b1, 0, none⟩) n k1) xs) (hn : 1 ≤ xs.length) : HdR w (.slice (some ⟨b1, 0, none⟩) 1 k1) (xs.take 1) := by
  obtain ⟨a, c, hv, hc, hr, h1⟩ := h
  simp only [Value.slice.injEq] at hv
  obtain ⟨rfl, _, rfl⟩ := hv
  have hl : (xs.take 1).length = 1 := by rw [List.length_take]; omega
  refine ⟨_, k1, by rw [hl], by omega, ?_, fun u hu => h1 u (List.mem_of_mem_take hu)⟩
  rcases hr with hr | ⟨b, o, ha, hr⟩
  · rw [hr] at hn; simp at hn
  · refine Or.inr ⟨b, o, ha, fun i v hv => hr i v ?_⟩
    rw [List.getElem?_take] at hv
    split at hv
    · exact hv
    · cases hv
theorem HdsOk.take1 {w : World} {vs : List Value} {m : List (List Nat)} (h : HdsOk w vs m) : HdsOk w (vs.take 1) (m.take 1) := by
  refine ⟨by rw [List.length_take, List.length_take, h.1], fun i x r hx hr => ?_⟩
  rw [List.getElem?_take] at hx hr
  split at hx
  · rename_i hi
    rw [if_pos hi] at hr
    exact h.2 i x r hx hr
  · cases hx

set_option maxRecDepth 100000 in
theorem mix_concat {w : World} {B4 B5 b4 k4 b5 k5 n : Nat} {hd4 hd5 : List (Nat × Nat)} {V U : List (List Nat)} {u : Value} {m : List Nat} (hV : GM w B4 (.slice (some ⟨b4, 0, none⟩) n k4) hd4 V) (hU : GM w B5 (.slice (some ⟨b5, 0, none⟩) n k5) hd5 U) (hu : HdOk w u m) (hn1 : 1 ≤ n) (hVl : V.length = n) (hUl : U.length = n) (hn : n ≤ 1000) :
    Calls Try.prog 31 #[.slice (some ⟨w.heap.size + 1 + 1, 0, none⟩) 6 6] (((w.alloc (.cells #[u] 26)).alloc (.cells #[.slice none 0 0] 26)).alloc (.cells #[.slice (some ⟨w.heap.size, 0, none⟩) 1 1, .slice (some ⟨b4, 0, none⟩) 1 k4, .slice (some ⟨b5, 0, none⟩) n k5, .slice (some ⟨b4, 0, none⟩) n k4, .slice (some ⟨b5, 0, none⟩) n k5, .slice (some ⟨w.heap.size + 1, 0, none⟩) 1 1] 44))
      fun e w' => ∃ v, e = .returned v ∧ Mx w' v ([m] ++ V.take 1 ++ U ++ V ++ U ++ [[]]) ∧ Below w.heap.size w w' := by
  have hu1 : u.oneCell' = true := by obtain ⟨a, c, rfl, _⟩ := hu; rfl
  have A1 := HdsOk.one hu
  have A2 := hV.hds.take1
  have A6 := HdsOk.one (HdOk.nil w)
  have AA1 := ((((A1.append A2).append hU.hds).append hV.hds).append hU.hds).append A6
  have R4 := HdR.of_own hV.outer hV.hds.1.symm hV.hds.oneCell
  have R5 := HdR.of_own hU.outer hU.hds.1.symm hU.hds.oneCell
  have l4 : (hvs hd4 V).length = n := by rw [hV.hds.1, hVl]
  have l5 : (hvs hd5 U).length = n := by rw [hU.hds.1, hUl]
  have R4' := R4.take1 (by omega)
  have R1 := hs_new w [u] (fun x hx => by rw [List.mem_singleton.1 hx]; exact hu1)
  have hB1 := al w (.cells #[u] 26)
  have hB2 := al (w.alloc (.cells #[u] 26)) (.cells #[.slice none 0 0] 26)
  have hz1 : (w.alloc (.cells #[u] 26)).heap.size = w.heap.size + 1 := by simp
  have R6 := hs_new (w.alloc (.cells #[u] 26)) [.slice none 0 0] (fun x hx => by rw [List.mem_singleton.1 hx]; rfl)
  rw [hz1] at R6
  obtain ⟨W2, hW2⟩ : ∃ W2, (w.alloc (.cells #[u] 26)).alloc (.cells #[.slice none 0 0] 26) = W2 := ⟨_, rfl⟩
  have hz2 : W2.heap.size = w.heap.size + 1 + 1 := by rw [← hW2]; simp
  have R6' : HdR W2 (.slice (some ⟨w.heap.size + 1, 0, none⟩) 1 1) [.slice none 0 0] := by rw [← hW2]; exact R6
  rw [hW2] at hB2 ⊢
  have hB12 := hB1.trans (hB2.mono hB1.size)
  have hB3 := al W2 (.cells #[.slice (some ⟨w.heap.size, 0, none⟩) 1 1, .slice (some ⟨b4, 0, none⟩) 1 k4, .slice (some ⟨b5, 0, none⟩) n k5, .slice (some ⟨b4, 0, none⟩) n k4, .slice (some ⟨b5, 0, none⟩) n k5, .slice (some ⟨w.heap.size + 1, 0, none⟩) 1 1] 44)
  have hM := Blk.new W2 44 #[.slice (some ⟨w.heap.size, 0, none⟩) 1 1, .slice (some ⟨b4, 0, none⟩) 1 k4, .slice (some ⟨b5, 0, none⟩) n k5, .slice (some ⟨b4, 0, none⟩) n k4, .slice (some ⟨b5, 0, none⟩) n k5, .slice (some ⟨w.heap.size + 1, 0, none⟩) 1 1]
  rw [hz2] at hM
  obtain ⟨W3, hW3⟩ : ∃ W3, W2.alloc (.cells #[.slice (some ⟨w.heap.size, 0, none⟩) 1 1, .slice (some ⟨b4, 0, none⟩) 1 k4, .slice (some ⟨b5, 0, none⟩) n k5, .slice (some ⟨b4, 0, none⟩) n k4, .slice (some ⟨b5, 0, none⟩) n k5, .slice (some ⟨w.heap.size + 1, 0, none⟩) 1 1] 44) = W3 := ⟨_, rfl⟩
  rw [hW3] at hB3 hM ⊢
  have hB13 := hB12.trans (hB3.mono hB12.size)
  have Q1 := (R1.new hB2).new hB3
  have Q2 := R4'.new hB13
  have Q3 := R5.new hB13
  have Q4 := R4.new hB13
  have Q6 := R6'.new hB3
  have hfl : [[u], (hvs hd4 V).take 1, hvs hd5 U, hvs hd4 V, hvs hd5 U, [.slice none 0 0]].flatten = [u] ++ (hvs hd4 V).take 1 ++ hvs hd5 U ++ hvs hd4 V ++ hvs hd5 U ++ [.slice none 0 0] := by simp
  refine (ConcatM_any (w.heap.size + 1 + 1) 0 6 [[u], (hvs hd4 V).take 1, hvs hd5 U, hvs hd4 V, hvs hd5 U, [.slice none 0 0]]
    (fun i => [Value.slice (some ⟨w.heap.size, 0, none⟩) 1 1, .slice (some ⟨b4, 0, none⟩) 1 k4, .slice (some ⟨b5, 0, none⟩) n k5, .slice (some ⟨b4, 0, none⟩) n k4, .slice (some ⟨b5, 0, none⟩) n k5, .slice (some ⟨w.heap.size + 1, 0, none⟩) 1 1].getD i (.slice none 0 0)) W3 (by simp) ?_ ?_).mono ?_
  · rw [hfl]
    simp only [List.length_append, List.length_singleton, List.length_take, l4, l5]
    omega
  · refine Lib.hid ?_
    intro i rr hi
    match i, hi with
    | 0, hi => simp only [List.getElem?_cons_zero, Option.some.injEq] at hi; subst hi; exact ⟨hM.cell (i := 0) rfl, Q1⟩
    | 1, hi => simp only [List.getElem?_cons_succ, List.getElem?_cons_zero, Option.some.injEq] at hi; subst hi; exact ⟨hM.cell (i := 1) rfl, Q2⟩
    | 2, hi => simp only [List.getElem?_cons_succ, List.getElem?_cons_zero, Option.some.injEq] at hi; subst hi; exact ⟨hM.cell (i := 2) rfl, Q3⟩
    | 3, hi => simp only [List.getElem?_cons_succ, List.getElem?_cons_zero, Option.some.injEq] at hi; subst hi; exact ⟨hM.cell (i := 3) rfl, Q4⟩
    | 4, hi => simp only [List.getElem?_cons_succ, List.getElem?_cons_zero, Option.some.injEq] at hi; subst hi; exact ⟨hM.cell (i := 4) rfl, Q3⟩
    | 5, hi => simp only [List.getElem?_cons_succ, List.getElem?_cons_zero, Option.some.injEq] at hi; subst hi; exact ⟨hM.cell (i := 5) rfl, Q6⟩
    | i + 6, hi => simp at hi
  · rintro e w' ⟨v, rfl, hO, hB⟩
    have hBB : Below w.heap.size w w' := hB13.trans (hB.mono hB13.size)
    have hH := AA1.new hBB
    rw [hfl, hH.1] at hO
    exact ⟨v, rfl, (VM.mk hO hH).mx, hBB⟩

set_option maxRecDepth 100000 in
set_option maxHeartbeats 8000000 in
theorem VolumeIgnores_walk (v : Value) (l : List Nat) (u : Value) (m : List Nat) (x y : Nat) (w : World) (h : Bs w v l) (hB : Byt l) (_hl : l.length ≤ maxLen) (h' : HdOk w u m) (hB' : Byt m) (_hl' : m.length ≤ maxLen) (_hx : x < 256) (_hy : y < 256) :
    Calls Try.prog 8 #[v, u, .agg #[.int .u8 x, .int .u8 y]] w fun e w' => e = .returned (.bool true) ∧ Below w.heap.size w w' := by
  have hBx := al w (.cells #[.int .u8 x, .int .u8 y] 67)
  have hbx : Blk (w.alloc (.cells #[.int .u8 x, .int .u8 y] 67)) w.heap.size 67 [.int .u8 x, .int .u8 y] := Blk.new w 67 [.int .u8 x, .int .u8 y].toArray
  have H := Lib.hid (h.new hBx)
  have H' := Lib.hid (h'.new hBx)
  have HBy := Lib.hid hB
  have HBy' := Lib.hid hB'
  have BX := Lib.hid hBx
  have c0 := hbx.cell (i := 0) rfl
  have c1 := hbx.cell (i := 1) rfl
  obtain ⟨a, cap, rfl, hc, _⟩ := h
  obtain ⟨a', cap', rfl, hc', _⟩ := h'
  have HA := Lib.hid (awake55_any (w.alloc (.cells #[.int .u8 x, .int .u8 y] 67)))
  clear hB hB' hbx hBx
  by_cases h3 : 40 < l.length
  · have t1 : decide ((40 : Int) < (l.length : Int)) = true := by simp; omega
    clear h3
    go_enter Try.func8, Try.ntmps8
    go_wp2_with fail
    refine HA.out.mono ?_
    rintro e w1 ⟨rfl, hB1⟩
    have HB1 := Lib.hid (BX.out.trans (hB1.mono BX.out.size))
    clear hB1
    go_wp2_with fail
    go_ret
    exact ⟨rfl, HB1.out⟩
  have t1 : decide ((40 : Int) < (l.length : Int)) = false := by simp; omega
  have HL := Lib.hid (show l.length ≤ 40 by omega)
  clear h3
  by_cases h4 : 40 < m.length
  · have t2 : decide ((40 : Int) < (m.length : Int)) = true := by simp; omega
    clear h4
    go_enter Try.func8, Try.ntmps8
    go_wp2_with fail
    refine HA.out.mono ?_
    rintro e w1 ⟨rfl, hB1⟩
    have HB1 := Lib.hid (BX.out.trans (hB1.mono BX.out.size))
    clear hB1
    go_wp2_with fail
    go_ret
    exact ⟨rfl, HB1.out⟩
  have t2 : decide ((40 : Int) < (m.length : Int)) = false := by simp; omega
  have HL' := Lib.hid (show m.length ≤ 40 by omega)
  clear h4
  have HE := Lib.hid (bEqual_any _ _ l m _ H.out H'.out.bs HBy.out HBy'.out)
  have HS1 := Lib.hid (cSum_any _ l _ H.out HBy.out (by have := HL.out; omega))
  by_cases hlm : l = m
  · have HD := Lib.hid (decide_eq_true hlm)
    clear hlm HS1
    go_enter Try.func8, Try.ntmps8
    go_wp2_with fail
    refine HE.out.mono ?_
    rintro e w1 ⟨rfl, hw1⟩
    rw [HD.out]
    subst hw1
    clear HE HD
    go_wp2_with fail
    refine HA.out.mono ?_
    rintro e w1 ⟨rfl, hB1⟩
    have HB1 := Lib.hid (BX.out.trans (hB1.mono BX.out.size))
    clear hB1
    go_wp2_with fail
    go_ret
    exact ⟨rfl, HB1.out⟩
  have HD := Lib.hid (decide_eq_false hlm)
  clear hlm
  have hsums : ∀ w2, Below (w.alloc (.cells #[.int .u8 x, .int .u8 y] 67)).heap.size (w.alloc (.cells #[.int .u8 x, .int .u8 y] 67)) w2 → Calls Try.prog 29 #[.slice a' m.length cap'] w2 fun e w' => e = .returned (.int .u32 (crc 0 m)) ∧ Below w2.heap.size w2 w' :=
    fun w2 hB2 => cSum_any _ m _ (H'.out.bs.new hB2) HBy'.out (by have := HL'.out; omega)
  have HS2 := Lib.hid hsums
  clear hsums HA
  by_cases hcc : crc 0 l = crc 0 m ∧ l.length = m.length
  · have t3 : ((crc 0 l : Int) == (crc 0 m : Int)) = true := by rw [hcc.1]; simp
    have t4 : ((l.length : Int) == (m.length : Int)) = true := by rw [hcc.2]; simp
    clear hcc
    go_enter Try.func8, Try.ntmps8
    go_wp2_with fail
    refine HE.out.mono ?_
    rintro e w1 ⟨rfl, hw1⟩
    rw [HD.out]
    subst hw1
    clear HE HD
    go_wp2_with fail
    refine HS1.out.mono ?_
    rintro e w2 ⟨rfl, hB2⟩
    have B2 := Lib.hid (BX.out.trans (hB2.mono BX.out.size))
    have HS := Lib.hid (HS2.out _ hB2)
    clear hB2 HS1
    go_wp2_with fail
    refine HS.out.mono ?_
    rintro e w3 ⟨rfl, hB3⟩
    have B3 := Lib.hid (B2.out.trans (hB3.mono B2.out.size))
    have HA := Lib.hid (awake55_any w3)
    clear hB3 HS B2
    go_wp2_with fail
    refine HA.out.mono ?_
    rintro e w4 ⟨rfl, hB4⟩
    have B4 := Lib.hid (B3.out.trans (hB4.mono B3.out.size))
    clear hB4
    go_wp2_with fail
    go_ret
    exact ⟨rfl, B4.out⟩
  have HC := Lib.hid hcc
  have hcs : (((crc 0 l : Int) == (crc 0 m : Int)) = true ∧ ((l.length : Int) == (m.length : Int)) = false) ∨ (((crc 0 l : Int) == (crc 0 m : Int)) = false ∧ True) := by
    by_cases h : crc 0 l = crc 0 m
    · left
      refine ⟨by rw [h]; simp, ?_⟩
      rw [beq_eq_false_iff_ne]
      intro e
      exact hcc ⟨h, by omega⟩
    · right
      refine ⟨?_, trivial⟩
      rw [beq_eq_false_iff_ne]; omega
  clear hcc
  rcases hcs with ⟨t3, t4⟩ | ⟨t3, t4⟩
  all_goals
    go_enter Try.func8, Try.ntmps8
    go_wp2_with fail
    refine HE.out.mono ?_
    rintro e w1 ⟨rfl, hw1⟩
    rw [HD.out]
    subst hw1
    clear HE HD
    go_wp2_with fail
    refine HS1.out.mono ?_
    rintro e w2 ⟨rfl, hB2⟩
    have HS := Lib.hid (HS2.out _ hB2)
    have B2 := Lib.hid hB2
    clear hB2 HS1
    go_wp2_with fail
    refine HS.out.mono ?_
    rintro e w3 ⟨rfl, hB3⟩
    have hB3' := B2.out.trans (hB3.mono B2.out.size)
    have hz0 : w.heap.size < (w.alloc (.cells #[.int .u8 x, .int .u8 y] 67)).heap.size := World.block_lt_of_cell? _ _ c0
    have d0 := cell_nw hB3' c0 hz0
    have d1 := cell_nw hB3' c1 hz0
    have B3 := Lib.hid (BX.out.trans (hB3'.mono BX.out.size))
    have H3 := Lib.hid (H.out.new hB3')
    have H3' := Lib.hid (H'.out.new hB3')
    clear hB3 hB3' HS B2 HS2 hz0 c0 c1 H H' BX
    go_wp2_with fail
    clear t3 t4
    go_region_held3 (fun w' => w'.cell? ⟨w.heap.size, 0, none⟩ = some (.int .u8 (x : Nat)) ∧ w'.cell? ⟨w.heap.size, 1, none⟩ = some (.int .u8 (y : Nat)))
      (first
        | exact ⟨d0, d1⟩)
      (fail)
    clear d0 d1
    have e1 : IntKind.i64.wrap (IntKind.i64.wrap ((x : Int).tmod 5) + 1) = ((x % 5 + 1 : Nat) : Int) := by
      have h6 : (x : Int).tmod 5 = ((x % 5 : Nat) : Int) := rfl
      have h7 : IntKind.i64.wrap ((x % 5 : Nat) : Int) = ((x % 5 : Nat) : Int) := IntWalk.i64_in _ (by omega)
      rw [h6, h7]
      exact IntWalk.i64_in _ (by omega)
    have e2 : IntKind.i64.wrap ((y : Int).tmod 4) = ((y % 4 : Nat) : Int) := by
      have h5 : (y : Int).tmod 4 = ((y % 4 : Nat) : Int) := rfl
      rw [h5]
      exact IntWalk.i64_in _ (by omega)
    rw [e1, e2]
    obtain ⟨d, hdd⟩ : ∃ d, x % 5 + 1 = d := ⟨_, rfl⟩
    obtain ⟨r, hrr⟩ : ∃ r, y % 4 = r := ⟨_, rfl⟩
    have hd1 : 1 ≤ d := by omega
    have hd5 : d ≤ 5 := by omega
    have hr3 : r ≤ 3 := by omega
    rw [hdd, hrr]
    have hbad : ¬ spBad ((d : Nat) : Int) ((r : Nat) : Int) := by unfold spBad; omega
    obtain ⟨vl1, vb1, vs1⟩ := vol_ok HBy.out (show l.length ≤ 60 by have := HL.out; omega) hd1 (show d + r ≤ 64 by omega)
    obtain ⟨vl2, vb2, vs2⟩ := vol_ok HBy'.out (show m.length ≤ 60 by have := HL'.out; omega) hd1 (show d + r ≤ 64 by omega)
    have HSa := Lib.hid (spErr_ok (b := l) (d := d) (r := r) (by have := HL.out; omega) hbad (fun z hz => by have := vs1 z hz; omega))
    have HSb := Lib.hid (spErr_ok (b := m) (d := d) (r := r) (by have := HL'.out; omega) hbad (fun z hz => by have := vs2 z hz; omega))
    have Hvl1 := Lib.hid vl1
    have Hvl2 := Lib.hid vl2
    have HM := Lib.hid (mixL_ok HBy.out (show l.length ≤ 60 by have := HL.out; omega) HBy'.out (show m.length ≤ 60 by have := HL'.out; omega) hd1 (show d + r ≤ 64 by omega))
    have HMl := Lib.hid (mixL_len HBy.out (show l.length ≤ 60 by have := HL.out; omega) HBy'.out (show m.length ≤ 60 by have := HL'.out; omega) hd1 (show d + r ≤ 20 by omega))
    have HMx := Lib.hid (fun ho => mix_answers HBy.out (show l.length ≤ 60 by have := HL.out; omega) HBy'.out (show m.length ≤ 60 by have := HL'.out; omega) hd1 (show d + r ≤ 20 by omega) HC.out ho)
    clear e1 e2 hdd hrr hbad vl1 vl2 vb1 vb2 vs1 vs2
    go_wp2_with fail
    refine (vSplit_any _ l (d : Nat) (r : Nat) _ (bs_drew H3.out) HBy.out (by have := HL.out; omega) (by omega) (by omega) (by omega) (by omega)).mono ?_
    rintro e w4 ⟨v4, hd4, rfl, hG, hB⟩
    rw [HSa.out.1]
    rw [HSa.out.2] at hG
    have hB4 : Below w3.heap.size w3 w4 := ((Below.refl w3.heap.size w3).drew).trans (show Below w3.heap.size w3.drew w4 from hB)
    obtain ⟨b4, k4, rfl, hk4, _, _⟩ := (show GM w4 w3.heap.size v4 hd4 (volL l d r) from hG).done (by intro e; have := Hvl1.out; rw [e] at this; simp at this; omega)
    rw [Hvl1.out] at hk4
    have HG4 := Lib.hid hG
    have B4 := Lib.hid (B3.out.trans (hB4.mono B3.out.size))
    have H4 := Lib.hid (H3.out.new hB4)
    have H4' := Lib.hid (H3'.out.new hB4)
    rw [Hvl1.out]
    clear hG hB hB4 H3 H3' HSa B3
    go_wp2_with fail
    refine (vSplit_any _ m (d : Nat) (r : Nat) _ H4'.out.bs HBy'.out (by have := HL'.out; omega) (by omega) (by omega) (by omega) (by omega)).mono ?_
    rintro e w5 ⟨v5, hd5', rfl, hG, hB5⟩
    rw [HSb.out.1]
    rw [HSb.out.2] at hG
    obtain ⟨b5, k5, rfl, hk5, _, _⟩ := hG.done (by intro e; have := Hvl2.out; rw [e] at this; simp at this; omega)
    rw [Hvl2.out] at hk5
    have HG5 := Lib.hid hG
    have HG45 := Lib.hid (HG4.out.new hB5)
    have B5 := Lib.hid (B4.out.trans (hB5.mono B4.out.size))
    have H5 := Lib.hid (H4.out.new hB5)
    have H5' := Lib.hid (H4'.out.new hB5)
    rw [Hvl2.out]
    have t5 : (((d + r : Nat) : Int) == 0) = false := by rw [beq_eq_false_iff_ne]; omega
    have i1 : (1 : Int) ≤ (k4 : Int) := by omega
    clear hG hB5 H4 H4' HSb B4 HG4
    go_wp2_with fail
    refine (mix_concat (show GM w5 w3.heap.size (.slice (some ⟨b4, 0, none⟩) (d + r) k4) hd4 (volL l d r) by have := HG45.out; rw [Hvl1.out] at this; exact this) (show GM w5 w4.heap.size (.slice (some ⟨b5, 0, none⟩) (d + r) k5) hd5' (volL m d r) by have := HG5.out; rw [Hvl2.out] at this; exact this) H5'.out (by omega) Hvl1.out Hvl2.out (by omega)).mono ?_
    rintro e w6 ⟨v6, rfl, hX6, hB6⟩
    obtain ⟨L, hL⟩ : ∃ L, mixL l m d r = L := ⟨_, rfl⟩
    have hX6' : Mx w6 v6 L := by rw [← hL]; exact hX6
    have HX6 := Lib.hid hX6'
    rw [hL] at HM HMl HMx
    have B6 := Lib.hid (B5.out.trans (hB6.mono B5.out.size))
    have H6 := Lib.hid (H5.out.new hB6)
    have H6' := Lib.hid (H5'.out.bs.new hB6)
    obtain ⟨a6, c6, rfl, _⟩ := hX6'
    clear hX6 hL hB6 H5 H5' HG45 HG5 B5 Hvl1 Hvl2 t5 i1
    go_wp2_with fail
    refine (vHeader_any _ m _ H6'.out HBy'.out (by have := HL'.out; omega)).mono ?_
    rintro e w7 ⟨vp, rfl, hOp, hB7⟩
    obtain ⟨pa, pk, rfl⟩ := hOp.form
    obtain ⟨⟨r1, r2, r3, r4, r5⟩, hr⟩ : ∃ q, hdOf m = q := ⟨_, rfl⟩
    rw [hr]
    have hB78 := hB7.trans ((al w7 (.cells #[.int .u32 r1, .int .i64 r2, .int .i64 r3, .int .i64 r4, .int .i64 r5] 54)).mono hB7.size)
    have B8 := Lib.hid (B6.out.trans (hB78.mono B6.out.size))
    have HX8 := Lib.hid (HX6.out.new hB78)
    have H8 := Lib.hid (H6.out.new hB78)
    obtain ⟨he, hhe⟩ : ∃ he, hdErr m = he := ⟨_, rfl⟩
    rw [hhe]
    have HMx' := Lib.hid (fun (h0 : he ≠ 0) => HMx.out (by rw [hhe]; exact h0))
    clear hB7 hB78 hOp hr H6 H6' B6 HMx hhe HX6
    unfold hdV hdL
    by_cases h0 : he = 0
    · subst h0
      have HA := Lib.hid (awake55_any (w7.alloc (.cells #[.int .u32 r1, .int .i64 r2, .int .i64 r3, .int .i64 r4, .int .i64 r5] 54)))
      clear HMx'
      go_wp2_with fail
      refine HA.out.mono ?_
      rintro e w9 ⟨rfl, hB9⟩
      have B9 := Lib.hid (B8.out.trans (hB9.mono B8.out.size))
      clear hB9 HA
      go_wp2_with fail
      go_ret
      exact ⟨rfl, B9.out⟩
    have t6 : ((he : Int) == 0) = false := by rw [beq_eq_false_iff_ne]; omega
    obtain ⟨m1, m2, m3, m4⟩ := HMx'.out h0
    have M1 := Lib.hid m1
    have M2 := Lib.hid m2
    have M3 := Lib.hid m3
    have M4 := Lib.hid m4
    clear h0 HMx' m1 m2 m3 m4
    go_wp2_with fail
    generalize w7.alloc (.cells #[.int .u32 r1, .int .i64 r2, .int .i64 r3, .int .i64 r4, .int .i64 r5] 54) = W8 at *
    refine (vJoin_any _ L _ HX8.out HM.out.1 (by have := HMl.out; omega) (fun b hb => by have := HM.out.2 b hb; omega)).mono ?_
    rintro e w9 ⟨vj, rfl, hS9, hB9⟩
    rw [M2.out]
    rw [M3.out] at hS9
    have HS9 := Lib.hid hS9
    have HX9 := Lib.hid (HX8.out.new hB9)
    have H9 := Lib.hid (H8.out.new hB9)
    have B9 := Lib.hid (B8.out.trans (hB9.mono B8.out.size))
    obtain ⟨ja, jk, rfl, _⟩ := hS9
    clear hB9 HX8 H8 B8
    go_wp2_with fail
    refine (vMissing_any _ L _ HX9.out HM.out.1 (by have := HMl.out; omega) (fun b hb => by have := HM.out.2 b hb; omega)).mono ?_
    rintro e w10 ⟨vm, rfl, hI, hB10⟩
    have hmi : miL L = [] := by unfold miL; rw [if_pos M1.out, M4.out]
    rw [M1.out]
    rw [hmi] at hI
    obtain ⟨ma, mk, rfl⟩ := hI.form
    have HS10 := Lib.hid (HS9.out.new hB10)
    have H10 := Lib.hid (H9.out.new hB10)
    have B10 := Lib.hid (B9.out.trans (hB10.mono B9.out.size))
    clear hB10 HX9 H9 B9 hI hmi HS9
    go_wp2_with fail
    refine (bEqual_any _ _ l l _ HS10.out H10.out HBy.out HBy.out).mono ?_
    rintro e w11 ⟨rfl, hw11⟩
    rw [decide_eq_true rfl]
    subst hw11
    have HA := Lib.hid (awake55_any w10)
    clear HS10 H10
    go_wp2_with fail
    refine HA.out.mono ?_
    rintro e w12 ⟨rfl, hB12⟩
    have B12 := Lib.hid (B10.out.trans (hB12.mono B10.out.size))
    clear hB12 HA
    go_wp2_with fail
    go_ret
    exact ⟨rfl, B12.out⟩
end Go.Proofs.Ytkclmfppjhmnjaa
