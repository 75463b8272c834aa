/- The contract of repair.Restore. -/
import Derived.Test.YtkclmfppjhmnjaaDk6
namespace Go.Proofs.Ytkclmfppjhmnjaa
open Go.RowKit Img Wire

theorem reErr_long {b : List Nat} (h : 65536 < b.length) : reErr b = 5 := by unfold reErr; rw [if_pos h]
theorem reErr_rd {b : List Nat} (h : b.length ≤ 65536) (h1 : rdErr b ≠ 0) : reErr b = rdErr b := by unfold reErr; rw [if_neg (by omega), if_pos h1]
theorem reErr_num {b : List Nat} (h : b.length ≤ 65536) (h1 : rdErr b = 0) (h2 : rdNum b < 1 ∨ 8192 < rdNum b) : reErr b = 2 := by unfold reErr; rw [if_neg (by omega), if_neg (by omega), if_pos h2]
theorem reErr_form {b : List Nat} (h : b.length ≤ 65536) (h1 : rdErr b = 0) (h2 : ¬ (rdNum b < 1 ∨ 8192 < rdNum b)) (h3 : (rdRest b).length % 16 ≠ 0 ∨ rdNum b < (rdRest b).length / 16) : reErr b = 3 := by unfold reErr; rw [if_neg (by omega), if_neg (by omega), if_neg h2, if_pos h3]
theorem reErr_last {b : List Nat} (h : b.length ≤ 65536) (h1 : rdErr b = 0) (h2 : ¬ (rdNum b < 1 ∨ 8192 < rdNum b)) (h3 : ¬ ((rdRest b).length % 16 ≠ 0 ∨ rdNum b < (rdRest b).length / 16)) : reErr b = if lastZ (rdRest b) then 3 else 0 := by unfold reErr; rw [if_neg (by omega), if_neg (by omega), if_neg h2, if_neg h3]
theorem rePg_no {b : List Nat} {x : Nat} (h : reErr b = x) (hx : x ≠ 0) : rePg b = [] := by unfold rePg; rw [if_neg (by rw [h]; exact hx)]
theorem rdErr_cases (b : List Nat) : rdErr b = 0 ∨ rdErr b = 3 ∨ rdErr b = 9 := by
  unfold rdErr
  split
  · simp
  · split
    · simp
    · split
      · simp
      · split <;> simp

theorem rdRest_length (b : List Nat) : (rdRest b).length ≤ b.length := by
  unfold rdRest
  split
  · rw [List.length_drop]; omega
  · exact Nat.zero_le _
/-- What stands behind a store of a disk. -/
theorem disk_set {w0 w : World} {R : Nat} {xs : List Value} (h : Blk w R 25 xs) (hx : xs.length = 2) (hB : Below w0.heap.size w0 w) (hR : w0.heap.size ≤ R) (a b : Value) :
    (w.setCells R 0 [a, b]).cell? ⟨R, 0, none⟩ = some a ∧ (w.setCells R 0 [a, b]).cell? ⟨R, 1, none⟩ = some b ∧ Below w0.heap.size w0 (w.setCells R 0 [a, b]) := by
  have h1 := h.setCells (o := 0) (vs := [a, b]) (by simp [hx])
  rw [spl_all (by simp [hx])] at h1
  exact ⟨h1.cell (i := 0) rfl, h1.cell (i := 1) rfl, below_setCells hB hR 0 _⟩

/-- The last page, as the program makes it. -/
abbrev lpv : Array Value := #[.int .u8 1, .int .u8 0, .int .u8 0, .int .u8 0, .int .u8 0, .int .u8 0, .int .u8 0, .int .u8 0, .int .u8 0, .int .u8 0, .int .u8 0, .int .u8 0, .int .u8 0, .int .u8 0, .int .u8 0, .int .u8 0]
theorem re_start (w1 : World) (n : Nat) (rest : List Nat) (B : Obj) (xs : List Value) (hB : B = .cells xs.toArray 25) :
    Blk (((w1.alloc (.cells (z16 n) 82)).alloc B).alloc (.cells lpv 82)) w1.heap.size 82 (pgc (pagesTo rest n 0)) ∧
    Blk (((w1.alloc (.cells (z16 n) 82)).alloc B).alloc (.cells lpv 82)) (w1.heap.size + 1) 25 xs ∧
    Blk (((w1.alloc (.cells (z16 n) 82)).alloc B).alloc (.cells lpv 82)) (w1.heap.size + 1 + 1) 82 ((lastP rest 0).map bv) ∧
    Below w1.heap.size w1 (((w1.alloc (.cells (z16 n) 82)).alloc B).alloc (.cells lpv 82)) := by
  subst hB
  refine ⟨?_, ?_, ?_, ?_⟩
  · have h := ((Blk.new w1 82 (z16 n)).alloc (.cells xs.toArray 25)).alloc (.cells lpv 82)
    rw [z16_pgc, ← pagesTo_zero rest n] at h
    exact h
  · have h := (Blk.new (w1.alloc (.cells (z16 n) 82)) 25 xs.toArray).alloc (.cells lpv 82)
    rw [show (w1.alloc (.cells (z16 n) 82)).heap.size = w1.heap.size + 1 by simp] at h
    exact h
  · have h := Blk.new ((w1.alloc (.cells (z16 n) 82)).alloc (.cells xs.toArray 25)) 82 lpv
    rw [show ((w1.alloc (.cells (z16 n) 82)).alloc (.cells xs.toArray 25)).heap.size = w1.heap.size + 1 + 1 by simp] at h
    exact h
  · exact (((Below.refl _ _).alloc (Nat.le_refl _) _).alloc (by simp) _).alloc (by simp; omega) _

theorem sizeByte : (Try.prog.info? 5).map (·.size) = some 1 := by kernel_rfl
theorem two_one (a b : Value) (ha : a.oneCell' = true) (hb : b.oneCell' = true) : (#[a, b] : Array Value).all (·.oneCell') = true :=
  all_oneCell_toArray (cs := [a, b]) (by intro v hv; simp only [List.mem_cons, List.not_mem_nil, or_false] at hv; rcases hv with h | h <;> rw [h] <;> assumption)

set_option maxRecDepth 100000 in
set_option maxHeartbeats 4000000 in
theorem Restore_any (v : Value) (b : List Nat) (w : World) (h : Bs w v b) (hb : Byt b) (hl : b.length ≤ 1000000000) : Calls Try.prog 14 #[v] w (DiskErr (rePg b) (reErr b) w) := by
  have hB := (Below.refl w.heap.size w).alloc (Nat.le_refl _) (.cells #[.slice none 0 0, .slice none 0 0] 25)
  have Hb0 := Lib.hid (Blk.new w 25 #[.slice none 0 0, .slice none 0 0])
  have HB := Lib.hid hB
  have H := Lib.hid (h.new hB)
  have HBy := Lib.hid hb
  obtain ⟨a, cap, rfl, hcap, _⟩ := h
  have hz0 : w.heap.size < (w.alloc (.cells #[.slice none 0 0, .slice none 0 0] 25)).heap.size := by simp
  clear hB hb
  by_cases hL : 65536 < b.length
  · have t1 : decide ((65536 : Int) < (b.length : Int)) = true := by simp; omega
    have E := Lib.hid (reErr_long hL)
    have HD := Lib.hid (disk_set Hb0.out rfl HB.out (Nat.le_refl _) (.slice none 0 0) (.slice none 0 0))
    have Hth := Lib.hid (Hb0.out.there (o := 0) (n := 2) (Nat.le_refl _))
    clear hL
    go_enter Try.func14, Try.ntmps14
    go_wp2_with (refine wpList_store_mid rfl 25 _ _ rfl w.heap.size 0 #[.slice none 0 0, .slice none 0 0] rfl rfl Hth.out sizeDisk (two_one _ _ rfl rfl) ?_)
    (try simp only [Exit.inBlock, Exit.then])
    refine bodyPost_ret (results_disk rfl _ _ w.heap.size (.slice none 0 0) (.slice none 0 0) rfl HD.out.1 HD.out.2.1) rfl ?_
    exact ⟨_, by rw [E.out]; rfl, by rw [rePg_no E.out (by decide)]; exact Pgs.nil _, HD.out.2.2⟩
  have t1 : decide ((65536 : Int) < (b.length : Int)) = false := by simp; omega
  have hL' : b.length ≤ 65536 := by omega
  clear hL
  go_enter Try.func14, Try.ntmps14
  go_wp2_with fail
  generalize w.alloc (.cells #[.slice none 0 0, .slice none 0 0] 25) = W0 at *
  refine (wInt_any _ b _ H.out HBy.out hl).mono ?_
  rintro e w1 ⟨vr, rfl, hO, hB1⟩
  have HO := Lib.hid hO
  have Hb1 := Lib.hid (Hb0.out.below hB1 hz0)
  have HB1 := Lib.hid (HB.out.trans (hB1.mono HB.out.size))
  have Hth := Lib.hid (Hb1.out.there (o := 0) (n := 2) (Nat.le_refl _))
  have HD := Lib.hid (disk_set Hb1.out rfl HB1.out (Nat.le_refl _) (.slice none 0 0) (.slice none 0 0))
  obtain ⟨ar, cr, rfl⟩ := hO.form
  have hz1 := hB1.size
  clear hO hB1
  by_cases hE : rdErr b = 0
  · rw [hE]
    by_cases hN : rdNum b < 1 ∨ 8192 < rdNum b
    · have E := Lib.hid (reErr_num hL' hE hN)
      generalize rdNum b = n at *
      rcases (show n < 1 ∨ (1 ≤ n ∧ 8192 < n) by omega) with h1 | ⟨h0, h1⟩
      · have t2 : decide ((n : Int) < 1) = true := by simp; omega
        clear h1 hN
        go_wp2_with (refine wpList_store_mid rfl 25 _ _ rfl w.heap.size 0 #[.slice none 0 0, .slice none 0 0] rfl rfl Hth.out sizeDisk (two_one _ _ rfl rfl) ?_)
        (try simp only [Exit.inBlock, Exit.then])
        refine bodyPost_ret (results_disk rfl _ _ w.heap.size (.slice none 0 0) (.slice none 0 0) rfl HD.out.1 HD.out.2.1) rfl ?_
        exact ⟨_, by rw [E.out]; rfl, by rw [rePg_no E.out (by decide)]; exact Pgs.nil _, HD.out.2.2⟩
      · have t2 : decide ((n : Int) < 1) = false := by simp; omega
        have t3 : decide ((8192 : Int) < (n : Int)) = true := by simp; omega
        clear h1 h0 hN
        go_wp2_with (refine wpList_store_mid rfl 25 _ _ rfl w.heap.size 0 #[.slice none 0 0, .slice none 0 0] rfl rfl Hth.out sizeDisk (two_one _ _ rfl rfl) ?_)
        (try simp only [Exit.inBlock, Exit.then])
        refine bodyPost_ret (results_disk rfl _ _ w.heap.size (.slice none 0 0) (.slice none 0 0) rfl HD.out.1 HD.out.2.1) rfl ?_
        exact ⟨_, by rw [E.out]; rfl, by rw [rePg_no E.out (by decide)]; exact Pgs.nil _, HD.out.2.2⟩
    have HF := Lib.hid (fun h3 => reErr_form hL' hE hN h3)
    have HLs := Lib.hid (fun h3 => reErr_last hL' hE hN h3)
    have hrl := rdRest_length b
    have HPg := Lib.hid (show rePg b = if reErr b = 0 then pagesOf (rdRest b) (rdNum b) else [] from rfl)
    generalize rdNum b = n at *
    generalize rdRest b = rest at *
    generalize reErr b = xe at *
    generalize rePg b = xp at *
    have t2 : decide ((n : Int) < 1) = false := by simp; omega
    have t3 : decide ((8192 : Int) < (n : Int)) = false := by simp; omega
    have hn1 : 1 ≤ n := by omega
    have hn2 : n ≤ 8192 := by omega
    clear hN hE
    obtain ⟨m, hm⟩ : ∃ m, rest.length = m := ⟨_, rfl⟩
    obtain ⟨rm, hrm⟩ : ∃ rm : Nat, (m : Int) % 16 = (rm : Int) := ⟨m % 16, by omega⟩
    obtain ⟨qm, hqm⟩ : ∃ qm : Nat, (m : Int) / 16 = (qm : Int) := ⟨m / 16, by omega⟩
    rw [hm] at HF HLs hrl HO ⊢
    have Hm := Lib.hid hm
    have hqb : qm ≤ 65536 := by omega
    by_cases hr : rm ≠ 0
    · have t4 : ((rm : Int) != 0) = true := by simp; omega
      have E := Lib.hid (HF.out (Or.inl (by omega)))
      clear hr
      go_wp2_with (refine wpList_store_mid rfl 25 _ _ rfl w.heap.size 0 #[.slice none 0 0, .slice none 0 0] rfl rfl Hth.out sizeDisk (two_one _ _ rfl rfl) ?_)
      (try simp only [Exit.inBlock, Exit.then])
      refine bodyPost_ret (results_disk rfl _ _ w.heap.size (.slice none 0 0) (.slice none 0 0) rfl HD.out.1 HD.out.2.1) rfl ?_
      exact ⟨_, by rw [E.out]; rfl, by rw [HPg.out, if_neg (by rw [E.out]; decide)]; exact Pgs.nil _, HD.out.2.2⟩
    have t4 : ((rm : Int) != 0) = false := by simp; omega
    by_cases hqn : n < qm
    · have t5 : decide ((n : Int) < (qm : Int)) = true := by simp; omega
      have E := Lib.hid (HF.out (Or.inr (by omega)))
      clear hr
      go_wp2_with (refine wpList_store_mid rfl 25 _ _ rfl w.heap.size 0 #[.slice none 0 0, .slice none 0 0] rfl rfl Hth.out sizeDisk (two_one _ _ rfl rfl) ?_)
      (try simp only [Exit.inBlock, Exit.then])
      refine bodyPost_ret (results_disk rfl _ _ w.heap.size (.slice none 0 0) (.slice none 0 0) rfl HD.out.1 HD.out.2.1) rfl ?_
      exact ⟨_, by rw [E.out]; rfl, by rw [HPg.out, if_neg (by rw [E.out]; decide)]; exact Pgs.nil _, HD.out.2.2⟩
    have t5 : decide ((n : Int) < (qm : Int)) = false := by simp; omega
    have HX := Lib.hid (HLs.out (by omega))
    have hqn' : qm ≤ n := by omega
    have hm16 := Lib.hid (show m = qm * 16 by omega)
    have hmk := mkPages n (by omega)
    have hdq := Lib.hid (show rest.length / 16 = qm by omega)
    clear hr HF HLs HD Hth hm
    obtain ⟨hS, hO, hP, hB3⟩ := re_start w1 n rest (.cells #[.slice (some ⟨w1.heap.size, 0, none⟩) n n, .slice none 0 0] 25) _ rfl
    have HS := Lib.hid hS
    have HO3 := Lib.hid hO
    have HP := Lib.hid hP
    have HB3 := Lib.hid hB3
    clear hS hO hP hB3
    go_upto_region 12 with (fail)
    generalize ((w1.alloc (.cells (z16 n) 82)).alloc (.cells #[.slice (some ⟨w1.heap.size, 0, none⟩) n n, .slice none 0 0] 25)).alloc (.cells lpv 82) = W3 at *
    have hR1 := Hb1.out.lt
    go_wp2_with fail
    clear hrm hqm t4 t5
    go_loopg [50] qm (fun gk i wr => ∃ j : Nat, j + gk = qm ∧ i = .int .i64 j ∧ Hid (Blk wr w1.heap.size 82 (pgc (pagesTo rest n j))) ∧ Hid (Blk wr (w1.heap.size + 1 + 1) 82 ((lastP rest j).map bv)) ∧ Hid (Kept (fun k => k = w1.heap.size ∨ k = w1.heap.size + 1 + 1) W3 wr))
    case atStart => exact ⟨0, by omega, rfl, HS.out, HP.out, Kept.refl _ _⟩
    case round =>
      obtain ⟨j, hgk, rfl, hSj, hPj, hKj⟩ := hrel
      have Hgk := Lib.hid hgk
      have hjq : j ≤ qm := by omega
      clear hgk
      have HOj := Lib.hid (HO3.out.kept hKj.out (by omega))
      have c0 := HOj.out.cell (i := 0) rfl
      by_cases hlt : j < qm
      · obtain ⟨gR, har, hgR, hrow, hcr⟩ : ∃ gR, ar = some ⟨gR, 0, none⟩ ∧ gR < w1.heap.size ∧ RowAt w1 gR 0 rest ∧ m ≤ cr := by
          have hbs := HO.out
          rcases hbs.2 with ⟨h, h0⟩ | ⟨g, cap', cur, hv, hb', hg, hn', _⟩
          · have := Hm.out; have := hm16.out; omega
          · simp only [Value.slice.injEq] at hv
            obtain ⟨h1, h2, h3⟩ := hv
            subst h1 h3
            have hh : Blk w1 g 5 (rest.map bv) := Blk.of_owns (by have h := hbs; unfold BO at h; rw [Hm.out] at h; exact h)
            exact ⟨g, rfl, hh.lt, hh.row, by have := Hm.out; omega⟩
        subst har
        have Hsrc := Lib.hid (show RowAt wr gR (j * 16) (chunk rest j) by
          have h := (((hrow.new HB3.out).kept hKj.out (by omega)).drop (j * 16)).take 16
          rw [Nat.zero_add] at h
          exact h)
        have hc16 := chunk_16 (r := rest) (k := j) (by have := Hm.out; have := hm16.out; omega)
        have hjm : j * 16 + 16 ≤ m := by have := hm16.out; omega
        clear hrow
        have Hlp := Lib.hid (lastP_16 (r := rest) (k := j) (by have := Hm.out; omega))
        obtain ⟨J, hJ⟩ : ∃ J, j * 16 = J := ⟨_, rfl⟩
        have e1 : IntKind.i64.wrap ((j : Int) * 16) = (J : Int) := by rw [IntWalk.i64_in _ (by omega)]; omega
        rw [hJ] at Hsrc hjm
        have Hn := Lib.hid (show ((chunk rest j).map bv).length = Nat.min (m - J) 16 by rw [List.length_map, hc16]; exact (Nat.min_eq_right (by omega)).symm)
        have Hsrc2 := Lib.hid (show ∀ i v, ((chunk rest j).map bv)[i]? = some v → wr.cell? ((⟨gR, J, none⟩ : Addr).add i) = some v from Hsrc.out.src (Below.refl _ _))
        have Hth := Lib.hid (show wr.there (w1.heap.size + 1 + 1) 0 ((chunk rest j).map bv).length from hPj.out.there (by rw [List.length_map, List.length_map, hc16, Hlp.out]; decide))
        have Hone := Lib.hid (bv_one (chunk rest j))
        have hle : (J : Int) ≤ (m : Int) := by omega
        have hne2 : ¬ (cr = J) := by omega
        have HJ := Lib.hid hJ
        clear hJ
        go_upto_region 15 with (fail)
        go_region_law (refine step_copy_cells rfl (.tmp 53) (.tmp 57) 26 26 rfl 5 Try.underlying26 sizeByte (w1.heap.size + 1 + 1) 0 16 16 ⟨gR, J, none⟩ (m - J) (cr - J) rfl rfl ((chunk rest j).map bv) Hn.out (by exact Hsrc2.out) (by exact Hth.out) Hone.out ?_)
        have HP4 := Lib.hid (show Blk (wr.drew.setCells (w1.heap.size + 1 + 1) 0 ((chunk rest j).map bv)) (w1.heap.size + 1 + 1) 82 ((lastP rest (j + 1)).map bv) by
          have h := hPj.out.drew.setCells (o := 0) (vs := (chunk rest j).map bv) (by rw [List.length_map, List.length_map, hc16, Hlp.out]; decide)
          rw [spl_all (by rw [List.length_map, List.length_map, hc16, Hlp.out])] at h
          exact h)
        have HS4 := Lib.hid (show Blk (wr.drew.setCells (w1.heap.size + 1 + 1) 0 ((chunk rest j).map bv)) w1.heap.size 82 (pgc (pagesTo rest n j)) from hSj.out.drew.setCells_other (by omega))
        have HK4 := Lib.hid (show Kept (fun k => k = w1.heap.size ∨ k = w1.heap.size + 1 + 1) W3 (wr.drew.setCells (w1.heap.size + 1 + 1) 0 ((chunk rest j).map bv)) from kept_setCells hKj.out.drew (fun _ => Or.inr rfl) 0 _)
        have HO4 := Lib.hid (show Blk (wr.drew.setCells (w1.heap.size + 1 + 1) 0 ((chunk rest j).map bv)) (w1.heap.size + 1) 25 _ from HOj.out.drew.setCells_other (by omega))
        generalize wr.drew.setCells (w1.heap.size + 1 + 1) 0 ((chunk rest j).map bv) = W4 at *
        have d0 := HO4.out.cell (i := 0) rfl
        have Hps := Lib.hid (page_size hc16)
        have Hps2 := Lib.hid (show (Try.prog.info? 82).map (·.size) = some ((chunk rest j).map bv).toArray.size by rw [List.size_toArray]; exact Hps.out)
        have Hone2 := Lib.hid (all_oneCell_toArray (bv_one (chunk rest j)))
        have Hrg := Lib.hid (show W4.rangeAt (w1.heap.size + 1 + 1) 0 ((chunk rest j).map bv) from (show Blk W4 (w1.heap.size + 1 + 1) 82 ((chunk rest j).map bv) from HP4.out).row.range)
        have hp16 := pagesTo_16 (r := rest) (n := n) (k := j) (by have := Hm.out; have := HJ.out; omega)
        have Hp16 := Lib.hid hp16
        have hjn : j < n := by omega
        have hpl : j * 16 + 16 ≤ (pgc (pagesTo rest n j)).length := by rw [pgc_length hp16, pagesTo_length]; omega
        have Hth4 := Lib.hid (show W4.there w1.heap.size (j * 16) ((chunk rest j).map bv).toArray.size from HS4.out.there (by rw [List.size_toArray, List.length_map, hc16]; exact hpl))
        have HS5 := Lib.hid (show Blk (W4.setCells w1.heap.size (j * 16) ((chunk rest j).map bv)) w1.heap.size 82 (pgc (pagesTo rest n (j + 1))) by
          rw [pagesTo_succ, pgc_set Hp16.out (by rw [pagesTo_length]; exact hjn) hc16]
          exact HS4.out.setCells (by rw [List.length_map, hc16]; exact hpl))
        have HP5 := Lib.hid (show Blk (W4.setCells w1.heap.size (j * 16) ((chunk rest j).map bv)) (w1.heap.size + 1 + 1) 82 ((lastP rest (j + 1)).map bv) from HP4.out.setCells_other (by omega))
        have HK5 := Lib.hid (kept_setCells HK4.out (b := w1.heap.size) (fun _ => Or.inl rfl) (j * 16) ((chunk rest j).map bv))
        clear hp16 hpl Hn Hsrc2 Hth Hone Hsrc c0
        go_wp2_with (first
          | (refine wpList_load_want (by rfl) 82 _ rfl (w1.heap.size + 1 + 1) 0 rfl ((chunk rest j).map bv) _ Hrg.out Try.underlying82 rfl Hps.out ?_)
          | (refine wpList_store_mid rfl 82 _ _ rfl w1.heap.size (j * 16) ((chunk rest j).map bv).toArray rfl rfl Hth4.out Hps2.out Hone2.out ?_))
        go_roundg (qm - j - 1)
        case measure => have := Hgk.out; omega
        case rel => exact ⟨j + 1, by have := Hgk.out; omega, by go_num, HS5.out, HP5.out, HK5.out⟩
      · obtain rfl : j = qm := by omega
        have hbR := (Hb1.out.below HB3.out hR1).kept hKj.out (by omega)
        have HbR := Lib.hid hbR
        have Hth := Lib.hid (hbR.there (o := 0) (n := 2) (Nat.le_refl _))
        have HBr := Lib.hid (show Below w.heap.size w wr from (HB1.out.trans (HB3.out.mono HB1.out.size)).trans (hKj.out.below (by have := HB1.out.size; have := HB3.out.size; omega) (fun k hk => by have := HB1.out.size; omega)))
        have hl16 := lastP_16 (r := rest) (k := j) (by have := Hm.out; have := hm16.out; omega)
        have Hps := Lib.hid (page_size hl16)
        have Hrg := Lib.hid (hPj.out.row.range)
        have c1 := HOj.out.cell (i := 1) rfl
        have Hz := Lib.hid (show lastP rest j = zp ↔ lastZ rest by have := lastP_z (r := rest); rw [hdq.out] at this; exact this)
        have HPg' := Lib.hid (show pagesOf rest n = pagesTo rest n j by unfold pagesOf pagesTo; rw [hdq.out])
        have Hp16 := Lib.hid (pagesTo_16 (r := rest) (n := n) (k := j) (by have := Hm.out; have := hm16.out; omega))
        clear hbR
        generalize lastP rest j = lp at *
        by_cases hzz : lp = zp
        · have Hd := Lib.hid (decide_eq_true hzz)
          have E := Lib.hid (show xe = 3 by rw [HX.out, if_pos (Hz.out.1 hzz)])
          have HD := Lib.hid (disk_set HbR.out rfl HBr.out (Nat.le_refl _) (.slice none 0 0) (.slice none 0 0))
          clear hzz
          go_wp2_with (first
            | (refine wpList_load_want (by rfl) 82 _ rfl (w1.heap.size + 1 + 1) 0 rfl (lp.map bv) _ Hrg.out Try.underlying82 rfl Hps.out ?_)
            | (refine wpList_eq_page (by rfl) _ _ _ rfl lp zp rfl rfl hl16 zp_length true Hd.out ?_)
            | (refine wpList_store_mid rfl 25 _ _ rfl w.heap.size 0 #[.slice none 0 0, .slice none 0 0] rfl rfl Hth.out sizeDisk (two_one _ _ rfl rfl) ?_))
          (try simp only [Exit.inBlock, Exit.then])
          refine bodyPost_ret (results_disk rfl _ _ w.heap.size (.slice none 0 0) (.slice none 0 0) rfl HD.out.1 HD.out.2.1) rfl ?_
          exact ⟨_, by rw [E.out]; rfl, by rw [HPg.out, if_neg (by rw [E.out]; decide)]; exact Pgs.nil _, HD.out.2.2⟩
        · have Hd := Lib.hid (decide_eq_false hzz)
          have E := Lib.hid (show xe = 0 by rw [HX.out, if_neg (fun h => hzz (Hz.out.2 h))])
          have HD := Lib.hid (disk_set HbR.out rfl HBr.out (Nat.le_refl _) (.slice (some ⟨w1.heap.size, 0, none⟩) n n) (.slice none 0 0))
          have HSf := Lib.hid (show Blk (wr.setCells w.heap.size 0 [.slice (some ⟨w1.heap.size, 0, none⟩) n n, .slice none 0 0]) w1.heap.size 82 (pgc (pagesTo rest n j)) from hSj.out.setCells_other (by omega))
          clear hzz
          go_wp2_with (first
            | (refine wpList_load_want (by rfl) 82 _ rfl (w1.heap.size + 1 + 1) 0 rfl (lp.map bv) _ Hrg.out Try.underlying82 rfl Hps.out ?_)
            | (refine wpList_eq_page (by rfl) _ _ _ rfl lp zp rfl rfl hl16 zp_length false Hd.out ?_)
            | (refine wpList_store_mid rfl 25 _ _ rfl w.heap.size 0 #[.slice (some ⟨w1.heap.size, 0, none⟩) n n, .slice none 0 0] rfl rfl Hth.out sizeDisk (two_one _ _ rfl rfl) ?_))
          (try simp only [Exit.inBlock, Exit.then])
          refine bodyPost_ret (results_disk rfl _ _ w.heap.size (.slice (some ⟨w1.heap.size, 0, none⟩) n n) (.slice none 0 0) rfl HD.out.1 HD.out.2.1) rfl ?_
          refine ⟨_, by rw [E.out]; rfl, ?_, HD.out.2.2⟩
          rw [HPg.out, if_pos E.out, HPg'.out]
          exact ⟨_, n, by rw [pagesTo_length], by rw [pagesTo_length]; exact Nat.le_refl _, Or.inr ⟨w1.heap.size, 0, rfl, (show Blk _ _ _ ((pagesTo rest n j).flatten.map bv) from HSf.out).row.page Hp16.out⟩⟩
  · have hne : ((rdErr b : Int) != 0) = true := by simp; omega
    have E := Lib.hid (reErr_rd hL' hE)
    have E0 := Lib.hid hE
    have hbd : rdErr b ≤ 9 := by rcases rdErr_cases b with h | h | h <;> omega
    generalize rdErr b = x at *
    generalize rdNum b = n at *
    clear hE
    go_wp2_with (refine wpList_store_mid rfl 25 _ _ rfl w.heap.size 0 #[.slice none 0 0, .slice none 0 0] rfl rfl Hth.out sizeDisk (two_one _ _ rfl rfl) ?_)
    (try simp only [Exit.inBlock, Exit.then])
    refine bodyPost_ret (results_disk rfl _ _ w.heap.size (.slice none 0 0) (.slice none 0 0) rfl HD.out.1 HD.out.2.1) rfl ?_
    exact ⟨_, by rw [E.out]; rfl, by rw [rePg_no E.out E0.out]; exact Pgs.nil _, HD.out.2.2⟩
end Go.Proofs.Ytkclmfppjhmnjaa
