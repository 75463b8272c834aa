/- The contract of the reference's Rank; the walk of the law GaloisInverts. -/
import Derived.Test.YtpiiigeabbhdaaaRef7
import Derived.Test.YtpiiigeabbhdaaaLawB
namespace Go.Proofs.Ytpiiigeabbhdaaa
open Go.RowKit

/-- n nil slices. -/
def nz (n : Nat) : Array Value := (List.replicate n (.slice none 0 0)).toArray
theorem mkRows (n : Nat) (hn : n ≤ 1000000000) (w : World) : (Instr.makeSlice 31 (.int .i64 n) (.int .i64 n)).run Try.prog w = .ok (.slice (some ⟨w.heap.size, 0, none⟩) n n) (w.alloc (.cells (nz n) 56)) := by
  obtain ⟨i0, hi, hz0, hz1, hz2⟩ := info_parts infoBytes
  have h := run_make (P := Try.prog) w 31 56 i0 (.slice none 0 0) Try.underlying31 hi hz0 .i64 .i64 (n : Int) (n : Int) (by omega) (by omega) (by rw [hz2]; omega) (by omega)
  rw [h, hz1]
  have e : madeCells (Value.cells (.slice none 0 0)) ((n : Int).toNat * 1) = nz n := by
    apply Array.ext
    · simp [size_madeCells, nz]
    · intro i h1 h2
      simp [madeCells, nz, Value.cells, Nat.mod_one]
  rw [e, Int.toNat_natCast]

theorem OV.nils {w : World} {B bo N : Nat} (h : Blk w bo 56 (List.replicate N (.slice none 0 0))) (hB : B ≤ bo) : OV w B bo (List.replicate N (.slice none 0 0)) (List.replicate N []) := by
  refine ⟨by simp, h, hB, ?_, ?_⟩
  · intro i v s hv hs
    have h1 := List.eq_of_mem_replicate (List.mem_of_getElem? hv)
    have h2 := List.eq_of_mem_replicate (List.mem_of_getElem? hs)
    exact Or.inl ⟨h1, h2⟩
  · intro i j v u g hv hu gv
    have h1 := List.eq_of_mem_replicate (List.mem_of_getElem? hv)
    rw [h1] at gv
    simp [Value.ownBlock] at gv

theorem zip2_nil (m : List (List Nat)) : zip2 m (List.replicate m.length []) = m := by
  apply List.ext_getElem?
  intro i
  by_cases hi : i < m.length
  · have h1 := getD_some (d := []) hi
    rw [zip2_get h1 (s := []) (by simp [hi]), h1, List.append_nil]
  · rw [List.getElem?_eq_none (by rw [zip2_length (by simp)]; omega), List.getElem?_eq_none (by omega)]

theorem nil_rect (N : Nat) : Rect 0 (List.replicate N []) := by
  intro r hr
  have := List.eq_of_mem_replicate hr
  subst this
  exact ⟨rfl, fun x hx => by simp at hx⟩

theorem RS_rank {w : World} {B bm bo n : Nat} {hd : List (Nat × Nat)} {m : List (List Nat)} (hO : OM w B bm hd m) (hb : Blk w bo 56 (nz m.length).toList) (hB : B ≤ bo) (hne : bm ≠ bo) (hR : Rect n m) (hsz : B ≤ w.heap.size) :
    RS w w B bm bo n 0 m.length hd (List.replicate m.length (.slice none 0 0)) m (List.replicate m.length []) := by
  refine ⟨⟨hO, OV.nils hb hB, hne, ?_, Below.refl _ _, hsz⟩, hR, nil_rect _, rfl, by simp⟩
  intro i j p v hp hv e
  have h1 := List.eq_of_mem_replicate (List.mem_of_getElem? hv)
  rw [h1] at e
  simp [Value.ownBlock] at e

set_option maxRecDepth 100000 in
set_option maxHeartbeats 4000000 in
theorem rRank_any (v : Value) (m : List (List Nat)) (w : World) (hn : m.length ≤ 1000000000) (hB : BytM m) (hm : Mx w v m) :
    Calls Try.prog 25 #[v] w fun e w' => e = .returned (.tuple #[.int .i64 (rankOf m), .int .i64 (rankErr m)]) ∧ Below w.heap.size w w' := by
  by_cases hI : isMat m
  · have hr : rankOf m = (redTo m (m.getD 0 []).length).2 := if_pos hI
    have he : rankErr m = 0 := if_pos hI
    rw [hr, he]
    have Hm := Lib.hid hm
    obtain ⟨a, cap, rfl, hcap, h⟩ := hm
    rcases h with h | ⟨b, o, A, C, rfl, hM⟩
    · subst h; exact absurd hI.1 (by decide)
    have HI := Lib.hid hI
    have hN1 := hI.1
    have hR := Lib.hid (hI.rect hB)
    have c3 := hI.2.2.1
    have c4 := hI.2.2.2.1
    have c2 := hI.2.1
    have HM := Lib.hid hM
    generalize hr0 : (m.getD 0 []).length = r0 at *
    have hmne := Lib.hid (show m ≠ [] by intro h; rw [h] at hN1; simp at hN1)
    have mk := mkRows m.length (by omega)
    clear hI hM hr he hr0 hB
    go_enter Try.func25, Try.ntmps25
    go_wp2_with fail
    refine (rIs_any _ m _ hn Hm.out).mono ?_
    rintro e w1 ⟨rfl, q, rfl⟩
    rw [isMatB_true HI.out]
    have hB1 : Below w.heap.size w (w.drewN q) := below_drewN (Below.refl _ _) q
    generalize w.drewN q = w1 at *
    have HM1 := Lib.hid (HM.out.new hB1)
    have HB1 := Lib.hid hB1
    clear hB1 HM Hm
    go_wp2_with fail
    -- the two orders: Copy first, or make first
    have hRed : ∀ (W : World) (bm capm bo capo : Nat) (hd : List (Nat × Nat)), OM W w1.heap.size bm hd m → Blk W bo 56 (nz m.length).toList → w1.heap.size ≤ bo → bm ≠ bo → Below w1.heap.size w1 W →
        Calls Try.prog 38 #[.slice (some ⟨bm, 0, none⟩) m.length capm, .slice (some ⟨bo, 0, none⟩) m.length capo] W fun e w' => e = .returned (.int .i64 (redTo m r0).2) ∧ Below w.heap.size w w' := by
      intro W bm capm bo capo hd hO hb hbo hne hBW
      have hsz : w1.heap.size ≤ W.heap.size := hBW.size
      refine (rreduce_any bm capm bo capo r0 0 m.length w1.heap.size hd _ m _ W (by omega) hN1 (by omega) (by omega) (RS_rank hO hb hbo hne hR.out hsz)).mono ?_
      rintro e w' ⟨he, hd', vs', M', O', hS', _⟩
      rw [zip2_nil] at he
      exact ⟨he, HB1.out.trans ((hBW.trans hS'.rp.below).mono HB1.out.size)⟩
    have HRed := Lib.hid hRed
    have HMn : Hid (∀ (W : World), Below w1.heap.size w1 W → MxAt W b o m A C) := fun W h => HM1.out.new h
    clear hRed HM1
    have HA : Hid (∀ (w2 : World) (bm capm : Nat) (hd2 : List (Nat × Nat)), OM w2 w1.drew.heap.size bm hd2 m → Below w1.drew.heap.size w1.drew w2 →
        Calls Try.prog 38 #[.slice (some ⟨bm, 0, none⟩) m.length capm, .slice (some ⟨w2.heap.size, 0, none⟩) m.length m.length] (w2.alloc (.cells (nz m.length) 56)) fun e w' => e = .returned (.int .i64 (redTo m r0).2) ∧ Below w.heap.size w w') := by
      intro w2 bm capm hd2 hO hB2
      have hb2 : Below w1.heap.size w1 w2 := ⟨hB2.os, hB2.tape, hB2.output, hB2.size, hB2.block⟩
      refine HRed.out _ bm capm w2.heap.size m.length hd2 (hO.new ((Below.refl _ _).alloc (Nat.le_refl _) _)) (Blk.new w2 56 (nz m.length)) hb2.size ?_ (hb2.alloc hb2.size _)
      have := hO.outer.lt
      omega
    have HBo : Hid (∀ (w2 : World) (bm capm : Nat) (hd2 : List (Nat × Nat)), OM w2 (w1.alloc (.cells (nz m.length) 56)).drew.heap.size bm hd2 m → Below (w1.alloc (.cells (nz m.length) 56)).drew.heap.size (w1.alloc (.cells (nz m.length) 56)).drew w2 →
        Calls Try.prog 38 #[.slice (some ⟨bm, 0, none⟩) m.length capm, .slice (some ⟨w1.heap.size, 0, none⟩) m.length m.length] w2 fun e w' => e = .returned (.int .i64 (redTo m r0).2) ∧ Below w.heap.size w w') := by
      intro w2 bm capm hd2 hO hB2
      have hs : (w1.alloc (.cells (nz m.length) 56)).drew.heap.size = w1.heap.size + 1 := by show (w1.alloc _).heap.size = _; simp
      have hb2 : Below w1.heap.size w1 w2 := (((Below.refl _ _).alloc (Nat.le_refl _) _).drew).trans (hB2.mono (by rw [hs]; omega))
      have hbk := ((Blk.new w1 56 (nz m.length)).drew).below hB2 (by rw [hs]; omega)
      refine HRed.out _ bm capm w1.heap.size m.length hd2 (hO.base (by rw [hs]; omega)) hbk (Nat.le_refl _) ?_ hb2
      have := hO.obase
      rw [hs] at this
      omega
    go_region_with (first
      | (go_at_call 39; refine (rCopy_any b o cap r0 m A C _ (by omega) (by omega) (by omega) hR.out (by exact HMn.out w1.drew (Below.refl _ _).drew)).mono ?_; rintro e w2 ⟨v2, hd2, rfl, hG2, hB2⟩; obtain ⟨bm, capm, rfl, l1, l2, hO2⟩ := hG2.done hmne.out; have HC := Lib.hid (HA.out w2 bm capm hd2 hO2 hB2); clear hG2 hO2 hB2)
      | (go_at_call 39; refine (rCopy_any b o cap r0 m A C _ (by omega) (by omega) (by omega) hR.out (by exact HMn.out (w1.alloc (.cells (nz m.length) 56)).drew ((Below.refl _ _).alloc (Nat.le_refl _) _).drew)).mono ?_; rintro e w2 ⟨v2, hd2, rfl, hG2, hB2⟩; obtain ⟨bm, capm, rfl, l1, l2, hO2⟩ := hG2.done hmne.out; have HC := Lib.hid (HBo.out w2 bm capm hd2 hO2 hB2); clear hG2 hO2 hB2)
      | (go_at_call 38; refine HC.out.mono ?_; rintro e w3 ⟨rfl, hB3⟩; have HB3 := Lib.hid hB3; clear hB3))
    all_goals
      go_wp2_with fail
      go_ret2
      exact ⟨rfl, HB3.out⟩
  · have hr : rankOf m = 0 := if_neg hI
    have he : rankErr m = 6 := if_neg hI
    rw [hr, he]
    have HI := Lib.hid hI
    clear hI hr he
    go_enter Try.func25, Try.ntmps25
    go_wp2_with fail
    refine (rIs_any _ m _ hn hm).mono ?_
    rintro e w1 ⟨rfl, q, rfl⟩
    rw [isMatB_no HI.out]
    have hB1 : Below w.heap.size w (w.drewN q) := below_drewN (Below.refl _ _) q
    generalize w.drewN q = w1 at *
    go_wp2_with fail
    go_ret2
    exact ⟨rfl, hB1⟩

theorem rect_bytM {n : Nat} {m : List (List Nat)} (h : Rect n m) : BytM m := fun r hr => (h r hr).2
theorem invRows_byt {m : List (List Nat)} (hB : BytM m) : BytM (invRows m) := by
  unfold invRows
  split
  · rename_i h
    have hI : isMat m := by
      apply Classical.byContradiction
      intro hI
      unfold invErr at h
      rw [if_neg hI] at h
      exact absurd h (by decide)
    intro r hr
    obtain ⟨s, hs, rfl⟩ := List.mem_map.1 hr
    have := redTo_rect (wideM_rect (hI.rect hB)) m.length s hs
    exact fun x hx => this.2 x (List.mem_of_mem_drop hx)
  · intro r hr; simp at hr
theorem invRows_length (m : List (List Nat)) : (invRows m).length ≤ m.length := by
  unfold invRows
  split
  · rw [List.length_map, redTo_length, wideM_length]; omega
  · exact Nat.zero_le _

set_option maxRecDepth 100000 in
set_option maxHeartbeats 2000000 in
theorem GaloisInverts_walk (v : Value) (m : List (List Nat)) (w : World) (hm : Mx w v m) (hB : BytM m) (hl : m.length ≤ maxLen) :
    Calls Try.prog 5 #[v] w fun e w' => e = .returned (.bool true) ∧ Below w.heap.size w w' := by
  have HM := Lib.hid hm
  have HB := Lib.hid hB
  have HL := Lib.hid hl
  have t1 : ((invErr m : Int) == (invErr m : Int)) = true := by simp
  have t2 : ((rankOf m : Int) == (rankOf m : Int)) = true := by simp
  have t3 : ((rankErr m : Int) == (rankErr m : Int)) = true := by simp
  have t4 : invErr m ≤ 23 := by unfold invErr; (repeat split) <;> decide
  have t5 : rankErr m ≤ 6 := by unfold rankErr; split <;> decide
  clear hm hB hl
  by_cases hF : fewM m
  · have HF := Lib.hid hF
    have hlen : m.length ≤ 200 := hF.2.2
    clear hF
    go_enter Try.func5, Try.ntmps5
    go_wp2_with fail
    refine (rFew_any v m _ HL.out HM.out).mono ?_
    rintro e w1 ⟨rfl, rfl⟩
    rw [fewB_true HF.out]
    go_wp2_with fail
    refine (Invert_any v m _ (by omega) HB.out HM.out).mono ?_
    rintro e w1 ⟨v1, hd1, rfl, hG1, hB1⟩
    have B1 := Lib.hid hB1
    have M1 := Lib.hid (HM.out.new hB1)
    have G1 := Lib.hid hG1.mx
    clear hB1 hG1
    go_wp2_with fail
    refine (rInvert_any v m _ (by omega) HB.out M1.out).mono ?_
    rintro e w2 ⟨v2, rfl, hG2, hB2⟩
    have B2 := Lib.hid (B1.out.trans (hB2.mono B1.out.size))
    have M2 := Lib.hid (M1.out.new hB2)
    have G12 := Lib.hid (G1.out.new hB2)
    have G2 := Lib.hid hG2
    clear hB2 hG2 B1 M1 G1
    go_wp2_with fail
    refine (Rank_any v m _ (by omega) HB.out M2.out).mono ?_
    rintro e w3 ⟨rfl, hB3⟩
    have B3 := Lib.hid (B2.out.trans (hB3.mono B2.out.size))
    have M3 := Lib.hid (M2.out.new hB3)
    have G13 := Lib.hid (G12.out.new hB3)
    have G23 := Lib.hid (G2.out.new hB3)
    clear hB3 B2 M2 G12 G2
    go_wp2_with fail
    refine (rRank_any v m _ (by omega) HB.out M3.out).mono ?_
    rintro e w4 ⟨rfl, hB4⟩
    have B4 := Lib.hid (B3.out.trans (hB4.mono B3.out.size))
    have G14 := Lib.hid (G13.out.new hB4)
    have G24 := Lib.hid (G23.out.new hB4)
    clear hB4 B3 M3 G13 G23
    go_wp2_with fail
    refine (rSame_any v1 v2 (invRows m) (invRows m) _ (by have := invRows_length m; omega) (invRows_byt HB.out) (invRows_byt HB.out) G14.out G24.out).mono ?_
    rintro e w5 ⟨rfl, q, rfl⟩
    rw [sameB_self]
    have B5 := Lib.hid (below_drewN B4.out q)
    clear B4 G14 G24
    generalize w4.drewN q = w5 at *
    go_wp2_with fail
    refine (awake_any _).mono ?_
    rintro e w6 ⟨rfl, hB6⟩
    have B6 := Lib.hid (B5.out.trans (hB6.mono B5.out.size))
    clear hB6 B5
    go_wp2_with fail
    go_ret
    exact ⟨rfl, B6.out⟩
  · have HF := Lib.hid hF
    clear hF
    go_enter Try.func5, Try.ntmps5
    go_wp2_with fail
    refine (rFew_any v m _ HL.out HM.out).mono ?_
    rintro e w1 ⟨rfl, rfl⟩
    rw [fewB_false HF.out]
    go_wp2_with fail
    refine (awake_any _).mono ?_
    rintro e w6 ⟨rfl, hB6⟩
    go_wp2_with fail
    go_ret
    exact ⟨rfl, hB6⟩
end Go.Proofs.Ytpiiigeabbhdaaa
