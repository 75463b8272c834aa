/- The contract of galois.reduced: the reduced form of a matrix, in new memory. -/
import Derived.Test.YtkclmfppjhmnjaaB05
namespace Go.Proofs.Ytkclmfppjhmnjaa
open Go.RowKit

set_option maxRecDepth 100000 in
set_option maxHeartbeats 8000000 in
theorem reduced_any (b o cap n cols : Nat) (m : List (List Nat)) (A : Nat → Option Addr) (C : Nat → Nat) (w : World) (hN : m.length ≤ 1000) (hn : n ≤ 1000) (hn1 : 1 ≤ n) (hcols : cols ≤ n) (hm1 : m ≠ []) (hR : Rect n m) (hM : MxAt w b o m A C) :
    Calls Try.prog 140 #[.slice (some ⟨b, o, none⟩) m.length cap, .int .i64 cols] w fun e w' =>
      ∃ bo capo hd, e = .returned (.tuple #[.slice (some ⟨bo, 0, none⟩) m.length capo, .int .i64 (redTo m cols).2]) ∧ OM w' w.heap.size bo hd (redTo m cols).1 ∧ m.length ≤ capo ∧ capo ≤ maxLen ∧ Below w.heap.size w w' := by
  have hT0 := Tab.made w
  obtain ⟨i0, hi, hz0, hz1, hz2⟩ := info_parts infoBytes
  have HM := Lib.hid hM
  have HR := Lib.hid hR
  have Hm1 := Lib.hid hm1
  have HT0 := Lib.hid hT0
  clear hM hR hT0 hm1
  go_enter Try.func140, Try.ntmps140
  go_wp2_with fail
  refine (field_any _).mono ?_
  rintro e w' ⟨rfl, rfl⟩
  go_wp2_with fail
  obtain ⟨w2, hw2⟩ : ∃ w2, (w.alloc (.cells (tb 255) 148)).alloc (.cells #[.pointer (some ⟨w.heap.size, 0, none⟩)] 130) = w2 := ⟨_, rfl⟩
  rw [hw2]
  have hT : Tab w2 w.heap.size := hw2 ▸ HT0.out.below ((Below.refl _ _).alloc (Nat.le_refl _) _) (by simp)
  have hp2 : w2.cell? ⟨w.heap.size + 1, 0, none⟩ = some (.pointer (some ⟨w.heap.size, 0, none⟩)) := by
    rw [← hw2]
    simp
  have hB2 : Below w.heap.size w w2 := hw2 ▸ ((Below.refl _ _).alloc (Nat.le_refl _) _).alloc (by simp) _
  have hs2 : w2.heap.size = w.heap.size + 2 := by rw [← hw2]; simp
  have Hs2 := Lib.hid hs2
  have HT := Lib.hid hT
  have Hp2 := Lib.hid hp2
  have HM2 := Lib.hid (HM.out.new hB2)
  have HB2 := Lib.hid hB2
  clear hw2 hs2 hT hp2 HT0 HM hB2
  go_loopw [7, 20] (fun v i wr => ∃ k : Nat, k ≤ m.length ∧ i = .int .i64 k ∧ Hid (∃ hd, GM wr w2.heap.size v hd (m.take k)) ∧ Hid (Below w2.heap.size w2 wr)) (fun _ i _ => m.length - (intOf i).toNat)
  case atStart => exact ⟨0, by omega, rfl, ⟨[], GM.nil _ _⟩, Below.refl _ _⟩
  case round =>
    obtain ⟨k, hk, rfl, hG, hB⟩ := hrel
    by_cases hlt : k < m.length
    · obtain ⟨hd, hG⟩ := hG.out
      have hB := hB.out
      have hmk : m[k]? = some (m.getD k []) := by rw [List.getD_eq_getElem?_getD, List.getElem?_eq_getElem hlt]; rfl
      obtain ⟨hrl, hrb⟩ := HR.out.get hlt
      generalize hr : m.getD k [] = r at *
      have hrne : r ≠ [] := by intro h; rw [h] at hrl; simp at hrl; omega
      have hMr := HM2.out.new hB
      obtain ⟨b', o', hA, hrow⟩ := RowAt.of_mx hMr hmk hrne
      have hcell := (hMr k r hmk).1
      rw [hA] at hcell
      have HH := Lib.hid (And.intro hmk (And.intro hrl (And.intro hrb hr)))
      have Hrow := Lib.hid hrow
      have hrl' : r.length ≤ 1000 := by omega
      have HG := Lib.hid hG
      have HB := Lib.hid hB
      clear hmk hrl hrb hr hMr hA hG hB hrow
      go_wp2_with fail
      refine (Clone_any b' o' r _ _ (by omega) Hrow.out).mono ?_
      rintro e w3 ⟨g, cg, rfl, hg1, hg2, hg3, hgB, hB3⟩
      have HgB := Lib.hid hgB
      have HB3 := Lib.hid hB3
      have Hown := Lib.hid ((HG.out.new hB3).outer)
      have hsz3 : w2.heap.size ≤ w3.heap.size := by have := HB.out.size; have := hB3.size; omega
      clear hgB hB3
      go_wp2_with (at_builtin; refine wpList_append_own _ rfl _ _ 44 rfl w2.heap.size 26 i0 (.slice none 0 0) 1 24 Try.underlying44 hi hz0 hz1 hz2 rfl (by decide) _ _ _ rfl (Hown.out.alloc _) ⟨w3.heap.size, 0, none⟩ 1 1 [hv r.length (g, cg)] rfl rfl ?c1 ?c2 ?c3 ?c4 ?c5 ?_)
      case c1 => exact cell_one_new _ _ _
      case c2 => intro u hu; simp at hu; subst hu; rfl
      case c3 => rw [List.length_take]; unfold maxLen; omega
      case c4 => rw [List.length_take]; omega
      case c5 => simp; omega
      intro v' w5 hown hgr _
      have hk' : (m.take k).length = k := by rw [List.length_take]; omega
      have hG5 := HG.out.snoc HB3.out (p := (g, cg)) (r := r) HgB.out hg1 HB.out.size hg2 (by rw [hk']; exact hown) hgr
      rw [← take_succ' HH.out.1] at hG5
      have hB5 : Below w2.heap.size w2 w5 := ((HB.out.trans (HB3.out.mono HB.out.size)).alloc hsz3 _).grown hgr (by simp; omega) (fun q hq => (owns_block HG.out.outer hq).2.1)
      have HG5 := Lib.hid hG5
      have HB5 := Lib.hid hB5
      clear hown hgr hG5 hB5 hk'
      go_wp2_with fail
      go_roundw
      case rel => exact ⟨k + 1, by omega, by go_num, ⟨_, HG5.out⟩, HB5.out⟩
      case measure => simp [intOf]; omega
    · obtain ⟨hd, hG⟩ := hG.out
      have hk2 : m.take k = m := List.take_of_length_le (by omega)
      rw [hk2] at hG
      obtain ⟨bo, capo, hv7, hc1, hc2, hO⟩ := hG.done Hm1.out
      rw [hv7]
      have HO := Lib.hid hO
      clear hk2 hG hO hv7 i0 hi hz0 hz1 hz2
      obtain ⟨wa, rfl⟩ : ∃ wa : World, wa = wr := ⟨_, rfl⟩
      go_wp2_with fail
      have hpb0 := Lib.hid (Blk.new wa 3 #[.int .i64 0])
      have hO0 := Lib.hid (HO.out.new ((Below.refl _ _).alloc (Nat.le_refl _) (.cells #[.int .i64 0] 3)))
      have hB0 := Lib.hid (hB.out.alloc hB.out.size (.cells #[.int .i64 0] 3))
      have hsz0 := hB.out.size
      clear HO hB
      go_loopg [10, 12] cols (fun gk rk pc wr => ∃ (c pb rank : Nat), c + gk = cols ∧ pc = .pointer (some ⟨pb, 0, none⟩) ∧ rk = .int .i64 rank ∧ Hid ((redTo m c).2 = rank) ∧ Hid (Blk wr pb 3 [.int .i64 c]) ∧ Hid (w2.heap.size ≤ pb) ∧ Hid (∃ hd, OM wr w2.heap.size bo hd (redTo m c).1) ∧ Hid (Below w2.heap.size w2 wr))
      case atStart => exact ⟨0, wa.heap.size, 0, by omega, rfl, rfl, rfl, hpb0.out, hsz0, ⟨hd, hO0.out⟩, hB0.out⟩
      case round =>
        obtain ⟨c, pb, rank, hgk, rfl, rfl, hrk, hpb, hpb2, hO, hBw⟩ := hrel
        clear hpb0 hO0 hB0 hsz0
        have hgk1 : c ≤ cols := by omega
        have hrN : rank ≤ m.length := by have := redTo_rank m c; rw [hrk.out] at this; exact this
        have hcpb := hpb.out.cell (i := 0) rfl
        have hfpb := hpb.out.frozen 0
        by_cases hx : c < cols ∧ rank < m.length
        · obtain ⟨hc1, hr1⟩ := hx
          obtain ⟨hd', hO⟩ := hO.out
          have hstep := Lib.hid (show redTo m (c + 1) = stepR c (redTo m c) from rfl)
          have hlen := redTo_length m c
          have hRm := redTo_rect HR.out c
          obtain ⟨m', hm'⟩ : ∃ m', m' = (redTo m c).1 := ⟨_, rfl⟩
          rw [← hm'] at hO hlen hRm
          have hs : redTo m c = (m', rank) := by rw [hm', ← hrk.out]
          rw [hs] at hstep
          have Hlen := Lib.hid hlen
          have HRm := Lib.hid hRm
          have HO := Lib.hid hO
          have Hgk := Lib.hid hgk
          clear hs hm' hlen hRm hO hgk
          have hfp := find_pre (rank := rank) HO.out HRm.out (show c < n by omega) hcpb
          rw [Hlen.out] at hfp
          have Hfp := Lib.hid hfp
          clear hfp
          go_wp2_with fail
          refine (IndexFunc_reduced2 bo rank (m.length - rank) _ (fun i => hv n (hd'.getD (rank + i) (0, 0))) _ (fun j => (m'.getD (rank + j) []).getD c 0 != 0) _ (by omega) Hfp.out.1 Hfp.out.2).mono ?_
          rintro e w' ⟨rfl, rfl⟩
          have hpv : firstOf (fun j => (m'.getD (rank + j) []).getD c 0 != 0) (m.length - rank) = pivotAt m' c rank := by rw [← Hlen.out]; rfl
          rw [hpv]
          clear hpv Hfp
          rcases pivotAt_cases m' c rank with hpv | ⟨p, hpv, hp1, hp2⟩
          · rw [hpv]
            have Hpv := Lib.hid hpv
            clear hpv
            go_wp2_with fail
            go_roundg (cols - c - 1)
            case measure => have := Hgk.out; omega
            case rel =>
              have e1 : redTo m (c + 1) = (m', rank) := by rw [hstep.out]; unfold stepR; rw [Hpv.out, if_pos (by decide)]
              refine ⟨c + 1, wr.heap.size, rank, by have := Hgk.out; omega, rfl, rfl, by rw [e1]; rfl, by have := Blk.new wr 3 #[.int .i64 ((c : Int) + 1)]; exact this, hBw.out.size, ⟨hd', by rw [e1]; exact HO.out.new ((Below.refl _ _).alloc (Nat.le_refl _) _)⟩, hBw.out.alloc hBw.out.size _⟩
          · rw [hpv]
            have HPv := Lib.hid hpv
            clear hpv
            have hp1' : rank + p < m.length := by rw [← Hlen.out]; exact hp1
            obtain ⟨⟨g1, k1⟩, a1, a2, a3, z4, a5, a6, a7⟩ := HO.out.at HRm.out (i := rank) (by omega)
            obtain ⟨⟨g2, k2⟩, q1, q2, q3, q4, q5, q6, q7⟩ := HO.out.at HRm.out (i := rank + p) hp1
            have f1 := HO.out.outer.frozen rank
            have f2 := HO.out.outer.frozen (rank + p)
            have l1 := (HRm.out.get (i := rank) (by omega)).1
            have l2 := (HRm.out.get (i := rank + p) hp1).1
            have hsw := HO.out.swap a1 q1 a3 q3
            rw [l1, l2] at hsw
            have Hsw := Lib.hid hsw
            clear a2 a3 a5 a6 a7 q2 q3 q5 q6 q7 hp1 l1 l2 hsw
            unfold hv at z4 q4
            have HP2 := Lib.hid hp2
            have Hq1 := Lib.hid q1
            have Hz1 := Lib.hid a1
            clear hp2 q1 a1
            go_wp2_with fail
            have s1 : IntKind.i64.wrap ((rank : Int) + p) = rank + p := IntWalk.i64_in _ (by omega)
            have s2 : (0 : Int) ≤ rank + p := by omega
            have s3 : ((rank : Int) + p).toNat = rank + p := by omega
            have s4 : (rank : Int) + p < m.length := by omega
            go_cut [] (fun wx => Hid (OM wx w2.heap.size bo ((hd'.set rank (g2, k2)).set (rank + p) (g1, k1)) (swapM m' rank (rank + p))) ∧ Hid (Blk wx pb 3 [.int .i64 c]) ∧ Hid (Below w2.heap.size w2 wx))
            case first =>
              have key : OM (((wr.setCell ⟨bo, rank, none⟩ (.slice (some ⟨g2, 0, none⟩) n k2)).setCell ⟨bo, rank + p, none⟩ (.slice (some ⟨g1, 0, none⟩) n k1)).drew) w2.heap.size bo ((hd'.set rank (g2, k2)).set (rank + p) (g1, k1)) (swapM m' rank (rank + p)) ∧
                  Blk (((wr.setCell ⟨bo, rank, none⟩ (.slice (some ⟨g2, 0, none⟩) n k2)).setCell ⟨bo, rank + p, none⟩ (.slice (some ⟨g1, 0, none⟩) n k1)).drew) pb 3 [.int .i64 c] ∧
                  Below w2.heap.size w2 (((wr.setCell ⟨bo, rank, none⟩ (.slice (some ⟨g2, 0, none⟩) n k2)).setCell ⟨bo, rank + p, none⟩ (.slice (some ⟨g1, 0, none⟩) n k1)).drew) := by
                have hne : pb ≠ bo := by
                  intro e
                  have h1 := hpb.out
                  rw [e] at h1
                  exact absurd (h1.type HO.out.outer) (by decide)
                exact ⟨Hsw.out.drew, ((hpb.out.setCell_other (p := ⟨bo, rank, none⟩) hne _).setCell_other (p := ⟨bo, rank + p, none⟩) hne _).drew, ((hBw.out.setCell (p := ⟨bo, rank, none⟩) HO.out.obase _).setCell (p := ⟨bo, rank + p, none⟩) HO.out.obase _).drew⟩
              have Key := Lib.hid key
              clear key
              obtain ⟨v', hy'⟩ := cell?_setCell_some (w := wr) (p := ⟨bo, rank, none⟩) (x := .slice (some ⟨g2, 0, none⟩) n k2) (q := ⟨bo, rank + p, none⟩) (v := .slice (some ⟨g2, 0, none⟩) n k2) (by go_simp)
              go_region
              go_wp2_with fail
              go_meet
              exact ⟨Key.out.1, Key.out.2.1, Key.out.2.2⟩
            case rest =>
              obtain ⟨hO1, hpb1, hB1⟩ := hcut
              have hm1l : (swapM m' rank (rank + p)).length = m.length := by rw [swapM_length, Hlen.out]
              have hm1R : Rect n (swapM m' rank (rank + p)) := swapM_rect HRm.out (by rw [Hlen.out]; omega) (by rw [Hlen.out]; omega)
              have hhd : ((hd'.set rank (g2, k2)).set (rank + p) (g1, k1))[rank]? = some (g2, k2) := swap_first Hz1.out Hq1.out
              have hx0 : ((swapM m' rank (rank + p)).getD rank []).getD c 0 ≠ 0 := by
                rw [swapM_first (by rw [Hlen.out]; omega)]
                exact HP2.out
              have hhit := Lib.hid (show hitM m' c rank p = elimM (unitRow c ((swapM m' rank (rank + p)).getD rank [])) c rank ((swapM m' rank (rank + p)).set rank (unitRow c ((swapM m' rank (rank + p)).getD rank []))) from rfl)
              generalize swapM m' rank (rank + p) = m1 at *
              generalize ((hd'.set rank (g2, k2)).set (rank + p) (g1, k1)) = hd1 at *
              obtain ⟨⟨g, kg⟩, a1, a2, a3, a4, a5, a6, a7⟩ := hO1.out.at hm1R (i := rank) (by omega)
              have hpl := (hm1R.get (i := rank) (by omega)).1
              have hpB := (hm1R.get (i := rank) (by omega)).2
              generalize hpv0 : m1.getD rank [] = pv0 at *
              have hxl : pv0[c]? = some (pv0.getD c 0) := by rw [List.getD_eq_getElem?_getD, List.getElem?_eq_getElem (by omega)]; rfl
              have hxB := hpB.getD c
              generalize hx : pv0.getD c 0 = x at *
              have hR0 : R17 wc w2 w.heap.size bo hd1 m1 pb c := ⟨hO1.out, hpb1.out, hB1.out, HT.out, Hp2.out, by have := Hs2.out; omega⟩
              have HR0 := Lib.hid hR0
              have c1 := hR0.pp
              have c2 := hpb1.out.cell (i := 0) rfl
              have c3 : wc.cell? ⟨g, c, none⟩ = some (.int .u8 x) := by have := a5.row c x hxl; rw [Nat.zero_add] at this; exact this
              have Ha1 := Lib.hid a1
              have Hxl := Lib.hid hxl
              have Ha3 := Lib.hid a3
              have Hpv := Lib.hid (And.intro hpv0 (And.intro hx (And.intro hpl hpB)))
              have Hh := Lib.hid (And.intro hm1l (And.intro hm1R (And.intro hhd hx0)))
              unfold hv at a4
              have hpl' : pv0.length ≤ 1000 := by omega
              obtain ⟨f, hf⟩ : ∃ f, f = Gf.gi x ^^^ 1 := ⟨_, rfl⟩
              have hfB : f < 256 := by rw [hf]; exact Gf.xor_lt (Gf.gi_lt x) (by decide)
              have hxor : bits .xor .u8 (Gf.gi x : Int) 1 = (f : Int) := by rw [hf]; exact xor_u8 _ 1 (Gf.gi_lt x) (by decide)
              have Hf := Lib.hid hf
              clear hf
              clear hO1 hpb1 hB1 hm1l hm1R hhd hx0 hpv0 hx hxl hpl hpB hR0 a1 a2 a3 a5 a6 a7 HO Hsw f1 f2 z4 q4 hcpb hfpb s1 s2 s3 s4 hpb hBw Hq1 HP2
              go_wp2_with fail
              go_cut [] (fun wx => Hid (R17 wx w2 w.heap.size bo hd1 (m1.set rank (unitRow c pv0)) pb c))
              case first =>
                have hcn : c < n := by omega
                clear HR Hm1 HM2 HB2 Hs2 HT Hp2 Hlen HRm Hgk hstep HPv Hh hhit hk hlt hrN hp1' hgk1 hcols hn1 hN hc1 hc2 hd hrk hpb2
                go_region_with
                  (first
                    | (go_at_call 30; refine (Clone_n g 0 n pv0 _ _ Hpv.out.2.2.1 (by omega) (by exact (HR0.out.row Ha1.out Ha3.out))).mono ?_; rintro e wd ⟨gd, kd, rfl, d1, d2, d3, d4, d5⟩; have hRd := Lib.hid (R17.of_clone HR0.out d5); have Hd4 := Lib.hid d4; have c3d := hRd.out.cellx Ha1.out Ha3.out Hxl.out; have c1d := hRd.out.pp; have c2d := hRd.out.pb.cell (i := 0) rfl; have hgd : gd ≠ g := (by have := (HR0.out.om.lt Ha1.out).1; intro e; subst e; exact absurd (Nat.lt_of_lt_of_le this d1) (Nat.lt_irrefl _)); clear d4 d5)
                    | (go_at_call 127; refine (inv_any _ _ _ hxB (by first | exact HR0.out.tab | exact hRd.out.tab)).mono ?_; rintro e wi ⟨rfl, ni, rfl⟩)
                    | (go_at_call 143; refine ((show R17 _ w2 w.heap.size bo hd1 m1 pb c by first | exact hRd.out | exact hRd.out.drewN _).combine Ha1.out Ha3.out Hpv.out.2.2.2 Hpv.out.2.2.1 Hpv.out.2.2.1 (by omega) hfB Hpv.out.2.2.2 (by exact Hd4.out.row) hgd).mono ?_; rintro e wf ⟨rfl, hRf, _⟩; have HRf := Lib.hid hRf; clear hRf))
                all_goals
                  go_wp2_with fail
                  go_meet
                  have hr := HRf.out
                  rw [Hf.out, ← Hpv.out.2.1] at hr
                  exact hr
              case rest =>
                have hR1 := hcut
                clear HR0 hcut c1 c2 c3 a4 hxor
                have hup := Lib.hid (unitRow_ok (c := c) (And.intro Hpv.out.2.2.1 Hpv.out.2.2.2))
                generalize hup0 : unitRow c pv0 = pv at *
                have hm2l : (m1.set rank pv).length = m.length := by rw [List.length_set]; exact Hh.out.1
                have hm2R : Rect n (m1.set rank pv) := Hh.out.2.1.set hup.out rank
                have hm2r : (m1.set rank pv)[rank]? = some pv := List.getElem?_set_self (by rw [Hh.out.1]; omega)
                have hfin : hitM m' c rank p = elimM pv c rank (m1.set rank pv) := hhit.out
                generalize hm2 : m1.set rank pv = mm at *
                have Hfin := Lib.hid hfin
                have Hm2 := Lib.hid (And.intro hm2l (And.intro hm2R hm2r))
                have hpl2 : pv0.length ≤ n := by have := Hpv.out.2.2.1; omega
                have hpl3 : n ≤ pv0.length := by have := Hpv.out.2.2.1; omega
                clear hfin hm2 hup0 hm2l hm2R hm2r hhit
                go_wp2_with fail
                go_loopg [85] m.length (fun gk i wr => ∃ j : Nat, j + gk = m.length ∧ i = .int .i64 j ∧ Hid (R17 wr w2 w.heap.size bo hd1 (elimTo pv c rank mm j) pb c))
                case atStart => exact ⟨0, by omega, rfl, by have := hR1.out; rw [elimTo_zero]; exact this⟩
                case round =>
                  obtain ⟨j, hj, rfl, hRj⟩ := hrel
                  clear hR1
                  have Hj := Lib.hid hj
                  have hj1 : j ≤ m.length := by omega
                  clear hj
                  by_cases hjl : j < m.length
                  · have hmj : mm[j]? = some (mm.getD j []) := by rw [List.getD_eq_getElem?_getD, List.getElem?_eq_getElem (by rw [Hm2.out.1]; exact hjl)]; rfl
                    have hej : (elimTo pv c rank mm j)[j]? = some (mm.getD j []) := by rw [elimTo_get _ _ _ _ (by rw [Hm2.out.1]; omega) (Nat.le_refl _)]; exact hmj
                    have hER : Rect n (elimTo pv c rank mm j) := elimTo_rect hup.out.1 _ _ Hm2.out.2.1 j
                    obtain ⟨⟨g', k'⟩, a1, a2, a3, a4, a5, a6, a7⟩ := hRj.out.om.at hER (i := j) (List.getElem?_eq_some_iff.1 hej).1
                    have hrj : (elimTo pv c rank mm j).getD j [] = mm.getD j [] := by rw [List.getD_eq_getElem?_getD, hej]; rfl
                    rw [hrj] at a3 a5
                    obtain ⟨r1, r2⟩ := Hm2.out.2.1.get (i := j) (by rw [Hm2.out.1]; exact hjl)
                    have hcb := hRj.out.pb.cell (i := 0) rfl
                    by_cases hjr : j = rank
                    · have hb : ((j : Int) != (rank : Int)) = false := by rw [hjr]; simp
                      have Hjr := Lib.hid hjr
                      unfold hv at a4
                      clear hmj hej hER a1 a2 a3 a5 a6 a7 hrj r1 r2 hjr
                      go_wp2_with fail
                      go_roundg (m.length - j - 1)
                      case measure => have := Hj.out; omega
                      case rel =>
                        refine ⟨j + 1, by have := Hj.out; omega, by go_num, ?_⟩
                        have := hRj.out
                        rw [Hjr.out] at this ⊢
                        rw [elimTo_self _ _ _ _ Hm2.out.2.2]
                        exact this
                    · have hb : ((j : Int) != (rank : Int)) = true := by simp; omega
                      have hy : (mm.getD j [])[c]? = some ((mm.getD j []).getD c 0) := getD_some (by omega)
                      have hyB := r2.getD c
                      have hst := elimTo_step pv c rank mm hmj
                      unfold elimRow at hst
                      rw [if_neg hjr] at hst
                      generalize mm.getD j [] = rj at *
                      generalize hyy : rj.getD c 0 = y at *
                      have cy : wr.cell? ⟨g', c, none⟩ = some (.int .u8 y) := hRj.out.cellx a1 a3 hy
                      have hgg : g ≠ g' := by
                        intro e
                        exact hjr (hRj.out.om.inj _ _ _ _ a1 Ha1.out e.symm)
                      have Ha := Lib.hid (And.intro a1 (And.intro a3 (And.intro r1 r2)))
                      have Hst := Lib.hid hst
                      have hpvr : RowAt wr g 0 pv := (hRj.out.om.rows rank (g, kg) pv Ha1.out (elimTo_rank Hm2.out.2.2 (by rw [Hm2.out.1]; exact hj1))).1.row
                      have Hpvr := Lib.hid hpvr
                      unfold hv at a4
                      clear hmj hej hER a1 a2 a3 a5 a6 a7 hrj r1 r2 hjr hy hst hyy hpvr
                      go_wp2_with fail
                      refine (hRj.out.combine Ha.out.1 Ha.out.2.1 Ha.out.2.2.2 Ha.out.2.2.1 hup.out.1 (by omega) hyB hup.out.2 Hpvr.out hgg).mono ?_
                      rintro e wf ⟨rfl, hRf, _⟩
                      rw [Hst.out] at hRf
                      have HRf := Lib.hid hRf
                      clear hRf
                      go_wp2_with fail
                      go_roundg (m.length - j - 1)
                      case measure => have := Hj.out; omega
                      case rel => exact ⟨j + 1, by have := Hj.out; omega, by go_num, HRf.out⟩
                  · have hjm : m.length ≤ j := by omega
                    have hRe := hRj.out
                    rw [elimTo_all _ _ _ _ (by rw [Hm2.out.1]; exact hjm), ← Hfin.out] at hRe
                    have HRe := Lib.hid hRe
                    have hcb := hRe.pb.cell (i := 0) rfl
                    clear hRe
                    go_wp2_with fail
                    go_roundg (cols - c - 1)
                    case measure => have := Hgk.out; omega
                    case rel =>
                      have e1 : redTo m (c + 1) = (hitM m' c rank p, rank + 1) := by rw [hstep.out]; unfold stepR; rw [HPv.out, if_neg (by omega), Int.toNat_natCast]
                      refine ⟨c + 1, wr.heap.size, rank + 1, by have := Hgk.out; omega, rfl, by go_num, by rw [e1]; rfl, by have := Blk.new wr 3 #[.int .i64 ((c : Int) + 1)]; exact this, HRe.out.below.size, ⟨hd1, by rw [e1]; exact HRe.out.om.new ((Below.refl _ _).alloc (Nat.le_refl _) _)⟩, HRe.out.below.alloc HRe.out.below.size _⟩
        · have hfin : redTo m cols = redTo m c := by
            by_cases h1 : c < cols
            · have h2 : rank = m.length := by omega
              have := redTo_full (m := m) (c := c) (by rw [hrk.out, h2]) (cols - c)
              rw [show c + (cols - c) = cols by omega] at this
              exact this
            · rw [show cols = c by omega]
          have Hfin := Lib.hid hfin
          obtain ⟨hd', hO⟩ := hO.out
          have HO := Lib.hid hO
          clear hfin hO hgk
          have fin : OM wr w.heap.size bo hd' (redTo m cols).1 ∧ Below w.heap.size w wr := by
            rw [Hfin.out]
            have hsz : w.heap.size ≤ w2.heap.size := by have := Hs2.out; omega
            exact ⟨HO.out.base hsz, HB2.out.trans (hBw.out.mono hsz)⟩
          have Fin := Lib.hid fin
          clear fin
          by_cases h1 : c < cols
          · have h2 : ¬ rank < m.length := by omega
            clear hx
            go_wp2_with fail
            go_ret2
            exact ⟨bo, capo, hd', by rw [Hfin.out, hrk.out]; rfl, Fin.out.1, hc1, hc2, Fin.out.2⟩
          · clear hx
            go_wp2_with fail
            go_ret2
            exact ⟨bo, capo, hd', by rw [Hfin.out, hrk.out]; rfl, Fin.out.1, hc1, hc2, Fin.out.2⟩
end Go.Proofs.Ytkclmfppjhmnjaa
