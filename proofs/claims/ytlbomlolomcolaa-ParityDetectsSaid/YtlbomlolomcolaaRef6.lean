/- The contract of the reference's reduce. -/
import Derived.Test.YtlbomlolomcolaaRef5
namespace Go.Proofs.Ytlbomlolomcolaa
open Go.RowKit

set_option maxRecDepth 100000 in
set_option maxHeartbeats 8000000 in
theorem rreduce_any (bm capm bo capo n k N B : Nat) (hd0 : List (Nat × Nat)) (vs0 : List Value) (m o : List (List Nat)) (w : World) (hN : N ≤ 1000) (hN1 : 1 ≤ N) (hn : n ≤ 1000) (hk : k ≤ 1000) (h0 : RS w w B bm bo n k N hd0 vs0 m o) :
    Calls Try.prog 109 #[.slice (some ⟨bm, 0, none⟩) N capm, .slice (some ⟨bo, 0, none⟩) N capo] w fun e w' => ReduceRet w w' e B bm bo n k N (zip2 m o) := by
  have hzl := zip2_length (h0.lm.trans h0.lo.symm)
  rw [h0.lm] at hzl
  have Hzl := Lib.hid hzl
  have hstart : RC w w B bm bo n k N 0 (zip2 m o) := ⟨hd0, vs0, m, o, h0, rfl⟩
  have Hstart := Lib.hid hstart
  clear hstart hzl h0 hd0 vs0
  generalize zip2 m o = Z at *
  clear m o
  go_enter Try.func109, Try.ntmps109
  go_wp2_with fail
  go_loopg [5, 6] n (fun gk rk ci wr => ∃ c rank : Nat, c + gk = n ∧ rk = .int .i64 rank ∧ ci = .int .i64 c ∧ Hid ((redTo Z c).2 = rank) ∧ Hid (RC wr w B bm bo n k N c Z))
  case atStart => exact ⟨0, 0, by omega, rfl, rfl, rfl, Hstart.out⟩
  case round =>
    obtain ⟨c, rank, hgk, rfl, rfl, hrk, hC⟩ := hrel
    have Hgk := Lib.hid hgk
    have hc : c ≤ n := by omega
    clear hgk Hstart
    have hrN : rank ≤ N := by have := redTo_rank Z c; rw [hrk.out, Hzl.out] at this; exact this
    obtain ⟨hd, vs, M, O, hS, hz⟩ := hC.out
    have HS := Lib.hid hS
    obtain ⟨g0, cg0, _, _, z4, _⟩ := hS.atM (i := 0) (by omega)
    by_cases hx : c < n ∧ rank < N
    · obtain ⟨hc1, hr1⟩ := hx
      have hstep := Lib.hid (show redTo Z (c + 1) = stepR c (zip2 M O, rank) by rw [show redTo Z (c + 1) = stepR c (redTo Z c) from rfl, hz, ← hrk.out])
      clear hz hS hC
      obtain ⟨wr0, rfl⟩ : ∃ wr0 : World, wr0 = wr := ⟨_, rfl⟩
      go_wp2_with fail
      go_loopg [7] N (fun gk p wx => ∃ q : Nat, N - q ≤ gk ∧ q ≤ N ∧ rank ≤ q ∧ p = .int .i64 q ∧ Hid (∀ j, rank ≤ j → j < q → (M.getD j []).getD c 0 = 0) ∧ wr0 = wx)
      case atStart => exact ⟨rank, by omega, hrN, Nat.le_refl _, rfl, fun j h1 h2 => by omega, rfl⟩
      case round =>
        obtain ⟨q, hgq, hq, hq1, rfl, hzq, rfl⟩ := hrel
        have Hgq := Lib.hid hgq
        clear hgq
        by_cases hqN : q < N
        · obtain ⟨gq, cq, a1, a2, a3, a4, a5, a6, a7⟩ := HS.out.atM hqN
          have hxl : (M.getD q [])[c]? = some ((M.getD q []).getD c 0) := getD_some (by omega)
          have hxB := a6.getD c
          have hcx : wr0.cell? ⟨gq, c, none⟩ = some (.int .u8 ((M.getD q []).getD c 0)) := by have := a4.row c _ hxl; rw [Nat.zero_add] at this; exact this
          by_cases hx0 : (M.getD q []).getD c 0 = 0
          · have hb : (((M.getD q []).getD c 0 : Int) == 0) = true := by rw [hx0]; rfl
            have hzn : ∀ j, rank ≤ j → j < q + 1 → (M.getD j []).getD c 0 = 0 := by
              intro j h1 h2
              by_cases hjq : j = q
              · rw [hjq]; exact hx0
              · exact hzq.out j h1 (by omega)
            have Hzn := Lib.hid hzn
            clear hx0 hxl a1 a2 a4 a5 a6 hzn
            generalize (M.getD q []).getD c 0 = x at *
            go_wp2_with fail
            go_roundg (N - q - 1)
            case measure => have := Hgq.out; omega
            case rel => exact ⟨q + 1, by omega, by omega, by omega, by go_num, Hzn.out, rfl⟩
          · have hb : (((M.getD q []).getD c 0 : Int) == 0) = false := by rw [beq_eq_false_iff_ne]; omega
            have hpv := pivot_hit hq1 (by rw [HS.out.lm]; exact hqN) hx0 hzq.out
            have hpz : pivotAt (zip2 M O) c rank = ((q - rank : Nat) : Int) := by rw [pivotAt_zip2 HS.out.rm (HS.out.lm.trans HS.out.lo.symm) hc1]; exact hpv
            have Hpz := Lib.hid hpz
            have Hx0 := Lib.hid hx0
            have hbq : ((q : Int) == (N : Int)) = false := by rw [beq_eq_false_iff_ne]; omega
            obtain ⟨gr, cr, b1, b2, b3, b4, b5, b6, b7⟩ := HS.out.atM hr1
            have hsw := Lib.hid (HS.out.swapM hqN hr1 a1 b1)
            clear hx0 hxl a1 a2 a4 a5 a6 b1 b2 b4 b5 b6 hpv hpz
            generalize hxx : (M.getD q []).getD c 0 = x at *
            have Hxx := Lib.hid hxx
            clear hxx
            have qi : (q : Int) < N := by omega
            have qi0 : (0 : Int) ≤ q := by omega
            have ri : (rank : Int) < N := by omega
            have ri0 : (0 : Int) ≤ rank := by omega
            go_wp2_with fail
            go_cut [] (fun wx => Hid (∃ hd', RS wx w B bm bo n k N hd' vs (swapM M q rank) O))
            case first =>
              obtain ⟨v', hy'⟩ := cell?_setCell_some (w := wr0) (p := ⟨bm, q, none⟩) (x := .slice (some ⟨gr, 0, none⟩) n cr) (q := ⟨bm, rank, none⟩) (v := .slice (some ⟨gr, 0, none⟩) n cr) (by go_simp)
              go_region
              go_wp2_with fail
              go_meet
              exact ⟨_, hsw.out.drewN 1⟩
            case rest =>
              obtain ⟨hd1, hS1⟩ := hcut.out
              have HS1 := Lib.hid hS1
              obtain ⟨aq, caq, u1, u2, u3, u4, u5, u6, u7⟩ := hS1.atO hqN
              obtain ⟨ar, car, v1, v2, v3, v4, v5, v6, v7⟩ := hS1.atO hr1
              have hsw2 := Lib.hid (hS1.swapO hqN hr1 u1 v1)
              clear hcut hS1 u1 u2 u4 u5 u6 v1 v2 v4 v5 v6 a3 a7 b3 b7 hcx z4 hsw hb
              go_wp2_with fail
              obtain ⟨w1, rfl⟩ : ∃ w1 : World, w1 = wc := ⟨_, rfl⟩
              go_cut [] (fun wx => Hid (∃ vs', RS wx w B bm bo n k N hd1 vs' (swapM M q rank) (swapM O q rank)))
              case first =>
                obtain ⟨v', hy'⟩ := cell?_setCell_some (w := w1) (p := ⟨bo, q, none⟩) (x := .slice ar k car) (q := ⟨bo, rank, none⟩) (v := .slice ar k car) (by go_simp)
                go_region
                go_wp2_with fail
                go_meet
                exact ⟨_, hsw2.out.drewN 1⟩
              case rest =>
                obtain ⟨vs2, hS2⟩ := hcut.out
                clear hcut hsw2 u3 u7 v3 v7 HS1
                have hswc : swapM M q rank = swapM M rank (rank + (q - rank)) := by rw [swapM_comm, show rank + (q - rank) = q by omega]
                have hswo : swapM O q rank = swapM O rank (rank + (q - rank)) := by rw [swapM_comm, show rank + (q - rank) = q by omega]
                have hxr : ((swapM M rank (rank + (q - rank))).getD rank []).getD c 0 = x := by rw [swapM_first (by rw [HS.out.lm]; omega), show rank + (q - rank) = q by omega]; exact Hxx.out
                have hhit := hitM_zip2 HS.out.rm HS.out.ro (HS.out.lm.trans HS.out.lo.symm) hc1 (p := q - rank) (rank := rank) (by rw [HS.out.lm]; omega) (x := Gf.gi x) (by rw [hxr])
                rw [hswc, hswo] at hS2
                generalize swapM M rank (rank + (q - rank)) = M1 at *
                generalize swapM O rank (rank + (q - rank)) = O1 at *
                have Hhit := Lib.hid hhit
                obtain ⟨g, cg, c1, c2, c3, c4, c5, c6, c7⟩ := hS2.atM hr1
                have hxl : (M1.getD rank [])[c]? = some x := by rw [← hxr]; exact getD_some (by omega)
                have hcx : wc.cell? ⟨g, c, none⟩ = some (.int .u8 x) := by have := c4.row c _ hxl; rw [Nat.zero_add] at this; exact this
                have HS2 := Lib.hid hS2
                have Hc1 := Lib.hid c1
                have hgx := Gf.gi_lt x
                have Hxne := Lib.hid (show x ≠ 0 from Hx0.out)
                clear hhit hswc hswo hxr hS2 c1 c2 c4 c5 c6 c7 hxl Hxx Hx0 HS
                go_wp2_with fail
                refine (rInv_any x _ hxB).mono ?_
                rintro e w3 ⟨rfl, rfl⟩
                rw [Gf.gi0_ne Hxne.out, Gf.ge0_ne Hxne.out]
                go_wp2_with fail
                refine (HS2.out.scaleM hr1 (by omega) hgx Hc1.out).mono ?_
                rintro e w4 ⟨rfl, hS4⟩
                obtain ⟨ap, cap2, d1, d2, d3, d4, d5, d6, d7⟩ := hS4.atO hr1
                have HS4 := Lib.hid hS4
                have Hd1 := Lib.hid d1
                clear hS4 d1 d2 d4 d5 d6 d7 HS2 c3 hcx
                go_wp2_with fail
                refine (HS4.out.scaleO hr1 (by omega) hgx Hd1.out).mono ?_
                rintro e w5 ⟨rfl, hS5⟩
                have hMl := hS5.lm
                have hOl := hS5.lo
                have hpvg : (M1.set rank (scaleRow (Gf.gi x) (M1.getD rank [])))[rank]? = some (scaleRow (Gf.gi x) (M1.getD rank [])) := List.getElem?_set_self (by rw [List.length_set] at hMl; omega)
                have hqvg : (O1.set rank (scaleRow (Gf.gi x) (O1.getD rank [])))[rank]? = some (scaleRow (Gf.gi x) (O1.getD rank [])) := List.getElem?_set_self (by rw [List.length_set] at hOl; omega)
                have hfin : hitM (zip2 M O) c rank (q - rank) = zip2 (elimM (scaleRow (Gf.gi x) (M1.getD rank [])) c rank (M1.set rank (scaleRow (Gf.gi x) (M1.getD rank [])))) (elimO (M1.set rank (scaleRow (Gf.gi x) (M1.getD rank []))) (scaleRow (Gf.gi x) (O1.getD rank [])) c rank (O1.set rank (scaleRow (Gf.gi x) (O1.getD rank [])))) := Hhit.out
                have hpvl := hS5.rm _ (List.mem_of_getElem? hpvg)
                have hqvl := hS5.ro _ (List.mem_of_getElem? hqvg)
                generalize scaleRow (Gf.gi x) (M1.getD rank []) = pv at *
                generalize scaleRow (Gf.gi x) (O1.getD rank []) = qv at *
                generalize M1.set rank pv = M2 at *
                generalize O1.set rank qv = O2 at *
                have HS5 := Lib.hid hS5
                have Hfin := Lib.hid hfin
                have Hpq := Lib.hid (And.intro hpvg (And.intro hqvg (And.intro hpvl (And.intro hqvl (And.intro hMl (And.intro hOl (And.intro hS5.rm hS5.ro)))))))
                clear hS5 hfin hpvg hqvg hpvl hqvl hMl hOl HS4 Hhit d3 Hd1 Hxne
                go_wp2_with fail
                go_loopg [10] N (fun gk i wx => ∃ j : Nat, j + gk = N ∧ i = .int .i64 j ∧ Hid (RS wx w B bm bo n k N hd1 vs2 (mapTo (elimRow pv c rank) M2 j) (mapTo (elimRowO M2 qv c rank) O2 j)))
                case atStart => exact ⟨0, by omega, rfl, by rw [mapTo_zero, mapTo_zero]; exact HS5.out⟩
                case round =>
                  obtain ⟨j, hgj, rfl, hSj⟩ := hrel
                  have Hgj := Lib.hid hgj
                  have hj : j ≤ N := by omega
                  clear hgj HS5
                  by_cases hjN : j < N
                  · obtain ⟨P1, P2, P3, P4, P5, P6, P7, P8⟩ := Hpq.out
                    have hmj : M2[j]? = some (M2.getD j []) := getD_some (by omega)
                    have hoj : O2[j]? = some (O2.getD j []) := getD_some (by omega)
                    by_cases hjr : j = rank
                    · have hbj : ((j : Int) != (rank : Int)) = false := by rw [hjr]; simp
                      have hSn : RS wr w B bm bo n k N hd1 vs2 (mapTo (elimRow pv c rank) M2 (j + 1)) (mapTo (elimRowO M2 qv c rank) O2 (j + 1)) := by
                        have hf1 : elimRow pv c rank j (M2.getD j []) = M2.getD j [] := by unfold elimRow; rw [if_pos hjr]
                        have hf2 : elimRowO M2 qv c rank j (O2.getD j []) = O2.getD j [] := by unfold elimRowO; rw [if_pos hjr]
                        rw [mapTo_fix _ _ hmj hf1, mapTo_fix _ _ hoj hf2]; exact hSj.out
                      have HSn := Lib.hid hSn
                      clear hSn hjr hmj hoj P1 P2 P3 P4 P5 P6 P7 P8
                      go_wp2_with fail
                      go_roundg (N - j - 1)
                      case measure => have := Hgj.out; omega
                      case rel => exact ⟨j + 1, by have := Hgj.out; omega, by go_num, HSn.out⟩
                    · have hbj : ((j : Int) != (rank : Int)) = true := by rw [bne_iff_ne]; omega
                      have k1 : (mapTo (elimRow pv c rank) M2 j).getD j [] = M2.getD j [] := getD_get (by rw [mapTo_get _ _ (by omega) (Nat.le_refl _)]; exact hmj)
                      have k2 : (mapTo (elimRow pv c rank) M2 j).getD rank [] = pv := getD_get (mapTo_keep _ _ (by omega) P1 (by unfold elimRow; rw [if_pos rfl]))
                      have k3 : (mapTo (elimRowO M2 qv c rank) O2 j).getD j [] = O2.getD j [] := getD_get (by rw [mapTo_get _ _ (by omega) (Nat.le_refl _)]; exact hoj)
                      have k4 : (mapTo (elimRowO M2 qv c rank) O2 j).getD rank [] = qv := getD_get (mapTo_keep _ _ (by omega) P2 (by unfold elimRowO; rw [if_pos rfl]))
                      have s1 : (mapTo (elimRow pv c rank) M2 j).set j (addMul ((M2.getD j []).getD c 0) (M2.getD j []) pv) = mapTo (elimRow pv c rank) M2 (j + 1) := by
                        rw [← mapTo_step _ _ hmj]; congr 1; unfold elimRow; rw [if_neg hjr]
                      have s2 : (mapTo (elimRowO M2 qv c rank) O2 j).set j (addMul ((M2.getD j []).getD c 0) (O2.getD j []) qv) = mapTo (elimRowO M2 qv c rank) O2 (j + 1) := by
                        rw [← mapTo_step _ _ hoj]; congr 1; unfold elimRowO; rw [if_neg hjr]
                      obtain ⟨gj, cj, a1, a2, a3, a4, a5, a6, a7⟩ := hSj.out.atM hjN
                      rw [k1] at a4 a5 a6
                      obtain ⟨g', cg', b1, b2, b3, b4, b5, b6, b7⟩ := hSj.out.atM hr1
                      have hyl : (M2.getD j [])[c]? = some ((M2.getD j []).getD c 0) := getD_some (by omega)
                      have hyB := a6.getD c
                      have hcy : wr.cell? ⟨gj, c, none⟩ = some (.int .u8 ((M2.getD j []).getD c 0)) := by have := a4.row c _ hyl; rw [Nat.zero_add] at this; exact this
                      generalize (M2.getD j []).getD c 0 = y at *
                      have hSub : ∀ q, Calls Try.prog 124 #[.slice (some ⟨g', 0, none⟩) n cg', .slice (some ⟨gj, 0, none⟩) n cj, .int .u8 y] (wr.drewN q) fun e w' => e = .returned (.tuple #[]) ∧ RS w' w B bm bo n k N hd1 vs2 (mapTo (elimRow pv c rank) M2 (j + 1)) (mapTo (elimRowO M2 qv c rank) O2 j) := by
                        intro q
                        have := (hSj.out.drewN q).subM (y := y) hr1 hjN hjr (by omega) hyB b1 a1
                        rw [k1, k2, s1] at this
                        exact this
                      have HSub := Lib.hid hSub
                      have hK : ∀ wx, RS wx w B bm bo n k N hd1 vs2 (mapTo (elimRow pv c rank) M2 (j + 1)) (mapTo (elimRowO M2 qv c rank) O2 j) → ∃ vr vj cr cj', wx.cell? ⟨bo, rank, none⟩ = some (.slice vr k cr) ∧ wx.cell? ⟨bo, j, none⟩ = some (.slice vj k cj') ∧
                          ∀ q, Calls Try.prog 124 #[.slice vr k cr, .slice vj k cj', .int .u8 y] (wx.drewN q) fun e w' => e = .returned (.tuple #[]) ∧ RS w' w B bm bo n k N hd1 vs2 (mapTo (elimRow pv c rank) M2 (j + 1)) (mapTo (elimRowO M2 qv c rank) O2 (j + 1)) := by
                        intro wx hx
                        obtain ⟨vr, cr, u1, u2, u3, _⟩ := hx.atO hr1
                        obtain ⟨vj, cj', v1, v2, v3, _⟩ := hx.atO hjN
                        refine ⟨vr, vj, cr, cj', u3, v3, fun q => ?_⟩
                        have := (hx.drewN q).subO (y := y) hr1 hjN hjr (by omega) hyB u1 v1
                        rw [k3, k4, s2] at this
                        exact this
                      have HK := Lib.hid hK
                      have ji : (j : Int) < N := by omega
                      have ji0 : (0 : Int) ≤ j := by omega
                      have ri : (rank : Int) < N := by omega
                      have ri0 : (0 : Int) ≤ rank := by omega
                      clear hSub hK k1 k2 k3 k4 s1 s2 hmj hoj P1 P2 P3 P4 P5 P6 P7 P8 a1 a2 a4 a5 a6 a7 b1 b2 b4 b5 b6 b7 hyl hjr
                      go_wp2_with fail
                      go_cut [] (fun wx => Hid (RS wx w B bm bo n k N hd1 vs2 (mapTo (elimRow pv c rank) M2 (j + 1)) (mapTo (elimRowO M2 qv c rank) O2 j)))
                      case first =>
                        go_region_with (go_at_call 124; refine (HSub.out 1).mono ?_; rintro e wf ⟨rfl, hRf⟩; have HRf := Lib.hid hRf; clear hRf)
                        all_goals
                          go_wp2_with fail
                          go_meet
                          exact HRf.out
                      case rest =>
                        obtain ⟨vr, vj, cr, cj', x3, y3, hcall⟩ := HK.out wc hcut.out
                        have Hcall := Lib.hid hcall
                        clear hcall hcut HK HSub a3 b3 hcy
                        go_wp2_with fail
                        go_region_with (go_at_call 124; refine (Hcall.out 1).mono ?_; rintro e wf ⟨rfl, hRf⟩; have HRf := Lib.hid hRf; clear hRf)
                        all_goals
                          go_wp2_with fail
                          go_roundg (N - j - 1)
                          case measure => have := Hgj.out; omega
                          case rel => exact ⟨j + 1, by have := Hgj.out; omega, by go_num, HRf.out⟩
                  · have hSe := hSj.out
                    rw [mapTo_all _ _ (by rw [Hpq.out.2.2.2.2.1]; omega), mapTo_all _ _ (by rw [Hpq.out.2.2.2.2.2.1]; omega)] at hSe
                    have e1 : redTo Z (c + 1) = (hitM (zip2 M O) c rank (q - rank), rank + 1) := by rw [hstep.out]; unfold stepR; rw [Hpz.out, if_neg (by omega), Int.toNat_natCast]
                    have hRC : RC wr w B bm bo n k N (c + 1) Z := ⟨_, _, _, _, hSe, by rw [e1, Hfin.out]; rfl⟩
                    have HRC := Lib.hid hRC
                    have He1 := Lib.hid e1
                    clear hSe hRC e1
                    go_wp2_with fail
                    go_roundg (n - c - 1)
                    case measure => have := Hgk.out; omega
                    case rel => exact ⟨c + 1, rank + 1, by have := Hgk.out; omega, by go_num, by go_num, by rw [He1.out]; rfl, HRC.out⟩
        · have e1 : redTo Z (c + 1) = (zip2 M O, rank) := by
            rw [hstep.out]; unfold stepR
            rw [pivotAt_zip2 HS.out.rm (HS.out.lm.trans HS.out.lo.symm) hc1, pivot_none (fun j h1 h2 => hzq.out j h1 (by rw [HS.out.lm] at h2; omega)), if_pos (by decide)]
          have hRC : RC wr0 w B bm bo n k N (c + 1) Z := ⟨_, _, _, _, HS.out, by rw [e1]⟩
          have HRC := Lib.hid hRC
          have He1 := Lib.hid e1
          have hbq : ((q : Int) == (N : Int)) = true := by rw [beq_iff_eq]; omega
          clear hRC e1
          go_wp2_with fail
          go_roundg (n - c - 1)
          case measure => have := Hgk.out; omega
          case rel => exact ⟨c + 1, rank, by have := Hgk.out; omega, rfl, by go_num, by rw [He1.out]; rfl, HRC.out⟩
    · have hfin : redTo Z n = redTo Z c := by
        by_cases h1 : c < n
        · have h2 : rank = N := by omega
          have := redTo_full (m := Z) (c := c) (by rw [hrk.out, h2, Hzl.out]) (n - c)
          rw [show c + (n - c) = n by omega] at this
          exact this
        · rw [show n = c by omega]
      have Hfin : Hid (ReduceRet w wr (.returned (.int .i64 rank)) B bm bo n k N Z) := ⟨by rw [hfin, hrk.out], hd, vs, M, O, hS, by rw [hfin]; exact hz⟩
      clear hfin hS hz
      by_cases h1 : c < n
      · have h2 : ¬ rank < N := by omega
        clear hx
        go_wp2_with fail
        go_ret
        exact Hfin.out
      · clear hx
        go_wp2_with fail
        go_ret
        exact Hfin.out
end Go.Proofs.Ytlbomlolomcolaa
