/- The contract of the reference's Recovery of chapter 54. -/
import Derived.Test.YtlbomlolomcolaaRefP2
import Derived.Test.YtlbomlolomcolaaPar6
import Derived.Deep.QuietTactic
import Derived.BigQuiet
namespace Go.Proofs.Ytlbomlolomcolaa
open Go.RowKit

set_option maxRecDepth 100000 in
set_option maxHeartbeats 8000000 in
theorem rRecovery_loop (b o cap L r : Nat) (data : List (List Nat)) (A : Nat → Option Addr) (C : Nat → Nat) (w : World) (hcap : data.length ≤ cap) (hM : MxAt w b o data A C) (h1 : 1 ≤ data.length) (h2 : data.length + r ≤ 64) (hL0 : plen data 0 = L) (hLm : ∀ j, j < data.length → plen data j ≤ maxLen) (hBy : BytM data) :
    Calls Try.prog 22 #[.slice (some ⟨b, o, none⟩) data.length cap, .int .i64 r] w (RowsErr (recRows data r) (recErr data r) w) := by
  obtain ⟨j0, gi, gz0, gz1, gz2⟩ := info_parts infoBytes
  have HM := Lib.hid hM
  have HL0 := Lib.hid hL0
  have HLm := Lib.hid hLm
  have HBy := Lib.hid hBy
  have HE0 := Lib.hid (show recErr data r = if longB data then 5 else if badB data then 23 else 0 by unfold recErr; rw [if_neg (by omega)])
  have t1 : decide ((data.length : Int) < 1) = false := by simp; omega
  have t2 : decide ((64 : Int) < (data.length : Int)) = false := by simp; omega
  have t3 : decide ((r : Int) < 0) = false := by simp
  have t4 : decide ((64 : Int) - (data.length : Int) < (r : Int)) = false := by simp; omega
  clear hM hL0 hLm hBy
  go_enter Try.func22, Try.ntmps22
  go_wp2_with fail
  go_loopg [6] data.length (fun gk i wr => ∃ k : Nat, k + gk = data.length ∧ i = .int .i64 k ∧ Hid (∀ i, i < k → plen data i ≤ 65536) ∧ w = wr)
  case atStart => exact ⟨0, by omega, rfl, fun i hi => by omega, rfl⟩
  case round =>
    obtain ⟨k, hgk, rfl, hag, rfl⟩ := hrel
    have Hgk := Lib.hid hgk
    have hk : k ≤ data.length := by omega
    clear hgk
    by_cases hlt : k < data.length
    · have p1 : w.cell? ⟨b, o + k, none⟩ = some (.slice (A k) (plen data k) (C k)) := (HM.out k _ (getD_some (d := []) hlt)).1
      have hxm := HLm.out k hlt
      unfold maxLen at hxm
      by_cases x1 : 65536 < plen data k
      · have hr := Lib.hid (show recErr data r = 5 by rw [HE0.out, if_pos]; unfold longB; rw [List.any_eq_true]; exact ⟨k, List.mem_range.2 hlt, decide_eq_true x1⟩)
        have hr2 := Lib.hid (show recRows data r = [] by unfold recRows; rw [hr.out]; rfl)
        generalize plen data k = x at *
        clear hag
        go_wp2_with fail
        go_ret2
        exact ⟨.slice none 0 0, [], by rw [hr.out]; rfl, by rw [hr2.out]; exact GM.nil _ _, Below.refl _ _⟩
      · have hs : Hid (∀ i, i < k + 1 → plen data i ≤ 65536) := by
          intro i hi
          by_cases hik : i = k
          · rw [hik]; omega
          · exact hag.out i (by omega)
        generalize plen data k = x at p1 x1 hxm
        have x2 : x ≤ 65536 := by omega
        clear hag x1
        go_wp2_with fail
        go_roundg (data.length - k - 1)
        case measure => have := Hgk.out; omega
        case rel => exact ⟨k + 1, by have := Hgk.out; omega, by go_num, hs.out, rfl⟩
    · have hlong : longB data = false := by
        unfold longB
        rw [List.any_eq_false]
        intro i hi
        have := hag.out i (by have := List.mem_range.1 hi; omega)
        simp; omega
      have hE1 := HE0.out
      rw [hlong, if_neg (by simp)] at hE1
      have HE1 := Lib.hid hE1
      have Hlong := Lib.hid hlong
      have Hag := Lib.hid hag.out
      have p0 : w.cell? ⟨b, o, none⟩ = some (.slice (A 0) L (C 0)) := by rw [← HL0.out]; exact (HM.out 0 _ (getD_some (d := []) (by omega))).1
      have hL2 : L ≤ 65536 := by rw [← HL0.out]; exact Hag.out 0 (by omega)
      clear hlong hE1 hag HE0
      go_wp2_with fail
      go_loopg [7] data.length (fun gk i wr => ∃ k : Nat, k + gk = data.length ∧ i = .int .i64 k ∧ Hid (∀ i, i < k → ¬ (plen data i = 0 ∨ plen data i ≠ plen data 0)) ∧ Hid (Below w.heap.size w wr))
      case atStart => exact ⟨0, by omega, rfl, fun i hi => by omega, Below.refl _ _⟩
      case round =>
        obtain ⟨q, hgq, rfl, hag, hwr⟩ := hrel
        have Hgq := Lib.hid hgq
        have hq : q ≤ data.length := by omega
        clear hgq
        by_cases hltq : q < data.length
        · have p1 : wr.cell? ⟨b, o + q, none⟩ = some (.slice (A q) (plen data q) (C q)) := ((HM.out.new hwr.out) q _ (getD_some (d := []) hltq)).1
          have p0' : wr.cell? ⟨b, o, none⟩ = some (.slice (A 0) L (C 0)) := by rw [← HL0.out]; exact ((HM.out.new hwr.out) 0 _ (getD_some (d := []) (by omega))).1
          have hxm := Hag.out q (by omega)
          have i1 : (0 : Int) ≤ (q : Int) := by omega
          have i2 : (q : Int) < (data.length : Int) := by omega
          have i3 : (0 : Int) < (data.length : Int) := by omega
          have Hwr := Lib.hid hwr.out
          by_cases x1 : plen data q = 0 ∨ plen data q ≠ plen data 0
          · have hr := Lib.hid (show recErr data r = 23 by rw [HE1.out, if_pos]; unfold badB; rw [List.any_eq_true]; exact ⟨q, List.mem_range.2 hltq, decide_eq_true x1⟩)
            have hr2 := Lib.hid (show recRows data r = [] by unfold recRows; rw [hr.out]; rfl)
            rw [HL0.out] at x1
            generalize plen data q = x at p1 x1 hxm
            clear hag hwr
            by_cases x0 : x = 0
            · have x3 : ((x : Int) == 0) = true := by rw [beq_iff_eq]; omega
              clear x1 x0
              go_wp2_with fail
              go_quiet (fail)
              go_wp2_with fail
              go_ret2
              exact ⟨.slice none 0 0, [], by rw [hr.out]; rfl, by rw [hr2.out]; exact GM.nil _ _, below_drewN Hwr.out _⟩
            · have x3 : ((x : Int) == 0) = false := by rw [beq_eq_false_iff_ne]; omega
              have x4 : ((x : Int) != (L : Int)) = true := by rw [bne_iff_ne]; omega
              clear x1 x0
              go_wp2_with fail
              go_quiet (fail)
              go_wp2_with fail
              go_ret2
              exact ⟨.slice none 0 0, [], by rw [hr.out]; rfl, by rw [hr2.out]; exact GM.nil _ _, below_drewN Hwr.out _⟩
          · have hs : Hid (∀ i, i < q + 1 → ¬ (plen data i = 0 ∨ plen data i ≠ plen data 0)) := by
              intro i hi
              by_cases hik : i = q
              · rw [hik]; exact x1
              · exact hag.out i (by omega)
            rw [HL0.out] at x1
            generalize plen data q = x at p1 x1 hxm
            have x3 : ((x : Int) == 0) = false := by rw [beq_eq_false_iff_ne]; omega
            have x4 : ((x : Int) != (L : Int)) = false := by rw [bne_eq_false_iff_eq]; omega
            clear x1 hag hwr
            go_wp2_with fail
            go_quiet (fail)
            go_wp2_with fail
            go_roundg (data.length - q - 1)
            case measure => have := Hgq.out; omega
            case rel => exact ⟨q + 1, by have := Hgq.out; omega, by go_num, hs.out, below_drewN Hwr.out _⟩
        · have hbad : badB data = false := by
            unfold badB
            rw [List.any_eq_false]
            intro i hi
            have := hag.out i (by have := List.mem_range.1 hi; omega)
            simpa using this
          obtain ⟨hR, hL1, _⟩ := badB_rect HBy.out hbad Hlong.out h1
          rw [HL0.out] at hR hL1
          have hr := Lib.hid (show recErr data r = 0 by rw [HE1.out, if_neg (by rw [hbad]; simp)])
          have hr2 := Lib.hid (show recRows data r = prodM (cauM r data.length) data by unfold recRows; rw [hr.out]; rfl)
          have HR := Lib.hid hR
          have Hwr := Lib.hid hwr.out
          obtain ⟨w2, rfl⟩ : ∃ w2 : World, w2 = wr := ⟨_, rfl⟩
          have hz2 := hwr.out.size
          clear hbad hR hag hwr p0
          go_wp2_with fail
          refine (rRows_any data.length r _ h1 h2).mono ?_
          rintro e w3 ⟨vr, hd, rfl, hG, hB3⟩
          obtain ⟨bo, co, hvr, hco, _, hO⟩ := hG.done (by intro h; have := rowsM_length data.length r; rw [h] at this; simp at this; omega)
          rw [rowsM_length] at hvr hco
          subst hvr
          have HO := Lib.hid hO
          have HB3 := Lib.hid hB3
          have HB03 := Lib.hid (Hwr.out.trans (hB3.mono hz2))
          have HMr := Lib.hid (HM.out.new HB03.out)
          have hz3 := hB3.size
          clear hG hO hB3
          go_wp2_with fail
          go_loopg [9, 10] r (fun gk v i wr => ∃ k : Nat, k + gk = r ∧ i = .int .i64 k ∧ Hid (∃ hd', GM wr w3.heap.size v hd' ((prodM (cauM r data.length) data).take k)) ∧ Hid (Below w3.heap.size w3 wr))
          case atStart => exact ⟨0, by omega, rfl, ⟨[], GM.nil _ _⟩, Below.refl _ _⟩
          case round =>
            obtain ⟨k', hgk, rfl, hG, hB⟩ := hrel
            have Hgk' := Lib.hid hgk
            have hk' : k' ≤ r := by omega
            clear hgk
            by_cases hltk : k' < r
            · obtain ⟨hd', hG⟩ := hG.out
              have hrg := rows_get (d := data.length) hltk
              obtain ⟨p, hp⟩ : ∃ p, hd[data.length + k']? = some p := ⟨hd.getD (data.length + k') (0, 0), getD_some (by rw [HO.out.len, rowsM_length]; omega)⟩
              have hpc := (HO.out.outer.below hB.out HO.out.outer.lt).cell (hvs_get hp hrg)
              obtain ⟨hpb, _, hpl⟩ := HO.out.rows _ p _ hp hrg
              rw [cauRow_length] at hpl hpc
              unfold hv at hpc
              have Hrow := Lib.hid (hpb.below hB.out hpb.lt).row
              have HMx := Lib.hid (HMr.out.new hB.out)
              have htk := Lib.hid (prodM_take (b := data) (show (cauM r data.length)[k']? = some (cauRow r data.length k') by simp [cauM, hltk]))
              have HG := Lib.hid hG
              have HBr := Lib.hid hB.out
              have hzz : w3.heap.size ≤ wr.heap.size := hB.out.size
              clear hG hB hrg hp hpb
              go_wp2_with fail
              refine (combined_any p.1 0 p.2 b o cap L data.length data.length (cauRow r data.length k') data A C wr (cauRow_length _ _ _) rfl Hrow.out HMx.out hcap HR.out rfl h1 (by omega) (by omega) hL1 (cauRow_byt _ _ _)).mono ?_
              rintro e w5 ⟨g, cg, rfl, g1, g2, g3, hblk, hB5⟩
              have Hlk := Lib.hid (show ((prodM (cauM r data.length) data).take k').length = k' by rw [List.length_take, prodM_length, cauM_length]; omega)
              have hL0' : (data.getD 0 []).length = L := HL0.out
              rw [hL0'] at htk
              generalize prTo (cauRow r data.length k') data L data.length = pr at *
              have Hblk := Lib.hid hblk
              have HB5 := Lib.hid hB5
              have HGo := Lib.hid ((HG.out.new hB5).outer)
              have Hg2 := Lib.hid g2
              have hz5 := hB5.size
              clear hblk hB5 g2 g3 hL0'
              go_wp2_with (at_builtin; refine wpList_append_own _ rfl _ _ 39 rfl w3.heap.size 26 j0 (.slice none 0 0) 1 24 Try.underlying39 gi gz0 gz1 gz2 rfl (by decide) _ _ _ rfl (HGo.out.alloc _) ⟨w5.heap.size, 0, none⟩ 1 1 [hv pr.length (g, cg)] rfl rfl ?d1 ?d2 ?d3 ?d4 ?d5 ?_)
              case d1 => exact cell_one_new _ _ _
              case d2 => intro u hu; simp only [List.mem_cons, List.not_mem_nil, or_false] at hu; subst hu; rfl
              case d3 => rw [Hlk.out]; unfold maxLen; omega
              case d4 => rw [Hlk.out]; omega
              case d5 => simp; omega
              intro v' w7 hown hgr _
              have hG7 := HG.out.snoc HB5.out (p := (g, cg)) (r := pr) Hblk.out g1 HBr.out.size Hg2.out (by rw [Hlk.out]; simpa [prodM_length, cauM_length, Nat.min_eq_left hk'] using hown) (by simpa using hgr)
              rw [← htk.out] at hG7
              have hB7 : Below w3.heap.size w3 w7 := ((HBr.out.trans (HB5.out.mono HBr.out.size)).alloc (by omega) _).grown hgr (by simp; omega) (fun q hq => (owns_block HG.out.outer hq).2.1)
              have HG7 := Lib.hid hG7
              have HB7 := Lib.hid hB7
              clear hown hgr hG7 hB7
              go_wp2_with fail
              go_roundg (r - k' - 1)
              case measure => have := Hgk'.out; omega
              case rel => exact ⟨k' + 1, by have := Hgk'.out; omega, by go_num, ⟨_, HG7.out⟩, HB7.out⟩
            · have hkn : (prodM (cauM r data.length) data).take k' = prodM (cauM r data.length) data := List.take_of_length_le (by rw [prodM_length, cauM_length]; omega)
              obtain ⟨hd', hG⟩ := hG.out
              rw [hkn] at hG
              have HG := Lib.hid hG
              have HBr := Lib.hid hB.out
              clear hG hkn hB
              go_wp2_with fail
              go_ret2
              have hss : w.heap.size ≤ w3.heap.size := HB03.out.size
              exact ⟨_, hd', by rw [hr.out]; rfl, by rw [hr2.out]; exact HG.out.base hss, HB03.out.trans (HBr.out.mono hss)⟩

set_option maxRecDepth 100000 in
set_option maxHeartbeats 4000000 in
theorem rRecovery_any (v : Value) (data : List (List Nat)) (count : Int) (w : World) (hn : data.length ≤ 1000000000) (hLm : ∀ j, j < data.length → plen data j ≤ maxLen) (hBy : BytM data) (hm : Mx w v data) (hd1 : -9223372036854775808 ≤ count) (hd2 : count ≤ 9223372036854775807) :
    Calls Try.prog 22 #[v, .int .i64 count] w (RowsErr (recRows data count) (recErr data count) w) := by
  obtain ⟨a, cap, rfl, hcap, h⟩ := hm
  by_cases hc : data.length < 1 ∨ 64 < data.length ∨ count < 0 ∨ 64 - (data.length : Int) < count
  · have e1 : recErr data count = 6 := by unfold recErr; rw [if_pos hc]
    have e2 : recRows data count = [] := by unfold recRows; rw [e1]; rfl
    rw [e1, e2]
    clear e1 e2 h hLm
    by_cases h1 : data.length < 1
    · have t1 : decide ((data.length : Int) < 1) = true := by simp; omega
      clear hc
      go_enter Try.func22, Try.ntmps22
      go_wp2_with fail
      go_ret2
      exact ⟨.slice none 0 0, [], rfl, GM.nil _ _, Below.refl _ _⟩
    have t1 : decide ((data.length : Int) < 1) = false := by simp; omega
    by_cases h2 : 64 < data.length
    · have t2 : decide ((64 : Int) < (data.length : Int)) = true := by simp; omega
      clear hc
      go_enter Try.func22, Try.ntmps22
      go_wp2_with fail
      go_ret2
      exact ⟨.slice none 0 0, [], rfl, GM.nil _ _, Below.refl _ _⟩
    have t2 : decide ((64 : Int) < (data.length : Int)) = false := by simp; omega
    by_cases h3 : count < 0
    · have t3 : decide (count < 0) = true := by simp; omega
      clear hc
      go_enter Try.func22, Try.ntmps22
      go_wp2_with fail
      go_ret2
      exact ⟨.slice none 0 0, [], rfl, GM.nil _ _, Below.refl _ _⟩
    have t3 : decide (count < 0) = false := by simp; omega
    have t4 : decide ((64 : Int) - (data.length : Int) < count) = true := by simp; omega
    have t5 : (64 : Int) - (data.length : Int) < count := by omega
    clear hc
    go_enter Try.func22, Try.ntmps22
    go_wp2_with fail
    go_ret2
    exact ⟨.slice none 0 0, [], rfl, GM.nil _ _, Below.refl _ _⟩
  rcases h with h | ⟨b, o, A, C, rfl, hM⟩
  · rw [h] at hc; simp at hc
  obtain ⟨r, rfl⟩ : ∃ r : Nat, count = r := ⟨count.toNat, by omega⟩
  exact rRecovery_loop b o cap _ r data A C w hcap hM (by omega) (by omega) rfl hLm hBy
end Go.Proofs.Ytlbomlolomcolaa
