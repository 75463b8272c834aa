/- append(s, make([]byte, n)...) onto bytes of the call's own. -/
/- The contract of the reference's Split. -/
/- The contract of the reference's Same at equal lists. -/
/- Plain: the volumes of a short byte string: read back; a changed byte is found. -/
import Derived.Test.YtkclmfppjhmnjaaB07
import Derived.Lib.AppendZeros
import Derived.Laws.AppendOwn
import Derived.Test.YtkclmfppjhmnjaaB40
import Derived.Test.YtkclmfppjhmnjaaB36
import Derived.Test.YtkclmfppjhmnjaaB38
import Derived.Test.YtkclmfppjhmnjaaB08
import Derived.Deep.RegionHeld3
namespace Go.Proofs.Ytkclmfppjhmnjaa
open Go.RowKit

theorem zeroCells_byte (n : Nat) : Builtin.zeroCells (Value.cells (.int .u8 0)) n = (List.replicate n (bv 0)).toArray := by
  apply Array.ext
  · simp [Builtin.zeroCells, Value.cells]
  · intro i h1 h2
    simp [Builtin.zeroCells, Value.cells, Nat.mod_one, bv]
theorem run_append_zgrow (w : World) (ty : TypeId) (n k c : Nat) (h0 : 0 < n) (hn : k + n ≤ 1000000000) (hc : c < k + n) (ad : Addr) (old : List Value) (hl : old.length = k) (hold : ∀ j v, old[j]? = some v → w.cell? (ad.add j) = some v) :
    (Builtin.append_ #[26, 3] ty #[.slice (some ad) k c, .int .i64 n]).run Try.prog w =
      .ok (.slice (some ⟨w.heap.size, 0, none⟩) (k + n) (grownCap w (k + n) c 5)) (w.drew.alloc (.cells (old.toArray ++ (List.replicate n (bv 0)).toArray ++ Builtin.zeroCells (Value.cells (.int .u8 0)) (grownCap w (k + n) c 5 - (k + n))) 5)) := by
  obtain ⟨i0, hi, hz, hs, hby⟩ := info_parts infoByte
  have hn0 : n ≠ 0 := by omega
  have hw : IntKind.i64.wrap (n : Int) = n := by rw [IntKind.wrap_i64]; omega
  have h63' : ¬ (9223372036854775807 < (k : Int) + (n : Int)) := by omega
  have hg := growslice_fits (need := k + n) (old := c) (bytes := 1) hc (by omega)
  have h48' : ¬ (281474976710656 < Builtin.nextslicecap (k + n) c) := by omega
  have h48i : ¬ (281474976710656 < (n : Int)) := by omega
  have hneg : ¬ ((n : Int) < 0) := by omega
  have hfit : ¬ (k + n ≤ c) := by omega
  have hload := run_loadCells_list (P := Try.prog) w.drew ad old (fun j v hv => by rw [World.cell?_drew]; exact hold j v hv)
  rw [hl] at hload
  rw [← zeroCells_byte]
  simp [Builtin.append_, run_underlying Try.underlying26, run_underlying Try.underlying3, sizeOf, typeInfo, zeroValue, hi, hz, asInt, asIntOf, hw, hn0, hneg, hs, hby, h63', h48', h48i, hfit, Question.forced, Builtin.firstCells, hload, newRow, grownCap]
theorem run_append_zroom (w : World) (ty : TypeId) (g n k c : Nat) (cur : Array Value) (hg : w.heap[g]? = some (.cells cur 5 (0, 0))) (hn : k + n ≤ 1000000000) (hc : k + n ≤ c) (hcs : cur.size = c) :
    (Builtin.append_ #[26, 3] ty #[.slice (some ⟨g, 0, none⟩) k c, .int .i64 n]).run Try.prog w =
      .ok (.slice (some ⟨g, 0, none⟩) (k + n) c) (if n = 0 then w else w.setRow g (cur.toList.take k ++ List.replicate n (bv 0) ++ cur.toList.drop (k + n)).toArray) := by
  obtain ⟨i0, hi, hz, hs, hby⟩ := info_parts infoByte
  have hw : IntKind.i64.wrap (n : Int) = n := by rw [IntKind.wrap_i64]; omega
  have h48i : ¬ (281474976710656 < (n : Int)) := by omega
  have hneg : ¬ ((n : Int) < 0) := by omega
  by_cases hn0 : n = 0
  · subst hn0
    have hw0 : IntKind.i64.wrap (0 : Int) = 0 := by rw [IntKind.wrap_i64]; rfl
    simp [hw0, Builtin.append_, run_underlying Try.underlying26, run_underlying Try.underlying3, sizeOf, typeInfo, hi, asInt, asIntOf, hby, show k ≤ c by omega, storeCells]
  · have hst := run_storeCells_at Try.prog g k 5 (List.replicate n (bv 0)) 0 cur w hg (by simp; omega) (by intro u hu; rw [(List.mem_replicate.1 hu).2]; rfl)
    simp only [Nat.add_zero, List.length_replicate] at hst
    have hzc := zeroCells_byte n
    rw [if_neg hn0]
    simp [Builtin.append_, run_underlying Try.underlying26, run_underlying Try.underlying3, sizeOf, typeInfo, zeroValue, hi, hz, asInt, asIntOf, hw, hn0, hneg, hs, hby, h48i, hc, hzc, Addr.add_lit, hst]
theorem run_append_zb (w : World) (base : Nat) (ty : TypeId) (v : Value) (l : List Nat) (n : Nat) (hO : BO w base v l) (hn : l.length + n ≤ 1000000000) (hbase : base ≤ w.heap.size) :
    ∃ v' w', (Builtin.append_ #[26, 3] ty #[v, .int .i64 n]).run Try.prog w = .ok v' w' ∧ BO w' base v' (l ++ List.replicate n 0) ∧ w.grownBy w' v.ownBlock := by
  obtain ⟨i0, hi, hz0, hz1, hz2⟩ := info_parts infoByte
  have hmap : (l ++ List.replicate n 0).map bv = l.map bv ++ List.replicate n (bv 0) := by rw [List.map_append, List.map_replicate]
  have hlen : (l ++ List.replicate n 0).length = l.length + n := by rw [List.length_append, List.length_replicate]
  have hcl : ((l ++ List.replicate n 0).map bv).length = (l.length + n) * 1 := by rw [List.length_map, hlen, Nat.mul_one]
  have grown : ∀ (old : Nat), old < l.length + n → ∀ row : Option Nat,
      BO (w.drew.alloc (.cells ((l.map bv).toArray ++ (List.replicate n (bv 0)).toArray ++ Builtin.zeroCells (Value.cells (.int .u8 0)) (grownCap w (l.length + n) old 5 - (l.length + n))) 5)) base (.slice (some ⟨w.heap.size, 0, none⟩) (l.length + n) (grownCap w (l.length + n) old 5)) (l ++ List.replicate n 0) ∧
      w.grownBy (w.drew.alloc (.cells ((l.map bv).toArray ++ (List.replicate n (bv 0)).toArray ++ Builtin.zeroCells (Value.cells (.int .u8 0)) (grownCap w (l.length + n) old 5 - (l.length + n))) 5)) row := by
    intro old ho row
    have hge := grownCap_ge w (l.length + n) old 5
    have hcm : grownCap w (l.length + n) old 5 ≤ maxLen := grownCap_le_maxLen w (l.length + n) old 5 (by unfold maxLen; omega)
    unfold BO
    rw [hlen, hmap]
    refine ⟨⟨by rw [← hmap]; exact hcl, .inr ⟨w.heap.size, _, _, rfl, hbase, heap_alloc_new w.drew _, hge, hcm, ?_, ?_⟩⟩, ⟨rfl, rfl, rfl, by simp, fun k hk _ => heap_alloc_old w.drew _ hk⟩⟩
    · simp only [Array.size_append, List.size_toArray, List.length_map, List.length_replicate, size_zeroCells, Value.cells]
      simp
      omega
    · simp only [Array.toList_append]
      exact List.take_left' (by simp)
  rcases hO.2 with ⟨rfl, h0⟩ | ⟨g, cap, cur, rfl, hb, hg, hnc, hcm, hcs, ht⟩
  · have hl : l = [] := List.eq_nil_of_length_eq_zero h0
    subst hl
    by_cases hn0 : n = 0
    · subst hn0
      refine ⟨.slice none 0 0, w, ?_, by simpa using hO, World.grownBy.refl w _⟩
      have hw0 : IntKind.i64.wrap (0 : Int) = 0 := by rw [IntKind.wrap_i64]; rfl
      simp [hw0, Builtin.append_, run_underlying Try.underlying26, run_underlying Try.underlying3, sizeOf, typeInfo, hi, asInt, asIntOf, hz2]
    · have hr := Lib.run_append_nil_zeros (P := Try.prog) w 26 3 ty 5 i0 (.int .u8 0) .i64 .i64 Try.underlying26 Try.underlying3 hi hz0 n (by omega) (by omega) (by omega) (by rw [hz2]; omega)
      have hge := grownCap_ge w n 0 5
      have hcm := grownCap_le_maxLen w n 0 5 (by unfold maxLen; omega)
      refine ⟨_, _, hr, ?_, ⟨rfl, rfl, rfl, by simp, fun k hk _ => heap_alloc_old w.drew _ hk⟩⟩
      unfold BO
      rw [hlen, hmap]
      refine ⟨by rw [← hmap]; exact hcl, .inr ⟨w.heap.size, _, _, by simp, hbase, heap_alloc_new w.drew _, ?_, hcm, ?_, ?_⟩⟩
      · simpa using hge
      · have hge' : n ≤ grownCap w n 0 5 := by simpa using hge
        simp [size_zeroCells, Value.cells]
        omega
      · rw [zeroCells_byte]
        simp
  · by_cases hroom : l.length + n ≤ cap
    · have hr := run_append_zroom w ty g n l.length cap cur hg hn hroom (by simpa using hcs)
      have ht' : cur.toList.take l.length = l.map bv := by simpa using ht
      have hcs' : cur.size = cap := by simpa using hcs
      refine ⟨_, _, hr, ?_, ?_⟩
      · by_cases hn0 : n = 0
        · subst hn0; rw [if_pos rfl]; simpa using hO
        · rw [if_neg hn0]
          unfold BO
          rw [hlen, hmap]
          refine ⟨by rw [← hmap]; exact hcl, .inr ⟨g, cap, _, rfl, hb, setRow_heap w g cur _ 5 _ hg, hroom, hcm, ?_, ?_⟩⟩
          · simp only [List.size_toArray, List.length_append, List.length_take, List.length_drop, List.length_replicate, Array.length_toList, hcs']
            omega
          · rw [ht']
            exact List.take_left' (by simp)
      · by_cases hn0 : n = 0
        · rw [if_pos hn0]; exact World.grownBy.refl w _
        · rw [if_neg hn0]
          exact ⟨rfl, rfl, rfl, by simp, fun k _ hk => setRow_other w g k _ (fun e => hk (by simp [Value.ownBlock, e]))⟩
    · have hn0 : 0 < n := by omega
      have holds : ∀ j u, (l.map bv)[j]? = some u → w.cell? ((⟨g, 0, none⟩ : Addr).add j) = some u := World.ownsRow.cells hO (g := g) rfl
      have hr := run_append_zgrow w ty n l.length cap hn0 hn (by omega) ⟨g, 0, none⟩ (l.map bv) (by simp) holds
      have hgr := grown cap (by omega) (Value.ownBlock (.slice (some ⟨g, 0, none⟩) l.length cap))
      exact ⟨_, _, hr, hgr.1, hgr.2⟩
theorem wpList_append_zb {w : World} {ops : Array Oper} {rest : List Oper} {o : Oper} {a : Act} {Q : Exit → Act → World → Prop} (hgd : o.guard = none) (s x : Operand) (ho : o.op = .call { callee := .builtin .append, args := #[s, x], argTypes := #[26, 3] })
    (base : Nat) (v : Value) (l : List Nat) (n : Nat) (hs : a.eval s = v) (hx : a.eval x = .int .i64 n) (hO : BO w base v l) (hn : l.length + n ≤ 1000000000) (hbase : base ≤ w.heap.size)
    (h : ∀ v' w', BO w' base v' (l ++ List.replicate n 0) → w.grownBy w' v.ownBlock → wpList Try.prog ops Q rest (a.put o.dst v') w') : wpList Try.prog ops Q (o :: rest) a w :=
  wpList_plain hgd fun K hK => by
    obtain ⟨v', w', hrun, h2, h3⟩ := run_append_zb w base o.type v l n hO hn hbase
    unfold Oper.wp execOp
    simp only [ho, resolve, invoke, builtin, Sem.run_bind, Sem.run_pure, Result.andThen_ok, List.map_toArray, List.map_cons, List.map_nil, hs, hx, hrun]
    exact hK _ _ (h v' w' h2 h3)
end Go.Proofs.Ytkclmfppjhmnjaa

namespace Go.Proofs.Ytkclmfppjhmnjaa
open Go.RowKit Wire Vol Crc

theorem OwnRows.hds {w : World} {B : Nat} {hd : List (Nat × Nat)} {m : List (List Nat)} (h : OwnRows w B hd m) : HdsOk w (hvs hd m) m := by
  refine ⟨hvs_length h.len, fun i x r hx hr => ?_⟩
  have hi := (List.getElem?_eq_some_iff.1 hr).1
  have hp : hd[i]? = some (hd.getD i (0, 0)) := getD_some (by rw [h.len]; exact hi)
  have hg := hvs_get hp hr
  rw [hx] at hg
  simp only [Option.some.injEq] at hg
  subst hg
  obtain ⟨k1, _, k3⟩ := h.rows i _ r hp hr
  exact ⟨_, _, rfl, k3, Or.inr ⟨_, 0, rfl, k1.row⟩, by simp⟩

set_option maxRecDepth 100000 in
set_option maxHeartbeats 8000000 in
theorem r5Split_any (v : Value) (b : List Nat) (data rec : Int) (w : World) (h : Bs w v b) (hB : Byt b) (hl : b.length ≤ 100000000) (hd1 : -9223372036854775808 ≤ data) (hd2 : data ≤ 9223372036854775807) (hr1 : -9223372036854775808 ≤ rec) (hr2 : rec ≤ 9223372036854775807) :
    Calls Try.prog 28 #[v, .int .i64 data, .int .i64 rec] w (RowsErr (spL b data rec) (spErr b data rec) w) := by
  by_cases hL : 65536 < b.length
  · have HE := Lib.hid (spErr_long (data := data) (rec := rec) hL)
    have HL := Lib.hid (spL_no HE.out (by decide))
    obtain ⟨a, cap, rfl, hc, hr⟩ := h
    have t1 : decide ((65536 : Int) < (b.length : Int)) = true := by simp; omega
    clear hr hL hB
    go_enter Try.func28, Try.ntmps28
    go_wp2_with fail
    go_ret2
    exact ⟨_, [], by rw [HE.out]; rfl, by rw [HL.out]; exact GM.nil _ _, Below.refl _ _⟩
  have t1 : decide ((65536 : Int) < (b.length : Int)) = false := by simp; omega
  by_cases hbad : spBad data rec
  · have HE := Lib.hid (spErr_bad hL hbad)
    have HL := Lib.hid (spL_no HE.out (by decide))
    obtain ⟨a, cap, rfl, hc, hr⟩ := h
    have hcs := spBad_cases hbad
    clear hr hL hB hbad
    rcases hcs with q1 | ⟨q1, q2⟩ | ⟨q1, q2, q3⟩ | ⟨q1, q2, q3, q4⟩
    all_goals
      (try have y1 : 1 ≤ data := by simpa using q1)
      (try have y2 : data ≤ 64 := by simpa using q2)
      go_enter Try.func28, Try.ntmps28
      go_wp2_with fail
      go_ret2
      exact ⟨_, [], by rw [HE.out]; rfl, by rw [HL.out]; exact GM.nil _ _, Below.refl _ _⟩
  have hb2 := hbad
  unfold spBad at hb2
  obtain ⟨d, rfl⟩ : ∃ d : Nat, data = d := ⟨data.toNat, by omega⟩
  obtain ⟨r, rfl⟩ : ∃ r : Nat, rec = r := ⟨rec.toNat, by omega⟩
  have hd : 1 ≤ d := by omega
  have hdr : d + r ≤ 64 := by omega
  have hL' : b.length ≤ 65536 := by omega
  have q1 : decide ((d : Int) < 1) = false := by simp; omega
  have q2 : decide ((64 : Int) < (d : Int)) = false := by simp; omega
  have q3 : decide ((r : Int) < 0) = false := by simp
  have q4 : decide ((64 : Int) - (d : Int) < (r : Int)) = false := by simp; omega
  have Hbad := Lib.hid hbad
  have HnL := Lib.hid hL
  have H := Lib.hid h
  have HBy := Lib.hid hB
  have HRp := Lib.hid (partsM_rect hB hd)
  have HPl := Lib.hid (partsM_length b d)
  have HRe := Lib.hid (parts_rec hB hL' hd hdr)
  obtain ⟨hAr, hAl⟩ := allM_rect hB hL' hd hdr
  have HAr := Lib.hid hAr
  have HAl := Lib.hid hAl
  have HAd := Lib.hid (show allM b d r = partsM b d ++ recRows (partsM b d) (r : Int) from rfl)
  have hsm := szP_mul b.length hd
  have hs1 := szP_pos b.length d
  have hs2 := szP_le hL' hd
  have HS := Lib.hid (fun w' => r5Size_any b.length d w' (by omega) hd (by omega))
  have HPd := Lib.hid (show partsM b d = ptM (padB b (d * szP b.length d)) (szP b.length d) d from rfl)
  obtain ⟨a, cap, rfl, hc, hr⟩ := h
  obtain ⟨s, hs⟩ : ∃ s, szP b.length d = s := ⟨_, rfl⟩
  rw [hs] at HRp HAr hsm hs1 hs2 HS HPd
  have hcl := crc_lt 0 b
  have HCd := Lib.hid (show crc 0 b = crc 0 b from rfl)
  clear hr hL hB hbad hb2 hAr hAl hs hd1 hd2 hr1 hr2 HCd
  go_enter Try.func28, Try.ntmps28
  go_wp2_with fail
  refine (HS.out _).mono ?_
  rintro e w' ⟨rfl, rfl⟩
  have hns : d * s ≤ 64 * 65536 := Nat.mul_le_mul (by omega) hs2
  have HKS := Lib.hid (show ∀ k, k < d → k * s + s ≤ d * s from fun k hk => by have := Nat.mul_le_mul_right s (show k + 1 ≤ d by omega); rw [Nat.add_mul, Nat.one_mul] at this; exact this)
  have HPL := Lib.hid (padB_length hsm)
  have e1 : IntKind.i64.wrap ((s : Int) * (d : Int)) = ((d * s : Nat) : Int) := by rw [← Int.natCast_mul, Nat.mul_comm]; exact IntWalk.i64_in _ (by omega)
  have Hq := Lib.hid (show ∀ k, k < d → IntKind.i64.wrap ((k : Int) * (s : Int)) = ((k * s : Nat) : Int) from fun k hk => by rw [← Int.natCast_mul]; exact IntWalk.i64_in _ (by have := HKS.out k hk; omega))
  obtain ⟨nn, hnn⟩ : ∃ n, d * s = n := ⟨_, rfl⟩
  have h1n : 1 ≤ nn := by rw [← hnn]; exact Nat.mul_pos (show 0 < d by omega) hs1
  rw [hnn] at hns HKS HPL e1 hsm HPd
  have e2 : ((nn : Nat) : Int) - (b.length : Int) = ((nn - b.length : Nat) : Int) := by omega
  have HPa := Lib.hid (show padB b nn = b ++ List.replicate (nn - b.length) 0 from rfl)
  obtain ⟨A, hAd⟩ : ∃ A, padB b nn = A := ⟨_, rfl⟩
  rw [hAd] at HPL HPd HPa
  have HE0 := Lib.hid (show BO (w.alloc (.cells #[] 5)) w.heap.size (.slice (some ⟨w.heap.size, 0, none⟩) 0 0) [] from World.ownsRow_made w #[] 0 (Nat.le_refl _) (by decide) rfl)
  have HBe := Lib.hid (al w (.cells #[] 5))
  have HVe := Lib.hid (H.out.new HBe.out)
  clear hnn hAd HS
  go_wp2_with (at_builtin; refine wpList_append_bs rfl (.tmp 40) (.tmp 41) rfl w.heap.size _ _ [] b rfl rfl HE0.out HVe.out ?z1 ?z2 ?_)
  case z1 => simp; omega
  case z2 => simp
  intro v42 w42 hO42 hg42
  have HB42 := Lib.hid (bo_below HBe.out hg42 (by simp) HE0.out (Nat.le_refl _))
  have HO42 := Lib.hid (show BO w42 w.heap.size v42 b from hO42)
  have hz42 := HB42.out.size
  clear hO42 hg42 HE0 HVe HBe
  go_wp2_with (at_builtin; refine wpList_append_zb rfl (.tmp 42) (.tmp 48) rfl w.heap.size _ b (nn - b.length) rfl rfl HO42.out (by omega) hz42 ?_)
  intro v9a w1 hO1 hg1
  have HB1 := Lib.hid (bo_below HB42.out hg1 hz42 HO42.out (Nat.le_refl _))
  rw [← HPa.out] at hO1
  obtain ⟨ga, ca, rfl, _, hca, hba⟩ := hO1.row (by intro e; have := HPL.out; rw [e] at this; simp at this; omega)
  have HA := Lib.hid hba
  rw [HPL.out] at hca ⊢
  have hz1 := HB1.out.size
  clear hO1 hg1 hba HB42 HO42 hz42 e1 e2 HPa
  go_wp2_with fail
  go_loopg [10, 11] d (fun gk vx i wr => ∃ (k : Nat) (vy : Value), k + gk = d ∧ i = .int .i64 k ∧ vy = vx ∧ Hid (∃ vs, wr.ownsRow w1.heap.size 26 1 vy k vs ∧ HdsOk w1 vs (ptM A s k)) ∧ Hid (Below w1.heap.size w1 wr))
  case atStart => exact ⟨0, _, by omega, rfl, rfl, ⟨[], World.ownsRow_nil _ _ _ 1, HdsOk.nil _⟩, Below.refl _ _⟩
  case round =>
    obtain ⟨k, vx, hgk, rfl, rfl, hV, hB⟩ := hrel
    have Hgk := Lib.hid hgk
    have hk : k ≤ d := by omega
    have hzr := hB.out.size
    clear hgk
    obtain ⟨vs, hVo, hVh⟩ := hV.out
    have HVo := Lib.hid hVo
    have HVh := Lib.hid hVh
    clear hVo hVh hV
    by_cases hlt : k < d
    · have e2 := Hq.out k hlt
      have h3 := HKS.out k hlt
      have Hps := Lib.hid (ptM_succ A s k)
      obtain ⟨q, hq⟩ : ∃ q, k * s = q := ⟨_, rfl⟩
      rw [hq] at e2 h3 Hps
      have Hrow := Lib.hid (show RowAt w1 ga q ((A.drop q).take s) from by have := (HA.out.row.drop q).take s; rwa [Nat.zero_add] at this)
      have Hrl := Lib.hid (show ((A.drop q).take s).length = s by rw [List.length_take, List.length_drop, HPL.out]; omega)
      have Hnew := Lib.hid (hs_new wr [.slice (some ⟨ga, q, none⟩) s (ca - q)] (by intro u hu; simp only [List.mem_cons, List.not_mem_nil, or_false] at hu; subst hu; rfl))
      have hqc : q < ca := by omega
      clear hq
      go_wp2_with (at_builtin; refine wpList_append_hs rfl (.tmp 55) (.tmp 66) rfl w1.heap.size _ _ _ _ [.slice (some ⟨ga, q, none⟩) s (ca - q)] rfl rfl (owns_kept HVo.out (Kept.of_new (al _ _)) (S := fun _ => False) (fun _ _ => id)) Hnew.out (by simp; omega) (by simp; omega) ?_)
      intro v5 w5 hown hgr
      have HB5 := Lib.hid (hs_below (hB.out.trans ((al wr (.cells #[.slice (some ⟨ga, q, none⟩) s (ca - q)] 26)).mono hzr)) hgr (by simp; omega) (World.ownsRow.alloc HVo.out _) (Nat.le_refl _))
      have HV5 := Lib.hid (show ∃ vs, w5.ownsRow w1.heap.size 26 1 v5 (k + 1) vs ∧ HdsOk w1 vs (ptM A s (k + 1)) by
        refine ⟨_, hown, ?_⟩
        rw [Hps.out]
        exact HVh.out.append (HdsOk.one ⟨some ⟨ga, q, none⟩, ca - q, by rw [Hrl.out], by rw [Hrl.out]; omega, Or.inr ⟨ga, q, rfl, Hrow.out⟩, by simp⟩))
      clear hown hgr
      go_wp2_with fail
      go_roundg (d - k - 1)
      case measure => have := Hgk.out; omega
      case rel => exact ⟨k + 1, v5, by have := Hgk.out; omega, by go_num, rfl, HV5.out, HB5.out⟩
    · obtain rfl : k = d := by omega
      rw [← HPd.out] at HVh
      have hVm := (VM.mk (vs := vs) (by rw [HPl.out]; exact HVo.out) (HVh.out.new hB.out) : VM wr w1.heap.size vx vs (partsM b k)).mx
      have HVm := Lib.hid hVm
      have HB := Lib.hid (HB1.out.trans (hB.out.mono hz1))
      clear hVm
      obtain ⟨wo, rfl⟩ : ∃ wo : World, wo = wr := ⟨_, rfl⟩
      go_wp2_with fail
      refine (rRecovery_any vx (partsM b k) r _ (by rw [HPl.out]; omega) (fun j hj => by have := (HRp.out.get hj).1; unfold plen maxLen; omega) (rect_byt HRp.out) HVm.out (by omega) (by omega)).mono ?_
      rintro e w2 ⟨v12, hd12, rfl, hG12, hB2⟩
      rw [HRe.out]
      have HG := Lib.hid hG12
      have HV2 := Lib.hid (owns_kept HVo.out (Kept.of_new hB2) (S := fun _ => False) (fun _ _ => id))
      have hrl : (recRows (partsM b k) (r : Int)).length = r := by have := HAl.out; rw [HAd.out, List.length_append, HPl.out] at this; omega
      have hvl := hvs_length hG12.len
      have HR12 := Lib.hid (HdR.of_own hG12.outer hvl.symm hG12.hds.oneCell)
      have hHl : (hvs hd12 (recRows (partsM b k) (r : Int))).length = r := by rw [hvl, hrl]
      have HHl := Lib.hid hHl
      have hz2 := hB2.size
      have hzo := HB.out.size
      have HB2 := Lib.hid (HB.out.trans (hB2.mono hzo))
      have HX2 := Lib.hid (hB.out.trans (hB2.mono hB.out.size))
      have hzz : w1.heap.size ≤ w2.heap.size := Nat.le_trans hB.out.size hz2
      obtain ⟨a12, c12, hv12⟩ := owns_slice hG12.outer
      rw [hrl] at hv12
      clear hG12 hB2 hvl HVm hrl
      subst hv12
      go_wp2_with (at_builtin; refine wpList_append_hs rfl (.tmp 74) (.tmp 75) rfl w1.heap.size _ _ k vs (hvs hd12 (recRows (partsM b k) (r : Int))) rfl rfl HV2.out HR12.out (by rw [hHl]; omega) hzz ?_)
      intro v10 w4 hO4 hg4
      have hX4 : Below w1.heap.size w1 w4 := hs_below HX2.out hg4 hzz HV2.out (Nat.le_refl _)
      have hrows : OwnRows w4 wo.heap.size hd12 (recRows (partsM b k) (r : Int)) := HG.out.toOwnRows.kept (Kept.of_grown hg4) (fun i p hp e => by
        have h1 := (owns_block HVo.out e.symm).1.lt
        have h2 := (HG.out.toOwnRows.lt hp).2
        omega)
      have HdsB := Lib.hid (show HdsOk w4 (vs ++ hvs hd12 (recRows (partsM b k) (r : Int))) (allM b k r) from by rw [HAd.out]; exact (HVh.out.new hX4).append hrows.hds)
      have HB4 := Lib.hid (HB1.out.trans (hX4.mono hz1))
      have hO4' : w4.ownsRow w1.heap.size 26 1 v10 (allM b k r).length (vs ++ hvs hd12 (recRows (partsM b k) (r : Int))) := by rw [HAl.out]; exact hO4
      generalize vs ++ hvs hd12 (recRows (partsM b k) (r : Int)) = us at *
      have hAlen := HAl.out
      have hn1 : 1 ≤ (allM b k r).length := by omega
      obtain ⟨g6, c6, rfl, hc6, _, hb6, _⟩ := (VM.mk hO4' HdsB.out).done (by intro e; rw [e] at hn1; simp at hn1)
      have HU := Lib.hid hb6
      have hz4 := HB4.out.size
      have hBs4 := Lib.hid (H.out.new HB4.out)
      obtain ⟨n, hn⟩ : ∃ n, (allM b k r).length = n := ⟨_, rfl⟩
      have Hn := Lib.hid hn
      rw [hn] at hc6 hn1 hAlen ⊢
      have hn64 : n ≤ 64 := by omega
      have hc4 := crc_lt 0 b
      obtain ⟨c, hcd⟩ : ∃ c, crc 0 b = c := ⟨_, rfl⟩
      have Hcd := Lib.hid hcd
      rw [hcd] at hc4
      clear hO4 hg4 hX4 hrows hO4' hb6 hn hcd HVo HVh HV2 HR12 HG HB2 HX2 HB hHl HHl hzz hz2 hzo hcl hAlen
      go_wp2_with fail
      go_loopg [14, 15] n (fun gk vx i wr => ∃ (q : Nat) (vy : Value) (hds : List (Nat × Nat)), q + gk = n ∧ i = .int .i64 q ∧ vy = vx ∧ Hid (GM wr w4.heap.size vy hds ((volL b k r).take q)) ∧ Hid (∀ x ∈ (volL b k r).take q, x.length ≤ 65536) ∧ Hid (Below w4.heap.size w4 wr))
      case atStart => exact ⟨0, _, [], by omega, rfl, rfl, GM.nil _ _, fun x hx => by (rw [List.take_zero] at hx; cases hx), Below.refl _ _⟩
      case round =>
        obtain ⟨q, vx', hds, hgk, rfl, rfl, hG, hsh, hBr⟩ := hrel
        have Hgk := Lib.hid hgk
        have hk : q ≤ n := by omega
        have hzr := hBr.out.size
        clear hgk
        by_cases hlt : q < n
        · obtain ⟨x, hx, hxo⟩ := HdsB.out.get (show q < (allM b k r).length by rw [Hn.out]; exact hlt)
          have hp := getD_some (l := allM b k r) (d := []) (show q < (allM b k r).length by rw [Hn.out]; exact hlt)
          have hvol := Lib.hid (volL_get hp)
          have hpl := (HAr.out.get (show q < (allM b k r).length by rw [Hn.out]; exact hlt))
          obtain ⟨p, hpd⟩ : ∃ p, (allM b k r).getD q [] = p := ⟨_, rfl⟩
          rw [hpd] at hxo hvol hpl
          have cx := (HU.out.below hBr.out HU.out.lt).cell hx
          have hgr := (HU.out.below hBr.out HU.out.lt).lt
          have HBp := Lib.hid hpl.2
          have hps : p.length = s := hpl.1
          have Hps := Lib.hid hps
          have hXb := Lib.hid (hxo.bs.new hBr.out)
          have hBb := Lib.hid (hBs4.out.new hBr.out)
          obtain ⟨ax, cx', hxe, _⟩ := hxo
          subst hxe
          rw [hps] at cx hXb
          have HSm := Lib.hid (show hdSmall (c, q, k, r, b.length) by have := vhd_small hL' (show k ≤ 64 by omega) (show r ≤ 64 by omega) (show q ≤ 64 by omega); unfold vhd at this; rwa [Hcd.out] at this)
          have HQl := Lib.hid (show (putB (vhd b k r q) p) ≠ [] from fun e => by have := congrArg List.length e; rw [putB_length] at this; simp at this)
          have HQd := Lib.hid (show putB (vhd b k r q) p = putB (c, q, k, r, b.length) p by unfold vhd; rw [Hcd.out])
          rw [HQd.out] at HQl hvol
          have HG := Lib.hid hG.out
          have HBr := Lib.hid hBr.out
          have i1 : (0 : Int) ≤ (q : Int) := by omega
          have i2 : (q : Int) < (n : Int) := by omega
          clear hp hpd hpl hps hx HQd hG hBr
          go_wp2_with fail
          go_region_held3 (fun w' => w'.cell? ⟨g6, q, none⟩ = some (.slice ax s cx'))
            (first
              | exact cell_nw HB7.out cx hgr
              | exact cx)
            (first
              | (go_at_call 58
                 refine (r5put_any (c, q, k, r, b.length) (.slice ax s cx') p _ HSm.out (bs_drew hXb.out) HBp.out (by rw [Hps.out]; omega)).mono ?_
                 rintro e w7 ⟨v16, rfl, hO7', hB7'⟩
                 have HO7 := Lib.hid (show BO w7 wr.heap.size v16 (putB (c, q, k, r, b.length) p) from hO7')
                 have HB7 := Lib.hid (((Below.refl wr.heap.size wr).drew).trans (show Below wr.heap.size wr.drew w7 from hB7'))
                 clear hO7' hB7')
              | (go_at_call 59
                 refine (r3Sum_any _ b _ (bs_drew hBb.out) HBy.out (by omega)).mono ?_
                 rintro e w6 ⟨rfl, rfl⟩
                 rw [Hcd.out]))
          obtain ⟨qq, hqq⟩ : ∃ qq, putB (c, q, k, r, b.length) p = qq := ⟨_, rfl⟩
          have hO7 := HO7.out
          rw [hqq] at hO7 HQl hvol
          obtain ⟨gp, cp, rfl, hgp, hcp, hbp⟩ := hO7.row HQl.out
          have Hbp := Lib.hid hbp
          have Hcp := Lib.hid hcp
          have hBr7 := Lib.hid (HBr.out.trans (HB7.out.mono hzr))
          have hzr7 : w4.heap.size ≤ w7.heap.size := hBr7.out.size
          have hnx := Lib.hid (show (volL b k r).take (q + 1) = (volL b k r).take q ++ [qq] by rw [List.take_add_one, hvol.out]; rfl)
          clear hO7 hbp hqq hcp HO7 cx hgr
          by_cases hql : 65536 < qq.length
          · have HE := Lib.hid (spErr_any HnL.out Hbad.out hvol.out hql)
            have HL := Lib.hid (spL_no HE.out (by decide))
            have HF := Lib.hid (show Below w.heap.size w w7 from HB4.out.trans (hBr7.out.mono HB4.out.size))
            have t3 : decide ((65536 : Int) < (qq.length : Int)) = true := by simp; omega
            clear hql
            go_wp2_with fail
            go_ret2
            exact ⟨_, [], by rw [HE.out]; rfl, by rw [HL.out]; exact GM.nil _ _, HF.out⟩
          · have t3 : decide ((65536 : Int) < (qq.length : Int)) = false := by simp; omega
            have Hql := Lib.hid (show qq.length ≤ 65536 by omega)
            have hql2 : qq.length ≤ 65536 := by omega
            have Hnew := Lib.hid (hs_new w7 [hv qq.length (gp, cp)] (by intro u hu; simp only [List.mem_cons, List.not_mem_nil, or_false] at hu; subst hu; rfl))
            have Htl := Lib.hid (show ((volL b k r).take q).length = q by rw [List.length_take, volL_length, Hn.out]; omega)
            have hGo := HG.out.outer
            rw [Htl.out] at hGo
            have HG7 := Lib.hid hGo
            have HGo := Lib.hid (owns_kept hGo (Kept.of_new (HB7.out.trans ((al w7 (.cells #[hv qq.length (gp, cp)] 26)).mono HB7.out.size))) (S := fun _ => False) (fun _ _ => id))
            clear hql hGo
            go_wp2_with (at_builtin; refine wpList_append_hs rfl (.tmp 99) (.tmp 101) rfl w4.heap.size _ _ q _ [hv qq.length (gp, cp)] rfl rfl HGo.out Hnew.out (by simp; omega) (by simp; omega) ?_)
            intro v8' w8 hown hgr
            have HG9 := Lib.hid (HG.out.snoc HB7.out (p := (gp, cp)) (r := qq) Hbp.out hgp hzr Hcp.out (by rw [Htl.out]; exact hown) hgr)
            have HBr9 := Lib.hid (show Below w4.heap.size w4 w8 from (hBr7.out.trans ((al w7 (.cells #[hv qq.length (gp, cp)] 26)).mono hzr7)).grown hgr (by simp; omega) (fun x hx => (owns_block HG7.out hx).2.1))
            have Hs9 := Lib.hid (show ∀ x ∈ (volL b k r).take (q + 1), x.length ≤ 65536 from by
              rw [hnx.out]
              intro x hx
              rcases List.mem_append.1 hx with h | h
              · exact hsh.out x h
              · rw [List.mem_singleton] at h; rw [h]; exact Hql.out)
            clear hown hgr
            go_wp2_with fail
            go_roundg (n - q - 1)
            case measure => have := Hgk.out; omega
            case rel => exact ⟨q + 1, v8', _, by have := Hgk.out; omega, by go_num, rfl, by rw [hnx.out]; exact HG9.out, Hs9.out, HBr9.out⟩
        · obtain rfl : q = n := by omega
          have htk : (volL b k r).take q = volL b k r := List.take_of_length_le (by rw [volL_length, Hn.out]; omega)
          have hsh' := hsh.out
          have hG' := hG.out
          rw [htk] at hsh' hG'
          obtain ⟨hE, hL⟩ := spErr_ok HnL.out Hbad.out hsh'
          have HE := Lib.hid hE
          have HL := Lib.hid hL
          have HG' := Lib.hid hG'
          have HF := Lib.hid (show Below w.heap.size w wr from HB4.out.trans (hBr.out.mono HB4.out.size))
          clear htk hsh' hG' hE hL
          go_wp2_with fail
          go_ret2
          exact ⟨_, hds, by rw [HE.out]; rfl, by rw [HL.out]; exact HG'.out.mono hz4, HF.out⟩
end Go.Proofs.Ytkclmfppjhmnjaa

namespace Go.Proofs.Ytkclmfppjhmnjaa
open Go.RowKit Wire Vol Crc

set_option maxRecDepth 100000 in
set_option maxHeartbeats 4000000 in
theorem r5Same_eq (v v' : Value) (m : List (List Nat)) (w : World) (h : Mx w v m) (h' : Mx w v' m) (hB : BytM m) (hn : m.length ≤ 1000000000) (hl : ∀ r ∈ m, r.length ≤ 1000000000) :
    Calls Try.prog 23 #[v, v'] w fun e w' => e = .returned (.bool true) ∧ Below w.heap.size w w' := by
  obtain ⟨a, cap, rfl, hc, hM⟩ := h
  obtain ⟨a', cap', rfl, hc', hM'⟩ := h'
  have HM := Lib.hid hM
  have HM' := Lib.hid hM'
  have HBy := Lib.hid hB
  have Hl := Lib.hid hl
  have t0 : ((m.length : Int) != (m.length : Int)) = false := by simp
  clear hM hM' hB hl
  go_enter Try.func23, Try.ntmps23
  go_wp2_with fail
  go_loopg [5] m.length (fun gk i wr => ∃ k : Nat, k + gk = m.length ∧ i = .int .i64 k ∧ Hid (Below w.heap.size w wr))
  case atStart => exact ⟨0, by omega, rfl, Below.refl _ _⟩
  case round =>
    obtain ⟨k, hgk, rfl, hB⟩ := hrel
    have Hgk := Lib.hid hgk
    have hk : k ≤ m.length := by omega
    clear hgk
    by_cases hlt : k < m.length
    · have hkr := getD_some (l := m) (d := []) hlt
      obtain ⟨b, o, A, C, rfl, hA⟩ : ∃ b o A C, a = some ⟨b, o, none⟩ ∧ MxAt w b o m A C := by
        rcases HM.out with h | h
        · rw [h] at hlt; simp at hlt
        · exact h
      obtain ⟨b', o', A', C', rfl, hA'⟩ : ∃ b o A C, a' = some ⟨b, o, none⟩ ∧ MxAt w b o m A C := by
        rcases HM'.out with h | h
        · rw [h] at hlt; simp at hlt
        · exact h
      obtain ⟨x1, x2, x3, _⟩ := hA.new hB.out k _ hkr
      obtain ⟨y1, y2, y3, _⟩ := hA'.new hB.out k _ hkr
      have hrm := List.mem_of_getElem? hkr
      have P := Lib.hid (And.intro (HBy.out _ hrm) (Hl.out _ hrm))
      generalize m.getD k [] = r at *
      have S1 := Lib.hid (show Bs wr (.slice (A k) r.length (C k)) r from ⟨_, _, rfl, x2, x3⟩)
      have S2 := Lib.hid (show Bs wr (.slice (A' k) r.length (C' k)) r from ⟨_, _, rfl, y2, y3⟩)
      have hbx := World.block_lt_of_cell? wr _ x1
      have hby := World.block_lt_of_cell? wr _ y1
      have i1 : (0 : Int) ≤ (k : Int) := by omega
      have i2 : (k : Int) < (m.length : Int) := by omega
      dsimp only at hbx hby
      clear hA hA' hkr hrm x2 x3 y2 y3
      go_wp2_with fail
      go_region_held3 (fun w' => w'.cell? ⟨b, o + k, none⟩ = some (.slice (A k) r.length (C k)) ∧ w'.cell? ⟨b', o' + k, none⟩ = some (.slice (A' k) r.length (C' k)))
        (first
          | exact ⟨cell_nw HB1.out x1 hbx, cell_nw HB1.out y1 hby⟩
          | exact ⟨x1, y1⟩)
        (first
          | (go_at_call 47
             refine (r3Same_bs _ _ r r _ (bs_drew S1.out) (bs_drew S2.out) P.out.1 P.out.1 P.out.2 P.out.2).mono ?_
             rintro e w1 ⟨rfl, hB1⟩
             rw [decide_eq_true rfl]
             have HB1 := Lib.hid (((Below.refl wr.heap.size wr).drew).trans (show Below wr.heap.size wr.drew w1 from hB1))
             clear hB1))
      have HB2 := Lib.hid (hB.out.trans (HB1.out.mono hB.out.size))
      clear x1 y1 hbx hby S1 S2 P HB1
      go_wp2_with fail
      go_roundg (m.length - k - 1)
      case measure => have := Hgk.out; omega
      case rel => exact ⟨k + 1, by have := Hgk.out; omega, by go_num, HB2.out⟩
    · obtain rfl : k = m.length := by omega
      go_wp2_with fail
      go_ret
      exact ⟨rfl, hB.out⟩
end Go.Proofs.Ytkclmfppjhmnjaa

namespace Go.Proofs.Ytkclmfppjhmnjaa
open Go.RowKit Wire Vol Crc

theorem vol_at {b : List Nat} {d r i : Nat} {x : List Nat} (hB : Byt b) (hl : b.length ≤ 60) (h1 : 1 ≤ d) (h2 : d + r ≤ 64) (hx : (volL b d r)[i]? = some x) :
    i < d + r ∧ hdErr x = 0 ∧ hdOf x = (crc 0 b, i, d, r, b.length) ∧ hdP x = (allM b d r).getD i [] ∧ (hdP x).length = szP b.length d ∧ Byt x ∧ 1 ≤ x.length ∧ x.length ≤ 200 ∧ ∀ j y, y < 256 → y ≠ 0 → j < x.length → hdErr (x.set j (x.getD j 0 ^^^ y)) = 10 := by
  obtain ⟨hAr, hAl⟩ := allM_rect hB (show b.length ≤ 65536 by omega) h1 h2
  have hi : i < d + r := by
    have := (List.getElem?_eq_some_iff.1 hx).1
    rw [volL_length, hAl] at this
    exact this
  have hp := getD_some (l := allM b d r) (d := []) (i := i) (by rw [hAl]; exact hi)
  have hpr := hAr _ (List.mem_of_getElem? hp)
  rw [volL_get hp] at hx
  simp only [Option.some.injEq] at hx
  generalize (allM b d r).getD i [] = p at *
  have hs := vhd_small (b := b) (by omega) (d := d) (r := r) (i := i) (by omega) (by omega) (by omega)
  have hsz : szP b.length d ≤ 60 := by
    unfold szP
    refine Nat.max_le.2 ⟨by decide, ?_⟩
    by_cases h0 : b.length = 0
    · rw [h0]
      have : (0 + d - 1) / d = 0 := Nat.div_eq_of_lt (by omega)
      omega
    · have h3 : (b.length + d - 1) / d ≤ b.length := by
        refine Nat.div_le_of_le_mul ?_
        have := Nat.mul_le_mul (show 1 ≤ b.length by omega) (Nat.le_refl d)
        obtain ⟨e, he⟩ : ∃ e, d = e + 1 := ⟨d - 1, by omega⟩
        subst he
        have h4 : (e + 1) * b.length = e * b.length + b.length := by rw [Nat.add_mul, Nat.one_mul]
        have h5 : e ≤ e * b.length := Nat.le_mul_of_pos_right _ (by omega)
        omega
      omega
  have hlb := hdB_le hs
  have hlen : x.length = (hdB (vhd b d r i)).length + p.length + 4 := by rw [← hx, putB_length]
  have hpl := hpr.1
  have hxb : Byt x := by rw [← hx]; exact putB_byt hs hpr.2
  have hput := hd_put (st := crc 0 b) (ix := i) (d := d) (r := r) (n := b.length) (p := p) (crc_lt 0 b) h1 h2 hi (by omega) hpl (by rw [show putB (crc 0 b, i, d, r, b.length) p = x from hx, hlen]; omega)
  rw [show putB (crc 0 b, i, d, r, b.length) p = x from hx] at hput
  refine ⟨hi, hput.1, hput.2.1, hput.2.2, by rw [hput.2.2, hpl], hxb, by omega, by omega, fun j y hy h0 hj => ?_⟩
  have hjx : x.getD j 0 < 256 := hxb _ (List.mem_of_getElem? (getD_some (d := 0) hj))
  have := hd_set (h := vhd b d r i) (p := p) (i := j) (x := x.getD j 0 ^^^ y) ?_ (Nat.xor_lt_two_pow (n := 8) hjx hy) (by rw [hx]; exact hj) ?_ (by rw [hx]; omega)
  · rw [hx] at this; exact this
  · intro z hz
    rcases List.mem_append.1 hz with hz | hz
    · exact hdB_byt hs z hz
    · exact hpr.2 z hz
  · rw [hx]
    intro e
    apply h0
    have h7 : x.getD j 0 ^^^ (x.getD j 0 ^^^ y) = x.getD j 0 ^^^ x.getD j 0 := by rw [← e]
    rw [← Nat.xor_assoc, Nat.xor_self, Nat.zero_xor] at h7
    exact h7
end Go.Proofs.Ytkclmfppjhmnjaa
