/- The contract of parity's iterator over the parts that are not lost. -/
/- Contracts of disk.Check, fits, contents, Read. -/
/- The comparison of pages; SamePages. -/
import Derived.Test.YtkclmfppjhmnjaaB01
import Derived.RangeFuncNested
import Derived.RangeFuncBound
import Derived.RangeFuncCalls
import Derived.RangeFuncLeaves
import Derived.RangeFuncBox
import Derived.Shelf.Abstract
import Derived.OwnWalkIn
import Derived.TacticsInMore
import Derived.LoopNIn
import Derived.LoopIn
import Derived.Test.YtkclmfppjhmnjaaB08
import Derived.ChangeKeysEq
namespace Go.Proofs.Ytkclmfppjhmnjaa
open Go.RowKit Go.Shelf

attribute [local go_sem] Oper.semAt_some

def plen (parts : List (List Nat)) (i : Nat) : Nat := (parts.getD i []).length
/-- The index of a part that is not lost. -/
abbrev PI (parts : List (List Nat)) : Type := { i : Nat // i < parts.length ∧ 1 ≤ plen parts i }
/-- Those below k. -/
def piTo (parts : List (List Nat)) : Nat → List (PI parts)
  | 0 => []
  | k + 1 => if h : k < parts.length ∧ 1 ≤ plen parts k then piTo parts k ++ [⟨k, h⟩] else piTo parts k

theorem piTo_yes {parts : List (List Nat)} {k : Nat} (h : k < parts.length ∧ 1 ≤ plen parts k) : piTo parts (k + 1) = piTo parts k ++ [⟨k, h⟩] := by
  show (if h : _ then _ else _) = _; rw [dif_pos h]
theorem piTo_no {parts : List (List Nat)} {k : Nat} (h : ¬ 1 ≤ plen parts k) : piTo parts (k + 1) = piTo parts k := by
  show (if h : _ then _ else _) = _; rw [dif_neg fun e => h e.2]
theorem piTo_length (parts : List (List Nat)) (k : Nat) : (piTo parts k).length ≤ k := by
  induction k with
  | zero => exact Nat.le_refl _
  | succ k ih =>
    by_cases h : k < parts.length ∧ 1 ≤ plen parts k
    · rw [piTo_yes h, List.length_append, List.length_singleton]; omega
    · show List.length (if h : _ then _ else _) ≤ _; rw [dif_neg h]; omega

/-- A part as the iterator hands it over. -/
def pEnc {parts : List (List Nat)} (A : Nat → Option Addr) (C : Nat → Nat) (x : PI parts) : Array Value := #[.int .i64 (x.1 : Nat), .slice (A x.1) (plen parts x.1) (C x.1)]

set_option maxRecDepth 100000 in
set_option maxHeartbeats 2000000 in
theorem present1_in (F : Fence) (n : Nat) (hfn : F.fn 132) (hro : F.round = none) (hn : 1 ≤ n) (l Bs n₀ b o cap : Nat) (parts : List (List Nat)) (A : Nat → Option Addr) (C : Nat → Nat) (hN : parts.length ≤ 1000000000) (hb : b < n₀) (J Jx : List (PI parts) → World → Prop)
    (hY : Hid (∀ pre x W, J pre W → pre.length < parts.length → YieldAt F (n - 1) Try.prog l (pEnc A C x) W fun e W' =>
      (e = .returned (.bool true) ∧ J (pre ++ [x]) W' ∧ Below n₀ W W') ∨ (e = .returned (.bool false) ∧ Jx (pre ++ [x]) W')))
    (W : World) (hBs : W.cell? ⟨Bs, 0, none⟩ = some (.slice (some ⟨b, o, none⟩) parts.length cap)) (hc : Hid (MxAt W b o parts A C)) (h0 : Hid (J [] W)) :
    CallsIn F n Try.prog 132 #[.func (.yield l) #[] #[], .pointer (some ⟨Bs, 0, none⟩)] W fun e W' => (∃ v, e = .returned v) ∧
      ((∃ ys, ys = piTo parts parts.length ∧ J ys W') ∨ (∃ pre, (∃ k, k ≤ parts.length ∧ pre = piTo parts k) ∧ Jx pre W')) := by
  refine callsIn_of_wp Try.func132 rfl hfn ?_ hro
  simp only [Try.ntmps132, List.size_toArray, List.length_cons, List.length_nil, Nat.reduceAdd, Nat.reduceSub, Array.replicate_succ, Array.replicate_zero, List.push_toArray, List.append_toArray, List.nil_append, List.cons_append]
  gi_wp2
  gi_loopw [7] (fun i wr => ∃ k : Nat, k ≤ parts.length ∧ i = .int .i64 k ∧ Hid (J (piTo parts k) wr) ∧ Hid (Below n₀ W wr))
    (fun i _ => parts.length - (intOf i).toNat)
  case atStart => exact ⟨0, Nat.zero_le _, rfl, h0, Below.refl _ _⟩
  case round =>
    obtain ⟨k, hk, rfl, hJs, hnx⟩ := hrel
    by_cases hlt : k < parts.length
    · have hcx' := (hnx.out.cell (p := ⟨b, o + k, none⟩) hb).trans (hc.out k _ (getD_some (d := []) hlt)).1
      rw [show (parts.getD k []).length = plen parts k from rfl] at hcx'
      by_cases hp : 1 ≤ plen parts k
      · have hpl : 0 < plen parts k := by omega
        obtain ⟨fn, tmps, assign, body, hy, hR⟩ := hY.out _ (⟨k, hlt, hp⟩ : PI parts) wr hJs.out (by have := piTo_length parts k; omega)
        unfold pEnc at hy
        dsimp only at hy
        gi_wp2
        refine hR.mono ?_
        rintro e W3 (⟨rfl, hJ3, hk3⟩ | ⟨rfl, hJx3⟩)
        · gi_wp2
          go_roundw
          case rel => exact ⟨k + 1, by omega, by simp, by rw [piTo_yes ⟨hlt, hp⟩]; exact hJ3, hnx.out.trans hk3⟩
          case measure => simp [intOf]; omega
        · gi_wp2
          refine bodyPost_ret (results_none rfl _ _ _) rfl ?_
          exact ⟨⟨_, rfl⟩, .inr ⟨_, ⟨k + 1, by omega, (piTo_yes ⟨hlt, hp⟩).symm⟩, hJx3⟩⟩
      · have hpl : plen parts k ≤ 0 := by omega
        have hpd : decide (0 < (plen parts k : Int)) = false := by simp; omega
        gi_wp2
        refine ⟨fun _ h => (by cases h), ?_⟩
        gi_wp2
        go_roundw
        case rel => exact ⟨k + 1, by omega, by simp, by rw [piTo_no hp]; exact hJs.out, hnx.out⟩
        case measure => simp [intOf]; omega
    · obtain rfl : k = parts.length := by omega
      gi_wp2
      go_end0
      exact ⟨⟨_, rfl⟩, .inl ⟨_, rfl, hJs.out⟩⟩

set_option maxHeartbeats 1000000 in
theorem present_in (F : Fence) (n : Nat) (hfn : F.fn 114) (hro : F.round = none) (a : Option Addr) (len cap : Nat) (w : World) :
    CallsIn F n Try.prog 114 #[.slice a len cap] w fun e w' => e = .returned (.func (.func 132) #[] #[.pointer (some ⟨w.heap.size, 0, none⟩)]) ∧ w' = w.alloc (.cells #[.slice a len cap] 44) := by
  refine callsIn_of_wp Try.func114 rfl hfn ?_ hro
  simp only [Try.ntmps114, List.size_toArray, List.length_cons, List.length_nil, Nat.reduceAdd, Nat.reduceSub, Array.replicate_succ, Array.replicate_zero, List.push_toArray, List.append_toArray, List.nil_append, List.cons_append]
  gi_wp2
  go_ret
  exact ⟨rfl, rfl⟩

theorem present_stops (F : Fence) (n : Nat) (hfn : F.fn 132) (hro : F.round = none) (hn : 1 ≤ n) (Bs n₀ b o cap : Nat) (parts : List (List Nat)) (A : Nat → Option Addr) (C : Nat → Nat) (hN : parts.length ≤ 1000000000) (w : World) (hBs : Bs < w.heap.size) (hb : b < n₀)
    (hc : w.cell? ⟨Bs, 0, none⟩ = some (.slice (some ⟨b, o, none⟩) parts.length cap)) (hM : MxAt w b o parts A C) :
    SeqStopsK F n Try.prog 132 #[.pointer (some ⟨Bs, 0, none⟩)] (pEnc (parts := parts) A C) (Below n₀) (fun ys => ys = piTo parts parts.length) (fun pre => ∃ k, k ≤ parts.length ∧ pre = piTo parts k) parts.length w := fun l J Jx W hW _ _ hY h0 => by
  have hc' := (hW.cell (p := ⟨Bs, 0, none⟩) hBs).trans hc
  exact present1_in F n hfn hro hn l Bs n₀ b o cap parts A C hN hb J Jx hY W hc' (hM.new hW) h0
end Go.Proofs.Ytkclmfppjhmnjaa

namespace Go.Proofs.Ytkclmfppjhmnjaa
open Go.RowKit Img

theorem dkErr_bad {n : Nat} {q : List (Int × List Nat)} (h : n < 1 ∨ 8192 < n) : dkErr n q = 2 := by unfold dkErr; rw [if_pos (by rcases h with h | h <;> simp [h])]
theorem dkErr_out {n : Nat} {q : List (Int × List Nat)} (h1 : 1 ≤ n) (h2 : n ≤ 8192) : dkErr n q = if outB n q then 2 else 0 := by
  unfold dkErr outB
  by_cases h : ∃ p ∈ q, p.1 < 0 ∨ (n : Int) ≤ p.1
  · rw [if_pos (Or.inr (Or.inr h)), if_pos (decide_eq_true h)]
  · rw [if_neg (by rintro (h' | h' | h'); omega; omega; exact h h'), if_neg (by simp [h])]

set_option maxRecDepth 100000 in
set_option maxHeartbeats 400000 in
theorem dCheck_any (a : Option Addr) (n cap : Nat) (vp : Value) (q : List (Int × List Nat)) (w : World) (hn : q.length ≤ 1000000000) (h16 : Q16 q) (hq : Pds w vp q) (hnb : n ≤ 1000000000) :
    Calls Try.prog 39 #[.agg #[.slice a n cap, vp]] w fun e w' => e = .returned (.int .i64 (dkErr n q)) ∧ Below w.heap.size w w' := by
  have hB := (Below.refl w.heap.size w).alloc (Nat.le_refl _) (.cells #[.slice a n cap, vp] 25)
  have c0 : (w.alloc (.cells #[.slice a n cap, vp] 25)).cell? ⟨w.heap.size, 0, none⟩ = some (.slice a n cap) := (Blk.new w 25 #[.slice a n cap, vp]).cell rfl
  have c1 : (w.alloc (.cells #[.slice a n cap, vp] 25)).cell? ⟨w.heap.size, 1, none⟩ = some vp := (Blk.new w 25 #[.slice a n cap, vp]).cell rfl
  have HC := Lib.hid (ContainsPd_any vp q a w.heap.size n cap _ hn h16 (hq.new hB) c0)
  have HB := Lib.hid hB
  clear hB hq h16
  by_cases h1 : n < 1
  · have t1 : decide ((n : Int) < 1) = true := by simp; omega
    have E := Lib.hid (dkErr_bad (q := q) (Or.inl h1))
    clear h1
    go_enter Try.func39, Try.ntmps39
    go_wp2_with fail
    go_ret
    exact ⟨by rw [E.out]; rfl, HB.out⟩
  have t1 : decide ((n : Int) < 1) = false := by simp; omega
  by_cases h2 : 8192 < n
  · have t2 : decide ((8192 : Int) < (n : Int)) = true := by simp; omega
    have E := Lib.hid (dkErr_bad (q := q) (Or.inr h2))
    clear h1 h2
    go_enter Try.func39, Try.ntmps39
    go_wp2_with fail
    go_ret
    exact ⟨by rw [E.out]; rfl, HB.out⟩
  have t2 : decide ((8192 : Int) < (n : Int)) = false := by simp; omega
  have E := Lib.hid (dkErr_out (q := q) (show 1 ≤ n by omega) (by omega))
  clear h1 h2
  cases ho : outB n q with
  | true =>
    rw [ho] at HC E
    clear ho
    go_enter Try.func39, Try.ntmps39
    go_wp2_with fail
    refine HC.out.mono ?_
    rintro e w' ⟨rfl, hB'⟩
    have HB' := Lib.hid (HB.out.trans (hB'.mono HB.out.size))
    clear hB'
    go_wp2_with fail
    go_ret
    exact ⟨by rw [E.out]; rfl, HB'.out⟩
  | false =>
    rw [ho] at HC E
    clear ho
    go_enter Try.func39, Try.ntmps39
    go_wp2_with fail
    refine HC.out.mono ?_
    rintro e w' ⟨rfl, hB'⟩
    have HB' := Lib.hid (HB.out.trans (hB'.mono HB.out.size))
    clear hB'
    go_wp2_with fail
    go_ret
    exact ⟨by rw [E.out]; rfl, HB'.out⟩

/-- All pending writes lie on the disk. -/
def InQ (n : Nat) (q : List (Int × List Nat)) : Prop := ∀ p ∈ q, 0 ≤ p.1 ∧ p.1 < (n : Int)
theorem dkErr_ok {n : Nat} {q : List (Int × List Nat)} (h : dkErr n q = 0) : 1 ≤ n ∧ n ≤ 8192 ∧ InQ n q := by
  unfold dkErr at h
  split at h
  · cases h
  · rename_i hx
    refine ⟨by omega, by omega, fun p hp => ?_⟩
    have : ¬ (p.1 < 0 ∨ (n : Int) ≤ p.1) := fun hy => hx (Or.inr (Or.inr ⟨p, hp, hy⟩))
    omega

theorem spl_all {α : Type} {xs vs : List α} (h : vs.length = xs.length) : spl xs 0 vs = vs := by
  unfold spl; rw [List.take_zero, List.nil_append, Nat.zero_add, h, List.drop_length, List.append_nil]
theorem new_set (wr : World) (T : Nat) (xs : Array Value) {vs : List Value} (h : vs.length = xs.size) : Blk ((wr.alloc (.cells xs T)).setCells wr.heap.size 0 vs) wr.heap.size T vs ∧ Below wr.heap.size wr ((wr.alloc (.cells xs T)).setCells wr.heap.size 0 vs) := by
  refine ⟨?_, below_setCells ((Below.refl _ _).alloc (Nat.le_refl _) _) (Nat.le_refl _) 0 vs⟩
  have h1 := (Blk.new wr T xs).setCells (o := 0) (vs := vs) (by simp; omega)
  rw [spl_all (by simpa using h)] at h1
  exact h1
theorem cont_snoc (l : List (List Nat)) (q : List (Int × List Nat)) (p : Int × List Nat) : cont l (q ++ [p]) = (cont l q).set p.1.toNat p.2 := by
  induction q generalizing l with
  | nil => rfl
  | cons a q ih => rw [List.cons_append, cont, cont, ih]
theorem pgc_set {l : List (List Nat)} (h : P16 l) {i : Nat} (hi : i < l.length) {p : List Nat} (hp : p.length = 16) : pgc (l.set i p) = spl (pgc l) (i * 16) (p.map bv) := by
  unfold pgc; rw [flat_set h hi hp, spl_map]
theorem pgc_length {l : List (List Nat)} (h : P16 l) : (pgc l).length = l.length * 16 := by unfold pgc; rw [List.length_map, flat_len h]
theorem page_size {r : List Nat} (h : r.length = 16) : (Try.prog.info? 82).map (·.size) = some (r.map bv).length := by
  have h2 : (Try.prog.info? 82).map (·.size) = some 16 := by kernel_rfl
  rw [h2, List.length_map, h]
theorem bv_one (r : List Nat) : ∀ v ∈ r.map bv, v.oneCell' = true := by intro u hu; obtain ⟨x, _, rfl⟩ := List.mem_map.1 hu; rfl
theorem pdv_one (p : Int × List Nat) : ∀ v ∈ pdv p, v.oneCell' = true := by
  intro u hu
  unfold pdv at hu
  rcases List.mem_cons.1 hu with h | h
  · rw [h]; rfl
  · exact bv_one _ u h
theorem pdv_len {p : Int × List Nat} (h : p.2.length = 16) : (pdv p).length = 17 := by unfold pdv; rw [List.length_cons, List.length_map, h]

set_option maxRecDepth 100000 in
set_option maxHeartbeats 4000000 in
theorem dcontents_any (vs vp : Value) (l : List (List Nat)) (q : List (Int × List Nat)) (w : World) (hv : Pgs w vs 16 l) (h16 : P16 l) (h1 : 1 ≤ l.length) (hl : l.length ≤ 8192) (hq : Pds w vp q) (hq16 : Q16 q) (hqn : q.length ≤ 1000000000) (hin : InQ l.length q) :
    Calls Try.prog 42 #[.agg #[vs, vp]] w fun e w' => ∃ v', e = .returned v' ∧ PW w' w.heap.size v' (cont l q) ∧ Below w.heap.size w w' := by
  have hB := (Below.refl w.heap.size w).alloc (Nat.le_refl _) (.cells #[vs, vp] 25)
  have c0 : (w.alloc (.cells #[vs, vp] 25)).cell? ⟨w.heap.size, 0, none⟩ = some vs := (Blk.new w 25 #[vs, vp]).cell rfl
  have c1 : (w.alloc (.cells #[vs, vp] 25)).cell? ⟨w.heap.size, 1, none⟩ = some vp := (Blk.new w 25 #[vs, vp]).cell rfl
  have HV := Lib.hid (hv.new hB)
  have HQ := Lib.hid (hq.new hB)
  have HB := Lib.hid hB
  obtain ⟨av, cv, rfl, hcv, _⟩ := hv
  obtain ⟨aq, cq, rfl, hcq, _⟩ := hq
  have H16 := Lib.hid h16
  have Hq16 := Lib.hid hq16
  have Hin := Lib.hid hin
  have hz0 : w.heap.size < (w.alloc (.cells #[.slice av l.length cv, .slice aq q.length cq] 25)).heap.size := by simp
  clear h16 hq16 hin hB
  go_enter Try.func42, Try.ntmps42
  go_wp2_with fail
  generalize w.alloc (.cells #[.slice av l.length cv, .slice aq q.length cq] 25) = W0 at *
  refine (ClonePg_any _ l _ HV.out H16.out (by omega)).mono ?_
  rintro e w1 ⟨v1, rfl, hO, hB1⟩
  obtain ⟨g, cap, rfl, hg, hc1, hc2, hblk⟩ := hO.some (by intro h; rw [h] at h1; simp at h1)
  have Hblk := Lib.hid hblk
  have HB1 := Lib.hid hB1
  have d1 := (hB1.cell (p := ⟨w.heap.size, 1, none⟩) hz0).trans c1
  clear hO hB1 hblk c0 c1
  go_wp2_with fail
  go_loopg [12] q.length (fun gk i wr => ∃ k : Nat, k + gk = q.length ∧ i = .int .i64 k ∧ Hid (Blk wr g 82 (pgc (cont l (q.take k)))) ∧ Hid (Below W0.heap.size W0 wr))
  case atStart => exact ⟨0, by omega, rfl, Hblk.out, HB1.out⟩
  case round =>
    obtain ⟨k, hgk, rfl, hbk, hBr⟩ := hrel
    have Hgk := Lib.hid hgk
    have hkn : k ≤ q.length := by omega
    clear hgk
    by_cases hlt : k < q.length
    · have hpk := List.getElem?_eq_getElem hlt
      obtain ⟨⟨z, r⟩, hpd⟩ : ∃ p, q[k] = p := ⟨_, rfl⟩
      rw [hpd] at hpk
      obtain ⟨bq, oq, haq, hPd⟩ : ∃ b o, aq = some ⟨b, o, none⟩ ∧ PdAt W0 b o q := by
        obtain ⟨a', c', e1, _, e3⟩ := HQ.out
        simp only [Value.slice.injEq] at e1
        rcases e3 with h | ⟨b, o, ha, h⟩
        · rw [h] at hlt; simp at hlt
        · exact ⟨b, o, by rw [e1.1, ha], h⟩
      subst haq
      have hr16 := Hq16.out _ (List.mem_of_getElem? hpk)
      have Hrg := Lib.hid (range_new (hPd k _ hpk) hBr.out)
      have Hsz := Lib.hid (pd_size hr16)
      obtain ⟨hz1, hz2⟩ := Hin.out _ (List.mem_of_getElem? hpk)
      simp only at hr16 hz1 hz2
      have Hth := Lib.hid (fun (xs : Array Value) (hs : xs.size = 17) => (Blk.new wr 96 xs).there (o := 0) (n := (pdv (z, r)).toArray.size) (by simp [pdv_len (p := (z, r)) hr16, hs]))
      have Hsz2 := Lib.hid (show (Try.prog.info? 96).map (·.size) = some (pdv (z, r)).toArray.size by rw [List.size_toArray]; exact Hsz.out)
      have Hone := Lib.hid (all_oneCell_toArray (pdv_one (z, r)))
      obtain ⟨n, rfl⟩ : ∃ n : Nat, z = n := ⟨z.toNat, by omega⟩
      have hnl : n < l.length := by omega
      have HN2 := Lib.hid (new_set wr 96 #[Value.int IntKind.i64 0, Value.int IntKind.u8 0, Value.int IntKind.u8 0, Value.int IntKind.u8 0, Value.int IntKind.u8 0, Value.int IntKind.u8 0, Value.int IntKind.u8 0, Value.int IntKind.u8 0, Value.int IntKind.u8 0, Value.int IntKind.u8 0, Value.int IntKind.u8 0, Value.int IntKind.u8 0, Value.int IntKind.u8 0, Value.int IntKind.u8 0, Value.int IntKind.u8 0, Value.int IntKind.u8 0, Value.int IntKind.u8 0] (pdv_len (p := ((n : Int), r)) hr16))
      have Htk := Lib.hid (show cont l (q.take (k + 1)) = (cont l (q.take k)).set n r by rw [List.take_add_one, hpk]; exact cont_snoc l (q.take k) _)
      have Hcl := Lib.hid (show P16 (cont l (q.take k)) ∧ (cont l (q.take k)).length = l.length from ⟨cont_all H16.out (fun p hp => Hq16.out p (List.mem_of_mem_take hp)), cont_length _ _⟩)
      have hgw : g < wr.heap.size := hbk.out.lt
      clear hpk hpd hPd hz1 hz2
      go_upto_region 5 with (first
        | (refine wpList_load_mid rfl 96 _ rfl bq (oq + k * 17) rfl (pdv ((n : Int), r)) _ Hrg.out Try.underlying96 rfl Hsz.out ?_)
        | (refine wpList_store_mid rfl 96 _ _ rfl wr.heap.size 0 (pdv ((n : Int), r)).toArray rfl rfl (Hth.out _ rfl) Hsz2.out Hone.out ?_))
      generalize (wr.alloc (.cells #[Value.int IntKind.i64 0, Value.int IntKind.u8 0, Value.int IntKind.u8 0, Value.int IntKind.u8 0, Value.int IntKind.u8 0, Value.int IntKind.u8 0, Value.int IntKind.u8 0, Value.int IntKind.u8 0, Value.int IntKind.u8 0, Value.int IntKind.u8 0, Value.int IntKind.u8 0, Value.int IntKind.u8 0, Value.int IntKind.u8 0, Value.int IntKind.u8 0, Value.int IntKind.u8 0, Value.int IntKind.u8 0, Value.int IntKind.u8 0] 96)).setCells wr.heap.size 0 (pdv ((n : Int), r)) = W2 at *
      have x0 := HN2.out.1.cell (i := 0) (v := .int .i64 n) rfl
      have Hr2 := Lib.hid (show W2.rangeAt wr.heap.size 1 (r.map bv) by
        intro j v hv
        have := HN2.out.1.cell (i := j + 1) (v := v) hv
        rw [Nat.add_comm] at this
        exact this)
      have HB2 := Lib.hid (hBr.out.trans (HN2.out.2.mono hBr.out.size))
      have Hbk2 := Lib.hid (hbk.out.below HN2.out.2 hgw)
      have hlc : n * 16 + 16 ≤ (pgc (cont l (q.take k))).length := by rw [pgc_length Hcl.out.1, Hcl.out.2]; omega
      have Hth2 := Lib.hid (Hbk2.out.there (o := n * 16) (n := (r.map bv).toArray.size) (by simp [hr16]; exact hlc))
      have Hps := Lib.hid (page_size hr16)
      have Hps2 := Lib.hid (show (Try.prog.info? 82).map (·.size) = some (r.map bv).toArray.size by rw [List.size_toArray]; exact Hps.out)
      have Hone2 := Lib.hid (all_oneCell_toArray (bv_one r))
      have Hbk3 := Lib.hid (show Blk (W2.setCells g (n * 16) (r.map bv)) g 82 (pgc (cont l (q.take (k + 1)))) by
        rw [Htk.out, pgc_set Hcl.out.1 (by rw [Hcl.out.2]; exact hnl) hr16]
        exact Hbk2.out.setCells (by rw [List.length_map, hr16]; exact hlc))
      have HB3 := Lib.hid (below_setCells HB2.out hg (n * 16) (r.map bv))
      clear hlc HN2 Hth Hsz2 Hone Hrg
      go_wp2_with (first
        | (refine wpList_load_mid rfl 82 _ rfl wr.heap.size 1 rfl (r.map bv) _ Hr2.out Try.underlying82 rfl Hps.out ?_)
        | (refine wpList_store_mid rfl 82 _ _ rfl g (n * 16) (r.map bv).toArray rfl rfl Hth2.out Hps2.out Hone2.out ?_))
      go_roundg (q.length - k - 1)
      case measure => have := Hgk.out; omega
      case rel => exact ⟨k + 1, by have := Hgk.out; omega, by go_num, Hbk3.out, HB3.out⟩
    · have hk := hbk.out
      rw [List.take_of_length_le (by omega)] at hk
      have Hk := Lib.hid (show PW wr w.heap.size (.slice (some ⟨g, 0, none⟩) l.length cap) (cont l q) from ⟨g, cap, by rw [cont_length], by have := HB.out.size; omega, by rw [cont_length]; exact hc1, hc2, hk⟩)
      have HBe := Lib.hid (HB.out.trans (hBr.out.mono HB.out.size))
      clear hk hbk
      go_wp2_with fail
      go_ret
      exact ⟨_, rfl, Hk.out, HBe.out⟩

/-- Some pages of a list of pages. -/
theorem pgs_cut {w : World} {g : Nat} {l : List (List Nat)} {i n q c : Nat} (hb : Blk w g 82 (pgc l)) (h16 : P16 l) (hi : i + n ≤ l.length) (hq : n = 0 ∨ q = i * 16) (hc : n ≤ c) : Pgs w (.slice (some ⟨g, q, none⟩) n c) 16 ((l.drop i).take n) := by
  have hl : ((l.drop i).take n).length = n := by rw [List.length_take, List.length_drop]; omega
  refine ⟨_, c, by rw [hl], by omega, ?_⟩
  rcases hq with h | h
  · left; rw [h, List.take_zero]
  · right
    refine ⟨g, q, rfl, fun j r hr => ?_⟩
    have hj := (List.getElem?_eq_some_iff.1 hr).1
    rw [hl] at hj
    rw [List.getElem?_take_of_lt hj, List.getElem?_drop] at hr
    have := (show Blk w g 82 (l.flatten.map bv) from hb).row.page h16 (i + j) r hr
    rw [h, show i * 16 + j * 16 = 0 + (i + j) * 16 by omega]
    exact this

/-- What Read answers. -/
def drErr (n : Nat) (q : List (Int × List Nat)) (i c : Int) : Nat := if dkErr n q = 0 then if 0 ≤ i ∧ 0 ≤ c ∧ i ≤ (n : Int) ∧ c ≤ (n : Int) - i then 0 else 2 else dkErr n q
def drPg (l : List (List Nat)) (q : List (Int × List Nat)) (i c : Int) : List (List Nat) := if drErr l.length q i c = 0 then ((cont l q).drop i.toNat).take c.toNat else []
/-- Pages and an error. -/
def PgErr (l : List (List Nat)) (x : Nat) (w : World) (e : Ending) (w' : World) : Prop := ∃ v', e = .returned (.tuple #[v', .int .i64 x]) ∧ PO w' w.heap.size v' l ∧ Below w.heap.size w w'

set_option maxRecDepth 100000 in
set_option maxHeartbeats 400000 in
theorem dfits_any (a : Option Addr) (n cap : Nat) (vp : Value) (i c : Int) (w : World) (hn : n ≤ 1000000000) (hi : -9223372036854775808 ≤ i ∧ i ≤ 9223372036854775807) :
    Calls Try.prog 40 #[.agg #[.slice a n cap, vp], .int .i64 i, .int .i64 c] w fun e w' => e = .returned (.bool (decide (0 ≤ i ∧ 0 ≤ c ∧ i ≤ (n : Int) ∧ c ≤ (n : Int) - i))) ∧ Below w.heap.size w w' := by
  have hB := (Below.refl w.heap.size w).alloc (Nat.le_refl _) (.cells #[.slice a n cap, vp] 25)
  have c0 : (w.alloc (.cells #[.slice a n cap, vp] 25)).cell? ⟨w.heap.size, 0, none⟩ = some (.slice a n cap) := (Blk.new w 25 #[.slice a n cap, vp]).cell rfl
  have HB := Lib.hid hB
  clear hB
  by_cases h1 : 0 ≤ i
  · have t1 : decide (0 ≤ i) = true := decide_eq_true h1
    by_cases h2 : 0 ≤ c
    · have t2 : decide (0 ≤ c) = true := decide_eq_true h2
      by_cases h3 : i ≤ (n : Int)
      · have t3 : decide (i ≤ (n : Int)) = true := decide_eq_true h3
        have E := Lib.hid (show decide (0 ≤ i ∧ 0 ≤ c ∧ i ≤ (n : Int) ∧ c ≤ (n : Int) - i) = decide (c ≤ (n : Int) - i) by simp [h1, h2, h3])
        go_enter Try.func40, Try.ntmps40
        go_wp2_with fail
        go_ret
        exact ⟨by first | rfl | (rw [E.out]; rfl), HB.out⟩
      · have t3 : decide (i ≤ (n : Int)) = false := decide_eq_false h3
        have E := Lib.hid (show decide (0 ≤ i ∧ 0 ≤ c ∧ i ≤ (n : Int) ∧ c ≤ (n : Int) - i) = false by simp [h3])
        go_enter Try.func40, Try.ntmps40
        go_wp2_with fail
        go_ret
        exact ⟨by first | rfl | (rw [E.out]; rfl), HB.out⟩
    · have t2 : decide (0 ≤ c) = false := decide_eq_false h2
      have E := Lib.hid (show decide (0 ≤ i ∧ 0 ≤ c ∧ i ≤ (n : Int) ∧ c ≤ (n : Int) - i) = false by simp [h2])
      go_enter Try.func40, Try.ntmps40
      go_wp2_with fail
      go_ret
      exact ⟨by first | rfl | (rw [E.out]; rfl), HB.out⟩
  · have t1 : decide (0 ≤ i) = false := decide_eq_false h1
    have E := Lib.hid (show decide (0 ≤ i ∧ 0 ≤ c ∧ i ≤ (n : Int) ∧ c ≤ (n : Int) - i) = false by simp [h1])
    go_enter Try.func40, Try.ntmps40
    go_wp2_with fail
    go_ret
    exact ⟨by first | rfl | (rw [E.out]; rfl), HB.out⟩

set_option maxRecDepth 100000 in
set_option maxHeartbeats 4000000 in
theorem dRead_any (vs vp : Value) (l : List (List Nat)) (q : List (Int × List Nat)) (i c : Int) (w : World) (hv : Pgs w vs 16 l) (h16 : P16 l) (hl : l.length ≤ 1000000000) (hq : Pds w vp q) (hq16 : Q16 q) (hqn : q.length ≤ 1000000000) (hi : -9223372036854775808 ≤ i ∧ i ≤ 9223372036854775807) :
    Calls Try.prog 15 #[.agg #[vs, vp], .int .i64 i, .int .i64 c] w (PgErr (drPg l q i c) (drErr l.length q i c) w) := by
  have hB := (Below.refl w.heap.size w).alloc (Nat.le_refl _) (.cells #[vs, vp] 25)
  have Hbk := Lib.hid (Blk.new w 25 #[vs, vp])
  have HV := Lib.hid (hv.new hB)
  have HQ := Lib.hid (hq.new hB)
  have HB := Lib.hid hB
  obtain ⟨av, cv, rfl, hcv, _⟩ := hv
  obtain ⟨aq, cq, rfl, hcq, _⟩ := hq
  have H16 := Lib.hid h16
  have Hq16 := Lib.hid hq16
  have hz0 : w.heap.size < (w.alloc (.cells #[.slice av l.length cv, .slice aq q.length cq] 25)).heap.size := by simp
  have Hagg := Lib.hid (fun (W : World) (h : Blk W w.heap.size 25 [.slice av l.length cv, .slice aq q.length cq]) => (⟨h.cell (i := 0) rfl, h.cell (i := 1) rfl⟩ : W.cell? ⟨w.heap.size, 0, none⟩ = some (.slice av l.length cv) ∧ W.cell? ⟨w.heap.size, 1, none⟩ = some (.slice aq q.length cq)))
  obtain ⟨c0, c1⟩ := Hagg.out _ Hbk.out
  clear h16 hq16 hB
  by_cases hE : dkErr l.length q = 0
  · obtain ⟨hn1, hn2, hin⟩ := dkErr_ok hE
    have Hin := Lib.hid hin
    have HE := Lib.hid hE
    clear hin
    go_enter Try.func15, Try.ntmps15
    go_wp2_with fail
    generalize w.alloc (.cells #[.slice av l.length cv, .slice aq q.length cq] 25) = W0 at *
    refine (dCheck_any av l.length cv _ q _ hqn Hq16.out HQ.out hl).mono ?_
    rintro e w1 ⟨rfl, hB1⟩
    rw [HE.out]
    have Hb1 := Lib.hid (Hbk.out.below hB1 hz0)
    obtain ⟨d0, d1⟩ := Hagg.out _ Hb1.out
    have HV1 := Lib.hid (HV.out.new hB1)
    have HQ1 := Lib.hid (HQ.out.new hB1)
    have HB1 := Lib.hid (HB.out.trans (hB1.mono HB.out.size))
    have hz1 : w.heap.size < w1.heap.size := Hb1.out.lt
    clear hB1 c0 c1 HV HQ hE
    go_wp2_with fail
    refine (dfits_any av l.length cv _ i c _ hl hi).mono ?_
    rintro e w2 ⟨rfl, hB2⟩
    have Hb2 := Lib.hid (Hb1.out.below hB2 hz1)
    obtain ⟨f0, f1⟩ := Hagg.out _ Hb2.out
    have HV2 := Lib.hid (HV1.out.new hB2)
    have HQ2 := Lib.hid (HQ1.out.new hB2)
    have HB2 := Lib.hid (HB1.out.trans (hB2.mono HB1.out.size))
    clear hB2 d0 d1 HV1 HQ1
    by_cases hf : 0 ≤ i ∧ 0 ≤ c ∧ i ≤ (l.length : Int) ∧ c ≤ (l.length : Int) - i
    · have HX := Lib.hid (show drErr l.length q i c = 0 by unfold drErr; rw [if_pos HE.out, if_pos hf])
      rw [decide_eq_true hf]
      obtain ⟨f1', f2', f3', f4'⟩ := hf
      obtain ⟨i, rfl⟩ : ∃ n : Nat, i = n := ⟨i.toNat, by omega⟩
      obtain ⟨c, rfl⟩ : ∃ n : Nat, c = n := ⟨c.toNat, by omega⟩
      go_wp2_with fail
      refine (dcontents_any _ _ l q _ HV2.out H16.out hn1 hn2 HQ2.out Hq16.out hqn Hin.out).mono ?_
      rintro e w3 ⟨v3, rfl, hW, hB3⟩
      obtain ⟨g, cap, rfl, hg, hc1, hc2, hblk⟩ := hW
      rw [cont_length] at hc1 ⊢
      have Hblk := Lib.hid hblk
      have HB3 := Lib.hid (HB2.out.trans (hB3.mono HB2.out.size))
      have Hc16 := Lib.hid (show P16 (cont l q) from cont_all H16.out (fun p hp => Hq16.out p hp))
      have hic : i + c ≤ l.length := by omega
      clear hB3 hblk f0 f1
      have Hret := Lib.hid (show drPg l q i c = ((cont l q).drop i).take c by unfold drPg; rw [if_pos HX.out, Int.toNat_natCast, Int.toNat_natCast])
      go_wp2_with fail
      all_goals
        refine (ClonePg_any _ (((cont l q).drop i).take c) _ (pgs_cut Hblk.out Hc16.out (by rw [cont_length]; exact hic) (by first | exact Or.inr rfl | exact Or.inl (by omega)) (by omega)) (fun r hr => Hc16.out r (List.mem_of_mem_drop (List.mem_of_mem_take hr))) (by rw [List.length_take, List.length_drop, cont_length]; omega)).mono ?_
        rintro e w4 ⟨v4, rfl, hO, hB4⟩
        have HO := Lib.hid (hO.base HB3.out.size)
        have HB4 := Lib.hid (HB3.out.trans (hB4.mono HB3.out.size))
        clear hO hB4
        go_wp2_with fail
        go_ret2
        exact ⟨_, by rw [HX.out]; rfl, by rw [Hret.out]; exact HO.out, HB4.out⟩
    · have HX := Lib.hid (show drErr l.length q i c = 2 by unfold drErr; rw [if_pos HE.out, if_neg hf])
      rw [decide_eq_false hf]
      go_wp2_with fail
      go_ret2
      exact ⟨_, by rw [HX.out]; rfl, by unfold drPg; rw [if_neg (by rw [HX.out]; decide)]; exact PO.nil _ _, HB2.out⟩
  · have HX := Lib.hid (show drErr l.length q i c = dkErr l.length q by unfold drErr; rw [if_neg hE])
    have HE := Lib.hid (show dkErr l.length q = 2 by unfold dkErr at hE ⊢; split at hE; (rename_i h; rw [if_pos h]); exact absurd rfl hE)
    clear hE
    go_enter Try.func15, Try.ntmps15
    go_wp2_with fail
    generalize w.alloc (.cells #[.slice av l.length cv, .slice aq q.length cq] 25) = W0 at *
    refine (dCheck_any av l.length cv _ q _ hqn Hq16.out HQ.out hl).mono ?_
    rintro e w1 ⟨rfl, hB1⟩
    rw [HE.out]
    have HB1 := Lib.hid (HB.out.trans (hB1.mono HB.out.size))
    clear hB1
    go_wp2_with fail
    go_ret2
    exact ⟨_, by rw [HX.out, HE.out]; rfl, by unfold drPg; rw [if_neg (by rw [HX.out, HE.out]; decide)]; exact PO.nil _ _, HB1.out⟩
end Go.Proofs.Ytkclmfppjhmnjaa

namespace Go.Proofs.Ytkclmfppjhmnjaa
open Go.RowKit Img

theorem wpList_want {P : Program} {ops : Array Oper} {Q : Exit → Act → World → Prop} {a : Act} {w : World} {rest : List Oper} {o : Oper} (hw : Region.wanted o (yielded ops a.tmps) = true)
    (h : ∀ K : Act → World → Prop, (∀ a w, wpList P ops Q rest a w → K a w) → o.wp P a w K Q) : wpList P ops Q (o :: rest) a w :=
  wpList_step fun K hK => by rw [if_pos hw]; exact h K hK

theorem beq_cast (x y : Nat) : ((x : Int) == (y : Int)) = decide (x = y) := by
  rw [Bool.eq_iff_iff, beq_iff_eq, decide_eq_true_eq]; omega
theorem eqItems_bytes (d : Nat) (r s : List Nat) (w : World) (is : List Nat) (h : ∀ i ∈ is, i < r.length ∧ i < s.length) :
    (Op.eqItems (d + 1) 5 1 (r.map bv).toArray (s.map bv).toArray is).run Try.prog w = .ok (decide (∀ i ∈ is, r.getD i 0 = s.getD i 0)) w := by
  induction is with
  | nil => simp [Op.eqItems]
  | cons i is ih =>
    obtain ⟨h1, h2⟩ := h i (List.mem_cons_self ..)
    have e1 : (r.map bv).toArray[i * 1]? = some (bv (r.getD i 0)) := by rw [Nat.mul_one, List.getElem?_toArray, List.getElem?_map, getD_some (d := 0) h1]; rfl
    have e2 : (s.map bv).toArray[i * 1]? = some (bv (s.getD i 0)) := by rw [Nat.mul_one, List.getElem?_toArray, List.getElem?_map, getD_some (d := 0) h2]; rfl
    have hk : Try.prog.plainKey 5 = true := by kernel_rfl
    unfold Op.eqItems
    simp only [Sem.run_bind, run_part_plain w hk e1, run_part_plain w hk e2, Result.andThen_ok]
    rw [show bv (r.getD i 0) = .int .u8 (r.getD i 0 : Nat) from rfl, show bv (s.getD i 0) = .int .u8 (s.getD i 0 : Nat) from rfl, run_equalIn_int w d 5 .u8 .u8 _ _ Try.underlying5, Result.andThen_ok, beq_cast]
    by_cases he : r.getD i 0 = s.getD i 0
    · rw [decide_eq_true he]
      simp only [Bool.not_true, Bool.false_eq_true, if_false]
      have e : decide (∀ j ∈ i :: is, r.getD j 0 = s.getD j 0) = decide (∀ j ∈ is, r.getD j 0 = s.getD j 0) := by
        rw [Bool.eq_iff_iff, decide_eq_true_eq, decide_eq_true_eq]
        exact ⟨fun hx j hj => hx j (List.mem_cons_of_mem _ hj), fun hx j hj => by
          rcases List.mem_cons.1 hj with hj | hj
          · rw [hj]; exact he
          · exact hx j hj⟩
      rw [ih (fun j hj => h j (List.mem_cons_of_mem _ hj)), e]
    · rw [decide_eq_false he]
      simp only [Bool.not_false, if_true, Sem.run_pure]
      rw [decide_eq_false fun hx => he (hx i (List.mem_cons_self ..))]

theorem eq_page (r s : List Nat) (w : World) (hr : r.length = 16) (hs : s.length = 16) : (binOp .eql 82 (.agg (r.map bv).toArray) (.agg (s.map bv).toArray)).run Try.prog w = .ok (.bool (decide (r = s))) w := by
  obtain ⟨i0, hi, _⟩ := info_parts infoByte
  have hc : Try.prog.cellsOf 5 = 1 := by kernel_rfl
  rw [run_eql_struct, show (10000 : Nat) = 9999 + 1 from rfl, run_equalIn_array w 9999 _ _ Try.underlying82 hi, hc, show (9999 : Nat) = 9998 + 1 from rfl, eqItems_bytes 9998 r s w (List.range 16) (fun i hi => by have := List.mem_range.1 hi; omega)]
  simp only [Result.andThen_ok]
  suffices h : (∀ i ∈ List.range 16, r.getD i 0 = s.getD i 0) ↔ r = s by
    have e : decide (∀ i ∈ List.range 16, r.getD i 0 = s.getD i 0) = decide (r = s) := by
      rw [Bool.eq_iff_iff, decide_eq_true_eq, decide_eq_true_eq]; exact h
    rw [e]
  constructor
  · intro h
    apply List.ext_getElem?
    intro i
    by_cases hi : i < 16
    · rw [getD_some (d := 0) (by omega), getD_some (l := s) (d := 0) (by omega), h i (List.mem_range.2 hi)]
    · rw [List.getElem?_eq_none (by omega), List.getElem?_eq_none (by omega)]
  · intro h i _; rw [h]
theorem neq_page (r s : List Nat) (w : World) (hr : r.length = 16) (hs : s.length = 16) : (binOp .neq 82 (.agg (r.map bv).toArray) (.agg (s.map bv).toArray)).run Try.prog w = .ok (.bool (!decide (r = s))) w := by
  have h := eq_page r s w hr hs
  rw [run_eql_struct] at h
  rw [run_neq_struct]
  generalize (Op.equalIn 10000 82 (.agg (r.map bv).toArray) (.agg (s.map bv).toArray)).run Try.prog w = z at *
  cases z with
  | ok b w' =>
    simp only [Result.andThen_ok, Result.ok.injEq, Value.bool.injEq] at h ⊢
    exact ⟨by rw [h.1], h.2⟩
  | halt x w' => simp [Result.andThen] at h

theorem noGuard : Try.prog.eqGuardType Try.prog.depth 82 = false := by kernel_rfl
theorem wp_eq_page {o : Oper} {a : Act} {w : World} {K : Act → World → Prop} {Q : Exit → Act → World → Prop} (x y : Operand) (t' : TypeId) (ho : o.op = .binOp .eql 82 x y t') (r s : List Nat) (hx : a.eval x = .agg (r.map bv).toArray) (hy : a.eval y = .agg (s.map bv).toArray) (hr : r.length = 16) (hs : s.length = 16)
    (h : K (a.put o.dst (.bool (decide (r = s)))) w) : o.wp Try.prog a w K Q := by
  unfold Oper.wp execOp
  simp only [ho, hx, hy, Sem.run_bind, run_eqGuard_agg w .eql 82 x y _ _ noGuard, Result.andThen_ok, eq_page r s w hr hs, Sem.run_pure]
  exact h
theorem wp_neq_page {o : Oper} {a : Act} {w : World} {K : Act → World → Prop} {Q : Exit → Act → World → Prop} (x y : Operand) (t' : TypeId) (ho : o.op = .binOp .neq 82 x y t') (r s : List Nat) (hx : a.eval x = .agg (r.map bv).toArray) (hy : a.eval y = .agg (s.map bv).toArray) (hr : r.length = 16) (hs : s.length = 16)
    (h : K (a.put o.dst (.bool (!decide (r = s)))) w) : o.wp Try.prog a w K Q := by
  unfold Oper.wp execOp
  simp only [ho, hx, hy, Sem.run_bind, run_eqGuard_agg w .neq 82 x y _ _ noGuard, Result.andThen_ok, neq_page r s w hr hs, Sem.run_pure]
  exact h
theorem wpList_eq_page {ops : Array Oper} {rest : List Oper} {o : Oper} {a : Act} {w : World} {Q : Exit → Act → World → Prop} (hw : Region.wanted o (yielded ops a.tmps) = true) (x y : Operand) (t' : TypeId) (ho : o.op = .binOp .eql 82 x y t') (r s : List Nat) (hx : a.eval x = .agg (r.map bv).toArray) (hy : a.eval y = .agg (s.map bv).toArray) (hr : r.length = 16) (hs : s.length = 16) (b : Bool) (hb : decide (r = s) = b)
    (h : wpList Try.prog ops Q rest (a.put o.dst (.bool b)) w) : wpList Try.prog ops Q (o :: rest) a w :=
  wpList_want hw fun _ hK => wp_eq_page x y t' ho r s hx hy hr hs (hK _ _ (by rw [hb]; exact h))
theorem wpList_neq_page {ops : Array Oper} {rest : List Oper} {o : Oper} {a : Act} {w : World} {Q : Exit → Act → World → Prop} (hw : Region.wanted o (yielded ops a.tmps) = true) (x y : Operand) (t' : TypeId) (ho : o.op = .binOp .neq 82 x y t') (r s : List Nat) (hx : a.eval x = .agg (r.map bv).toArray) (hy : a.eval y = .agg (s.map bv).toArray) (hr : r.length = 16) (hs : s.length = 16) (b : Bool) (hb : (!decide (r = s)) = b)
    (h : wpList Try.prog ops Q rest (a.put o.dst (.bool b)) w) : wpList Try.prog ops Q (o :: rest) a w :=
  wpList_want hw fun _ hK => wp_neq_page x y t' ho r s hx hy hr hs (hK _ _ (by rw [hb]; exact h))
theorem wpList_load_want {P : Program} {ops : Array Oper} {rest : List Oper} {op : Oper} {a : Act} {w : World} {Q : Exit → Act → World → Prop} (hw : Region.wanted op (yielded ops a.tmps) = true) (ty : TypeId) (x : Operand) (ho : op.op = .load ty x)
    (b o : Nat) (hx : a.eval x = .pointer (some ⟨b, o, none⟩)) (cs : List Value) (d : TypeDesc) (hc : w.rangeAt b o cs)
    (hu : P.underlying ty = some d) (hd : d.isRow = true) (hi : (P.info? ty).map (·.size) = some cs.length)
    (h : wpList P ops Q rest (a.put op.dst (.agg cs.toArray)) w) : wpList P ops Q (op :: rest) a w :=
  wpList_want hw fun _ hK => wp_load_mid ty x ho b o hx cs d hc hu hd hi (hK _ _ h)
/-- The page of zeros, as the program makes it. -/
def zpv : Value := .agg #[.int .u8 0, .int .u8 0, .int .u8 0, .int .u8 0, .int .u8 0, .int .u8 0, .int .u8 0, .int .u8 0, .int .u8 0, .int .u8 0, .int .u8 0, .int .u8 0, .int .u8 0, .int .u8 0, .int .u8 0, .int .u8 0]
theorem zpv_eq : zpv = .agg (zp.map bv).toArray := rfl
end Go.Proofs.Ytkclmfppjhmnjaa
