/- The contract of awake: the examples of chapter 53 hold. -/
/- Contracts of bytes.Equal, of the reference's SamePages, Same and Few. -/
import Derived.Test.YtkclmfppjhmnjaaB01
import Derived.Test.YtkclmfppjhmnjaaB14
import Derived.Test.YtkclmfppjhmnjaaB10
import Derived.Test.YtkclmfppjhmnjaaB15
import Derived.Test.YtkclmfppjhmnjaaB09
import Derived.Deep.QuietTactic
import Derived.BigQuiet
namespace Go.Proofs.Ytkclmfppjhmnjaa
open Go.RowKit

/-- A matrix of two rows of two bytes, as a literal lays it. -/
def W22 (w : World) (a b c d : Nat) : World :=
  ((w.alloc (.cells #[.int .u8 a, .int .u8 b] 5)).alloc (.cells #[.int .u8 c, .int .u8 d] 5)).alloc (.cells #[.slice (some ⟨w.heap.size, 0, none⟩) 2 2, .slice (some ⟨w.heap.size + 1, 0, none⟩) 2 2] 26)

theorem W22_size (w : World) (a b c d : Nat) : (W22 w a b c d).heap.size = w.heap.size + 3 := by simp [W22]
theorem W22_below (w : World) (a b c d : Nat) : Below w.heap.size w (W22 w a b c d) := (((Below.refl _ _).alloc (Nat.le_refl _) _).alloc (by simp) _).alloc (by simp; omega) _

theorem Mx22 (w : World) (a b c d : Nat) : Mx (W22 w a b c d) (.slice (some ⟨w.heap.size + 2, 0, none⟩) 2 2) [[a, b], [c, d]] := by
  have h1 := ((Blk.new w 5 #[.int .u8 a, .int .u8 b]).alloc (.cells #[.int .u8 c, .int .u8 d] 5)).alloc (.cells #[.slice (some ⟨w.heap.size, 0, none⟩) 2 2, .slice (some ⟨w.heap.size + 1, 0, none⟩) 2 2] 26)
  have h2 := (Blk.new (w.alloc (.cells #[.int .u8 a, .int .u8 b] 5)) 5 #[.int .u8 c, .int .u8 d]).alloc (.cells #[.slice (some ⟨w.heap.size, 0, none⟩) 2 2, .slice (some ⟨w.heap.size + 1, 0, none⟩) 2 2] 26)
  have h3 := Blk.new ((w.alloc (.cells #[.int .u8 a, .int .u8 b] 5)).alloc (.cells #[.int .u8 c, .int .u8 d] 5)) 26 #[.slice (some ⟨w.heap.size, 0, none⟩) 2 2, .slice (some ⟨w.heap.size + 1, 0, none⟩) 2 2]
  have s1 : (w.alloc (.cells #[.int .u8 a, .int .u8 b] 5)).heap.size = w.heap.size + 1 := by simp
  have s2 : ((w.alloc (.cells #[.int .u8 a, .int .u8 b] 5)).alloc (.cells #[.int .u8 c, .int .u8 d] 5)).heap.size = w.heap.size + 2 := by simp
  rw [s1] at h2
  rw [s2] at h3
  refine ⟨_, 2, rfl, by simp, Or.inr ⟨w.heap.size + 2, 0, _, _, rfl, MxAt.two (r := [a, b]) (s := [c, d]) (h3.cell rfl) (h3.cell rfl) ⟨by simp, Or.inr ⟨w.heap.size, 0, rfl, ?_⟩, by simp⟩ ⟨by simp, Or.inr ⟨w.heap.size + 1, 0, rfl, ?_⟩, by simp⟩⟩⟩
  · exact Blk.row (l := [a, b]) h1
  · exact Blk.row (l := [c, d]) h2

/-- A matrix of one row of two bytes. -/
def W12 (w : World) (a b : Nat) : World :=
  (w.alloc (.cells #[.int .u8 a, .int .u8 b] 5)).alloc (.cells #[.slice (some ⟨w.heap.size, 0, none⟩) 2 2] 26)
theorem W12_below (w : World) (a b : Nat) : Below w.heap.size w (W12 w a b) := ((Below.refl _ _).alloc (Nat.le_refl _) _).alloc (by simp) _
theorem Mx12 (w : World) (a b : Nat) : Mx (W12 w a b) (.slice (some ⟨w.heap.size + 1, 0, none⟩) 1 1) [[a, b]] := by
  have h1 := (Blk.new w 5 #[.int .u8 a, .int .u8 b]).alloc (.cells #[.slice (some ⟨w.heap.size, 0, none⟩) 2 2] 26)
  have h3 := Blk.new (w.alloc (.cells #[.int .u8 a, .int .u8 b] 5)) 26 #[.slice (some ⟨w.heap.size, 0, none⟩) 2 2]
  have s1 : (w.alloc (.cells #[.int .u8 a, .int .u8 b] 5)).heap.size = w.heap.size + 1 := by simp
  rw [s1] at h3
  refine ⟨_, 1, rfl, by simp, Or.inr ⟨w.heap.size + 1, 0, fun _ => some ⟨w.heap.size, 0, none⟩, fun _ => 2, rfl, ?_⟩⟩
  intro i r hi
  match i, hi with
  | 0, hi =>
    simp only [List.getElem?_cons_zero, Option.some.injEq] at hi
    subst hi
    exact ⟨h3.cell rfl, by simp, Or.inr ⟨w.heap.size, 0, rfl, Blk.row (l := [a, b]) h1⟩, by simp⟩
  | i + 1, hi => simp at hi

theorem GM.mx {w : World} {B : Nat} {v : Value} {hd : List (Nat × Nat)} {m : List (List Nat)} (h : GM w B v hd m) : Mx w v m := by
  by_cases hm : m = []
  · subst hm
    rcases h.outer.2 with ⟨rfl, _⟩ | ⟨g, cap, cur, rfl, _⟩
    · exact ⟨none, 0, rfl, Nat.le_refl _, Or.inl rfl⟩
    · exact ⟨some ⟨g, 0, none⟩, cap, rfl, Nat.zero_le _, Or.inl rfl⟩
  · obtain ⟨bo, cap, rfl, h1, _, hO⟩ := h.done hm
    exact ⟨_, cap, rfl, h1, Or.inr ⟨bo, 0, _, _, rfl, hO.mxAt⟩⟩

theorem ex1 : invErr [[1, 1], [0, 1]] = 0 ∧ invRows [[1, 1], [0, 1]] = [[1, 1], [0, 1]] ∧ rankOf [[2, 4], [1, 2]] = 1 ∧ rankErr [[2, 4], [1, 2]] = 0 ∧ cauM 1 2 = [[1, 142]] := by decide +kernel
theorem ex2 : Gf.gm 2 128 = 29 ∧ Gf.gm 3 7 = 9 ∧ Gf.gm 16 16 = 29 ∧ Gf.gm 29 2 = 58 ∧ Gf.gpow 2 8 = 29 ∧ Gf.gpow 2 (-1) = 142 ∧ Gf.gi0 2 = 142 ∧ Gf.ge0 2 = 0 := by decide +kernel

theorem Byt2 {a b : Nat} (ha : a < 256) (hb : b < 256) : Byt [a, b] := by
  intro x hx
  simp at hx
  omega
theorem BytM22 {a b c d : Nat} (ha : a < 256) (hb : b < 256) (hc : c < 256) (hd : d < 256) : BytM [[a, b], [c, d]] := by
  intro r hr
  simp at hr
  rcases hr with rfl | rfl
  · exact Byt2 ha hb
  · exact Byt2 hc hd
theorem BytM12 {a b : Nat} (ha : a < 256) (hb : b < 256) : BytM [[a, b]] := by
  intro r hr
  simp at hr
  subst hr
  exact Byt2 ha hb

end Go.Proofs.Ytkclmfppjhmnjaa

namespace Go.Proofs.Ytkclmfppjhmnjaa
open Go.RowKit Img

set_option maxRecDepth 100000 in
theorem bEqual_any (v1 v2 : Value) (a b : List Nat) (w : World) (h1 : Bs w v1 a) (h2 : Bs w v2 b) (ha : Byt a) (hb : Byt b) : Calls Try.prog 17 #[v1, v2] w fun e w' => e = .returned (.bool (decide (a = b))) ∧ w = w' := by
  obtain ⟨a1, c1, rfl, _, r1⟩ := h1
  obtain ⟨a2, c2, rfl, _, r2⟩ := h2
  have q1 := conv_row (c := c1) r1 0
  have q2 := conv_row (c := c2) r2 0
  rw [World.drewN_zero] at q1 q2
  have q3 := Lib.hid (bstr_beq ha hb)
  clear r1 r2 ha hb
  generalize bstr a = x at *
  generalize bstr b = y at *
  go_enter Try.func17, Try.ntmps17
  go_wp2_with fail
  go_ret
  exact ⟨by rw [← q3.out]; rfl, rfl⟩

theorem eqIn_page (r s : List Nat) (w : World) (hr : r.length = 16) (hs : s.length = 16) : (Op.equalIn 10000 82 (.agg (r.map bv).toArray) (.agg (s.map bv).toArray)).run Try.prog w = .ok (decide (r = s)) w := by
  have h := eq_page r s w hr hs
  rw [run_eql_struct] at h
  generalize (Op.equalIn 10000 82 (.agg (r.map bv).toArray) (.agg (s.map bv).toArray)).run Try.prog w = z at *
  cases z with
  | ok b w' =>
    simp only [Result.andThen_ok, Result.ok.injEq, Value.bool.injEq] at h ⊢
    exact h
  | halt x w' => simp [Result.andThen] at h

theorem wpQuiet_w {P : Program} {ops : Array Oper} {C : World → Prop} {Q : Act → Prop} {a : Act} {o : Oper} {rest : List Oper} (hw : Region.wanted o (yielded ops a.tmps) = true) (h : ∀ K : Act → Prop, (∀ a, wpQuiet P ops C Q rest a → K a) → o.quiet P a C K) : wpQuiet P ops C Q (o :: rest) a :=
  wpQuiet_step fun K hK => by rw [if_pos hw]; exact h K hK
theorem quiet_load_mid {P : Program} {op : Oper} {a : Act} {C : World → Prop} {K : Act → Prop} (ty : TypeId) (x : Operand) (ho : op.op = .load ty x) (b o : Nat) (hx : a.eval x = .pointer (some ⟨b, o, none⟩)) (cs : List Value) (d : TypeDesc) (hC : ∀ w, C w → w.rangeAt b o cs)
    (hu : P.underlying ty = some d) (hd : d.isRow = true) (hi : (P.info? ty).map (·.size) = some cs.length) (hk : K (a.put op.dst (.agg cs.toArray))) : op.quiet P a C K :=
  ⟨_, fun w hw => by
    unfold Oper.quietAt execOp
    simp only [ho, hx, Instr.loadAt, Instr.sureAddr, Sem.run_bind, Sem.run_pure, Result.andThen_ok, run_loadVar_mid w b o ty cs d (hC w hw) hu hd hi]
    exact ⟨rfl, rfl⟩, hk⟩
theorem quiet_neq_page {op : Oper} {a : Act} {C : World → Prop} {K : Act → Prop} (x y : Operand) (t' : TypeId) (ho : op.op = .binOp .neq 82 x y t') (r s : List Nat) (hx : a.eval x = .agg (r.map bv).toArray) (hy : a.eval y = .agg (s.map bv).toArray) (hr : r.length = 16) (hs : s.length = 16) (b : Bool) (hb : (!decide (r = s)) = b) (hk : K (a.put op.dst (.bool b))) : op.quiet Try.prog a C K :=
  ⟨_, fun w _ => by
    unfold Oper.quietAt execOp
    simp only [ho, hx, hy, Sem.run_bind, run_eqGuard_agg w .neq 82 x y _ _ noGuard, Result.andThen_ok, neq_page r s w hr hs, Sem.run_pure]
    rw [hb]
    exact ⟨rfl, rfl⟩, hk⟩

/-- The first k pages are the same. -/
def agreeP (a b : List (List Nat)) (k : Nat) : Prop := ∀ i, i < k → a.getD i [] = b.getD i []
theorem agreeP_all {a b : List (List Nat)} (hl : a.length = b.length) (h : agreeP a b a.length) : a = b := by
  apply List.ext_getElem?
  intro i
  by_cases hi : i < a.length
  · rw [getD_some (d := []) hi, getD_some (l := b) (d := []) (by omega), h i hi]
  · rw [List.getElem?_eq_none (by omega), List.getElem?_eq_none (by omega)]

set_option maxRecDepth 100000 in
set_option maxHeartbeats 4000000 in
theorem SamePages_any (v1 v2 : Value) (a b : List (List Nat)) (w : World) (h1 : Pgs w v1 16 a) (h2 : Pgs w v2 16 b) (ha : P16 a) (hb : P16 b) (hl : a.length ≤ 1000000000) :
    Calls Try.prog 16 #[v1, v2] w fun e w' => e = .returned (.bool (decide (a = b))) ∧ ∃ n, w' = w.drewN n := by
  obtain ⟨a1, c1, rfl, hc1, r1⟩ := h1
  obtain ⟨a2, c2, rfl, hc2, r2⟩ := h2
  have Ha := Lib.hid ha
  have Hb := Lib.hid hb
  clear ha hb
  by_cases hlen : a.length = b.length
  · obtain ⟨n, hn⟩ : ∃ n, a.length = n := ⟨_, rfl⟩
    have hnb : b.length = n := by omega
    have R1 := Lib.hid r1
    have R2 := Lib.hid r2
    have Hn := Lib.hid hn
    have Hnb := Lib.hid hnb
    have hnl : n ≤ 1000000000 := by omega
    rw [hn] at hc1 ⊢
    rw [hnb] at hc2 ⊢
    clear hlen hn hnb hl r1 r2
    go_enter Try.func16, Try.ntmps16
    go_wp2_with fail
    go_loopg [5] n (fun gk i wr => ∃ k q : Nat, k + gk = n ∧ i = .int .i64 k ∧ Hid (agreeP a b k) ∧ wr = w.drewN q)
    case atStart => exact ⟨0, 0, by omega, rfl, fun i h => by omega, rfl⟩
    case round =>
      obtain ⟨k, q, hgk, rfl, hag, rfl⟩ := hrel
      have Hgk := Lib.hid hgk
      have hka : k ≤ n := by omega
      clear hgk
      by_cases hlt : k < n
      · have hkA : k < a.length := by rw [Hn.out]; exact hlt
        have hkB : k < b.length := by rw [Hnb.out]; exact hlt
        obtain ⟨b1, o1, rfl, p1⟩ : ∃ b1 o1, a1 = some ⟨b1, o1, none⟩ ∧ PgAt w b1 o1 16 a := by
          rcases R1.out with h | h
          · rw [h] at hkA; simp at hkA
          · exact h
        obtain ⟨b2, o2, rfl, p2⟩ : ∃ b2 o2, a2 = some ⟨b2, o2, none⟩ ∧ PgAt w b2 o2 16 b := by
          rcases R2.out with h | h
          · rw [h] at hkB; simp at hkB
          · exact h
        have g1 := getD_some (l := a) (d := []) hkA
        have g2 := getD_some (l := b) (d := []) hkB
        have l1 := Ha.out _ (List.mem_of_getElem? g1)
        have l2 := Hb.out _ (List.mem_of_getElem? g2)
        have x1 := (p1 k _ g1).range
        have x2 := (p2 k _ g2).range
        obtain ⟨r, hr⟩ : ∃ r, a.getD k [] = r := ⟨_, rfl⟩
        obtain ⟨s, hs⟩ : ∃ s, b.getD k [] = s := ⟨_, rfl⟩
        rw [hr] at x1 l1
        rw [hs] at x2 l2
        have Hr := Lib.hid hr
        have Hs := Lib.hid hs
        have S1 := Lib.hid (page_size l1)
        have S2 := Lib.hid (page_size l2)
        have X1 := Lib.hid (show ∀ W, (∃ n, W = (w.drewN q).drewN n) → W.rangeAt b1 (o1 + k * 16) (r.map bv) by rintro W ⟨n, rfl⟩; exact x1)
        have X2 := Lib.hid (show ∀ W, (∃ n, W = (w.drewN q).drewN n) → W.rangeAt b2 (o2 + k * 16) (s.map bv) by rintro W ⟨n, rfl⟩; exact x2)
        clear g1 g2 p1 p2 hr hs x1 x2 hkA hkB R1 R2
        by_cases hrs : r = s
        · have Hd := Lib.hid (show (!decide (r = s)) = false by rw [decide_eq_true hrs]; rfl)
          have Hag := Lib.hid (show agreeP a b (k + 1) by
            intro i hi
            by_cases h : i = k
            · rw [h, Hr.out, Hs.out, hrs]
            · exact hag.out i (by omega))
          clear hrs
          go_upto_region 6 with (fail)
          refine wp_region_quiet_lit (by kernel_rfl) (by kernel_rfl) ?_
          repeat (first
            | (refine wpQuiet_w (by rfl) (fun K hK => quiet_load_mid 82 _ rfl b1 (o1 + k * 16) rfl (r.map bv) _ X1.out Try.underlying82 rfl S1.out (hK _ ?_)); clear hK K)
            | (refine wpQuiet_w (by rfl) (fun K hK => quiet_load_mid 82 _ rfl b2 (o2 + k * 16) rfl (s.map bv) _ X2.out Try.underlying82 rfl S2.out (hK _ ?_)); clear hK K)
            | (refine wpQuiet_w (by rfl) (fun K hK => quiet_neq_page _ _ _ rfl r s rfl rfl l1 l2 false Hd.out (hK _ ?_)); clear hK K)
            | quiet_step (fail))
          refine wpQuiet_nil ?_
          rintro _ ⟨nq, rfl⟩
          simp only [Act.put, List.setIfInBounds_toArray, List.set_cons_zero, List.set_cons_succ]
          go_wp2_with fail
          go_roundg (n - k - 1)
          case measure => have := Hgk.out; omega
          case rel => exact ⟨k + 1, q + nq, by have := Hgk.out; omega, by go_num, Hag.out, by first | rfl | rw [World.drewN_drewN]⟩
        · have Hd := Lib.hid (show (!decide (r = s)) = true by rw [decide_eq_false hrs]; rfl)
          have Hne := Lib.hid (show decide (a = b) = false from decide_eq_false (fun h => hrs (by rw [← Hr.out, ← Hs.out, h])))
          clear hrs
          go_upto_region 6 with (fail)
          refine wp_region_quiet_lit (by kernel_rfl) (by kernel_rfl) ?_
          repeat (first
            | (refine wpQuiet_w (by rfl) (fun K hK => quiet_load_mid 82 _ rfl b1 (o1 + k * 16) rfl (r.map bv) _ X1.out Try.underlying82 rfl S1.out (hK _ ?_)); clear hK K)
            | (refine wpQuiet_w (by rfl) (fun K hK => quiet_load_mid 82 _ rfl b2 (o2 + k * 16) rfl (s.map bv) _ X2.out Try.underlying82 rfl S2.out (hK _ ?_)); clear hK K)
            | (refine wpQuiet_w (by rfl) (fun K hK => quiet_neq_page _ _ _ rfl r s rfl rfl l1 l2 true Hd.out (hK _ ?_)); clear hK K)
            | quiet_step (fail))
          refine wpQuiet_nil ?_
          rintro _ ⟨nq, rfl⟩
          simp only [Act.put, List.setIfInBounds_toArray, List.set_cons_zero, List.set_cons_succ]
          go_wp2_with fail
          go_ret
          exact ⟨by rw [Hne.out]; rfl, q + nq, by first | rfl | rw [World.drewN_drewN]⟩
      · have Heq := Lib.hid (show decide (a = b) = true from decide_eq_true (agreeP_all (by rw [Hn.out, Hnb.out]) (by rw [Hn.out]; intro i hi; exact hag.out i (by omega))))
        go_wp2_with fail
        go_ret
        exact ⟨by rw [Heq.out]; rfl, q, rfl⟩
  · have t1 : ((a.length : Int) != (b.length : Int)) = true := by simp; omega
    have Hne := Lib.hid (show decide (a = b) = false from decide_eq_false (fun h => hlen (by rw [h])))
    clear r1 r2 hlen
    go_enter Try.func16, Try.ntmps16
    go_wp2_with fail
    go_ret
    exact ⟨by rw [Hne.out]; rfl, 0, rfl⟩

set_option maxRecDepth 100000 in
set_option maxHeartbeats 400000 in
theorem Few48_any (a1 a2 : Option Addr) (n m c1 c2 : Nat) (w : World) (hn : n ≤ 9223372036854775807) (hm : m ≤ 9223372036854775807) : Calls Try.prog 11 #[.agg #[.slice a1 n c1, .slice a2 m c2]] w fun e w' => e = .returned (.bool (decide (n ≤ 500 ∧ m ≤ 200))) ∧ Below w.heap.size w w' := by
  have hB := (Below.refl w.heap.size w).alloc (Nat.le_refl _) (.cells #[.slice a1 n c1, .slice a2 m c2] 25)
  have c0 : (w.alloc (.cells #[.slice a1 n c1, .slice a2 m c2] 25)).cell? ⟨w.heap.size, 0, none⟩ = some (.slice a1 n c1) := (Blk.new w 25 #[.slice a1 n c1, .slice a2 m c2]).cell rfl
  have c1' : (w.alloc (.cells #[.slice a1 n c1, .slice a2 m c2] 25)).cell? ⟨w.heap.size, 1, none⟩ = some (.slice a2 m c2) := (Blk.new w 25 #[.slice a1 n c1, .slice a2 m c2]).cell rfl
  have HB := Lib.hid hB
  clear hB
  by_cases h1 : n ≤ 500
  · have E := Lib.hid (show decide (n ≤ 500 ∧ m ≤ 200) = decide (m ≤ 200) by simp [h1])
    have t1 : decide ((n : Int) ≤ 500) = true := by simp; omega
    have t2 : decide ((m : Int) ≤ 200) = decide (m ≤ 200) := by rw [Bool.eq_iff_iff]; simp; omega
    generalize decide (n ≤ 500 ∧ m ≤ 200) = x at *
    generalize decide (m ≤ 200) = y at *
    clear h1
    go_enter Try.func11, Try.ntmps11
    go_wp2_with fail
    go_ret
    exact ⟨by rw [E.out]; rfl, HB.out⟩
  · have E := Lib.hid (show decide (n ≤ 500 ∧ m ≤ 200) = false by simp [h1])
    have t1 : decide ((n : Int) ≤ 500) = false := by simp; omega
    generalize decide (n ≤ 500 ∧ m ≤ 200) = x at *
    clear h1
    go_enter Try.func11, Try.ntmps11
    go_wp2_with fail
    go_ret
    exact ⟨by rw [E.out]; rfl, HB.out⟩
end Go.Proofs.Ytkclmfppjhmnjaa
