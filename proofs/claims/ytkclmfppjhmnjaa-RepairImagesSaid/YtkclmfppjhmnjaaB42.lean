/- The contract of (set).all. -/
/- The contract of (set).join. -/
/- The contract of volume.Join. -/
/- Plain: the examples of the chapter. -/
import Derived.Test.YtkclmfppjhmnjaaB37
import Derived.Test.YtkclmfppjhmnjaaB21
import Derived.Maps.RangeWalk
import Derived.Test.YtkclmfppjhmnjaaB40
import Derived.Test.YtkclmfppjhmnjaaB12
import Derived.Test.YtkclmfppjhmnjaaB13
import Derived.Deep.RegionHeld3
namespace Go.Proofs.Ytkclmfppjhmnjaa
open Go.RowKit Wire Vol Crc Go.Maps

/-- The parts that have come out of the map. -/
def alL (vs : List Value) (P : List (List Nat)) (left : Lit → Bool) : List Value :=
  (List.range P.length).map fun i => if P.getD i [] ≠ [] ∧ left (.int .i64 (i : Nat)) = false then vs.getD i (.slice none 0 0) else .slice none 0 0
theorem alL_length (vs : List Value) (P : List (List Nat)) (left : Lit → Bool) : (alL vs P left).length = P.length := by simp [alL]
theorem alL_start {D : DataW Value} {vs : List Value} {P : List (List Nat)} (hM : MapOf D vs P) : alL vs P (Maps.has D) = List.replicate P.length (.slice none 0 0) := by
  unfold alL
  rw [List.eq_replicate_iff]
  refine ⟨by simp, fun x hx => ?_⟩
  obtain ⟨i, hi, rfl⟩ := List.mem_map.1 hx
  rw [List.mem_range] at hi
  rw [if_neg]
  rintro ⟨h1, h2⟩
  rw [(hM.2.2 i hi h1).1] at h2
  cases h2
theorem alL_step {vs : List Value} {P : List (List Nat)} {left : Lit → Bool} {i : Nat} (hi : i < P.length) (hp : P.getD i [] ≠ []) :
    alL vs P (fun z => left z && !z.sameKey (.int .i64 (i : Nat))) = (alL vs P left).set i (vs.getD i (.slice none 0 0)) := by
  apply List.ext_getElem?
  intro j
  unfold alL
  rw [List.getElem?_set, List.getElem?_map, List.getElem?_map, List.length_map, List.length_range]
  by_cases hj : j < P.length
  · rw [List.getElem?_range hj, Option.map_some, Option.map_some]
    by_cases h : i = j
    · subst h
      have hs : (left (.int .i64 (i : Int)) && !(Lit.int .i64 (i : Int)).sameKey (.int .i64 (i : Int))) = false := by rw [WideAt.sameKey_self (isKeyInt i)]; simp
      simp only [hs, hi, if_true]
      rw [if_pos ⟨hp, trivial⟩]
    · rw [if_neg h]
      have hs : (Lit.int .i64 (j : Int)).sameKey (.int .i64 (i : Int)) = false := sameKey_ne fun e => h (i64_inj e).symm
      simp only [hs, Bool.not_false, Bool.and_true]
  · have hn : (List.range P.length)[j]? = none := List.getElem?_eq_none (by simp; omega)
    rw [hn, Option.map_none]
    by_cases h : i = j
    · omega
    · rw [if_neg h, Option.map_none]
theorem alL_done {w : World} {vs : List Value} {P : List (List Nat)} {left : Lit → Bool} (hl : ∀ kl, left kl = false) (hV : HdsOk w vs P) : HdsOk w (alL vs P left) P := by
  refine ⟨alL_length _ _ _, fun i x r hx hr => ?_⟩
  have hi := (List.getElem?_eq_some_iff.1 hr).1
  unfold alL at hx
  rw [List.getElem?_map, List.getElem?_range hi] at hx
  simp only [Option.map_some, Option.some.injEq] at hx
  have e : P.getD i [] = r := by rw [List.getD_eq_getElem?_getD, hr]; rfl
  rw [e, hl] at hx
  by_cases h0 : r = []
  · subst h0
    rw [if_neg (by simp)] at hx
    subst hx
    exact HdOk.nil w
  · rw [if_pos ⟨h0, rfl⟩] at hx
    subst hx
    exact hV.2 i _ r (getD_some (by rw [hV.1]; exact hi)) hr
theorem wpList_next_all (w : World) {ops : Array Oper} {rest : List Oper} {o : Oper} {a : Act} {Q : Exit → Act → World → Prop} (hg : o.guard = none) (it : Operand) (hop : o.op = Op.next it false) (b r n : Nat) (D : DataW Value) (left : Lit → Bool) (cnt : Nat) (vs : List Value) (P : List (List Nat)) {w0 : World} (hV : HdsOk w0 vs P) (hM : MapOf D vs P) (hleft : ∀ kl, left kl = true → Maps.has D kl = true)
    (hit : a.eval it = .pointer (some ⟨r, 0, none⟩)) (h : w.ranges Try.prog 3 rdV b r n D left cnt)
    (hDone : cnt = 0 → (∀ kl, left kl = false) → wpList Try.prog ops Q rest (a.put o.dst (.tuple #[.bool false])) w)
    (hMore : ∀ (i : Nat) (A : Option Addr) (l C : Nat) (w' : World) (cnt' : Nat), Value.slice A l C = vs.getD i (.slice none 0 0) → i < P.length → P.getD i [] ≠ [] → left (.int .i64 (i : Int)) = true → w'.ranges Try.prog 3 rdV b r n D (fun z => left z && !z.sameKey (.int .i64 (i : Int))) cnt' → cnt' < cnt →
      w.grownBy w' (some r) → w'.heap.size = w.heap.size → (Instr.entry (.pointer (some ⟨r, 0, none⟩))).run Try.prog w' = .ok (.tuple #[.int .i64 (i : Int), .slice A l C]) w' → wpList Try.prog ops Q rest (a.put o.dst (.tuple #[.bool true, .int .i64 (i : Int), .slice A l C])) w') :
    wpList Try.prog ops Q (o :: rest) a w :=
  wpList_next_ranges w hg it hop 3 lawInt rdV (Value.int .i64) (fun v : Value => v) (fun key kl hkey => by obtain ⟨x, rfl, _⟩ := Maps.keyOf_int_inv Try.underlying3 hkey; exact ⟨x, rfl⟩) (fun v y _ => ⟨v, rfl⟩) b r n D left cnt hit h hDone
    (fun x c kl y w' cnt' hkey hlk hv hat hrg hlt hgr hsz hen => by
      obtain ⟨x', ex, rfl, hwx⟩ := Maps.keyOf_int_inv Try.underlying3 hkey
      cases ex
      obtain ⟨i, hi, hk, hp⟩ := hM.2.1 _ (hleft _ hlk)
      simp only [Lit.int.injEq, true_and] at hk
      subst hk
      have hc : c = vs.getD i (.slice none 0 0) := by
        have h1 := hat (.held c)
        rw [(hM.2.2 i hi hp).2] at h1
        unfold rdV at hv
        simp only [Option.some.injEq] at hv
        rw [← hv] at h1
        simp only [DataW.held.injEq] at h1
        exact h1.symm
      obtain ⟨A, C, h1, _⟩ := hV.2 i _ _ (getD_some (l := vs) (d := Value.slice none 0 0) (by rw [hV.1]; exact hi)) (getD_some (l := P) (d := []) hi)
      rw [h1] at hc
      subst hc
      exact hMore i A _ C w' cnt' h1.symm hi hp hlk hrg hlt hgr hsz hen)
theorem ranges_free {w : World} {bm r n cnt : Nat} {D : DataW Value} {left : Lit → Bool} (h : w.ranges Try.prog 3 rdV bm r n D left cnt) (i : Nat) : w.cell? ⟨r, i, none⟩ = none := by
  obtain ⟨_, _, _, _, _, _, _, _, _, hr, _⟩ := h
  simp [World.cell?, hr]
theorem HdsOk.past {w w' : World} {r : Nat} (hn : ∀ i, w.cell? ⟨r, i, none⟩ = none) (hg : w.grownBy w' (some r)) {vs : List Value} {m : List (List Nat)} (h : HdsOk w vs m) : HdsOk w' vs m := by
  refine ⟨h.1, fun i x l hx hr => ?_⟩
  obtain ⟨a, c, h1, h2, h3, h4⟩ := h.2 i x l hx hr
  refine ⟨a, c, h1, h2, h3.imp id fun ⟨b, o, ha, hr⟩ => ⟨b, o, ha, fun i y hy => ?_⟩, h4⟩
  have hc := hr i y hy
  have hne : b ≠ r := fun e => by subst e; rw [hn] at hc; cases hc
  rw [World.cell?_of_block (w := w) (hg.block b (World.block_lt_of_cell? w _ hc) (by simpa using hne))]
  exact hc
theorem grown_setCell (w : World) (p : Addr) (v : Value) : w.grownBy (w.setCell p v) (some p.block) := by
  have h := (Kept.refl (fun k => k = p.block) w).setCell (p := p) (fun _ => rfl) v
  exact ⟨h.os, h.tape, h.output, h.size, fun k hk hn => h.block k hk (fun e => hn (by rw [e]))⟩
/-- What all leaves. -/
def AlRet (P : List (List Nat)) (w : World) (e : Ending) (w' : World) : Prop := ∃ v, e = .returned v ∧ Mx w' v P ∧ Below w.heap.size w w'

set_option maxRecDepth 100000 in
set_option maxHeartbeats 4000000 in
theorem vall_any (h : Hd) (bm n : Nat) (D : DataW Value) (vs : List Value) (P : List (List Nat)) (w : World) (hown : w.ownsMap Try.prog 3 rdV bm n D) (hM : MapOf D vs P) (hV : HdsOk w vs P) (hP : P.length = h.2.2.1 + h.2.2.2.1) (hl : P.length ≤ 1000000) :
    Calls Try.prog 64 #[stV h (.map (some bm))] w (AlRet P w) := by
  obtain ⟨j0, gi, gz0, gz1, gz2⟩ := info_parts infoBytes
  obtain ⟨a1, a2, a3, a4, a5⟩ := h
  dsimp only at hP
  have mk := mkRows P.length (by omega)
  rw [hP] at mk hl
  rw [show ((a3 + a4 : Nat) : Int) = (a3 : Int) + (a4 : Int) by omega] at mk
  have HM := Lib.hid hM
  have HV := Lib.hid hV
  have Hown := Lib.hid ((hown.alloc (.cells #[.int .u32 a1, .int .i64 a2, .int .i64 a3, .int .i64 a4, .int .i64 a5, .map (some bm)] 115)).alloc (.cells (nz (a3 + a4)) 26))
  have hblt := hown.lt
  have hB2 := Lib.hid ((al w (.cells #[.int .u32 a1, .int .i64 a2, .int .i64 a3, .int .i64 a4, .int .i64 a5, .map (some bm)] 115)).alloc (by simp) (.cells (nz (a3 + a4)) 26))
  have hb2 := Lib.hid (Blk.new (w.alloc (.cells #[.int .u32 a1, .int .i64 a2, .int .i64 a3, .int .i64 a4, .int .i64 a5, .map (some bm)] 115)) 26 (nz (a3 + a4)))
  have e2 : ((w.alloc (.cells #[.int .u32 a1, .int .i64 a2, .int .i64 a3, .int .i64 a4, .int .i64 a5, .map (some bm)] 115)).alloc (.cells (nz (a3 + a4)) 26)).heap.size = w.heap.size + 1 + 1 := by simp
  rw [show (w.alloc (.cells #[.int .u32 a1, .int .i64 a2, .int .i64 a3, .int .i64 a4, .int .i64 a5, .map (some bm)] 115)).heap.size = w.heap.size + 1 by simp] at hb2
  clear hM hV hown
  unfold stV stL hdL
  go_enter Try.func64, Try.ntmps64
  go_wp2_with (first
    | (at_range; refine wpList_range_own _ rfl _ 113 rfl 3 26 lawInt Try.underlying113 rdV bm n D rfl Hown.out ?_; intro w0 hrg0 hg0 hs0))
  go_frame
  rw [e2] at hrg0 hs0 ⊢
  have HB0 := Lib.hid (hB2.out.grown hg0 hB2.out.size (fun k hk => by cases hk))
  have Hb0 := Lib.hid (hb2.out.of_same (hg0.block _ hb2.out.lt (by simp)))
  have HR0 := Lib.hid hrg0
  clear mk Hown hB2 hb2 hrg0 hg0
  go_loopw [4] (fun _ wr => ∃ (left : Lit → Bool) (cnt : Nat), wr.ranges Try.prog 3 rdV bm (w.heap.size + 1 + 1) n D left cnt ∧ (∀ kl, left kl = true → Maps.has D kl = true) ∧ Hid (Blk wr (w.heap.size + 1) 26 (alL vs P left)) ∧ Hid (Below w.heap.size w wr))
    (fun _ wr => wr.rangeLeft bm (w.heap.size + 1 + 1))
  case atStart =>
    refine ⟨_, _, HR0.out, fun _ h => h, ?_, HB0.out⟩
    rw [alL_start HM.out, hP]
    have := Hb0.out
    unfold nz at this
    exact this
  case round =>
    obtain ⟨left, cnt, hrg, hlf, hb, hB⟩ := hrel
    have hV := Lib.hid (HV.out.new hB.out)
    go_wp2_with (first
      | (at_next; refine wpList_next_all _ rfl _ rfl bm (w.heap.size + 1 + 1) n D left cnt vs P hV.out HM.out hlf rfl hrg ?_ ?_))
    · intro hc0 hl0
      have HX := Lib.hid (HdsOk.mx (cap := a3 + a4) (alL_done hl0 hV.out) hb.out (by omega))
      go_wp2_with fail
      go_ret
      refine ⟨_, rfl, ?_, hB.out⟩
      have := HX.out
      rw [hP] at this
      exact this
    · intro i A l C w1 cnt1 hx hi hpi hli hrg1 hlt hg1 hs1 hen
      have hb1 := hb.out.of_same (hg1.block _ hb.out.lt (by simp))
      have hB1 := Lib.hid (hB.out.grown hg1 hB.out.size (fun k hk => by cases hk; omega))
      have hi' : i < a3 + a4 := by omega
      have hcl := hb1.cell (i := i) (v := (alL vs P left).getD i (.slice none 0 0)) (getD_some (by rw [alL_length]; omega))
      generalize (alL vs P left).getD i (.slice none 0 0) = old at hcl
      have hfr := hb1.frozen i
      have HLt := Lib.hid hlt
      have HRg := Lib.hid hrg
      have HRg1 := Lib.hid hrg1
      have Hb1 := Lib.hid hb1
      have Hx := Lib.hid hx
      have Hi := Lib.hid (show i < P.length by omega)
      have Hpi := Lib.hid hpi
      have hbk := hb1.lt
      clear hb hV hB hg1 hlt hrg hrg1 hb1 hx hi hpi hli HB0 Hb0 HR0
      go_wp2_with fail
      go_roundw
      case rel =>
        have hgs := grown_setCell w1 ⟨w.heap.size + 1, i, none⟩ (.slice A l C)
        refine ⟨_, cnt1, HRg1.out.kept hgs (by simp; omega) (by simp), ?_, ?_, hB1.out.setCell (p := ⟨w.heap.size + 1, i, none⟩) (Nat.le_succ _) _⟩
        · intro kl hk
          simp only [Bool.and_eq_true] at hk
          exact hlf kl hk.1
        · rw [alL_step Hi.out Hpi.out, show vs.getD i (.slice none 0 0) = .slice A l C by first | exact Hx.out.symm | (rw [List.getD_eq_getElem?_getD]; exact Hx.out.symm)]
          exact Hb1.out.setCell (by rw [alL_length]; exact Hi.out) _
      case measure => rw [(HRg1.out.kept (grown_setCell w1 ⟨w.heap.size + 1, i, none⟩ (.slice A l C)) (by simp; omega) (by simp)).left_eq, HRg.out.left_eq]; exact HLt.out
end Go.Proofs.Ytkclmfppjhmnjaa

namespace Go.Proofs.Ytkclmfppjhmnjaa
open Go.RowKit Wire Vol Crc Go.Maps

def JnRet (l : List Nat) (er : Nat) (w : World) (e : Ending) (w' : World) : Prop := ∃ v, e = .returned (.tuple #[v, .int .i64 er]) ∧ Bs w' v l ∧ Below w.heap.size w w'

set_option maxRecDepth 100000 in
set_option maxHeartbeats 4000000 in
theorem vjoin_any (h : Hd) (bm n : Nat) (D : DataW Value) (vs : List Value) (P : List (List Nat)) (w : World) (hown : w.ownsMap Try.prog 3 rdV bm n D) (hM : MapOf D vs P) (hV : HdsOk w vs P) (hk : SetOk h P) :
    Calls Try.prog 63 #[stV h (.map (some bm))] w (JnRet (jnB h P) (jnErr h P) w) := by
  have hdr := hk.dr
  have hd1 := hk.d1
  have hll := hk.len
  have hln := hk.ln
  have hcr := hk.crc
  have HK := Lib.hid hk
  obtain ⟨a1, a2, a3, a4, a5⟩ := h
  dsimp only at hdr hd1 hll hln hcr
  have HM := Lib.hid hM
  have hBa := al w (.cells #[.int .u32 a1, .int .i64 a2, .int .i64 a3, .int .i64 a4, .int .i64 a5, .map (some bm)] 115)
  have hNb : Blk (w.alloc (.cells #[.int .u32 a1, .int .i64 a2, .int .i64 a3, .int .i64 a4, .int .i64 a5, .map (some bm)] 115)) w.heap.size 115 (stL (a1, a2, a3, a4, a5) (.map (some bm))) := Blk.new w 115 (stL (a1, a2, a3, a4, a5) (.map (some bm))).toArray
  have HO := Lib.hid (hown.alloc (.cells #[.int .u32 a1, .int .i64 a2, .int .i64 a3, .int .i64 a4, .int .i64 a5, .map (some bm)] 115))
  have HV := Lib.hid (hV.new hBa)
  have c0 := hNb.cell (i := 0) rfl
  have c1 := hNb.cell (i := 1) rfl
  have c2 := hNb.cell (i := 2) rfl
  have c3 := hNb.cell (i := 3) rfl
  have c4 := hNb.cell (i := 4) rfl
  have c5 := hNb.cell (i := 5) rfl
  have hz : w.heap.size < (w.alloc (.cells #[.int .u32 a1, .int .i64 a2, .int .i64 a3, .int .i64 a4, .int .i64 a5, .map (some bm)] 115)).heap.size := by simp
  have HBa := Lib.hid hBa
  clear hk hM hV hown hBa hNb
  unfold stV stL hdL
  go_enter Try.func63, Try.ntmps63
  go_wp2_with fail
  generalize w.alloc (.cells #[.int .u32 a1, .int .i64 a2, .int .i64 a3, .int .i64 a4, .int .i64 a5, .map (some bm)] 115) = W0 at *
  go_region_held3 (fun w' => w'.cell? ⟨w.heap.size, 0, none⟩ = some (.int .u32 (a1 : Nat)) ∧ w'.cell? ⟨w.heap.size, 1, none⟩ = some (.int .i64 (a2 : Nat)) ∧ w'.cell? ⟨w.heap.size, 2, none⟩ = some (.int .i64 (a3 : Nat)) ∧ w'.cell? ⟨w.heap.size, 3, none⟩ = some (.int .i64 (a4 : Nat)) ∧ w'.cell? ⟨w.heap.size, 4, none⟩ = some (.int .i64 (a5 : Nat)) ∧ w'.cell? ⟨w.heap.size, 5, none⟩ = some (.map (some bm)))
    (first
      | exact ⟨cell_nw HB2.out c0 hz, cell_nw HB2.out c1 hz, cell_nw HB2.out c2 hz, cell_nw HB2.out c3 hz, cell_nw HB2.out c4 hz, cell_nw HB2.out c5 hz⟩
      | exact ⟨cell_nw HB1.out c0 hz, cell_nw HB1.out c1 hz, cell_nw HB1.out c2 hz, cell_nw HB1.out c3 hz, cell_nw HB1.out c4 hz, cell_nw HB1.out c5 hz⟩
      | exact ⟨c0, c1, c2, c3, c4, c5⟩)
    (first
      | (go_at_call 64
         refine (vall_any (a1, a2, a3, a4, a5) bm n D vs P _ (show W0.drew.ownsMap Try.prog 3 rdV bm n D from HO.out) HM.out (show HdsOk W0.drew vs P from HV.out) hll (by omega)).mono ?_
         rintro e w1 ⟨v1, rfl, hX1, hB1'⟩
         have HX1 := Lib.hid hX1
         have HB1 := Lib.hid (((Below.refl W0.heap.size W0).drew).trans (show Below W0.heap.size W0.drew w1 from hB1'))
         clear hX1 hB1')
      | (go_at_call 95
         refine (pRepair_any v1 P (a3 : Nat) w1 (by omega) HK.out.byt HX1.out (by omega) (by omega)).mono ?_
         rintro e w2 ⟨v2, rfl, hX2, hB2'⟩
         have HX2 := Lib.hid hX2
         have HB2 := Lib.hid (HB1.out.trans (hB2'.mono HB1.out.size))
         clear hX2 hB2'))
  have hz2 : w.heap.size < w2.heap.size := Nat.lt_of_lt_of_le hz HB2.out.size
  have d0 := cell_nw HB2.out c0 hz
  have d2 := cell_nw HB2.out c2 hz
  have d4 := cell_nw HB2.out c4 hz
  have HW2 := Lib.hid (HBa.out.trans (HB2.out.mono HBa.out.size))
  clear c0 c1 c2 c3 c4 c5 hz HB1 HX1 HO HV HM
  by_cases hE : repErr P (a3 : Nat) = 0
  · obtain ⟨hR, hRl, hdl, hFl, hFm, hFb, hAl, hAb⟩ := HK.out.join hE
    have HRl := Lib.hid hRl
    have HAb := Lib.hid hAb
    have HAl := Lib.hid hAl
    have HFl := Lib.hid hFl
    have HE := Lib.hid hE
    dsimp only at hdl hFm hFb
    have hJ1 := Lib.hid (show jnAll (a1, a2, a3, a4, a5) P = (((repRows P (a3 : Nat)).take a3).flatten).take a5 from rfl)
    have hJe := Lib.hid (show jnErr (a1, a2, a3, a4, a5) P = if crc 0 (jnAll (a1, a2, a3, a4, a5) P) ≠ a1 then 10 else 0 by unfold jnErr; exact if_neg (by rw [hE]; simp))
    obtain ⟨v2a, v2c, rfl, hc2, h2⟩ := HX2.out
    obtain ⟨b2, o2, A2, C2, rfl, hM2⟩ : ∃ b o A C, v2a = some ⟨b, o, none⟩ ∧ MxAt w2 b o (repRows P (a3 : Nat)) A C := by
      rcases h2 with h | h
      · have := hRl; rw [h] at this; simp at this; omega
      · exact h
    obtain ⟨M, hMd⟩ : ∃ M, repRows P (a3 : Nat) = M := ⟨_, rfl⟩
    rw [hMd] at hM2 HRl HFl hJ1 hc2 ⊢
    have hNt : (M.take a3).length = a3 := by rw [List.length_take, HRl.out]; omega
    have HMt := Lib.hid (show MxAt w2 b2 o2 (M.take a3) A2 C2 from fun i r hr => hM2 i r (by rw [List.getElem?_take] at hr; split at hr; exact hr; cases hr))
    have HNt := Lib.hid hNt
    rw [hE]
    rw [HRl.out] at hc2 ⊢
    have hda : a3 ≤ v2c := by omega
    have i0 : (0 : Int) ≤ (a3 : Int) := by omega
    have i1 : (a3 : Int) ≤ (v2c : Int) := by omega
    have i2 : (0 : Int) ≤ (a5 : Int) := by omega
    obtain ⟨s5, hs5⟩ : ∃ s, a3 * szP a5 a3 = s := ⟨_, rfl⟩
    have HFl2 := Lib.hid (show ((M.take a3).flatten).length = s5 by rw [← hs5]; exact HFl.out)
    have hF1 : 1 ≤ s5 := by rw [← hs5]; exact Nat.mul_pos (by omega) (szP_pos _ _)
    rw [hs5] at hFm hFb
    have HEr := Lib.hid (show jnErr (a1, a2, a3, a4, a5) P = jnErr (a1, a2, a3, a4, a5) P from rfl)
    clear hE hR hRl hFl hAl hAb hM2 h2 hNt hs5 HFl hMd HX2
    go_wp2_with fail
    go_region_held3 (fun w' => w'.cell? ⟨w.heap.size, 2, none⟩ = some (.int .i64 (a3 : Nat)) ∧ w'.cell? ⟨w.heap.size, 4, none⟩ = some (.int .i64 (a5 : Nat)))
      (first
        | exact ⟨cell_nw HB3.out d2 hz2, cell_nw HB3.out d4 hz2⟩
        | exact ⟨d2, d4⟩)
      (first
        | (go_at_call 96
           refine (show Calls Try.prog 96 #[.slice (some ⟨b2, o2, none⟩) a3 v2c] w2.drew _ from by rw [← HNt.out]; exact Concat_any b2 o2 v2c (M.take a3) A2 C2 w2.drew (by rw [HNt.out]; omega) (by rw [HFl2.out]; omega) HMt.out).mono ?_
           rintro e w3 ⟨v3, rfl, hO3, hB3'⟩
           obtain ⟨g3, k3, rfl, hg3, hk3, hb3⟩ := BO.row hO3 (by intro e; have := HFl2.out; rw [e] at this; simp at this; omega)
           have HO3 := Lib.hid hb3
           have HB3 := Lib.hid (((Below.refl w2.heap.size w2).drew).trans (show Below w2.heap.size w2.drew w3 from hB3'))
           rw [HFl2.out] at hk3 ⊢
           have i3 : (a5 : Int) ≤ (k3 : Int) := by omega
           clear hO3 hb3 hB3'))
    have hz3 : w.heap.size < w3.heap.size := Nat.lt_of_lt_of_le hz2 HB3.out.size
    have c0 := cell_nw HB3.out d0 hz2
    have HW3 := Lib.hid (HW2.out.trans (HB3.out.mono HW2.out.size))
    obtain ⟨J, hJ⟩ : ∃ J, jnAll (a1, a2, a3, a4, a5) P = J := ⟨_, rfl⟩
    have HJb := Lib.hid (show jnB (a1, a2, a3, a4, a5) P = if jnErr (a1, a2, a3, a4, a5) P = 0 then J else [] by unfold jnB; rw [hJ])
    rw [hJ] at hJ1 hJe HAl HAb
    have HS3 := Lib.hid (show Bs w3 (.slice (some ⟨g3, 0, none⟩) a5 k3) J from ⟨_, _, by rw [HAl.out], by rw [HAl.out]; omega, Or.inr ⟨g3, 0, rfl, by rw [hJ1.out]; exact HO3.out.row.take a5⟩⟩)
    have HAl := Lib.hid (show J.length = a5 from HAl.out)
    have hcl := crc_lt 0 J
    have Hcd := Lib.hid (show crc 0 J = crc 0 J from rfl)
    clear d0 d2 d4 hJ HB3 HO3
    go_wp2_with fail
    go_region_held3 (fun w' => w'.cell? ⟨w.heap.size, 0, none⟩ = some (.int .u32 (a1 : Nat)))
      (first
        | exact cell_nw HB4.out c0 hz3
        | exact c0)
      (first
        | (go_at_call 29
           refine (cSum_any (.slice (some ⟨g3, 0, none⟩) a5 k3) J _ (bs_drew HS3.out) HAb.out (by rw [HAl.out]; omega)).mono ?_
           rintro e w4 ⟨rfl, hB4'⟩
           have HB4 := Lib.hid (((Below.refl w3.heap.size w3).drew).trans (show Below w3.heap.size w3.drew w4 from hB4'))
           clear hB4'))
    have HW4 := Lib.hid (HW3.out.trans (HB4.out.mono HW3.out.size))
    have HS4 := Lib.hid (HS3.out.new HB4.out)
    by_cases hc : crc 0 J = a1
    · have t1 : ((crc 0 J : Int) != (a1 : Int)) = false := by rw [hc]; simp
      have HE2 := Lib.hid (show jnErr (a1, a2, a3, a4, a5) P = 0 by rw [hJe.out]; exact if_neg (by simpa using hc))
      clear hc
      go_wp2_with fail
      go_ret2
      exact ⟨_, by rw [HE2.out]; rfl, by rw [HJb.out, if_pos HE2.out]; exact HS4.out, HW4.out⟩
    · have t1 : ((crc 0 J : Int) != (a1 : Int)) = true := by rw [bne_iff_ne]; omega
      have HE2 := Lib.hid (show jnErr (a1, a2, a3, a4, a5) P = 10 by rw [hJe.out]; exact if_pos hc)
      clear hc
      go_wp2_with fail
      go_ret2
      exact ⟨_, by rw [HE2.out]; rfl, by rw [HJb.out, if_neg (by rw [HE2.out]; simp)]; exact bs_nil _, HW4.out⟩
  · have HEq := Lib.hid (show jnErr (a1, a2, a3, a4, a5) P = repErr P (a3 : Nat) by unfold jnErr; exact if_pos hE)
    have HBn := Lib.hid (show jnB (a1, a2, a3, a4, a5) P = [] by unfold jnB; rw [HEq.out]; exact if_neg hE)
    have t1 : ((repErr P (a3 : Nat) : Int) != 0) = true := by rw [bne_iff_ne]; omega
    clear hE
    generalize repErr P (a3 : Nat) = er at *
    go_wp2_with fail
    go_ret2
    exact ⟨_, by rw [HEq.out]; rfl, by rw [HBn.out]; exact bs_nil _, HW2.out⟩
end Go.Proofs.Ytkclmfppjhmnjaa

namespace Go.Proofs.Ytkclmfppjhmnjaa
open Go.RowKit Wire Vol Crc Go.Maps

/-- What Join answers. -/
def jE (L : List (List Nat)) : Nat := if clErr L ≠ 0 then clErr L else jnErr (clHd L) (clP L)
def jB (L : List (List Nat)) : List Nat := if clErr L ≠ 0 then [] else jnB (clHd L) (clP L)

set_option maxRecDepth 100000 in
set_option maxHeartbeats 4000000 in
theorem vJoin_any (v : Value) (L : List (List Nat)) (w : World) (hm : Mx w v L) (hBy : BytM L) (hLl : L.length ≤ 1000000000) (hl : ∀ b ∈ L, b.length ≤ 100000000) : Calls Try.prog 32 #[v] w (JnRet (jB L) (jE L) w) := by
  have HC := Lib.hid (vcollect_any v L w hm hBy hLl hl)
  have HBy := Lib.hid hBy
  obtain ⟨a, cap, rfl, hcap, _⟩ := hm
  clear hBy hl
  go_enter Try.func32, Try.ntmps32
  go_wp2_with fail
  refine HC.out.mono ?_
  rintro e w1 ⟨mo, rfl, hS, hB1⟩
  obtain ⟨h, hh⟩ : ∃ h, clHd L = h := ⟨_, rfl⟩
  obtain ⟨P, hP⟩ : ∃ P, clP L = P := ⟨_, rfl⟩
  have hOk : clErr L = 0 → SetOk h P := fun hE => by rw [← hh, ← hP]; exact (setOk_cl HBy.out hE).1
  have HjE := Lib.hid (show jE L = if clErr L ≠ 0 then clErr L else jnErr h P by unfold jE; rw [hh, hP])
  have HjB := Lib.hid (show jB L = if clErr L ≠ 0 then [] else jnB h P by unfold jB; rw [hh, hP])
  rw [hP] at hS
  rw [hh]
  obtain ⟨er, her⟩ : ∃ er, clErr L = er := ⟨_, rfl⟩
  rw [her] at hS HjE HjB hOk ⊢
  have HB1 := Lib.hid hB1
  have HS := Lib.hid hS
  have HOk := Lib.hid hOk
  clear hS hOk hB1 HC hh hP her
  by_cases hE : er = 0
  · subst hE
    obtain ⟨bm, n, D, vs, rfl, hown, hM, hV⟩ := HS.out rfl
    have hal := al w1 (.cells (stL h (.map (some bm))).toArray 115)
    have HN := Lib.hid ((show Blk (w1.alloc (.cells (stL h (.map (some bm))).toArray 115)) w1.heap.size 115 (stL h (.map (some bm))) from Blk.new w1 115 _).range)
    have HO := Lib.hid (hown.alloc (.cells (stL h (.map (some bm))).toArray 115))
    have HV := Lib.hid (hV.new hal)
    have HJ := Lib.hid (vjoin_any h bm n D vs P _ HO.out hM HV.out (HOk.out rfl))
    have HB2 := Lib.hid (HB1.out.trans (hal.mono HB1.out.size))
    obtain ⟨a1, a2, a3, a4, a5⟩ := h
    unfold stV stL hdL at *
    clear hal hown hM hV HS
    go_wp2_with fail
    refine HJ.out.mono ?_
    rintro e w2 ⟨v2, rfl, hS2, hB3⟩
    have HS2 := Lib.hid hS2
    have HB3 := Lib.hid (HB2.out.trans (hB3.mono HB2.out.size))
    clear hS2 hB3
    go_wp2_with fail
    go_ret2
    exact ⟨_, by rw [HjE.out]; rfl, by rw [HjB.out]; exact HS2.out, HB3.out⟩
  · have t1 : ((er : Int) != 0) = true := by rw [bne_iff_ne]; omega
    obtain ⟨a1, a2, a3, a4, a5⟩ := h
    have HE := Lib.hid hE
    clear hE
    unfold stV stL hdL
    have HB2 := Lib.hid (HB1.out.alloc HB1.out.size (.cells #[.int .u32 a1, .int .i64 a2, .int .i64 a3, .int .i64 a4, .int .i64 a5, .map mo] 115))
    go_wp2_with fail
    go_ret2
    exact ⟨_, by rw [HjE.out, if_pos HE.out]; rfl, by rw [HjB.out, if_pos HE.out]; exact bs_nil _, HB2.out⟩
end Go.Proofs.Ytkclmfppjhmnjaa

namespace Go.Proofs.Ytkclmfppjhmnjaa
open Go.RowKit Wire Vol Crc Go.Maps

theorem aw_s : spErr [5, 6, 7] 2 1 = 0 := by decide +kernel
theorem aw_n : spErr [] 1 0 = 0 ∧ spL [] 1 0 = [[0, 0, 1, 0, 0, 0] ++ (((spL [] 1 0).getD 0 []).drop 6)] ∧ ((spL [] 1 0).getD 0 []).length = 10 := by decide +kernel
theorem aw_l : (spL [5, 6, 7] 2 1).length = 3 := by decide +kernel
theorem aw_1 : hdErr ((spL [5, 6, 7] 2 1).getD 1 []) = 0 ∧ hdOf ((spL [5, 6, 7] 2 1).getD 1 []) = (crc 0 [5, 6, 7], 1, 2, 1, 3) ∧ hdP ((spL [5, 6, 7] 2 1).getD 1 []) = [7, 0] := by decide +kernel
theorem aw_2 : hdErr ((spL [5, 6, 7] 2 1).getD 2 []) = 0 ∧ hdP ((spL [5, 6, 7] 2 1).getD 2 []) = [136, 6] := by decide +kernel
theorem aw_m : Gf.gm 142 7 = 141 := by decide +kernel
theorem aw_j : jE [(spL [5, 6, 7] 2 1).getD 2 [], (spL [5, 6, 7] 2 1).getD 0 []] = 0 ∧ jB [(spL [5, 6, 7] 2 1).getD 2 [], (spL [5, 6, 7] 2 1).getD 0 []] = [5, 6, 7] := by decide +kernel
theorem aw_b : (spL [5, 6, 7] 2 1).all (fun r => r.all (fun x => decide (x < 256)) && decide (r.length ≤ 100)) = true := by decide +kernel
theorem aw_bm : BytM (spL [5, 6, 7] 2 1) ∧ ∀ r ∈ spL [5, 6, 7] 2 1, r.length ≤ 100 := by
  have h := List.all_eq_true.1 aw_b
  refine ⟨fun r hr x hx => ?_, fun r hr => ?_⟩
  · have := h r hr
    rw [Bool.and_eq_true, List.all_eq_true] at this
    exact of_decide_eq_true (this.1 x hx)
  · have := h r hr
    rw [Bool.and_eq_true] at this
    exact of_decide_eq_true this.2
theorem aw_nb : BytM (spL [] 1 0) := by
  have h : (spL [] 1 0).all (fun r => r.all (fun x => decide (x < 256))) = true := by decide +kernel
  rw [List.all_eq_true] at h
  intro r hr x hx
  have := h r hr
  rw [List.all_eq_true] at this
  exact of_decide_eq_true (this x hx)
end Go.Proofs.Ytkclmfppjhmnjaa
