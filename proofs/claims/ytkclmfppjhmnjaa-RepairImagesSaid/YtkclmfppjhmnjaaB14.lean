/- Contracts of galois.Rank, galois.Invert. -/
import Derived.Test.YtkclmfppjhmnjaaB06
import Derived.Test.YtkclmfppjhmnjaaB13
import Derived.Test.YtkclmfppjhmnjaaB10
namespace Go.Proofs.Ytkclmfppjhmnjaa
open Go.RowKit

theorem isMat.rect {m : List (List Nat)} (h : isMat m) (hB : BytM m) : Rect (m.getD 0 []).length m := fun r hr => ⟨h.2.2.2.2 r hr, hB r hr⟩

theorem isMatB_true {m : List (List Nat)} (h : isMat m) : isMatB m = true := decide_eq_true h
theorem isMatB_no {m : List (List Nat)} (h : ¬ isMat m) : isMatB m = false := decide_eq_false h

/-- What Rank returns. -/
def rankOf (m : List (List Nat)) : Nat := if isMat m then (redTo m (m.getD 0 []).length).2 else 0
def rankErr (m : List (List Nat)) : Nat := if isMat m then 0 else 6

/-- n zero bytes. -/
def zs (n : Nat) : Array Value := (List.replicate n (bv 0)).toArray
theorem zs_get {n i : Nat} (h : i < n) : (zs n)[i]? = some (.int .u8 0) := by simp [zs, h, bv]
theorem zs_set (n i x : Nat) : ((zs n).setIfInBounds i (.int .u8 x)).toList = ((List.replicate n 0).set i x).map bv := by
  unfold zs
  rw [Array.toList_setIfInBounds, List.map_set, List.map_replicate]
  rfl

theorem mkBytes (n : Nat) (hn : n ≤ 1000000000) (w : World) : (Instr.makeSlice 26 (.int .i64 n) (.int .i64 n)).run Try.prog w = .ok (.slice (some ⟨w.heap.size, 0, none⟩) n n) (w.alloc (.cells (zs n) 5)) := by
  obtain ⟨i0, hi, hz0, hz1, hz2⟩ := info_parts infoByte
  have h := run_make (P := Try.prog) w 26 5 i0 (.int .u8 0) Try.underlying26 hi hz0 .i64 .i64 (n : Int) (n : Int) (by omega) (by omega) (by rw [hz2]; omega) (by omega)
  rw [h, hz1]
  have e : madeCells (Value.cells (.int .u8 0)) ((n : Int).toNat * 1) = zs n := by
    apply Array.ext
    · simp [size_madeCells, zs]
    · intro i h1 h2
      simp [madeCells, zs, Value.cells, bv, Nat.mod_one]
  rw [e, Int.toNat_natCast]

/-- Two slices of bytes in one new block. -/
theorem MxAt.two {w : World} {b : Nat} {r s : List Nat} {a1 a2 : Option Addr} {c1 c2 : Nat} (h0 : w.cell? ⟨b, 0, none⟩ = some (.slice a1 r.length c1)) (h1 : w.cell? ⟨b, 1, none⟩ = some (.slice a2 s.length c2))
    (r1 : r.length ≤ c1 ∧ (r = [] ∨ ∃ b' o', a1 = some ⟨b', o', none⟩ ∧ RowAt w b' o' r) ∧ (a1 = none → c1 = 0)) (r2 : s.length ≤ c2 ∧ (s = [] ∨ ∃ b' o', a2 = some ⟨b', o', none⟩ ∧ RowAt w b' o' s) ∧ (a2 = none → c2 = 0)) :
    MxAt w b 0 [r, s] (fun i => if i = 0 then a1 else a2) (fun i => if i = 0 then c1 else c2) := by
  intro i t ht
  match i, ht with
  | 0, ht =>
    simp only [List.getElem?_cons_zero, Option.some.injEq] at ht
    subst ht
    exact ⟨h0, r1⟩
  | 1, ht =>
    simp only [List.getElem?_cons_succ, List.getElem?_cons_zero, Option.some.injEq] at ht
    subst ht
    exact ⟨h1, r2⟩
  | i + 2, ht => simp at ht

def unitVec (n i : Nat) : List Nat := (List.replicate n 0).set i 1
theorem unitVec_length (n i : Nat) : (unitVec n i).length = n := by simp [unitVec]
theorem unitVec_byt (n i : Nat) : Byt (unitVec n i) := by
  intro x hx
  rcases List.mem_or_eq_of_mem_set hx with h | h
  · have := List.eq_of_mem_replicate h; omega
  · omega

/-- A matrix beside the unit matrix. -/
def wideM (m : List (List Nat)) : List (List Nat) := m.mapIdx fun i r => r ++ unitVec m.length i
theorem wideM_length (m : List (List Nat)) : (wideM m).length = m.length := by simp [wideM]
theorem wideM_get {m : List (List Nat)} {i : Nat} {r : List Nat} (h : m[i]? = some r) : (wideM m)[i]? = some (r ++ unitVec m.length i) := by simp [wideM, h]
theorem wideM_rect {n : Nat} {m : List (List Nat)} (h : Rect n m) : Rect (n + m.length) (wideM m) := by
  intro x hx
  obtain ⟨i, hi, rfl⟩ := List.mem_mapIdx.1 hx
  have := h _ (List.getElem_mem hi)
  refine ⟨by rw [List.length_append, unitVec_length, this.1], fun y hy => ?_⟩
  rcases List.mem_append.1 hy with h1 | h1
  · exact this.2 y h1
  · exact unitVec_byt _ _ y h1

/-- What Invert returns: the rows, and the number of the error. -/
def invErr (m : List (List Nat)) : Nat := if isMat m then if (m.getD 0 []).length = m.length then if (redTo (wideM m) m.length).2 < m.length then 17 else 0 else 23 else 6
def invRows (m : List (List Nat)) : List (List Nat) := if invErr m = 0 then (redTo (wideM m) m.length).1.map (List.drop m.length) else []

theorem wide_take {m : List (List Nat)} {k : Nat} {r : List Nat} (h : m[k]? = some r) : (wideM m).take (k + 1) = (wideM m).take k ++ [r ++ unitVec m.length k] := by
  rw [List.take_add_one, wideM_get h]; rfl

theorem ne_of_owns {w : World} {B T n : Nat} {v : Value} {xs : List Value} (h : w.ownsRow B T 1 v n xs) (hn : n ≠ 0) : ∃ g cg, v = .slice (some ⟨g, 0, none⟩) n cg ∧ B ≤ g ∧ n ≤ cg ∧ cg ≤ maxLen := by
  rcases h.2 with ⟨h0, hl⟩ | ⟨g, cg, cur, hv, g1, _, g3, g4, _⟩
  · exact absurd hl hn
  · exact ⟨g, cg, hv, g1, g3, g4⟩

theorem OM.mxAt {w : World} {B bo : Nat} {hd : List (Nat × Nat)} {m : List (List Nat)} (h : OM w B bo hd m) : MxAt w bo 0 m (fun i => some ⟨(hd.getD i (0, 0)).1, 0, none⟩) (fun i => (hd.getD i (0, 0)).2) := by
  intro i r hr
  have hi := (List.getElem?_eq_some_iff.1 hr).1
  have hp : hd[i]? = some (hd.getD i (0, 0)) := getD_some (by rw [h.len]; exact hi)
  obtain ⟨h1, h2, h3⟩ := h.rows i _ r hp hr
  have h4 := h.outer.cell (hvs_get hp hr)
  rw [Nat.zero_add]
  exact ⟨h4, h3, Or.inr ⟨_, 0, rfl, h1.row⟩, by simp⟩

theorem map_drop_take {α : Type} {m : List (List α)} {k n : Nat} {r : List α} (h : m[k]? = some r) : (m.map (List.drop n)).take (k + 1) = (m.map (List.drop n)).take k ++ [r.drop n] := by
  rw [List.take_add_one, List.getElem?_map, h]; rfl

set_option maxRecDepth 100000 in
set_option maxHeartbeats 4000000 in
theorem Invert_sq (b o cap : Nat) (m : List (List Nat)) (A : Nat → Option Addr) (C : Nat → Nat) (w : World) (hcap : m.length ≤ cap) (hI : isMat m) (hsq : (m.getD 0 []).length = m.length) (hB : BytM m) (hM : MxAt w b o m A C) :
    Calls Try.prog 131 #[.slice (some ⟨b, o, none⟩) m.length cap] w (RowsErr (invRows m) (invErr m) w) := by
  obtain ⟨i0, hi, hz0, hz1, hz2⟩ := info_parts infoByte
  obtain ⟨j0, gi, gz0, gz1, gz2⟩ := info_parts infoBytes
  have hN1 := hI.1
  have hN2 := hI.2.1
  have hR0 := hI.rect hB
  rw [hsq] at hR0
  have hR := Lib.hid hR0
  have hWR := Lib.hid (wideM_rect hR0)
  have hMx := Lib.hid (show Mx w (.slice (some ⟨b, o, none⟩) m.length cap) m from ⟨_, _, rfl, hcap, Or.inr ⟨b, o, A, C, rfl, hM⟩⟩)
  have hE : invErr m = if (redTo (wideM m) m.length).2 < m.length then 17 else 0 := by unfold invErr; rw [if_pos hI, if_pos hsq]
  have HE := Lib.hid hE
  have HI := Lib.hid hI
  have HM := Lib.hid hM
  have hrk := redTo_rank (wideM m) m.length
  rw [wideM_length] at hrk
  have h0 : m[0]? = some (m.getD 0 []) := getD_some (by omega)
  have H0 := Lib.hid h0
  have Hsq := Lib.hid hsq
  have nq : ((m.length : Int) != (m.length : Int)) = false := by simp
  have mk := mkBytes m.length (by omega)
  clear hI hM hE hR0 h0 hsq hB
  go_enter Try.func131, Try.ntmps131
  go_wp2_with fail
  refine (isMatrix_any _ m _ (by omega) hMx.out).mono ?_
  rintro e w1 ⟨rfl, hB1⟩
  rw [isMatB_true HI.out]
  have HM1 := Lib.hid (HM.out.new hB1)
  have hcell := (HM1.out 0 _ H0.out).1
  rw [Nat.add_zero, Hsq.out] at hcell
  have HB1 := Lib.hid hB1
  clear hB1 HM hMx
  go_wp2_with fail
  clear hcell
  go_loopg [5, 26] m.length (fun gk v i wr => ∃ k : Nat, k + gk = m.length ∧ i = .int .i64 k ∧ Hid (∃ hd, GM wr w1.heap.size v hd ((wideM m).take k)) ∧ Hid (Below w1.heap.size w1 wr))
  case atStart => exact ⟨0, by omega, rfl, ⟨[], GM.nil _ _⟩, Below.refl _ _⟩
  case round =>
    obtain ⟨k, hgk, rfl, hG, hB⟩ := hrel
    have Hgk := Lib.hid hgk
    have hk : k ≤ m.length := by omega
    clear hgk
    by_cases hlt : k < m.length
    · obtain ⟨hd, hG⟩ := hG.out
      have hmk : m[k]? = some (m.getD k []) := getD_some hlt
      have hrl := (hR.out.get hlt).1
      have hMr := HM1.out.new hB.out
      have htk := Lib.hid (wide_take hmk)
      generalize m.getD k [] = r at *
      have hrne : r ≠ [] := by intro h; rw [h] at hrl; simp at hrl; omega
      obtain ⟨b', o', hA, hrow⟩ := RowAt.of_mx hMr hmk hrne
      have hcell := (hMr k r hmk).1
      have hCk := (hMr k r hmk).2.1
      rw [hA] at hcell
      have hzk := zs_get hlt
      have hle1 : r.length ≤ m.length := by omega
      have hle2 : m.length ≤ r.length := by omega
      -- the two slices, in a block of their own
      have h2 : MxAt ((wr.alloc (.cells ((zs m.length).setIfInBounds k (.int .u8 1)) 5)).alloc (.cells #[.slice (some ⟨b', o', none⟩) r.length (C k), .slice (some ⟨wr.heap.size, 0, none⟩) m.length m.length] 26)) (wr.heap.size + 1) 0 [r, unitVec m.length k]
          (fun i => if i = 0 then some ⟨b', o', none⟩ else some ⟨wr.heap.size, 0, none⟩) (fun i => if i = 0 then C k else m.length) := by
        have hnew : Below wr.heap.size wr ((wr.alloc (.cells ((zs m.length).setIfInBounds k (.int .u8 1)) 5)).alloc (.cells #[.slice (some ⟨b', o', none⟩) r.length (C k), .slice (some ⟨wr.heap.size, 0, none⟩) m.length m.length] 26)) :=
          ((Below.refl _ _).alloc (Nat.le_refl _) _).alloc (by simp) _
        have hblk := Blk.new (wr.alloc (.cells ((zs m.length).setIfInBounds k (.int .u8 1)) 5)) 26 #[.slice (some ⟨b', o', none⟩) r.length (C k), .slice (some ⟨wr.heap.size, 0, none⟩) m.length m.length]
        have hsz : (wr.alloc (.cells ((zs m.length).setIfInBounds k (.int .u8 1)) 5)).heap.size = wr.heap.size + 1 := by simp
        rw [hsz] at hblk
        have hu := (Blk.new wr 5 ((zs m.length).setIfInBounds k (.int .u8 1))).alloc (.cells #[.slice (some ⟨b', o', none⟩) r.length (C k), .slice (some ⟨wr.heap.size, 0, none⟩) m.length m.length] 26)
        have hz1 := zs_set m.length k 1
        rw [show ((1 : Nat) : Int) = 1 from rfl] at hz1
        rw [hz1] at hu
        refine MxAt.two (hblk.cell rfl) (by rw [unitVec_length]; exact hblk.cell rfl) ⟨hCk, Or.inr ⟨b', o', rfl, hrow.new hnew⟩, by simp⟩ ⟨by rw [unitVec_length]; exact Nat.le_refl _, Or.inr ⟨_, 0, rfl, ?_⟩, by simp⟩
        exact hu.row
      have H2 := Lib.hid h2
      have hFl : ([r, unitVec m.length k].flatten) = r ++ unitVec m.length k := by simp
      have HFl := Lib.hid hFl
      have Hrl := Lib.hid hrl
      have HG := Lib.hid hG
      have HBr := Lib.hid hB.out
      have hzz : w1.heap.size ≤ wr.heap.size := hB.out.size
      clear hmk hrl hrow hMr hA hG h2 hFl hrne hB
      go_wp2_with fail
      refine (Concat_any (wr.heap.size + 1) 0 2 [r, unitVec m.length k] _ _ _ (by simp) (by rw [HFl.out, List.length_append, unitVec_length]; omega) H2.out).mono ?_
      rintro e w3 ⟨v3, rfl, hown3, hB3⟩
      rw [HFl.out] at hown3
      obtain ⟨g, cg, hv3, g1, g3, g4⟩ := ne_of_owns hown3 (by rw [List.length_append, unitVec_length]; omega)
      rw [hv3] at hown3 ⊢
      have Hblk := Lib.hid (Blk.of_owns hown3)
      have hBw : Below wr.heap.size wr w3 := (((Below.refl _ _).alloc (Nat.le_refl _) _).alloc (by simp) _).trans (hB3.mono (by simp; omega))
      have hg1 : wr.heap.size ≤ g := by simp at g1; omega
      have HBw := Lib.hid hBw
      have HGo := Lib.hid ((HG.out.new hBw).outer)
      have hz3 : w1.heap.size ≤ w3.heap.size := by have := hBw.size; omega
      have hlk : ((wideM m).take k).length = k := by rw [List.length_take, wideM_length]; omega
      have Hlk := Lib.hid hlk
      have Hg3 := Lib.hid g3
      generalize r ++ unitVec m.length k = ru at *
      clear hown3 hB3 hv3 hBw hlk g1 g3 g4 H2 HFl
      go_wp2_with (at_builtin; refine wpList_append_own _ rfl _ _ 44 rfl w1.heap.size 26 j0 (.slice none 0 0) 1 24 Try.underlying44 gi gz0 gz1 gz2 rfl (by decide) _ _ _ rfl (HGo.out.alloc _) ⟨w3.heap.size, 0, none⟩ 1 1 [hv ru.length (g, cg)] rfl rfl ?d1 ?d2 ?d3 ?d4 ?d5 ?_)
      case d1 => exact cell_one_new _ _ _
      case d2 => intro u hu; simp only [List.mem_cons, List.not_mem_nil, or_false] at hu; subst hu; rfl
      case d3 => rw [Hlk.out]; unfold maxLen; omega
      case d4 => rw [Hlk.out]; omega
      case d5 => simp; omega
      intro v' w5 hown hgr _
      have hG5 := HG.out.snoc HBw.out (p := (g, cg)) (r := ru) Hblk.out hg1 HBr.out.size Hg3.out (by simpa [Hlk.out, wideM_length, Nat.min_eq_left hk] using hown) (by simpa using hgr)
      rw [← htk.out] at hG5
      have hB5 : Below w1.heap.size w1 w5 := ((HBr.out.trans (HBw.out.mono HBr.out.size)).alloc hz3 _).grown hgr (by simp; omega) (fun q hq => (owns_block HG.out.outer hq).2.1)
      have HG5 := Lib.hid hG5
      have HB5 := Lib.hid hB5
      clear hown hgr hG5 hB5
      go_wp2_with fail
      go_roundg (m.length - k - 1)
      case measure => have := Hgk.out; omega
      case rel => exact ⟨k + 1, by have := Hgk.out; omega, by go_num, ⟨_, HG5.out⟩, HB5.out⟩
    · have hkn : (wideM m).take k = wideM m := List.take_of_length_le (by rw [wideM_length]; omega)
      obtain ⟨hd, hG⟩ := hG.out
      rw [hkn] at hG
      have hwne : wideM m ≠ [] := by intro h; have := wideM_length m; rw [h] at this; simp at this; omega
      obtain ⟨bo, capo, hv5, c1, c2, hO⟩ := hG.done hwne
      rw [wideM_length] at hv5 c1
      have HMx := Lib.hid hO.mxAt
      rw [hv5]
      have HB := Lib.hid hB.out
      have hzr : w1.heap.size ≤ wr.heap.size := hB.out.size
      clear hG hkn hv5 hO hB mk
      obtain ⟨wa, rfl⟩ : ∃ wa : World, wa = wr := ⟨_, rfl⟩
      go_wp2_with fail
      have hred := reduced_any bo 0 capo (m.length + m.length) m.length (wideM m) _ _ wa (by rw [wideM_length]; omega) (by omega) (by omega) (by omega) hwne hWR.out HMx.out
      rw [wideM_length] at hred
      have Hred := Lib.hid hred
      clear hred hwne
      refine Hred.out.mono ?_
      rintro e w2 ⟨bo2, capo2, hd2, rfl, hO2, k1, k2, hB2⟩
      have hW2R := Lib.hid (redTo_rect hWR.out m.length)
      have hW2l := redTo_length (wideM m) m.length
      rw [wideM_length] at hW2l
      have HW2l := Lib.hid hW2l
      have HO2 := Lib.hid hO2
      have HB2 := Lib.hid hB2
      clear hO2 hB2 hW2l HMx Hred
      have hrows : invRows m = if invErr m = 0 then (redTo (wideM m) m.length).1.map (List.drop m.length) else [] := rfl
      have Hrows := Lib.hid hrows
      clear hrows
      generalize hrr : redTo (wideM m) m.length = RR at *
      obtain ⟨W2, rk⟩ := RR
      dsimp only at hrk HO2 hW2R HW2l ⊢
      have Hrr := Lib.hid hrr
      clear hrr
      have hBall := Lib.hid (HB1.out.trans ((HB.out.trans (HB2.out.mono hzr)).mono HB1.out.size))
      have hzz2 : w.heap.size ≤ w2.heap.size := hBall.out.size
      by_cases hrl : rk < m.length
      · have e1 : invErr m = 17 := by rw [HE.out]; dsimp only; rw [if_pos hrl]
        have e2 : invRows m = [] := by rw [Hrows.out, e1]; rfl
        have E1 := Lib.hid e1
        have E2 := Lib.hid e2
        clear e1 e2
        go_wp2_with fail
        go_ret2
        exact ⟨.slice none 0 0, [], by rw [E1.out]; rfl, by rw [E2.out]; exact GM.nil _ _, hBall.out⟩
      · have e1 : invErr m = 0 := by rw [HE.out]; dsimp only; rw [if_neg hrl]
        have e2 : invRows m = W2.map (List.drop m.length) := by rw [Hrows.out, e1]; rfl
        have E1 := Lib.hid e1
        have E2 := Lib.hid e2
        clear e1 e2
        have HMx2 := Lib.hid HO2.out.mxAt
        go_wp2_with fail
        go_loopg [10, 55] m.length (fun gk v i wr => ∃ k : Nat, k + gk = m.length ∧ i = .int .i64 k ∧ Hid (∃ hd, GM wr w2.heap.size v hd ((W2.map (List.drop m.length)).take k)) ∧ Hid (Below w2.heap.size w2 wr))
        case atStart => exact ⟨0, by omega, rfl, ⟨[], GM.nil _ _⟩, Below.refl _ _⟩
        case round =>
          obtain ⟨j, hgj, rfl, hG, hB⟩ := hrel
          have Hgj := Lib.hid hgj
          have hj : j ≤ m.length := by omega
          clear hgj
          by_cases hltj : j < m.length
          · obtain ⟨hdj, hG⟩ := hG.out
            have hmj : W2[j]? = some (W2.getD j []) := getD_some (by rw [HW2l.out]; exact hltj)
            have hrl2 := (hW2R.out.get (i := j) (by rw [HW2l.out]; exact hltj)).1
            have hMr := HMx2.out.new hB.out
            have htk := Lib.hid (map_drop_take (n := m.length) hmj)
            generalize W2.getD j [] = r at *
            obtain ⟨hcell, hCk, hrow, _⟩ := hMr j r hmj
            dsimp only at hcell hCk hrow
            rw [Nat.zero_add, hrl2] at hcell
            rw [hrl2] at hCk
            obtain ⟨b', o', hA, hrow⟩ : ∃ b' o', some (⟨(hd2.getD j (0, 0)).1, 0, none⟩ : Addr) = some ⟨b', o', none⟩ ∧ RowAt wr b' o' r := by
              rcases hrow with h | h
              · rw [h] at hrl2; simp at hrl2; omega
              · exact h
            simp only [Option.some.injEq, Addr.mk.injEq, and_true] at hA
            obtain ⟨hA1, rfl⟩ := hA
            rw [hA1] at hcell
            generalize hcc : (hd2.getD j (0, 0)).2 = cj at *
            have hdr := hrow.drop m.length
            rw [Nat.zero_add] at hdr
            have hdl : (r.drop m.length).length = m.length := by rw [List.length_drop]; omega
            have Hdr := Lib.hid hdr
            have Hdl := Lib.hid hdl
            have HG := Lib.hid hG
            have HBr := Lib.hid hB.out
            have hzz : w2.heap.size ≤ wr.heap.size := hB.out.size
            clear hmj hMr hrow hdr hdl hG hB hA1 hcc hrl2
            go_wp2_with fail
            refine (Clone_n b' m.length m.length (r.drop m.length) _ _ Hdl.out (by omega) Hdr.out).mono ?_
            rintro e w3 ⟨g, cg, rfl, hg1, hg2, hg3, hgB, hB3⟩
            have HgB := Lib.hid hgB
            have HB3 := Lib.hid hB3
            have Hown := Lib.hid ((HG.out.new hB3).outer)
            have hsz3 : w2.heap.size ≤ w3.heap.size := by have := hB3.size; omega
            have hlk : ((W2.map (List.drop m.length)).take j).length = j := by rw [List.length_take, List.length_map, HW2l.out]; omega
            have Hlk := Lib.hid hlk
            generalize (W2.map (List.drop m.length)).take j = tj at *
            generalize r.drop m.length = rd at *
            clear hgB hB3 hlk
            go_wp2_with (at_builtin; refine wpList_append_own _ rfl _ _ 44 rfl w2.heap.size 26 j0 (.slice none 0 0) 1 24 Try.underlying44 gi gz0 gz1 gz2 rfl (by decide) _ _ _ rfl (Hown.out.alloc _) ⟨w3.heap.size, 0, none⟩ 1 1 [hv m.length (g, cg)] rfl rfl ?e1 ?e2 ?e3 ?e4 ?e5 ?_)
            case e1 => exact cell_one_new _ _ _
            case e2 => intro u hu; simp only [List.mem_cons, List.not_mem_nil, or_false] at hu; subst hu; rfl
            case e3 => rw [Hlk.out]; unfold maxLen; omega
            case e4 => rw [Hlk.out]; omega
            case e5 => simp; omega
            intro v' w5 hown hgr _
            have hG5 := HG.out.snoc HB3.out (p := (g, cg)) (r := rd) HgB.out hg1 HBr.out.size (by rw [Hdl.out]; exact hg2) (by rw [Hdl.out]; exact hown) hgr
            rw [← htk.out] at hG5
            have hB5 : Below w2.heap.size w2 w5 := ((HBr.out.trans (HB3.out.mono HBr.out.size)).alloc hsz3 _).grown hgr (by simp; omega) (fun q hq => (owns_block HG.out.outer hq).2.1)
            have HG5 := Lib.hid hG5
            have HB5 := Lib.hid hB5
            clear hown hgr hG5 hB5
            go_wp2_with fail
            go_roundg (m.length - j - 1)
            case measure => have := Hgj.out; omega
            case rel => exact ⟨j + 1, by have := Hgj.out; omega, by go_num, ⟨_, HG5.out⟩, HB5.out⟩
          · have hkn : (W2.map (List.drop m.length)).take j = W2.map (List.drop m.length) := List.take_of_length_le (by rw [List.length_map, HW2l.out]; omega)
            obtain ⟨hdj, hG⟩ := hG.out
            rw [hkn] at hG
            have HG := Lib.hid hG
            clear hG hkn
            go_wp2_with fail
            go_ret2
            exact ⟨_, hdj, by rw [E1.out]; rfl, by rw [E2.out]; exact HG.out.base hzz2, hBall.out.trans (hB.out.mono hzz2)⟩

set_option maxRecDepth 100000 in
set_option maxHeartbeats 400000 in
theorem Invert_any (v : Value) (m : List (List Nat)) (w : World) (hn : m.length ≤ 1000000000) (hB : BytM m) (hm : Mx w v m) : Calls Try.prog 131 #[v] w (RowsErr (invRows m) (invErr m) w) := by
  by_cases hI : isMat m
  · have hN1 := hI.1
    obtain ⟨a, cap, rfl, hcap, h⟩ := hm
    rcases h with h | ⟨b, o, A, C, rfl, hM⟩
    · subst h; exact absurd hI.1 (by decide)
    by_cases hsq : (m.getD 0 []).length = m.length
    · exact Invert_sq b o cap m A C w hcap hI hsq hB hM
    have e1 : invErr m = 23 := by unfold invErr; rw [if_pos hI, if_neg hsq]
    have e2 : invRows m = [] := by unfold invRows; rw [e1]; rfl
    rw [e1, e2]
    have h0 : m[0]? = some (m.getD 0 []) := getD_some (by omega)
    have hMx := Lib.hid (show Mx w (.slice (some ⟨b, o, none⟩) m.length cap) m from ⟨_, _, rfl, hcap, Or.inr ⟨b, o, A, C, rfl, hM⟩⟩)
    have hne : (((m.getD 0 []).length : Int) != (m.length : Int)) = true := by rw [bne_iff_ne]; omega
    have HI := Lib.hid hI
    have H0 := Lib.hid h0
    have HM := Lib.hid hM
    generalize hr0 : (m.getD 0 []).length = r0 at *
    have Hr0 := Lib.hid hr0
    clear hI h0 hM e1 e2 hsq hr0
    go_enter Try.func131, Try.ntmps131
    go_wp2_with fail
    refine (isMatrix_any _ m _ hn hMx.out).mono ?_
    rintro e w1 ⟨rfl, hB1⟩
    rw [isMatB_true HI.out]
    have hcell := ((HM.out.new hB1) 0 _ H0.out).1
    rw [Nat.add_zero, Hr0.out] at hcell
    go_wp2_with fail
    go_ret2
    exact ⟨.slice none 0 0, [], rfl, GM.nil _ _, hB1⟩
  · have e1 : invErr m = 6 := by unfold invErr; rw [if_neg hI]
    have e2 : invRows m = [] := by unfold invRows; rw [e1]; rfl
    rw [e1, e2]
    have HI := Lib.hid hI
    clear hI e1 e2
    go_enter Try.func131, Try.ntmps131
    go_wp2_with fail
    refine (isMatrix_any _ m _ hn hm).mono ?_
    rintro e w1 ⟨rfl, hB1⟩
    rw [isMatB_no HI.out]
    go_wp2_with fail
    go_ret2
    exact ⟨.slice none 0 0, [], rfl, GM.nil _ _, hB1⟩
end Go.Proofs.Ytkclmfppjhmnjaa
