/- The contract of volume.put. -/
/- Plain: what whole computes, in terms of matrices. No program in sight. -/
/- The contract of parity.Consistent. -/
/- The contract of volume.Header. -/
import Derived.Test.YtkclmfppjhmnjaaB30
import Derived.Test.YtkclmfppjhmnjaaB28
namespace Go.Proofs.Ytkclmfppjhmnjaa
open Go.RowKit Wire Vol Crc

/-- The numbers of a header. -/
def hdN (h : Hd) : List Nat := [h.1, h.2.1, h.2.2.1, h.2.2.2.1, h.2.2.2.2]
def hdSmall (h : Hd) : Prop := ∀ x ∈ hdN h, x < 9007199254740992
def hdT (h : Hd) (k : Nat) : List Nat := ((hdN h).take k).flatMap enc
theorem hdT_all (h : Hd) : hdT h 5 = hdB h := by
  unfold hdT hdB
  rw [List.take_of_length_le (by simp [hdN])]
  simp [hdN, List.append_assoc]
theorem hdT_succ (h : Hd) {k : Nat} (hk : k < 5) : hdT h (k + 1) = hdT h k ++ enc ((hdN h).getD k 0) := by
  unfold hdT
  rw [List.take_add_one, getD_some (l := hdN h) (d := 0) (by simpa [hdN] using hk), Option.toList_some, List.flatMap_append]
  simp
theorem hdT_le (h : Hd) (hs : hdSmall h) (k : Nat) : (hdT h k).length ≤ 8 * k := by
  induction k with
  | zero => simp [hdT]
  | succ k ih =>
    by_cases hk : k < 5
    · rw [hdT_succ h hk, List.length_append, enc_length]
      have := fur_lt8 (hs _ (List.mem_of_getElem? (getD_some (l := hdN h) (d := 0) (by simpa [hdN] using hk))))
      omega
    · have : hdT h (k + 1) = hdT h k := by
        unfold hdT
        rw [List.take_of_length_le (by simp [hdN]; omega), List.take_of_length_le (by simp [hdN]; omega)]
      rw [this]; omega
theorem hdB_byt {h : Hd} (hs : hdSmall h) : Byt (hdB h) := by
  rw [← hdT_all]
  intro x hx
  unfold hdT at hx
  rw [List.mem_flatMap] at hx
  obtain ⟨n, hn, hx⟩ := hx
  exact enc_byt (hs n (List.mem_of_mem_take hn)) x hx
theorem putB_byt {h : Hd} {p : List Nat} (hs : hdSmall h) (hp : Byt p) : Byt (putB h p) := by
  unfold putB
  refine seal4_byt fun x hx => ?_
  rcases List.mem_append.1 hx with hx | hx
  · exact hdB_byt hs x hx
  · exact hp x hx
theorem hdB_le {h : Hd} (hs : hdSmall h) : (hdB h).length ≤ 40 := by rw [← hdT_all]; exact hdT_le h hs 5
theorem putB_length {h : Hd} {p : List Nat} : (putB h p).length = (hdB h).length + p.length + 4 := by unfold putB; rw [seal4_length, List.length_append]

set_option maxRecDepth 100000 in
set_option maxHeartbeats 1000000 in
theorem vput_any (h : Hd) (v : Value) (p : List Nat) (w : World) (hs : hdSmall h) (hv : Bs w v p) (hB : Byt p) (hl : p.length ≤ 10000000) : Calls Try.prog 56 #[hdV h, v] w (BytesRet (putB h p) w) := by
  have hX := Lib.hid (show putB h p = seal4 (hdB h ++ p) from rfl)
  have hby := Lib.hid (show Byt (hdB h ++ p) from fun x hx => (List.mem_append.1 hx).elim (hdB_byt hs x) (hB x))
  have hb40 := hdB_le hs
  obtain ⟨a, b, c, d, e⟩ := h
  have s0 : a < 9007199254740992 := hs a (by simp [hdN])
  have s1 : b < 9007199254740992 := hs b (by simp [hdN])
  have s2 : c < 9007199254740992 := hs c (by simp [hdN])
  have s3 : d < 9007199254740992 := hs d (by simp [hdN])
  have s4 : e < 9007199254740992 := hs e (by simp [hdN])
  have hBa := (Below.refl w.heap.size w).alloc (Nat.le_refl _) (.cells #[.int .u32 a, .int .i64 b, .int .i64 c, .int .i64 d, .int .i64 e] 54)
  have hBb := hBa.alloc (by simp) (.cells #[.int .i64 a, .int .i64 b, .int .i64 c, .int .i64 d, .int .i64 e] 3)
  have hNb : Blk ((w.alloc (.cells #[.int .u32 a, .int .i64 b, .int .i64 c, .int .i64 d, .int .i64 e] 54)).alloc (.cells #[.int .i64 a, .int .i64 b, .int .i64 c, .int .i64 d, .int .i64 e] 3)) (w.heap.size + 1) 3 [.int .i64 a, .int .i64 b, .int .i64 c, .int .i64 d, .int .i64 e] := by
    have := Blk.new (w.alloc (.cells #[.int .u32 a, .int .i64 b, .int .i64 c, .int .i64 d, .int .i64 e] 54)) 3 #[.int .i64 a, .int .i64 b, .int .i64 c, .int .i64 d, .int .i64 e]
    rw [show (w.alloc (.cells #[.int .u32 a, .int .i64 b, .int .i64 c, .int .i64 d, .int .i64 e] 54)).heap.size = w.heap.size + 1 by simp] at this
    exact this
  have hN : Hid (Blk ((w.alloc (.cells #[.int .u32 a, .int .i64 b, .int .i64 c, .int .i64 d, .int .i64 e] 54)).alloc (.cells #[.int .i64 a, .int .i64 b, .int .i64 c, .int .i64 d, .int .i64 e] 3)) (w.heap.size + 1) 3 ((hdN (a, b, c, d, e)).map fun n => .int .i64 (n : Nat))) := hNb
  have HB := Lib.hid hBb
  have HV := Lib.hid (hv.new hBb)
  have Hs := Lib.hid hs
  clear hNb hBa hBb hv hs hB
  unfold hdV hdL
  go_enter Try.func56, Try.ntmps56
  go_wp2_with fail
  generalize (w.alloc (.cells #[.int .u32 a, .int .i64 b, .int .i64 c, .int .i64 d, .int .i64 e] 54)).alloc (.cells #[.int .i64 a, .int .i64 b, .int .i64 c, .int .i64 d, .int .i64 e] 3) = W0 at *
  generalize hhd : ((a, b, c, d, e) : Hd) = hd at *
  clear hhd
  go_loopg [5, 21] 5 (fun gk vx i wr => ∃ (k : Nat) (vy : Value), k + gk = 5 ∧ i = .int .i64 k ∧ vy = vx ∧ Hid (BO wr w.heap.size vy (hdT hd k)) ∧ Hid (Blk wr (w.heap.size + 1) 3 ((hdN hd).map fun n => .int .i64 (n : Nat))) ∧ Hid (Bs wr v p) ∧ Hid (Below w.heap.size w wr))
  case atStart => exact ⟨0, _, by omega, rfl, rfl, BO.nil _ _, hN.out, HV.out, HB.out⟩
  case round =>
    obtain ⟨k, vx, hgk, rfl, rfl, hO, hNk, hV, hBk⟩ := hrel
    have Hgk := Lib.hid hgk
    have hk5 : k ≤ 5 := by omega
    have hzr := hBk.out.size
    clear hgk
    by_cases hlt : k < 5
    · have hn := getD_some (l := hdN hd) (d := 0) (show k < (hdN hd).length by simpa [hdN] using hlt)
      have cn := hNk.out.cell (i := k) (v := .int .i64 ((hdN hd).getD k 0 : Nat)) (by rw [List.getElem?_map, hn]; rfl)
      have hn53 := Hs.out _ (List.mem_of_getElem? hn)
      have hTs := Lib.hid (hdT_succ hd hlt)
      have hP := Lib.hid (PutInt_any vx (hdT hd k) ((hdN hd).getD k 0 : Nat) wr hO.out.bs (by have := hdT_le hd Hs.out k; omega))
      rw [num_of hn53] at hP
      generalize (hdN hd).getD k 0 = n at *
      clear hn
      go_wp2_with fail
      refine hP.out.mono ?_
      rintro e w3 ⟨v3, rfl, hO3, hB3⟩
      have HO3 := Lib.hid (hO3.base hzr)
      have HN3 := Lib.hid (hNk.out.below hB3 hNk.out.lt)
      have HV3 := Lib.hid (hV.out.new hB3)
      have HB3 := Lib.hid (hBk.out.trans (hB3.mono hzr))
      clear hO3 hB3
      go_wp2_with fail
      go_roundg (5 - k - 1)
      case measure => have := Hgk.out; omega
      case rel => exact ⟨k + 1, v3, by have := Hgk.out; omega, by go_num, rfl, by rw [hTs.out]; exact HO3.out, HN3.out, HV3.out, HB3.out⟩
    · obtain rfl : k = 5 := by omega
      have hO5 := hO.out
      rw [hdT_all] at hO5
      have HO5 := Lib.hid hO5
      clear hO5
      go_wp2_with (at_builtin; refine wpList_append_bs rfl (.tmp 29) (.tmp 30) rfl w.heap.size _ _ (hdB hd) p rfl rfl HO5.out hV.out (by omega) hzr ?_)
      intro v6 w6 hO6 hg6
      have HB6 := Lib.hid (bo_below hBk.out hg6 hzr HO5.out (Nat.le_refl _))
      have HO6 := Lib.hid hO6
      have hz6 := HB6.out.size
      clear hO6 hg6
      go_wp2_with fail
      refine (cSeal_any v6 (hdB hd ++ p) _ HO6.out.bs hby.out (by rw [List.length_append]; omega)).mono ?_
      rintro e w7 ⟨v7, rfl, hO7, hB7⟩
      have HO7 := Lib.hid (hO7.base hz6)
      have HB7 := Lib.hid (HB6.out.trans (hB7.mono hz6))
      clear hO7 hB7
      go_wp2_with fail
      go_ret
      exact ⟨_, rfl, by rw [hX.out]; exact HO7.out, HB7.out⟩
end Go.Proofs.Ytkclmfppjhmnjaa

namespace Go.Proofs.Ytkclmfppjhmnjaa
open Alg

theorem plen_out {parts : List (List Nat)} {k : Nat} (h : parts.length ≤ k) : plen parts k = 0 := by
  unfold plen; rw [List.getD_eq_getElem?_getD, List.getElem?_eq_none h]; rfl

theorem piTo_map (parts : List (List Nat)) (k : Nat) : (piTo parts k).map (·.1) = (List.range k).filter fun i => decide (1 ≤ plen parts i) := by
  induction k with
  | zero => rfl
  | succ k ih =>
    rw [List.range_succ, List.filter_append, ← ih]
    by_cases h : 1 ≤ plen parts k
    · have hk : k < parts.length := by
        by_cases hk : k < parts.length
        · exact hk
        · rw [plen_out (by omega)] at h; omega
      rw [piTo_yes ⟨hk, h⟩, List.map_append]
      simp [h]
    · rw [piTo_no h]
      simp [h]
theorem pidx_eq (parts : List (List Nat)) : pidx parts = (List.range parts.length).filter fun i => decide (1 ≤ plen parts i) := piTo_map parts parts.length

theorem pidx_mem {parts : List (List Nat)} {i : Nat} : i ∈ pidx parts ↔ i < parts.length ∧ 1 ≤ plen parts i := by
  rw [pidx_eq, List.mem_filter, List.mem_range, decide_eq_true_iff]
theorem pidx_lt (parts : List (List Nat)) : (pidx parts).Pairwise (· < ·) := by
  rw [pidx_eq]; exact List.pairwise_lt_range.filter _

theorem take_mono {l : List Nat} (h : l.Pairwise (· < ·)) {d : Nat} (hd : d ≤ l.length) : ∀ i j, i < j → j < d → (l.take d).getD i 0 < (l.take d).getD j 0 := by
  intro i j hij hj
  have h' : (l.take d).Pairwise (· < ·) := h.sublist (List.take_sublist _ _)
  have hlen : (l.take d).length = d := by rw [List.length_take]; omega
  rw [List.getD_eq_getElem?_getD, List.getD_eq_getElem?_getD, List.getElem?_eq_getElem (by omega), List.getElem?_eq_getElem (by omega)]
  exact List.pairwise_iff_getElem.1 h' i j (by omega) (by omega) hij

theorem inv_sel {parts : List (List Nat)} {d : Nat} (h1 : 1 ≤ d) (h2 : d ≤ parts.length) (h3 : parts.length ≤ 64) (hd : d ≤ (pidx parts).length) : invErr (selM parts d) = 0 := by
  have hsq := selM_sq h1 h2 h3 hd
  refine hsq.inv_zero.2 (sel_full (r := parts.length - d) (by omega) (by rw [List.length_take]; omega) (take_mono (pidx_lt parts) hd) (fun i hi => ?_) hsq.rect)
  have hm : ((pidx parts).take d).getD i 0 ∈ pidx parts := by
    refine List.mem_of_mem_take (i := d) (List.mem_of_getElem? (i := i) ?_)
    exact getD_some (by rw [List.length_take]; omega)
  have := (pidx_mem.1 hm).1
  omega

theorem wholeErr_eq {parts : List (List Nat)} {d : Nat} (h1 : 1 ≤ d) (h2 : d ≤ parts.length) (h3 : parts.length ≤ 64) : wholeErr parts d = if (pidx parts).length < d then 26 else 0 := by
  unfold wholeErr
  by_cases h : (pidx parts).length < d
  · rw [if_pos h, if_pos h]
  · rw [if_neg h, if_neg h, inv_sel h1 h2 h3 (by omega)]

theorem row0_of {c : Nat} {b : List (List Nat)} (hb : Rect c b) (h : 1 ≤ b.length) : (b.getD 0 []).length = c := (hb.get (i := 0) (by omega)).1

theorem prod_assoc {n m c : Nat} {a b e : List (List Nat)} (ha : Rect n a) (hb : Rect m b) (lb : b.length = n) (he : Rect c e) (le : e.length = m) (h1 : 1 ≤ n) (h2 : 1 ≤ m) : prodM (prodM a b) e = prodM a (prodM b e) := by
  have hab : Rect m (prodM a b) := prodM_rect hb (by omega)
  have hbe : Rect c (prodM b e) := prodM_rect he (by omega)
  have lbe : (prodM b e).length = n := by rw [prodM_length, lb]
  refine ent_ext (n := a.length) (c := c) (prodM_rect he (by omega)) (prodM_rect hbe (by omega)) (by rw [prodM_length, prodM_length]) (prodM_length _ _) fun i j hi hj => ?_
  rw [ent_prod hab he le (by rw [prodM_length]; exact hi) hj (row0_of he (by omega)), ent_prod ha hbe lbe hi hj (row0_of hbe (by omega))]
  have e1 : mul m (ent (prodM a b)) (ent e) i j = mul m (mul n (ent a) (ent b)) (ent e) i j := mul_congr (fun k hk => ent_prod ha hb lb hi hk (row0_of hb (by omega))) (fun _ _ => rfl)
  have e2 : mul n (ent a) (ent (prodM b e)) i j = mul n (ent a) (mul m (ent b) (ent e)) i j := mul_congr (fun _ _ => rfl) (fun k hk => ent_prod hb he le (by omega) hj (row0_of he (by omega)))
  rw [e1, e2, mul_assoc]

theorem prod_id {d c : Nat} {D : List (List Nat)} (hD : Rect c D) (ld : D.length = d) (h1 : 1 ≤ d) : prodM (Go.Proofs.Ytkclmfppjhmnjaa.idM d) D = D := by
  refine ent_ext (n := d) (c := c) (prodM_rect hD (by omega)) hD (by rw [prodM_length, idM_length]) ld fun i j hi hj => ?_
  rw [ent_prod (idM_rect d) hD ld (by rw [idM_length]; exact hi) hj (row0_of hD (by omega))]
  rw [mul_congr (fun k hk => ent_id hi k hk) (fun _ _ => rfl), one_mul hi]

/-- The set of d data parts. -/
def setM (d r : Nat) (D : List (List Nat)) : List (List Nat) := prodM (rowsM d r) D
theorem setM_length (d r : Nat) (D : List (List Nat)) : (setM d r D).length = d + r := by unfold setM; rw [prodM_length, rowsM_length]
theorem setM_rect {d r c : Nat} {D : List (List Nat)} (hD : Rect c D) (ld : D.length = d) (h1 : 1 ≤ d) : Rect c (setM d r D) := prodM_rect hD (by omega)

theorem getD_prod {a b : List (List Nat)} {i : Nat} (h : i < a.length) : (prodM a b).getD i [] = prTo (a.getD i []) b (b.getD 0 []).length b.length := by
  rw [List.getD_eq_getElem?_getD, prodM_get (getD_some (d := []) h)]; rfl

/-- Enough parts of a set: the whole set. -/
theorem whole_set {parts D : List (List Nat)} {d r c : Nat} (hD : Rect c D) (ld : D.length = d) (h1 : 1 ≤ d) (h2 : d + r ≤ 64) (hl : parts.length = d + r) (hp : ∀ i, i < d + r → 1 ≤ plen parts i → parts.getD i [] = (setM d r D).getD i []) (hd : d ≤ (pidx parts).length) : wholeM parts d = setM d r D := by
  have hr : parts.length - d = r := by omega
  have hsq := selM_sq h1 (by omega) (by omega) hd
  have hi0 := inv_sel h1 (by omega) (by omega) hd
  have e1 : selP parts d = prodM (selM parts d) D := by
    unfold selP selM prodM
    rw [List.map_map]
    refine List.map_congr_left fun i hi => ?_
    have hm := pidx_mem.1 (List.mem_of_mem_take hi)
    rw [hp i (by omega) hm.2]
    unfold setM
    rw [getD_prod (by rw [rowsM_length]; omega), ← hr]
    rfl
  have hx := (hsq.inv hi0).1
  unfold wholeM
  rw [e1, ← prod_assoc hx.rect hsq.rect hsq.len hD ld h1 h1, hsq.inv_left hi0, prod_id hD ld h1, hr]
  rfl
end Go.Proofs.Ytkclmfppjhmnjaa

namespace Go.Proofs.Ytkclmfppjhmnjaa
open Go.RowKit Go.Shelf

attribute [local go_sem] Oper.semAt_some

/-- Are the parts, those that are not lost, the rows of another list? -/
def conB (parts out : List (List Nat)) : Bool := (List.range parts.length).all fun i => decide (1 ≤ plen parts i → parts.getD i [] = out.getD i [])
def conRes (parts : List (List Nat)) (data : Int) : Bool := decide (wErr parts data = 0) && conB parts (wRows parts data)
def BoolErr (b : Bool) (e : Nat) (w : World) : Ending → World → Prop := fun x w' => x = .returned (.tuple #[.bool b, .int .i64 e]) ∧ Below w.heap.size w w'

theorem conB_no {parts out : List (List Nat)} {i : Nat} (h1 : i < parts.length) (h2 : 1 ≤ plen parts i) (h : parts.getD i [] ≠ out.getD i []) : conB parts out = false := by
  unfold conB
  rw [List.all_eq_false]
  exact ⟨i, List.mem_range.2 h1, by simpa [h2] using h⟩
theorem conB_yes {parts out : List (List Nat)} (h : ∀ i, i < parts.length → 1 ≤ plen parts i → parts.getD i [] = out.getD i []) : conB parts out = true := by
  unfold conB
  rw [List.all_eq_true]
  exact fun i hi => decide_eq_true (h i (List.mem_range.1 hi))

/-- What holds between two rounds of Consistent's loop. -/
structure CoI (parts : List (List Nat)) (w W1 : World) (z bo B6 n co : Nat) (out : List (List Nat)) (pre : List (PI parts)) (W : World) : Prop where
  ok : ∀ x ∈ pre, parts.getD x.1 [] = out.getD x.1 []
  K : Below w.heap.size w W
  sz : W1.heap.size ≤ W.heap.size
  k4 : Blk W w.heap.size 4 [.bool false]
  k5 : Blk W (w.heap.size + 1) 29 [.int .i64 0]
  k6 : Blk W B6 44 [.slice (some ⟨bo, 0, none⟩) n co]
  om : ∃ hd, OM W z bo hd out
structure CoX (parts : List (List Nat)) (w : World) (out : List (List Nat)) (c : Code) (_ : List (PI parts)) (W : World) : Prop where
  c : c = .ret
  no : conB parts out = false
  K : Below w.heap.size w W
  k4 : Blk W w.heap.size 4 [.bool false]
  k5 : Blk W (w.heap.size + 1) 29 [.int .i64 0]

theorem CoI.own (parts : List (List Nat)) (w W1 : World) (z bo B6 n co : Nat) (out : List (List Nat)) (hw : w.heap.size ≤ W1.heap.size) : OwnFrom W1.heap.size (CoI parts w W1 z bo B6 n co out) := by
  rintro s W W' row ⟨h0, h1, h2, h4, h5, h6, hd, h7⟩ hg hr
  have hr' : ∀ r, row = some r → ∃ o : Obj, W.heap[r]? = some o ∧ o.isCells = false := fun r e => (hr r e).2
  exact ⟨h0, h1.grown hg (by omega) fun k e => by have := (hr k e).1; omega, by have := hg.size; omega, h4.kept (Kept.of_grown hg) (blk_turn h4 hg hr'), h5.kept (Kept.of_grown hg) (blk_turn h5 hg hr'), h6.kept (Kept.of_grown hg) (blk_turn h6 hg hr'), hd, h7.turn hg hr'⟩
theorem CoX.own (parts : List (List Nat)) (w W1 : World) (out : List (List Nat)) (hw : w.heap.size ≤ W1.heap.size) (c : Code) : OwnFrom W1.heap.size (CoX parts w out c) := by
  rintro s W W' row ⟨h0, h1, h2, h4, h5⟩ hg hr
  have hr' : ∀ r, row = some r → ∃ o : Obj, W.heap[r]? = some o ∧ o.isCells = false := fun r e => (hr r e).2
  exact ⟨h0, h1, h2.grown hg (by have := h2.size; omega) fun k e => by have := (hr k e).1; omega, h4.kept (Kept.of_grown hg) (blk_turn h4 hg hr'), h5.kept (Kept.of_grown hg) (blk_turn h5 hg hr')⟩

theorem CoI.step {parts : List (List Nat)} {w W1 : World} {z bo B6 n co : Nat} {out : List (List Nat)} {pre : List (PI parts)} {W W' : World} (h : CoI parts w W1 z bo B6 n co out pre W) (x : PI parts) (he : parts.getD x.1 [] = out.getD x.1 []) (hB : Below W.heap.size W W') : CoI parts w W1 z bo B6 n co out (pre ++ [x]) W' := by
  obtain ⟨h0, h1, h2, h4, h5, h6, hd, h7⟩ := h
  have hz := h1.size
  have hs := hB.size
  refine ⟨fun y hy => ?_, h1.trans (hB.mono hz), by omega, h4.below hB h4.lt, h5.below hB h5.lt, h6.below hB h6.lt, hd, h7.new hB⟩
  rcases List.mem_append.1 hy with hy | hy
  · exact h0 y hy
  · rw [List.mem_singleton.1 hy]; exact he

theorem wRows_ok {parts : List (List Nat)} {data : Int} (hE : wErr parts data = 0) (hBy : BytM parts) (hlo : longB parts = false) (hmi : misB parts = false) : BytM (wRows parts data) ∧ ∀ i, i < (wRows parts data).length → ((wRows parts data).getD i []).length ≤ 1000000000 := by
  obtain ⟨_, hP⟩ := wRows_length hE
  obtain ⟨q1, q2, q3, q4⟩ := parErr_in hP
  have hW : wholeErr parts data.toNat = 0 := by unfold wErr at hE; rw [if_pos hP] at hE; exact hE
  have hd : data.toNat ≤ (pidx parts).length := by
    unfold wholeErr at hW
    by_cases h : (pidx parts).length < data.toNat
    · rw [if_pos h] at hW; simp at hW
    · omega
  have e : wRows parts data = wholeM parts data.toNat := by unfold wRows wholeRows; rw [if_pos hP, if_pos hW]
  have hne : pidx parts ≠ [] := by intro h; rw [h] at hd; simp at hd; omega
  obtain ⟨x, hx⟩ : ∃ x, x ∈ piTo parts parts.length := by
    have : piTo parts parts.length ≠ [] := by intro h; apply hne; unfold pidx; rw [h]; rfl
    exact List.exists_mem_of_ne_nil _ this
  have hR := selP_rect (d := data.toNat) hBy hmi (x := x)
  have hsl : (selP parts data.toNat).length = data.toNat := by unfold selP; rw [List.length_map, List.length_take]; omega
  have hsq := selM_sq (d := data.toNat) (by omega) (by omega) q4 hd
  have hiv : invErr (selM parts data.toNat) = 0 := by unfold wholeErr at hW; rw [if_neg (by omega)] at hW; exact hW
  have hi := (hsq.inv hiv).1
  have hR2 : Rect (plen parts x.1) (wholeM parts data.toNat) := prodM_rect (prodM_rect hR (by omega)) (by rw [prodM_length, hi.len]; omega)
  rw [e]
  exact ⟨fun r hr => (hR2 r hr).2, fun i hi => by rw [(hR2.get hi).1]; have := long_le hlo x.2.1; omega⟩

end Go.Proofs.Ytkclmfppjhmnjaa

namespace Go.Proofs.Ytkclmfppjhmnjaa
open Go.RowKit Wire Vol Crc

set_option maxRecDepth 100000 in
set_option maxHeartbeats 8000000 in
theorem vHeader_any (v : Value) (l : List Nat) (w : World) (h : Bs w v l) (hB : Byt l) (hl : l.length ≤ 100000000) : Calls Try.prog 25 #[v] w (HdRet l w) := by
  have hB0 := (Below.refl w.heap.size w).alloc (Nat.le_refl _) (.cells #[.int .u32 0, .int .i64 0, .int .i64 0, .int .i64 0, .int .i64 0] 54)
  have Hb0 := Lib.hid (show Blk (w.alloc (.cells #[.int .u32 0, .int .i64 0, .int .i64 0, .int .i64 0, .int .i64 0] 54)) w.heap.size 54 (hdL hd0) from Blk.new w 54 (hdL hd0).toArray)
  have HB0 := Lib.hid hB0
  have HBy := Lib.hid hB
  have hz0 : w.heap.size < (w.alloc (.cells #[.int .u32 0, .int .i64 0, .int .i64 0, .int .i64 0, .int .i64 0] 54)).heap.size := by simp
  have HO0 := Lib.hid (cOpen_any v l _ (h.new hB0) hB hl)
  have Hll := Lib.hid hl
  clear hB0 hB h
  go_enter Try.func25, Try.ntmps25
  go_wp2_with fail
  obtain ⟨W0, hW0⟩ : ∃ W0, w.alloc (.cells #[.int .u32 0, .int .i64 0, .int .i64 0, .int .i64 0, .int .i64 0] 54) = W0 := ⟨_, rfl⟩
  rw [hW0] at Hb0 HB0 hz0 HO0 ⊢
  clear hW0
  refine HO0.out.mono ?_
  rintro e w1 ⟨vr, rfl, hO, hB1⟩
  have HO := Lib.hid (hO.base HB0.out.size)
  have HB1 := Lib.hid (HB0.out.trans (hB1.mono HB0.out.size))
  have Hb1 := Lib.hid (Hb0.out.below hB1 hz0)
  have hz1 := HB1.out.size
  have hzb := Hb1.out.lt
  clear hO hB1 HO0
  by_cases hE : opErr l = 0
  · rw [hE]
    have HE := Lib.hid hE
    clear hE
    go_upto_block 2 with (fail)
    obtain ⟨W2, hW2⟩ : ∃ W2, ((w1.alloc (.cells #[.int .i64 0] 3)).alloc (.cells #[.int .u32 0, .int .i64 0, .int .i64 0, .int .i64 0, .int .i64 0] 54)).alloc
      (.cells #[.pointer (some ⟨w1.heap.size, 0, none⟩), .pointer (some ⟨w1.heap.size + 1, 1, none⟩), .pointer (some ⟨w1.heap.size + 1, 2, none⟩), .pointer (some ⟨w1.heap.size + 1, 3, none⟩), .pointer (some ⟨w1.heap.size + 1, 4, none⟩)] 99) = W2 := ⟨_, rfl⟩
    obtain ⟨s7, s8, s9, sB⟩ := hd_start w1 (opB l) W2 hW2
    rw [hW2]
    have HBr0 := Lib.hid (opB_byt HBy.out)
    have HO2 := Lib.hid (HO.out.new sB)
    have HB2 := Lib.hid (HB1.out.trans (sB.mono hz1))
    have Hb2 := Lib.hid (Hb1.out.below sB hzb)
    have hgz : w.heap.size < w1.heap.size := hzb
    obtain ⟨g, hg⟩ : ∃ g, w1.heap.size = g := ⟨_, rfl⟩
    rw [hg] at s7 s8 s9 hgz ⊢
    have H7 := Lib.hid s7
    have H8 := Lib.hid s8
    have H9 := Lib.hid s9
    obtain ⟨r0, hr0⟩ : ∃ r0, opB l = r0 := ⟨_, rfl⟩
    have Hr0 := Lib.hid hr0
    rw [hr0] at H7 H8 HO2 HBr0
    clear s7 s8 s9 sB hW2 hg hr0 hz1 hzb
    go_loopg [5, 26] 5 (fun gk vx i wr => ∃ (k : Nat) (vy : Value), k + gk = 5 ∧ i = .int .i64 k ∧ vy = vx ∧ Hid (nmErr k r0 = 0) ∧ Hid (BO wr w.heap.size vy (nmR k r0)) ∧ Hid (Blk wr g 3 (cc7 r0 k)) ∧ Hid (Blk wr (g + 1) 54 (cc8 r0 k)) ∧ Hid (Blk wr (g + 1 + 1) 99 (pAs g)) ∧ Hid (Blk wr w.heap.size 54 (hdL hd0)) ∧ Hid (Below w.heap.size w wr))
    case atStart => exact ⟨0, vr, by omega, rfl, rfl, rfl, HO2.out, H7.out, H8.out, H9.out, Hb2.out, HB2.out⟩
    case round =>
      obtain ⟨k, vx, hgk, rfl, rfl, hne, hOk, h7, h8, h9, hb, hBk⟩ := hrel
      have Hgk := Lib.hid hgk
      have hk5 : k ≤ 5 := by omega
      clear hgk
      by_cases hlt : k < 5
      · have cP := h9.out.cell (pAs_get g hlt)
        obtain ⟨HBk, hlk⟩ := nmR_byt HBr0.out.1 k
        have HI := Lib.hid (fun w' (hb : Bs w' vx (nmR k r0)) => wInt_any vx (nmR k r0) w' hb HBk (by have := HBr0.out.2; have := Hll.out; omega))
        have hzr := hBk.out.size
        clear HBk hlk
        have Hne := Lib.hid (nmErr_succ k r0)
        rw [if_pos hne.out] at Hne
        by_cases hE2 : rdErr (nmR k r0) = 0
        · have hN := Lib.hid (nmN_eq r0 hlt)
          have Hne1 := Lib.hid (show nmErr (k + 1) r0 = 0 by rw [Hne.out, hE2])
          have HE2 := Lib.hid hE2
          clear hE2 Hne
          go_wp2_with fail
          refine (HI.out _ hOk.out.bs).mono ?_
          rintro e w3 ⟨v3, rfl, hO3, hB3⟩
          rw [HE2.out, ← hN.out]
          rw [← nmR_succ] at hO3
          have k7 := h7.out.below hB3 h7.out.lt
          have k8 := h8.out.below hB3 h8.out.lt
          obtain ⟨⟨px, pc⟩, pf⟩ := cc_there hlt k7 k8
          obtain ⟨n7, n8⟩ := cc_step hlt k7 k8
          have hpb := pA_block g k
          have n9 := (h9.out.below hB3 h9.out.lt).setCell_other (p := pA g k) (by omega) (.int .i64 (nmN r0 k : Nat))
          have nb := (hb.out.below hB3 hb.out.lt).setCell_other (p := pA g k) (by omega) (.int .i64 (nmN r0 k : Nat))
          have nB := (hBk.out.trans (hB3.mono hzr)).setCell (p := pA g k) (by omega) (.int .i64 (nmN r0 k : Nat))
          have N7 := Lib.hid n7
          have N8 := Lib.hid n8
          have N9 := Lib.hid n9
          have Nb := Lib.hid nb
          have NB := Lib.hid nB
          have NO := Lib.hid (show BO (w3.setCell (pA g k) (.int .i64 (nmN r0 k : Nat))) w.heap.size v3 (nmR (k + 1) r0) from (hO3.far (by have := h8.out.lt; omega) _).base hzr)
          generalize nmN r0 k = nk at *
          generalize pA g k = pk at *
          clear hO3 hB3 k7 k8 n7 n8 n9 nb nB hpb cP
          go_wp2_with fail
          go_roundg (5 - k - 1)
          case measure => have := Hgk.out; omega
          case rel => exact ⟨k + 1, v3, by have := Hgk.out; omega, by go_num, rfl, Hne1.out, NO.out, N7.out, N8.out, N9.out, Nb.out, NB.out⟩
        · have hX : hdErr l = rdErr (nmR k r0) := by
            have e5 : nmErr 5 r0 = rdErr (nmR k r0) := nmErr_stop hne.out hE2 (by omega)
            unfold hdErr
            rw [Hr0.out, HE.out, if_neg (by simp), e5, if_pos hE2]
          have HX := Lib.hid hX
          have HY := Lib.hid (hdErr_no hX hE2)
          have t1 : ((rdErr (nmR k r0) : Int) != 0) = true := by rw [bne_iff_ne]; omega
          obtain ⟨er, her⟩ : ∃ er, rdErr (nmR k r0) = er := ⟨_, rfl⟩
          have Her := Lib.hid her
          rw [her] at HX t1
          have hz8 := h8.out.lt
          have hN0 := Lib.hid (show rdNum (nmR k r0) = 0 by unfold rdNum; rw [if_neg hE2])
          clear hE2 Hne her hX
          go_wp2_with fail
          refine (HI.out _ hOk.out.bs).mono ?_
          rintro e w3 ⟨v3, rfl, hO3, hB3⟩
          rw [Her.out, hN0.out]
          have k7 := h7.out.below hB3 h7.out.lt
          have k8 := h8.out.below hB3 h8.out.lt
          obtain ⟨⟨px, pc⟩, pf⟩ := cc_there hlt k7 k8
          have hpb := pA_block g k
          have nb := (hb.out.below hB3 hb.out.lt).setCell_other (p := pA g k) (by omega) (.int .i64 (0 : Nat))
          have nB := (hBk.out.trans (hB3.mono hzr)).setCell (p := pA g k) (by omega) (.int .i64 (0 : Nat))
          have HZ := Lib.hid (hd_end nb rfl nB (Nat.le_refl _) hd0)
          generalize pA g k = pk at *
          clear hO3 hB3 k7 k8 nb nB hpb cP
          go_wp2_with (refine wpList_store_mid rfl 54 _ _ rfl w.heap.size 0 (hdL hd0).toArray rfl rfl HZ.out.1 sizeVol (hd_one hd0) ?_)
          (try simp only [Exit.inBlock, Exit.then])
          refine bodyPost_ret (results_hd rfl _ _ w.heap.size hd0 rfl HZ.out.2.1) rfl ?_
          exact ⟨_, by rw [HX.out, HY.out.1]; rfl, by rw [HY.out.2]; exact BO.nil _ _, HZ.out.2.2⟩
      · obtain rfl : k = 5 := by omega
        have c0 := h7.out.cell (i := 0) rfl
        have c1 := h8.out.cell (i := 1) rfl
        have c2 := h8.out.cell (i := 2) rfl
        have c3 := h8.out.cell (i := 3) rfl
        have c4 := h8.out.cell (i := 4) rfl
        rw [if_pos (by decide)] at c0 c1 c2 c3 c4
        have b0 := (show nmN r0 0 ≤ 9007199254740991 from rdNum_le _)
        have b1 := (show nmN r0 1 ≤ 9007199254740991 from rdNum_le _)
        have b2 := (show nmN r0 2 ≤ 9007199254740991 from rdNum_le _)
        have b3 := (show nmN r0 3 ≤ 9007199254740991 from rdNum_le _)
        have b4 := (show nmN r0 4 ≤ 9007199254740991 from rdNum_le _)
        have hX : hdErr l = if 4294967295 < nmN r0 0 ∨ nmN r0 2 = 0 ∨ 64 < nmN r0 2 + nmN r0 3 ∨ nmN r0 2 + nmN r0 3 ≤ nmN r0 1 ∨ 65536 < nmN r0 4 then 2 else if (nmR 5 r0).length ≠ szP (nmN r0 4) (nmN r0 2) then 3 else 0 := by
          rw [← Hr0.out]
          unfold hdErr
          rw [HE.out, if_neg (by simp), if_neg (by rw [Hr0.out, hne.out]; simp)]
          rfl
        have HX := Lib.hid hX
        have HV := Lib.hid (show hdErr l = 0 → hdOf l = (nmN r0 0, nmN r0 1, nmN r0 2, nmN r0 3, nmN r0 4) ∧ hdP l = nmR 5 r0 from fun h => by
          rw [← Hr0.out]
          unfold hdOf hdP
          rw [if_pos h, if_pos h]
          exact ⟨rfl, rfl⟩)
        have H7e := Lib.hid (show Blk wr g 3 [.int .i64 (nmN r0 0 : Nat)] from h7.out)
        have H8e := Lib.hid (show Blk wr (g + 1) 54 [.int .u32 ((0 : Nat) : Int), .int .i64 (nmN r0 1 : Nat), .int .i64 (nmN r0 2 : Nat), .int .i64 (nmN r0 3 : Nat), .int .i64 (nmN r0 4 : Nat)] from h8.out)
        generalize nmN r0 0 = n0 at *
        generalize nmN r0 1 = n1 at *
        generalize nmN r0 2 = n2 at *
        generalize nmN r0 3 = n3 at *
        generalize nmN r0 4 = n4 at *
        clear hX h7 h8 hne h9
        by_cases hbad : 4294967295 < n0 ∨ n2 = 0 ∨ 64 < n2 + n3 ∨ n2 + n3 ≤ n1 ∨ 65536 < n4
        · have hE2 : hdErr l = 2 := by rw [HX.out, if_pos hbad]
          have HE2 := Lib.hid hE2
          have HY := Lib.hid (hdErr_no hE2 (by decide))
          have HZ := Lib.hid (hd_end hb.out rfl hBk.out (Nat.le_refl _) hd0)
          clear hE2
          have hc : (decide ((4294967295 : Int) < (n0 : Int)) = true) ∨ (decide ((4294967295 : Int) < (n0 : Int)) = false ∧ ((n2 : Int) == 0) = true) ∨
              (decide ((4294967295 : Int) < (n0 : Int)) = false ∧ ((n2 : Int) == 0) = false ∧ decide ((64 : Int) < (n2 : Int) + (n3 : Int)) = true) ∨
              (decide ((4294967295 : Int) < (n0 : Int)) = false ∧ ((n2 : Int) == 0) = false ∧ decide ((64 : Int) < (n2 : Int) + (n3 : Int)) = false ∧ decide ((n2 : Int) + (n3 : Int) ≤ (n1 : Int)) = true) ∨
              (decide ((4294967295 : Int) < (n0 : Int)) = false ∧ ((n2 : Int) == 0) = false ∧ decide ((64 : Int) < (n2 : Int) + (n3 : Int)) = false ∧ decide ((n2 : Int) + (n3 : Int) ≤ (n1 : Int)) = false ∧ decide ((65536 : Int) < (n4 : Int)) = true) := by
            simp only [decide_eq_true_eq, decide_eq_false_iff_not, beq_iff_eq, beq_eq_false_iff_ne, ne_eq]
            omega
          clear hbad
          rcases hc with q1 | ⟨q1, q2⟩ | ⟨q1, q2, q3⟩ | ⟨q1, q2, q3, q4⟩ | ⟨q1, q2, q3, q4, q5⟩
          all_goals
            go_upto_region 14 with (fail)
            go_wp2_with (refine wpList_store_mid rfl 54 _ _ rfl w.heap.size 0 (hdL hd0).toArray rfl rfl HZ.out.1 sizeVol (hd_one hd0) ?_)
            (try simp only [Exit.inBlock, Exit.then])
            refine bodyPost_ret (results_hd rfl _ _ w.heap.size hd0 rfl HZ.out.2.1) rfl ?_
            exact ⟨_, by rw [HE2.out, HY.out.1]; rfl, by rw [HY.out.2]; exact BO.nil _ _, HZ.out.2.2⟩
        · have q1 : decide ((4294967295 : Int) < (n0 : Int)) = false := by simp; omega
          have q2 : ((n2 : Int) == 0) = false := by rw [beq_eq_false_iff_ne]; omega
          have q3 : decide ((64 : Int) < (n2 : Int) + (n3 : Int)) = false := by simp; omega
          have q4 : decide ((n2 : Int) + (n3 : Int) ≤ (n1 : Int)) = false := by simp; omega
          have q5 : decide ((65536 : Int) < (n4 : Int)) = false := by simp; omega
          have hS := Lib.hid (fun w' => vsize_any n4 n2 w' b4 (by omega) b2)
          have HX2 := Lib.hid (show hdErr l = if (nmR 5 r0).length ≠ szP n4 n2 then 3 else 0 by rw [HX.out, if_neg hbad])
          obtain ⟨ax, cx, hvx⟩ := hOk.out.form
          subst hvx
          have hrl : (nmR 5 r0).length ≤ 100000000 := by have := (nmR_byt HBr0.out.1 5).2; have := HBr0.out.2; have := Hll.out; omega
          have b0' : n0 ≤ 4294967295 := by omega
          clear hbad
          by_cases hsz : (nmR 5 r0).length = szP n4 n2
          · have hE2 : hdErr l = 0 := by rw [HX2.out, if_neg (by rw [hsz]; simp)]
            have HE2 := Lib.hid hE2
            have HY := Lib.hid (HV.out hE2)
            have q6 : (((nmR 5 r0).length : Int) != (szP n4 n2 : Int)) = false := by rw [bne_eq_false_iff_eq, hsz]
            have c5 := H8e.out.cell (i := 0) rfl
            have f5 := H8e.out.frozen 0
            have k8 := Lib.hid (show Blk (wr.setCell ⟨g + 1, 0, none⟩ (.int .u32 (n0 : Nat))) (g + 1) 54 (hdL (n0, n1, n2, n3, n4)) from H8e.out.setCell (i := 0) (show _ < _ by simp) _)
            have kb := hb.out.setCell_other (p := ⟨g + 1, 0, none⟩) (by show w.heap.size ≠ g + 1; omega) (.int .u32 (n0 : Nat))
            have kB := hBk.out.setCell (p := ⟨g + 1, 0, none⟩) (by show w.heap.size ≤ g + 1; omega) (.int .u32 (n0 : Nat))
            have hz8 := H8e.out.lt
            have kO := BO.farOf hOk.out (p := ⟨g + 1, 0, none⟩) (BO.apart hOk.out H8e.out (by decide)) (.int .u32 (n0 : Nat))
            have kO2 := Lib.hid (kO.farCells (BO.apart kO kb (by decide)) (hdL (n0, n1, n2, n3, n4)))
            have Hrg := Lib.hid k8.out.range
            have HZ := Lib.hid (hd_end kb rfl kB (Nat.le_refl _) (n0, n1, n2, n3, n4))
            clear hE2 kb kB kO
            generalize hlr : (nmR 5 r0).length = lr at *
            generalize szP n4 n2 = sz at *
            clear hsz hlr
            go_wp2_with fail
            refine (hS.out _).mono ?_
            rintro e w' ⟨rfl, rfl⟩
            go_upto_region 18 with (fail)
            generalize wr.setCell ⟨g + 1, 0, none⟩ (.int .u32 (n0 : Nat)) = W5 at *
            go_wp2_with (first
              | (refine wpList_load_mid rfl 54 (.tmp 8) rfl (g + 1) 0 rfl (hdL (n0, n1, n2, n3, n4)) _ Hrg.out Try.underlying54 rfl sizeVol ?_)
              | (refine wpList_store_mid rfl 54 (.tmp 2) (.tmp 86) rfl w.heap.size 0 (hdL (n0, n1, n2, n3, n4)).toArray rfl rfl HZ.out.1 sizeVol (hd_one _) ?_))
            (try simp only [Exit.inBlock, Exit.then])
            refine bodyPost_ret (results_hd rfl _ _ w.heap.size (n0, n1, n2, n3, n4) rfl HZ.out.2.1) rfl ?_
            exact ⟨_, by rw [HE2.out, HY.out.1]; rfl, by rw [HY.out.2]; exact kO2.out, HZ.out.2.2⟩
          · have hE2 : hdErr l = 3 := by rw [HX2.out, if_pos hsz]
            have HE2 := Lib.hid hE2
            have HY := Lib.hid (hdErr_no hE2 (by decide))
            have HZ := Lib.hid (hd_end hb.out rfl hBk.out (Nat.le_refl _) hd0)
            have q6 : (((nmR 5 r0).length : Int) != (szP n4 n2 : Int)) = true := by rw [bne_iff_ne]; omega
            generalize (nmR 5 r0).length = lr at *
            generalize szP n4 n2 = sz at *
            clear hE2 hsz
            go_wp2_with fail
            refine (hS.out _).mono ?_
            rintro e w' ⟨rfl, rfl⟩
            go_upto_region 16 with (fail)
            go_wp2_with (refine wpList_store_mid rfl 54 _ _ rfl w.heap.size 0 (hdL hd0).toArray rfl rfl HZ.out.1 sizeVol (hd_one hd0) ?_)
            (try simp only [Exit.inBlock, Exit.then])
            refine bodyPost_ret (results_hd rfl _ _ w.heap.size hd0 rfl HZ.out.2.1) rfl ?_
            exact ⟨_, by rw [HE2.out, HY.out.1]; rfl, by rw [HY.out.2]; exact BO.nil _ _, HZ.out.2.2⟩
  · have HX := Lib.hid (show hdErr l = opErr l by unfold hdErr; rw [if_pos hE])
    have HY := Lib.hid (hdErr_no HX.out hE)
    have HZ := Lib.hid (hd_end Hb1.out rfl HB1.out (Nat.le_refl _) hd0)
    have t1 : ((opErr l : Int) != 0) = true := by rw [bne_iff_ne]; omega
    generalize opErr l = er at *
    clear hE
    go_wp2_with (refine wpList_store_mid rfl 54 _ _ rfl w.heap.size 0 (hdL hd0).toArray rfl rfl HZ.out.1 sizeVol (hd_one hd0) ?_)
    (try simp only [Exit.inBlock, Exit.then])
    refine bodyPost_ret (results_hd rfl _ _ w.heap.size hd0 rfl HZ.out.2.1) rfl ?_
    exact ⟨_, by rw [HX.out, HY.out.1]; rfl, by rw [HY.out.2]; exact BO.nil _ _, HZ.out.2.2⟩
end Go.Proofs.Ytkclmfppjhmnjaa
