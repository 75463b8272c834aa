/- Contracts of parity's combiner. -/
/- Contracts of parity.matrix and of the reference's Rows. -/
import Derived.Test.YtkclmfppjhmnjaaB13
import Derived.Test.YtkclmfppjhmnjaaB21
import Derived.Test.YtkclmfppjhmnjaaB16
import Derived.Test.YtkclmfppjhmnjaaB19
import Derived.Laws.OwnMore
namespace Go.Proofs.Ytkclmfppjhmnjaa
open Go.RowKit

/-- What a function that returns a new row leaves. -/
def RowOut (r : List Nat) (w : World) (e : Ending) (w' : World) : Prop :=
  ∃ g cap, e = .returned (.slice (some ⟨g, 0, none⟩) r.length cap) ∧ w.heap.size ≤ g ∧ r.length ≤ cap ∧ cap ≤ maxLen ∧ Blk w' g 5 (r.map bv) ∧ Below w.heap.size w w'

theorem cm_step {w1 wr w' : World} {g T f k x y : Nat} {ts fr : List Nat} (hk : k < fr.length) (hl : ts.length = fr.length) (hx : ts.getD k 0 = x) (hy : fr.getD k 0 = y) (b1 : x < 256)
    (hK : Kept (· = g) w1 wr) (hB : Blk wr g T ((amTo f ts fr k).map bv)) (hB' : Below wr.heap.size wr w') :
    Kept (· = g) w1 (w'.setCell ⟨g, k, none⟩ (.int .u8 (bits .xor .u8 x (Gf.gm f y)))) ∧ Blk (w'.setCell ⟨g, k, none⟩ (.int .u8 (bits .xor .u8 x (Gf.gm f y)))) g T ((amTo f ts fr (k + 1)).map bv) := by
  refine ⟨(hK.trans (.of_new hB')).setCell (fun _ => rfl) _, ?_⟩
  have h1 := (hB.below hB' hB.lt).setCell (i := k) (by simpa using (List.getElem?_eq_some_iff.1 (amTo_get (f := f) hk hl)).1) (.int .u8 (bits .xor .u8 x (Gf.gm f y)))
  rw [xor_u8 _ _ b1 (Gf.gm_lt _ _)] at h1 ⊢
  rw [← amTo_set hk hl, hx, hy, List.map_set]
  exact h1

set_option maxRecDepth 100000 in
set_option maxHeartbeats 4000000 in
theorem combiner1_any (b o cap pb bp op capp L : Nat) (row : List Nat) (parts : List (List Nat)) (A : Nat → Option Addr) (C : Nat → Nat) (w : World) (hrow : RowAt w b o row) (hbox : w.cell? ⟨pb, 0, none⟩ = some (.slice (some ⟨bp, op, none⟩) parts.length capp)) (hM : MxAt w bp op parts A C)
    (hR : Rect L parts) (hl : row.length = parts.length) (h1 : 1 ≤ parts.length) (hN : parts.length ≤ 1000) (hL : L ≤ 1000000) (hL1 : 1 ≤ L) (hBr : Byt row) :
    Calls Try.prog 104 #[.slice (some ⟨b, o, none⟩) row.length cap, .pointer (some ⟨pb, 0, none⟩)] w (RowOut (prTo row parts L parts.length) w) := by
  have hmk := mkBytes L (by omega)
  have hc0 := (hM 0 _ (getD_some (d := []) (by omega))).1
  rw [Nat.add_zero, (hR.get (i := 0) (by omega)).1] at hc0
  have Hrow := Lib.hid hrow
  have HM := Lib.hid hM
  have HR := Lib.hid hR
  have Hl := Lib.hid hl
  have HBr := Lib.hid hBr
  have Hbox := Lib.hid hbox
  have hl1 : row.length ≤ parts.length := by omega
  have hl2 : parts.length ≤ row.length := by omega
  clear hM hR hl hBr hrow
  go_enter Try.func104, Try.ntmps104
  go_wp2_with fail
  clear hmk hc0 hbox
  have hK0 : Kept (· = w.heap.size) w (w.alloc (.cells (zs L) 5)) := (Kept.refl _ _).alloc _
  have HB0 := Lib.hid (Blk.new w 5 (zs L))
  have hs0 : w.heap.size < (w.alloc (.cells (zs L) 5)).heap.size := by simp
  go_loopg [16] parts.length (fun gk i wr => ∃ k : Nat, k + gk = parts.length ∧ i = .int .i64 k ∧ Hid (Kept (· = w.heap.size) w wr) ∧ Hid (Blk wr w.heap.size 5 ((prTo row parts L k).map bv)))
  case atStart => exact ⟨0, by omega, rfl, hK0, by have := HB0.out; rw [zs_map] at this; exact this⟩
  case round =>
    obtain ⟨k, hgk, rfl, hK, hB⟩ := hrel
    have Hgk := Lib.hid hgk
    have hk : k ≤ parts.length := by omega
    clear hgk
    by_cases hlt : k < parts.length
    · obtain ⟨wo, rfl⟩ : ∃ wo : World, wo = wr := ⟨_, rfl⟩
      have hltr : k < row.length := by omega
      have nb : ∀ {p : Addr} {v : Value}, w.cell? p = some v → wo.cell? p = some v := fun {p v} h => hK.out.cell h (by have := World.block_lt_of_cell? w _ h; omega)
      have c1 := nb (Hrow.out k _ (getD_some (d := 0) (by omega)))
      unfold bv at c1
      have b1 := HBr.out.getD k
      have c2 := nb Hbox.out
      have hpk : parts[k]? = some (parts.getD k []) := getD_some hlt
      have hfl := HR.out.get hlt
      obtain ⟨c3', _, c3r, _⟩ := HM.out k _ hpk
      have c3 := nb c3'
      rw [hfl.1] at c3
      obtain ⟨b', o', hA, hrowk⟩ : ∃ b' o', A k = some ⟨b', o', none⟩ ∧ RowAt w b' o' (parts.getD k []) := by
        rcases c3r with h0 | h
        · rw [h0] at hfl; simp at hfl; omega
        · exact h
      rw [hA] at c3
      have hpr := prTo_ok (row := row) HR.out k hk
      have hps := Lib.hid (show prTo row parts L (k + 1) = addMul (row.getD k 0) (prTo row parts L k) (parts.getD k []) from rfl)
      have Hrk := Lib.hid hrowk
      have Hfl := Lib.hid hfl
      have Hpr := Lib.hid hpr
      have HKo := Lib.hid hK.out
      have HBo := Lib.hid hB.out
      generalize parts.getD k [] = fr at *
      generalize row.getD k 0 = f at *
      generalize prTo row parts L k = pr at *
      clear hpk hfl c3' c3r hA hrowk hpr hK hB nb hK0
      go_wp2_with fail
      clear c1 c2 c3
      go_loopg [26] L (fun gx j wx => ∃ x : Nat, x + gx = L ∧ j = .int .i64 x ∧ Hid (Kept (· = w.heap.size) w wx) ∧ Hid (Blk wx w.heap.size 5 ((amTo f pr fr x).map bv)))
      case atStart => exact ⟨0, by omega, rfl, HKo.out, by have := HBo.out; rw [amTo_zero]; exact this⟩
      case round =>
        obtain ⟨x, hgx, rfl, hK, hB⟩ := hrel
        have Hgx := Lib.hid hgx
        have hx : x ≤ L := by omega
        clear hgx
        by_cases hltx : x < L
        · have hfl1 := Hfl.out.1
          have hpl1 := Hpr.out.1
          have d1 : wr.cell? ⟨w.heap.size, x, none⟩ = some (.int .u8 (pr.getD x 0)) := hB.out.cell (by rw [List.getElem?_map, amTo_get (by omega) (by omega)]; rfl)
          have f1 := hB.out.frozen x
          have d2' := Hrk.out x _ (getD_some (d := 0) (by omega))
          have d2 := hK.out.cell d2' (by have := World.block_lt_of_cell? w _ d2'; omega)
          unfold bv at d2
          have e1 := Hpr.out.2.getD x
          have e2 := Hfl.out.2.getD x
          have HK := Lib.hid hK.out
          have HB := Lib.hid hB.out
          generalize hxx : pr.getD x 0 = px at *
          generalize hyy : fr.getD x 0 = fx at *
          have Hxx := Lib.hid hxx
          have Hyy := Lib.hid hyy
          have hzw : w.heap.size < wr.heap.size := hB.out.lt
          clear hxx hyy d2' hfl1 hpl1 hK hB
          go_wp2_with fail
          go_region_with (go_at_call 48; refine (Mul_any _ _ _ b1 e2).mono ?_; rintro e w' ⟨rfl, hB'⟩; have HB' : Hid (Below wr.heap.size wr w') := ⟨hB'.os, hB'.tape, hB'.output, hB'.size, hB'.block⟩; have d1' := (HB'.out.cell (p := ⟨w.heap.size, x, none⟩) hzw).trans d1; have f1' := (HB'.out.frozen (p := ⟨w.heap.size, x, none⟩) hzw).trans f1; clear hB')
          all_goals
            go_wp2_with fail
            go_roundg (L - x - 1)
            case measure => have := Hgx.out; omega
            case rel =>
              obtain ⟨r1, r2⟩ := cm_step (f := f) (by rw [Hfl.out.1]; exact hltx) (by rw [Hfl.out.1, Hpr.out.1]) Hxx.out Hyy.out e1 HK.out HB.out HB'.out
              exact ⟨x + 1, by have := Hgx.out; omega, by go_num, r1, r2⟩
        · have hxl : x = fr.length := by rw [Hfl.out.1]; omega
          have Hfin := hB.out
          rw [amTo_all hxl (by rw [Hfl.out.1, Hpr.out.1]), ← hps.out] at Hfin
          have Hfin := Lib.hid Hfin
          have HK := Lib.hid hK.out
          clear hxl hK hB
          go_wp2_with fail
          go_roundg (parts.length - k - 1)
          case measure => have := Hgk.out; omega
          case rel => exact ⟨k + 1, by have := Hgk.out; omega, by go_num, HK.out, Hfin.out⟩
    · have hkl : k = parts.length := by omega
      have Hfin := hB.out
      have HK := Lib.hid hK.out
      rw [hkl] at Hfin
      have hlen := (prTo_ok (row := row) HR.out parts.length (Nat.le_refl _)).1
      have Hlen := Lib.hid hlen
      have Hfin := Lib.hid Hfin
      clear hlen hkl hK hB
      go_wp2_with fail
      go_ret
      refine ⟨w.heap.size, L, ?_, Nat.le_refl _, ?_, ?_, Hfin.out, HK.out.below (Nat.le_refl _) (fun q hq => by omega)⟩
      · rw [Hlen.out]; rfl
      · rw [Hlen.out]; exact Nat.le_refl _
      · unfold maxLen; omega

theorem combiner1_n (b o cap pb bp op capp L n N : Nat) (row : List Nat) (parts : List (List Nat)) (A : Nat → Option Addr) (C : Nat → Nat) (w : World) (hn : row.length = n) (hNl : parts.length = N) (hrow : RowAt w b o row) (hbox : w.cell? ⟨pb, 0, none⟩ = some (.slice (some ⟨bp, op, none⟩) N capp)) (hM : MxAt w bp op parts A C)
    (hR : Rect L parts) (hl : n = N) (h1 : 1 ≤ N) (hN : N ≤ 1000) (hL : L ≤ 1000000) (hL1 : 1 ≤ L) (hBr : Byt row) :
    Calls Try.prog 104 #[.slice (some ⟨b, o, none⟩) n cap, .pointer (some ⟨pb, 0, none⟩)] w (RowOut (prTo row parts L N) w) := by
  subst hn hNl
  exact combiner1_any b o cap pb bp op capp L row parts A C w hrow hbox hM hR hl h1 hN hL hL1 hBr
end Go.Proofs.Ytkclmfppjhmnjaa

namespace Go.Proofs.Ytkclmfppjhmnjaa
open Go.RowKit

/-- The rows by which all parts result from the data parts. -/
def rowsM (d r : Nat) : List (List Nat) := idM d ++ cauM r d
theorem rowsM_length (d r : Nat) : (rowsM d r).length = d + r := by simp [rowsM, idM_length, cauM_length]

/-- c slices that are nil. -/
def nilRows (c : Nat) : Array Value := (List.replicate c (.slice none 0 0)).toArray
theorem mkNil (n c : Nat) (hn : n ≤ c) (hc : c ≤ 1000000) (w : World) : (Instr.makeSlice 44 (.int .i64 n) (.int .i64 c)).run Try.prog w = .ok (.slice (some ⟨w.heap.size, 0, none⟩) n c) (w.alloc (.cells (nilRows c) 26)) := by
  obtain ⟨i0, hi, hz0, hz1, hz2⟩ := info_parts infoBytes
  have h := run_make (P := Try.prog) w 44 26 i0 (.slice none 0 0) Try.underlying44 hi hz0 .i64 .i64 (n : Int) (c : Int) (by omega) (by omega) (by rw [hz2]; omega) (by omega)
  rw [h, hz1]
  have e : madeCells (Value.cells (.slice none 0 0)) ((c : Int).toNat * 1) = nilRows c := by
    apply Array.ext
    · simp [size_madeCells, nilRows]
    · intro i h1 h2
      simp [madeCells, nilRows, Value.cells, Nat.mod_one]
  rw [e, Int.toNat_natCast, Int.toNat_natCast]

/-- The first k rows are made, the others are nil. -/
structure PM (w : World) (B g d c : Nat) (hd : List (Nat × Nat)) (k : Nat) : Prop extends OwnRows w B hd ((idM d).take k) where
  outer : w.ownsRow B 26 1 (.slice (some ⟨g, 0, none⟩) d c) d (hvs hd ((idM d).take k) ++ List.replicate (d - k) (.slice none 0 0))

theorem PM.start (w : World) {d c : Nat} (h : d ≤ c) (hc : c ≤ 1000000) : PM (w.alloc (.cells (nilRows c) 26)) w.heap.size w.heap.size d c [] 0 :=
  { OwnRows.nil _ _ with
    outer := ⟨by simp [hvs], Or.inr ⟨w.heap.size, c, nilRows c, rfl, Nat.le_refl _, heap_alloc_new w _, h, by unfold maxLen; omega, by simp [nilRows], by simp [hvs, nilRows, List.take_replicate]; omega⟩⟩ }

theorem hvs_take_length {d k : Nat} {hd : List (Nat × Nat)} (hl : hd.length = ((idM d).take k).length) (hk : k ≤ d) : (hvs hd ((idM d).take k)).length = k := by
  rw [hvs_length hl, List.length_take, idM_length]; omega

theorem PM.cell {w : World} {B g d c : Nat} {hd : List (Nat × Nat)} {k : Nat} (h : PM w B g d c hd k) (hk : k < d) : Blk w g 26 (hvs hd ((idM d).take k) ++ List.replicate (d - k) (.slice none 0 0)) ∧ w.cell? ⟨g, k, none⟩ = some (.slice none 0 0) ∧ w.frozen? ⟨g, k, none⟩ = false := by
  have hb := Blk.of_owns h.outer
  have hl := hvs_take_length h.len (by omega)
  exact ⟨hb, hb.cell (by rw [List.getElem?_append_right (by omega), hl, Nat.sub_self, List.getElem?_replicate, if_pos (by omega)]), hb.frozen k⟩

theorem size_setCell (w : World) (p : Addr) (u : Value) : (w.setCell p u).heap.size = w.heap.size := by simp [World.setCell]

theorem PM.step {w : World} {B g d c : Nat} {hd : List (Nat × Nat)} {k : Nat} (h : PM w B g d c hd k) (hk : k < d) (hB : B ≤ w.heap.size) :
    PM ((w.setCell ⟨g, k, none⟩ (hv d (w.heap.size, d))).alloc (.cells ((zs d).setIfInBounds k (.int .u8 1)) 5)) B g d c (hd ++ [(w.heap.size, d)]) (k + 1) := by
  have hb := Blk.of_owns h.outer
  have hl := hvs_take_length h.len (by omega)
  have K1 : Kept (fun x => x = g) w ((w.setCell ⟨g, k, none⟩ (hv d (w.heap.size, d))).alloc (.cells ((zs d).setIfInBounds k (.int .u8 1)) 5)) :=
    ((Kept.refl (fun x => x = g) w).setCell (p := ⟨g, k, none⟩) (fun _ => rfl) _).alloc _
  have hrow : Blk ((w.setCell ⟨g, k, none⟩ (hv d (w.heap.size, d))).alloc (.cells ((zs d).setIfInBounds k (.int .u8 1)) 5)) w.heap.size 5 ((unitVec d k).map bv) := by
    have h1 := Blk.new (w.setCell ⟨g, k, none⟩ (hv d (w.heap.size, d))) 5 ((zs d).setIfInBounds k (.int .u8 1))
    have hz1 := zs_set d k 1
    rw [show ((1 : Nat) : Int) = 1 from rfl] at hz1
    rw [size_setCell, hz1] at h1
    exact h1
  have hne : ∀ (i : Nat) (p : Nat × Nat), hd[i]? = some p → ¬ p.1 = g := by
    intro i p hp e
    obtain ⟨r, hr⟩ := h.row hp
    have h1 := (h.rows i p r hp hr).1
    rw [e] at h1
    exact absurd (h1.type hb) (by decide)
  have hrows : OwnRows ((w.setCell ⟨g, k, none⟩ (hv d (w.heap.size, d))).alloc (.cells ((zs d).setIfInBounds k (.int .u8 1)) 5)) B (hd ++ [(w.heap.size, d)]) ((idM d).take (k + 1)) := by
    have := h.toOwnRows.snoc K1 hne (p := (w.heap.size, d)) (r := unitVec d k) hrow (Nat.le_refl _) hB (by rw [unitVec_length]; exact Nat.le_refl _)
    rw [← idM_take hk] at this
    exact this
  refine { hrows with outer := ?_ }
  have o2 := ((h.outer.stored k (hv d (w.heap.size, d))).1).alloc (.cells ((zs d).setIfInBounds k (.int .u8 1)) 5)
  have e : (hvs hd ((idM d).take k) ++ List.replicate (d - k) (Value.slice none 0 0)).set k (hv d (w.heap.size, d)) = hvs (hd ++ [(w.heap.size, d)]) ((idM d).take (k + 1)) ++ List.replicate (d - (k + 1)) (Value.slice none 0 0) := by
    rw [idM_take hk, hvs_snoc h.len, unitVec_length, List.set_append_right _ _ (by omega), hl, Nat.sub_self, show d - k = d - (k + 1) + 1 by omega, List.replicate_succ, List.set_cons_zero, List.append_assoc]
    rfl
  rw [e] at o2
  exact o2

theorem PM.done {w : World} {B g d c : Nat} {hd : List (Nat × Nat)} (h : PM w B g d c hd d) : GM w B (.slice (some ⟨g, 0, none⟩) d c) hd (idM d) := by
  have e : (idM d).take d = idM d := List.take_of_length_le (by rw [idM_length]; exact Nat.le_refl _)
  have h1 := h.toOwnRows
  have h2 := h.outer
  rw [e, Nat.sub_self, List.replicate_zero, List.append_nil] at h2
  rw [e] at h1
  exact { h1 with outer := by rw [idM_length]; exact h2 }

theorem Blk.src {w : World} {g T : Nat} {xs : List Value} (h : Blk w g T xs) : ∀ (j : Nat) (u : Value), xs[j]? = some u → w.cell? ((⟨g, 0, none⟩ : Addr).add j) = some u := by
  intro j u hu
  have h2 : (⟨g, 0, none⟩ : Addr).add j = ⟨g, j, none⟩ := by unfold Addr.add; split <;> simp_all
  rw [h2]; exact h.cell hu

theorem hvs_append {hd hd' : List (Nat × Nat)} {m m' : List (List Nat)} (h : hd.length = m.length) : hvs (hd ++ hd') (m ++ m') = hvs hd m ++ hvs hd' m' := by
  unfold hvs; rw [List.zipWith_append h]

theorem hvs_one {hd : List (Nat × Nat)} {m : List (List Nat)} : ∀ u ∈ hvs hd m, u.oneCell' = true := by
  intro u hu
  unfold hvs at hu
  rw [List.mem_iff_getElem?] at hu
  obtain ⟨i, hi⟩ := hu
  rw [List.getElem?_zipWith] at hi
  cases h1 : hd[i]? with
  | none => simp [h1] at hi
  | some p =>
    cases h2 : m[i]? with
    | none => simp [h1, h2] at hi
    | some r => simp only [h1, h2, Option.some.injEq] at hi; subst hi; rfl

/-- Rows of the call's own, and behind them other ones. -/
theorem GM.append {w1 w2 w3 : World} {B : Nat} {v v' vc : Value} {hd hdc : List (Nat × Nat)} {m mc : List (List Nat)} (h : GM w1 B v hd m) (k1 : Below w1.heap.size w1 w2) (hc : GM w2 w1.heap.size vc hdc mc) (hB : B ≤ w1.heap.size)
    (hown : w3.ownsRow B 26 1 v' (m.length + mc.length) (hvs hd m ++ hvs hdc mc)) (hgr : w2.grownBy w3 v.ownBlock) : GM w3 B v' (hd ++ hdc) (m ++ mc) := by
  have h2 := h.new k1
  have K3 := Kept.of_grown hgr
  have n1 : ∀ (i : Nat) (p : Nat × Nat), hd[i]? = some p → ¬ some p.1 = v.ownBlock := fun i p hp => h2.not_own hp
  have n2 : ∀ (i : Nat) (p : Nat × Nat), hdc[i]? = some p → ¬ some p.1 = v.ownBlock := by
    intro i p hp e
    obtain ⟨r, hr⟩ := hc.row hp
    exact absurd ((owns_block h2.outer e.symm).1.type (hc.rows i p r hp hr).1) (by decide)
  have r1 := h2.toOwnRows.kept K3 n1
  have r2 := hc.toOwnRows.kept K3 n2
  have cut : ∀ {α : Type} (l l' : List α) (i : Nat) (x : α), (l ++ l')[i]? = some x → (i < l.length ∧ l[i]? = some x) ∨ (l.length ≤ i ∧ l'[i - l.length]? = some x) := by
    intro α l l' i x hx
    by_cases hi : i < l.length
    · rw [List.getElem?_append_left hi] at hx; exact Or.inl ⟨hi, hx⟩
    · rw [List.getElem?_append_right (by omega)] at hx; exact Or.inr ⟨by omega, hx⟩
  refine { len := by simp [h.len, hc.len], inj := ?_, rows := ?_, outer := by rw [hvs_append h.len, List.length_append]; exact hown }
  · intro i j p q hp hq e
    rcases cut _ _ _ _ hp with ⟨i1, i2⟩ | ⟨i1, i2⟩
    · rcases cut _ _ _ _ hq with ⟨j1, j2⟩ | ⟨j1, j2⟩
      · exact h.inj i j p q i2 j2 e
      · have := (h.lt i2).1; have := (hc.lt j2).2; omega
    · rcases cut _ _ _ _ hq with ⟨j1, j2⟩ | ⟨j1, j2⟩
      · have := (h.lt j2).1; have := (hc.lt i2).2; omega
      · have := hc.inj _ _ p q i2 j2 e; omega
  · intro i p r hp hr
    rcases cut _ _ _ _ hp with ⟨i1, i2⟩ | ⟨i1, i2⟩
    · rcases cut _ _ _ _ hr with ⟨j1, j2⟩ | ⟨j1, j2⟩
      · exact r1.rows i p r i2 j2
      · rw [h.len] at i1; omega
    · rcases cut _ _ _ _ hr with ⟨j1, j2⟩ | ⟨j1, j2⟩
      · rw [h.len] at i1; omega
      · rw [← h.len] at j2
        have := r2.rows _ p r i2 j2
        exact ⟨this.1, Nat.le_trans hB this.2.1, this.2.2⟩

/-- What matrix leaves. -/
def PMat (d r : Nat) (w : World) (e : Ending) (w' : World) : Prop :=
  ∃ v hd, e = .returned v ∧ GM w' w.heap.size v hd (rowsM d r) ∧ Below w.heap.size w w' ∧ (r = 0 → v = .slice (some ⟨w.heap.size, 0, none⟩) d d)

set_option maxRecDepth 100000 in
set_option maxHeartbeats 4000000 in
theorem pmatrix_p (d r : Nat) (w : World) (h1 : 1 ≤ d) (h2 : d + r ≤ 64) : Calls Try.prog 89 #[.int .i64 d, .int .i64 r] w (PMat d r w) := by
  obtain ⟨j0, gi, gz0, gz1, gz2⟩ := info_parts infoBytes
  have mk1 := mkNil d (d + r) (by omega) (by omega)
  have mk2 := mkBytes d (by omega)
  rw [show ((d + r : Nat) : Int) = (d : Int) + (r : Int) by omega] at mk1
  have HB0 := Lib.hid ((Below.refl w.heap.size w).alloc (Nat.le_refl _) (.cells (nilRows (d + r)) 26))
  go_enter Try.func89, Try.ntmps89
  go_wp2_with fail
  clear mk1
  go_loopg [16] d (fun gk i wr => ∃ k : Nat, k + gk = d ∧ i = .int .i64 k ∧ Hid (∃ hd, PM wr w.heap.size w.heap.size d (d + r) hd k) ∧ Hid (Below w.heap.size w wr))
  case atStart => exact ⟨0, by omega, rfl, ⟨[], PM.start w (by omega) (by omega)⟩, HB0.out⟩
  case round =>
    obtain ⟨k, hgk, rfl, hP, hB⟩ := hrel
    have Hgk := Lib.hid hgk
    have hk : k ≤ d := by omega
    clear hgk
    by_cases hlt : k < d
    · obtain ⟨hd, hP⟩ := hP.out
      obtain ⟨hbk, hcell, hfr⟩ := hP.cell hlt
      have hgw : w.heap.size < wr.heap.size := hbk.lt
      have hst := Lib.hid (hP.step hlt hB.out.size)
      have hzg := zs_get hlt
      have ne1 : w.heap.size ≠ wr.heap.size := by omega
      have hB1 := Lib.hid (((hB.out).setCell (p := ⟨w.heap.size, k, none⟩) (Nat.le_refl _) (hv d (wr.heap.size, d))).alloc (by rw [size_setCell]; exact hB.out.size) (.cells ((zs d).setIfInBounds k (.int .u8 1)) 5))
      clear hP hB hbk
      go_wp2_with fail
      go_roundg (d - k - 1)
      case measure => have := Hgk.out; omega
      case rel => exact ⟨k + 1, by have := Hgk.out; omega, by go_num, ⟨_, hst.out⟩, hB1.out⟩
    · obtain ⟨hd, hP⟩ := hP.out
      obtain rfl : k = d := by omega
      have hG := Lib.hid hP.done
      have HBr := Lib.hid hB.out
      clear hP hB
      by_cases hr : r = 0
      · have tr : decide ((0 : Int) < (r : Int)) = false := by simp; omega
        have he := Lib.hid (show rowsM k r = idM k by unfold rowsM; rw [hr]; simp [cauM])
        have hr0 : r ≤ 0 := by omega
        have Hr := Lib.hid hr
        clear hr
        go_wp2_with fail
        go_ret
        exact ⟨_, hd, rfl, by rw [he.out]; exact hG.out, HBr.out, fun _ => by show Value.slice _ _ (k + r) = _; rw [Hr.out]; rfl⟩
      · have tr : decide ((0 : Int) < (r : Int)) = true := by simp; omega
        have hr1 : 1 ≤ r := by omega
        have hs0 := HBr.out.size
        go_wp2_with fail
        refine (Cauchy_in r k _ hr1 (by omega) h1 (by omega)).mono ?_
        rintro e w2 ⟨vc, hdc, rfl, hGc, hBc⟩
        obtain ⟨bc, cc, rfl, hcc, _, hO⟩ := hGc.done (by intro h; have := cauM_length r k; rw [h] at this; simp at this; omega)
        have HO := Lib.hid hO.outer
        have HGc := Lib.hid hGc
        have HBc := Lib.hid hBc
        have Ho2 := Lib.hid (hG.out.new hBc).outer
        have hlc := cauM_length r k
        have Hlc := Lib.hid hlc
        have Hvl := Lib.hid (hvs_length hGc.len)
        have hsc := hBc.size
        have Hid' := Lib.hid (idM_length k)
        rw [hlc]
        rw [idM_length] at Ho2
        clear hO hGc hBc hlc
        go_wp2_with (at_builtin; refine wpList_append_own _ rfl _ _ 44 rfl w.heap.size 26 j0 (.slice none 0 0) 1 24 Try.underlying44 gi gz0 gz1 gz2 rfl (by decide) _ _ _ rfl Ho2.out ⟨bc, 0, none⟩ r cc (hvs hdc (cauM r k)) rfl ?d0 ?d1 ?d2 ?d3 ?d4 ?d5 ?_)
        case d0 => rw [Hvl.out, Hlc.out]; simp
        case d1 => exact HO.out.src
        case d2 => exact hvs_one
        case d3 => unfold maxLen; omega
        case d4 => omega
        case d5 => omega
        intro v' w3 hown hgr _
        have hG3 := hG.out.append HBc.out HGc.out HBr.out.size (by rw [Hid'.out, Hlc.out]; exact hown) hgr
        have hB3 : Below w.heap.size w w3 := (HBr.out.trans (HBc.out.mono HBr.out.size)).grown hgr (by omega) (fun q hq => (owns_block hG.out.outer hq).2.1)
        have HG3 := Lib.hid hG3
        have HB3 := Lib.hid hB3
        clear hown hgr hG3 hB3
        go_wp2_with fail
        go_ret
        exact ⟨_, _, rfl, HG3.out, HB3.out, fun e => by omega⟩

theorem pmatrix_any (d r : Nat) (w : World) (h1 : 1 ≤ d) (h2 : d + r ≤ 64) : Calls Try.prog 89 #[.int .i64 d, .int .i64 r] w (RowsRet (rowsM d r) w) :=
  (pmatrix_p d r w h1 h2).mono fun _ _ ⟨v, hd, he, hG, hB, _⟩ => ⟨v, hd, he, hG, hB⟩

/-- The slice that matrix returns. -/
theorem pmatrix_at (d r : Nat) (w : World) (h1 : 1 ≤ d) (h2 : d + r ≤ 64) : Calls Try.prog 89 #[.int .i64 d, .int .i64 r] w fun e w' =>
    ∃ bo co hd, e = .returned (.slice (some ⟨bo, 0, none⟩) (d + r) co) ∧ d + r ≤ co ∧ co ≤ maxLen ∧ OM w' w.heap.size bo hd (rowsM d r) ∧ Below w.heap.size w w' ∧ (r = 0 → co = d) ∧ (1 ≤ r → d < co) := by
  refine (pmatrix_p d r w h1 h2).mono ?_
  rintro e w' ⟨v, hd, rfl, hG, hB, hz⟩
  obtain ⟨bo, co, hv, k1, k2, hO⟩ := hG.done (by intro h; have := rowsM_length d r; rw [h] at this; simp at this; omega)
  rw [rowsM_length] at hv k1
  refine ⟨bo, co, hd, by rw [hv], k1, k2, hO, hB, fun e => ?_, fun e => by omega⟩
  have := hz e
  rw [hv] at this
  simp at this
  exact this.2.2
end Go.Proofs.Ytkclmfppjhmnjaa
