/- Contracts of the reference's Invert and Rank. -/
/- The contract of the reference's Rank; the walk of the law GaloisInverts. -/
/- Contracts of galois.Product and of the reference's Product. -/
import Derived.Test.YtkclmfppjhmnjaaB17
import Derived.Test.YtkclmfppjhmnjaaB18
import Derived.Test.YtkclmfppjhmnjaaB19
namespace Go.Proofs.Ytkclmfppjhmnjaa
open Go.RowKit

/-- What a function that returns a matrix and the number of an error leaves. -/
def MxErr (rows : List (List Nat)) (err : Nat) (w : World) (e : Ending) (w' : World) : Prop :=
  ∃ v, e = .returned (.tuple #[v, .int .i64 err]) ∧ Mx w' v rows ∧ Below w.heap.size w w'

theorem OV.of_rows {w : World} {B bo : Nat} {hd : List (Nat × Nat)} {o : List (List Nat)} (h : OM w B bo hd o) (hne : ∀ r ∈ o, r ≠ []) : OV w B bo (hvs hd o) o := by
  refine ⟨hvs_length h.len, h.outer, h.obase, ?_, ?_⟩
  · intro i v s hv hs
    have hi := (List.getElem?_eq_some_iff.1 hs).1
    have hp : hd[i]? = some (hd.getD i (0, 0)) := getD_some (by rw [h.len]; exact hi)
    rw [hvs_get hp hs] at hv
    simp only [Option.some.injEq] at hv
    subst hv
    obtain ⟨h1, h2, h3⟩ := h.rows i _ s hp hs
    exact Or.inr ⟨hne s (List.mem_of_getElem? hs), _, _, rfl, h1, h2, h3⟩
  · intro i j v u g hv hu gv gu
    have hi := (List.getElem?_eq_some_iff.1 hv).1
    have hj := (List.getElem?_eq_some_iff.1 hu).1
    rw [hvs_length h.len] at hi hj
    have hp : hd[i]? = some (hd.getD i (0, 0)) := getD_some (by rw [h.len]; exact hi)
    have hq : hd[j]? = some (hd.getD j (0, 0)) := getD_some (by rw [h.len]; exact hj)
    rw [hvs_get hp (getD_some (d := []) hi)] at hv
    rw [hvs_get hq (getD_some (d := []) hj)] at hu
    simp only [Option.some.injEq] at hv hu
    subst hv; subst hu
    simp only [Go.Proofs.Ytkclmfppjhmnjaa.hv, Value.ownBlock, Option.some.injEq] at gv gu
    exact h.inj i j _ _ hp hq (by rw [gv, gu])

theorem OV.mx {w : World} {B bo N cap : Nat} {vs : List Value} {o : List (List Nat)} (h : OV w B bo vs o) (hl : o.length = N) (hc : N ≤ cap) : Mx w (.slice (some ⟨bo, 0, none⟩) N cap) o := by
  refine ⟨_, cap, by rw [hl], by omega, Or.inr ⟨bo, 0, fun i => match vs.getD i (.bool false) with | .slice a _ _ => a | _ => none, fun i => match vs.getD i (.bool false) with | .slice _ _ c => c | _ => 0, rfl, ?_⟩⟩
  intro i s hs
  have hi := (List.getElem?_eq_some_iff.1 hs).1
  have hv : vs[i]? = some (vs.getD i (.bool false)) := getD_some (by rw [h.len]; exact hi)
  have hr := h.rows i _ s hv hs
  have hcell := h.outer.cell hv
  rw [Nat.zero_add]
  dsimp only
  rcases hr with ⟨e, rfl⟩ | ⟨h0, g, c, e, hb, h1, h2⟩
  · rw [e] at hcell ⊢
    exact ⟨hcell, by simp, Or.inl rfl, fun _ => rfl⟩
  · rw [e] at hcell ⊢
    exact ⟨hcell, h2, Or.inr ⟨g, 0, rfl, hb.row⟩, by simp⟩

theorem zip2_id (m : List (List Nat)) : zip2 m (idM m.length) = wideM m := by
  apply List.ext_getElem?
  intro i
  by_cases hi : i < m.length
  · have h1 := getD_some (d := []) hi
    rw [wideM_get h1, zip2_get h1 (s := unitVec m.length i) (by simp [idM, hi])]
  · rw [List.getElem?_eq_none (by rw [zip2_length (by rw [idM_length])]; omega), List.getElem?_eq_none (by rw [wideM_length]; omega)]

theorem zip2_drop {n : Nat} {m o : List (List Nat)} (hm : Rect n m) (h : m.length = o.length) : (zip2 m o).map (List.drop n) = o := by
  apply List.ext_getElem?
  intro i
  by_cases hi : i < m.length
  · have h1 := getD_some (d := []) hi
    have h2 : o[i]? = some (o.getD i []) := getD_some (by omega)
    have hl := (hm.get hi).1
    rw [List.getElem?_map, zip2_get h1 h2, h2]
    show some (List.drop n (m.getD i [] ++ o.getD i [])) = _
    rw [← hl, List.drop_left]
  · rw [List.getElem?_eq_none (by rw [List.length_map, zip2_length h]; omega), List.getElem?_eq_none (by omega)]

theorem idM_rect (n : Nat) : Rect n (idM n) := by
  intro r hr
  obtain ⟨i, _, rfl⟩ := List.mem_map.1 hr
  exact ⟨unitVec_length _ _, unitVec_byt _ _⟩

theorem Rect.nonempty {n : Nat} {m : List (List Nat)} (h : Rect n m) (hn : 1 ≤ n) : ∀ r ∈ m, r ≠ [] := by
  intro r hr e
  have := (h r hr).1
  rw [e] at this; simp at this; omega

end Go.Proofs.Ytkclmfppjhmnjaa

namespace Go.Proofs.Ytkclmfppjhmnjaa
open Go.RowKit

/-- n nil slices. -/
def nz (n : Nat) : Array Value := (List.replicate n (.slice none 0 0)).toArray
theorem mkRows (n : Nat) (hn : n ≤ 1000000000) (w : World) : (Instr.makeSlice 44 (.int .i64 n) (.int .i64 n)).run Try.prog w = .ok (.slice (some ⟨w.heap.size, 0, none⟩) n n) (w.alloc (.cells (nz n) 26)) := by
  obtain ⟨i0, hi, hz0, hz1, hz2⟩ := info_parts infoBytes
  have h := run_make (P := Try.prog) w 44 26 i0 (.slice none 0 0) Try.underlying44 hi hz0 .i64 .i64 (n : Int) (n : Int) (by omega) (by omega) (by rw [hz2]; omega) (by omega)
  rw [h, hz1]
  have e : madeCells (Value.cells (.slice none 0 0)) ((n : Int).toNat * 1) = nz n := by
    apply Array.ext
    · simp [size_madeCells, nz]
    · intro i h1 h2
      simp [madeCells, nz, Value.cells, Nat.mod_one]
  rw [e, Int.toNat_natCast]

theorem OV.nils {w : World} {B bo N : Nat} (h : Blk w bo 26 (List.replicate N (.slice none 0 0))) (hB : B ≤ bo) : OV w B bo (List.replicate N (.slice none 0 0)) (List.replicate N []) := by
  refine ⟨by simp, h, hB, ?_, ?_⟩
  · intro i v s hv hs
    have h1 := List.eq_of_mem_replicate (List.mem_of_getElem? hv)
    have h2 := List.eq_of_mem_replicate (List.mem_of_getElem? hs)
    exact Or.inl ⟨h1, h2⟩
  · intro i j v u g hv hu gv
    have h1 := List.eq_of_mem_replicate (List.mem_of_getElem? hv)
    rw [h1] at gv
    simp [Value.ownBlock] at gv

theorem zip2_nil (m : List (List Nat)) : zip2 m (List.replicate m.length []) = m := by
  apply List.ext_getElem?
  intro i
  by_cases hi : i < m.length
  · have h1 := getD_some (d := []) hi
    rw [zip2_get h1 (s := []) (by simp [hi]), h1, List.append_nil]
  · rw [List.getElem?_eq_none (by rw [zip2_length (by simp)]; omega), List.getElem?_eq_none (by omega)]

theorem nil_rect (N : Nat) : Rect 0 (List.replicate N []) := by
  intro r hr
  have := List.eq_of_mem_replicate hr
  subst this
  exact ⟨rfl, fun x hx => by simp at hx⟩

theorem RS_rank {w : World} {B bm bo n : Nat} {hd : List (Nat × Nat)} {m : List (List Nat)} (hO : OM w B bm hd m) (hb : Blk w bo 26 (nz m.length).toList) (hB : B ≤ bo) (hne : bm ≠ bo) (hR : Rect n m) (hsz : B ≤ w.heap.size) :
    RS w w B bm bo n 0 m.length hd (List.replicate m.length (.slice none 0 0)) m (List.replicate m.length []) := by
  refine ⟨⟨hO, OV.nils hb hB, hne, ?_, Below.refl _ _, hsz⟩, hR, nil_rect _, rfl, by simp⟩
  intro i j p v hp hv e
  have h1 := List.eq_of_mem_replicate (List.mem_of_getElem? hv)
  rw [h1] at e
  simp [Value.ownBlock] at e

theorem rect_bytM {n : Nat} {m : List (List Nat)} (h : Rect n m) : BytM m := fun r hr => (h r hr).2
theorem invRows_byt {m : List (List Nat)} (hB : BytM m) : BytM (invRows m) := by
  unfold invRows
  split
  · rename_i h
    have hI : isMat m := by
      apply Classical.byContradiction
      intro hI
      unfold invErr at h
      rw [if_neg hI] at h
      exact absurd h (by decide)
    intro r hr
    obtain ⟨s, hs, rfl⟩ := List.mem_map.1 hr
    have := redTo_rect (wideM_rect (hI.rect hB)) m.length s hs
    exact fun x hx => this.2 x (List.mem_of_mem_drop hx)
  · intro r hr; simp at hr
theorem invRows_length (m : List (List Nat)) : (invRows m).length ≤ m.length := by
  unfold invRows
  split
  · rw [List.length_map, redTo_length, wideM_length]; omega
  · exact Nat.zero_le _

end Go.Proofs.Ytkclmfppjhmnjaa

namespace Go.Proofs.Ytkclmfppjhmnjaa
open Go.RowKit

/-- The sum of the first i rows of b, times the first i elements of row. -/
def prTo (row : List Nat) (b : List (List Nat)) (cols : Nat) : Nat → List Nat
  | 0 => List.replicate cols 0
  | i + 1 => addMul (row.getD i 0) (prTo row b cols i) (b.getD i [])
def prodM (a b : List (List Nat)) : List (List Nat) := a.map fun row => prTo row b (b.getD 0 []).length b.length
def prodErr (a b : List (List Nat)) : Nat := if isMat a ∧ isMat b then if (a.getD 0 []).length = b.length then 0 else 23 else 6
def prodRows (a b : List (List Nat)) : List (List Nat) := if prodErr a b = 0 then prodM a b else []

theorem prTo_ok {row : List Nat} {b : List (List Nat)} {cols : Nat} (hb : Rect cols b) (i : Nat) (hi : i ≤ b.length) : (prTo row b cols i).length = cols ∧ Byt (prTo row b cols i) := by
  induction i with
  | zero =>
    refine ⟨by simp [prTo], fun x hx => ?_⟩
    have := List.eq_of_mem_replicate hx
    omega
  | succ i ih =>
    have h1 := ih (by omega)
    have h2 := hb.get (i := i) (by omega)
    exact ⟨by show (addMul _ _ _).length = _; rw [addMul_length]; omega, addMul_byt h1.2⟩

theorem prodM_length (a b : List (List Nat)) : (prodM a b).length = a.length := by simp [prodM]
theorem prodM_get {a b : List (List Nat)} {i : Nat} {r : List Nat} (h : a[i]? = some r) : (prodM a b)[i]? = some (prTo r b (b.getD 0 []).length b.length) := by simp [prodM, h]
theorem prodM_byt {a b : List (List Nat)} (hb : Rect (b.getD 0 []).length b) : BytM (prodM a b) := by
  intro r hr
  obtain ⟨row, _, rfl⟩ := List.mem_map.1 hr
  exact (prTo_ok hb _ (Nat.le_refl _)).2

theorem zs_map (n : Nat) : (zs n).toList = (List.replicate n 0).map bv := by
  unfold zs
  rw [List.map_replicate]

/-- galois.Product, where the sizes fit. -/
theorem Product_pre {w : World} {ba oa bb ob : Nat} {a b : List (List Nat)} {A A' : Nat → Option Addr} {C C' : Nat → Nat} (hMa : MxAt w ba oa a A C) (hMb : MxAt w bb ob b A' C') (ha : Rect b.length a) {cols : Nat} (hb : Rect cols b) (hc : 1 ≤ cols) (hbl : 1 ≤ b.length) :
    (∀ i, i < a.length → ∃ b' o', A i = some ⟨b', o', none⟩ ∧ RowAt w b' o' (a.getD i []) ∧ b' < w.heap.size) ∧ (∀ i, i < b.length → ∃ b' o', A' i = some ⟨b', o', none⟩ ∧ RowAt w b' o' (b.getD i []) ∧ b' < w.heap.size) := by
  constructor
  · intro i hi
    obtain ⟨b', o', h1, h2⟩ := RowAt.of_mx hMa (getD_some hi) (ha.nonempty hbl _ (List.mem_of_getElem? (getD_some hi)))
    have h3 := h2 0 _ (getD_some (d := 0) (by rw [(ha.get hi).1]; omega))
    exact ⟨b', o', h1, h2, World.block_lt_of_cell? w _ h3⟩
  · intro i hi
    obtain ⟨b', o', h1, h2⟩ := RowAt.of_mx hMb (getD_some hi) (hb.nonempty hc _ (List.mem_of_getElem? (getD_some hi)))
    have h3 := h2 0 _ (getD_some (d := 0) (by rw [(hb.get hi).1]; omega))
    exact ⟨b', o', h1, h2, World.block_lt_of_cell? w _ h3⟩

end Go.Proofs.Ytkclmfppjhmnjaa
