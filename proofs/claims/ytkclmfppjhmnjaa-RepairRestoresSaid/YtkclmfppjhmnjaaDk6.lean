/- The contract of repair.Restore. -/
import Derived.Test.YtkclmfppjhmnjaaDk5
import Derived.Test.YtkclmfppjhmnjaaW3
import Derived.Laws.ResultCell
import Derived.Laws.CopyOwn
import Derived.Deep.RegionLaw
import Derived.Lib.AppendZeros
namespace Go.Proofs.Ytkclmfppjhmnjaa
open Go.RowKit Img

/-- A disk without pending writes, and an error. -/
def DiskErr (l : List (List Nat)) (x : Nat) (w : World) (e : Ending) (w' : World) : Prop := ∃ vs, e = .returned (.tuple #[.agg #[vs, .slice none 0 0], .int .i64 x]) ∧ Pgs w' vs 16 l ∧ Below w.heap.size w w'
theorem Pgs.nil (w : World) : Pgs w (.slice none 0 0) 16 [] := ⟨none, 0, rfl, Nat.le_refl _, Or.inl rfl⟩

theorem sizeDisk : (Try.prog.info? 25).map (·.size) = some 2 := by kernel_rfl
theorem results_disk {fn : Func} {p u : Tmp} (h : fn.results = #[.cell p 25, .tmp u]) (tmps : Array Value) (w : World) (R : Nat) (vs vp : Value) (hp : tmps.getD p undef = .pointer (some ⟨R, 0, none⟩)) (c0 : w.cell? ⟨R, 0, none⟩ = some vs) (c1 : w.cell? ⟨R, 1, none⟩ = some vp) :
    (results fn tmps).run Try.prog w = .ok (.tuple #[.agg #[vs, vp], tmps.getD u undef]) w := by
  have hr : w.rangeAt R 0 [vs, vp] := by
    intro j v hv
    match j, hv with
    | 0, hv => simp only [List.getElem?_cons_zero, Option.some.injEq] at hv; subst hv; exact c0
    | 1, hv => simp only [List.getElem?_cons_succ, List.getElem?_cons_zero, Option.some.injEq] at hv; subst hv; exact c1
    | j + 2, hv => simp at hv
  have hl := run_loadVar_mid (P := Try.prog) w R 0 25 [vs, vp] _ hr Try.underlying25 rfl sizeDisk
  rw [results_cell_tmp h, hp]
  simp only [asAddr, Sem.run_pure, Result.andThen_ok, hl]

/-- The pages when the first k have been read. -/
def pagesTo (r : List Nat) (n k : Nat) : List (List Nat) := (List.range n).map fun i => if i < k then chunk r i else zp
theorem pagesTo_length (r : List Nat) (n k : Nat) : (pagesTo r n k).length = n := by simp [pagesTo]
theorem pagesTo_16 {r : List Nat} {n k : Nat} (h : k * 16 ≤ r.length) : P16 (pagesTo r n k) := by
  intro p hp
  unfold pagesTo at hp
  obtain ⟨i, _, rfl⟩ := List.mem_map.1 hp
  split
  · unfold chunk; rw [List.length_take, List.length_drop]; omega
  · exact zp_length
theorem pagesTo_zero (r : List Nat) (n : Nat) : pagesTo r n 0 = List.replicate n zp := by
  unfold pagesTo
  apply List.ext_getElem?
  intro i
  rw [List.getElem?_map, List.getElem?_replicate]
  by_cases h : i < n
  · rw [List.getElem?_range h, if_pos h]; rfl
  · rw [List.getElem?_eq_none (by simpa using h), if_neg h]; rfl
theorem pagesTo_succ (r : List Nat) (n k : Nat) : pagesTo r n (k + 1) = (pagesTo r n k).set k (chunk r k) := by
  apply List.ext_getElem?
  intro i
  unfold pagesTo
  rw [List.getElem?_map]
  by_cases hi : i < n
  · rw [List.getElem?_range hi]
    by_cases hk : k = i
    · subst hk
      rw [List.getElem?_set_self (by simpa using hi)]
      simp
    · rw [List.getElem?_set_ne hk, List.getElem?_map, List.getElem?_range hi]
      simp only [Option.map_some]
      congr 1
      by_cases h1 : i < k
      · rw [if_pos h1, if_pos (by omega)]
      · rw [if_neg h1, if_neg (by omega)]
  · rw [List.getElem?_eq_none (by simpa using hi), List.getElem?_eq_none (by simpa using hi)]; rfl
/-- The page that was read last. -/
def lastP (r : List Nat) (k : Nat) : List Nat := if k = 0 then 1 :: List.replicate 15 0 else chunk r (k - 1)
theorem chunk_16 {r : List Nat} {k : Nat} (h : (k + 1) * 16 ≤ r.length) : (chunk r k).length = 16 := by unfold chunk; rw [List.length_take, List.length_drop]; omega
theorem lastP_16 {r : List Nat} {k : Nat} (h : k * 16 ≤ r.length) : (lastP r k).length = 16 := by
  unfold lastP
  split
  · simp
  · exact chunk_16 (by omega)
theorem lastP_z {r : List Nat} : lastP r (r.length / 16) = zp ↔ lastZ r := by
  unfold lastP lastZ
  split
  · rename_i h
    constructor
    · intro hx; exact absurd hx (by decide)
    · rintro ⟨h0, _⟩; exact absurd h h0
  · rename_i h
    exact ⟨fun hx => ⟨h, hx⟩, fun hx => hx.2⟩
/-- The cells of n pages of zeros. -/
def z16 (n : Nat) : Array Value := (List.replicate (n * 16) (bv 0)).toArray
theorem z16_pgc (n : Nat) : (z16 n).toList = pgc (List.replicate n zp) := by
  have h : ∀ n, (List.replicate n zp).flatten = List.replicate (n * 16) 0 := by
    intro n
    induction n with
    | zero => rfl
    | succ n ih => rw [List.replicate_succ, List.flatten_cons, ih, Nat.succ_mul, Nat.add_comm, ← List.replicate_append_replicate]; rfl
  unfold pgc z16
  rw [h, List.map_replicate]
theorem mkPages (n : Nat) (hn : n ≤ 1000000000) (w : World) : (Instr.makeSlice 22 (.int .i64 n) (.int .i64 n)).run Try.prog w = .ok (.slice (some ⟨w.heap.size, 0, none⟩) n n) (w.alloc (.cells (z16 n) 82)) := by
  obtain ⟨i0, hi, hz0, hz1, hz2⟩ := info_parts infoPage
  have h := run_make (P := Try.prog) w 22 82 i0 (.agg (Array.replicate 16 (.int .u8 0))) Try.underlying22 hi hz0 .i64 .i64 (n : Int) (n : Int) (by omega) (by omega) (by rw [hz2]; omega) (by omega)
  rw [h, hz1]
  have e : madeCells (Value.cells (.agg (Array.replicate 16 (.int .u8 0)))) ((n : Int).toNat * 16) = z16 n := by
    apply Array.ext
    · simp [size_madeCells, z16]
    · intro i h1 h2
      have h3 : i % 16 < (Array.replicate 16 (Value.int IntKind.u8 0)).size := by rw [Array.size_replicate]; exact Nat.mod_lt _ (by decide)
      have h4 : (Array.replicate 16 (Value.int IntKind.u8 0))[i % 16]! = Value.int IntKind.u8 0 := by rw [getElem!_pos (Array.replicate 16 (Value.int IntKind.u8 0)) (i % 16) h3, Array.getElem_replicate]
      simp [madeCells, z16, Value.cells, bv, h4]
  rw [e, Int.toNat_natCast]
theorem kept_setCells {S : Nat → Prop} {a w : World} (h : Kept S a w) {b : Nat} (hp : b < a.heap.size → S b) (o : Nat) (vs : List Value) : Kept S a (w.setCells b o vs) := by
  induction vs generalizing w o with
  | nil => exact h
  | cons v r ih => rw [World.setCells]; exact ih (h.setCell (p := ⟨b, o, none⟩) hp v) (o + 1)
theorem step_copy_cells {P : Program} {ops : Array Oper} {op : Oper} {a : Act} {w : World} {K : Act → World → Prop} {Q : Exit → Act → World → Prop} {E : Prop} (hgd : op.guard = none) (d s : Operand) (dT sT : TypeId)
    (ho : op.op = .call { callee := .builtin .copy, args := #[d, s], argTypes := #[dT, sT] }) (elem : TypeId) (hu : P.underlying dT = some (.slice elem)) (hsz : (P.info? elem).map (·.size) = some 1)
    (b o dLen dCap : Nat) (ad : Addr) (sLen sCap : Nat) (hd : a.eval d = .slice (some ⟨b, o, none⟩) dLen dCap) (hs : a.eval s = .slice (some ad) sLen sCap)
    (cs : List Value) (hn : cs.length = Nat.min sLen dLen) (hsrc : ∀ j v, cs[j]? = some v → w.cell? (ad.add j) = some v) (ht : w.there b o cs.length) (h1 : ∀ v ∈ cs, v.oneCell' = true)
    (h : K (a.put op.dst (goInt cs.length)) (w.setCells b o cs)) :
    if Region.wanted op (yielded ops a.tmps) = true then Oper.wp P op a w K Q else E := by
  have hw : Region.wanted op (yielded ops a.tmps) = true := by simp [Region.wanted, hgd]
  rw [if_pos hw]
  have hrun := run_copy_cells (P := P) w dT sT op.type elem b o dLen dCap ad sLen sCap cs hu hsz hn hsrc (fun j hj => (ht j hj).1) (fun j hj => (ht j hj).2) h1
  unfold Oper.wp
  simp [execOp, ho, resolve, invoke, builtin, hd, hs, hrun, Result.andThen]
  exact h
end Go.Proofs.Ytkclmfppjhmnjaa
