/- Bytes as strings. -/
/- Contracts of the reference's Same, Is and Few. -/
/- The contract of checksum.Seal. -/
/- The contract of repair.Restore. -/
import Derived.Test.YtkclmfppjhmnjaaB00
import Derived.Test.YtkclmfppjhmnjaaProg
import Derived.Laws.BytesArg
import Derived.Deep.LoopGhost
import Derived.Deep.QuietTactic
import Derived.BigQuiet
import Derived.Test.YtkclmfppjhmnjaaB01
import Derived.Test.YtkclmfppjhmnjaaB02
import Derived.Test.YtkclmfppjhmnjaaB12
import Derived.Test.YtkclmfppjhmnjaaB07
import Derived.Test.YtkclmfppjhmnjaaB11
import Derived.Laws.ResultCell
import Derived.Laws.CopyOwn
import Derived.Deep.RegionLaw
import Derived.Lib.AppendZeros
namespace Go.Proofs.Ytkclmfppjhmnjaa
open Go.RowKit

/-- Bytes as a string. -/
def bstr (l : List Nat) : ByteArray := ⟨(l.map UInt8.ofNat).toArray⟩

theorem bstr_inj {a b : List Nat} (ha : Byt a) (hb : Byt b) (h : (bstr a).toList = (bstr b).toList) : a = b := by
  have h1 : a.map UInt8.ofNat = b.map UInt8.ofNat := by simpa [bstr] using h
  clear h
  induction a generalizing b with
  | nil => cases b with
    | nil => rfl
    | cons y b => simp at h1
  | cons x a ih => cases b with
    | nil => simp at h1
    | cons y b =>
      simp only [List.map_cons, List.cons.injEq] at h1
      have hx : x < 256 := ha x (by simp)
      have hy : y < 256 := hb y (by simp)
      have e : x = y := by
        have := congrArg UInt8.toNat h1.1
        simpa [Nat.mod_eq_of_lt hx, Nat.mod_eq_of_lt hy] using this
      rw [e, ih (fun z hz => ha z (by simp [hz])) (fun z hz => hb z (by simp [hz])) h1.2]

theorem bstr_beq {a b : List Nat} (ha : Byt a) (hb : Byt b) : ((bstr a).toList == (bstr b).toList) = decide (a = b) := by
  rw [Bool.eq_iff_iff]
  simp only [beq_iff_eq, decide_eq_true_eq]
  exact ⟨bstr_inj ha hb, fun h => by rw [h]⟩

theorem conv_row {w : World} {r : List Nat} {a : Option Addr} {c : Nat} (h : r = [] ∨ ∃ b' o', a = some ⟨b', o', none⟩ ∧ RowAt w b' o' r) :
    ∀ n, (convert 26 9 (.slice a r.length c)).run Try.prog (w.drewN n) = .ok (.string (bstr r)) (w.drewN n) := by
  intro n
  have key : ∀ b o, RowAt w b o r → (convert 26 9 (.slice (some ⟨b, o, none⟩) r.length c)).run Try.prog (w.drewN n) = .ok (.string (bstr r)) (w.drewN n) := by
    intro b o hr
    have := run_convert_bytes_arg (P := Try.prog) (w.drewN n) 26 5 Try.underlying26 Try.underlying5 b o r.length c (r.map Int.ofNat) (by simp) (fun i hi => ?_) 9 Try.underlying9
    · rw [this]
      simp [strOfNums, bstr, Function.comp_def]
    · have := hr i (r[i]) (List.getElem?_eq_getElem hi)
      simp [List.getD_eq_getElem?_getD, List.getElem?_eq_getElem hi]
      exact this
  rcases h with h | ⟨b, o, rfl, hr⟩
  · subst h
    cases a with
    | none =>
      have := run_convert_bytes_nil (P := Try.prog) (w.drewN n) 26 5 Try.underlying26 Try.underlying5 0 c 9 Try.underlying9
      rw [show ([] : List Nat).length = 0 from rfl, this]
      rfl
    | some a =>
      have h1 := run_convert_bytes_string (P := Try.prog) (w.drewN n) 26 9 5 (some a) 0 c Try.underlying26 Try.underlying5 Try.underlying9
      have h2 := run_bytesToString (P := Try.prog) (w.drewN n) a 0 c [] (by simp [loadCells, loadCellsFrom])
      rw [show ([] : List Nat).length = 0 from rfl, h1, h2]
      rfl
  · exact key b o hr

end Go.Proofs.Ytkclmfppjhmnjaa

namespace Go.Proofs.Ytkclmfppjhmnjaa
open Go.RowKit

/-- The matrices agree in their first k rows. -/
def agree (a b : List (List Nat)) (k : Nat) : Prop := ∀ i, i < k → a.getD i [] = b.getD i []

theorem agree_all {a b : List (List Nat)} (hl : a.length = b.length) (h : agree a b a.length) : a = b := by
  apply List.ext_getElem hl
  intro i h1 h2
  have := h i h1
  rw [List.getD_eq_getElem?_getD, List.getD_eq_getElem?_getD, List.getElem?_eq_getElem h1, List.getElem?_eq_getElem h2] at this
  exact this

def sameB (a b : List (List Nat)) : Bool := decide (a = b)

theorem isMatB_from {m : List (List Nat)} (h1 : 1 ≤ m.length) (h2 : m.length ≤ 64) (h3 : 1 ≤ (m.getD 0 []).length) (h4 : (m.getD 0 []).length ≤ 64) (h : ∀ i, i < m.length → (m.getD i []).length = (m.getD 0 []).length) : isMatB m = true := by
  refine decide_eq_true ⟨h1, h2, h3, h4, fun r hr => ?_⟩
  obtain ⟨i, hi⟩ := List.mem_iff_getElem?.1 hr
  have := h i (List.getElem?_eq_some_iff.1 hi).1
  rw [List.getD_eq_getElem?_getD, hi] at this
  exact this

end Go.Proofs.Ytkclmfppjhmnjaa

namespace Go.Proofs.Ytkclmfppjhmnjaa
open Go.RowKit Crc

theorem tail_vals {s : Nat} (h : s < 4294967296) : ((tail4 s).map bv) = [.int .u8 ((s : Int) % 256), .int .u8 ((s : Int) / 256 % 256), .int .u8 ((s : Int) / 65536 % 256), .int .u8 ((s : Int) / 16777216)] := by
  have e : s / 16777216 % 256 = s / 16777216 := by omega
  unfold tail4 bv
  rw [e]
  simp only [List.map_cons, List.map_nil, Int.natCast_emod, Int.natCast_ediv]
  rfl
/-- The four bytes of a sum, just laid. -/
theorem tail_bs {s : Nat} (h : s < 4294967296) (w : World) : Bs (w.alloc (.cells #[.int .u8 ((s : Int) % 256), .int .u8 ((s : Int) / 256 % 256), .int .u8 ((s : Int) / 65536 % 256), .int .u8 ((s : Int) / 16777216)] 5)) (.slice (some ⟨w.heap.size, 0, none⟩) 4 4) (tail4 s) := by
  have := bs_new w (tail4 s)
  rw [tail_vals h] at this
  exact this

set_option maxRecDepth 100000 in
set_option maxHeartbeats 1000000 in
theorem cSeal_any (v : Value) (l : List Nat) (w : World) (h : Bs w v l) (hB : Byt l) (hl : l.length ≤ 100000000) : Calls Try.prog 83 #[v] w (BytesRet (seal4 l) w) := by
  have H := Lib.hid h
  have hc := crc_lt 0 l
  have HS := Lib.hid (cSum_any v l w h hB (by omega))
  have hX := Lib.hid (show seal4 l = l ++ tail4 (crc 0 l) from rfl)
  generalize crc 0 l = c at *
  clear h hB
  go_enter Try.func83, Try.ntmps83
  go_wp2_with fail
  refine HS.out.mono ?_
  rintro e w1 ⟨rfl, hB1⟩
  have HB1 := Lib.hid hB1
  have H1 := Lib.hid (H.out.new hB1)
  clear hB1 H
  go_wp2_with fail
  refine (Clone_bs _ l _ H1.out (by omega)).mono ?_
  rintro e w2 ⟨v2, rfl, hO2, hB2⟩
  have HO2 := Lib.hid (hO2.base HB1.out.size)
  have HB2 := Lib.hid (HB1.out.trans (hB2.mono HB1.out.size))
  have hz2 := HB2.out.size
  have HT := Lib.hid (tail_bs hc w2)
  clear hO2 hB2
  go_wp2_with (at_builtin; refine wpList_append_bs rfl _ _ rfl w.heap.size _ _ l (tail4 c) rfl rfl (HO2.out.alloc _) HT.out (by rw [tail4_len]; omega) (by simp; omega) ?_)
  intro v3 w3 hO3 hg3
  have HB3 := Lib.hid (bo_below (HB2.out.alloc hz2 _) hg3 (by simp; omega) (HO2.out.alloc _) (Nat.le_refl _))
  have HO3 := Lib.hid hO3
  clear hO3 hg3
  go_wp2_with fail
  go_ret
  exact ⟨_, rfl, by rw [hX.out]; exact HO3.out, HB3.out⟩
end Go.Proofs.Ytkclmfppjhmnjaa

namespace Go.Proofs.Ytkclmfppjhmnjaa
open Go.RowKit Img

/-- A disk without pending writes, and an error. -/
def DiskErr (l : List (List Nat)) (x : Nat) (w : World) (e : Ending) (w' : World) : Prop := ∃ vs, e = .returned (.tuple #[.agg #[vs, .slice none 0 0], .int .i64 x]) ∧ Pgs w' vs 16 l ∧ Below w.heap.size w w'
theorem Pgs.nil (w : World) : Pgs w (.slice none 0 0) 16 [] := ⟨none, 0, rfl, Nat.le_refl _, Or.inl rfl⟩

theorem sizeDisk : (Try.prog.info? 25).map (·.size) = some 2 := by kernel_rfl
theorem results_disk {fn : Func} {p u : Tmp} (h : fn.results = #[.cell p 25, .tmp u]) (tmps : Array Value) (w : World) (R : Nat) (vs vp : Value) (hp : tmps.getD p undef = .pointer (some ⟨R, 0, none⟩)) (c0 : w.cell? ⟨R, 0, none⟩ = some vs) (c1 : w.cell? ⟨R, 1, none⟩ = some vp) :
    (results fn tmps).run Try.prog w = .ok (.tuple #[.agg #[vs, vp], tmps.getD u undef]) w := by
  have hr : w.rangeAt R 0 [vs, vp] := by
    intro j v hv
    match j, hv with
    | 0, hv => simp only [List.getElem?_cons_zero, Option.some.injEq] at hv; subst hv; exact c0
    | 1, hv => simp only [List.getElem?_cons_succ, List.getElem?_cons_zero, Option.some.injEq] at hv; subst hv; exact c1
    | j + 2, hv => simp at hv
  have hl := run_loadVar_mid (P := Try.prog) w R 0 25 [vs, vp] _ hr Try.underlying25 rfl sizeDisk
  rw [results_cell_tmp h, hp]
  simp only [asAddr, Sem.run_pure, Result.andThen_ok, hl]

/-- The pages when the first k have been read. -/
def pagesTo (r : List Nat) (n k : Nat) : List (List Nat) := (List.range n).map fun i => if i < k then chunk r i else zp
theorem pagesTo_length (r : List Nat) (n k : Nat) : (pagesTo r n k).length = n := by simp [pagesTo]
theorem pagesTo_16 {r : List Nat} {n k : Nat} (h : k * 16 ≤ r.length) : P16 (pagesTo r n k) := by
  intro p hp
  unfold pagesTo at hp
  obtain ⟨i, _, rfl⟩ := List.mem_map.1 hp
  split
  · unfold chunk; rw [List.length_take, List.length_drop]; omega
  · exact zp_length
theorem pagesTo_zero (r : List Nat) (n : Nat) : pagesTo r n 0 = List.replicate n zp := by
  unfold pagesTo
  apply List.ext_getElem?
  intro i
  rw [List.getElem?_map, List.getElem?_replicate]
  by_cases h : i < n
  · rw [List.getElem?_range h, if_pos h]; rfl
  · rw [List.getElem?_eq_none (by simpa using h), if_neg h]; rfl
theorem pagesTo_succ (r : List Nat) (n k : Nat) : pagesTo r n (k + 1) = (pagesTo r n k).set k (chunk r k) := by
  apply List.ext_getElem?
  intro i
  unfold pagesTo
  rw [List.getElem?_map]
  by_cases hi : i < n
  · rw [List.getElem?_range hi]
    by_cases hk : k = i
    · subst hk
      rw [List.getElem?_set_self (by simpa using hi)]
      simp
    · rw [List.getElem?_set_ne hk, List.getElem?_map, List.getElem?_range hi]
      simp only [Option.map_some]
      congr 1
      by_cases h1 : i < k
      · rw [if_pos h1, if_pos (by omega)]
      · rw [if_neg h1, if_neg (by omega)]
  · rw [List.getElem?_eq_none (by simpa using hi), List.getElem?_eq_none (by simpa using hi)]; rfl
/-- The page that was read last. -/
def lastP (r : List Nat) (k : Nat) : List Nat := if k = 0 then 1 :: List.replicate 15 0 else chunk r (k - 1)
theorem chunk_16 {r : List Nat} {k : Nat} (h : (k + 1) * 16 ≤ r.length) : (chunk r k).length = 16 := by unfold chunk; rw [List.length_take, List.length_drop]; omega
theorem lastP_16 {r : List Nat} {k : Nat} (h : k * 16 ≤ r.length) : (lastP r k).length = 16 := by
  unfold lastP
  split
  · simp
  · exact chunk_16 (by omega)
theorem lastP_z {r : List Nat} : lastP r (r.length / 16) = zp ↔ lastZ r := by
  unfold lastP lastZ
  split
  · rename_i h
    constructor
    · intro hx; exact absurd hx (by decide)
    · rintro ⟨h0, _⟩; exact absurd h h0
  · rename_i h
    exact ⟨fun hx => ⟨h, hx⟩, fun hx => hx.2⟩
/-- The cells of n pages of zeros. -/
def z16 (n : Nat) : Array Value := (List.replicate (n * 16) (bv 0)).toArray
theorem z16_pgc (n : Nat) : (z16 n).toList = pgc (List.replicate n zp) := by
  have h : ∀ n, (List.replicate n zp).flatten = List.replicate (n * 16) 0 := by
    intro n
    induction n with
    | zero => rfl
    | succ n ih => rw [List.replicate_succ, List.flatten_cons, ih, Nat.succ_mul, Nat.add_comm, ← List.replicate_append_replicate]; rfl
  unfold pgc z16
  rw [h, List.map_replicate]
theorem mkPages (n : Nat) (hn : n ≤ 1000000000) (w : World) : (Instr.makeSlice 22 (.int .i64 n) (.int .i64 n)).run Try.prog w = .ok (.slice (some ⟨w.heap.size, 0, none⟩) n n) (w.alloc (.cells (z16 n) 82)) := by
  obtain ⟨i0, hi, hz0, hz1, hz2⟩ := info_parts infoPage
  have h := run_make (P := Try.prog) w 22 82 i0 (.agg (Array.replicate 16 (.int .u8 0))) Try.underlying22 hi hz0 .i64 .i64 (n : Int) (n : Int) (by omega) (by omega) (by rw [hz2]; omega) (by omega)
  rw [h, hz1]
  have e : madeCells (Value.cells (.agg (Array.replicate 16 (.int .u8 0)))) ((n : Int).toNat * 16) = z16 n := by
    apply Array.ext
    · simp [size_madeCells, z16]
    · intro i h1 h2
      have h3 : i % 16 < (Array.replicate 16 (Value.int IntKind.u8 0)).size := by rw [Array.size_replicate]; exact Nat.mod_lt _ (by decide)
      have h4 : (Array.replicate 16 (Value.int IntKind.u8 0))[i % 16]! = Value.int IntKind.u8 0 := by rw [getElem!_pos (Array.replicate 16 (Value.int IntKind.u8 0)) (i % 16) h3, Array.getElem_replicate]
      simp [madeCells, z16, Value.cells, bv, h4]
  rw [e, Int.toNat_natCast]
theorem kept_setCells {S : Nat → Prop} {a w : World} (h : Kept S a w) {b : Nat} (hp : b < a.heap.size → S b) (o : Nat) (vs : List Value) : Kept S a (w.setCells b o vs) := by
  induction vs generalizing w o with
  | nil => exact h
  | cons v r ih => rw [World.setCells]; exact ih (h.setCell (p := ⟨b, o, none⟩) hp v) (o + 1)
theorem step_copy_cells {P : Program} {ops : Array Oper} {op : Oper} {a : Act} {w : World} {K : Act → World → Prop} {Q : Exit → Act → World → Prop} {E : Prop} (hgd : op.guard = none) (d s : Operand) (dT sT : TypeId)
    (ho : op.op = .call { callee := .builtin .copy, args := #[d, s], argTypes := #[dT, sT] }) (elem : TypeId) (hu : P.underlying dT = some (.slice elem)) (hsz : (P.info? elem).map (·.size) = some 1)
    (b o dLen dCap : Nat) (ad : Addr) (sLen sCap : Nat) (hd : a.eval d = .slice (some ⟨b, o, none⟩) dLen dCap) (hs : a.eval s = .slice (some ad) sLen sCap)
    (cs : List Value) (hn : cs.length = Nat.min sLen dLen) (hsrc : ∀ j v, cs[j]? = some v → w.cell? (ad.add j) = some v) (ht : w.there b o cs.length) (h1 : ∀ v ∈ cs, v.oneCell' = true)
    (h : K (a.put op.dst (goInt cs.length)) (w.setCells b o cs)) :
    if Region.wanted op (yielded ops a.tmps) = true then Oper.wp P op a w K Q else E := by
  have hw : Region.wanted op (yielded ops a.tmps) = true := by simp [Region.wanted, hgd]
  rw [if_pos hw]
  have hrun := run_copy_cells (P := P) w dT sT op.type elem b o dLen dCap ad sLen sCap cs hu hsz hn hsrc (fun j hj => (ht j hj).1) (fun j hj => (ht j hj).2) h1
  unfold Oper.wp
  simp [execOp, ho, resolve, invoke, builtin, hd, hs, hrun, Result.andThen]
  exact h
end Go.Proofs.Ytkclmfppjhmnjaa
