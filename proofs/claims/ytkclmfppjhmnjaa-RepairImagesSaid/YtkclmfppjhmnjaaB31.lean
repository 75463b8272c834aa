/- The contract of parity.Update. -/
import Derived.Test.YtkclmfppjhmnjaaB29
namespace Go.Proofs.Ytkclmfppjhmnjaa
open Go.RowKit

def lostB (parts : List (List Nat)) : Bool := (List.range parts.length).any fun i => decide (plen parts i = 0)
def updErr (parts : List (List Nat)) (data at' : Int) (part : List Nat) : Nat :=
  if parErr parts data = 0 then if lostB parts then 26 else if at' < 0 ∨ data ≤ at' then 2 else if part.length ≠ plen parts 0 then 23 else 0 else parErr parts data
def updRow (parts : List (List Nat)) (d t : Nat) (part : List Nat) (i : Nat) : List Nat := addMul (((rowsM d (parts.length - d)).getD i []).getD t 0) (parts.getD i []) (addMul 1 part (parts.getD t []))
def updM (parts : List (List Nat)) (d t : Nat) (part : List Nat) : List (List Nat) := (List.range parts.length).map (updRow parts d t part)
def updRows (parts : List (List Nat)) (data at' : Int) (part : List Nat) : List (List Nat) := if updErr parts data at' part = 0 then updM parts data.toNat at'.toNat part else []

theorem updM_length (parts : List (List Nat)) (d t : Nat) (part : List Nat) : (updM parts d t part).length = parts.length := by simp [updM]
theorem updM_take {parts : List (List Nat)} {d t k : Nat} {part : List Nat} (hk : k < parts.length) : (updM parts d t part).take (k + 1) = (updM parts d t part).take k ++ [updRow parts d t part k] := by
  rw [List.take_add_one]; simp [updM, hk]

theorem lostB_rect {parts : List (List Nat)} (hB : BytM parts) (hl : lostB parts = false) (hm : misB parts = false) (h1 : 1 ≤ parts.length) : Rect (plen parts 0) parts ∧ 1 ≤ plen parts 0 := by
  unfold lostB at hl
  rw [List.any_eq_false] at hl
  have h' : ∀ i, i < parts.length → 1 ≤ plen parts i := fun i hi => by
    have := hl i (List.mem_range.2 hi)
    simp only [decide_eq_true_eq] at this
    omega
  refine ⟨fun r hr => ?_, h' 0 (by omega)⟩
  obtain ⟨i, hi⟩ := List.mem_iff_getElem?.1 hr
  have hi1 := (List.getElem?_eq_some_iff.1 hi).1
  have := mis_eq hm ⟨i, hi1, h' i hi1⟩ ⟨0, by omega, h' 0 (by omega)⟩
  unfold plen at this ⊢
  simp only at this
  rw [List.getD_eq_getElem?_getD, hi] at this
  exact ⟨this, hB r hr⟩

theorem x1_step {w1 wr : World} {g T k x y : Nat} {ts fr : List Nat} (hk : k < fr.length) (hl : ts.length = fr.length) (hx : ts.getD k 0 = x) (hy : fr.getD k 0 = y) (b1 : x < 256) (b2 : y < 256)
    (hK : Kept (· = g) w1 wr) (hB : Blk wr g T ((amTo 1 ts fr k).map bv)) :
    Kept (· = g) w1 (wr.setCell ⟨g, k, none⟩ (.int .u8 (bits .xor .u8 x y))) ∧ Blk (wr.setCell ⟨g, k, none⟩ (.int .u8 (bits .xor .u8 x y))) g T ((amTo 1 ts fr (k + 1)).map bv) := by
  refine ⟨hK.setCell (fun _ => rfl) _, ?_⟩
  have h1 := hB.setCell (i := k) (by simpa using (List.getElem?_eq_some_iff.1 (amTo_get (f := 1) hk hl)).1) (.int .u8 (bits .xor .u8 x y))
  rw [xor_u8 _ _ b1 b2] at h1 ⊢
  rw [← amTo_set hk hl, hx, hy, Gf.one_gm b2, List.map_set]
  exact h1

end Go.Proofs.Ytkclmfppjhmnjaa
