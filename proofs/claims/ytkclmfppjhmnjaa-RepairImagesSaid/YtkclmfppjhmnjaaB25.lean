/- The contract of the reference's Product; the walk of the law GaloisProducts. -/
/- The contracts of Product and of the reference's for all arguments; the walk of the law GaloisProducts. -/
import Derived.Test.YtkclmfppjhmnjaaB21
namespace Go.Proofs.Ytkclmfppjhmnjaa
open Go.RowKit

/-- The sum of products that the reference forms for one element. -/
def acc (r : List Nat) (b : List (List Nat)) (k : Nat) : Nat → Nat
  | 0 => 0
  | i + 1 => acc r b k i ^^^ Gf.gm (r.getD i 0) ((b.getD i []).getD k 0)

theorem acc_lt (r : List Nat) (b : List (List Nat)) (k i : Nat) : acc r b k i < 256 := by
  induction i with
  | zero => exact show 0 < 256 by decide
  | succ i ih => exact Gf.xor_lt ih (Gf.gm_lt _ _)

theorem prTo_acc {r : List Nat} {b : List (List Nat)} {cols : Nat} (hb : Rect cols b) {k : Nat} (hk : k < cols) (i : Nat) (hi : i ≤ b.length) : (prTo r b cols i)[k]? = some (acc r b k i) := by
  induction i with
  | zero => simp [prTo, acc, hk]
  | succ i ih =>
    have h1 := ih (by omega)
    have h2 := hb.get (i := i) (by omega)
    have h3 : (b.getD i [])[k]? = some ((b.getD i []).getD k 0) := getD_some (by omega)
    show (addMul _ _ _)[k]? = _
    unfold addMul
    rw [List.getElem?_zipWith, h1, h3]
    rfl

theorem prTo_take {r : List Nat} {b : List (List Nat)} {cols : Nat} (hb : Rect cols b) {k : Nat} (hk : k < cols) : (prTo r b cols b.length).take (k + 1) = (prTo r b cols b.length).take k ++ [acc r b k b.length] := by
  rw [List.take_add_one, prTo_acc hb hk b.length (Nat.le_refl _)]; rfl

theorem rMul_q (x y : Nat) (w : World) (n : Nat) (hx : x < 256) (hy : y < 256) : Calls Try.prog 109 #[.int .u8 x, .int .u8 y] (w.drewN n) fun e w'' => e = .returned (.int .u8 (Gf.gm x y)) ∧ ∃ m, w'' = w.drewN m :=
  (rMul_any x y _ hx hy).mono fun _ _ ⟨he, hm⟩ => ⟨he, n, hm.symm⟩

end Go.Proofs.Ytkclmfppjhmnjaa

namespace Go.Proofs.Ytkclmfppjhmnjaa
open Go.RowKit

theorem prodRows_byt {a b : List (List Nat)} (hB : BytM b) : BytM (prodRows a b) := by
  unfold prodRows
  split
  · rename_i h
    have hI : isMat b := by
      apply Classical.byContradiction
      intro hI
      unfold prodErr at h
      rw [if_neg fun h => hI h.2] at h
      exact absurd h (by decide)
    exact prodM_byt (hI.rect hB)
  · intro r hr; simp at hr
theorem prodRows_length (a b : List (List Nat)) : (prodRows a b).length ≤ a.length := by
  unfold prodRows
  split
  · rw [prodM_length]; omega
  · exact Nat.zero_le _

end Go.Proofs.Ytkclmfppjhmnjaa
