/- The contracts of Product and of the reference's for all arguments; the walk of the law GaloisProducts. -/
import Derived.Test.YtlbomlolomcolaaProd2
namespace Go.Proofs.Ytlbomlolomcolaa
open Go.RowKit

theorem prodRows_byt {a b : List (List Nat)} (hB : BytM b) : BytM (prodRows a b) := by
  unfold prodRows
  split
  · rename_i h
    have hI : isMat b := by
      apply Classical.byContradiction
      intro hI
      unfold prodErr at h
      rw [if_neg fun h => hI h.2] at h
      exact absurd h (by decide)
    exact prodM_byt (hI.rect hB)
  · intro r hr; simp at hr
theorem prodRows_length (a b : List (List Nat)) : (prodRows a b).length ≤ a.length := by
  unfold prodRows
  split
  · rw [prodM_length]; omega
  · exact Nat.zero_le _

end Go.Proofs.Ytlbomlolomcolaa
