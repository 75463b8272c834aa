/- The contract of the reference's Rank; the walk of the law GaloisInverts. -/
import Derived.Test.YtlbomlolomcolaaRef7
import Derived.Test.YtlbomlolomcolaaLawB
namespace Go.Proofs.Ytlbomlolomcolaa
open Go.RowKit

/-- n nil slices. -/
def nz (n : Nat) : Array Value := (List.replicate n (.slice none 0 0)).toArray
theorem mkRows (n : Nat) (hn : n ≤ 1000000000) (w : World) : (Instr.makeSlice 39 (.int .i64 n) (.int .i64 n)).run Try.prog w = .ok (.slice (some ⟨w.heap.size, 0, none⟩) n n) (w.alloc (.cells (nz n) 26)) := by
  obtain ⟨i0, hi, hz0, hz1, hz2⟩ := info_parts infoBytes
  have h := run_make (P := Try.prog) w 39 26 i0 (.slice none 0 0) Try.underlying39 hi hz0 .i64 .i64 (n : Int) (n : Int) (by omega) (by omega) (by rw [hz2]; omega) (by omega)
  rw [h, hz1]
  have e : madeCells (Value.cells (.slice none 0 0)) ((n : Int).toNat * 1) = nz n := by
    apply Array.ext
    · simp [size_madeCells, nz]
    · intro i h1 h2
      simp [madeCells, nz, Value.cells, Nat.mod_one]
  rw [e, Int.toNat_natCast]

theorem OV.nils {w : World} {B bo N : Nat} (h : Blk w bo 26 (List.replicate N (.slice none 0 0))) (hB : B ≤ bo) : OV w B bo (List.replicate N (.slice none 0 0)) (List.replicate N []) := by
  refine ⟨by simp, h, hB, ?_, ?_⟩
  · intro i v s hv hs
    have h1 := List.eq_of_mem_replicate (List.mem_of_getElem? hv)
    have h2 := List.eq_of_mem_replicate (List.mem_of_getElem? hs)
    exact Or.inl ⟨h1, h2⟩
  · intro i j v u g hv hu gv
    have h1 := List.eq_of_mem_replicate (List.mem_of_getElem? hv)
    rw [h1] at gv
    simp [Value.ownBlock] at gv

theorem zip2_nil (m : List (List Nat)) : zip2 m (List.replicate m.length []) = m := by
  apply List.ext_getElem?
  intro i
  by_cases hi : i < m.length
  · have h1 := getD_some (d := []) hi
    rw [zip2_get h1 (s := []) (by simp [hi]), h1, List.append_nil]
  · rw [List.getElem?_eq_none (by rw [zip2_length (by simp)]; omega), List.getElem?_eq_none (by omega)]

theorem nil_rect (N : Nat) : Rect 0 (List.replicate N []) := by
  intro r hr
  have := List.eq_of_mem_replicate hr
  subst this
  exact ⟨rfl, fun x hx => by simp at hx⟩

theorem RS_rank {w : World} {B bm bo n : Nat} {hd : List (Nat × Nat)} {m : List (List Nat)} (hO : OM w B bm hd m) (hb : Blk w bo 26 (nz m.length).toList) (hB : B ≤ bo) (hne : bm ≠ bo) (hR : Rect n m) (hsz : B ≤ w.heap.size) :
    RS w w B bm bo n 0 m.length hd (List.replicate m.length (.slice none 0 0)) m (List.replicate m.length []) := by
  refine ⟨⟨hO, OV.nils hb hB, hne, ?_, Below.refl _ _, hsz⟩, hR, nil_rect _, rfl, by simp⟩
  intro i j p v hp hv e
  have h1 := List.eq_of_mem_replicate (List.mem_of_getElem? hv)
  rw [h1] at e
  simp [Value.ownBlock] at e

theorem rect_bytM {n : Nat} {m : List (List Nat)} (h : Rect n m) : BytM m := fun r hr => (h r hr).2
theorem invRows_byt {m : List (List Nat)} (hB : BytM m) : BytM (invRows m) := by
  unfold invRows
  split
  · rename_i h
    have hI : isMat m := by
      apply Classical.byContradiction
      intro hI
      unfold invErr at h
      rw [if_neg hI] at h
      exact absurd h (by decide)
    intro r hr
    obtain ⟨s, hs, rfl⟩ := List.mem_map.1 hr
    have := redTo_rect (wideM_rect (hI.rect hB)) m.length s hs
    exact fun x hx => this.2 x (List.mem_of_mem_drop hx)
  · intro r hr; simp at hr
theorem invRows_length (m : List (List Nat)) : (invRows m).length ≤ m.length := by
  unfold invRows
  split
  · rw [List.length_map, redTo_length, wideM_length]; omega
  · exact Nat.zero_le _

end Go.Proofs.Ytlbomlolomcolaa
