/- Contracts of slices.Sort, Index, Contains, Equal at ints: the shelf's, laid at this seat by lay-shelf.mjs and lay-plain.mjs of the kit (numbers of the seat g55). -/
/- Contracts of slices.Reverse at rows: the shelf's, laid at this seat by lay-plain.mjs of the kit (numbers of the seat g55). -/
/- Contracts of slices.Contains, Index, Equal, Sort at ints of the call's own; slices.Reverse at rows. -/
/- Slices of headers of the call's own over rows of bytes that lie in blocks of bytes; slices.Reverse at them. -/
/- The contract of the law's lose. -/
/- Plain: what is left answers. -/
import Derived.Shelf.Sort.Plain
import Derived.Shelf.Slices.Turned
import Derived.Shelf.Slices.Equal
import Derived.Shelf.Slices.In.SortNone
import Derived.Shelf.Slices.Empties2
import Derived.Test.YtkclmfppjhmnjaaChecked
import Derived.Shelf.SlicesE.Reverse
import Derived.Test.YtkclmfppjhmnjaaB44
import Derived.Test.YtkclmfppjhmnjaaB34
import Derived.Sort.OwnSortedInts
import Derived.Test.YtkclmfppjhmnjaaB32
import Derived.StillTailTactics
namespace Go.Proofs.Ytkclmfppjhmnjaa
open Go.Shelf
def Try.lays189_ren : Go.Shelf.Ren := ⟨fun | 189 => 68 | 125 => 98 | 257 => 97 | 128 => 125 | 129 => 126 | 294 => 116 | 295 => 117 | 296 => 118 | 297 => 119 | 298 => 120 | 299 => 121 | 216 => 122 | 300 => 123 | 301 => 124 | 328 => 133 | 329 => 134 | 330 => 135 | 331 => 136 | 332 => 137 | 215 => 138 | 343 => 141 | n => n, fun | 28 => 70 | 3 => 3 | 46 => 125 | 0 => 0 | 51 => 52 | 53 => 172 | 4 => 4 | 183 => 163 | 182 => 162 | 131 => 168 | 5 => 5 | 9 => 9 | 218 => 179 | 222 => 99 | 228 => 186 | 229 => 187 | n => n, fun | n => n⟩
theorem Try.lays189 : Go.Proofs.Lays.n189 Try.prog Try.lays189_ren := {
  mixed := by kernel_rfl
  f125 := Try.func98.trans (congrArg some (by kernel_rfl))
  f128 := Try.func125.trans (congrArg some (by kernel_rfl))
  f129 := Try.func126.trans (congrArg some (by kernel_rfl))
  f189 := Try.func68.trans (congrArg some (by kernel_rfl))
  f215 := Try.func138.trans (congrArg some (by kernel_rfl))
  f216 := Try.func122.trans (congrArg some (by kernel_rfl))
  f257 := Try.func97.trans (congrArg some (by kernel_rfl))
  f294 := Try.func116.trans (congrArg some (by kernel_rfl))
  f295 := Try.func117.trans (congrArg some (by kernel_rfl))
  f296 := Try.func118.trans (congrArg some (by kernel_rfl))
  f297 := Try.func119.trans (congrArg some (by kernel_rfl))
  f298 := Try.func120.trans (congrArg some (by kernel_rfl))
  f299 := Try.func121.trans (congrArg some (by kernel_rfl))
  f300 := Try.func123.trans (congrArg some (by kernel_rfl))
  f301 := Try.func124.trans (congrArg some (by kernel_rfl))
  f328 := Try.func133.trans (congrArg some (by kernel_rfl))
  f329 := Try.func134.trans (congrArg some (by kernel_rfl))
  f330 := Try.func135.trans (congrArg some (by kernel_rfl))
  f331 := Try.func136.trans (congrArg some (by kernel_rfl))
  f332 := Try.func137.trans (congrArg some (by kernel_rfl))
  f343 := Try.func141.trans (congrArg some (by kernel_rfl))
  t0 := Try.underlying0
  a0 := Try.isAgg0
  z0 := Try.sizeOf0
  v0 := Try.zeroValue0
  t3 := Try.underlying3
  a3 := Try.isAgg3
  z3 := Try.sizeOf3
  v3 := Try.zeroValue3
  t4 := Try.underlying4
  a4 := Try.isAgg4
  z4 := Try.sizeOf4
  v4 := Try.zeroValue4
  t5 := Try.underlying5
  a5 := Try.isAgg5
  z5 := Try.sizeOf5
  v5 := Try.zeroValue5
  t9 := Try.underlying9
  a9 := Try.isAgg9
  z9 := Try.sizeOf9
  v9 := Try.zeroValue9
  t28 := Try.underlying70
  a28 := Try.isAgg70
  z28 := Try.sizeOf70
  v28 := Try.zeroValue70
  t46 := Try.underlying125
  a46 := Try.isAgg125
  z46 := Try.sizeOf125
  v46 := Try.zeroValue125
  t51 := Try.underlying52
  a51 := Try.isAgg52
  z51 := Try.sizeOf52
  v51 := Try.zeroValue52
  t53 := Try.underlying172
  a53 := Try.isAgg172
  z53 := Try.sizeOf172
  v53 := Try.zeroValue172
  t131 := Try.underlying168
  a131 := Try.isAgg168
  z131 := Try.sizeOf168
  v131 := Try.zeroValue168
  t182 := Try.underlying162
  a182 := Try.isAgg162
  z182 := Try.sizeOf162
  v182 := Try.zeroValue162
  t183 := Try.underlying163
  a183 := Try.isAgg163
  z183 := Try.sizeOf163
  v183 := Try.zeroValue163
  t218 := Try.underlying179
  a218 := Try.isAgg179
  z218 := Try.sizeOf179
  v218 := Try.zeroValue179
  t222 := Try.underlying99
  a222 := Try.isAgg99
  z222 := Try.sizeOf99
  v222 := Try.zeroValue99
  t228 := Try.underlying186
  a228 := Try.isAgg186
  z228 := Try.sizeOf186
  v228 := Try.zeroValue186
  t229 := Try.underlying187
  a229 := Try.isAgg187
  z229 := Try.sizeOf187
  v229 := Try.zeroValue187 }
open Go.Sort Go.RowKit in
theorem Try.slices_Sort_int (blk off cap : Nat) (zs : List Int) (w : World) (hH : Holds (Value.int .i64) w blk off zs.toArray) (hblk : blk < w.heap.size) (hsz : zs.length < 4611686018427387904) :
    Calls Try.prog 68 #[.slice (some ⟨blk, off, none⟩) zs.length cap] w fun e w' =>
      e = .returned (.tuple #[]) ∧ ∃ n os, w' = grow (putRow (Value.int .i64) (Sort.ahead w n) blk off (zs.mergeSort fun x y => decide (x ≤ y)).toArray) os := Any.slices_Sort_int Try.lays189 blk off cap zs w hH hblk hsz
def Try.lays108_ren : Go.Shelf.Ren := ⟨fun | 108 => 66 | n => n, fun | 28 => 70 | 3 => 3 | 0 => 0 | 4 => 4 | n => n, fun | n => n⟩
theorem Try.lays108 : Go.Proofs.Lays.n108 Try.prog Try.lays108_ren := {
  mixed := by kernel_rfl
  f108 := Try.func66.trans (congrArg some (by kernel_rfl))
  t0 := Try.underlying0
  a0 := Try.isAgg0
  z0 := Try.sizeOf0
  v0 := Try.zeroValue0
  t3 := Try.underlying3
  a3 := Try.isAgg3
  z3 := Try.sizeOf3
  v3 := Try.zeroValue3
  t4 := Try.underlying4
  a4 := Try.isAgg4
  z4 := Try.sizeOf4
  v4 := Try.zeroValue4
  t28 := Try.underlying70
  a28 := Try.isAgg70
  z28 := Try.sizeOf70
  v28 := Try.zeroValue70 }
open Go.Lib in
/-- slices.Index at []int: "Index returns the index of the first occurrence of v in s, or -1 if not present.": IT RETURNS 'Lib.idxOf (the elements) v'; the world is as it was. 'zs': what the cells behind the slice's address hold (its spare capacity too, if you have it); 'zs.take n': its elements. (LAID: no walk: one application.) -/
theorem Try.slices_Index_int (b off n c : Nat) (zs : List Int) (x : Int) (w : World) (hz : n ≤ zs.length) (hbig : n ≤ 9223372036854775807) (hc : ∀ j, j < zs.length → w.cell? ⟨b, off + j, none⟩ = some (.int .i64 (zs.getD j 0))) :
    Calls Try.prog 66 #[.slice (some ⟨b, off, none⟩) n c, .int .i64 x] w fun e w' => e = .returned (.int .i64 (Lib.idxOf (zs.take n) x)) ∧ w' = w := Any.slices_Index_int Try.lays108 b off n c zs x w hz hbig hc
open Go.Lib in
/-- The same at a slice of length 0, a nil one too: no cell is known, none is asked for. (LAID: no walk: one application.) -/
theorem Try.slices_Index_int_empty (a : Option Addr) (c : Nat) (x : Int) (w : World) :
    Calls Try.prog 66 #[.slice a 0 c, .int .i64 x] w fun e w' => e = .returned (.int .i64 (Lib.idxOf [] x)) ∧ w' = w := Any.slices_Index_int_empty Try.lays108 a c x w
def Try.lays107_ren : Go.Shelf.Ren := ⟨fun | 107 => 65 | 108 => 66 | n => n, fun | 28 => 70 | 3 => 3 | 4 => 4 | 0 => 0 | n => n, fun | n => n⟩
theorem Try.lays107 : Go.Proofs.Lays.n107 Try.prog Try.lays107_ren := {
  mixed := by kernel_rfl
  f107 := Try.func65.trans (congrArg some (by kernel_rfl))
  f108 := Try.func66.trans (congrArg some (by kernel_rfl))
  t0 := Try.underlying0
  a0 := Try.isAgg0
  z0 := Try.sizeOf0
  v0 := Try.zeroValue0
  t3 := Try.underlying3
  a3 := Try.isAgg3
  z3 := Try.sizeOf3
  v3 := Try.zeroValue3
  t4 := Try.underlying4
  a4 := Try.isAgg4
  z4 := Try.sizeOf4
  v4 := Try.zeroValue4
  t28 := Try.underlying70
  a28 := Try.isAgg70
  z28 := Try.sizeOf70
  v28 := Try.zeroValue70 }
open Go.Lib in
/-- slices.Contains at []int: "Contains reports whether v is present in s.": IT RETURNS 'elements.contains v'; the world is as it was. ITS CALLEE slices.Index IS MET BY ITS OWN CONTRACT OFF THE SHELF (lay that first): no loop is walked here. (LAID: no walk: one application.) -/
theorem Try.slices_Contains_int (b off n c : Nat) (zs : List Int) (x : Int) (w : World) (hz : n ≤ zs.length) (hbig : n ≤ 9223372036854775807) (hc : ∀ j, j < zs.length → w.cell? ⟨b, off + j, none⟩ = some (.int .i64 (zs.getD j 0))) :
    Calls Try.prog 65 #[.slice (some ⟨b, off, none⟩) n c, .int .i64 x] w fun e w' => e = .returned (.bool ((zs.take n).contains x)) ∧ w' = w := Any.slices_Contains_int Try.lays107 b off n c zs x w hz hbig hc
open Go.Lib in
/-- The same at a slice of length 0, a nil one too. (LAID: no walk: one application.) -/
theorem Try.slices_Contains_int_empty (a : Option Addr) (c : Nat) (x : Int) (w : World) :
    Calls Try.prog 65 #[.slice a 0 c, .int .i64 x] w fun e w' => e = .returned (.bool false) ∧ w' = w := Any.slices_Contains_int_empty Try.lays107 a c x w
def Try.lays111_ren : Go.Shelf.Ren := ⟨fun | 111 => 36 | n => n, fun | 28 => 70 | 3 => 3 | 4 => 4 | 0 => 0 | n => n, fun | n => n⟩
theorem Try.lays111 : Go.Proofs.Lays.n111 Try.prog Try.lays111_ren := {
  mixed := by kernel_rfl
  f111 := Try.func36.trans (congrArg some (by kernel_rfl))
  t0 := Try.underlying0
  a0 := Try.isAgg0
  z0 := Try.sizeOf0
  v0 := Try.zeroValue0
  t3 := Try.underlying3
  a3 := Try.isAgg3
  z3 := Try.sizeOf3
  v3 := Try.zeroValue3
  t4 := Try.underlying4
  a4 := Try.isAgg4
  z4 := Try.sizeOf4
  v4 := Try.zeroValue4
  t28 := Try.underlying70
  a28 := Try.isAgg70
  z28 := Try.sizeOf70
  v28 := Try.zeroValue70 }
open Go.RowKit Go.Lib in
/-- slices.Equal at []int: "Equal reports whether two slices are equal: the same length and all elements equal. If the lengths are different, Equal returns false. Otherwise, the elements are compared in increasing index order, and the comparison stops at the first unequal pair. Empty and nil slices are considered equal.": IT RETURNS WHETHER THE TWO LISTS OF ELEMENTS ARE ONE; the world is as it was but for the count of draws (the test 's1[i] != s2[i]' has two reads, whose order the model draws, once a round). 'xs', 'ys': what the cells behind the two addresses hold (the spare capacity too, if you have it); 'xs.take n', 'ys.take m': the elements. THE TWO SLICES MAY OVERLAP. (LAID: no walk: one application.) -/
theorem Try.slices_Equal_int (b1 o1 n c b2 o2 m d : Nat) (xs ys : List Int) (w : World) (hx : n ≤ xs.length) (hy : m ≤ ys.length) (hbig : n ≤ 9223372036854775807) (hbig2 : m ≤ 9223372036854775807) (hc1 : ∀ j, j < xs.length → w.cell? ⟨b1, o1 + j, none⟩ = some (.int .i64 (xs.getD j 0))) (hc2 : ∀ j, j < ys.length → w.cell? ⟨b2, o2 + j, none⟩ = some (.int .i64 (ys.getD j 0))) :
    Calls Try.prog 36 #[.slice (some ⟨b1, o1, none⟩) n c, .slice (some ⟨b2, o2, none⟩) m d] w fun e w' => e = .returned (.bool (xs.take n == ys.take m)) ∧ ∃ q, w' = w.drewN q := Any.slices_Equal_int Try.lays111 b1 o1 n c b2 o2 m d xs ys w hx hy hbig hbig2 hc1 hc2
open Go.RowKit Go.Lib in
/-- The same where the first is of length 0 (a nil one too): no cell is asked for. (LAID: no walk: one application.) -/
theorem Try.slices_Equal_int_empty (a1 a2 : Option Addr) (c m d : Nat) (w : World) (hbig2 : m ≤ 9223372036854775807) :
    Calls Try.prog 36 #[.slice a1 0 c, .slice a2 m d] w fun e w' => e = .returned (.bool (decide (m = 0))) ∧ w' = w := Any.slices_Equal_int_empty Try.lays111 a1 a2 c m d w hbig2
open Go.RowKit Go.Sort in
/-- .. and plain. (LAID: no walk: one application.) -/
theorem Try.slices_Sort_int_none (p : Option Addr) (cap : Nat) (w : World) :
    Calls Try.prog 68 #[.slice p 0 cap] w fun e w' => e = .returned (.tuple #[]) ∧ w' = w := Any.slices_Sort_int_none Try.lays189 p cap w
open Go.RowKit Go.Lib in
theorem Try.slices_Equal_int_lens (a1 a2 : Option Addr) (n c m d : Nat) (w : World) (hnm : n ≠ m) :
    Calls Try.prog 36 #[.slice a1 n c, .slice a2 m d] w fun e w' => e = .returned (.bool false) ∧ w' = w := Any.slices_Equal_int_lens Try.lays111 a1 a2 n c m d w hnm
end Go.Proofs.Ytkclmfppjhmnjaa

namespace Go.Proofs.Ytkclmfppjhmnjaa
open Go.Shelf
def Try.laysSlE35_ren : Go.Shelf.Ren := ⟨fun | 35 => 67 | n => n, fun | 22 => 44 | 23 => 26 | 3 => 3 | 4 => 4 | 0 => 0 | n => n, fun | n => n⟩
theorem Try.laysSlE35 : Go.Proofs.SlLaysE.n35 Try.prog Try.laysSlE35_ren := {
  mixed := by kernel_rfl
  f35 := ⟨Try.f67.name, by decide, Try.func67.trans (congrArg some (by kernel_rfl))⟩
  t0 := Try.underlying0
  a0 := Try.isAgg0
  z0 := Try.sizeOf0
  v0 := Try.zeroValue0
  t3 := Try.underlying3
  a3 := Try.isAgg3
  z3 := Try.sizeOf3
  v3 := Try.zeroValue3
  t4 := Try.underlying4
  a4 := Try.isAgg4
  z4 := Try.sizeOf4
  v4 := Try.zeroValue4
  t22 := Try.underlying44
  a22 := Try.isAgg44
  z22 := Try.sizeOf44
  v22 := Try.zeroValue44
  a23 := Try.isAgg26
  z23 := Try.sizeOf26 }
open Go.RowKit Go.Lib Go.Sort in
theorem Try.slices_Reverse {α : Type} [Inhabited α] (enc : α → Value) (h1 : OneCell enc) (blk off cap : Nat) (zs : List α) (w : World) (hH : Holds enc w blk off zs.toArray) (hsz : zs.length ≤ 9223372036854775807) :
    Calls Try.prog 67 #[.slice (some ⟨blk, off, none⟩) zs.length cap] w fun e w' => e = .returned (.tuple #[]) ∧ ∃ n, w' = putRow enc (Sort.ahead w n) blk off zs.reverse.toArray := AnyE.slices_Reverse Try.laysSlE35 enc h1 blk off cap zs w hH hsz
open Go.RowKit Go.Lib Go.Sort in
theorem Try.slices_Reverse_empty (a : Option Addr) (cap : Nat) (w : World) :
    Calls Try.prog 67 #[.slice a 0 cap] w fun e w' => e = .returned (.tuple #[]) ∧ w' = w := AnyE.slices_Reverse_empty Try.laysSlE35 a cap w
end Go.Proofs.Ytkclmfppjhmnjaa

namespace Go.Proofs.Ytkclmfppjhmnjaa
open Go.RowKit Go.Sort

theorem ci_mem {l : List Nat} {x : Nat} : (x : Int) ∈ ci l ↔ x ∈ l := by
  unfold ci
  simp only [List.mem_map]
  constructor
  · rintro ⟨a, ha, e⟩; obtain rfl : a = x := by omega
    exact ha
  · intro h; exact ⟨x, h, rfl⟩
theorem ci_take (l : List Nat) : (ci l).take l.length = ci l := List.take_of_length_le (by rw [ci_length]; exact Nat.le_refl _)
theorem idxFrom_cases (x : Int) : ∀ (zs : List Int) (i : Nat), (x ∉ zs → Lib.idxFrom zs x i = -1) ∧ (x ∈ zs → (i : Int) ≤ Lib.idxFrom zs x i ∧ Lib.idxFrom zs x i ≤ i + zs.length)
  | [], _ => ⟨fun _ => rfl, fun h => by simp at h⟩
  | z :: zs, i => by
    unfold Lib.idxFrom
    by_cases h : z = x
    · rw [if_pos h]
      exact ⟨fun hn => absurd (by rw [h]; simp) hn, fun _ => ⟨Int.le_refl _, by simp only [List.length_cons]; omega⟩⟩
    · rw [if_neg h]
      obtain ⟨h1, h2⟩ := idxFrom_cases x zs (i + 1)
      refine ⟨fun hn => h1 fun hm => hn (by simp [hm]), fun hm => ?_⟩
      rcases List.mem_cons.1 hm with e | hm
      · exact absurd e.symm h
      · have := h2 hm
        simp only [List.length_cons]
        omega
/-- The place of a number in a list. -/
def idxN (l : List Nat) (x : Nat) : Int := Lib.idxOf (ci l) x
theorem idxN_cases (l : List Nat) (x : Nat) : (l.head? = some x ∧ idxN l x = 0) ∨ (x ∉ l ∧ idxN l x = -1) ∨ (x ∈ l ∧ l.head? ≠ some x ∧ 1 ≤ idxN l x ∧ idxN l x ≤ l.length) := by
  unfold idxN Lib.idxOf
  cases l with
  | nil => exact Or.inr (Or.inl ⟨by simp, rfl⟩)
  | cons a t =>
    have e : ci (a :: t) = (a : Int) :: ci t := rfl
    rw [e]
    show _ ∨ (_ ∧ (if (a : Int) = (x : Int) then ((0 : Nat) : Int) else Lib.idxFrom (ci t) x (0 + 1)) = -1) ∨ _
    by_cases h : a = x
    · left
      refine ⟨by rw [h]; rfl, ?_⟩
      unfold Lib.idxFrom
      rw [if_pos (by omega)]; rfl
    · right
      obtain ⟨h1, h2⟩ := idxFrom_cases (x : Int) (ci t) (0 + 1)
      have hi : Lib.idxFrom ((a : Int) :: ci t) x 0 = Lib.idxFrom (ci t) x (0 + 1) := by
        show (if (a : Int) = (x : Int) then ((0 : Nat) : Int) else Lib.idxFrom (ci t) x (0 + 1)) = _
        rw [if_neg (by omega)]
      by_cases hm : x ∈ t
      · right
        have := h2 (ci_mem.2 hm)
        rw [ci_length] at this
        refine ⟨by simp [hm], by simp [h], ?_, ?_⟩
        · rw [hi]; omega
        · rw [hi]; simp only [List.length_cons]; omega
      · left
        refine ⟨?_, ?_⟩
        · intro hc
          rcases List.mem_cons.1 hc with hc | hc
          · exact h hc.symm
          · exact hm hc
        · rw [if_neg (by omega)]
          exact h1 fun hc => hm (ci_mem.1 hc)

theorem Contains_io {w : World} {B : Nat} {v : Value} {l : List Nat} (h : IO w B v l) (hl : l.length ≤ 1000000000) (x : Nat) : Calls Try.prog 65 #[v, .int .i64 x] w fun e w' => e = .returned (.bool (decide (x ∈ l))) ∧ w = w' := by
  rcases h.cases with ⟨rfl, rfl⟩ | ⟨g, cap, rfl, _, _, hb⟩
  · exact (Try.slices_Contains_int_empty none 0 (x : Int) w).mono fun e w' ⟨h1, h2⟩ => ⟨by rw [h1]; simp, h2.symm⟩
  · refine (Try.slices_Contains_int g 0 l.length cap (ci l) (x : Int) w (by rw [ci_length]; exact Nat.le_refl _) (by omega) (iv_cells hb)).mono fun e w' ⟨h1, h2⟩ => ⟨?_, h2.symm⟩
    rw [h1, ci_take]
    have : (ci l).contains (x : Int) = decide (x ∈ l) := by
      by_cases hx : x ∈ l
      · rw [decide_eq_true hx]; exact List.contains_iff_mem.2 (ci_mem.2 hx)
      · rw [decide_eq_false hx]
        cases hh : (ci l).contains (x : Int) with
        | false => rfl
        | true => exact absurd (ci_mem.1 (List.contains_iff_mem.1 hh)) hx
    rw [this]
theorem Index_io {w : World} {B : Nat} {v : Value} {l : List Nat} (h : IO w B v l) (hl : l.length ≤ 1000000000) (x : Nat) : Calls Try.prog 66 #[v, .int .i64 x] w fun e w' => e = .returned (.int .i64 (idxN l x)) ∧ w = w' := by
  rcases h.cases with ⟨rfl, rfl⟩ | ⟨g, cap, rfl, _, _, hb⟩
  · exact (Try.slices_Index_int_empty none 0 (x : Int) w).mono fun e w' ⟨h1, h2⟩ => ⟨h1, h2.symm⟩
  · refine (Try.slices_Index_int g 0 l.length cap (ci l) (x : Int) w (by rw [ci_length]; exact Nat.le_refl _) (by omega) (iv_cells hb)).mono fun e w' ⟨h1, h2⟩ => ⟨?_, h2.symm⟩
    rw [h1, ci_take]; rfl
theorem Equal_io {w : World} {B B' : Nat} {v v' : Value} {l : List Nat} (h : IO w B v l) (h' : IO w B' v' l) (hl : l.length ≤ 1000000000) : Calls Try.prog 36 #[v, v'] w fun e w' => e = .returned (.bool true) ∧ Below w.heap.size w w' := by
  rcases h.cases with ⟨rfl, rfl⟩ | ⟨g, cap, rfl, _, _, hb⟩
  · obtain ⟨a, c, rfl⟩ := h'.form
    exact (Try.slices_Equal_int_empty none a 0 0 c w (by omega)).mono fun e w' ⟨h1, h2⟩ => ⟨by rw [h1]; rfl, by rw [h2]; exact Below.refl _ _⟩
  · rcases h'.cases with ⟨rfl, rfl⟩ | ⟨g', cap', rfl, _, _, hb'⟩
    · exact (Try.slices_Equal_int_empty _ none cap 0 0 w (by omega)).mono fun e w' ⟨h1, h2⟩ => ⟨by rw [h1]; rfl, by rw [h2]; exact Below.refl _ _⟩
    · refine (Try.slices_Equal_int g 0 l.length cap g' 0 l.length cap' (ci l) (ci l) w (by rw [ci_length]; exact Nat.le_refl _) (by rw [ci_length]; exact Nat.le_refl _) (by omega) (by omega) (iv_cells hb) (iv_cells hb')).mono fun e w' ⟨h1, q, h2⟩ => ⟨?_, ?_⟩
      · rw [h1, beq_self_eq_true]
      · rw [h2]; exact ⟨rfl, rfl, rfl, Nat.le_refl _, fun _ _ => rfl⟩
theorem ci_map (l : List Nat) : (ci l).map (Value.int .i64) = l.map iv := by
  unfold ci
  rw [List.map_map]; rfl
/-- Sorted in place. -/
theorem Sort_io {w : World} {B : Nat} {v : Value} {l l' : List Nat} (h : IO w B v l) (hl : l.length ≤ 1000000000) (hs : ((ci l).mergeSort fun x y => decide (x ≤ y)) = ci l') : Calls Try.prog 68 #[v] w fun e w' => e = .returned (.tuple #[]) ∧ IO w' B v l' ∧ w.grownBy w' v.ownBlock := by
  have hll : l'.length = l.length := by
    have := congrArg List.length hs
    rw [List.length_mergeSort, ci_length, ci_length] at this
    exact this.symm
  have h0 := h
  rcases h.2 with ⟨rfl, hz⟩ | ⟨g, cap, cur, rfl, hb, hg, hn, hc, hsz, ht⟩
  · have e1 := List.eq_nil_of_length_eq_zero hz
    subst e1
    obtain rfl : l' = [] := List.eq_nil_of_length_eq_zero hll
    exact (Try.slices_Sort_int_none none 0 w).mono fun e w' ⟨h1, h2⟩ => ⟨h1, by rw [h2]; exact h0, by rw [h2]; exact ⟨rfl, rfl, rfl, Nat.le_refl _, fun _ _ _ => rfl⟩⟩
  · have ht' : cur.toList.take (ci l).length = (ci l).map (Value.int .i64) := by
      rw [ci_map, ci_length]
      simpa using ht
    have hgl : g < w.heap.size := (Array.getElem?_eq_some_iff.1 hg).1
    have hH := holds_of_blockI hg ht'
    have hc0 := Try.slices_Sort_int g 0 cap (ci l) w hH hgl (by rw [ci_length]; omega)
    rw [ci_length] at hc0
    refine hc0.mono fun e w' ⟨h1, n, os, h2⟩ => ⟨h1, ?_, ?_⟩
    · rw [h2, hs]
      have := ownsRow_sortedI (w := w) (base := B) (n := n) (os := os) (ss := ci l) (ts := ci l') (by rw [ci_length, ci_length]; exact hll) hb hg (by rw [ci_length]; exact hn) hc hsz
      rw [ci_map, ci_length, ← hll] at this
      unfold IO
      rw [← hll]
      exact this
    · rw [h2]; exact grownBy_sortedI _
end Go.Proofs.Ytkclmfppjhmnjaa

namespace Go.Proofs.Ytkclmfppjhmnjaa
open Go.RowKit Go.Sort Wire

/-- A header of a row that lies at the start of a block of bytes. -/
def HdT (w : World) (x : Value) (r : List Nat) : Prop := ∃ g c, x = .slice (some ⟨g, 0, none⟩) r.length c ∧ r.length ≤ c ∧ Blk w g 5 (r.map bv)
theorem HdT.hd {w : World} {x : Value} {r : List Nat} (h : HdT w x r) : HdOk w x r := by
  obtain ⟨g, c, hx, hc, hb⟩ := h
  exact ⟨_, c, hx, hc, Or.inr ⟨g, 0, rfl, hb.row⟩, by simp⟩
theorem HdT.kept {S : Nat → Prop} {w w' : World} {x : Value} {r : List Nat} (h : HdT w x r) (k : Kept S w w') (hS : ∀ g, x.ownBlock = some g → ¬ S g) : HdT w' x r := by
  obtain ⟨g, c, rfl, hc, hb⟩ := h
  exact ⟨g, c, rfl, hc, hb.kept k (hS g rfl)⟩
theorem HdT.new {w w' : World} {x : Value} {r : List Nat} (h : HdT w x r) (k : Below w.heap.size w w') : HdT w' x r := h.kept (S := fun _ => False) (.of_new k) fun _ _ => id
theorem HdT.ne {w : World} {x : Value} {r : List Nat} (h : HdT w x r) {k : Nat} {xs : List Value} (hk : Blk w k 26 xs) : ∀ g, x.ownBlock = some g → g ≠ k := by
  obtain ⟨g, c, rfl, hc, hb⟩ := h
  intro g' hg e
  simp only [Value.ownBlock, Option.some.injEq] at hg
  subst hg; subst e
  exact absurd (hb.type hk) (by decide)
def HdsT (w : World) (vs : List Value) (m : List (List Nat)) : Prop := vs.length = m.length ∧ ∀ (i : Nat) (x : Value) (r : List Nat), vs[i]? = some x → m[i]? = some r → HdT w x r
theorem HdsT.hds {w : World} {vs : List Value} {m : List (List Nat)} (h : HdsT w vs m) : HdsOk w vs m := ⟨h.1, fun i x r hx hr => (h.2 i x r hx hr).hd⟩
theorem HdsT.new {w w' : World} {vs : List Value} {m : List (List Nat)} (h : HdsT w vs m) (k : Below w.heap.size w w') : HdsT w' vs m := ⟨h.1, fun i x r hx hr => (h.2 i x r hx hr).new k⟩
theorem HdsT.snoc {w : World} {vs : List Value} {m : List (List Nat)} {x : Value} {r : List Nat} (h : HdsT w vs m) (hx : HdT w x r) : HdsT w (vs ++ [x]) (m ++ [r]) := by
  refine ⟨by rw [List.length_append, List.length_append, h.1]; rfl, fun i y s hy hs => ?_⟩
  by_cases hi : i < vs.length
  · rw [List.getElem?_append_left hi] at hy
    rw [List.getElem?_append_left (by rw [← h.1]; exact hi)] at hs
    exact h.2 i y s hy hs
  · rw [List.getElem?_append_right (by omega)] at hy
    rw [List.getElem?_append_right (by rw [← h.1]; omega), ← h.1] at hs
    cases hj : i - vs.length with
    | zero =>
      rw [hj] at hy hs
      simp only [List.getElem?_cons_zero, Option.some.injEq] at hy hs
      subst hy; subst hs; exact hx
    | succ j => rw [hj] at hy; simp at hy
theorem HdsT.rev {w : World} {vs : List Value} {m : List (List Nat)} (h : HdsT w vs m) : HdsT w vs.reverse m.reverse := by
  refine ⟨by rw [List.length_reverse, List.length_reverse, h.1], fun i x r hx hr => ?_⟩
  have hi := (List.getElem?_eq_some_iff.1 hx).1
  rw [List.length_reverse] at hi
  rw [List.getElem?_reverse hi] at hx
  rw [List.getElem?_reverse (by rw [← h.1]; exact hi), ← h.1] at hr
  exact h.2 _ x r hx hr
theorem GM.hdsT {w : World} {B : Nat} {v : Value} {hd : List (Nat × Nat)} {m : List (List Nat)} (h : GM w B v hd m) : HdsT w (hvs hd m) m := by
  refine ⟨hvs_length h.len, fun i x r hx hr => ?_⟩
  have hi : i < hd.length := by rw [h.len]; exact (List.getElem?_eq_some_iff.1 hr).1
  have hp := getD_some (d := (0, 0)) hi
  rw [hvs_get hp hr] at hx
  simp only [Option.some.injEq] at hx
  obtain ⟨k1, _, k3⟩ := h.rows i _ r hp hr
  exact ⟨_, _, hx.symm, k3, k1⟩

/-- A slice of headers of the call's own, over rows in blocks of bytes. -/
structure LM (w : World) (B : Nat) (v : Value) (vs : List Value) (m : List (List Nat)) : Prop where
  outer : w.ownsRow B 26 1 v m.length vs
  rows : HdsT w vs m
theorem LM.nil (w : World) (B : Nat) : LM w B (.slice none 0 0) [] [] := ⟨World.ownsRow_nil w B _ 1, rfl, fun i x r h => by simp at h⟩
theorem LM.vm {w : World} {B : Nat} {v : Value} {vs : List Value} {m : List (List Nat)} (h : LM w B v vs m) : VM w B v vs m := ⟨h.outer, h.rows.hds⟩
theorem LM.new {w w' : World} {B : Nat} {v : Value} {vs : List Value} {m : List (List Nat)} (h : LM w B v vs m) (k : Below w.heap.size w w') : LM w' B v vs m :=
  ⟨owns_kept h.outer (Kept.of_new k) (S := fun _ => False) (fun _ _ => id), h.rows.new k⟩
theorem LM.form {w : World} {B : Nat} {v : Value} {vs : List Value} {m : List (List Nat)} (h : LM w B v vs m) : ∃ a c, v = .slice a m.length c := owns_slice h.outer
/-- A header has been appended. -/
theorem LM.snoc {w w1 w3 : World} {B : Nat} {v v' : Value} {vs : List Value} {m : List (List Nat)} {x : Value} {r : List Nat} {o : Obj} (h : LM w B v vs m) (k1 : Below w.heap.size w w1) (hB : B ≤ w.heap.size) (hx : HdT w1 x r)
    (hown : w3.ownsRow B 26 1 v' (m.length + 1) (vs ++ [x])) (hgr : (w1.alloc o).grownBy w3 v.ownBlock) : LM w3 B v' (vs ++ [x]) (m ++ [r]) ∧ Below B w1 w3 := by
  have h1 := h.new k1
  have hz := k1.size
  refine ⟨⟨by rw [List.length_append]; exact hown, ?_⟩, (((Below.refl B w1).alloc (by omega) o).grown hgr (by simp; omega) (fun q hq => (owns_block h.outer hq).2.1))⟩
  have k3 : Kept (fun k => some k = v.ownBlock) w1 w3 := ((Kept.refl _ w1).alloc o).trans (Kept.of_grown hgr)
  refine HdsT.snoc ⟨h1.rows.1, fun i y s hy hs => ?_⟩ ?_
  · refine (h1.rows.2 i y s hy hs).kept k3 fun g hg e => ?_
    exact (h1.rows.2 i y s hy hs).ne (owns_block h1.outer e.symm).1 g hg rfl
  · refine hx.kept k3 fun g hg e => ?_
    exact hx.ne (owns_block h1.outer e.symm).1 g hg rfl

/-- Ints have been changed. -/
theorem LM.turn {w w' : World} {B B' : Nat} {v u : Value} {vs : List Value} {m : List (List Nat)} {l : List Nat} (h : LM w B v vs m) (hI : IO w B' u l) (hg : w.grownBy w' u.ownBlock) : LM w' B v vs m := by
  have k : Kept (fun k => some k = u.ownBlock) w w' := Kept.of_grown hg
  refine ⟨owns_kept h.outer k fun g hgv e => ?_, h.rows.1, fun i x r hx hr => ?_⟩
  · exact absurd ((owns_block hI e.symm).1.type (owns_block h.outer hgv).1) (by decide)
  · have hT := h.rows.2 i x r hx hr
    refine hT.kept k fun g hgx e => ?_
    obtain ⟨g', c, rfl, _, hb⟩ := hT
    simp only [Value.ownBlock, Option.some.injEq] at hgx
    subst hgx
    exact absurd ((owns_block hI e.symm).1.type hb) (by decide)

/-- Headers as numbers. -/
def encH (p : Option Addr × Nat × Nat) : Value := .slice p.1 p.2.1 p.2.2
def decH : Value → Option Addr × Nat × Nat
  | .slice a n c => (a, n, c)
  | _ => (none, 0, 0)
theorem encH_one : OneCell encH := fun _ => rfl
theorem HdsT.encode {w : World} {vs : List Value} {m : List (List Nat)} (h : HdsT w vs m) : (vs.map decH).map encH = vs := by
  rw [List.map_map]
  apply List.ext_getElem?
  intro i
  rw [List.getElem?_map]
  cases hx : vs[i]? with
  | none => rfl
  | some x =>
    have hi := (List.getElem?_eq_some_iff.1 hx).1
    obtain ⟨g, c, rfl, _⟩ := h.2 i x _ hx (getD_some (d := []) (by rw [← h.1]; exact hi))
    rfl
theorem heap_put {w : World} {g n : Nat} {cur : Array Value} {e : TypeId} {fr : Nat × Nat} (d : Array (Option Addr × Nat × Nat)) (hb : w.heap[g]? = some (.cells cur e fr)) :
    (putRow encH (Sort.ahead w n) g 0 d).heap[g]? = some (.cells (putCells encH 0 d cur) e fr) := by
  simp [putRow, mapBlock, Sort.ahead, Array.getElem?_modify, hb, onCells]
theorem grown_put {w : World} {g n : Nat} (d : Array (Option Addr × Nat × Nat)) : w.grownBy (putRow encH (Sort.ahead w n) g 0 d) (some g) := by
  refine ⟨rfl, rfl, rfl, by simp [putRow, mapBlock, Sort.ahead], fun k hk hne => ?_⟩
  have : g ≠ k := fun e => hne (by rw [e])
  simp [putRow, mapBlock, Sort.ahead, Array.getElem?_modify, this]
theorem take_put (cur : Array Value) (ts : List (Option Addr × Nat × Nat)) (h : ts.length ≤ cur.size) : (putCells encH 0 ts.toArray cur).toList.take ts.length = ts.map encH := by
  apply List.ext_getElem?
  intro j
  by_cases hj : j < ts.length
  · rw [List.getElem?_take_of_lt hj, Array.getElem?_toList]
    simp [putCells, hj, show j < cur.size by omega]
  · rw [List.getElem?_take_eq_none (by omega), List.getElem?_eq_none (by simp; omega)]

/-- Turned round in place. -/
theorem Reverse_lm {w : World} {B : Nat} {v : Value} {vs : List Value} {m : List (List Nat)} (h : LM w B v vs m) (hl : m.length ≤ 1000000000) :
    Calls Try.prog 67 #[v] w fun e w' => e = .returned (.tuple #[]) ∧ LM w' B v vs.reverse m.reverse ∧ w.grownBy w' v.ownBlock := by
  have hvl := h.rows.1
  rcases h.outer.2 with ⟨rfl, hz⟩ | ⟨g, cap, cur, rfl, hb, hg, hn, hc, hsz, ht⟩
  · have e1 := List.eq_nil_of_length_eq_zero hz
    subst e1
    have e2 : vs = [] := List.eq_nil_of_length_eq_zero hvl
    subst e2
    exact (Try.slices_Reverse_empty none 0 w).mono fun e w' ⟨h1, h2⟩ => ⟨h1, by rw [h2]; exact h, by rw [h2]; exact ⟨rfl, rfl, rfl, Nat.le_refl _, fun _ _ _ => rfl⟩⟩
  · have hbk := (owns_block h.outer (k := g) rfl).1
    have henc := h.rows.encode
    have hzl : (vs.map decH).length = m.length := by rw [List.length_map, hvl]
    have hH : Holds encH w g 0 (vs.map decH).toArray := by
      intro j hj
      have hj' : j < vs.length := by simpa using hj
      refine ⟨?_, by rw [Nat.zero_add]; exact hbk.frozen j⟩
      rw [Nat.zero_add]
      refine hbk.cell ?_
      have : (vs.map decH).toArray[j]! = decH vs[j] := by simp [hj']
      rw [this]
      have h2 := congrArg (fun l => l[j]?) henc
      simp only [List.getElem?_map, List.getElem?_eq_getElem hj', Option.map_some, Option.some.injEq] at h2
      rw [h2]
      exact List.getElem?_eq_getElem hj'
    have hcall := Try.slices_Reverse encH encH_one g 0 cap (vs.map decH) w hH (by rw [hzl]; omega)
    rw [hzl] at hcall
    refine hcall.mono fun e w' ⟨h1, n, h2⟩ => ⟨h1, ?_, ?_⟩
    · have hgr : w.grownBy w' (some g) := by rw [h2]; exact grown_put _
      have hk : Kept (fun k => some k = some g) w w' := Kept.of_grown hgr
      refine ⟨?_, ?_⟩
      · rw [List.length_reverse]
        refine ⟨by rw [List.length_reverse, Nat.mul_one]; exact hvl, .inr ⟨g, cap, putCells encH 0 (vs.map decH).reverse.toArray cur, rfl, hb, ?_, hn, hc, ?_, ?_⟩⟩
        · rw [h2]; exact heap_put _ hg
        · simp [putCells, hsz]
        · have h3 := take_put cur (vs.map decH).reverse (by rw [List.length_reverse, hzl]; omega)
          rw [List.length_reverse, hzl, List.map_reverse, henc] at h3
          rw [Nat.mul_one]; exact h3
      · refine ⟨by rw [List.length_reverse, List.length_reverse, hvl], fun i x r hx hr => ?_⟩
        have h4 := h.rows.rev.2 i x r hx hr
        refine h4.kept hk fun g' hg' e => ?_
        simp only [Option.some.injEq] at e
        exact h4.ne hbk g' hg' e
    · rw [h2]; exact grown_put _
end Go.Proofs.Ytkclmfppjhmnjaa

namespace Go.Proofs.Ytkclmfppjhmnjaa
open Go.RowKit Wire Vol Crc

theorem dmg_len (v : List Nat) (a y : Nat) : (dmg v a y).length = v.length := by unfold dmg; rw [List.length_set]
theorem dmg_byt {v : List Nat} (h : Byt v) {a y : Nat} (hy : y < 256) : Byt (dmg v a y) := fun q hq => by
  unfold dmg at hq
  rcases List.mem_or_eq_of_mem_set hq with h1 | h1
  · exact h q h1
  · rw [h1]; exact Nat.xor_lt_two_pow (n := 8) (h.getD _) hy
/-- What lose leaves. -/
def LoseRet (m : List (List Nat)) (g : List Nat) (w : World) (e : Ending) (w' : World) : Prop := ∃ vo vg, e = .returned (.tuple #[vo, vg]) ∧ Mx w' vo m ∧ IO w' w.heap.size vg g ∧ Below w.heap.size w w'

set_option maxRecDepth 100000 in
set_option maxHeartbeats 8000000 in
theorem lose_any (b1 k1 : Nat) (V : List (List Nat)) (vs : List Value) (vl : Value) (lost : List Nat) (x y most : Nat) (rev : Bool) (w : World) (hV : HdsT w vs V) (hb1 : ∀ i u, vs[i]? = some u → w.cell? ⟨b1, i, none⟩ = some u) (hl : Bs w vl lost) (hlB : Byt lost) (hll : lost.length ≤ 1000) (hx : x < 256) (hy : y < 256)
    (hn1 : 1 ≤ V.length) (hn2 : V.length ≤ 1000) (hVk : V.length ≤ k1) (hm : most ≤ 1000) (hrow : ∀ r ∈ V, Byt r ∧ 1 ≤ r.length ∧ r.length ≤ 1000) :
    Calls Try.prog 34 #[.slice (some ⟨b1, 0, none⟩) V.length k1, .agg #[vl, .int .u8 x, .int .u8 y, .bool rev], .int .i64 most] w
      (LoseRet (turn rev (leftTo V (goTo V.length most lost lost.length) x y V.length)) ((List.range V.length).filter fun i => decide (i ∈ goTo V.length most lost lost.length)) w) := by
  obtain ⟨i0, hi, hz0, hz1, hz2⟩ := info_parts infoIntV
  obtain ⟨j0, gi, gz0, gz1, gz2⟩ := info_parts infoBytes
  have hal := al w (.cells #[vl, .int .u8 x, .int .u8 y, .bool rev] 75)
  have hbx : Blk (w.alloc (.cells #[vl, .int .u8 x, .int .u8 y, .bool rev] 75)) w.heap.size 75 [vl, .int .u8 x, .int .u8 y, .bool rev] := Blk.new w 75 [vl, .int .u8 x, .int .u8 y, .bool rev].toArray
  have c0 := hbx.cell (i := 0) rfl
  have C1 := Lib.hid (hbx.cell (i := 1) rfl)
  have C2 := Lib.hid (hbx.cell (i := 2) rfl)
  have C3 := Lib.hid (hbx.cell (i := 3) rfl)
  have hzb := hbx.lt
  have HL := Lib.hid (hl.new hal)
  have HV := Lib.hid (hV.new hal)
  have HB := Lib.hid hal
  have HC := Lib.hid (fun i u (hu : vs[i]? = some u) => cell_nw hal (hb1 i u hu) (World.block_lt_of_cell? _ _ (hb1 i u hu)))
  have HlB := Lib.hid hlB
  have HR := Lib.hid hrow
  have HGo := Lib.hid (fun k => goTo_ok (most := most) hn1 lost k)
  have hvsl := hV.1
  obtain ⟨la, lc, rfl, hlc, _⟩ := hl
  clear hal hbx hV hb1 hlB hrow
  go_enter Try.func34, Try.ntmps34
  go_wp2_with fail
  generalize hW0 : w.alloc (.cells #[.slice la lost.length lc, .int .u8 x, .int .u8 y, .bool rev] 75) = W0 at *
  clear hW0
  obtain ⟨n, hn⟩ : ∃ n, V.length = n := ⟨_, rfl⟩
  have Hn := Lib.hid hn
  rw [hn] at hn1 hn2 hVk hvsl HGo ⊢
  clear hn
  have tn : ((n : Int) == 0) = false := by rw [beq_eq_false_iff_ne]; omega
  go_loopg [20, 8] lost.length (fun gk i o wr => ∃ k : Nat, k + gk = lost.length ∧ i = .int .i64 k ∧ Hid (IO wr W0.heap.size o (goTo n most lost k)) ∧ Hid (Below W0.heap.size W0 wr))
  case atStart => exact ⟨0, by omega, rfl, IO.nil _ _, Below.refl _ _⟩
  case round =>
    obtain ⟨k, hgk, rfl, hI, hB⟩ := hrel
    have Hgk := Lib.hid hgk
    have hk : k ≤ lost.length := by omega
    clear hgk
    by_cases hlt : k < lost.length
    · have hkr := getD_some (l := lost) (d := 0) hlt
      obtain ⟨b, o, rfl, hrw⟩ : ∃ b o, la = some ⟨b, o, none⟩ ∧ RowAt W0 b o lost := by
        obtain ⟨la', lc', hv, _, h2⟩ := HL.out
        simp only [Value.slice.injEq] at hv
        obtain ⟨rfl, _, _⟩ := hv
        rcases h2 with h | h
        · rw [h] at hlt; simp at hlt
        · exact h
      have x1 := (hrw.new hB.out) k _ hkr
      have hgs := Lib.hid (goTo_succ (n := n) (most := most) hkr)
      have hxk := HlB.out.getD k
      have hgo := HGo.out k
      have hgl := hgo.le
      obtain ⟨oa, oc, rfl⟩ := hI.out.form
      have hs := hB.out.size
      generalize goTo n most lost k = M at *
      generalize lost.getD k 0 = q at *
      unfold bv at x1
      have HCt := Lib.hid (fun x => Contains_io hI.out (by omega) x)
      obtain ⟨j, hj⟩ : ∃ j, q % n = j := ⟨_, rfl⟩
      have e7 : (q : Int).tmod (n : Int) = (j : Int) := by rw [← hj]; rfl
      have e8 : (q : Int) % (n : Int) = (j : Int) := by rw [← hj]; rfl
      have hjn : j < n := by rw [← hj]; exact Nat.mod_lt _ hn1
      have i1 : (0 : Int) ≤ (k : Int) := by omega
      have i2 : (k : Int) < (lost.length : Int) := by omega
      by_cases hm1 : M.length < most
      · have t1 : decide ((M.length : Int) < (most : Int)) = true := by simp; omega
        by_cases hjm : j ∈ M
        · have hgs2 : Hid (goTo n most lost (k + 1) = M) := by rw [hgs.out]; unfold goStep; rw [hj]; exact if_neg (fun e => e.2 hjm)
          have HD := Lib.hid (decide_eq_true hjm)
          clear hjm hkr hrw hgo hgs hj
          go_wp2_with fail
          refine (HCt.out j).mono ?_
          rintro e w1 ⟨rfl, hw1⟩
          rw [HD.out]
          subst hw1
          go_wp2_with fail
          go_roundg (lost.length - k - 1)
          case measure => have := Hgk.out; omega
          case rel => exact ⟨k + 1, by have := Hgk.out; omega, by go_num, by rw [hgs2.out]; exact hI, hB⟩
        · have hgs2 : Hid (goTo n most lost (k + 1) = M ++ [j]) := by rw [hgs.out]; unfold goStep; rw [hj]; exact if_pos ⟨hm1, hjm⟩
          have HD := Lib.hid (decide_eq_false hjm)
          clear hjm hkr hrw hgo hgs hj
          go_wp2_with fail
          refine (HCt.out j).mono ?_
          rintro e w1 ⟨rfl, hw1⟩
          rw [HD.out]
          subst hw1
          go_wp2_with (at_builtin; refine wpList_append_own _ rfl _ _ 70 rfl W0.heap.size 3 i0 (.int .i64 0) 1 8 Try.underlying70 hi hz0 hz1 hz2 rfl (by decide) _ _ _ rfl (show (wr.alloc _).ownsRow W0.heap.size 3 1 _ M.length (M.map iv) from (show wr.ownsRow W0.heap.size 3 1 _ M.length (M.map iv) from hI.out).alloc _) ⟨wr.heap.size, 0, none⟩ 1 1 [iv j] rfl rfl ?c1 ?c2 ?c3 ?c4 ?c5 ?_)
          case c1 => exact cell_one_new _ _ _
          case c2 => intro u hu; simp at hu; subst hu; rfl
          case c3 => unfold maxLen; omega
          case c4 => omega
          case c5 => simp; omega
          intro v' w5 hown hgr _
          obtain ⟨q1, q2⟩ := hI.out.snoc hs hown hgr
          rw [← hgs2.out] at q1
          have HI := Lib.hid q1
          have HB5 := Lib.hid (hB.out.trans q2)
          clear hown hgr q1 q2
          go_wp2_with fail
          go_roundg (lost.length - k - 1)
          case measure => have := Hgk.out; omega
          case rel => exact ⟨k + 1, by have := Hgk.out; omega, by go_num, HI.out, HB5.out⟩
      · have t1 : decide ((M.length : Int) < (most : Int)) = false := by simp; omega
        have hgs2 : Hid (goTo n most lost (k + 1) = M) := by rw [hgs.out]; unfold goStep; exact if_neg (fun e => hm1 e.1)
        clear hkr hrw hgo hgs hj
        go_wp2_with fail
        go_roundg (lost.length - k - 1)
        case measure => have := Hgk.out; omega
        case rel => exact ⟨k + 1, by have := Hgk.out; omega, by go_num, by rw [hgs2.out]; exact hI, hB⟩
    · obtain rfl : k = lost.length := by omega
      have hgo := HGo.out lost.length
      have hgl := hgo.le
      obtain ⟨G, hG⟩ : ∃ G, goTo n most lost lost.length = G := ⟨_, rfl⟩
      rw [hG] at hgo hgl hI
      have HGe := Lib.hid hG
      have HGk := Lib.hid hgo
      obtain ⟨oa, oc, rfl⟩ := hI.out.form
      have hs0 := hB.out.size
      have D1 := Lib.hid (cell_nw hB.out C1.out hzb)
      have D2 := Lib.hid (cell_nw hB.out C2.out hzb)
      have D3 := Lib.hid (cell_nw hB.out C3.out hzb)
      have hzb1 := Nat.lt_of_lt_of_le hzb hs0
      have HV1 := Lib.hid (HV.out.new hB.out)
      have HC1 := Lib.hid (fun i u (hu : vs[i]? = some u) => cell_nw hB.out (HC.out i u hu) (World.block_lt_of_cell? _ _ (HC.out i u hu)))
      obtain ⟨w1, rfl⟩ : ∃ w1 : World, w1 = wr := ⟨_, rfl⟩
      clear hG hgo C1 C2 C3 c0 HV HC HGo
      go_wp2_with fail
      go_loopg [46, 12] n (fun gk i o wr => ∃ (k : Nat) (us : List Value), k + gk = n ∧ i = .int .i64 k ∧ Hid (LM wr w1.heap.size o us (leftTo V G x y k)) ∧ Hid (Below w1.heap.size w1 wr))
      case atStart => exact ⟨0, [], by omega, rfl, LM.nil _ _, Below.refl _ _⟩
      case round =>
        obtain ⟨k, us, hgk, rfl, hO, hBr⟩ := hrel
        have Hgk := Lib.hid hgk
        have hk : k ≤ n := by omega
        clear hgk
        by_cases hlt : k < n
        · have hkr := getD_some (l := V) (d := []) (show k < V.length by rw [Hn.out]; exact hlt)
          have hxr := getD_some (l := vs) (d := .slice none 0 0) (show k < vs.length by omega)
          have hT := HV1.out.2 k _ _ hxr hkr
          have x1 := cell_nw hBr.out (HC1.out k _ hxr) (World.block_lt_of_cell? _ _ (HC1.out k _ hxr))
          have HRk := Lib.hid (HR.out _ (List.mem_of_getElem? hkr))
          have hsc := Lib.hid (leftTo_succ V G x y k)
          have hln := leftTo_len V G x y k
          obtain ⟨oa2, oc2, rfl⟩ := hO.out.form
          have hs := hBr.out.size
          have hI2 := Lib.hid (hI.out.new hBr.out)
          have E1 := Lib.hid (cell_nw hBr.out D1.out hzb1)
          have E2 := cell_nw hBr.out D2.out hzb1
          have hzb2 := Nat.lt_of_lt_of_le hzb1 hs
          generalize leftTo V G x y k = M at *
          generalize V.getD k [] = X at *
          obtain ⟨g, c, hxe, hXc, hXb⟩ := hT
          rw [hxe] at x1
          have HX := Lib.hid (hXb.below hBr.out hXb.lt)
          have i1 : (0 : Int) ≤ (k : Int) := by omega
          have i2 : (k : Int) < (n : Int) := by omega
          clear hkr hxr hxe hXb
          go_wp2_with fail
          refine (Index_io hI2.out (by omega) k).mono ?_
          rintro e w2 ⟨rfl, hw2⟩
          subst hw2
          rcases idxN_cases G k with ⟨hh, hix⟩ | ⟨hh, hix⟩ | ⟨hh1, hh2, hi1, hi2⟩
          · rw [hix]
            have hkG := head_mem hh
            by_cases hy0 : 0 < y
            · have t1 : decide ((0 : Int) < (y : Int)) = true := by simp; omega
              have hsc2 : Hid (leftTo V G x y (k + 1) = M ++ [dmg X x y]) := Lib.hid (by rw [hsc.out]; unfold leftEl; rw [if_pos ⟨hh, hy0⟩])
              clear hsc hh hix hkG
              go_wp2_with fail
              refine (Clone_any g 0 X c _ (by have := HRk.out.2.2; omega) (Lib.hid HX.out.row)).mono ?_
              rintro e w4 ⟨g7, k7, rfl, hg7, hl7, hm7, hb7, hB7⟩
              have hX1 := HRk.out.2.1
              obtain ⟨j, hj⟩ : ∃ j, x % X.length = j := ⟨_, rfl⟩
              have hjl : j < X.length := by rw [← hj]; exact Nat.mod_lt _ (by omega)
              have e7 : (x : Int).tmod (X.length : Int) = (j : Int) := by rw [← hj]; rfl
              have e8 : (x : Int) % (X.length : Int) = (j : Int) := by rw [← hj]; rfl
              have G3 : w4.cell? ⟨g7, j, none⟩ = some (.int .u8 (X.getD j 0 : Nat)) := hb7.cell (by rw [List.getElem?_map, getD_some (d := 0) hjl]; rfl)
              have hxb := HRk.out.1.getD j
              have hset : Blk (w4.setCell ⟨g7, j, none⟩ (bv (X.getD j 0 ^^^ y))) g7 5 ((dmg X x y).map bv) := by
                unfold dmg
                rw [hj, List.map_set]; exact hb7.setCell (by rw [List.length_map]; exact hjl) _
              have hfr := hb7.frozen j
              have t6 : IntKind.i64.wrap (x : Int) = x := IntWalk.i64_in _ (by omega)
              have tX : ((X.length : Int) == 0) = false := by rw [beq_eq_false_iff_ne]; omega
              have hX0 : X.length ≠ 0 := by omega
              have F1 := cell_nw hB7 E1.out hzb2
              have F2 := cell_nw hB7 E2 hzb2
              obtain ⟨y0, hy1⟩ : ∃ y0, X.getD j 0 = y0 := ⟨_, rfl⟩
              rw [hy1] at G3 hset hxb
              have e9 : bits .xor .u8 (y0 : Int) (y : Int) = ((y0 ^^^ y : Nat) : Int) := xor_u8 _ _ hxb hy
              unfold bv at hset
              rw [← e9] at hset
              have hBs : Below wr.heap.size wr (w4.setCell ⟨g7, j, none⟩ (.int .u8 (bits .xor .u8 (y0 : Int) (y : Int)))) := hB7.setCell (p := ⟨g7, j, none⟩) hg7 _
              have hT : HdT (w4.setCell ⟨g7, j, none⟩ (.int .u8 (bits .xor .u8 (y0 : Int) (y : Int)))) (.slice (some ⟨g7, 0, none⟩) X.length k7) (dmg X x y) := ⟨g7, k7, by rw [dmg_len], by rw [dmg_len]; exact hl7, hset⟩
              have HT := Lib.hid hT
              have HBs := Lib.hid hBs
              have HOo := Lib.hid ((hO.out.new hBs).outer)
              have HSe := Lib.hid (show (w4.setCell ⟨g7, j, none⟩ (.int .u8 (bits .xor .u8 (y0 : Int) (y : Int)))).heap.size = w4.heap.size by simp)
              have i3 : (0 : Int) ≤ (j : Int) := by omega
              have i4 : (j : Int) < (X.length : Int) := by omega
              have hszz := hBs.size
              have HSz := Lib.hid hszz
              clear hb7 hB7 hj hset hy1 hT hBs E1 E2 e9 hszz
              go_wp2_with fail
              go_still_tail 13, (by kernel_rfl)
              go_wp2_with (at_builtin; refine wpList_append_own _ rfl _ _ 44 rfl w1.heap.size 26 j0 (.slice none 0 0) 1 24 Try.underlying44 gi gz0 gz1 gz2 rfl (by decide) _ _ _ rfl (show (((w4.setCell ⟨g7, j, none⟩ (.int .u8 (bits .xor .u8 (y0 : Int) (y : Int)))).alloc (.cells #[.slice (some ⟨g7, 0, none⟩) X.length k7] 26)).drew).ownsRow w1.heap.size 26 1 (.slice oa2 M.length oc2) M.length us from HOo.out.alloc _) ⟨w4.heap.size, 0, none⟩ 1 1 [.slice (some ⟨g7, 0, none⟩) X.length k7] rfl rfl ?c1 ?c2 ?c3 ?c4 ?c5 ?_)
              case c1 => have := cell_one_new (w4.setCell ⟨g7, j, none⟩ (.int .u8 (bits .xor .u8 (y0 : Int) (y : Int)))) (.slice (some ⟨g7, 0, none⟩) X.length k7) 26; rw [HSe.out] at this; exact this
              case c2 => intro u hu; simp at hu; subst hu; rfl
              case c3 => unfold maxLen; omega
              case c4 => omega
              case c5 => have := HSz.out; simp at this ⊢; omega
              intro v' w5 hown hgr _
              obtain ⟨q1, q2⟩ := hO.out.snoc (o := .cells #[.slice (some ⟨g7, 0, none⟩) X.length k7] 26) HBs.out hs HT.out hown (by obtain ⟨z1, z2, z3, z4, z5⟩ := hgr; exact ⟨z1, z2, z3, z4, z5⟩)
              rw [← hsc2.out] at q1
              have HO5 := Lib.hid q1
              have HB5 := Lib.hid ((hBr.out.trans (HBs.out.mono hs)).trans q2)
              clear hown hgr q1 q2
              go_wp2_with fail
              go_roundg (n - k - 1)
              case measure => have := Hgk.out; omega
              case rel => exact ⟨k + 1, _, by have := Hgk.out; omega, by go_num, HO5.out, HB5.out⟩
            · obtain rfl : y = 0 := by omega
              have hsc2 : Hid (leftTo V G x 0 (k + 1) = M) := Lib.hid (by rw [hsc.out]; unfold leftEl; rw [if_neg (by omega), if_pos hkG, List.append_nil])
              clear hsc hh hix hkG
              go_wp2_with fail
              go_roundg (n - k - 1)
              case measure => have := Hgk.out; omega
              case rel => exact ⟨k + 1, us, by have := Hgk.out; omega, by go_num, by rw [hsc2.out]; exact hO, hBr⟩
          · rw [hix]
            have hsc2 : Hid (leftTo V G x y (k + 1) = M ++ [X]) := Lib.hid (by rw [hsc.out]; unfold leftEl; rw [if_neg (fun e => hh (head_mem e.1)), if_neg hh])
            have hT : HdT wr (.slice (some ⟨g, 0, none⟩) X.length c) X := ⟨g, c, rfl, hXc, HX.out⟩
            have HT := Lib.hid hT
            have HOo := Lib.hid hO.out.outer
            clear hsc hh hix hT
            go_wp2_with (at_builtin; refine wpList_append_own _ rfl _ _ 44 rfl w1.heap.size 26 j0 (.slice none 0 0) 1 24 Try.underlying44 gi gz0 gz1 gz2 rfl (by decide) _ _ _ rfl (HOo.out.alloc _) ⟨wr.heap.size, 0, none⟩ 1 1 [.slice (some ⟨g, 0, none⟩) X.length c] rfl rfl ?c1 ?c2 ?c3 ?c4 ?c5 ?_)
            case c1 => exact cell_one_new _ _ _
            case c2 => intro u hu; simp at hu; subst hu; rfl
            case c3 => unfold maxLen; omega
            case c4 => omega
            case c5 => simp; omega
            intro v' w5 hown hgr _
            obtain ⟨q1, q2⟩ := hO.out.snoc (Below.refl _ _) hs HT.out hown hgr
            rw [← hsc2.out] at q1
            have HO5 := Lib.hid q1
            have HB5 := Lib.hid (hBr.out.trans q2)
            clear hown hgr q1 q2
            go_wp2_with fail
            go_roundg (n - k - 1)
            case measure => have := Hgk.out; omega
            case rel => exact ⟨k + 1, _, by have := Hgk.out; omega, by go_num, HO5.out, HB5.out⟩
          · have hsc2 : Hid (leftTo V G x y (k + 1) = M) := Lib.hid (by rw [hsc.out]; unfold leftEl; rw [if_neg (fun e => hh2 e.1), if_pos hh1, List.append_nil])
            obtain ⟨ix, hixe⟩ : ∃ ix, idxN G k = ix := ⟨_, rfl⟩
            rw [hixe] at hi1 hi2 ⊢
            have t1 : (ix == 0) = false := by rw [beq_eq_false_iff_ne]; omega
            have t2 : decide (ix < 0) = false := by simp; omega
            clear hsc hh1 hh2 hixe
            go_wp2_with fail
            go_roundg (n - k - 1)
            case measure => have := Hgk.out; omega
            case rel => exact ⟨k + 1, us, by have := Hgk.out; omega, by go_num, by rw [hsc2.out]; exact hO, hBr⟩
        · obtain rfl : k = n := by omega
          have E3 := cell_nw hBr.out D3.out hzb1
          have hs := hBr.out.size
          have hln := leftTo_len V G x y k
          have HS := Lib.hid (gone_sort HGk.out)
          have HB1 := Lib.hid (HB.out.trans (hB.out.mono HB.out.size))
          have hW0 := HB.out.size
          obtain ⟨oa2, oc2, rfl⟩ := hO.out.form
          cases rev with
          | true =>
            go_wp2_with fail
            refine (Reverse_lm hO.out (by omega)).mono ?_
            rintro e w2 ⟨rfl, hL2, hg2⟩
            have hB2 : Below w1.heap.size w1 w2 := hBr.out.grown hg2 hs (fun q hq => (owns_block hO.out.outer hq).2.1)
            have hI2 := hI.out.new hB2
            have HL2 := Lib.hid hL2
            have HI2 := Lib.hid hI2
            have B2 := Lib.hid ((hB.out.trans (hB2.mono hs0)))
            clear hg2 hL2 hI2 hB2 E3
            go_wp2_with fail
            refine (Sort_io HI2.out (by omega) HS.out).mono ?_
            rintro e w3 ⟨rfl, hI3, hg3⟩
            have hL3 := HL2.out.turn HI2.out hg3
            have B3 := Lib.hid (HB.out.trans ((B2.out.grown hg3 B2.out.size (fun q hq => (owns_block HI2.out hq).2.1)).mono hW0))
            have HL3 := Lib.hid hL3.vm.mx
            have HI3 := Lib.hid (hI3.base hW0)
            clear hg3 hI3 hL3
            go_wp2_with fail
            go_ret2
            refine ⟨_, _, by rfl, ?_, ?_, B3.out⟩
            · rw [Hn.out, HGe.out]; exact HL3.out
            · rw [Hn.out, HGe.out]; exact HI3.out
          | false =>
            have HI2 := Lib.hid (hI.out.new hBr.out)
            have B2 := Lib.hid ((hB.out.trans (hBr.out.mono hs0)))
            go_wp2_with fail
            refine (Sort_io HI2.out (by omega) HS.out).mono ?_
            rintro e w3 ⟨rfl, hI3, hg3⟩
            have hL3 := hO.out.turn HI2.out hg3
            have B3 := Lib.hid (HB.out.trans ((B2.out.grown hg3 B2.out.size (fun q hq => (owns_block HI2.out hq).2.1)).mono hW0))
            have HL3 := Lib.hid hL3.vm.mx
            have HI3 := Lib.hid (hI3.base hW0)
            clear hg3 hI3 hL3
            go_wp2_with fail
            go_ret2
            refine ⟨_, _, by rfl, ?_, ?_, B3.out⟩
            · rw [Hn.out, HGe.out]; exact HL3.out
            · rw [Hn.out, HGe.out]; exact HI3.out
end Go.Proofs.Ytkclmfppjhmnjaa

namespace Go.Proofs.Ytkclmfppjhmnjaa
open Go.RowKit Wire Vol Crc Alg

theorem leftTo_ok {b : List Nat} {d r p q : Nat} {g : List Nat} (rev : Bool) (hB : Byt b) (hl : b.length ≤ 60) (h1 : 1 ≤ d) (h2 : d + r ≤ 64) (hq : q < 256) :
    BytM (turn rev (leftTo (volL b d r) g p q (d + r))) ∧ (∀ x ∈ turn rev (leftTo (volL b d r) g p q (d + r)), x.length ≤ 200) ∧ (turn rev (leftTo (volL b d r) g p q (d + r))).length ≤ 64 := by
  obtain ⟨hVl, hVb, hVs⟩ := vol_ok hB hl h1 h2
  have key : ∀ x ∈ turn rev (leftTo (volL b d r) g p q (d + r)), Byt x ∧ x.length ≤ 200 := fun x hx => by
    rw [mem_turn, leftTo_mem] at hx
    obtain ⟨i, hi, hx⟩ := hx
    have hm := List.mem_of_getElem? (getD_some (l := volL b d r) (d := []) (i := i) (by rw [hVl]; exact hi))
    unfold leftEl at hx
    split at hx
    · simp only [List.mem_singleton] at hx
      rw [hx]
      exact ⟨dmg_byt (hVb _ hm) hq, by rw [dmg_len]; exact hVs _ hm⟩
    · split at hx
      · simp at hx
      · simp only [List.mem_singleton] at hx
        rw [hx]
        exact ⟨hVb _ hm, hVs _ hm⟩
  refine ⟨fun x hx => (key x hx).1, fun x hx => (key x hx).2, ?_⟩
  have := leftTo_len (volL b d r) g p q (d + r)
  unfold turn
  split
  · rw [List.length_reverse]; omega
  · omega
/-- What Join, Repair and Missing answer of what is left. -/
theorem left_answers {b : List Nat} {d r p q most : Nat} {g : List Nat} (rev : Bool) (hB : Byt b) (hl : b.length ≤ 60) (h1 : 1 ≤ d) (h2 : d + r ≤ 64) (hq : q < 256) (hg : GoOk (d + r) most g) (hm : most < d + r) {L : List (List Nat)} (hL : turn rev (leftTo (volL b d r) g p q (d + r)) = L) :
    clErr L = 0 ∧ jE L = (if r < g.length then 26 else 0) ∧ jB L = (if r < g.length then [] else b) ∧ rvE L = (if r < g.length then 26 else 0) ∧ rvL L = (if r < g.length then [] else volL b d r) ∧ miL L = (List.range (d + r)).filter fun i => decide (i ∈ g) := by
  obtain ⟨hVl, hVb, hVs⟩ := vol_ok hB hl h1 h2
  have hset := left_set rev hB hl h1 h2 hq hg hm (at' := p)
  have hlen := (leftTo_ok (g := g) (p := p) rev hB hl h1 h2 hq).2.2
  rw [hL] at hset hlen
  obtain ⟨e1, e2, e3, e4, e5, e6⟩ := cs_answers hB hl h1 h2 (by omega) hset
  rw [gone_count hg] at e4 e5
  have hbad : ¬ spBad ((d : Nat) : Int) ((r : Nat) : Int) := by unfold spBad; omega
  obtain ⟨s1, s2⟩ := spErr_ok (b := b) (d := d) (r := r) (by omega) hbad (fun z hz => by have := hVs z hz; omega)
  refine ⟨e1, e4, e5, ?_, ?_, ?_⟩
  · unfold rvE
    rw [e2, e4, e5]
    by_cases h : r < g.length
    · rw [if_pos h, if_pos h, if_pos (by decide)]
    · rw [if_neg h, if_neg h, if_neg (by decide)]; exact s1
  · unfold rvL
    rw [e2, e4, e5]
    by_cases h : r < g.length
    · rw [if_pos h, if_pos h, if_pos (by decide), if_pos h]
    · rw [if_neg h, if_neg h, if_neg (by decide), if_neg h]; exact s2
  · unfold miL; rw [if_pos e1]; exact e6
theorem sizeLoss : (Try.prog.info? 75).map (·.size) = some 4 := by kernel_rfl
end Go.Proofs.Ytkclmfppjhmnjaa
