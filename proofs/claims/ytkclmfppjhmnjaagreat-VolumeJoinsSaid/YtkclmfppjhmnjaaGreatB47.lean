/- Plain: the set that some volumes of a byte string make, among others and in any order. -/
/- Slices of ints of the call's own. -/
/- The contract of volume.Missing. -/
/- The contract of volume.Repair. -/
/- The contract of the reference's set. -/
/- The contracts of the reference's Join, Repair, Missing, Few. -/
/- The contracts of the reference's Repair, Missing, Few. -/
import Derived.Test.YtkclmfppjhmnjaaGreatB41
import Derived.Test.YtkclmfppjhmnjaaGreatB42
import Derived.Test.YtkclmfppjhmnjaaGreatB07
import Derived.Test.YtkclmfppjhmnjaaGreatB36
import Derived.Test.YtkclmfppjhmnjaaGreatB39
import Derived.Test.YtkclmfppjhmnjaaGreatB40
import Derived.Test.YtkclmfppjhmnjaaGreatB21
import Derived.Test.YtkclmfppjhmnjaaGreatB45
import Derived.Test.YtkclmfppjhmnjaaGreatB19
import Derived.Test.YtkclmfppjhmnjaaGreatB13
import Derived.Deep.RegionHeld3
namespace Go.Proofs.YtkclmfppjhmnjaaGreat
open Go.RowKit Wire Vol Crc Alg

/-- The head of the volumes of some bytes. -/
def vhz (b : List Nat) (d r : Nat) : Hd := (crc 0 b, 0, d, r, b.length)
/-- An element that changes nothing: no volume, or one of other bytes, or one of those that are there. -/
def okEl (b : List Nat) (d r : Nat) (f : Nat → Bool) (x : List Nat) : Prop := hdErr x ≠ 0 ∨ (hdErr x = 0 ∧ hdz (hdOf x) ≠ vhz b d r) ∨ ∃ i, (volL b d r)[i]? = some x ∧ f i = false
theorem clStep_bad {s : Cs} {x : List Nat} (h : hdErr x ≠ 0) : clStep s x = s := by unfold clStep; rw [if_pos h]
theorem clStep_other {k : Hd} {P : List (List Nat)} {x : List Nat} (h : hdErr x = 0) (hk : hdz (hdOf x) ≠ k) : clStep (some k, P) x = (some k, P) := by
  unfold clStep
  rw [if_neg (by rw [h]; simp)]
  show (if hdz (hdOf x) = k ∧ P.getD (nix x) [] = [] then (some k, P.set (nix x) (hdP x)) else (some k, P)) = _
  rw [if_neg (fun e => hk e.1)]
theorem nums_of {x : List Nat} {s i d r n : Nat} (h : hdErr x = 0) (ho : hdOf x = (s, i, d, r, n)) : nix x = i ∧ ndt x = d ∧ nrc x = r := by
  rw [hd_nums h] at ho
  simp only [Prod.mk.injEq] at ho
  exact ⟨ho.2.1, ho.2.2.1, ho.2.2.2.1⟩
theorem clStep_first {x : List Nat} {s i d r n : Nat} (h : hdErr x = 0) (ho : hdOf x = (s, i, d, r, n)) : clStep (none, []) x = (some (s, 0, d, r, n), (List.replicate (d + r) []).set i (hdP x)) := by
  obtain ⟨h1, h2, h3⟩ := nums_of h ho
  unfold clStep
  rw [if_neg (by rw [h]; simp)]
  show (some (hdz (hdOf x)), (List.replicate (ndt x + nrc x) []).set (nix x) (hdP x)) = _
  rw [h1, h2, h3, ho]; rfl
theorem clStep_own {P : List (List Nat)} {x : List Nat} {s i d r n : Nat} (h : hdErr x = 0) (ho : hdOf x = (s, i, d, r, n)) : clStep (some (s, 0, d, r, n), P) x = if P.getD i [] = [] then (some (s, 0, d, r, n), P.set i (hdP x)) else (some (s, 0, d, r, n), P) := by
  obtain ⟨h1, h2, h3⟩ := nums_of h ho
  unfold clStep
  rw [if_neg (by rw [h]; simp)]
  show (if hdz (hdOf x) = (s, 0, d, r, n) ∧ P.getD (nix x) [] = [] then (some (s, 0, d, r, n), P.set (nix x) (hdP x)) else (some (s, 0, d, r, n), P)) = _
  rw [h1, ho]
  have : hdz (s, i, d, r, n) = (s, 0, d, r, n) := rfl
  simp only [this, true_and]

/-- What holds of the parts so far. -/
def CsP (b : List Nat) (d r : Nat) (f : Nat → Bool) (P : List (List Nat)) : Prop := P.length = d + r ∧ ∀ i, i < d + r → (f i = true → P.getD i [] = []) ∧ (P.getD i [] = [] ∨ P.getD i [] = (allM b d r).getD i [])
theorem cs_step {b : List Nat} {d r : Nat} {f : Nat → Bool} {P : List (List Nat)} {x : List Nat} (hB : Byt b) (hl : b.length ≤ 60) (h1 : 1 ≤ d) (h2 : d + r ≤ 64) (hP : CsP b d r f P) (hx : okEl b d r f x) :
    ∃ P', clStep (some (vhz b d r), P) x = (some (vhz b d r), P') ∧ CsP b d r f P' ∧ ∀ i, i < d + r → (P.getD i [] ≠ [] ∨ (volL b d r)[i]? = some x) → P'.getD i [] = (allM b d r).getD i [] := by
  have hkeep : ∀ i, i < d + r → P.getD i [] ≠ [] → P.getD i [] = (allM b d r).getD i [] := fun i hi hn => by
    rcases (hP.2 i hi).2 with h | h
    · exact absurd h hn
    · exact h
  rcases hx with hx | ⟨hx, hk⟩ | ⟨j, hj, hfj⟩
  · refine ⟨P, clStep_bad hx, hP, fun i hi hc => ?_⟩
    rcases hc with hc | hc
    · exact hkeep i hi hc
    · exact absurd (vol_at hB hl h1 h2 hc).2.1 hx
  · refine ⟨P, clStep_other hx hk, hP, fun i hi hc => ?_⟩
    rcases hc with hc | hc
    · exact hkeep i hi hc
    · exfalso
      apply hk
      rw [(vol_at hB hl h1 h2 hc).2.2.1]
      rfl
  · obtain ⟨q1, q2, q3, q4, q5, _⟩ := vol_at hB hl h1 h2 hj
    have hst := clStep_own (P := P) q2 q3
    have hsame : ∀ i, (volL b d r)[i]? = some x → i = j := fun i hi => by
      have := (vol_at hB hl h1 h2 hi).2.2.1
      rw [q3] at this
      simp only [Prod.mk.injEq] at this
      exact this.2.1.symm
    by_cases hp : P.getD j [] = []
    · rw [if_pos hp, q4] at hst
      have hg : ∀ i, (P.set j ((allM b d r).getD j [])).getD i [] = if i = j then (allM b d r).getD j [] else P.getD i [] := fun i => Go.Proofs.YtkclmfppjhmnjaaGreat.getD_set _ _ _ _ _ (by rw [hP.1]; exact q1)
      refine ⟨_, hst, ⟨by rw [List.length_set]; exact hP.1, fun i hi => ?_⟩, fun i hi hc => ?_⟩
      · rw [hg]
        by_cases hij : i = j
        · subst hij
          rw [if_pos rfl]
          exact ⟨fun h => by rw [hfj] at h; simp at h, Or.inr rfl⟩
        · rw [if_neg hij]; exact hP.2 i hi
      · rw [hg]
        by_cases hij : i = j
        · subst hij; rw [if_pos rfl]
        · rw [if_neg hij]
          rcases hc with hc | hc
          · exact hkeep i hi hc
          · exact absurd (hsame i hc) hij
    · rw [if_neg hp] at hst
      refine ⟨_, hst, hP, fun i hi hc => ?_⟩
      rcases hc with hc | hc
      · exact hkeep i hi hc
      · rw [hsame i hc]; exact hkeep j q1 hp
theorem cs_fold {b : List Nat} {d r : Nat} {f : Nat → Bool} (hB : Byt b) (hl : b.length ≤ 60) (h1 : 1 ≤ d) (h2 : d + r ≤ 64) (hA : ∀ i, i < d + r → (allM b d r).getD i [] ≠ []) (M : List (List Nat)) : ∀ P, CsP b d r f P → (∀ x ∈ M, okEl b d r f x) →
    ∃ P', M.foldl clStep (some (vhz b d r), P) = (some (vhz b d r), P') ∧ CsP b d r f P' ∧ ∀ i, i < d + r → (P.getD i [] ≠ [] ∨ ∃ x ∈ M, (volL b d r)[i]? = some x) → P'.getD i [] = (allM b d r).getD i [] := by
  induction M with
  | nil =>
    intro P hP _
    refine ⟨P, rfl, hP, fun i hi hc => ?_⟩
    rcases hc with hc | ⟨x, hx, _⟩
    · rcases (hP.2 i hi).2 with h | h
      · exact absurd h hc
      · exact h
    · simp at hx
  | cons x M ih =>
    intro P hP hok
    obtain ⟨P1, e1, c1, g1⟩ := cs_step hB hl h1 h2 hP (hok x (by simp))
    obtain ⟨P2, e2, c2, g2⟩ := ih P1 c1 (fun y hy => hok y (by simp [hy]))
    refine ⟨P2, by rw [List.foldl_cons, e1]; exact e2, c2, fun i hi hc => g2 i hi ?_⟩
    rcases hc with hc | ⟨y, hy, hyi⟩
    · left; rw [g1 i hi (Or.inl hc)]; exact hA i hi
    · rcases List.mem_cons.1 hy with h | h
      · left; rw [g1 i hi (Or.inr (by rw [← h]; exact hyi))]; exact hA i hi
      · exact Or.inr ⟨y, h, hyi⟩
theorem bad_fold (M : List (List Nat)) (s : Cs) (h : ∀ x ∈ M, hdErr x ≠ 0) : M.foldl clStep s = s := by
  induction M generalizing s with
  | nil => rfl
  | cons x M ih => rw [List.foldl_cons, clStep_bad (h x (by simp))]; exact ih s (fun y hy => h y (by simp [hy]))
/-- The set of a list. -/
theorem cl_set {b : List Nat} {d r : Nat} {f : Nat → Bool} (hB : Byt b) (hl : b.length ≤ 60) (h1 : 1 ≤ d) (h2 : d + r ≤ 64) {pre post : List (List Nat)} {x : List Nat} {j : Nat} (hpre : ∀ y ∈ pre, hdErr y ≠ 0) (hx : (volL b d r)[j]? = some x) (hfj : f j = false)
    (hok : ∀ y ∈ post, okEl b d r f y) (hall : ∀ i, i < d + r → f i = false → ∃ y ∈ x :: post, (volL b d r)[i]? = some y) :
    clAll (pre ++ x :: post) = (some (vhz b d r), loseTo [] (allM b d r) f (d + r)) := by
  obtain ⟨hAr, hAl⟩ := allM_rect hB (show b.length ≤ 65536 by omega) h1 h2
  have hA : ∀ i, i < d + r → (allM b d r).getD i [] ≠ [] := fun i hi e => by
    have h3 := (hAr.get (i := i) (by rw [hAl]; exact hi)).1
    rw [e] at h3
    have := szP_pos b.length d
    simp at h3; omega
  obtain ⟨q1, q2, q3, q4, _⟩ := vol_at hB hl h1 h2 hx
  have hst := clStep_first q2 q3
  rw [q4] at hst
  have hg : ∀ i, ((List.replicate (d + r) []).set j ((allM b d r).getD j [])).getD i [] = if i = j then (allM b d r).getD j [] else [] := fun i => by
    rw [Go.Proofs.YtkclmfppjhmnjaaGreat.getD_set _ _ _ _ _ (by rw [List.length_replicate]; exact q1), getD_replicate_nil]
  have hc0 : CsP b d r f ((List.replicate (d + r) []).set j ((allM b d r).getD j [])) := by
    refine ⟨by rw [List.length_set, List.length_replicate], fun i hi => ?_⟩
    rw [hg]
    by_cases hij : i = j
    · subst hij; rw [if_pos rfl]; exact ⟨fun h => by rw [hfj] at h; simp at h, Or.inr rfl⟩
    · rw [if_neg hij]; exact ⟨fun _ => rfl, Or.inl rfl⟩
  obtain ⟨P, e, c, g⟩ := cs_fold hB hl h1 h2 hA post _ hc0 hok
  have hcl : clAll (pre ++ x :: post) = (some (vhz b d r), P) := by
    unfold clAll clTo
    rw [List.take_length, List.foldl_append, bad_fold _ _ hpre, List.foldl_cons, hst]
    exact e
  rw [hcl]
  have hPe : P = loseTo [] (allM b d r) f (d + r) := by
    apply List.ext_getElem?
    intro i
    by_cases hi : i < d + r
    · rw [getD_some (d := []) (by rw [c.1]; exact hi), getD_some (d := []) (by rw [loseTo_length, hAl]; exact hi), loseTo_get _ _ _ _ _ (by rw [hAl]; exact hi)]
      congr 1
      by_cases hf : f i = true
      · rw [if_pos ⟨hi, hf⟩]; exact (c.2 i hi).1 hf
      · rw [if_neg (fun e => hf e.2)]
        have hf' : f i = false := by simpa using hf
        obtain ⟨y, hy, hyi⟩ := hall i hi hf'
        refine g i hi ?_
        rcases List.mem_cons.1 hy with h | h
        · left
          rw [h] at hyi
          have : i = j := by
            have := (vol_at hB hl h1 h2 hyi).2.2.1
            rw [q3] at this
            simp only [Prod.mk.injEq] at this
            exact this.2.1.symm
          subst this
          rw [hg, if_pos rfl]; exact hA i hi
        · exact Or.inr ⟨y, h, hyi⟩
    · rw [List.getElem?_eq_none (by rw [c.1]; omega), List.getElem?_eq_none (by rw [loseTo_length, hAl]; omega)]
  rw [hPe]

theorem ptM_flat (l : List Nat) (n k : Nat) : (ptM l n k).flatten = l.take (k * n) := by
  induction k with
  | zero => simp [ptM]
  | succ k ih =>
    rw [ptM_succ, List.flatten_append, ih]
    simp only [List.flatten_cons, List.flatten_nil, List.append_nil]
    rw [Nat.add_mul, Nat.one_mul, List.take_add]
theorem parts_join {b : List Nat} {d r : Nat} (hd : 1 ≤ d) : (((allM b d r).take d).flatten).take b.length = b := by
  unfold allM
  rw [List.take_left' (partsM_length b d)]
  unfold partsM
  rw [ptM_flat]
  have hm := szP_mul b.length hd
  rw [List.take_take, Nat.min_eq_left hm]
  unfold padB
  rw [List.take_left' rfl]

/-- What is missing. -/
def missL (P : List (List Nat)) : List Nat := (List.range P.length).filter fun i => decide (P.getD i [] = [])
/-- Whatever is lost: what Join, Repair and Missing answer. -/
theorem cs_answers {b : List Nat} {d r : Nat} {f : Nat → Bool} {L : List (List Nat)} (hB : Byt b) (hl : b.length ≤ 60) (h1 : 1 ≤ d) (h2 : d + r ≤ 64) (hL : L.length ≤ 128) (h : clAll L = (some (vhz b d r), loseTo [] (allM b d r) f (d + r))) :
    clErr L = 0 ∧ clHd L = vhz b d r ∧ clP L = loseTo [] (allM b d r) f (d + r) ∧ jE L = (if r < lostN f (d + r) then 26 else 0) ∧ jB L = (if r < lostN f (d + r) then [] else b) ∧ missL (clP L) = (List.range (d + r)).filter f := by
  obtain ⟨hAr, hAl⟩ := allM_rect hB (show b.length ≤ 65536 by omega) h1 h2
  have e1 : clErr L = 0 := by unfold clErr; rw [if_neg (by omega), h, if_neg (by simp)]
  have e2 : clHd L = vhz b d r := by unfold clHd; rw [if_pos e1, h]; rfl
  have e3 : clP L = loseTo [] (allM b d r) f (d + r) := by unfold clP; rw [h]
  obtain ⟨_, k2, k3⟩ := lose_ok (partsM_rect hB h1) (partsM_length b d) h1 h2 (szP_pos _ _) (szP_le (by omega) h1) f
  rw [← allM_set hB (by omega) h1 h2] at k2 k3
  have e4 : jnErr (vhz b d r) (loseTo [] (allM b d r) f (d + r)) = if r < lostN f (d + r) then 26 else 0 := by
    unfold jnErr jnAll vhz
    dsimp only
    rw [k2, k3]
    by_cases hlt : r < lostN f (d + r)
    · rw [if_pos hlt]; rfl
    · rw [if_neg hlt, if_neg hlt, if_neg (by simp), parts_join h1, if_neg (by simp)]
  refine ⟨e1, e2, e3, ?_, ?_, ?_⟩
  · unfold jE; rw [e1, if_neg (by simp), e2, e3]; exact e4
  · unfold jB; rw [e1, if_neg (by simp), e2, e3]
    unfold jnB
    rw [e4]
    by_cases hlt : r < lostN f (d + r)
    · rw [if_pos hlt, if_pos hlt, if_neg (by decide)]
    · rw [if_neg hlt, if_neg hlt, if_pos rfl]
      unfold jnAll vhz
      dsimp only
      rw [k3, if_neg hlt, parts_join h1]
  · rw [e3]
    unfold missL
    rw [loseTo_length, hAl]
    apply List.filter_congr
    intro i hi
    have hi' := List.mem_range.1 hi
    rw [loseTo_get _ _ _ _ _ (by rw [hAl]; exact hi')]
    have h3 := (hAr.get (i := i) (by rw [hAl]; exact hi')).1
    have := szP_pos b.length d
    cases hf : f i with
    | true => rw [if_pos ⟨hi', rfl⟩]; simp
    | false =>
      rw [if_neg (by simp)]
      rw [decide_eq_false]
      intro e; rw [e] at h3; simp at h3; omega
end Go.Proofs.YtkclmfppjhmnjaaGreat

namespace Go.Proofs.YtkclmfppjhmnjaaGreat
open Go.RowKit Wire

theorem infoIntV : (Tryz.prog.info? 3).map (fun i => (i.zero, i.size, i.bytes)) = some (some (.int .i64 0), 1, 8) := by kernel_rfl
/-- An int as a value. -/
def iv (n : Nat) : Value := .int .i64 n
/-- A slice of ints that owns its block. -/
def IO (w : World) (B : Nat) (v : Value) (l : List Nat) : Prop := w.ownsRow B 3 1 v l.length (l.map iv)
theorem IO.nil (w : World) (B : Nat) : IO w B (.slice none 0 0) [] := ⟨by simp, .inl ⟨rfl, rfl⟩⟩
theorem IO.new {w w' : World} {B : Nat} {v : Value} {l : List Nat} (h : IO w B v l) (k : Below w.heap.size w w') : IO w' B v l :=
  World.ownsRow.kept h (row := none) ⟨k.os, k.tape, k.output, k.size, fun i hi _ => k.block i hi⟩ (by cases v.ownBlock <;> simp)
theorem IO.base {w : World} {B B' : Nat} {v : Value} {l : List Nat} (h : IO w B v l) (hB : B' ≤ B) : IO w B' v l := by
  refine ⟨h.1, ?_⟩
  rcases h.2 with h | ⟨g, cap, cur, hv, hb, rest⟩
  · exact .inl h
  · exact .inr ⟨g, cap, cur, hv, by omega, rest⟩
theorem IO.form {w : World} {B : Nat} {v : Value} {l : List Nat} (h : IO w B v l) : ∃ a cap, v = .slice a l.length cap := by
  rcases h.2 with ⟨rfl, h0⟩ | ⟨g, cap, cur, hv, _⟩
  · exact ⟨none, 0, by rw [h0]⟩
  · exact ⟨_, _, hv⟩
/-- Either nothing, or a block of its own. -/
theorem IO.cases {w : World} {B : Nat} {v : Value} {l : List Nat} (h : IO w B v l) : (v = .slice none 0 0 ∧ l = []) ∨ ∃ g cap, v = .slice (some ⟨g, 0, none⟩) l.length cap ∧ B ≤ g ∧ l.length ≤ cap ∧ Blk w g 3 (l.map iv) := by
  have h' := h
  rcases h.2 with ⟨rfl, h0⟩ | ⟨g, cap, cur, rfl, hb, hg, hn, hc, hs, ht⟩
  · exact .inl ⟨rfl, List.eq_nil_of_length_eq_zero h0⟩
  · exact .inr ⟨g, cap, rfl, hb, hn, Blk.of_owns h'⟩
/-- As whole numbers. -/
def ci (l : List Nat) : List Int := l.map fun n : Nat => (n : Int)
theorem ci_length (l : List Nat) : (ci l).length = l.length := by simp [ci]
theorem iv_cells {w : World} {g : Nat} {l : List Nat} (h : Blk w g 3 (l.map iv)) : ∀ j, j < (ci l).length → w.cell? ⟨g, 0 + j, none⟩ = some (.int .i64 ((ci l).getD j 0)) := by
  intro j hj
  rw [ci_length] at hj
  rw [Nat.zero_add]
  refine h.cell ?_
  unfold ci
  rw [List.getElem?_map, List.getD_eq_getElem?_getD, List.getElem?_map, List.getElem?_eq_getElem hj]
  rfl
/-- An int has been appended. -/
theorem IO.snoc {w w' : World} {B n : Nat} {v v' : Value} {l : List Nat} {o : Obj} (hB : B ≤ w.heap.size) (h : IO w B v l) (hown : w'.ownsRow B 3 1 v' (l.length + 1) (l.map iv ++ [iv n])) (hgr : (w.alloc o).grownBy w' v.ownBlock) :
    IO w' B v' (l ++ [n]) ∧ Below B w w' := by
  refine ⟨?_, (((Below.refl B w).alloc hB o).grown hgr (by simp; omega) (fun q hq => (owns_block h hq).2.1))⟩
  unfold IO
  rw [List.length_append, List.length_singleton, List.map_append]
  exact hown
end Go.Proofs.YtkclmfppjhmnjaaGreat

namespace Go.Proofs.YtkclmfppjhmnjaaGreat
open Go.RowKit Wire Vol Crc Go.Maps

def missTo (P : List (List Nat)) (k : Nat) : List Nat := (List.range k).filter fun i => decide (P.getD i [] = [])
theorem missTo_all (P : List (List Nat)) : missTo P P.length = missL P := rfl
theorem missTo_yes {P : List (List Nat)} {k : Nat} (h : P.getD k [] = []) : missTo P (k + 1) = missTo P k ++ [k] := by
  unfold missTo; rw [List.range_succ, List.filter_append, List.filter_cons_of_pos (by exact decide_eq_true h), List.filter_nil]
theorem missTo_no {P : List (List Nat)} {k : Nat} (h : P.getD k [] ≠ []) : missTo P (k + 1) = missTo P k := by
  unfold missTo; rw [List.range_succ, List.filter_append, List.filter_cons_of_neg (by simpa using h), List.filter_nil, List.append_nil]
theorem missTo_len (P : List (List Nat)) (k : Nat) : (missTo P k).length ≤ k := by
  unfold missTo
  have := List.length_filter_le (fun i => decide (P.getD i [] = [])) (List.range k)
  rw [List.length_range] at this
  exact this
/-- What Missing answers. -/
def miL (L : List (List Nat)) : List Nat := if clErr L = 0 then missL (clP L) else []
def MiRet (l : List Nat) (er : Nat) (w : World) (e : Ending) (w' : World) : Prop := ∃ v, e = .returned (.tuple #[v, .int .i64 er]) ∧ IO w' w.heap.size v l ∧ Below w.heap.size w w'

set_option maxRecDepth 100000 in
set_option maxHeartbeats 4000000 in
theorem vMissing_any (v : Value) (L : List (List Nat)) (w : World) (hm : Mx w v L) (hBy : BytM L) (hLl : L.length ≤ 1000000000) (hl : ∀ b ∈ L, b.length ≤ 100000000) : Calls Tryz.prog 10 #[v] w (MiRet (miL L) (clErr L) w) := by
  obtain ⟨i0, hi, hz0, hz1, hz2⟩ := info_parts infoIntV
  have HC := Lib.hid (vcollect_any v L w hm hBy hLl hl)
  have HBy := Lib.hid hBy
  obtain ⟨a, cap, rfl, hcap, _⟩ := hm
  clear hBy hl
  go_enter Tryz.func10, Tryz.ntmps10
  go_wp2_with fail
  refine HC.out.mono ?_
  rintro e w1 ⟨mo, rfl, hS, hB1⟩
  obtain ⟨h, hh⟩ : ∃ h, clHd L = h := ⟨_, rfl⟩
  obtain ⟨P, hP⟩ : ∃ P, clP L = P := ⟨_, rfl⟩
  have hOk : clErr L = 0 → SetOk h P := fun hE => by rw [← hh, ← hP]; exact (setOk_cl HBy.out hE).1
  have HmL := Lib.hid (show miL L = if clErr L = 0 then missL P else [] by unfold miL; rw [hP])
  rw [hP] at hS
  rw [hh]
  obtain ⟨er, her⟩ : ∃ er, clErr L = er := ⟨_, rfl⟩
  rw [her] at hS HmL hOk ⊢
  have HEr := Lib.hid her
  have HB1 := Lib.hid hB1
  have HS := Lib.hid hS
  have HOk := Lib.hid hOk
  clear hS hOk hB1 HC hh hP her
  by_cases hE : er = 0
  · subst hE
    obtain ⟨bm, n, D, vs, rfl, hown, hM, hV⟩ := HS.out rfl
    have hal := al w1 (.cells (stL h (.map (some bm))).toArray 53)
    have HO := Lib.hid (hown.alloc (.cells (stL h (.map (some bm))).toArray 53))
    have HV := Lib.hid (hV.new hal)
    have hPl := (HOk.out rfl).len
    have hP64 : P.length ≤ 64 := by have := (HOk.out rfl).dr; omega
    have HJ := Lib.hid (vall_any h bm n D vs P _ HO.out hM HV.out hPl (by omega))
    have HB2 := Lib.hid (HB1.out.trans (hal.mono HB1.out.size))
    obtain ⟨a1, a2, a3, a4, a5⟩ := h
    unfold stV stL hdL at *
    clear hal hown hM hV HS hPl HOk
    go_wp2_with fail
    refine HJ.out.mono ?_
    rintro e w2 ⟨v2, rfl, hX, hB3⟩
    have HX := Lib.hid hX
    obtain ⟨va, vc, rfl, hvc, h2⟩ := hX
    have HB3 := Lib.hid (HB2.out.trans (hB3.mono HB2.out.size))
    clear hB3 HJ HB2 h2
    go_wp2_with fail
    go_loopg [20, 6] P.length (fun gk i o wr => ∃ k : Nat, k + gk = P.length ∧ i = .int .i64 k ∧ Hid (IO wr w2.heap.size o (missTo P k)) ∧ Hid (Below w2.heap.size w2 wr))
    case atStart => exact ⟨0, by omega, rfl, IO.nil _ _, Below.refl _ _⟩
    case round =>
      obtain ⟨k, hgk, rfl, hI, hB⟩ := hrel
      have Hgk := Lib.hid hgk
      have hk : k ≤ P.length := by omega
      clear hgk
      by_cases hlt : k < P.length
      · have hkr := getD_some (l := P) (d := []) hlt
        obtain ⟨b, o, A, C, rfl, hA⟩ : ∃ b o A C, va = some ⟨b, o, none⟩ ∧ MxAt w2 b o P A C := by
          obtain ⟨va', vc', hv, _, h2⟩ := HX.out
          simp only [Value.slice.injEq] at hv
          obtain ⟨rfl, _, _⟩ := hv
          rcases h2 with h | h
          · rw [h] at hlt; simp at hlt
          · exact h
        obtain ⟨x1, _, _, _⟩ := hA.new hB.out k _ hkr
        have hs := hB.out.size
        obtain ⟨oa, oc, rfl⟩ := hI.out.form
        have hml := missTo_len P k
        have i1 : (0 : Int) ≤ (k : Int) := by omega
        have i2 : (k : Int) < (P.length : Int) := by omega
        clear hA hkr
        by_cases h0 : P.getD k [] = []
        · have Hst := Lib.hid (missTo_yes h0)
          have t1 : (((P.getD k []).length : Int) == 0) = true := by rw [h0]; rfl
          generalize missTo P k = M at *
          generalize P.getD k [] = R at *
          clear h0
          go_wp2_with (at_builtin; refine wpList_append_own _ rfl _ _ 35 rfl w2.heap.size 3 i0 (.int .i64 0) 1 8 Tryz.underlying35 hi hz0 hz1 hz2 rfl (by decide) _ _ _ rfl (show (wr.alloc _).ownsRow w2.heap.size 3 1 _ M.length (M.map iv) from (show wr.ownsRow w2.heap.size 3 1 _ M.length (M.map iv) from hI.out).alloc _) ⟨wr.heap.size, 0, none⟩ 1 1 [iv k] rfl rfl ?c1 ?c2 ?c3 ?c4 ?c5 ?_)
          case c1 => exact cell_one_new _ _ _
          case c2 => intro u hu; simp at hu; subst hu; rfl
          case c3 => unfold maxLen; omega
          case c4 => omega
          case c5 => simp; omega
          intro v' w5 hown hgr _
          obtain ⟨q1, q2⟩ := hI.out.snoc hs hown hgr
          rw [← Hst.out] at q1
          have HI := Lib.hid q1
          have HB5 := Lib.hid (hB.out.trans q2)
          clear hown hgr q1 q2
          go_wp2_with fail
          go_roundg (P.length - k - 1)
          case measure => have := Hgk.out; omega
          case rel => exact ⟨k + 1, by have := Hgk.out; omega, by go_num, HI.out, HB5.out⟩
        · have Hst := Lib.hid (missTo_no h0)
          have t1 : (((P.getD k []).length : Int) == 0) = false := by
            rw [beq_eq_false_iff_ne]
            intro e; apply h0
            exact List.eq_nil_of_length_eq_zero (by omega)
          have HI : Hid (IO wr w2.heap.size (.slice oa (missTo P k).length oc) (missTo P (k + 1))) := by rw [Hst.out]; exact hI
          generalize missTo P k = M at *
          generalize P.getD k [] = R at *
          clear h0 hI
          go_wp2_with fail
          go_roundg (P.length - k - 1)
          case measure => have := Hgk.out; omega
          case rel => exact ⟨k + 1, by have := Hgk.out; omega, by go_num, HI.out, hB.out⟩
      · obtain rfl : k = P.length := by omega
        rw [missTo_all] at hI
        have HE := Lib.hid (HB3.out.trans (hB.out.mono HB3.out.size))
        have HF := Lib.hid (hI.out.base HB3.out.size)
        clear hB hI
        go_wp2_with fail
        go_ret2
        exact ⟨_, by rw [HEr.out]; rfl, by rw [HmL.out]; exact HF.out, HE.out⟩
  · have t1 : ((er : Int) != 0) = true := by rw [bne_iff_ne]; omega
    obtain ⟨a1, a2, a3, a4, a5⟩ := h
    have HE := Lib.hid hE
    clear hE
    unfold stV stL hdL
    have HB2 := Lib.hid (HB1.out.alloc HB1.out.size (.cells #[.int .u32 a1, .int .i64 a2, .int .i64 a3, .int .i64 a4, .int .i64 a5, .map mo] 53))
    go_wp2_with fail
    go_ret2
    exact ⟨_, by rw [HEr.out]; rfl, by rw [HmL.out, if_neg HE.out]; exact IO.nil _ _, HB2.out⟩
end Go.Proofs.YtkclmfppjhmnjaaGreat

namespace Go.Proofs.YtkclmfppjhmnjaaGreat
open Go.RowKit Wire Vol Crc Go.Maps

/-- What Repair answers. -/
def rvE (L : List (List Nat)) : Nat := if jE L ≠ 0 then jE L else spErr (jB L) ((clHd L).2.2.1 : Nat) ((clHd L).2.2.2.1 : Nat)
def rvL (L : List (List Nat)) : List (List Nat) := if jE L ≠ 0 then [] else spL (jB L) ((clHd L).2.2.1 : Nat) ((clHd L).2.2.2.1 : Nat)
theorem jB_ok {h : Hd} {P : List (List Nat)} (k : SetOk h P) : Byt (jnB h P) ∧ (jnB h P).length ≤ 65536 := by
  unfold jnB
  split
  · rename_i he
    have h0 : repErr P (h.2.2.1 : Nat) = 0 := by
      unfold jnErr at he
      split at he
      · rename_i h1; exact absurd he h1
      · rename_i h1; simpa using h1
    obtain ⟨_, _, _, _, _, _, h7, h8⟩ := k.join h0
    exact ⟨h8, by rw [h7]; exact k.ln⟩
  · exact ⟨fun x hx => by simp at hx, by simp⟩

set_option maxRecDepth 100000 in
set_option maxHeartbeats 4000000 in
theorem vRepair_any (v : Value) (L : List (List Nat)) (w : World) (hm : Mx w v L) (hBy : BytM L) (hLl : L.length ≤ 1000000000) (hl : ∀ b ∈ L, b.length ≤ 100000000) : Calls Tryz.prog 8 #[v] w (RowsErr (rvL L) (rvE L) w) := by
  have HC := Lib.hid (vcollect_any v L w hm hBy hLl hl)
  have HBy := Lib.hid hBy
  obtain ⟨a, cap, rfl, hcap, _⟩ := hm
  clear hBy hl
  go_enter Tryz.func8, Tryz.ntmps8
  go_wp2_with fail
  refine HC.out.mono ?_
  rintro e w1 ⟨mo, rfl, hS, hB1⟩
  obtain ⟨h, hh⟩ : ∃ h, clHd L = h := ⟨_, rfl⟩
  obtain ⟨P, hP⟩ : ∃ P, clP L = P := ⟨_, rfl⟩
  have hOk : clErr L = 0 → SetOk h P := fun hE => by rw [← hh, ← hP]; exact (setOk_cl HBy.out hE).1
  have HjE := Lib.hid (show jE L = if clErr L ≠ 0 then clErr L else jnErr h P by unfold jE; rw [hh, hP])
  have HjB := Lib.hid (show jB L = if clErr L ≠ 0 then [] else jnB h P by unfold jB; rw [hh, hP])
  have HvE := Lib.hid (show rvE L = if jE L ≠ 0 then jE L else spErr (jB L) (h.2.2.1 : Nat) (h.2.2.2.1 : Nat) by unfold rvE; rw [hh])
  have HvL := Lib.hid (show rvL L = if jE L ≠ 0 then [] else spL (jB L) (h.2.2.1 : Nat) (h.2.2.2.1 : Nat) by unfold rvL; rw [hh])
  rw [hP] at hS
  rw [hh]
  obtain ⟨er, her⟩ : ∃ er, clErr L = er := ⟨_, rfl⟩
  rw [her] at hS HjE HjB hOk ⊢
  have HB1 := Lib.hid hB1
  have HS := Lib.hid hS
  have HOk := Lib.hid hOk
  clear hS hOk hB1 HC hh hP her
  by_cases hE : er = 0
  · subst hE
    obtain ⟨bm, n, D, vs, rfl, hown, hM, hV⟩ := HS.out rfl
    have hal := al w1 (.cells (stL h (.map (some bm))).toArray 53)
    have hN : Blk (w1.alloc (.cells (stL h (.map (some bm))).toArray 53)) w1.heap.size 53 (stL h (.map (some bm))) := Blk.new w1 53 _
    have HO := Lib.hid (hown.alloc (.cells (stL h (.map (some bm))).toArray 53))
    have HV := Lib.hid (hV.new hal)
    have hok := HOk.out rfl
    have HJ := Lib.hid (vjoin_any h bm n D vs P _ HO.out hM HV.out hok)
    have HB2 := Lib.hid (HB1.out.trans (hal.mono HB1.out.size))
    have HJo := Lib.hid (jB_ok hok)
    have hdr := hok.dr
    have hjE : jE L = jnErr h P := by rw [HjE.out]; exact if_neg (by simp)
    have hjB : jB L = jnB h P := by rw [HjB.out]; exact if_neg (by simp)
    rw [hjE, hjB] at HvE HvL
    obtain ⟨a1, a2, a3, a4, a5⟩ := h
    dsimp only at hdr HvE HvL
    have c2 := hN.cell (i := 2) rfl
    have c3 := hN.cell (i := 3) rfl
    have hz := hN.lt
    clear hal hown hM hV HS hjE hjB HjE HjB hN hok HO HV
    generalize hW2 : w1.alloc (.cells (stL (a1, a2, a3, a4, a5) (.map (some bm))).toArray 53) = W2 at *
    have HW2 := Lib.hid (show w1.alloc (.cells #[.int .u32 a1, .int .i64 a2, .int .i64 a3, .int .i64 a4, .int .i64 a5, .map (some bm)] 53) = W2 from hW2)
    clear hW2
    unfold stV stL hdL at *
    go_wp2_with fail
    rw [HW2.out]
    refine HJ.out.mono ?_
    rintro e w2 ⟨v2, rfl, hS2, hB3⟩
    have HS2 := Lib.hid hS2
    have d2 := cell_nw hB3 c2 hz
    have d3 := cell_nw hB3 c3 hz
    have HB3 := Lib.hid (HB2.out.trans (hB3.mono HB2.out.size))
    obtain ⟨je, hje⟩ : ∃ je, jnErr (a1, a2, a3, a4, a5) P = je := ⟨_, rfl⟩
    obtain ⟨J, hJ⟩ : ∃ J, jnB (a1, a2, a3, a4, a5) P = J := ⟨_, rfl⟩
    rw [hje] at HvE HvL ⊢
    rw [hJ] at HvE HvL HJo HS2
    obtain ⟨v2a, v2c, rfl, _⟩ := hS2
    clear hB3 c2 c3 HJ hje hJ HB2
    by_cases hj : je = 0
    · subst hj
      have HE := Lib.hid (show rvE L = spErr J (a3 : Nat) (a4 : Nat) by rw [HvE.out]; exact if_neg (by simp))
      have HL := Lib.hid (show rvL L = spL J (a3 : Nat) (a4 : Nat) by rw [HvL.out]; exact if_neg (by simp))
      clear HvE HvL
      go_wp2_with fail
      refine (vSplit_any _ J (a3 : Nat) (a4 : Nat) _ HS2.out HJo.out.1 (by have := HJo.out.2; omega) (by omega) (by omega) (by omega) (by omega)).mono ?_
      rintro e w4 ⟨v4, hd4, rfl, hG, hB4⟩
      have HG := Lib.hid (hG.mono HB3.out.size)
      have HB4 := Lib.hid (HB3.out.trans (hB4.mono HB3.out.size))
      clear hG hB4
      go_wp2_with fail
      go_ret2
      exact ⟨_, hd4, by rw [HE.out]; rfl, by rw [HL.out]; exact HG.out, HB4.out⟩
    · have t1 : ((je : Int) != 0) = true := by rw [bne_iff_ne]; omega
      have HE := Lib.hid (show rvE L = je by rw [HvE.out]; exact if_pos hj)
      have HL := Lib.hid (show rvL L = [] by rw [HvL.out]; exact if_pos hj)
      clear HvE HvL hj
      go_wp2_with fail
      go_ret2
      exact ⟨_, [], by rw [HE.out]; rfl, by rw [HL.out]; exact GM.nil _ _, HB3.out⟩
  · have t1 : ((er : Int) != 0) = true := by rw [bne_iff_ne]; omega
    obtain ⟨a1, a2, a3, a4, a5⟩ := h
    have hjE : jE L = er := by rw [HjE.out]; exact if_pos hE
    have HE := Lib.hid (show rvE L = er by rw [HvE.out, hjE]; exact if_pos hE)
    have HL := Lib.hid (show rvL L = [] by rw [HvL.out, hjE]; exact if_pos hE)
    clear hE HvE HvL hjE HjE HjB
    unfold stV stL hdL
    have HB2 := Lib.hid (HB1.out.alloc HB1.out.size (.cells #[.int .u32 a1, .int .i64 a2, .int .i64 a3, .int .i64 a4, .int .i64 a5, .map mo] 53))
    go_wp2_with fail
    go_ret2
    exact ⟨_, [], by rw [HE.out]; rfl, by rw [HL.out]; exact GM.nil _ _, HB2.out⟩
end Go.Proofs.YtkclmfppjhmnjaaGreat

namespace Go.Proofs.YtkclmfppjhmnjaaGreat
open Go.RowKit Wire Vol Crc

theorem eqnilM (w : World) (a : Option Addr) (l c : Nat) : (binOp .eql 22 (.slice a l c) (.slice none 0 0)).run Tryz.prog w = .ok (.bool a.isNone) w := Lib.run_eql_slice_nil (P := Tryz.prog) w 22 25 a l c 0 0 Tryz.underlying22
/-- A header that says nothing, or of a row in a block of bytes. -/
def HdN (w : World) (x : Value) (r : List Nat) : Prop := (x = .slice none 0 0 ∧ r = []) ∨ ∃ g c, x = .slice (some ⟨g, 0, none⟩) r.length c ∧ r.length ≤ c ∧ Blk w g 5 (r.map bv)
theorem HdN.hd {w : World} {x : Value} {r : List Nat} (h : HdN w x r) : HdOk w x r := by
  rcases h with ⟨rfl, rfl⟩ | ⟨g, c, hx, hc, hb⟩
  · exact HdOk.nil w
  · exact ⟨_, c, hx, hc, Or.inr ⟨g, 0, rfl, hb.row⟩, by simp⟩
theorem HdN.kept {S : Nat → Prop} {w w' : World} {x : Value} {r : List Nat} (h : HdN w x r) (k : Kept S w w') (hS : ∀ g xs, Blk w g 5 xs → ¬ S g) : HdN w' x r := by
  rcases h with h | ⟨g, c, hx, hc, hb⟩
  · exact Or.inl h
  · exact Or.inr ⟨g, c, hx, hc, hb.kept k (hS g _ hb)⟩
def HdsN (w : World) (vs : List Value) (m : List (List Nat)) : Prop := vs.length = m.length ∧ ∀ (i : Nat) (x : Value) (r : List Nat), vs[i]? = some x → m[i]? = some r → HdN w x r
theorem HdsN.hds {w : World} {vs : List Value} {m : List (List Nat)} (h : HdsN w vs m) : HdsOk w vs m := ⟨h.1, fun i x r hx hr => (h.2 i x r hx hr).hd⟩
theorem HdsN.kept {S : Nat → Prop} {w w' : World} {vs : List Value} {m : List (List Nat)} (h : HdsN w vs m) (k : Kept S w w') (hS : ∀ g xs, Blk w g 5 xs → ¬ S g) : HdsN w' vs m := ⟨h.1, fun i x r hx hr => (h.2 i x r hx hr).kept k hS⟩
theorem HdsN.new {w w' : World} {vs : List Value} {m : List (List Nat)} (h : HdsN w vs m) (k : Below w.heap.size w w') : HdsN w' vs m := h.kept (S := fun _ => False) (.of_new k) fun _ _ _ => id
theorem HdsN.nils (w : World) (n : Nat) : HdsN w (List.replicate n (.slice none 0 0)) (List.replicate n []) := by
  refine ⟨by simp, fun i x r hx hr => ?_⟩
  rw [List.getElem?_replicate] at hx hr
  split at hx
  · rename_i h
    rw [if_pos h] at hr
    simp only [Option.some.injEq] at hx hr
    exact Or.inl ⟨hx.symm, hr.symm⟩
  · cases hx
theorem HdsN.set {w : World} {vs : List Value} {m : List (List Nat)} (h : HdsN w vs m) {i : Nat} {x : Value} {r : List Nat} (hx : HdN w x r) : HdsN w (vs.set i x) (m.set i r) := by
  refine ⟨by simp [h.1], fun j y s hy hs => ?_⟩
  by_cases hj : i = j
  · subst hj
    have hi : i < vs.length := by have := (List.getElem?_eq_some_iff.1 hy).1; simpa using this
    rw [List.getElem?_set_self hi] at hy
    rw [List.getElem?_set_self (by rw [← h.1]; exact hi)] at hs
    simp only [Option.some.injEq] at hy hs
    subst hy; subst hs; exact hx
  · rw [List.getElem?_set_ne hj] at hy
    rw [List.getElem?_set_ne hj] at hs
    exact h.2 j y s hy hs
theorem BO.hdN {w : World} {B : Nat} {v : Value} {l : List Nat} (h : BO w B v l) (h0 : l ≠ []) : HdN w v l := by
  obtain ⟨g, c, hv, _, hc, hb⟩ := h.row h0
  exact Or.inr ⟨g, c, hv, hc, hb⟩
/-- How the parts so far lie. -/
def PR (w : World) (B : Nat) (o : Value) (us : List Value) (s : Cs) (h : Hd) : Prop :=
  (s.1 = none → o = .slice none 0 0 ∧ h = hd0) ∧ ∀ k, s.1 = some k → h = k ∧ ∃ g cap, o = .slice (some ⟨g, 0, none⟩) s.2.length cap ∧ s.2.length ≤ cap ∧ B ≤ g ∧ Blk w g 25 us ∧ HdsN w us s.2
theorem PR.new {w w' : World} {B : Nat} {o : Value} {us : List Value} {s : Cs} {h : Hd} (p : PR w B o us s h) (k : Below w.heap.size w w') : PR w' B o us s h :=
  ⟨p.1, fun k' hk => by
    obtain ⟨h1, g, cap, h2, h3, h4, h5, h6⟩ := p.2 k' hk
    exact ⟨h1, g, cap, h2, h3, h4, h5.below k h5.lt, h6.new k⟩⟩
theorem mx_nil (w : World) : Mx w (.slice none 0 0) [] := ⟨none, 0, rfl, Nat.le_refl _, Or.inl rfl⟩
theorem HdN.form {w : World} {x : Value} {r : List Nat} (h : HdN w x r) : ∃ a c, x = .slice a r.length c := by
  obtain ⟨a, c, hx, _⟩ := h.hd
  exact ⟨a, c, hx⟩
theorem clStep_none {s : Cs} (hs : s.1 = none) {b : List Nat} (he : hdErr b = 0) : clStep s b = (some (hdz (hdOf b)), (List.replicate (ndt b + nrc b) []).set (nix b) (hdP b)) := by
  unfold clStep
  rw [if_neg (by rw [he]; simp), hs]
theorem clStep_put {s : Cs} {k : Hd} (hs : s.1 = some k) {b : List Nat} (he : hdErr b = 0) (h1 : hdz (hdOf b) = k) (h2 : s.2.getD (nix b) [] = []) : clStep s b = (some k, s.2.set (nix b) (hdP b)) := by
  unfold clStep
  rw [if_neg (by rw [he]; simp), hs]
  dsimp only
  rw [if_pos ⟨h1, h2⟩]
theorem cs_ix {s : Cs} (hok : CsOk s) {k : Hd} (hs : s.1 = some k) {b : List Nat} (he : hdErr b = 0) (h1 : hdz (hdOf b) = k) : nix b < s.2.length := by
  obtain ⟨_, ⟨_, _, _, p4, _⟩, _⟩ := hd_len he
  rw [(hok.2 k hs).2.1, ← h1]
  unfold hdz
  rw [hd_nums he]
  exact p4
theorem keptV {w : World} {b : Nat} {xs : List Value} (h : Blk w b 46 xs) : ∀ g ys, Blk w g 5 ys → ¬ g = b := fun g ys hg e => by
  rw [e] at hg
  exact absurd (hg.type h) (by decide)
theorem keptM {w : World} {b : Nat} {xs : List Value} (h : Blk w b 25 xs) : ∀ g ys, Blk w g 5 ys → ¬ g = b := fun g ys hg e => by
  rw [e] at hg
  exact absurd (hg.type h) (by decide)
/-- What the reference's set answers. -/
def rsP (L : List (List Nat)) : List (List Nat) := if clErr L = 0 then clP L else []
def RsRet (L : List (List Nat)) (w : World) (e : Ending) (w' : World) : Prop := ∃ vp, e = .returned (.tuple #[hdV (clHd L), vp, .int .i64 (clErr L)]) ∧ Mx w' vp (rsP L) ∧ Below w.heap.size w w'

set_option maxRecDepth 100000 in
set_option maxHeartbeats 8000000 in
theorem r5set_any (v : Value) (L : List (List Nat)) (w : World) (hm : Mx w v L) (hBy : BytM L) (_hLl : L.length ≤ 1000000000) (hl : ∀ b ∈ L, b.length ≤ 100000000) : Calls Tryz.prog 21 #[v] w (RsRet L w) := by
  have hmm := eqnilM
  have Hm := Lib.hid hm
  have HBy := Lib.hid hBy
  have Hll := Lib.hid hl
  obtain ⟨a, cap, rfl, hcap, _⟩ := hm
  have hB0 := al w (.cells #[.int .u32 0, .int .i64 0, .int .i64 0, .int .i64 0, .int .i64 0] 46)
  have hb0 : Blk (w.alloc (.cells #[.int .u32 0, .int .i64 0, .int .i64 0, .int .i64 0, .int .i64 0] 46)) w.heap.size 46 (hdL hd0) := Blk.new w 46 (hdL hd0).toArray
  by_cases h128 : 128 < L.length
  · have HE := Lib.hid (show clErr L = 6 by unfold clErr; rw [if_pos h128])
    have HH := Lib.hid (show clHd L = hd0 by unfold clHd; rw [HE.out]; rfl)
    have HP := Lib.hid (show rsP L = [] by unfold rsP; rw [HE.out]; rfl)
    have t1 : decide ((128 : Int) < (L.length : Int)) = true := by simp; omega
    have HZ := Lib.hid (hd_end hb0 rfl hB0 (Nat.le_refl _) hd0)
    clear hb0 hB0 h128 hBy hl Hm
    go_enter Tryz.func21, Tryz.ntmps21
    go_wp2_with ((with_reducible show wpList _ _ _ (Oper.mk _ (Op.store _ _ _) _ _ _ _ :: _) _ _); refine wpList_store_mid rfl 46 (.tmp 2) (.tmp 15) rfl w.heap.size 0 (hdL hd0).toArray rfl rfl HZ.out.1 sizeVol (hd_one _) ?_)
    (try simp only [Exit.inBlock, Exit.then])
    refine bodyPost_ret (results_hd rfl _ _ w.heap.size hd0 rfl HZ.out.2.1) rfl ?_
    exact ⟨_, by rw [HE.out, HH.out]; rfl, by rw [HP.out]; exact mx_nil _, HZ.out.2.2⟩
  have t1 : decide ((128 : Int) < (L.length : Int)) = false := by simp; omega
  have hL128 : L.length ≤ 128 := by omega
  have HnE := Lib.hid (show clErr L = if (clAll L).1 = none then 7 else 0 by unfold clErr; rw [if_neg h128])
  have hB1 := hB0.trans ((al (w.alloc (.cells #[.int .u32 0, .int .i64 0, .int .i64 0, .int .i64 0, .int .i64 0] 46)) (.cells #[.int .u32 0, .int .i64 0, .int .i64 0, .int .i64 0, .int .i64 0] 46)).mono hB0.size)
  have hs4 : Blk ((w.alloc (.cells #[.int .u32 0, .int .i64 0, .int .i64 0, .int .i64 0, .int .i64 0] 46)).alloc (.cells #[.int .u32 0, .int .i64 0, .int .i64 0, .int .i64 0, .int .i64 0] 46)) (w.heap.size + 1) 46 (hdL hd0) := by
    have := Blk.new (w.alloc (.cells #[.int .u32 0, .int .i64 0, .int .i64 0, .int .i64 0, .int .i64 0] 46)) 46 (hdL hd0).toArray
    rw [show (w.alloc (.cells #[.int .u32 0, .int .i64 0, .int .i64 0, .int .i64 0, .int .i64 0] 46)).heap.size = w.heap.size + 1 by simp] at this
    exact this
  have hb2 := hb0.alloc (.cells #[.int .u32 0, .int .i64 0, .int .i64 0, .int .i64 0, .int .i64 0] 46)
  clear hb0 hB0 h128 hBy hl
  go_enter Tryz.func21, Tryz.ntmps21
  go_wp2_with fail
  generalize (w.alloc (.cells #[.int .u32 0, .int .i64 0, .int .i64 0, .int .i64 0, .int .i64 0] 46)).alloc (.cells #[.int .u32 0, .int .i64 0, .int .i64 0, .int .i64 0, .int .i64 0] 46) = W1 at *
  have HB1 := Lib.hid hB1
  have HS1 := Lib.hid hs4
  have Hb1 := Lib.hid hb2
  clear hB1 hs4 hb2
  go_loopg [7, 6] L.length (fun gk i o wr => ∃ (k : Nat) (h : Hd) (us : List Value) (vy : Value), k + gk = L.length ∧ i = .int .i64 k ∧ vy = o ∧ Hid (PR wr (w.heap.size + 1 + 1) vy us (clTo L k) h) ∧ Hid (Blk wr (w.heap.size + 1) 46 (hdL h)) ∧ Hid (Blk wr w.heap.size 46 (hdL hd0)) ∧ Hid (Below w.heap.size w wr))
  case atStart => exact ⟨0, hd0, [], _, by omega, rfl, rfl, ⟨fun _ => ⟨rfl, rfl⟩, (fun k hk => by cases hk)⟩, HS1.out, Hb1.out, HB1.out⟩
  case round =>
    obtain ⟨k, h, us, vy, hgk, rfl, rfl, hP, hS, hb, hB⟩ := hrel
    have Hgk := Lib.hid hgk
    have hk : k ≤ L.length := by omega
    have hzr := hB.out.size
    have hs1 := hS.out.lt
    clear hgk
    by_cases hlt : k < L.length
    · have hbk := getD_some (l := L) (d := []) hlt
      have Hst := Lib.hid (clTo_succ hbk)
      obtain ⟨b, hbd⟩ : ∃ b, L.getD k [] = b := ⟨_, rfl⟩
      rw [hbd] at hbk Hst
      have hbm := List.mem_of_getElem? hbk
      have Hbb := Lib.hid (HBy.out b hbm)
      have hbl := Hll.out b hbm
      obtain ⟨aL, cL, hvL, _, hrL⟩ := Hm.out.new hB.out
      simp only [Value.slice.injEq] at hvL
      obtain ⟨rfl, _, rfl⟩ := hvL
      obtain ⟨gL, oL, AL, CL, rfl, hML⟩ : ∃ b o A C, a = some ⟨b, o, none⟩ ∧ MxAt wr b o L A C := by
        rcases hrL with h | h
        · rw [h] at hlt; simp at hlt
        · exact h
      obtain ⟨cx, hx2, hx3, _⟩ := hML k b hbk
      have Hbs := Lib.hid (show Bs wr (.slice (AL k) b.length (CL k)) b from ⟨_, _, rfl, hx2, hx3⟩)
      have HHd := Lib.hid (r5Header_any (.slice (AL k) b.length (CL k)) b wr Hbs.out Hbb.out hbl)
      clear hML hbk hbd hbm hrL hx2 hx3
      by_cases he : hdErr b = 0
      · have hnum := hd_nums he
        obtain ⟨_, ⟨p1, p2, p3, p4, p5⟩, pl⟩ := hd_len he
        have HE := Lib.hid he
        have Hnum := Lib.hid hnum
        have hz : hdz (hdOf b) = (nst b, 0, ndt b, nrc b, nln b) := by rw [hnum]; rfl
        have Hz := Lib.hid hz
        have Hok := Lib.hid (clTo_ok L k)
        have hp4 : nix b ≤ 9007199254740991 := by omega
        clear hnum hz p1 p5 pl
        cases hs : (clTo L k).1 with
        | none =>
          obtain ⟨rfl, rfl⟩ := hP.out.1 hs
          have Hs := Lib.hid hs
          have mk := mkRows (ndt b + nrc b) (by omega)
          rw [show ((ndt b + nrc b : Nat) : Int) = (ndt b : Int) + (nrc b : Int) by omega] at mk
          clear hs
          go_wp2_with fail
          refine HHd.out.mono ?_
          rintro e w3 ⟨vr, rfl, hO3, hB3⟩
          rw [Hnum.out, HE.out]
          obtain ⟨avr, cvr, rfl⟩ := hO3.form
          have hB4 := hB3.trans ((al w3 (.cells #[.int .u32 (nst b), .int .i64 0, .int .i64 (ndt b), .int .i64 (nrc b), .int .i64 (nln b)] 46)).mono hB3.size)
          have h8 : Blk (w3.alloc (.cells #[.int .u32 (nst b), .int .i64 0, .int .i64 (ndt b), .int .i64 (nrc b), .int .i64 (nln b)] 46)) w3.heap.size 46 (hdL (nst b, 0, ndt b, nrc b, nln b)) := Blk.new w3 46 (hdL (nst b, 0, ndt b, nrc b, nln b)).toArray
          have hO4 := hO3.new (al w3 (.cells #[.int .u32 (nst b), .int .i64 0, .int .i64 (ndt b), .int .i64 (nrc b), .int .i64 (nln b)] 46))
          have hzz : w.heap.size + 1 < w3.heap.size := Nat.lt_of_lt_of_le hs1 hB3.size
          have HS := Lib.hid (hS.out.below hB4 hs1)
          have Hb := Lib.hid (hb.out.below hB4 hb.out.lt)
          have HB := Lib.hid (hB.out.trans (hB4.mono hzr))
          have H8 := Lib.hid h8
          have HO4 := Lib.hid (hO4.hdN (hdP_ne HE.out))
          clear hB3 hB4 hO3 hO4 h8 HHd hS hb hB
          unfold hdV hdL
          go_upto_region 12 with (fail)
          obtain ⟨W4, hW4⟩ : ∃ W4, w3.alloc (.cells #[.int .u32 (nst b), .int .i64 0, .int .i64 (ndt b), .int .i64 (nrc b), .int .i64 (nln b)] 46) = W4 := ⟨_, rfl⟩
          rw [hW4] at HS Hb HB H8 HO4 ⊢
          obtain ⟨g8, hg8⟩ : ∃ g8, w3.heap.size = g8 := ⟨_, rfl⟩
          rw [hg8] at H8 hzz ⊢
          clear hW4 hg8
          have R8 := Lib.hid H8.out.range
          have hz4 := HB.out.size
          have Hth := Lib.hid (HS.out.there (o := 0) (n := 5) (show 0 + 5 ≤ 5 by decide))
          have HS5 := Lib.hid (HS.out.over (vs := hdL (nst b, 0, ndt b, nrc b, nln b)) rfl)
          have h85 := H8.out.setCells_other (b := w.heap.size + 1) (o := 0) (vs := hdL (nst b, 0, ndt b, nrc b, nln b)) (by omega)
          have Hb5 := Lib.hid (Hb.out.setCells_other (b := w.heap.size + 1) (o := 0) (vs := hdL (nst b, 0, ndt b, nrc b, nln b)) (by omega))
          have HB5 := Lib.hid (below_setCells HB.out (show w.heap.size ≤ w.heap.size + 1 by omega) 0 (hdL (nst b, 0, ndt b, nrc b, nln b)))
          have HO5 := Lib.hid (HO4.out.kept (kept_setCells (Kept.refl (fun k => k = w.heap.size + 1) W4) (fun _ => rfl) 0 (hdL (nst b, 0, ndt b, nrc b, nln b))) (keptV HS.out))
          go_upto_region 14 with (first
            | ((with_reducible show wpList _ _ _ (Oper.mk _ (Op.load 46 (.tmp 8)) _ _ _ _ :: _) _ _); refine wpList_load_mid rfl 46 (.tmp 8) rfl g8 0 rfl (hdL (nst b, 0, ndt b, nrc b, nln b)) _ R8.out Tryz.underlying46 rfl sizeVol ?_)
            | ((with_reducible show wpList _ _ _ (Oper.mk _ (Op.store _ _ _) _ _ _ _ :: _) _ _); refine wpList_store_mid rfl 46 (.tmp 5) (.tmp 38) rfl (w.heap.size + 1) 0 (hdL (nst b, 0, ndt b, nrc b, nln b)).toArray rfl rfl Hth.out sizeVol (hd_one _) ?_))
          generalize W4.setCells (w.heap.size + 1) 0 (hdL (nst b, 0, ndt b, nrc b, nln b)) = W5 at *
          have d2 := h85.cell (i := 2) rfl
          have d3 := h85.cell (i := 3) rfl
          have H85 := Lib.hid h85
          clear h85
          go_upto_region 15 with (fail)
          have hal := al W5 (.cells (nz (ndt b + nrc b)) 25)
          have hbP : Blk (W5.alloc (.cells (nz (ndt b + nrc b)) 25)) W5.heap.size 25 (List.replicate (ndt b + nrc b) (.slice none 0 0)) := by
            have := Blk.new W5 25 (nz (ndt b + nrc b))
            unfold nz at this
            exact this
          have R86 := Lib.hid (H85.out.below hal H85.out.lt).range
          have HS6 := Lib.hid (HS5.out.below hal HS5.out.lt)
          have RS6 := Lib.hid HS6.out.range
          have Hb6 := Lib.hid (Hb5.out.below hal Hb5.out.lt)
          have HB6 := Lib.hid (HB5.out.trans (hal.mono HB5.out.size))
          have HO6 := Lib.hid (HO5.out.kept (S := fun _ => False) (.of_new hal) fun _ _ _ => id)
          have hgP : w.heap.size + 1 + 1 ≤ W5.heap.size := HS5.out.lt
          have hN6 := HdsN.nils (W5.alloc (.cells (nz (ndt b + nrc b)) 25)) (ndt b + nrc b)
          obtain ⟨gP, hgPd⟩ : ∃ gP, W5.heap.size = gP := ⟨_, rfl⟩
          rw [hgPd] at hbP hgP ⊢
          generalize W5.alloc (.cells (nz (ndt b + nrc b)) 25) = W6 at *
          have cN : W6.cell? ⟨gP, nix b, none⟩ = some (.slice none 0 0) := hbP.cell (by rw [List.getElem?_replicate, if_pos p4])
          have hfr := hbP.frozen (nix b)
          have hset := hbP.setCell (i := nix b) (by rw [List.length_replicate]; exact p4) (.slice avr (hdP b).length cvr)
          have HbP := Lib.hid hset
          have hkM := keptM hbP
          have hkS : Kept (fun k => k = gP) W6 (W6.setCell ⟨gP, nix b, none⟩ (.slice avr (hdP b).length cvr)) := (Kept.refl (fun k => k = gP) W6).setCell (p := ⟨gP, nix b, none⟩) (fun _ => rfl) _
          have HN7 := Lib.hid ((hN6.set (i := nix b) HO6.out).kept hkS hkM)
          have HS7 := Lib.hid (HS6.out.kept hkS (by omega))
          have Hb7 := Lib.hid (Hb6.out.kept hkS (by omega))
          have HB7 := Lib.hid (HB6.out.setCell (p := ⟨gP, nix b, none⟩) (show w.heap.size ≤ gP by omega) (.slice avr (hdP b).length cvr))
          have i1 : (0 : Int) ≤ (nix b : Int) := by omega
          have i2 : (nix b : Int) < (ndt b : Int) + (nrc b : Int) := by omega
          have i3 : (nix b : Int) < ((ndt b + nrc b : Nat) : Int) := by omega
          clear hbP hset hkM hkS hN6 hal hgPd d2 d3 mk
          go_wp2_with (first
            | ((with_reducible show wpList _ _ _ (Oper.mk _ (Op.load 46 (.tmp 8)) _ _ _ _ :: _) _ _); refine wpList_load_mid rfl 46 (.tmp 8) rfl g8 0 rfl (hdL (nst b, 0, ndt b, nrc b, nln b)) _ R86.out Tryz.underlying46 rfl sizeVol ?_)
            | ((with_reducible show wpList _ _ _ (Oper.mk _ (Op.load 46 (.tmp 5)) _ _ _ _ :: _) _ _); refine wpList_load_mid rfl 46 (.tmp 5) rfl (w.heap.size + 1) 0 rfl (hdL (nst b, 0, ndt b, nrc b, nln b)) _ RS6.out Tryz.underlying46 rfl sizeVol ?_)
            | ((with_reducible show wpList _ _ _ (Oper.mk _ (Op.binOp .eql 46 _ _ _) _ _ _ _ :: _) _ _); refine wpList_eq_hd rfl (.tmp 45) (.tmp 46) _ rfl (nst b, 0, ndt b, nrc b, nln b) (nst b, 0, ndt b, nrc b, nln b) true rfl rfl (decide_eq_true rfl) ?_))
          go_roundg (L.length - k - 1)
          case measure => have := Hgk.out; omega
          case rel =>
            refine ⟨k + 1, (nst b, 0, ndt b, nrc b, nln b), (List.replicate (ndt b + nrc b) (.slice none 0 0)).set (nix b) (.slice avr (hdP b).length cvr), _, by have := Hgk.out; omega, by go_num, rfl, ⟨fun hc => ?_, fun k' hk' => ?_⟩, HS7.out, Hb7.out, HB7.out⟩
            · rw [Hst.out, clStep_none Hs.out HE.out] at hc; cases hc
            · rw [Hst.out, clStep_none Hs.out HE.out, Hz.out] at hk'
              rw [Hst.out, clStep_none Hs.out HE.out]
              simp only [Option.some.injEq] at hk'
              have hll : ((List.replicate (ndt b + nrc b) ([] : List Nat)).set (nix b) (hdP b)).length = ndt b + nrc b := by rw [List.length_set, List.length_replicate]
              exact ⟨hk', gP, ndt b + nrc b, by rw [hll], by rw [hll]; exact Nat.le_refl _, hgP, HbP.out, HN7.out⟩
        | some k0 =>
          obtain ⟨rfl, gP, capP, rfl, hc1, hgP, hbP, hN⟩ := hP.out.2 k0 hs
          have Hs := Lib.hid hs
          have HbP0 := Lib.hid hbP
          have HN0 := Lib.hid hN
          clear hs hbP hN
          go_wp2_with fail
          refine HHd.out.mono ?_
          rintro e w3 ⟨vr, rfl, hO3, hB3⟩
          rw [Hnum.out, HE.out]
          obtain ⟨avr, cvr, rfl⟩ := hO3.form
          have hB4 := hB3.trans ((al w3 (.cells #[.int .u32 (nst b), .int .i64 0, .int .i64 (ndt b), .int .i64 (nrc b), .int .i64 (nln b)] 46)).mono hB3.size)
          have h8 : Blk (w3.alloc (.cells #[.int .u32 (nst b), .int .i64 0, .int .i64 (ndt b), .int .i64 (nrc b), .int .i64 (nln b)] 46)) w3.heap.size 46 (hdL (nst b, 0, ndt b, nrc b, nln b)) := Blk.new w3 46 (hdL (nst b, 0, ndt b, nrc b, nln b)).toArray
          have hO4 := hO3.new (al w3 (.cells #[.int .u32 (nst b), .int .i64 0, .int .i64 (ndt b), .int .i64 (nrc b), .int .i64 (nln b)] 46))
          have HS := Lib.hid (hS.out.below hB4 hs1)
          have RS := Lib.hid HS.out.range
          have Hb := Lib.hid (hb.out.below hB4 hb.out.lt)
          have HB := Lib.hid (hB.out.trans (hB4.mono hzr))
          have R8 := Lib.hid h8.range
          have HO4 := Lib.hid (hO4.hdN (hdP_ne HE.out))
          have hbP := HbP0.out.below hB4 HbP0.out.lt
          have hN := HN0.out.new hB4
          have hPl := hP.out.new hB4
          have HP4 := Lib.hid hPl
          clear hB3 hB4 hO3 hO4 h8 HHd hS hb hB hP hPl HbP0 HN0
          unfold hdV hdL
          go_upto_region 12 with (fail)
          obtain ⟨W4, hW4⟩ : ∃ W4, w3.alloc (.cells #[.int .u32 (nst b), .int .i64 0, .int .i64 (ndt b), .int .i64 (nrc b), .int .i64 (nln b)] 46) = W4 := ⟨_, rfl⟩
          rw [hW4] at HS RS Hb HB R8 HO4 HP4 hbP hN ⊢
          obtain ⟨g8, hg8⟩ : ∃ g8, w3.heap.size = g8 := ⟨_, rfl⟩
          rw [hg8] at R8 ⊢
          clear hW4 hg8
          by_cases hh1 : ((nst b, 0, ndt b, nrc b, nln b) : Hd) = h
          · have hix := cs_ix Hok.out Hs.out HE.out (by rw [Hz.out]; exact hh1)
            have hus := hN.1
            have hxu := getD_some (l := us) (d := .slice none 0 0) (i := nix b) (by omega)
            have hpu := getD_some (l := (clTo L k).2) (d := []) hix
            obtain ⟨ax, cxx, hxe⟩ := (hN.2 _ _ _ hxu hpu).form
            have cN : W4.cell? ⟨gP, nix b, none⟩ = some (.slice ax ((clTo L k).2.getD (nix b) []).length cxx) := by rw [← hxe]; exact hbP.cell hxu
            have hfr := hbP.frozen (nix b)
            have i1 : (0 : Int) ≤ (nix b : Int) := by omega
            have i3 : (nix b : Int) < ((clTo L k).2.length : Int) := by omega
            have Hh1 := Lib.hid hh1
            by_cases hh2 : (clTo L k).2.getD (nix b) [] = []
            · rw [hh2] at cN
              have cN : W4.cell? ⟨gP, nix b, none⟩ = some (.slice ax 0 cxx) := cN
              have Hh2 := Lib.hid hh2
              have hset := hbP.setCell (i := nix b) (by omega) (.slice avr (hdP b).length cvr)
              have HbP := Lib.hid hset
              have hkM := keptM hbP
              have hkS : Kept (fun k => k = gP) W4 (W4.setCell ⟨gP, nix b, none⟩ (.slice avr (hdP b).length cvr)) := (Kept.refl (fun k => k = gP) W4).setCell (p := ⟨gP, nix b, none⟩) (fun _ => rfl) _
              have HN7 := Lib.hid ((hN.set (i := nix b) HO4.out).kept hkS hkM)
              have HS7 := Lib.hid (HS.out.kept hkS (by omega))
              have Hb7 := Lib.hid (Hb.out.kept hkS (by omega))
              have HB7 := Lib.hid (HB.out.setCell (p := ⟨gP, nix b, none⟩) (show w.heap.size ≤ gP by omega) (.slice avr (hdP b).length cvr))
              clear hbP hset hkM hkS hN hh1 hh2 hxu hpu hxe
              go_wp2_with (first
                | ((with_reducible show wpList _ _ _ (Oper.mk _ (Op.load 46 (.tmp 8)) _ _ _ _ :: _) _ _); refine wpList_load_mid rfl 46 (.tmp 8) rfl g8 0 rfl (hdL (nst b, 0, ndt b, nrc b, nln b)) _ R8.out Tryz.underlying46 rfl sizeVol ?_)
                | ((with_reducible show wpList _ _ _ (Oper.mk _ (Op.load 46 (.tmp 5)) _ _ _ _ :: _) _ _); refine wpList_load_mid rfl 46 (.tmp 5) rfl (w.heap.size + 1) 0 rfl (hdL h) _ RS.out Tryz.underlying46 rfl sizeVol ?_)
                | ((with_reducible show wpList _ _ _ (Oper.mk _ (Op.binOp .eql 46 _ _ _) _ _ _ _ :: _) _ _); refine wpList_eq_hd rfl (.tmp 45) (.tmp 46) _ rfl (nst b, 0, ndt b, nrc b, nln b) h true rfl rfl (decide_eq_true Hh1.out) ?_))
              go_roundg (L.length - k - 1)
              case measure => have := Hgk.out; omega
              case rel =>
                have hcp := clStep_put Hs.out HE.out (by rw [Hz.out]; exact Hh1.out) Hh2.out
                refine ⟨k + 1, h, us.set (nix b) (.slice avr (hdP b).length cvr), _, by have := Hgk.out; omega, by go_num, rfl, ⟨fun hc => ?_, fun k' hk' => ?_⟩, HS7.out, Hb7.out, HB7.out⟩
                · rw [Hst.out, hcp] at hc; cases hc
                · rw [Hst.out, hcp] at hk'
                  rw [Hst.out, hcp]
                  simp only [Option.some.injEq] at hk'
                  have hll : ((clTo L k).2.set (nix b) (hdP b)).length = (clTo L k).2.length := List.length_set ..
                  exact ⟨hk', gP, capP, by rw [hll], by rw [hll]; exact hc1, hgP, HbP.out, HN7.out⟩
            · obtain ⟨ln, hln⟩ : ∃ ln, ((clTo L k).2.getD (nix b) []).length = ln := ⟨_, rfl⟩
              have hln0 : ln ≠ 0 := fun e => hh2 (List.eq_nil_of_length_eq_zero (by omega))
              rw [hln] at cN
              have t3 : ((ln : Int) == 0) = false := by rw [beq_eq_false_iff_ne]; omega
              have hst := Lib.hid (clStep_skip Hs.out HE.out (fun h => hh2 h.2))
              clear hbP hN hh1 hh2 hxu hpu hxe hln
              go_wp2_with (first
                | ((with_reducible show wpList _ _ _ (Oper.mk _ (Op.load 46 (.tmp 8)) _ _ _ _ :: _) _ _); refine wpList_load_mid rfl 46 (.tmp 8) rfl g8 0 rfl (hdL (nst b, 0, ndt b, nrc b, nln b)) _ R8.out Tryz.underlying46 rfl sizeVol ?_)
                | ((with_reducible show wpList _ _ _ (Oper.mk _ (Op.load 46 (.tmp 5)) _ _ _ _ :: _) _ _); refine wpList_load_mid rfl 46 (.tmp 5) rfl (w.heap.size + 1) 0 rfl (hdL h) _ RS.out Tryz.underlying46 rfl sizeVol ?_)
                | ((with_reducible show wpList _ _ _ (Oper.mk _ (Op.binOp .eql 46 _ _ _) _ _ _ _ :: _) _ _); refine wpList_eq_hd rfl (.tmp 45) (.tmp 46) _ rfl (nst b, 0, ndt b, nrc b, nln b) h true rfl rfl (decide_eq_true Hh1.out) ?_))
              go_roundg (L.length - k - 1)
              case measure => have := Hgk.out; omega
              case rel => exact ⟨k + 1, h, us, _, by have := Hgk.out; omega, by go_num, rfl, by rw [Hst.out, hst.out]; exact HP4.out, HS.out, Hb.out, HB.out⟩
          · have hst := Lib.hid (clStep_skip Hs.out HE.out (fun h => hh1 (by rw [← Hz.out]; exact h.1)))
            have Hh1 := Lib.hid hh1
            clear hbP hN hh1
            go_wp2_with (first
                | ((with_reducible show wpList _ _ _ (Oper.mk _ (Op.load 46 (.tmp 8)) _ _ _ _ :: _) _ _); refine wpList_load_mid rfl 46 (.tmp 8) rfl g8 0 rfl (hdL (nst b, 0, ndt b, nrc b, nln b)) _ R8.out Tryz.underlying46 rfl sizeVol ?_)
                | ((with_reducible show wpList _ _ _ (Oper.mk _ (Op.load 46 (.tmp 5)) _ _ _ _ :: _) _ _); refine wpList_load_mid rfl 46 (.tmp 5) rfl (w.heap.size + 1) 0 rfl (hdL h) _ RS.out Tryz.underlying46 rfl sizeVol ?_)
                | ((with_reducible show wpList _ _ _ (Oper.mk _ (Op.binOp .eql 46 _ _ _) _ _ _ _ :: _) _ _); refine wpList_eq_hd rfl (.tmp 45) (.tmp 46) _ rfl (nst b, 0, ndt b, nrc b, nln b) h false rfl rfl (decide_eq_false Hh1.out) ?_))
            go_roundg (L.length - k - 1)
            case measure => have := Hgk.out; omega
            case rel => exact ⟨k + 1, h, us, _, by have := Hgk.out; omega, by go_num, rfl, by rw [Hst.out, hst.out]; exact HP4.out, HS.out, Hb.out, HB.out⟩
      · have hE := Lib.hid (clStep_err (s := clTo L k) he)
        have t2 : ((hdErr b : Int) != 0) = true := by rw [bne_iff_ne]; omega
        have hno := (hdErr_no (l := b) rfl he)
        have Hno := Lib.hid hno.1
        clear he hno
        go_wp2_with fail
        refine HHd.out.mono ?_
        rintro e w3 ⟨vr, rfl, hO3, hB3⟩
        rw [Hno.out]
        generalize hdErr b = er at *
        have hB4 := hB3.trans ((al w3 (.cells #[.int .u32 0, .int .i64 0, .int .i64 0, .int .i64 0, .int .i64 0] 46)).mono hB3.size)
        have HS := Lib.hid (hS.out.below hB4 hS.out.lt)
        have Hb := Lib.hid (hb.out.below hB4 hb.out.lt)
        have HB := Lib.hid (hB.out.trans (hB4.mono hzr))
        have HP4 := Lib.hid (hP.out.new hB4)
        clear hB3 hB4 hO3
        unfold hdV hdL
        go_wp2_with fail
        go_roundg (L.length - k - 1)
        case measure => have := Hgk.out; omega
        case rel => exact ⟨k + 1, h, us, _, by have := Hgk.out; omega, by go_num, rfl, by rw [Hst.out, hE.out]; exact HP4.out, HS.out, Hb.out, HB.out⟩
    · obtain rfl : k = L.length := by omega
      cases hs : (clTo L L.length).1 with
      | none =>
        obtain ⟨rfl, rfl⟩ := hP.out.1 hs
        have HE := Lib.hid (show clErr L = 7 by rw [HnE.out]; exact if_pos hs)
        have HH := Lib.hid (show clHd L = hd0 by unfold clHd; rw [HE.out]; rfl)
        have HPe := Lib.hid (show rsP L = [] by unfold rsP; rw [HE.out]; rfl)
        have HZ := Lib.hid (hd_end hb.out rfl hB.out (Nat.le_refl _) hd0)
        clear hs
        go_wp2_with ((with_reducible show wpList _ _ _ (Oper.mk _ (Op.store _ _ _) _ _ _ _ :: _) _ _); refine wpList_store_mid rfl 46 (.tmp 2) (.tmp 62) rfl w.heap.size 0 (hdL hd0).toArray rfl rfl HZ.out.1 sizeVol (hd_one _) ?_)
        (try simp only [Exit.inBlock, Exit.then])
        refine bodyPost_ret (results_hd rfl _ _ w.heap.size hd0 rfl HZ.out.2.1) rfl ?_
        exact ⟨_, by rw [HE.out, HH.out]; rfl, by rw [HPe.out]; exact mx_nil _, HZ.out.2.2⟩
      | some k0 =>
        obtain ⟨rfl, gP, capP, rfl, hc1, hgP, hbP, hN⟩ := hP.out.2 k0 hs
        have HE := Lib.hid (show clErr L = 0 by rw [HnE.out]; exact if_neg (by rw [show (clAll L).1 = some h from hs]; simp))
        have HH := Lib.hid (show clHd L = h by unfold clHd; rw [HE.out, if_pos rfl, show (clAll L).1 = some h from hs]; rfl)
        have HPe := Lib.hid (show rsP L = (clTo L L.length).2 by unfold rsP; rw [HE.out]; rfl)
        have HZ := Lib.hid (hd_end hb.out rfl hB.out (Nat.le_refl _) h)
        have RS := Lib.hid hS.out.range
        have hk := kept_setCells (Kept.refl (fun k => k = w.heap.size) wr) (fun _ => rfl) 0 (hdL h)
        have HX := Lib.hid (HdsOk.mx (cap := capP) (hN.kept hk (keptV hb.out)).hds (hbP.kept hk (by omega)) hc1)
        clear hs hk hbP hN
        go_wp2_with (first
          | ((with_reducible show wpList _ _ _ (Oper.mk _ (Op.load 46 (.tmp 5)) _ _ _ _ :: _) _ _); refine wpList_load_mid rfl 46 (.tmp 5) rfl (w.heap.size + 1) 0 rfl (hdL h) _ RS.out Tryz.underlying46 rfl sizeVol ?_)
          | ((with_reducible show wpList _ _ _ (Oper.mk _ (Op.store _ _ _) _ _ _ _ :: _) _ _); refine wpList_store_mid rfl 46 (.tmp 2) (.tmp 63) rfl w.heap.size 0 (hdL h).toArray rfl rfl HZ.out.1 sizeVol (hd_one _) ?_))
        (try simp only [Exit.inBlock, Exit.then])
        refine bodyPost_ret (results_hd rfl _ _ w.heap.size h rfl HZ.out.2.1) rfl ?_
        exact ⟨_, by rw [HE.out, HH.out]; rfl, by rw [HPe.out]; exact HX.out, HZ.out.2.2⟩
end Go.Proofs.YtkclmfppjhmnjaaGreat

namespace Go.Proofs.YtkclmfppjhmnjaaGreat
open Go.RowKit Wire Vol Crc

theorem rsP_ok {L : List (List Nat)} (hE : clErr L = 0) : rsP L = clP L := by unfold rsP; rw [if_pos hE]
theorem setOk_plen {h : Hd} {P : List (List Nat)} (k : SetOk h P) : ∀ j, j < P.length → plen P j ≤ maxLen := fun j _ => by
  unfold plen maxLen
  rcases k.rows j with h1 | h1
  · rw [h1]; simp
  · rw [h1]
    have := szP_le k.ln k.d1
    omega

set_option maxRecDepth 100000 in
set_option maxHeartbeats 8000000 in
theorem r5Join_any (v : Value) (L : List (List Nat)) (w : World) (hm : Mx w v L) (hBy : BytM L) (hLl : L.length ≤ 1000000000) (hl : ∀ b ∈ L, b.length ≤ 100000000) : Calls Tryz.prog 7 #[v] w (JnRet (jB L) (jE L) w) := by
  obtain ⟨i0, hi, hz0, hz1, hz2⟩ := info_parts infoByte
  have HC := Lib.hid (r5set_any v L w hm hBy hLl hl)
  have HBy := Lib.hid hBy
  obtain ⟨a, cap, rfl, hcap, _⟩ := hm
  clear hBy hl
  go_enter Tryz.func7, Tryz.ntmps7
  go_wp2_with fail
  refine HC.out.mono ?_
  rintro e w1 ⟨vp, rfl, hX, hB1⟩
  obtain ⟨h, hh⟩ : ∃ h, clHd L = h := ⟨_, rfl⟩
  obtain ⟨P, hP⟩ : ∃ P, clP L = P := ⟨_, rfl⟩
  have hOk : clErr L = 0 → SetOk h P := fun hE => by rw [← hh, ← hP]; exact (setOk_cl HBy.out hE).1
  have HjE := Lib.hid (show jE L = if clErr L ≠ 0 then clErr L else jnErr h P by unfold jE; rw [hh, hP])
  have HjB := Lib.hid (show jB L = if clErr L ≠ 0 then [] else jnB h P by unfold jB; rw [hh, hP])
  have hXP : clErr L = 0 → Mx w1 vp P := fun hE => by rw [← hP, ← rsP_ok hE]; exact hX
  obtain ⟨pa, pc, rfl, _⟩ := hX
  obtain ⟨nP, hnP⟩ : ∃ n, (rsP L).length = n := ⟨_, rfl⟩
  rw [hh]
  obtain ⟨er, her⟩ : ∃ er, clErr L = er := ⟨_, rfl⟩
  rw [hnP] at hXP ⊢
  rw [her] at HjE HjB hOk hXP ⊢
  have HB1 := Lib.hid hB1
  have HX := Lib.hid hXP
  have HOk := Lib.hid hOk
  obtain ⟨a1, a2, a3, a4, a5⟩ := h
  have hal := al w1 (.cells #[.int .u32 a1, .int .i64 a2, .int .i64 a3, .int .i64 a4, .int .i64 a5] 46)
  have hN : Blk (w1.alloc (.cells #[.int .u32 a1, .int .i64 a2, .int .i64 a3, .int .i64 a4, .int .i64 a5] 46)) w1.heap.size 46 (hdL (a1, a2, a3, a4, a5)) := Blk.new w1 46 (hdL (a1, a2, a3, a4, a5)).toArray
  have HB2 := Lib.hid (HB1.out.trans (hal.mono HB1.out.size))
  have Hal := Lib.hid hal
  have HN := Lib.hid hN
  clear hOk hB1 HC hh hP her hXP hnP hal hN
  unfold hdV hdL
  by_cases hE : er = 0
  · subst hE
    have hk := HOk.out rfl
    have HK := Lib.hid hk
    have hX2 := (HX.out rfl).new Hal.out
    have hdr := hk.dr
    have hd1 := hk.d1
    have hln := hk.ln
    have hcr := hk.crc
    have hll := hk.len
    dsimp only at hdr hd1 hln hcr hll
    have HX2 := Lib.hid hX2
    have HjE2 := Lib.hid (show jE L = jnErr (a1, a2, a3, a4, a5) P by rw [HjE.out]; exact if_neg (by simp))
    have HjB2 := Lib.hid (show jB L = jnB (a1, a2, a3, a4, a5) P by rw [HjB.out]; exact if_neg (by simp))
    clear hk hX2 HX HOk HjE HjB
    go_wp2_with fail
    generalize w1.alloc (.cells #[.int .u32 a1, .int .i64 a2, .int .i64 a3, .int .i64 a4, .int .i64 a5] 46) = W2 at *
    refine (rRepair_any _ P (a3 : Nat) W2 (by omega) (setOk_plen HK.out) HK.out.byt HX2.out (by omega) (by omega)).mono ?_
    rintro e w3 ⟨v3, rfl, hX3, hB3⟩
    have hq2 := HN.out.lt
    have c0 := cell_nw hB3 (HN.out.cell (i := 0) rfl) hq2
    have c2 := cell_nw hB3 (HN.out.cell (i := 2) rfl) hq2
    have c4 := cell_nw hB3 (HN.out.cell (i := 4) rfl) hq2
    have hq3 := Nat.lt_of_lt_of_le hq2 hB3.size
    have B3 := Lib.hid (HB2.out.trans (hB3.mono HB2.out.size))
    by_cases hR : repErr P (a3 : Nat) = 0
    · obtain ⟨hRe, hRl, hdl, hFl, hFm, hFb, hAl, hAb⟩ := HK.out.join hR
      have HRe := Lib.hid hRe
      have HAb := Lib.hid hAb
      have HAl := Lib.hid hAl
      have HFl := Lib.hid hFl
      dsimp only at hdl hFm hFb
      have hJ1 := Lib.hid (show jnAll (a1, a2, a3, a4, a5) P = (cat (repRows P (a3 : Nat)) a3).take a5 from rfl)
      have hJe := Lib.hid (show jnErr (a1, a2, a3, a4, a5) P = if crc 0 (jnAll (a1, a2, a3, a4, a5) P) ≠ a1 then 10 else 0 by unfold jnErr; exact if_neg (by rw [hR]; simp))
      have HFc := Lib.hid (show (cat (repRows P (a3 : Nat)) a3).length = a3 * szP a5 a3 from hFl)
      rw [hR]
      obtain ⟨R, hRd⟩ : ∃ R, repRows P (a3 : Nat) = R := ⟨_, rfl⟩
      rw [hRd] at hX3 hJ1 HFc HRe hRl
      have HX3 := Lib.hid hX3
      obtain ⟨ra, rc, rfl, hrc, _⟩ := hX3
      obtain ⟨s5, hs5⟩ : ∃ s, a3 * szP a5 a3 = s := ⟨_, rfl⟩
      have hs1 : 1 ≤ s5 := by rw [← hs5]; exact Nat.mul_pos (by omega) (szP_pos _ _)
      rw [hs5] at HFc hFm hFb
      clear hRe hR hFl hAl hAb hRd hs5 HFl hB3
      go_wp2_with fail
      go_loopg [9, 8] a3 (fun gk i o wr => ∃ k : Nat, k + gk = a3 ∧ i = .int .i64 k ∧ Hid (BO wr w3.heap.size o (cat R k)) ∧ Hid (Below w3.heap.size w3 wr))
      case atStart => exact ⟨0, by omega, rfl, BO.nil _ _, Below.refl _ _⟩
      case round =>
        obtain ⟨k, hgk, rfl, hO, hB⟩ := hrel
        have Hgk := Lib.hid hgk
        have hk : k ≤ a3 := by omega
        clear hgk
        have d0 := cell_nw hB.out c0 hq3
        have d2 := cell_nw hB.out c2 hq3
        have d4 := cell_nw hB.out c4 hq3
        have hzr := Nat.lt_of_lt_of_le hq3 hB.out.size
        have hsz := hB.out.size
        by_cases hlt : k < a3
        · have hkr := getD_some (l := R) (d := []) (i := k) (by omega)
          have hrl := (HRe.out.get (i := k) (by omega)).1
          have hsp := szP_pos a5 a3
          have hss := szP_le hln hd1
          have hfl := cat_succ hkr
          have hb2 := cat_le R (k + 1)
          have hcl : (cat R k).length ≤ 64 * 65536 := by
            have h1 : (cat R k).length ≤ (cat R a3).length := by
              unfold cat
              have : R.take a3 = R.take k ++ (R.drop k).take (a3 - k) := by rw [← List.take_add]; congr 1; omega
              rw [this, List.flatten_append, List.length_append]; omega
            have := HFc.out
            omega
          obtain ⟨b, o, A, C, rfl, hA⟩ : ∃ b o A C, ra = some ⟨b, o, none⟩ ∧ MxAt w3 b o R A C := by
            obtain ⟨ra', rc', hv, _, h2⟩ := HX3.out
            simp only [Value.slice.injEq] at hv
            obtain ⟨rfl, _, _⟩ := hv
            rcases h2 with h | h
            · rw [h] at hkr; simp at hkr
            · exact h
          obtain ⟨x1, x2, x3, _⟩ := hA.new hB.out k _ hkr
          generalize R.getD k [] = r at *
          obtain ⟨bb, oo, hAk, hrow⟩ : ∃ b' o', A k = some ⟨b', o', none⟩ ∧ RowAt wr b' o' r := by
            rcases x3 with h | h
            · rw [h] at hrl; simp at hrl; omega
            · exact h
          rw [hAk] at x1
          have Hsrc := Lib.hid (hrow.src (Below.refl _ _))
          obtain ⟨oa, oc, rfl⟩ := hO.out.form
          have Hfl := Lib.hid hfl
          have i1 : (0 : Int) ≤ (k : Int) := by omega
          have i2 : (k : Int) < (R.length : Int) := by omega
          have i3 : (k : Int) < (a3 : Int) + (a4 : Int) := by omega
          have i4 : (k : Int) < ((a3 + a4 : Nat) : Int) := by omega
          have hrb : r.length ≤ 65536 := by omega
          clear hA hkr x3 hrow hAk hfl hrl
          go_wp2_with (at_builtin; refine wpList_append_own _ rfl _ _ 25 rfl w3.heap.size 5 i0 (.int .u8 0) 1 1 Tryz.underlying25 hi hz0 hz1 hz2 rfl (by decide) _ _ _ rfl (show wr.ownsRow w3.heap.size 5 1 (.slice oa (cat R k).length oc) (cat R k).length ((cat R k).map bv) from hO.out) ⟨bb, oo, none⟩ r.length _ (r.map bv) rfl ?c1 ?c2 ?c3 ?c4 ?c5 ?c6 ?_)
          case c1 => simp
          case c2 => exact Hsrc.out
          case c3 => intro u hu; obtain ⟨x, _, rfl⟩ := List.mem_map.1 hu; rfl
          case c4 => unfold maxLen; omega
          case c5 => omega
          case c6 => exact hsz
          intro v' w' hown hgr _
          have hO5 : BO w' w3.heap.size v' (cat R (k + 1)) := by
            unfold BO
            rw [Hfl.out, List.length_append, List.map_append]; exact hown
          have hB5 : Below w3.heap.size w3 w' := hB.out.grown hgr hsz fun q hq => (owns_block hO.out hq).2.1
          have HO5 := Lib.hid hO5
          have HB5 := Lib.hid hB5
          clear hown hgr hO5 hB5
          go_wp2_with fail
          go_roundg (a3 - k - 1)
          case measure => have := Hgk.out; omega
          case rel => exact ⟨k + 1, by have := Hgk.out; omega, by go_num, HO5.out, HB5.out⟩
        · obtain rfl : k = a3 := by omega
          have hO2 := hO.out
          obtain ⟨J, hJ⟩ : ∃ J, jnAll (a1, a2, k, a4, a5) P = J := ⟨_, rfl⟩
          have HJb := Lib.hid (show jnB (a1, a2, k, a4, a5) P = if jnErr (a1, a2, k, a4, a5) P = 0 then J else [] by unfold jnB; rw [hJ])
          rw [hJ] at hJ1 hJe HAl HAb
          obtain ⟨g, c, rfl, hgb, hlc, hbk⟩ := hO2.row (by intro e; have := HFc.out; rw [e] at this; simp at this; omega)
          rw [HFc.out] at hlc ⊢
          have HW4 := Lib.hid (B3.out.trans (hB.out.mono B3.out.size))
          have HAl := Lib.hid (show J.length = a5 from HAl.out)
          have HS4 := Lib.hid (show Bs wr (.slice (some ⟨g, 0, none⟩) a5 c) J from ⟨_, _, by rw [HAl.out], by rw [HAl.out]; omega, Or.inr ⟨g, 0, rfl, by rw [hJ1.out]; exact hbk.row.take a5⟩⟩)
          have i1 : (0 : Int) ≤ (a5 : Int) := by omega
          have i2 : (a5 : Int) ≤ (c : Int) := by omega
          clear hO hO2 hbk hJ
          have hcl := crc_lt 0 J
          go_wp2_with fail
          go_region_held3 (fun w' => w'.cell? ⟨w1.heap.size, 0, none⟩ = some (.int .u32 (a1 : Nat)))
            (first
              | exact cell_nw HB4.out d0 hzr
              | exact d0)
            (first
              | (go_at_call 23
                 refine (r3Sum_any (.slice (some ⟨g, 0, none⟩) a5 c) J _ (bs_drew HS4.out) HAb.out (by rw [HAl.out]; omega)).mono ?_
                 rintro e w4 ⟨rfl, hw4⟩
                 have HB4 := Lib.hid (show Below wr.heap.size wr w4 by rw [← hw4]; exact (Below.refl _ _).drew)
                 clear hw4))
          have HW5 := Lib.hid (HW4.out.trans (HB4.out.mono HW4.out.size))
          have HS5 := Lib.hid (HS4.out.new HB4.out)
          by_cases hc : crc 0 J = a1
          · have t1 : ((crc 0 J : Int) != (a1 : Int)) = false := by rw [hc]; simp
            have HE2 := Lib.hid (show jnErr (a1, a2, k, a4, a5) P = 0 by rw [hJe.out]; exact if_neg (by simpa using hc))
            clear hc
            go_wp2_with fail
            go_ret2
            exact ⟨_, by rw [HjE2.out, HE2.out]; rfl, by rw [HjB2.out, HJb.out, if_pos HE2.out]; exact HS5.out, HW5.out⟩
          · have t1 : ((crc 0 J : Int) != (a1 : Int)) = true := by rw [bne_iff_ne]; omega
            have HE2 := Lib.hid (show jnErr (a1, a2, k, a4, a5) P = 10 by rw [hJe.out]; exact if_pos hc)
            clear hc
            go_wp2_with fail
            go_ret2
            exact ⟨_, by rw [HjE2.out, HE2.out]; rfl, by rw [HjB2.out, HJb.out, if_neg (by rw [HE2.out]; simp)]; exact bs_nil _, HW5.out⟩
    · have HEq := Lib.hid (show jnErr (a1, a2, a3, a4, a5) P = repErr P (a3 : Nat) by unfold jnErr; exact if_pos hR)
      have HBn := Lib.hid (show jnB (a1, a2, a3, a4, a5) P = [] by unfold jnB; rw [HEq.out]; exact if_neg hR)
      have t1 : ((repErr P (a3 : Nat) : Int) != 0) = true := by rw [bne_iff_ne]; omega
      obtain ⟨ra, rc, rfl, _⟩ := hX3
      clear hR
      generalize repErr P (a3 : Nat) = er at *
      go_wp2_with fail
      go_ret2
      exact ⟨_, by rw [HjE2.out, HEq.out]; rfl, by rw [HjB2.out, HBn.out]; exact bs_nil _, B3.out⟩
  · have t1 : ((er : Int) != 0) = true := by rw [bne_iff_ne]; omega
    have HE := Lib.hid hE
    clear hE
    go_wp2_with fail
    go_ret2
    exact ⟨_, by rw [HjE.out, if_pos HE.out]; rfl, by rw [HjB.out, if_pos HE.out]; exact bs_nil _, HB2.out⟩
end Go.Proofs.YtkclmfppjhmnjaaGreat

namespace Go.Proofs.YtkclmfppjhmnjaaGreat
open Go.RowKit Wire Vol Crc

set_option maxRecDepth 100000 in
set_option maxHeartbeats 8000000 in
theorem r5Repair_any (v : Value) (L : List (List Nat)) (w : World) (hm : Mx w v L) (hBy : BytM L) (hLl : L.length ≤ 1000000000) (hl : ∀ b ∈ L, b.length ≤ 100000000) : Calls Tryz.prog 9 #[v] w (RowsErr (rvL L) (rvE L) w) := by
  have HJ := Lib.hid (r5Join_any v L w hm hBy hLl hl)
  have HC := Lib.hid (fun w1 (hB : Below w.heap.size w w1) => r5set_any v L w1 (hm.new hB) hBy hLl hl)
  have HBy := Lib.hid hBy
  obtain ⟨a, cap, rfl, hcap, _⟩ := hm
  clear hBy hl
  go_enter Tryz.func9, Tryz.ntmps9
  go_wp2_with fail
  refine HJ.out.mono ?_
  rintro e w1 ⟨vj, rfl, hS1, hB1⟩
  have HB1 := Lib.hid hB1
  have HC1 := Lib.hid (HC.out w1 hB1)
  have HS1 := Lib.hid hS1
  obtain ⟨ja, jk, rfl, _⟩ := hS1
  have HvE := Lib.hid (show rvE L = if jE L ≠ 0 then jE L else spErr (jB L) ((clHd L).2.2.1 : Nat) ((clHd L).2.2.2.1 : Nat) from rfl)
  have HvL := Lib.hid (show rvL L = if jE L ≠ 0 then [] else spL (jB L) ((clHd L).2.2.1 : Nat) ((clHd L).2.2.2.1 : Nat) from rfl)
  have hje0 : jE L = 0 → clErr L = 0 := fun h => by
    unfold jE at h
    by_cases hc : clErr L = 0
    · exact hc
    · rw [if_pos hc] at h; exact h
  have hjB : jE L = 0 → Byt (jB L) ∧ (jB L).length ≤ 65536 := fun h => by
    have hc := hje0 h
    have := jB_ok (setOk_cl HBy.out hc).1
    unfold jB
    rw [if_neg (by rw [hc]; simp)]
    exact this
  have hdr : jE L = 0 → (clHd L).2.2.1 + (clHd L).2.2.2.1 ≤ 64 := fun h => (setOk_cl HBy.out (hje0 h)).1.dr
  have HjB := Lib.hid hjB
  have Hdr := Lib.hid hdr
  have Hje0 := Lib.hid hje0
  obtain ⟨je, hje⟩ : ∃ je, jE L = je := ⟨_, rfl⟩
  obtain ⟨J, hJ⟩ : ∃ J, jB L = J := ⟨_, rfl⟩
  rw [hje] at HvE HvL HjB Hdr Hje0 ⊢
  rw [hJ] at HvE HvL HjB HS1
  rw [hJ]
  clear hB1 HC HJ hje hJ hje0 hjB hdr
  by_cases hj : je = 0
  · subst hj
    have hc0 := Hje0.out rfl
    have HE := Lib.hid (show rvE L = spErr J ((clHd L).2.2.1 : Nat) ((clHd L).2.2.2.1 : Nat) by rw [HvE.out]; exact if_neg (by simp))
    have HL := Lib.hid (show rvL L = spL J ((clHd L).2.2.1 : Nat) ((clHd L).2.2.2.1 : Nat) by rw [HvL.out]; exact if_neg (by simp))
    have hdr := Hdr.out rfl
    obtain ⟨⟨a1, a2, a3, a4, a5⟩, hh⟩ : ∃ h, clHd L = h := ⟨_, rfl⟩
    have Hh := Lib.hid hh
    rw [hh] at HE HL hdr
    dsimp only at HE HL hdr
    have Hc0 := Lib.hid hc0
    clear HvE HvL hh hc0
    go_wp2_with fail
    refine HC1.out.mono ?_
    rintro e w2 ⟨vp, rfl, hX2, hB2⟩
    rw [Hh.out, Hc0.out]
    obtain ⟨pa, pc, rfl, _⟩ := hX2
    have hB23 := hB2.trans ((al w2 (.cells #[.int .u32 a1, .int .i64 a2, .int .i64 a3, .int .i64 a4, .int .i64 a5] 46)).mono hB2.size)
    have HS3 := Lib.hid (HS1.out.new hB23)
    have HB3 := Lib.hid (HB1.out.trans (hB23.mono HB1.out.size))
    obtain ⟨nP, hnP⟩ : ∃ n, (rsP L).length = n := ⟨_, rfl⟩
    rw [hnP]
    clear hB2 hB23 HB1 HS1 hnP HC1
    unfold hdV hdL
    go_wp2_with fail
    refine (r5Split_any _ J (a3 : Nat) (a4 : Nat) _ HS3.out (HjB.out (by trivial)).1 (by have := (HjB.out (by trivial)).2; omega) (by omega) (by omega) (by omega) (by omega)).mono ?_
    rintro e w4 ⟨v4, hd4, rfl, hG, hB4⟩
    have HG := Lib.hid (hG.mono HB3.out.size)
    have HB4 := Lib.hid (HB3.out.trans (hB4.mono HB3.out.size))
    clear hG hB4
    go_wp2_with fail
    go_ret2
    exact ⟨_, hd4, by rw [HE.out]; rfl, by rw [HL.out]; exact HG.out, HB4.out⟩
  · have t1 : ((je : Int) != 0) = true := by rw [bne_iff_ne]; omega
    have HE := Lib.hid (show rvE L = je by rw [HvE.out]; exact if_pos hj)
    have HL := Lib.hid (show rvL L = [] by rw [HvL.out]; exact if_pos hj)
    clear HvE HvL hj
    go_wp2_with fail
    go_ret2
    exact ⟨_, [], by rw [HE.out]; rfl, by rw [HL.out]; exact GM.nil _ _, HB1.out⟩

set_option maxRecDepth 100000 in
set_option maxHeartbeats 8000000 in
theorem r5Missing_any (v : Value) (L : List (List Nat)) (w : World) (hm : Mx w v L) (hBy : BytM L) (hLl : L.length ≤ 1000000000) (hl : ∀ b ∈ L, b.length ≤ 100000000) : Calls Tryz.prog 11 #[v] w (MiRet (miL L) (clErr L) w) := by
  obtain ⟨i0, hi, hz0, hz1, hz2⟩ := info_parts infoIntV
  have HC := Lib.hid (r5set_any v L w hm hBy hLl hl)
  have HBy := Lib.hid hBy
  obtain ⟨a, cap, rfl, hcap, _⟩ := hm
  clear hBy hl
  go_enter Tryz.func11, Tryz.ntmps11
  go_wp2_with fail
  refine HC.out.mono ?_
  rintro e w1 ⟨vp, rfl, hX, hB1⟩
  obtain ⟨⟨a1, a2, a3, a4, a5⟩, hh⟩ : ∃ h, clHd L = h := ⟨_, rfl⟩
  obtain ⟨P, hP⟩ : ∃ P, rsP L = P := ⟨_, rfl⟩
  have hP64 : P.length ≤ 64 := by
    rw [← hP]
    unfold rsP
    by_cases hc : clErr L = 0
    · rw [if_pos hc]
      have k := (setOk_cl HBy.out hc).1
      have := k.len
      have := k.dr
      omega
    · rw [if_neg hc]; simp
  have HmL := Lib.hid (show miL L = if clErr L = 0 then missL P else [] by
    unfold miL
    by_cases hc : clErr L = 0
    · rw [if_pos hc, if_pos hc, ← hP, rsP_ok hc]
    · rw [if_neg hc, if_neg hc])
  rw [hP] at hX
  rw [hh]
  obtain ⟨er, her⟩ : ∃ er, clErr L = er := ⟨_, rfl⟩
  rw [her] at HmL ⊢
  have HEr := Lib.hid her
  have hal := al w1 (.cells #[.int .u32 a1, .int .i64 a2, .int .i64 a3, .int .i64 a4, .int .i64 a5] 46)
  have HX := Lib.hid (hX.new hal)
  have HB2 := Lib.hid (hB1.trans (hal.mono hB1.size))
  obtain ⟨va, vc, rfl, hvc, _⟩ := hX
  clear hal hB1 HC hh hP her
  unfold hdV hdL
  by_cases hE : er = 0
  · subst hE
    go_wp2_with fail
    generalize w1.alloc (.cells #[.int .u32 a1, .int .i64 a2, .int .i64 a3, .int .i64 a4, .int .i64 a5] 46) = w2 at *
    go_loopg [8, 7] P.length (fun gk i o wr => ∃ k : Nat, k + gk = P.length ∧ i = .int .i64 k ∧ Hid (IO wr w2.heap.size o (missTo P k)) ∧ Hid (Below w2.heap.size w2 wr))
    case atStart => exact ⟨0, by omega, rfl, IO.nil _ _, Below.refl _ _⟩
    case round =>
      obtain ⟨k, hgk, rfl, hI, hB⟩ := hrel
      have Hgk := Lib.hid hgk
      have hk : k ≤ P.length := by omega
      clear hgk
      by_cases hlt : k < P.length
      · have hkr := getD_some (l := P) (d := []) hlt
        obtain ⟨b, o, A, C, rfl, hA⟩ : ∃ b o A C, va = some ⟨b, o, none⟩ ∧ MxAt w2 b o P A C := by
          obtain ⟨va', vc', hv, _, h2⟩ := HX.out
          simp only [Value.slice.injEq] at hv
          obtain ⟨rfl, _, _⟩ := hv
          rcases h2 with h | h
          · rw [h] at hlt; simp at hlt
          · exact h
        obtain ⟨x1, _, _, _⟩ := hA.new hB.out k _ hkr
        have hs := hB.out.size
        obtain ⟨oa, oc, rfl⟩ := hI.out.form
        have hml := missTo_len P k
        have i1 : (0 : Int) ≤ (k : Int) := by omega
        have i2 : (k : Int) < (P.length : Int) := by omega
        clear hA hkr
        by_cases h0 : P.getD k [] = []
        · have Hst := Lib.hid (missTo_yes h0)
          have t1 : (((P.getD k []).length : Int) == 0) = true := by rw [h0]; rfl
          generalize missTo P k = M at *
          generalize P.getD k [] = R at *
          clear h0
          go_wp2_with (at_builtin; refine wpList_append_own _ rfl _ _ 35 rfl w2.heap.size 3 i0 (.int .i64 0) 1 8 Tryz.underlying35 hi hz0 hz1 hz2 rfl (by decide) _ _ _ rfl (show (wr.alloc _).ownsRow w2.heap.size 3 1 _ M.length (M.map iv) from (show wr.ownsRow w2.heap.size 3 1 _ M.length (M.map iv) from hI.out).alloc _) ⟨wr.heap.size, 0, none⟩ 1 1 [iv k] rfl rfl ?c1 ?c2 ?c3 ?c4 ?c5 ?_)
          case c1 => exact cell_one_new _ _ _
          case c2 => intro u hu; simp at hu; subst hu; rfl
          case c3 => unfold maxLen; omega
          case c4 => omega
          case c5 => simp; omega
          intro v' w5 hown hgr _
          obtain ⟨q1, q2⟩ := hI.out.snoc hs hown hgr
          rw [← Hst.out] at q1
          have HI := Lib.hid q1
          have HB5 := Lib.hid (hB.out.trans q2)
          clear hown hgr q1 q2
          go_wp2_with fail
          go_roundg (P.length - k - 1)
          case measure => have := Hgk.out; omega
          case rel => exact ⟨k + 1, by have := Hgk.out; omega, by go_num, HI.out, HB5.out⟩
        · have Hst := Lib.hid (missTo_no h0)
          have t1 : (((P.getD k []).length : Int) == 0) = false := by
            rw [beq_eq_false_iff_ne]
            intro e; apply h0
            exact List.eq_nil_of_length_eq_zero (by omega)
          have HI : Hid (IO wr w2.heap.size (.slice oa (missTo P k).length oc) (missTo P (k + 1))) := by rw [Hst.out]; exact hI
          generalize missTo P k = M at *
          generalize P.getD k [] = R at *
          clear h0 hI
          go_wp2_with fail
          go_roundg (P.length - k - 1)
          case measure => have := Hgk.out; omega
          case rel => exact ⟨k + 1, by have := Hgk.out; omega, by go_num, HI.out, hB.out⟩
      · obtain rfl : k = P.length := by omega
        rw [missTo_all] at hI
        have HE := Lib.hid (HB2.out.trans (hB.out.mono HB2.out.size))
        have HF := Lib.hid (hI.out.base HB2.out.size)
        clear hB hI
        go_wp2_with fail
        go_ret2
        exact ⟨_, by rw [HEr.out]; rfl, by rw [HmL.out]; exact HF.out, HE.out⟩
  · have t1 : ((er : Int) != 0) = true := by rw [bne_iff_ne]; omega
    have HE := Lib.hid hE
    clear hE
    go_wp2_with fail
    go_ret2
    exact ⟨_, by rw [HEr.out]; rfl, by rw [HmL.out, if_neg HE.out]; exact IO.nil _ _, HB2.out⟩

/-- Whether there are few short ones. -/
def few55 (L : List (List Nat)) : Bool := decide (L.length ≤ 140 ∧ ∀ r ∈ L, r.length ≤ 200)
set_option maxRecDepth 100000 in
set_option maxHeartbeats 4000000 in
theorem r5Few_any (v : Value) (L : List (List Nat)) (w : World) (hm : Mx w v L) : Calls Tryz.prog 4 #[v] w fun e w' => e = .returned (.bool (few55 L)) ∧ w = w' := by
  have HM := Lib.hid hm
  obtain ⟨a, cap, rfl, hcap, _⟩ := hm
  by_cases h140 : 140 < L.length
  · have t1 : decide ((140 : Int) < (L.length : Int)) = true := by simp; omega
    have HF := Lib.hid (show few55 L = false from decide_eq_false (fun h => by omega))
    clear h140
    go_enter Tryz.func4, Tryz.ntmps4
    go_wp2_with fail
    go_ret
    exact ⟨by rw [HF.out]; rfl, rfl⟩
  · have t1 : decide ((140 : Int) < (L.length : Int)) = false := by simp; omega
    have HL := Lib.hid (show L.length ≤ 140 by omega)
    clear h140
    go_enter Tryz.func4, Tryz.ntmps4
    go_wp2_with fail
    go_loopg [3] L.length (fun gk i wr => ∃ k : Nat, k + gk = L.length ∧ i = .int .i64 k ∧ Hid (∀ r ∈ L.take k, r.length ≤ 200) ∧ w = wr)
    case atStart => exact ⟨0, by omega, rfl, (fun r hr => by rw [List.take_zero] at hr; cases hr), rfl⟩
    case round =>
      obtain ⟨k, hgk, rfl, hA, rfl⟩ := hrel
      have h140 := HL.out
      have Hgk := Lib.hid hgk
      have hk : k ≤ L.length := by omega
      clear hgk
      by_cases hlt : k < L.length
      · have hkr := getD_some (l := L) (d := []) hlt
        have htk : L.take (k + 1) = L.take k ++ [L.getD k []] := by rw [List.take_add_one, hkr]; rfl
        have Htk := Lib.hid htk
        have Hmem := Lib.hid (List.mem_of_getElem? hkr)
        obtain ⟨b, o, A, C, rfl, hM⟩ : ∃ b o A C, a = some ⟨b, o, none⟩ ∧ MxAt w b o L A C := by
          obtain ⟨va', vc', hv, _, h2⟩ := HM.out
          simp only [Value.slice.injEq] at hv
          obtain ⟨rfl, _, _⟩ := hv
          rcases h2 with h | h
          · rw [h] at hlt; simp at hlt
          · exact h
        obtain ⟨x1, _, _, _⟩ := hM k _ hkr
        obtain ⟨r, hr⟩ : ∃ r, L.getD k [] = r := ⟨_, rfl⟩
        rw [hr] at x1 Htk Hmem
        have i1 : (0 : Int) ≤ (k : Int) := by omega
        have i2 : (k : Int) < (L.length : Int) := by omega
        clear hM hkr htk hr
        by_cases h2 : 200 < r.length
        · have t2 : decide ((200 : Int) < (r.length : Int)) = true := by simp; omega
          have HF := Lib.hid (show few55 L = false from decide_eq_false (fun h => by have := h.2 r Hmem.out; omega))
          clear h2
          go_wp2_with fail
          go_ret
          exact ⟨by rw [HF.out]; rfl, rfl⟩
        · have t2 : decide ((200 : Int) < (r.length : Int)) = false := by simp; omega
          have Hr := Lib.hid (show r.length ≤ 200 by omega)
          clear h2
          go_wp2_with fail
          go_roundg (L.length - k - 1)
          case measure => have := Hgk.out; omega
          case rel =>
            refine ⟨k + 1, by have := Hgk.out; omega, by go_num, fun q hq => ?_, rfl⟩
            rw [Htk.out] at hq
            rcases List.mem_append.1 hq with hq | hq
            · exact hA.out q hq
            · rw [List.mem_singleton.1 hq]; exact Hr.out
      · obtain rfl : k = L.length := by omega
        have HF := Lib.hid (show few55 L = true from decide_eq_true ⟨HL.out, fun q hq => hA.out q (by rw [List.take_length]; exact hq)⟩)
        go_wp2_with fail
        go_ret
        exact ⟨by rw [HF.out]; rfl, rfl⟩
end Go.Proofs.YtkclmfppjhmnjaaGreat
