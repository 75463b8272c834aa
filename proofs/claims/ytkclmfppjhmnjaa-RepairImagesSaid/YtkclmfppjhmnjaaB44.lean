/- Plain: the set that some volumes of a byte string make, among others and in any order. -/
/- Plain: which volumes are lost, and what is left. -/
/- Plain: volumes among others. -/
/- Slices of ints of the call's own. -/
/- The contract of volume.Missing. -/
/- The contract of volume.Repair. -/
/- How more arguments of the laws are opened: numbers of 16 bits, arrays of three bytes. -/
/- Byte strings as headers; pairs of numbers. -/
import Derived.Test.YtkclmfppjhmnjaaB41
import Derived.Test.YtkclmfppjhmnjaaB42
import Derived.Test.YtkclmfppjhmnjaaB07
import Derived.Test.YtkclmfppjhmnjaaB36
import Derived.Test.YtkclmfppjhmnjaaB04
import Derived.Test.YtkclmfppjhmnjaaB32
namespace Go.Proofs.Ytkclmfppjhmnjaa
open Go.RowKit Wire Vol Crc Alg

/-- The head of the volumes of some bytes. -/
def vhz (b : List Nat) (d r : Nat) : Hd := (crc 0 b, 0, d, r, b.length)
/-- An element that changes nothing: no volume, or one of other bytes, or one of those that are there. -/
def okEl (b : List Nat) (d r : Nat) (f : Nat → Bool) (x : List Nat) : Prop := hdErr x ≠ 0 ∨ (hdErr x = 0 ∧ hdz (hdOf x) ≠ vhz b d r) ∨ ∃ i, (volL b d r)[i]? = some x ∧ f i = false
theorem clStep_bad {s : Cs} {x : List Nat} (h : hdErr x ≠ 0) : clStep s x = s := by unfold clStep; rw [if_pos h]
theorem clStep_other {k : Hd} {P : List (List Nat)} {x : List Nat} (h : hdErr x = 0) (hk : hdz (hdOf x) ≠ k) : clStep (some k, P) x = (some k, P) := by
  unfold clStep
  rw [if_neg (by rw [h]; simp)]
  show (if hdz (hdOf x) = k ∧ P.getD (nix x) [] = [] then (some k, P.set (nix x) (hdP x)) else (some k, P)) = _
  rw [if_neg (fun e => hk e.1)]
theorem nums_of {x : List Nat} {s i d r n : Nat} (h : hdErr x = 0) (ho : hdOf x = (s, i, d, r, n)) : nix x = i ∧ ndt x = d ∧ nrc x = r := by
  rw [hd_nums h] at ho
  simp only [Prod.mk.injEq] at ho
  exact ⟨ho.2.1, ho.2.2.1, ho.2.2.2.1⟩
theorem clStep_first {x : List Nat} {s i d r n : Nat} (h : hdErr x = 0) (ho : hdOf x = (s, i, d, r, n)) : clStep (none, []) x = (some (s, 0, d, r, n), (List.replicate (d + r) []).set i (hdP x)) := by
  obtain ⟨h1, h2, h3⟩ := nums_of h ho
  unfold clStep
  rw [if_neg (by rw [h]; simp)]
  show (some (hdz (hdOf x)), (List.replicate (ndt x + nrc x) []).set (nix x) (hdP x)) = _
  rw [h1, h2, h3, ho]; rfl
theorem clStep_own {P : List (List Nat)} {x : List Nat} {s i d r n : Nat} (h : hdErr x = 0) (ho : hdOf x = (s, i, d, r, n)) : clStep (some (s, 0, d, r, n), P) x = if P.getD i [] = [] then (some (s, 0, d, r, n), P.set i (hdP x)) else (some (s, 0, d, r, n), P) := by
  obtain ⟨h1, h2, h3⟩ := nums_of h ho
  unfold clStep
  rw [if_neg (by rw [h]; simp)]
  show (if hdz (hdOf x) = (s, 0, d, r, n) ∧ P.getD (nix x) [] = [] then (some (s, 0, d, r, n), P.set (nix x) (hdP x)) else (some (s, 0, d, r, n), P)) = _
  rw [h1, ho]
  have : hdz (s, i, d, r, n) = (s, 0, d, r, n) := rfl
  simp only [this, true_and]

/-- What holds of the parts so far. -/
def CsP (b : List Nat) (d r : Nat) (f : Nat → Bool) (P : List (List Nat)) : Prop := P.length = d + r ∧ ∀ i, i < d + r → (f i = true → P.getD i [] = []) ∧ (P.getD i [] = [] ∨ P.getD i [] = (allM b d r).getD i [])
theorem cs_step {b : List Nat} {d r : Nat} {f : Nat → Bool} {P : List (List Nat)} {x : List Nat} (hB : Byt b) (hl : b.length ≤ 60) (h1 : 1 ≤ d) (h2 : d + r ≤ 64) (hP : CsP b d r f P) (hx : okEl b d r f x) :
    ∃ P', clStep (some (vhz b d r), P) x = (some (vhz b d r), P') ∧ CsP b d r f P' ∧ ∀ i, i < d + r → (P.getD i [] ≠ [] ∨ (volL b d r)[i]? = some x) → P'.getD i [] = (allM b d r).getD i [] := by
  have hkeep : ∀ i, i < d + r → P.getD i [] ≠ [] → P.getD i [] = (allM b d r).getD i [] := fun i hi hn => by
    rcases (hP.2 i hi).2 with h | h
    · exact absurd h hn
    · exact h
  rcases hx with hx | ⟨hx, hk⟩ | ⟨j, hj, hfj⟩
  · refine ⟨P, clStep_bad hx, hP, fun i hi hc => ?_⟩
    rcases hc with hc | hc
    · exact hkeep i hi hc
    · exact absurd (vol_at hB hl h1 h2 hc).2.1 hx
  · refine ⟨P, clStep_other hx hk, hP, fun i hi hc => ?_⟩
    rcases hc with hc | hc
    · exact hkeep i hi hc
    · exfalso
      apply hk
      rw [(vol_at hB hl h1 h2 hc).2.2.1]
      rfl
  · obtain ⟨q1, q2, q3, q4, q5, _⟩ := vol_at hB hl h1 h2 hj
    have hst := clStep_own (P := P) q2 q3
    have hsame : ∀ i, (volL b d r)[i]? = some x → i = j := fun i hi => by
      have := (vol_at hB hl h1 h2 hi).2.2.1
      rw [q3] at this
      simp only [Prod.mk.injEq] at this
      exact this.2.1.symm
    by_cases hp : P.getD j [] = []
    · rw [if_pos hp, q4] at hst
      have hg : ∀ i, (P.set j ((allM b d r).getD j [])).getD i [] = if i = j then (allM b d r).getD j [] else P.getD i [] := fun i => Go.Proofs.Ytkclmfppjhmnjaa.getD_set _ _ _ _ _ (by rw [hP.1]; exact q1)
      refine ⟨_, hst, ⟨by rw [List.length_set]; exact hP.1, fun i hi => ?_⟩, fun i hi hc => ?_⟩
      · rw [hg]
        by_cases hij : i = j
        · subst hij
          rw [if_pos rfl]
          exact ⟨fun h => by rw [hfj] at h; simp at h, Or.inr rfl⟩
        · rw [if_neg hij]; exact hP.2 i hi
      · rw [hg]
        by_cases hij : i = j
        · subst hij; rw [if_pos rfl]
        · rw [if_neg hij]
          rcases hc with hc | hc
          · exact hkeep i hi hc
          · exact absurd (hsame i hc) hij
    · rw [if_neg hp] at hst
      refine ⟨_, hst, hP, fun i hi hc => ?_⟩
      rcases hc with hc | hc
      · exact hkeep i hi hc
      · rw [hsame i hc]; exact hkeep j q1 hp
theorem cs_fold {b : List Nat} {d r : Nat} {f : Nat → Bool} (hB : Byt b) (hl : b.length ≤ 60) (h1 : 1 ≤ d) (h2 : d + r ≤ 64) (hA : ∀ i, i < d + r → (allM b d r).getD i [] ≠ []) (M : List (List Nat)) : ∀ P, CsP b d r f P → (∀ x ∈ M, okEl b d r f x) →
    ∃ P', M.foldl clStep (some (vhz b d r), P) = (some (vhz b d r), P') ∧ CsP b d r f P' ∧ ∀ i, i < d + r → (P.getD i [] ≠ [] ∨ ∃ x ∈ M, (volL b d r)[i]? = some x) → P'.getD i [] = (allM b d r).getD i [] := by
  induction M with
  | nil =>
    intro P hP _
    refine ⟨P, rfl, hP, fun i hi hc => ?_⟩
    rcases hc with hc | ⟨x, hx, _⟩
    · rcases (hP.2 i hi).2 with h | h
      · exact absurd h hc
      · exact h
    · simp at hx
  | cons x M ih =>
    intro P hP hok
    obtain ⟨P1, e1, c1, g1⟩ := cs_step hB hl h1 h2 hP (hok x (by simp))
    obtain ⟨P2, e2, c2, g2⟩ := ih P1 c1 (fun y hy => hok y (by simp [hy]))
    refine ⟨P2, by rw [List.foldl_cons, e1]; exact e2, c2, fun i hi hc => g2 i hi ?_⟩
    rcases hc with hc | ⟨y, hy, hyi⟩
    · left; rw [g1 i hi (Or.inl hc)]; exact hA i hi
    · rcases List.mem_cons.1 hy with h | h
      · left; rw [g1 i hi (Or.inr (by rw [← h]; exact hyi))]; exact hA i hi
      · exact Or.inr ⟨y, h, hyi⟩
theorem bad_fold (M : List (List Nat)) (s : Cs) (h : ∀ x ∈ M, hdErr x ≠ 0) : M.foldl clStep s = s := by
  induction M generalizing s with
  | nil => rfl
  | cons x M ih => rw [List.foldl_cons, clStep_bad (h x (by simp))]; exact ih s (fun y hy => h y (by simp [hy]))
/-- The set of a list. -/
theorem cl_set {b : List Nat} {d r : Nat} {f : Nat → Bool} (hB : Byt b) (hl : b.length ≤ 60) (h1 : 1 ≤ d) (h2 : d + r ≤ 64) {pre post : List (List Nat)} {x : List Nat} {j : Nat} (hpre : ∀ y ∈ pre, hdErr y ≠ 0) (hx : (volL b d r)[j]? = some x) (hfj : f j = false)
    (hok : ∀ y ∈ post, okEl b d r f y) (hall : ∀ i, i < d + r → f i = false → ∃ y ∈ x :: post, (volL b d r)[i]? = some y) :
    clAll (pre ++ x :: post) = (some (vhz b d r), loseTo [] (allM b d r) f (d + r)) := by
  obtain ⟨hAr, hAl⟩ := allM_rect hB (show b.length ≤ 65536 by omega) h1 h2
  have hA : ∀ i, i < d + r → (allM b d r).getD i [] ≠ [] := fun i hi e => by
    have h3 := (hAr.get (i := i) (by rw [hAl]; exact hi)).1
    rw [e] at h3
    have := szP_pos b.length d
    simp at h3; omega
  obtain ⟨q1, q2, q3, q4, _⟩ := vol_at hB hl h1 h2 hx
  have hst := clStep_first q2 q3
  rw [q4] at hst
  have hg : ∀ i, ((List.replicate (d + r) []).set j ((allM b d r).getD j [])).getD i [] = if i = j then (allM b d r).getD j [] else [] := fun i => by
    rw [Go.Proofs.Ytkclmfppjhmnjaa.getD_set _ _ _ _ _ (by rw [List.length_replicate]; exact q1), getD_replicate_nil]
  have hc0 : CsP b d r f ((List.replicate (d + r) []).set j ((allM b d r).getD j [])) := by
    refine ⟨by rw [List.length_set, List.length_replicate], fun i hi => ?_⟩
    rw [hg]
    by_cases hij : i = j
    · subst hij; rw [if_pos rfl]; exact ⟨fun h => by rw [hfj] at h; simp at h, Or.inr rfl⟩
    · rw [if_neg hij]; exact ⟨fun _ => rfl, Or.inl rfl⟩
  obtain ⟨P, e, c, g⟩ := cs_fold hB hl h1 h2 hA post _ hc0 hok
  have hcl : clAll (pre ++ x :: post) = (some (vhz b d r), P) := by
    unfold clAll clTo
    rw [List.take_length, List.foldl_append, bad_fold _ _ hpre, List.foldl_cons, hst]
    exact e
  rw [hcl]
  have hPe : P = loseTo [] (allM b d r) f (d + r) := by
    apply List.ext_getElem?
    intro i
    by_cases hi : i < d + r
    · rw [getD_some (d := []) (by rw [c.1]; exact hi), getD_some (d := []) (by rw [loseTo_length, hAl]; exact hi), loseTo_get _ _ _ _ _ (by rw [hAl]; exact hi)]
      congr 1
      by_cases hf : f i = true
      · rw [if_pos ⟨hi, hf⟩]; exact (c.2 i hi).1 hf
      · rw [if_neg (fun e => hf e.2)]
        have hf' : f i = false := by simpa using hf
        obtain ⟨y, hy, hyi⟩ := hall i hi hf'
        refine g i hi ?_
        rcases List.mem_cons.1 hy with h | h
        · left
          rw [h] at hyi
          have : i = j := by
            have := (vol_at hB hl h1 h2 hyi).2.2.1
            rw [q3] at this
            simp only [Prod.mk.injEq] at this
            exact this.2.1.symm
          subst this
          rw [hg, if_pos rfl]; exact hA i hi
        · exact Or.inr ⟨y, h, hyi⟩
    · rw [List.getElem?_eq_none (by rw [c.1]; omega), List.getElem?_eq_none (by rw [loseTo_length, hAl]; omega)]
  rw [hPe]

theorem ptM_flat (l : List Nat) (n k : Nat) : (ptM l n k).flatten = l.take (k * n) := by
  induction k with
  | zero => simp [ptM]
  | succ k ih =>
    rw [ptM_succ, List.flatten_append, ih]
    simp only [List.flatten_cons, List.flatten_nil, List.append_nil]
    rw [Nat.add_mul, Nat.one_mul, List.take_add]
theorem parts_join {b : List Nat} {d r : Nat} (hd : 1 ≤ d) : (((allM b d r).take d).flatten).take b.length = b := by
  unfold allM
  rw [List.take_left' (partsM_length b d)]
  unfold partsM
  rw [ptM_flat]
  have hm := szP_mul b.length hd
  rw [List.take_take, Nat.min_eq_left hm]
  unfold padB
  rw [List.take_left' rfl]

/-- What is missing. -/
def missL (P : List (List Nat)) : List Nat := (List.range P.length).filter fun i => decide (P.getD i [] = [])
/-- Whatever is lost: what Join, Repair and Missing answer. -/
theorem cs_answers {b : List Nat} {d r : Nat} {f : Nat → Bool} {L : List (List Nat)} (hB : Byt b) (hl : b.length ≤ 60) (h1 : 1 ≤ d) (h2 : d + r ≤ 64) (hL : L.length ≤ 128) (h : clAll L = (some (vhz b d r), loseTo [] (allM b d r) f (d + r))) :
    clErr L = 0 ∧ clHd L = vhz b d r ∧ clP L = loseTo [] (allM b d r) f (d + r) ∧ jE L = (if r < lostN f (d + r) then 26 else 0) ∧ jB L = (if r < lostN f (d + r) then [] else b) ∧ missL (clP L) = (List.range (d + r)).filter f := by
  obtain ⟨hAr, hAl⟩ := allM_rect hB (show b.length ≤ 65536 by omega) h1 h2
  have e1 : clErr L = 0 := by unfold clErr; rw [if_neg (by omega), h, if_neg (by simp)]
  have e2 : clHd L = vhz b d r := by unfold clHd; rw [if_pos e1, h]; rfl
  have e3 : clP L = loseTo [] (allM b d r) f (d + r) := by unfold clP; rw [h]
  obtain ⟨_, k2, k3⟩ := lose_ok (partsM_rect hB h1) (partsM_length b d) h1 h2 (szP_pos _ _) (szP_le (by omega) h1) f
  rw [← allM_set hB (by omega) h1 h2] at k2 k3
  have e4 : jnErr (vhz b d r) (loseTo [] (allM b d r) f (d + r)) = if r < lostN f (d + r) then 26 else 0 := by
    unfold jnErr jnAll vhz
    dsimp only
    rw [k2, k3]
    by_cases hlt : r < lostN f (d + r)
    · rw [if_pos hlt]; rfl
    · rw [if_neg hlt, if_neg hlt, if_neg (by simp), parts_join h1, if_neg (by simp)]
  refine ⟨e1, e2, e3, ?_, ?_, ?_⟩
  · unfold jE; rw [e1, if_neg (by simp), e2, e3]; exact e4
  · unfold jB; rw [e1, if_neg (by simp), e2, e3]
    unfold jnB
    rw [e4]
    by_cases hlt : r < lostN f (d + r)
    · rw [if_pos hlt, if_pos hlt, if_neg (by decide)]
    · rw [if_neg hlt, if_neg hlt, if_pos rfl]
      unfold jnAll vhz
      dsimp only
      rw [k3, if_neg hlt, parts_join h1]
  · rw [e3]
    unfold missL
    rw [loseTo_length, hAl]
    apply List.filter_congr
    intro i hi
    have hi' := List.mem_range.1 hi
    rw [loseTo_get _ _ _ _ _ (by rw [hAl]; exact hi')]
    have h3 := (hAr.get (i := i) (by rw [hAl]; exact hi')).1
    have := szP_pos b.length d
    cases hf : f i with
    | true => rw [if_pos ⟨hi', rfl⟩]; simp
    | false =>
      rw [if_neg (by simp)]
      rw [decide_eq_false]
      intro e; rw [e] at h3; simp at h3; omega
end Go.Proofs.Ytkclmfppjhmnjaa

namespace Go.Proofs.Ytkclmfppjhmnjaa
open Go.RowKit Wire Vol Crc Alg

/-- The indices that are gone, in the order in which they are named. -/
def goStep (n most : Nat) (g : List Nat) (k : Nat) : List Nat := if g.length < most ∧ k % n ∉ g then g ++ [k % n] else g
def goTo (n most : Nat) (lost : List Nat) (k : Nat) : List Nat := (lost.take k).foldl (goStep n most) []
theorem goTo_succ {n most : Nat} {lost : List Nat} {k x : Nat} (h : lost[k]? = some x) : goTo n most lost (k + 1) = goStep n most (goTo n most lost k) x := by
  unfold goTo
  rw [List.take_add_one, h, Option.toList_some, List.foldl_append]
  rfl
structure GoOk (n most : Nat) (g : List Nat) : Prop where
  lt : ∀ i ∈ g, i < n
  nd : g.Nodup
  le : g.length ≤ most
theorem goStep_ok {n most : Nat} (hn : 1 ≤ n) {g : List Nat} (h : GoOk n most g) (k : Nat) : GoOk n most (goStep n most g k) := by
  unfold goStep
  split
  · rename_i hc
    refine ⟨fun i hi => ?_, ?_, by rw [List.length_append, List.length_singleton]; omega⟩
    · rcases List.mem_append.1 hi with hi | hi
      · exact h.lt i hi
      · rw [List.mem_singleton.1 hi]; exact Nat.mod_lt _ hn
    · rw [List.nodup_append]
      refine ⟨h.nd, by simp, fun a ha b hb e => ?_⟩
      rw [List.mem_singleton.1 hb] at e
      exact hc.2 (e ▸ ha)
  · exact h
theorem goTo_ok {n most : Nat} (hn : 1 ≤ n) (lost : List Nat) (k : Nat) : GoOk n most (goTo n most lost k) := by
  unfold goTo
  generalize lost.take k = M
  have : ∀ (M : List Nat) (g : List Nat), GoOk n most g → GoOk n most (M.foldl (goStep n most) g) := by
    intro M
    induction M with
    | nil => intro g h; exact h
    | cons a M ih => intro g h; exact ih _ (goStep_ok hn h a)
  exact this M [] ⟨fun i hi => by simp at hi, List.nodup_nil, Nat.zero_le _⟩
/-- A volume with a changed byte. -/
def dmg (v : List Nat) (at' y : Nat) : List Nat := v.set (at' % v.length) (v.getD (at' % v.length) 0 ^^^ y)
/-- What is left of volume i. -/
def leftEl (g : List Nat) (at' y i : Nat) (v : List Nat) : List (List Nat) := if g.head? = some i ∧ 0 < y then [dmg v at' y] else if i ∈ g then [] else [v]
def leftTo (V : List (List Nat)) (g : List Nat) (at' y k : Nat) : List (List Nat) := (List.range k).flatMap fun i => leftEl g at' y i (V.getD i [])
theorem leftTo_succ (V : List (List Nat)) (g : List Nat) (at' y k : Nat) : leftTo V g at' y (k + 1) = leftTo V g at' y k ++ leftEl g at' y k (V.getD k []) := by
  unfold leftTo
  rw [List.range_succ, List.flatMap_append]
  simp
theorem leftEl_len (g : List Nat) (at' y i : Nat) (v : List Nat) : (leftEl g at' y i v).length ≤ 1 := by
  unfold leftEl
  split
  · simp
  · split <;> simp
theorem leftTo_len (V : List (List Nat)) (g : List Nat) (at' y k : Nat) : (leftTo V g at' y k).length ≤ k := by
  induction k with
  | zero => simp [leftTo]
  | succ k ih =>
    rw [leftTo_succ, List.length_append]
    have := leftEl_len g at' y k (V.getD k [])
    omega
/-- The order may be turned. -/
def turn (rev : Bool) (l : List (List Nat)) : List (List Nat) := if rev then l.reverse else l
theorem mem_turn {rev : Bool} {l : List (List Nat)} {x : List Nat} : x ∈ turn rev l ↔ x ∈ l := by
  unfold turn; split <;> simp

/-- The first good element of a list. -/
theorem first_good {L : List (List Nat)} (h : ∃ x ∈ L, hdErr x = 0) : ∃ pre x post, L = pre ++ x :: post ∧ (∀ y ∈ pre, hdErr y ≠ 0) ∧ hdErr x = 0 := by
  induction L with
  | nil => obtain ⟨x, hx, _⟩ := h; simp at hx
  | cons a L ih =>
    by_cases ha : hdErr a = 0
    · exact ⟨[], a, L, rfl, fun y hy => by simp at hy, ha⟩
    · obtain ⟨x, hx, hx0⟩ := h
      rcases List.mem_cons.1 hx with e | hx
      · rw [e] at hx0; exact absurd hx0 ha
      · obtain ⟨pre, y, post, rfl, h1, h2⟩ := ih ⟨x, hx, hx0⟩
        refine ⟨a :: pre, y, post, rfl, fun z hz => ?_, h2⟩
        rcases List.mem_cons.1 hz with e | hz
        · rw [e]; exact ha
        · exact h1 z hz
theorem lostN_count (f : Nat → Bool) (n : Nat) : lostN f n = ((List.range n).filter f).length := by
  induction n with
  | zero => rfl
  | succ n ih =>
    rw [List.range_succ, List.filter_append, List.length_append, ← ih]
    show (if f n = true then lostN f n + 1 else lostN f n) = _
    cases hf : f n <;> simp [hf]
theorem gone_perm {g : List Nat} {n most : Nat} (h : GoOk n most g) : ((List.range n).filter fun i => decide (i ∈ g)).Perm g := by
  refine (List.perm_ext_iff_of_nodup ?_ h.nd).2 fun i => ?_
  · exact List.Pairwise.filter _ List.nodup_range
  · simp only [List.mem_filter, List.mem_range, decide_eq_true_eq]
    exact ⟨fun e => e.2, fun e => ⟨h.lt i e, e⟩⟩
theorem gone_count {g : List Nat} {n most : Nat} (h : GoOk n most g) : lostN (fun i => decide (i ∈ g)) n = g.length := by
  rw [lostN_count]; exact (gone_perm h).length_eq
/-- Sorted: the indices that are gone, in order. -/
theorem gone_sort {g : List Nat} {n most : Nat} (h : GoOk n most g) : (g.map fun i : Nat => (i : Int)).mergeSort (fun x y => decide (x ≤ y)) = ((List.range n).filter fun i => decide (i ∈ g)).map fun i : Nat => (i : Int) := by
  have hp1 : ((g.map fun i : Nat => (i : Int)).mergeSort (fun x y => decide (x ≤ y))).Perm (((List.range n).filter fun i => decide (i ∈ g)).map fun i : Nat => (i : Int)) :=
    (List.mergeSort_perm _ _).trans ((gone_perm h).symm.map _)
  refine hp1.eq_of_pairwise (le := fun a b : Int => a ≤ b) (fun a b _ _ h1 h2 => Int.le_antisymm h1 h2) ?_ ?_
  · have := List.pairwise_mergeSort (le := fun x y : Int => decide (x ≤ y)) (fun a b c h1 h2 => by simp at h1 h2 ⊢; omega) (fun a b => by simp; omega) (g.map fun i : Nat => (i : Int))
    exact this.imp fun h => by simpa using h
  · refine List.Pairwise.map _ (fun a b (h : a < b) => Int.ofNat_le.2 (Nat.le_of_lt h)) ?_
    exact List.Pairwise.filter _ List.pairwise_lt_range

theorem leftTo_mem {V : List (List Nat)} {g : List Nat} {at' y k : Nat} {x : List Nat} : x ∈ leftTo V g at' y k ↔ ∃ i, i < k ∧ x ∈ leftEl g at' y i (V.getD i []) := by
  unfold leftTo
  simp only [List.mem_flatMap, List.mem_range]
theorem head_mem {g : List Nat} {i : Nat} (h : g.head? = some i) : i ∈ g := by
  cases g with
  | nil => simp at h
  | cons a g => simp at h; rw [h]; simp
theorem dmg_bad {b : List Nat} {d r i at' y : Nat} {x : List Nat} (hB : Byt b) (hl : b.length ≤ 60) (h1 : 1 ≤ d) (h2 : d + r ≤ 64) (hx : (volL b d r)[i]? = some x) (hy : y < 256) (h0 : 0 < y) : hdErr (dmg x at' y) = 10 := by
  obtain ⟨_, _, _, _, _, _, h3, _, h4⟩ := vol_at hB hl h1 h2 hx
  exact h4 _ y hy (by omega) (Nat.mod_lt _ h3)
/-- Whatever is lost or damaged, in whatever order: the set of what is left. -/
theorem left_set {b : List Nat} {d r at' y most : Nat} {g : List Nat} (rev : Bool) (hB : Byt b) (hl : b.length ≤ 60) (h1 : 1 ≤ d) (h2 : d + r ≤ 64) (hy : y < 256) (hg : GoOk (d + r) most g) (hm : most < d + r) :
    clAll (turn rev (leftTo (volL b d r) g at' y (d + r))) = (some (vhz b d r), loseTo [] (allM b d r) (fun i => decide (i ∈ g)) (d + r)) := by
  obtain ⟨hAr, hAl⟩ := allM_rect hB (show b.length ≤ 65536 by omega) h1 h2
  have hVl : (volL b d r).length = d + r := by rw [volL_length, hAl]
  have hV : ∀ i, i < d + r → (volL b d r)[i]? = some ((volL b d r).getD i []) := fun i hi => getD_some (by rw [hVl]; exact hi)
  -- one is left
  obtain ⟨t, ht, htg⟩ : ∃ t, t < d + r ∧ t ∉ g := by
    have hc := gone_count hg
    have := hg.le
    apply Classical.byContradiction
    intro hn
    have hall : ∀ i, i < d + r → i ∈ g := fun i hi => Classical.byContradiction fun hng => hn ⟨i, hi, hng⟩
    have hf : lostN (fun i => decide (i ∈ g)) (d + r) = d + r := by
      rw [lostN_count]
      have : (List.range (d + r)).filter (fun i => decide (i ∈ g)) = List.range (d + r) := List.filter_eq_self.2 fun i hi => decide_eq_true (hall i (List.mem_range.1 hi))
      rw [this, List.length_range]
    omega
  have hin : ∀ i, i < d + r → i ∉ g → (volL b d r).getD i [] ∈ turn rev (leftTo (volL b d r) g at' y (d + r)) := fun i hi hig => by
    rw [mem_turn, leftTo_mem]
    refine ⟨i, hi, ?_⟩
    unfold leftEl
    rw [if_neg (fun e => hig (head_mem e.1)), if_neg hig]
    simp
  have hcls : ∀ x ∈ turn rev (leftTo (volL b d r) g at' y (d + r)), hdErr x ≠ 0 ∨ ∃ i, (volL b d r)[i]? = some x ∧ i ∉ g := fun x hx => by
    rw [mem_turn, leftTo_mem] at hx
    obtain ⟨i, hi, hx⟩ := hx
    unfold leftEl at hx
    split at hx
    · rename_i hc
      simp only [List.mem_singleton] at hx
      left
      rw [hx, dmg_bad hB hl h1 h2 (hV i hi) hy hc.2]
      decide
    · split at hx
      · simp at hx
      · rename_i hig
        simp only [List.mem_singleton] at hx
        right
        exact ⟨i, by rw [hx]; exact hV i hi, hig⟩
  have hgood : ∃ x ∈ turn rev (leftTo (volL b d r) g at' y (d + r)), hdErr x = 0 := ⟨_, hin t ht htg, (vol_at hB hl h1 h2 (hV t ht)).2.1⟩
  obtain ⟨pre, x, post, hL, hpre, hx0⟩ := first_good hgood
  have hxm : x ∈ turn rev (leftTo (volL b d r) g at' y (d + r)) := by rw [hL]; simp
  rcases hcls x hxm with hx | ⟨j, hj, hjg⟩
  · exact absurd hx0 hx
  have hok : ∀ z ∈ post, okEl b d r (fun i => decide (i ∈ g)) z := fun z hz => by
    rcases hcls z (by rw [hL]; simp [hz]) with h | ⟨i, hi, hig⟩
    · exact Or.inl h
    · exact Or.inr (Or.inr ⟨i, hi, decide_eq_false hig⟩)
  rw [hL]
  refine cl_set hB hl h1 h2 hpre hj (decide_eq_false hjg) hok fun i hi hf => ?_
  have hig : i ∉ g := of_decide_eq_false hf
  have hmem := hin i hi hig
  rw [hL] at hmem
  refine ⟨_, ?_, hV i hi⟩
  rcases List.mem_append.1 hmem with h | h
  · exact absurd (vol_at hB hl h1 h2 (hV i hi)).2.1 (hpre _ h)
  · exact h
end Go.Proofs.Ytkclmfppjhmnjaa

namespace Go.Proofs.Ytkclmfppjhmnjaa
open Go.RowKit Wire Vol Crc Alg

theorem hdErr_nil : hdErr [] ≠ 0 := by
  have h : opErr [] = 9 := by unfold opErr; rw [if_neg (by simp), if_pos (by simp)]
  unfold hdErr
  rw [h, if_pos (by decide)]
  decide
/-- The list of VolumeIgnores. -/
def mixL (b o : List Nat) (d r : Nat) : List (List Nat) := [o] ++ (volL b d r).take 1 ++ volL o d r ++ volL b d r ++ volL o d r ++ [[]]
theorem mix_set {b o : List Nat} {d r : Nat} (hB : Byt b) (hl : b.length ≤ 60) (hBo : Byt o) (hlo : o.length ≤ 60) (h1 : 1 ≤ d) (h2 : d + r ≤ 64) (hne : ¬ (crc 0 b = crc 0 o ∧ b.length = o.length)) (ho : hdErr o ≠ 0) :
    clAll (mixL b o d r) = (some (vhz b d r), loseTo [] (allM b d r) (fun _ => false) (d + r)) := by
  obtain ⟨hAr, hAl⟩ := allM_rect hB (show b.length ≤ 65536 by omega) h1 h2
  have hVl : (volL b d r).length = d + r := by rw [volL_length, hAl]
  have h0 : (volL b d r)[0]? = some ((volL b d r).getD 0 []) := getD_some (by rw [hVl]; omega)
  have ht : (volL b d r).take 1 = [(volL b d r).getD 0 []] := by
    rw [List.take_add_one, h0]; rfl
  have e : mixL b o d r = [o] ++ (volL b d r).getD 0 [] :: (volL o d r ++ volL b d r ++ volL o d r ++ [[]]) := by
    unfold mixL; rw [ht]; simp only [List.append_assoc, List.cons_append, List.nil_append]
  have hother : ∀ x ∈ volL o d r, okEl b d r (fun _ => false) x := fun x hx => by
    obtain ⟨i, hi⟩ := List.mem_iff_getElem?.1 hx
    obtain ⟨_, q2, q3, _⟩ := vol_at hBo hlo h1 h2 hi
    refine Or.inr (Or.inl ⟨q2, fun h => hne ?_⟩)
    rw [q3] at h
    unfold hdz vhz at h
    simp only [Prod.mk.injEq] at h
    exact ⟨h.1.symm, h.2.2.2.2.symm⟩
  rw [e]
  refine cl_set hB hl h1 h2 (fun y hy => by rw [List.mem_singleton.1 hy]; exact ho) h0 rfl (fun y hy => ?_) fun i hi _ => ?_
  · simp only [List.mem_append, List.mem_singleton] at hy
    rcases hy with ((hy | hy) | hy) | hy
    · exact hother y hy
    · obtain ⟨i, hi⟩ := List.mem_iff_getElem?.1 hy
      exact Or.inr (Or.inr ⟨i, hi, rfl⟩)
    · exact hother y hy
    · rw [hy]; exact Or.inl hdErr_nil
  · refine ⟨_, ?_, getD_some (d := []) (by rw [hVl]; exact hi)⟩
    have := List.mem_of_getElem? (getD_some (l := volL b d r) (d := []) (i := i) (by rw [hVl]; exact hi))
    refine List.mem_cons_of_mem _ ?_
    simp only [List.mem_append]
    exact Or.inl (Or.inl (Or.inr this))
theorem lostN_none (n : Nat) : lostN (fun _ => false) n = 0 := by
  induction n with
  | zero => rfl
  | succ n ih => unfold lostN; rw [if_neg (by decide)]; exact ih
theorem mixL_len {b o : List Nat} {d r : Nat} (hB : Byt b) (hl : b.length ≤ 60) (hBo : Byt o) (hlo : o.length ≤ 60) (h1 : 1 ≤ d) (h2 : d + r ≤ 20) : (mixL b o d r).length ≤ 128 := by
  have e1 := (allM_rect hB (show b.length ≤ 65536 by omega) h1 (show d + r ≤ 64 by omega)).2
  have e2 := (allM_rect hBo (show o.length ≤ 65536 by omega) h1 (show d + r ≤ 64 by omega)).2
  unfold mixL
  simp only [List.length_append, List.length_take, volL_length, e1, e2, List.length_singleton]
  omega
theorem vol_ok {b : List Nat} {d r : Nat} (hB : Byt b) (hl : b.length ≤ 60) (h1 : 1 ≤ d) (h2 : d + r ≤ 64) : (volL b d r).length = d + r ∧ BytM (volL b d r) ∧ ∀ x ∈ volL b d r, x.length ≤ 200 := by
  refine ⟨by rw [volL_length, (allM_rect hB (show b.length ≤ 65536 by omega) h1 h2).2], fun x hx => ?_, fun x hx => ?_⟩
  · obtain ⟨i, hi⟩ := List.mem_iff_getElem?.1 hx
    exact (vol_at hB hl h1 h2 hi).2.2.2.2.2.1
  · obtain ⟨i, hi⟩ := List.mem_iff_getElem?.1 hx
    exact (vol_at hB hl h1 h2 hi).2.2.2.2.2.2.2.1
theorem mixL_ok {b o : List Nat} {d r : Nat} (hB : Byt b) (hl : b.length ≤ 60) (hBo : Byt o) (hlo : o.length ≤ 60) (h1 : 1 ≤ d) (h2 : d + r ≤ 64) : BytM (mixL b o d r) ∧ ∀ x ∈ mixL b o d r, x.length ≤ 200 := by
  obtain ⟨_, p2, p3⟩ := vol_ok hB hl h1 h2
  obtain ⟨_, q2, q3⟩ := vol_ok hBo hlo h1 h2
  have key : ∀ x ∈ mixL b o d r, Byt x ∧ x.length ≤ 200 := fun x hx => by
    unfold mixL at hx
    simp only [List.mem_append, List.mem_singleton] at hx
    rcases hx with ((((hx | hx) | hx) | hx) | hx) | hx
    · rw [hx]; exact ⟨hBo, by omega⟩
    · have := List.mem_of_mem_take hx; exact ⟨p2 x this, p3 x this⟩
    · exact ⟨q2 x hx, q3 x hx⟩
    · exact ⟨p2 x hx, p3 x hx⟩
    · exact ⟨q2 x hx, q3 x hx⟩
    · rw [hx]; exact ⟨fun y hy => by simp at hy, by simp⟩
  exact ⟨fun x hx => (key x hx).1, fun x hx => (key x hx).2⟩
/-- Among others, Join, Missing answer as if alone. -/
theorem mix_answers {b o : List Nat} {d r : Nat} (hB : Byt b) (hl : b.length ≤ 60) (hBo : Byt o) (hlo : o.length ≤ 60) (h1 : 1 ≤ d) (h2 : d + r ≤ 20) (hne : ¬ (crc 0 b = crc 0 o ∧ b.length = o.length)) (ho : hdErr o ≠ 0) :
    clErr (mixL b o d r) = 0 ∧ jE (mixL b o d r) = 0 ∧ jB (mixL b o d r) = b ∧ missL (clP (mixL b o d r)) = [] := by
  obtain ⟨e1, _, _, e4, e5, e6⟩ := cs_answers hB hl h1 (by omega) (mixL_len hB hl hBo hlo h1 h2) (mix_set hB hl hBo hlo h1 (by omega) hne ho)
  rw [lostN_none] at e4 e5
  rw [if_neg (by omega)] at e4 e5
  refine ⟨e1, e4, e5, ?_⟩
  rw [e6]; simp
end Go.Proofs.Ytkclmfppjhmnjaa

namespace Go.Proofs.Ytkclmfppjhmnjaa
open Go.RowKit Wire

theorem infoIntV : (Try.prog.info? 3).map (fun i => (i.zero, i.size, i.bytes)) = some (some (.int .i64 0), 1, 8) := by kernel_rfl
/-- An int as a value. -/
def iv (n : Nat) : Value := .int .i64 n
/-- A slice of ints that owns its block. -/
def IO (w : World) (B : Nat) (v : Value) (l : List Nat) : Prop := w.ownsRow B 3 1 v l.length (l.map iv)
theorem IO.nil (w : World) (B : Nat) : IO w B (.slice none 0 0) [] := ⟨by simp, .inl ⟨rfl, rfl⟩⟩
theorem IO.new {w w' : World} {B : Nat} {v : Value} {l : List Nat} (h : IO w B v l) (k : Below w.heap.size w w') : IO w' B v l :=
  World.ownsRow.kept h (row := none) ⟨k.os, k.tape, k.output, k.size, fun i hi _ => k.block i hi⟩ (by cases v.ownBlock <;> simp)
theorem IO.base {w : World} {B B' : Nat} {v : Value} {l : List Nat} (h : IO w B v l) (hB : B' ≤ B) : IO w B' v l := by
  refine ⟨h.1, ?_⟩
  rcases h.2 with h | ⟨g, cap, cur, hv, hb, rest⟩
  · exact .inl h
  · exact .inr ⟨g, cap, cur, hv, by omega, rest⟩
theorem IO.form {w : World} {B : Nat} {v : Value} {l : List Nat} (h : IO w B v l) : ∃ a cap, v = .slice a l.length cap := by
  rcases h.2 with ⟨rfl, h0⟩ | ⟨g, cap, cur, hv, _⟩
  · exact ⟨none, 0, by rw [h0]⟩
  · exact ⟨_, _, hv⟩
/-- Either nothing, or a block of its own. -/
theorem IO.cases {w : World} {B : Nat} {v : Value} {l : List Nat} (h : IO w B v l) : (v = .slice none 0 0 ∧ l = []) ∨ ∃ g cap, v = .slice (some ⟨g, 0, none⟩) l.length cap ∧ B ≤ g ∧ l.length ≤ cap ∧ Blk w g 3 (l.map iv) := by
  have h' := h
  rcases h.2 with ⟨rfl, h0⟩ | ⟨g, cap, cur, rfl, hb, hg, hn, hc, hs, ht⟩
  · exact .inl ⟨rfl, List.eq_nil_of_length_eq_zero h0⟩
  · exact .inr ⟨g, cap, rfl, hb, hn, Blk.of_owns h'⟩
/-- As whole numbers. -/
def ci (l : List Nat) : List Int := l.map fun n : Nat => (n : Int)
theorem ci_length (l : List Nat) : (ci l).length = l.length := by simp [ci]
theorem iv_cells {w : World} {g : Nat} {l : List Nat} (h : Blk w g 3 (l.map iv)) : ∀ j, j < (ci l).length → w.cell? ⟨g, 0 + j, none⟩ = some (.int .i64 ((ci l).getD j 0)) := by
  intro j hj
  rw [ci_length] at hj
  rw [Nat.zero_add]
  refine h.cell ?_
  unfold ci
  rw [List.getElem?_map, List.getD_eq_getElem?_getD, List.getElem?_map, List.getElem?_eq_getElem hj]
  rfl
/-- An int has been appended. -/
theorem IO.snoc {w w' : World} {B n : Nat} {v v' : Value} {l : List Nat} {o : Obj} (hB : B ≤ w.heap.size) (h : IO w B v l) (hown : w'.ownsRow B 3 1 v' (l.length + 1) (l.map iv ++ [iv n])) (hgr : (w.alloc o).grownBy w' v.ownBlock) :
    IO w' B v' (l ++ [n]) ∧ Below B w w' := by
  refine ⟨?_, (((Below.refl B w).alloc hB o).grown hgr (by simp; omega) (fun q hq => (owns_block h hq).2.1))⟩
  unfold IO
  rw [List.length_append, List.length_singleton, List.map_append]
  exact hown
end Go.Proofs.Ytkclmfppjhmnjaa

namespace Go.Proofs.Ytkclmfppjhmnjaa
open Go.RowKit Wire Vol Crc Go.Maps

def missTo (P : List (List Nat)) (k : Nat) : List Nat := (List.range k).filter fun i => decide (P.getD i [] = [])
theorem missTo_all (P : List (List Nat)) : missTo P P.length = missL P := rfl
theorem missTo_yes {P : List (List Nat)} {k : Nat} (h : P.getD k [] = []) : missTo P (k + 1) = missTo P k ++ [k] := by
  unfold missTo; rw [List.range_succ, List.filter_append, List.filter_cons_of_pos (by exact decide_eq_true h), List.filter_nil]
theorem missTo_no {P : List (List Nat)} {k : Nat} (h : P.getD k [] ≠ []) : missTo P (k + 1) = missTo P k := by
  unfold missTo; rw [List.range_succ, List.filter_append, List.filter_cons_of_neg (by simpa using h), List.filter_nil, List.append_nil]
theorem missTo_len (P : List (List Nat)) (k : Nat) : (missTo P k).length ≤ k := by
  unfold missTo
  have := List.length_filter_le (fun i => decide (P.getD i [] = [])) (List.range k)
  rw [List.length_range] at this
  exact this
/-- What Missing answers. -/
def miL (L : List (List Nat)) : List Nat := if clErr L = 0 then missL (clP L) else []
def MiRet (l : List Nat) (er : Nat) (w : World) (e : Ending) (w' : World) : Prop := ∃ v, e = .returned (.tuple #[v, .int .i64 er]) ∧ IO w' w.heap.size v l ∧ Below w.heap.size w w'

set_option maxRecDepth 100000 in
set_option maxHeartbeats 4000000 in
theorem vMissing_any (v : Value) (L : List (List Nat)) (w : World) (hm : Mx w v L) (hBy : BytM L) (hLl : L.length ≤ 1000000000) (hl : ∀ b ∈ L, b.length ≤ 100000000) : Calls Try.prog 33 #[v] w (MiRet (miL L) (clErr L) w) := by
  obtain ⟨i0, hi, hz0, hz1, hz2⟩ := info_parts infoIntV
  have HC := Lib.hid (vcollect_any v L w hm hBy hLl hl)
  have HBy := Lib.hid hBy
  obtain ⟨a, cap, rfl, hcap, _⟩ := hm
  clear hBy hl
  go_enter Try.func33, Try.ntmps33
  go_wp2_with fail
  refine HC.out.mono ?_
  rintro e w1 ⟨mo, rfl, hS, hB1⟩
  obtain ⟨h, hh⟩ : ∃ h, clHd L = h := ⟨_, rfl⟩
  obtain ⟨P, hP⟩ : ∃ P, clP L = P := ⟨_, rfl⟩
  have hOk : clErr L = 0 → SetOk h P := fun hE => by rw [← hh, ← hP]; exact (setOk_cl HBy.out hE).1
  have HmL := Lib.hid (show miL L = if clErr L = 0 then missL P else [] by unfold miL; rw [hP])
  rw [hP] at hS
  rw [hh]
  obtain ⟨er, her⟩ : ∃ er, clErr L = er := ⟨_, rfl⟩
  rw [her] at hS HmL hOk ⊢
  have HEr := Lib.hid her
  have HB1 := Lib.hid hB1
  have HS := Lib.hid hS
  have HOk := Lib.hid hOk
  clear hS hOk hB1 HC hh hP her
  by_cases hE : er = 0
  · subst hE
    obtain ⟨bm, n, D, vs, rfl, hown, hM, hV⟩ := HS.out rfl
    have hal := al w1 (.cells (stL h (.map (some bm))).toArray 115)
    have HO := Lib.hid (hown.alloc (.cells (stL h (.map (some bm))).toArray 115))
    have HV := Lib.hid (hV.new hal)
    have hPl := (HOk.out rfl).len
    have hP64 : P.length ≤ 64 := by have := (HOk.out rfl).dr; omega
    have HJ := Lib.hid (vall_any h bm n D vs P _ HO.out hM HV.out hPl (by omega))
    have HB2 := Lib.hid (HB1.out.trans (hal.mono HB1.out.size))
    obtain ⟨a1, a2, a3, a4, a5⟩ := h
    unfold stV stL hdL at *
    clear hal hown hM hV HS hPl HOk
    go_wp2_with fail
    refine HJ.out.mono ?_
    rintro e w2 ⟨v2, rfl, hX, hB3⟩
    have HX := Lib.hid hX
    obtain ⟨va, vc, rfl, hvc, h2⟩ := hX
    have HB3 := Lib.hid (HB2.out.trans (hB3.mono HB2.out.size))
    clear hB3 HJ HB2 h2
    go_wp2_with fail
    go_loopg [20, 6] P.length (fun gk i o wr => ∃ k : Nat, k + gk = P.length ∧ i = .int .i64 k ∧ Hid (IO wr w2.heap.size o (missTo P k)) ∧ Hid (Below w2.heap.size w2 wr))
    case atStart => exact ⟨0, by omega, rfl, IO.nil _ _, Below.refl _ _⟩
    case round =>
      obtain ⟨k, hgk, rfl, hI, hB⟩ := hrel
      have Hgk := Lib.hid hgk
      have hk : k ≤ P.length := by omega
      clear hgk
      by_cases hlt : k < P.length
      · have hkr := getD_some (l := P) (d := []) hlt
        obtain ⟨b, o, A, C, rfl, hA⟩ : ∃ b o A C, va = some ⟨b, o, none⟩ ∧ MxAt w2 b o P A C := by
          obtain ⟨va', vc', hv, _, h2⟩ := HX.out
          simp only [Value.slice.injEq] at hv
          obtain ⟨rfl, _, _⟩ := hv
          rcases h2 with h | h
          · rw [h] at hlt; simp at hlt
          · exact h
        obtain ⟨x1, _, _, _⟩ := hA.new hB.out k _ hkr
        have hs := hB.out.size
        obtain ⟨oa, oc, rfl⟩ := hI.out.form
        have hml := missTo_len P k
        have i1 : (0 : Int) ≤ (k : Int) := by omega
        have i2 : (k : Int) < (P.length : Int) := by omega
        clear hA hkr
        by_cases h0 : P.getD k [] = []
        · have Hst := Lib.hid (missTo_yes h0)
          have t1 : (((P.getD k []).length : Int) == 0) = true := by rw [h0]; rfl
          generalize missTo P k = M at *
          generalize P.getD k [] = R at *
          clear h0
          go_wp2_with (at_builtin; refine wpList_append_own _ rfl _ _ 70 rfl w2.heap.size 3 i0 (.int .i64 0) 1 8 Try.underlying70 hi hz0 hz1 hz2 rfl (by decide) _ _ _ rfl (show (wr.alloc _).ownsRow w2.heap.size 3 1 _ M.length (M.map iv) from (show wr.ownsRow w2.heap.size 3 1 _ M.length (M.map iv) from hI.out).alloc _) ⟨wr.heap.size, 0, none⟩ 1 1 [iv k] rfl rfl ?c1 ?c2 ?c3 ?c4 ?c5 ?_)
          case c1 => exact cell_one_new _ _ _
          case c2 => intro u hu; simp at hu; subst hu; rfl
          case c3 => unfold maxLen; omega
          case c4 => omega
          case c5 => simp; omega
          intro v' w5 hown hgr _
          obtain ⟨q1, q2⟩ := hI.out.snoc hs hown hgr
          rw [← Hst.out] at q1
          have HI := Lib.hid q1
          have HB5 := Lib.hid (hB.out.trans q2)
          clear hown hgr q1 q2
          go_wp2_with fail
          go_roundg (P.length - k - 1)
          case measure => have := Hgk.out; omega
          case rel => exact ⟨k + 1, by have := Hgk.out; omega, by go_num, HI.out, HB5.out⟩
        · have Hst := Lib.hid (missTo_no h0)
          have t1 : (((P.getD k []).length : Int) == 0) = false := by
            rw [beq_eq_false_iff_ne]
            intro e; apply h0
            exact List.eq_nil_of_length_eq_zero (by omega)
          have HI : Hid (IO wr w2.heap.size (.slice oa (missTo P k).length oc) (missTo P (k + 1))) := by rw [Hst.out]; exact hI
          generalize missTo P k = M at *
          generalize P.getD k [] = R at *
          clear h0 hI
          go_wp2_with fail
          go_roundg (P.length - k - 1)
          case measure => have := Hgk.out; omega
          case rel => exact ⟨k + 1, by have := Hgk.out; omega, by go_num, HI.out, hB.out⟩
      · obtain rfl : k = P.length := by omega
        rw [missTo_all] at hI
        have HE := Lib.hid (HB3.out.trans (hB.out.mono HB3.out.size))
        have HF := Lib.hid (hI.out.base HB3.out.size)
        clear hB hI
        go_wp2_with fail
        go_ret2
        exact ⟨_, by rw [HEr.out]; rfl, by rw [HmL.out]; exact HF.out, HE.out⟩
  · have t1 : ((er : Int) != 0) = true := by rw [bne_iff_ne]; omega
    obtain ⟨a1, a2, a3, a4, a5⟩ := h
    have HE := Lib.hid hE
    clear hE
    unfold stV stL hdL
    have HB2 := Lib.hid (HB1.out.alloc HB1.out.size (.cells #[.int .u32 a1, .int .i64 a2, .int .i64 a3, .int .i64 a4, .int .i64 a5, .map mo] 115))
    go_wp2_with fail
    go_ret2
    exact ⟨_, by rw [HEr.out]; rfl, by rw [HmL.out, if_neg HE.out]; exact IO.nil _ _, HB2.out⟩
end Go.Proofs.Ytkclmfppjhmnjaa

namespace Go.Proofs.Ytkclmfppjhmnjaa
open Go.RowKit Wire Vol Crc Go.Maps

/-- What Repair answers. -/
def rvE (L : List (List Nat)) : Nat := if jE L ≠ 0 then jE L else spErr (jB L) ((clHd L).2.2.1 : Nat) ((clHd L).2.2.2.1 : Nat)
def rvL (L : List (List Nat)) : List (List Nat) := if jE L ≠ 0 then [] else spL (jB L) ((clHd L).2.2.1 : Nat) ((clHd L).2.2.2.1 : Nat)
theorem jB_ok {h : Hd} {P : List (List Nat)} (k : SetOk h P) : Byt (jnB h P) ∧ (jnB h P).length ≤ 65536 := by
  unfold jnB
  split
  · rename_i he
    have h0 : repErr P (h.2.2.1 : Nat) = 0 := by
      unfold jnErr at he
      split at he
      · rename_i h1; exact absurd he h1
      · rename_i h1; simpa using h1
    obtain ⟨_, _, _, _, _, _, h7, h8⟩ := k.join h0
    exact ⟨h8, by rw [h7]; exact k.ln⟩
  · exact ⟨fun x hx => by simp at hx, by simp⟩

set_option maxRecDepth 100000 in
set_option maxHeartbeats 4000000 in
theorem vRepair_any (v : Value) (L : List (List Nat)) (w : World) (hm : Mx w v L) (hBy : BytM L) (hLl : L.length ≤ 1000000000) (hl : ∀ b ∈ L, b.length ≤ 100000000) : Calls Try.prog 35 #[v] w (RowsErr (rvL L) (rvE L) w) := by
  have HC := Lib.hid (vcollect_any v L w hm hBy hLl hl)
  have HBy := Lib.hid hBy
  obtain ⟨a, cap, rfl, hcap, _⟩ := hm
  clear hBy hl
  go_enter Try.func35, Try.ntmps35
  go_wp2_with fail
  refine HC.out.mono ?_
  rintro e w1 ⟨mo, rfl, hS, hB1⟩
  obtain ⟨h, hh⟩ : ∃ h, clHd L = h := ⟨_, rfl⟩
  obtain ⟨P, hP⟩ : ∃ P, clP L = P := ⟨_, rfl⟩
  have hOk : clErr L = 0 → SetOk h P := fun hE => by rw [← hh, ← hP]; exact (setOk_cl HBy.out hE).1
  have HjE := Lib.hid (show jE L = if clErr L ≠ 0 then clErr L else jnErr h P by unfold jE; rw [hh, hP])
  have HjB := Lib.hid (show jB L = if clErr L ≠ 0 then [] else jnB h P by unfold jB; rw [hh, hP])
  have HvE := Lib.hid (show rvE L = if jE L ≠ 0 then jE L else spErr (jB L) (h.2.2.1 : Nat) (h.2.2.2.1 : Nat) by unfold rvE; rw [hh])
  have HvL := Lib.hid (show rvL L = if jE L ≠ 0 then [] else spL (jB L) (h.2.2.1 : Nat) (h.2.2.2.1 : Nat) by unfold rvL; rw [hh])
  rw [hP] at hS
  rw [hh]
  obtain ⟨er, her⟩ : ∃ er, clErr L = er := ⟨_, rfl⟩
  rw [her] at hS HjE HjB hOk ⊢
  have HB1 := Lib.hid hB1
  have HS := Lib.hid hS
  have HOk := Lib.hid hOk
  clear hS hOk hB1 HC hh hP her
  by_cases hE : er = 0
  · subst hE
    obtain ⟨bm, n, D, vs, rfl, hown, hM, hV⟩ := HS.out rfl
    have hal := al w1 (.cells (stL h (.map (some bm))).toArray 115)
    have hN : Blk (w1.alloc (.cells (stL h (.map (some bm))).toArray 115)) w1.heap.size 115 (stL h (.map (some bm))) := Blk.new w1 115 _
    have HO := Lib.hid (hown.alloc (.cells (stL h (.map (some bm))).toArray 115))
    have HV := Lib.hid (hV.new hal)
    have hok := HOk.out rfl
    have HJ := Lib.hid (vjoin_any h bm n D vs P _ HO.out hM HV.out hok)
    have HB2 := Lib.hid (HB1.out.trans (hal.mono HB1.out.size))
    have HJo := Lib.hid (jB_ok hok)
    have hdr := hok.dr
    have hjE : jE L = jnErr h P := by rw [HjE.out]; exact if_neg (by simp)
    have hjB : jB L = jnB h P := by rw [HjB.out]; exact if_neg (by simp)
    rw [hjE, hjB] at HvE HvL
    obtain ⟨a1, a2, a3, a4, a5⟩ := h
    dsimp only at hdr HvE HvL
    have c2 := hN.cell (i := 2) rfl
    have c3 := hN.cell (i := 3) rfl
    have hz := hN.lt
    clear hal hown hM hV HS hjE hjB HjE HjB hN hok HO HV
    generalize hW2 : w1.alloc (.cells (stL (a1, a2, a3, a4, a5) (.map (some bm))).toArray 115) = W2 at *
    have HW2 := Lib.hid (show w1.alloc (.cells #[.int .u32 a1, .int .i64 a2, .int .i64 a3, .int .i64 a4, .int .i64 a5, .map (some bm)] 115) = W2 from hW2)
    clear hW2
    unfold stV stL hdL at *
    go_wp2_with fail
    rw [HW2.out]
    refine HJ.out.mono ?_
    rintro e w2 ⟨v2, rfl, hS2, hB3⟩
    have HS2 := Lib.hid hS2
    have d2 := cell_nw hB3 c2 hz
    have d3 := cell_nw hB3 c3 hz
    have HB3 := Lib.hid (HB2.out.trans (hB3.mono HB2.out.size))
    obtain ⟨je, hje⟩ : ∃ je, jnErr (a1, a2, a3, a4, a5) P = je := ⟨_, rfl⟩
    obtain ⟨J, hJ⟩ : ∃ J, jnB (a1, a2, a3, a4, a5) P = J := ⟨_, rfl⟩
    rw [hje] at HvE HvL ⊢
    rw [hJ] at HvE HvL HJo HS2
    obtain ⟨v2a, v2c, rfl, _⟩ := hS2
    clear hB3 c2 c3 HJ hje hJ HB2
    by_cases hj : je = 0
    · subst hj
      have HE := Lib.hid (show rvE L = spErr J (a3 : Nat) (a4 : Nat) by rw [HvE.out]; exact if_neg (by simp))
      have HL := Lib.hid (show rvL L = spL J (a3 : Nat) (a4 : Nat) by rw [HvL.out]; exact if_neg (by simp))
      clear HvE HvL
      go_wp2_with fail
      refine (vSplit_any _ J (a3 : Nat) (a4 : Nat) _ HS2.out HJo.out.1 (by have := HJo.out.2; omega) (by omega) (by omega) (by omega) (by omega)).mono ?_
      rintro e w4 ⟨v4, hd4, rfl, hG, hB4⟩
      have HG := Lib.hid (hG.mono HB3.out.size)
      have HB4 := Lib.hid (HB3.out.trans (hB4.mono HB3.out.size))
      clear hG hB4
      go_wp2_with fail
      go_ret2
      exact ⟨_, hd4, by rw [HE.out]; rfl, by rw [HL.out]; exact HG.out, HB4.out⟩
    · have t1 : ((je : Int) != 0) = true := by rw [bne_iff_ne]; omega
      have HE := Lib.hid (show rvE L = je by rw [HvE.out]; exact if_pos hj)
      have HL := Lib.hid (show rvL L = [] by rw [HvL.out]; exact if_pos hj)
      clear HvE HvL hj
      go_wp2_with fail
      go_ret2
      exact ⟨_, [], by rw [HE.out]; rfl, by rw [HL.out]; exact GM.nil _ _, HB3.out⟩
  · have t1 : ((er : Int) != 0) = true := by rw [bne_iff_ne]; omega
    obtain ⟨a1, a2, a3, a4, a5⟩ := h
    have hjE : jE L = er := by rw [HjE.out]; exact if_pos hE
    have HE := Lib.hid (show rvE L = er by rw [HvE.out, hjE]; exact if_pos hE)
    have HL := Lib.hid (show rvL L = [] by rw [HvL.out, hjE]; exact if_pos hE)
    clear hE HvE HvL hjE HjE HjB
    unfold stV stL hdL
    have HB2 := Lib.hid (HB1.out.alloc HB1.out.size (.cells #[.int .u32 a1, .int .i64 a2, .int .i64 a3, .int .i64 a4, .int .i64 a5, .map mo] 115))
    go_wp2_with fail
    go_ret2
    exact ⟨_, [], by rw [HE.out]; rfl, by rw [HL.out]; exact GM.nil _ _, HB2.out⟩
end Go.Proofs.Ytkclmfppjhmnjaa

namespace Go.Proofs.Ytkclmfppjhmnjaa
open Go.ChangeShapes Go.WideShapes Go.ChangeAt Go.RowKit

theorem u16_nat {a : Int} (h : (Lit.int .u16 a).wf = true) : ∃ x : Nat, x < 65536 ∧ a = x := by
  have := bounds_u16 h
  exact ⟨a.toNat, by omega, by omega⟩

theorem list_three {α : Type} {l : List α} (h : l.length = 3) : ∃ a b c, l = [a, b, c] := by
  match l, h with
  | [a, b, c], _ => exact ⟨a, b, c, rfl⟩

set_option maxRecDepth 100000 in
theorem open_arr3 {H : Type} {enc : TypeId × Value → H} {W : World} {base : Nat} {v : Value} {d : DataW H} {p : List MemPlace} (hv : Value.okWide Try.prog W .any base 63 v) (h : DataW.Trod enc Try.prog W 0 (fun _ => true) true 63 v d p) :
    ∃ x y z : Nat, v = .agg #[.int .u8 x, .int .u8 y, .int .u8 z] ∧ x < 256 ∧ y < 256 ∧ z < 256 := by
  have hc : ∃ cs : Array Value, v = .agg cs := by
    simp only [Value.okWide, Try.underlying63] at hv
    obtain ⟨cs, h1, _⟩ := hv
    exact ⟨cs, h1⟩
  obtain ⟨⟨l⟩, rfl⟩ := hc
  obtain ⟨fuel, hf⟩ := h
  obtain ⟨h1, h2, h3⟩ := open_arr Try.underlying63 Try.underlying5 (by kernel_rfl) (by kernel_rfl) hf
  simp only [Value.cells] at h1 h2 h3
  obtain ⟨a, b, c, rfl⟩ := list_three h1
  simp only [List.map_cons, List.map_nil, List.cons.injEq, and_true] at h3
  refine ⟨vnat a, vnat b, vnat c, ?_, h2 _ (by simp), h2 _ (by simp), h2 _ (by simp)⟩
  obtain ⟨k1, k2, k3⟩ := h3
  rw [k1, k2, k3]
  rfl
end Go.Proofs.Ytkclmfppjhmnjaa

namespace Go.Proofs.Ytkclmfppjhmnjaa
open Go.ChangeShapes Go.WideShapes Go.ChangeAt Go.RowKit

set_option maxRecDepth 100000 in
theorem open_bytes_hd {H : Type} {enc : TypeId × Value → H} {W : World} {base : Nat} {v : Value} {d : DataW H} {p : List MemPlace} (hv : Value.okWide Try.prog W .any base 26 v) (h : DataW.Trod enc Try.prog W 0 (fun _ => true) true 26 v d p) :
    ∃ l : List Nat, HdOk W v l ∧ Byt l ∧ l.length ≤ maxLen := by
  obtain ⟨l, hB, h1, h2⟩ := open_bytes hv h
  refine ⟨l, ?_, h1, h2⟩
  obtain ⟨a, c, rfl, hc, hr⟩ := hB
  refine ⟨a, c, rfl, hc, hr, fun ha => ?_⟩
  subst ha
  obtain ⟨n, hn⟩ := h
  have hn' : DataW.trod enc Try.prog W 0 (fun _ => true) true n 26 [Value.slice none l.length c] = some (d, p) := hn
  rcases open_ints Try.underlying26 Try.underlying5 (by kernel_rfl) hn' with ⟨hcs, _⟩ | ⟨a', len, cap, zs, hcs, _⟩
  · simp only [List.cons.injEq, and_true, Value.slice.injEq] at hcs
    exact hcs.2.2
  · simp at hcs

theorem list_two {α : Type} {l : List α} (h : l.length = 2) : ∃ a b, l = [a, b] := by
  match l, h with
  | [a, b], _ => exact ⟨a, b, rfl⟩

set_option maxRecDepth 100000 in
theorem open_arr2 {H : Type} {enc : TypeId × Value → H} {W : World} {base : Nat} {v : Value} {d : DataW H} {p : List MemPlace} (hv : Value.okWide Try.prog W .any base 67 v) (h : DataW.Trod enc Try.prog W 0 (fun _ => true) true 67 v d p) :
    ∃ x y : Nat, v = .agg #[.int .u8 x, .int .u8 y] ∧ x < 256 ∧ y < 256 := by
  have hc : ∃ cs : Array Value, v = .agg cs := by
    simp only [Value.okWide, Try.underlying67] at hv
    obtain ⟨cs, h1, _⟩ := hv
    exact ⟨cs, h1⟩
  obtain ⟨⟨l⟩, rfl⟩ := hc
  obtain ⟨fuel, hf⟩ := h
  obtain ⟨h1, h2, h3⟩ := open_arr Try.underlying67 Try.underlying5 (by kernel_rfl) (by kernel_rfl) hf
  simp only [Value.cells] at h1 h2 h3
  obtain ⟨a, b, rfl⟩ := list_two h1
  simp only [List.map_cons, List.map_nil, List.cons.injEq, and_true] at h3
  refine ⟨vnat a, vnat b, ?_, h2 _ (by simp), h2 _ (by simp)⟩
  obtain ⟨k1, k2⟩ := h3
  rw [k1, k2]
  rfl

set_option maxRecDepth 100000 in
theorem open_loss {H : Type} {enc : TypeId × Value → H} {W : World} {base : Nat} {v : Value} {d : DataW H} {p : List MemPlace} (hv : Value.okWide Try.prog W .any base 75 v) (h : DataW.Trod enc Try.prog W 0 (fun _ => true) true 75 v d p) :
    ∃ (vl : Value) (l : List Nat) (x y : Nat) (r : Bool), v = .agg #[vl, .int .u8 x, .int .u8 y, .bool r] ∧ Bs W vl l ∧ Byt l ∧ l.length ≤ maxLen ∧ x < 256 ∧ y < 256 := by
  obtain ⟨c0, c1, c2, c3, y0, y1, y2, y3, m, rfl, rfl, rfl, h0, h1, h2, h3⟩ := Joins.open_agg4 Try.underlying75 (by kernel_rfl) (by kernel_rfl) hv h
  obtain ⟨l, q1, q2, q3⟩ := open_bytes_cell h0
  obtain ⟨a1, e1, _, w1⟩ := DataW.trod_int Try.underlying5 h1
  obtain ⟨a2, e2, _, w2⟩ := DataW.trod_int Try.underlying5 h2
  obtain ⟨b, e3, _⟩ := DataW.trod_bool Try.underlying4 h3
  simp only [List.cons.injEq, and_true] at e1 e2 e3
  obtain ⟨x, hx, rfl⟩ := u8_nat w1
  obtain ⟨y, hy, rfl⟩ := u8_nat w2
  exact ⟨c0, l, x, y, b, by rw [e1, e2, e3], q1, q2, q3, hx, hy⟩
end Go.Proofs.Ytkclmfppjhmnjaa
