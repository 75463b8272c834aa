/- Plain: the set that some volumes of a byte string make, among others and in any order. -/
import Derived.Test.YtkclmfppjhmnjaaB41
import Derived.Test.YtkclmfppjhmnjaaB42
namespace Go.Proofs.Ytkclmfppjhmnjaa
open Go.RowKit Wire Vol Crc Alg

/-- The head of the volumes of some bytes. -/
def vhz (b : List Nat) (d r : Nat) : Hd := (crc 0 b, 0, d, r, b.length)
/-- An element that changes nothing: no volume, or one of other bytes, or one of those that are there. -/
def okEl (b : List Nat) (d r : Nat) (f : Nat → Bool) (x : List Nat) : Prop := hdErr x ≠ 0 ∨ (hdErr x = 0 ∧ hdz (hdOf x) ≠ vhz b d r) ∨ ∃ i, (volL b d r)[i]? = some x ∧ f i = false
theorem clStep_bad {s : Cs} {x : List Nat} (h : hdErr x ≠ 0) : clStep s x = s := by unfold clStep; rw [if_pos h]
theorem clStep_other {k : Hd} {P : List (List Nat)} {x : List Nat} (h : hdErr x = 0) (hk : hdz (hdOf x) ≠ k) : clStep (some k, P) x = (some k, P) := by
  unfold clStep
  rw [if_neg (by rw [h]; simp)]
  show (if hdz (hdOf x) = k ∧ P.getD (nix x) [] = [] then (some k, P.set (nix x) (hdP x)) else (some k, P)) = _
  rw [if_neg (fun e => hk e.1)]
theorem nums_of {x : List Nat} {s i d r n : Nat} (h : hdErr x = 0) (ho : hdOf x = (s, i, d, r, n)) : nix x = i ∧ ndt x = d ∧ nrc x = r := by
  rw [hd_nums h] at ho
  simp only [Prod.mk.injEq] at ho
  exact ⟨ho.2.1, ho.2.2.1, ho.2.2.2.1⟩
theorem clStep_first {x : List Nat} {s i d r n : Nat} (h : hdErr x = 0) (ho : hdOf x = (s, i, d, r, n)) : clStep (none, []) x = (some (s, 0, d, r, n), (List.replicate (d + r) []).set i (hdP x)) := by
  obtain ⟨h1, h2, h3⟩ := nums_of h ho
  unfold clStep
  rw [if_neg (by rw [h]; simp)]
  show (some (hdz (hdOf x)), (List.replicate (ndt x + nrc x) []).set (nix x) (hdP x)) = _
  rw [h1, h2, h3, ho]; rfl
theorem clStep_own {P : List (List Nat)} {x : List Nat} {s i d r n : Nat} (h : hdErr x = 0) (ho : hdOf x = (s, i, d, r, n)) : clStep (some (s, 0, d, r, n), P) x = if P.getD i [] = [] then (some (s, 0, d, r, n), P.set i (hdP x)) else (some (s, 0, d, r, n), P) := by
  obtain ⟨h1, h2, h3⟩ := nums_of h ho
  unfold clStep
  rw [if_neg (by rw [h]; simp)]
  show (if hdz (hdOf x) = (s, 0, d, r, n) ∧ P.getD (nix x) [] = [] then (some (s, 0, d, r, n), P.set (nix x) (hdP x)) else (some (s, 0, d, r, n), P)) = _
  rw [h1, ho]
  have : hdz (s, i, d, r, n) = (s, 0, d, r, n) := rfl
  simp only [this, true_and]

/-- What holds of the parts so far. -/
def CsP (b : List Nat) (d r : Nat) (f : Nat → Bool) (P : List (List Nat)) : Prop := P.length = d + r ∧ ∀ i, i < d + r → (f i = true → P.getD i [] = []) ∧ (P.getD i [] = [] ∨ P.getD i [] = (allM b d r).getD i [])
theorem cs_step {b : List Nat} {d r : Nat} {f : Nat → Bool} {P : List (List Nat)} {x : List Nat} (hB : Byt b) (hl : b.length ≤ 60) (h1 : 1 ≤ d) (h2 : d + r ≤ 64) (hP : CsP b d r f P) (hx : okEl b d r f x) :
    ∃ P', clStep (some (vhz b d r), P) x = (some (vhz b d r), P') ∧ CsP b d r f P' ∧ ∀ i, i < d + r → (P.getD i [] ≠ [] ∨ (volL b d r)[i]? = some x) → P'.getD i [] = (allM b d r).getD i [] := by
  have hkeep : ∀ i, i < d + r → P.getD i [] ≠ [] → P.getD i [] = (allM b d r).getD i [] := fun i hi hn => by
    rcases (hP.2 i hi).2 with h | h
    · exact absurd h hn
    · exact h
  rcases hx with hx | ⟨hx, hk⟩ | ⟨j, hj, hfj⟩
  · refine ⟨P, clStep_bad hx, hP, fun i hi hc => ?_⟩
    rcases hc with hc | hc
    · exact hkeep i hi hc
    · exact absurd (vol_at hB hl h1 h2 hc).2.1 hx
  · refine ⟨P, clStep_other hx hk, hP, fun i hi hc => ?_⟩
    rcases hc with hc | hc
    · exact hkeep i hi hc
    · exfalso
      apply hk
      rw [(vol_at hB hl h1 h2 hc).2.2.1]
      rfl
  · obtain ⟨q1, q2, q3, q4, q5, _⟩ := vol_at hB hl h1 h2 hj
    have hst := clStep_own (P := P) q2 q3
    have hsame : ∀ i, (volL b d r)[i]? = some x → i = j := fun i hi => by
      have := (vol_at hB hl h1 h2 hi).2.2.1
      rw [q3] at this
      simp only [Prod.mk.injEq] at this
      exact this.2.1.symm
    by_cases hp : P.getD j [] = []
    · rw [if_pos hp, q4] at hst
      have hg : ∀ i, (P.set j ((allM b d r).getD j [])).getD i [] = if i = j then (allM b d r).getD j [] else P.getD i [] := fun i => Go.Proofs.Ytkclmfppjhmnjaa.getD_set _ _ _ _ _ (by rw [hP.1]; exact q1)
      refine ⟨_, hst, ⟨by rw [List.length_set]; exact hP.1, fun i hi => ?_⟩, fun i hi hc => ?_⟩
      · rw [hg]
        by_cases hij : i = j
        · subst hij
          rw [if_pos rfl]
          exact ⟨fun h => by rw [hfj] at h; simp at h, Or.inr rfl⟩
        · rw [if_neg hij]; exact hP.2 i hi
      · rw [hg]
        by_cases hij : i = j
        · subst hij; rw [if_pos rfl]
        · rw [if_neg hij]
          rcases hc with hc | hc
          · exact hkeep i hi hc
          · exact absurd (hsame i hc) hij
    · rw [if_neg hp] at hst
      refine ⟨_, hst, hP, fun i hi hc => ?_⟩
      rcases hc with hc | hc
      · exact hkeep i hi hc
      · rw [hsame i hc]; exact hkeep j q1 hp
theorem cs_fold {b : List Nat} {d r : Nat} {f : Nat → Bool} (hB : Byt b) (hl : b.length ≤ 60) (h1 : 1 ≤ d) (h2 : d + r ≤ 64) (hA : ∀ i, i < d + r → (allM b d r).getD i [] ≠ []) (M : List (List Nat)) : ∀ P, CsP b d r f P → (∀ x ∈ M, okEl b d r f x) →
    ∃ P', M.foldl clStep (some (vhz b d r), P) = (some (vhz b d r), P') ∧ CsP b d r f P' ∧ ∀ i, i < d + r → (P.getD i [] ≠ [] ∨ ∃ x ∈ M, (volL b d r)[i]? = some x) → P'.getD i [] = (allM b d r).getD i [] := by
  induction M with
  | nil =>
    intro P hP _
    refine ⟨P, rfl, hP, fun i hi hc => ?_⟩
    rcases hc with hc | ⟨x, hx, _⟩
    · rcases (hP.2 i hi).2 with h | h
      · exact absurd h hc
      · exact h
    · simp at hx
  | cons x M ih =>
    intro P hP hok
    obtain ⟨P1, e1, c1, g1⟩ := cs_step hB hl h1 h2 hP (hok x (by simp))
    obtain ⟨P2, e2, c2, g2⟩ := ih P1 c1 (fun y hy => hok y (by simp [hy]))
    refine ⟨P2, by rw [List.foldl_cons, e1]; exact e2, c2, fun i hi hc => g2 i hi ?_⟩
    rcases hc with hc | ⟨y, hy, hyi⟩
    · left; rw [g1 i hi (Or.inl hc)]; exact hA i hi
    · rcases List.mem_cons.1 hy with h | h
      · left; rw [g1 i hi (Or.inr (by rw [← h]; exact hyi))]; exact hA i hi
      · exact Or.inr ⟨y, h, hyi⟩
theorem bad_fold (M : List (List Nat)) (s : Cs) (h : ∀ x ∈ M, hdErr x ≠ 0) : M.foldl clStep s = s := by
  induction M generalizing s with
  | nil => rfl
  | cons x M ih => rw [List.foldl_cons, clStep_bad (h x (by simp))]; exact ih s (fun y hy => h y (by simp [hy]))
/-- The set of a list. -/
theorem cl_set {b : List Nat} {d r : Nat} {f : Nat → Bool} (hB : Byt b) (hl : b.length ≤ 60) (h1 : 1 ≤ d) (h2 : d + r ≤ 64) {pre post : List (List Nat)} {x : List Nat} {j : Nat} (hpre : ∀ y ∈ pre, hdErr y ≠ 0) (hx : (volL b d r)[j]? = some x) (hfj : f j = false)
    (hok : ∀ y ∈ post, okEl b d r f y) (hall : ∀ i, i < d + r → f i = false → ∃ y ∈ x :: post, (volL b d r)[i]? = some y) :
    clAll (pre ++ x :: post) = (some (vhz b d r), loseTo [] (allM b d r) f (d + r)) := by
  obtain ⟨hAr, hAl⟩ := allM_rect hB (show b.length ≤ 65536 by omega) h1 h2
  have hA : ∀ i, i < d + r → (allM b d r).getD i [] ≠ [] := fun i hi e => by
    have h3 := (hAr.get (i := i) (by rw [hAl]; exact hi)).1
    rw [e] at h3
    have := szP_pos b.length d
    simp at h3; omega
  obtain ⟨q1, q2, q3, q4, _⟩ := vol_at hB hl h1 h2 hx
  have hst := clStep_first q2 q3
  rw [q4] at hst
  have hg : ∀ i, ((List.replicate (d + r) []).set j ((allM b d r).getD j [])).getD i [] = if i = j then (allM b d r).getD j [] else [] := fun i => by
    rw [Go.Proofs.Ytkclmfppjhmnjaa.getD_set _ _ _ _ _ (by rw [List.length_replicate]; exact q1), getD_replicate_nil]
  have hc0 : CsP b d r f ((List.replicate (d + r) []).set j ((allM b d r).getD j [])) := by
    refine ⟨by rw [List.length_set, List.length_replicate], fun i hi => ?_⟩
    rw [hg]
    by_cases hij : i = j
    · subst hij; rw [if_pos rfl]; exact ⟨fun h => by rw [hfj] at h; simp at h, Or.inr rfl⟩
    · rw [if_neg hij]; exact ⟨fun _ => rfl, Or.inl rfl⟩
  obtain ⟨P, e, c, g⟩ := cs_fold hB hl h1 h2 hA post _ hc0 hok
  have hcl : clAll (pre ++ x :: post) = (some (vhz b d r), P) := by
    unfold clAll clTo
    rw [List.take_length, List.foldl_append, bad_fold _ _ hpre, List.foldl_cons, hst]
    exact e
  rw [hcl]
  have hPe : P = loseTo [] (allM b d r) f (d + r) := by
    apply List.ext_getElem?
    intro i
    by_cases hi : i < d + r
    · rw [getD_some (d := []) (by rw [c.1]; exact hi), getD_some (d := []) (by rw [loseTo_length, hAl]; exact hi), loseTo_get _ _ _ _ _ (by rw [hAl]; exact hi)]
      congr 1
      by_cases hf : f i = true
      · rw [if_pos ⟨hi, hf⟩]; exact (c.2 i hi).1 hf
      · rw [if_neg (fun e => hf e.2)]
        have hf' : f i = false := by simpa using hf
        obtain ⟨y, hy, hyi⟩ := hall i hi hf'
        refine g i hi ?_
        rcases List.mem_cons.1 hy with h | h
        · left
          rw [h] at hyi
          have : i = j := by
            have := (vol_at hB hl h1 h2 hyi).2.2.1
            rw [q3] at this
            simp only [Prod.mk.injEq] at this
            exact this.2.1.symm
          subst this
          rw [hg, if_pos rfl]; exact hA i hi
        · exact Or.inr ⟨y, h, hyi⟩
    · rw [List.getElem?_eq_none (by rw [c.1]; omega), List.getElem?_eq_none (by rw [loseTo_length, hAl]; omega)]
  rw [hPe]

theorem ptM_flat (l : List Nat) (n k : Nat) : (ptM l n k).flatten = l.take (k * n) := by
  induction k with
  | zero => simp [ptM]
  | succ k ih =>
    rw [ptM_succ, List.flatten_append, ih]
    simp only [List.flatten_cons, List.flatten_nil, List.append_nil]
    rw [Nat.add_mul, Nat.one_mul, List.take_add]
theorem parts_join {b : List Nat} {d r : Nat} (hd : 1 ≤ d) : (((allM b d r).take d).flatten).take b.length = b := by
  unfold allM
  rw [List.take_left' (partsM_length b d)]
  unfold partsM
  rw [ptM_flat]
  have hm := szP_mul b.length hd
  rw [List.take_take, Nat.min_eq_left hm]
  unfold padB
  rw [List.take_left' rfl]

/-- What is missing. -/
def missL (P : List (List Nat)) : List Nat := (List.range P.length).filter fun i => decide (P.getD i [] = [])
/-- Whatever is lost: what Join, Repair and Missing answer. -/
theorem cs_answers {b : List Nat} {d r : Nat} {f : Nat → Bool} {L : List (List Nat)} (hB : Byt b) (hl : b.length ≤ 60) (h1 : 1 ≤ d) (h2 : d + r ≤ 64) (hL : L.length ≤ 128) (h : clAll L = (some (vhz b d r), loseTo [] (allM b d r) f (d + r))) :
    clErr L = 0 ∧ clHd L = vhz b d r ∧ clP L = loseTo [] (allM b d r) f (d + r) ∧ jE L = (if r < lostN f (d + r) then 26 else 0) ∧ jB L = (if r < lostN f (d + r) then [] else b) ∧ missL (clP L) = (List.range (d + r)).filter f := by
  obtain ⟨hAr, hAl⟩ := allM_rect hB (show b.length ≤ 65536 by omega) h1 h2
  have e1 : clErr L = 0 := by unfold clErr; rw [if_neg (by omega), h, if_neg (by simp)]
  have e2 : clHd L = vhz b d r := by unfold clHd; rw [if_pos e1, h]; rfl
  have e3 : clP L = loseTo [] (allM b d r) f (d + r) := by unfold clP; rw [h]
  obtain ⟨_, k2, k3⟩ := lose_ok (partsM_rect hB h1) (partsM_length b d) h1 h2 (szP_pos _ _) (szP_le (by omega) h1) f
  rw [← allM_set hB (by omega) h1 h2] at k2 k3
  have e4 : jnErr (vhz b d r) (loseTo [] (allM b d r) f (d + r)) = if r < lostN f (d + r) then 26 else 0 := by
    unfold jnErr jnAll vhz
    dsimp only
    rw [k2, k3]
    by_cases hlt : r < lostN f (d + r)
    · rw [if_pos hlt]; rfl
    · rw [if_neg hlt, if_neg hlt, if_neg (by simp), parts_join h1, if_neg (by simp)]
  refine ⟨e1, e2, e3, ?_, ?_, ?_⟩
  · unfold jE; rw [e1, if_neg (by simp), e2, e3]; exact e4
  · unfold jB; rw [e1, if_neg (by simp), e2, e3]
    unfold jnB
    rw [e4]
    by_cases hlt : r < lostN f (d + r)
    · rw [if_pos hlt, if_pos hlt, if_neg (by decide)]
    · rw [if_neg hlt, if_neg hlt, if_pos rfl]
      unfold jnAll vhz
      dsimp only
      rw [k3, if_neg hlt, parts_join h1]
  · rw [e3]
    unfold missL
    rw [loseTo_length, hAl]
    apply List.filter_congr
    intro i hi
    have hi' := List.mem_range.1 hi
    rw [loseTo_get _ _ _ _ _ (by rw [hAl]; exact hi')]
    have h3 := (hAr.get (i := i) (by rw [hAl]; exact hi')).1
    have := szP_pos b.length d
    cases hf : f i with
    | true => rw [if_pos ⟨hi', rfl⟩]; simp
    | false =>
      rw [if_neg (by simp)]
      rw [decide_eq_false]
      intro e; rw [e] at h3; simp at h3; omega
end Go.Proofs.Ytkclmfppjhmnjaa
