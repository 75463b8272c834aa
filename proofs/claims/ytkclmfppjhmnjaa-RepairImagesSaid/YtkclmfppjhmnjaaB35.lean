/- Plain: the set of a list of volumes; how its map reads. -/
/- Plain: sets of parts, lost parts, new parts, sums. No program in sight. -/
import Derived.Test.YtkclmfppjhmnjaaB12
import Derived.Test.YtkclmfppjhmnjaaB32
import Derived.Maps.OwnSet
import Derived.Test.YtkclmfppjhmnjaaB33
import Derived.Test.YtkclmfppjhmnjaaB31
namespace Go.Proofs.Ytkclmfppjhmnjaa
open Go.RowKit Wire Vol Crc Go.Maps

/-- A header without its index. -/
def hdz (h : Hd) : Hd := (h.1, 0, h.2.2.1, h.2.2.2.1, h.2.2.2.2)
/-- The head and the parts so far. -/
abbrev Cs : Type := Option Hd × List (List Nat)
def clStep (s : Cs) (b : List Nat) : Cs :=
  if hdErr b ≠ 0 then s else
  match s.1 with
  | none => (some (hdz (hdOf b)), (List.replicate (ndt b + nrc b) []).set (nix b) (hdP b))
  | some k => if hdz (hdOf b) = k ∧ s.2.getD (nix b) [] = [] then (some k, s.2.set (nix b) (hdP b)) else s
def clTo (L : List (List Nat)) (k : Nat) : Cs := (L.take k).foldl clStep (none, [])
def clAll (L : List (List Nat)) : Cs := clTo L L.length
def clErr (L : List (List Nat)) : Nat := if 128 < L.length then 6 else if (clAll L).1 = none then 7 else 0
def clHd (L : List (List Nat)) : Hd := if clErr L = 0 then ((clAll L).1).getD (0, 0, 0, 0, 0) else (0, 0, 0, 0, 0)
def clP (L : List (List Nat)) : List (List Nat) := (clAll L).2
theorem clTo_succ {L : List (List Nat)} {k : Nat} {b : List Nat} (h : L[k]? = some b) : clTo L (k + 1) = clStep (clTo L k) b := by
  unfold clTo
  rw [List.take_add_one, h, Option.toList_some, List.foldl_append]
  rfl
theorem hd_nums {b : List Nat} (h : hdErr b = 0) : hdOf b = (nst b, nix b, ndt b, nrc b, nln b) := by unfold hdOf; rw [if_pos h]
theorem hdP_ne {b : List Nat} (h : hdErr b = 0) : hdP b ≠ [] := by
  intro e
  have h1 := (hd_len h).2.2
  rw [e, List.length_nil] at h1
  have h2 : 1 ≤ szP (nln b) (ndt b) := Nat.le_max_left _ _
  omega
/-- What holds of the head and the parts. -/
def CsOk (s : Cs) : Prop := (s.1 = none → s.2 = []) ∧ ∀ k, s.1 = some k → k.2.1 = 0 ∧ s.2.length = k.2.2.1 + k.2.2.2.1 ∧ 1 ≤ k.2.2.1 ∧ k.2.2.1 + k.2.2.2.1 ≤ 64 ∧ k.2.2.2.2 ≤ 65536 ∧ k.1 ≤ 4294967295 ∧ (∃ i, s.2.getD i [] ≠ []) ∧ ∀ i, s.2.getD i [] = [] ∨ (s.2.getD i []).length = szP k.2.2.2.2 k.2.2.1
theorem getD_set {α : Type} (l : List α) (i j : Nat) (x d : α) (hi : i < l.length) : (l.set i x).getD j d = if j = i then x else l.getD j d := by
  rw [List.getD_eq_getElem?_getD, List.getD_eq_getElem?_getD]
  by_cases h : j = i
  · subst h; rw [if_pos rfl, List.getElem?_set_self hi]; rfl
  · rw [if_neg h, List.getElem?_set_ne (fun e => h e.symm)]
theorem getD_replicate_nil (n i : Nat) : (List.replicate n ([] : List Nat)).getD i [] = [] := by
  rw [List.getD_eq_getElem?_getD, List.getElem?_replicate]
  split <;> rfl
theorem clStep_ok {s : Cs} (h : CsOk s) (b : List Nat) : CsOk (clStep s b) := by
  unfold clStep
  by_cases he : hdErr b = 0
  · rw [if_neg (by rw [he]; simp)]
    obtain ⟨_, ⟨p1, p2, p3, p4, p5⟩, p6⟩ := hd_len he
    have hn := hd_nums he
    split
    · refine ⟨(fun e => by cases e), fun k hk => ?_⟩
      simp only [Option.some.injEq] at hk
      subst hk
      unfold hdz
      rw [hn]
      dsimp only
      refine ⟨rfl, by rw [List.length_set, List.length_replicate], p2, p3, p5, p1, ⟨nix b, ?_⟩, fun i => ?_⟩
      · rw [getD_set _ _ _ _ _ (by rw [List.length_replicate]; exact p4), if_pos rfl]; exact hdP_ne he
      · rw [getD_set _ _ _ _ _ (by rw [List.length_replicate]; exact p4)]
        split
        · exact Or.inr p6
        · exact Or.inl (getD_replicate_nil _ _)
    · rename_i k hk
      split
      · rename_i hc
        obtain ⟨h1, h2, h3, h4, h5, h6, h7, h8⟩ := h.2 k hk
        have hkk := hc.1
        unfold hdz at hkk
        rw [hn] at hkk
        dsimp only at hkk
        have hix : nix b < s.2.length := by rw [h2, ← hkk]; exact p4
        refine ⟨(fun e => by cases e), fun k' hk' => ?_⟩
        simp only [Option.some.injEq] at hk'
        subst hk'
        refine ⟨h1, by rw [List.length_set]; exact h2, h3, h4, h5, h6, ⟨nix b, ?_⟩, fun i => ?_⟩
        · rw [getD_set _ _ _ _ _ hix, if_pos rfl]; exact hdP_ne he
        · rw [getD_set _ _ _ _ _ hix]
          split
          · right; rw [p6, ← hkk]
          · exact h8 i
      · exact h
  · rw [if_pos he]; exact h
theorem clTo_ok (L : List (List Nat)) (k : Nat) : CsOk (clTo L k) := by
  unfold clTo
  generalize L.take k = M
  have : ∀ (M : List (List Nat)) (s : Cs), CsOk s → CsOk (M.foldl clStep s) := by
    intro M
    induction M with
    | nil => intro s h; exact h
    | cons a M ih => intro s h; exact ih _ (clStep_ok h a)
  exact this M _ ⟨fun _ => rfl, fun k hk => by cases hk⟩

/-- How an element of the map reads: as itself. -/
def rdV (v : Value) : Option (DataW Value × List MemPlace) := some (.held v, [])
/-- The map holds just the headers of the parts that are there. -/
def MapOf (D : DataW Value) (vs : List Value) (P : List (List Nat)) : Prop :=
  IsMap D ∧ (∀ kl, Maps.has D kl = true → ∃ i : Nat, i < P.length ∧ kl = .int .i64 i ∧ P.getD i [] ≠ []) ∧
  ∀ i : Nat, i < P.length → P.getD i [] ≠ [] → Maps.has D (.int .i64 i) = true ∧ ∀ zd, D.atKey (.int .i64 i) zd = .held (vs.getD i (.slice none 0 0))
theorem i64_inj {i j : Nat} (h : Lit.int .i64 (i : Int) = .int .i64 (j : Int)) : i = j := by
  simp only [Lit.int.injEq, true_and] at h; omega
theorem mapOf_has {D : DataW Value} {vs : List Value} {P : List (List Nat)} (h : MapOf D vs P) {i : Nat} (hi : i < P.length) : Maps.has D (.int .i64 i) = decide (P.getD i [] ≠ []) := by
  by_cases hp : P.getD i [] = []
  · rw [decide_eq_false (by simpa using hp)]
    cases hh : Maps.has D (.int .i64 i) with
    | false => rfl
    | true =>
      obtain ⟨j, _, hj, hn⟩ := h.2.1 _ hh
      rw [i64_inj hj] at hp
      exact absurd hp hn
  · rw [(h.2.2 i hi hp).1, decide_eq_true hp]
theorem isKeyInt (i : Nat) : WideAt.IsKeyLit (.int .i64 (i : Int)) := trivial
theorem mapOf_put {D : DataW Value} {vs : List Value} {P : List (List Nat)} (h : MapOf D vs P) {i : Nat} (hi : i < P.length) (hv : vs.length = P.length) {x : Value} {p : List Nat} (hp : p ≠ []) :
    MapOf (D.put (.int .i64 i) (.held x)) (vs.set i x) (P.set i p) := by
  refine ⟨h.1.put _ _, fun kl hk => ?_, fun j hj hn => ?_⟩
  · by_cases he : kl = .int .i64 i
    · exact ⟨i, by rw [List.length_set]; exact hi, he, by rw [getD_set _ _ _ _ _ hi, if_pos rfl]; exact hp⟩
    · rw [has_put_other he] at hk
      obtain ⟨j, hj, hkl, hn⟩ := h.2.1 _ hk
      refine ⟨j, by rw [List.length_set]; exact hj, hkl, ?_⟩
      rw [getD_set _ _ _ _ _ hi, if_neg (fun e => he (by rw [hkl, e]))]
      exact hn
  · rw [List.length_set] at hj
    rw [getD_set _ _ _ _ _ hi] at hn
    rw [getD_set _ _ _ _ _ (by rw [hv]; exact hi)]
    by_cases hji : j = i
    · subst hji
      rw [if_pos rfl]
      exact ⟨has_put_same h.1 (isKeyInt _) _, fun zd => atKey_put_same h.1 (isKeyInt _) _ _⟩
    · rw [if_neg hji] at hn ⊢
      have hne : Lit.int .i64 (j : Int) ≠ .int .i64 (i : Int) := fun e => hji (i64_inj e)
      obtain ⟨q1, q2⟩ := h.2.2 j hj hn
      exact ⟨by rw [has_put_other hne]; exact q1, fun zd => by rw [atKey_put_other hne]; exact q2 zd⟩
theorem mapOf_empty (vs : List Value) (n : Nat) : MapOf (.map [] : DataW Value) vs (List.replicate n []) :=
  ⟨isMap_empty, fun kl hk => by simp [Maps.has] at hk, fun i _ hn => absurd (getD_replicate_nil n i) hn⟩
end Go.Proofs.Ytkclmfppjhmnjaa

namespace Go.Proofs.Ytkclmfppjhmnjaa
open Alg

theorem plen_of {m : List (List Nat)} {c : Nat} (h : Rect c m) {i : Nat} (hi : i < m.length) : plen m i = c := (h.get hi).1
theorem rect_byt {m : List (List Nat)} {c : Nat} (h : Rect c m) : BytM m := fun r hr => (h r hr).2

theorem recErr_ok {D : List (List Nat)} {c n : Nat} (h : Rect c D) (h1 : 1 ≤ c) (h2 : c ≤ 65536) (hd : 1 ≤ D.length) (hn : D.length + n ≤ 64) : recErr D n = 0 := by
  have hl : longB D = false := by
    unfold longB; rw [List.any_eq_false]
    intro i hi
    rw [plen_of h (List.mem_range.1 hi)]
    simp; omega
  have hb : badB D = false := by
    unfold badB; rw [List.any_eq_false]
    intro i hi
    rw [plen_of h (List.mem_range.1 hi), plen_of h (by omega)]
    simp; omega
  unfold recErr
  rw [if_neg (by omega), hl, hb]
  rfl
theorem recRows_ok {D : List (List Nat)} {n : Nat} (h : recErr D n = 0) : recRows D n = prodM (cauM n D.length) D := by unfold recRows; rw [if_pos h]; rfl
/-- Data parts and their recovery parts: the set. -/
theorem set_eq {D : List (List Nat)} {c n : Nat} (h : Rect c D) (hd : 1 ≤ D.length) (hE : recErr D n = 0) : D ++ recRows D n = setM D.length n D := by
  rw [recRows_ok hE]
  unfold setM rowsM prodM
  rw [List.map_append]
  have := prod_id h rfl hd
  unfold prodM at this
  rw [this]

theorem parErr_set {P : List (List Nat)} {d c : Nat} (hl : P.length ≤ 64) (h1 : 1 ≤ d) (h2 : d ≤ P.length) (hc : c ≤ 65536) (hp : ∀ i, i < P.length → plen P i = 0 ∨ plen P i = c) : parErr P d = 0 := by
  have hl' : longB P = false := by
    unfold longB; rw [List.any_eq_false]
    intro i hi
    rcases hp i (List.mem_range.1 hi) with h | h <;> rw [h] <;> simp <;> omega
  have hm : misB P = false := misB_no (L := c) fun i hi h => by rcases hp i hi with h' | h' <;> omega
  unfold parErr
  rw [if_neg (by omega), if_neg (by omega), hl', hm]
  rfl

/-- Some parts are lost. -/
def loseTo {α : Type} (z : α) (m : List α) (f : Nat → Bool) : Nat → List α
  | 0 => m
  | k + 1 => if f k then (loseTo z m f k).set k z else loseTo z m f k
def lostN (f : Nat → Bool) : Nat → Nat
  | 0 => 0
  | k + 1 => if f k then lostN f k + 1 else lostN f k
theorem lostN_le (f : Nat → Bool) (k : Nat) : lostN f k ≤ k := by
  induction k with
  | zero => exact Nat.le_refl _
  | succ k ih => unfold lostN; split <;> omega
theorem loseTo_length {α : Type} (z : α) (m : List α) (f : Nat → Bool) (k : Nat) : (loseTo z m f k).length = m.length := by
  induction k with
  | zero => rfl
  | succ k ih => unfold loseTo; split <;> simp [ih]
theorem loseTo_get {α : Type} (z : α) (m : List α) (f : Nat → Bool) (k i : Nat) (hi : i < m.length) (d : α) : (loseTo z m f k).getD i d = if i < k ∧ f i = true then z else m.getD i d := by
  induction k with
  | zero => rw [if_neg (by omega)]; rfl
  | succ k ih =>
    unfold loseTo
    by_cases hf : f k = true
    · rw [if_pos hf, List.getD_eq_getElem?_getD, List.getElem?_set]
      by_cases hik : k = i
      · subst hik
        rw [if_pos rfl, if_pos (by rw [loseTo_length]; exact hi), if_pos ⟨by omega, hf⟩]; rfl
      · rw [if_neg hik, ← List.getD_eq_getElem?_getD, ih]
        have : (i < k ∧ f i = true) ↔ (i < k + 1 ∧ f i = true) := ⟨fun h => ⟨by omega, h.2⟩, fun h => ⟨by omega, h.2⟩⟩
        simp only [this]
    · rw [if_neg hf, ih]
      by_cases hik : i = k
      · subst hik; simp [hf]
      · have : (i < k ∧ f i = true) ↔ (i < k + 1 ∧ f i = true) := ⟨fun h => ⟨by omega, h.2⟩, fun h => ⟨by omega, h.2⟩⟩
        simp only [this]

theorem over_same {P S : List (List Nat)} (h : ∀ i, i < P.length → 1 ≤ plen P i → P.getD i [] = S.getD i []) : overM P S = S := by
  have key : ∀ l : List (PI P), overTo P S l = S := by
    intro l
    induction l with
    | nil => rfl
    | cons x l ih =>
      show overTo P (S.set x.1 (P.getD x.1 [])) l = S
      rw [h x.1 x.2.1 x.2.2]
      have : S.set x.1 (S.getD x.1 []) = S := by
        apply List.ext_getElem?
        intro j
        rw [List.getElem?_set]
        by_cases hj : x.1 = j
        · subst hj
          rw [if_pos rfl]
          split
          · rename_i hl; rw [getD_some (d := []) hl]
          · rename_i hl; rw [List.getElem?_eq_none (by omega)]
        · rw [if_neg hj]
      rw [this, ih]
  exact key _

theorem pres_count (P : List (List Nat)) (f : Nat → Bool) (k : Nat) (h : ∀ i, i < k → (1 ≤ plen P i ↔ f i = false)) : ((List.range k).filter fun i => decide (1 ≤ plen P i)).length + lostN f k = k := by
  induction k with
  | zero => rfl
  | succ k ih =>
    have := ih fun i hi => h i (by omega)
    rw [List.range_succ, List.filter_append, List.length_append]
    unfold lostN
    cases hf : f k with
    | true =>
      have hn : ¬ 1 ≤ plen P k := fun hp => by have := (h k (by omega)).1 hp; rw [hf] at this; exact absurd this (by decide)
      simp [hn] at this ⊢; omega
    | false =>
      have hn : 1 ≤ plen P k := (h k (by omega)).2 hf
      simp [hn] at this ⊢; omega

/-- Lost parts of a set: repaired if there are enough. -/
theorem lose_ok {D : List (List Nat)} {d r c : Nat} (hD : Rect c D) (ld : D.length = d) (h1 : 1 ≤ d) (h2 : d + r ≤ 64) (hc1 : 1 ≤ c) (hc2 : c ≤ 65536) (f : Nat → Bool) :
    BytM (loseTo [] (setM d r D) f (d + r)) ∧ repErr (loseTo [] (setM d r D) f (d + r)) d = (if r < lostN f (d + r) then 26 else 0) ∧ repRows (loseTo [] (setM d r D) f (d + r)) d = (if r < lostN f (d + r) then [] else setM d r D) := by
  have hS := setM_rect (r := r) hD ld h1
  have hSl := setM_length d r D
  obtain ⟨P, hP⟩ : ∃ P, loseTo [] (setM d r D) f (d + r) = P := ⟨_, rfl⟩
  have hPl : P.length = d + r := by rw [← hP, loseTo_length, hSl]
  have hPg : ∀ i, i < d + r → P.getD i [] = if f i = true then [] else (setM d r D).getD i [] := by
    intro i hi
    rw [← hP, loseTo_get _ _ _ _ _ (by rw [hSl]; exact hi)]
    by_cases hf : f i = true
    · rw [if_pos ⟨hi, hf⟩, if_pos hf]
    · rw [if_neg (fun h => hf h.2), if_neg hf]
  have hPp : ∀ i, i < d + r → plen P i = if f i = true then 0 else c := by
    intro i hi
    unfold plen
    rw [hPg i hi]
    split
    · rfl
    · exact (hS.get (by rw [hSl]; exact hi)).1
  have hPf : ∀ i, i < d + r → (1 ≤ plen P i ↔ f i = false) := by
    intro i hi
    rw [hPp i hi]
    cases hf : f i <;> simp <;> omega
  have hPb : BytM P := by
    intro x hx
    obtain ⟨i, hi⟩ := List.mem_iff_getElem?.1 hx
    have hl := (List.getElem?_eq_some_iff.1 hi).1
    have hg : P.getD i [] = x := by rw [List.getD_eq_getElem?_getD, hi]; rfl
    rw [← hg, hPg i (by omega)]
    split
    · intro y hy; simp at hy
    · exact (hS.get (by rw [hSl]; omega)).2
  have hE : parErr P d = 0 := parErr_set (c := c) (by omega) h1 (by omega) hc2 fun i hi => by
    rw [hPp i (by omega)]; split
    · exact Or.inl rfl
    · exact Or.inr rfl
  have hcount : (pidx P).length + lostN f (d + r) = d + r := by
    rw [pidx_eq, hPl]; exact pres_count P f (d + r) hPf
  rw [hP]
  have hw : wErr P d = if r < lostN f (d + r) then 26 else 0 := by
    unfold wErr
    rw [if_pos hE]
    show wholeErr P (d : Int).toNat = _
    rw [Int.toNat_natCast, wholeErr_eq h1 (by omega) (by omega)]
    by_cases h : r < lostN f (d + r)
    · rw [if_pos h, if_pos (by omega)]
    · rw [if_neg h, if_neg (by omega)]
  refine ⟨hPb, hw, ?_⟩
  unfold repRows
  rw [hw]
  by_cases h : r < lostN f (d + r)
  · rw [if_pos h, if_neg (by decide), if_pos h]
  · rw [if_neg h, if_pos rfl, if_neg h]
    have hd : d ≤ (pidx P).length := by omega
    have e : wRows P d = setM d r D := by
      unfold wRows
      rw [if_pos hE]
      unfold wholeRows
      rw [Int.toNat_natCast, wholeErr_eq h1 (by omega) (by omega), if_neg (show ¬ (pidx P).length < d by omega), if_pos rfl]
      refine whole_set hD ld h1 h2 hPl (fun i hi hp => ?_) hd
      rw [hPg i hi, if_neg]
      rw [(hPf i hi).1 hp]; decide
    rw [e]
    refine over_same fun i hi hp => ?_
    rw [hPg i (by omega), if_neg]
    rw [(hPf i (by omega)).1 hp]; decide

theorem ptM_rect {l : List Nat} {n k : Nat} (hB : Byt l) (hk : k * n ≤ l.length) : Rect n (ptM l n k) := by
  intro x hx
  unfold ptM at hx
  obtain ⟨i, hi, rfl⟩ := List.mem_map.1 hx
  have hi := List.mem_range.1 hi
  refine ⟨?_, fun y hy => hB y (List.mem_of_mem_drop (List.mem_of_mem_take hy))⟩
  rw [List.length_take, List.length_drop]
  have : (i + 1) * n ≤ k * n := Nat.mul_le_mul_right n hi
  rw [Nat.add_mul] at this
  omega
theorem ptN_mul (l : List Nat) (n : Nat) : ptN l n * n ≤ l.length := by
  unfold ptN
  exact Nat.le_trans (Nat.mul_le_mul_right n (Nat.min_le_right _ _)) (Nat.div_mul_le_self _ _)
theorem ptN_le (l : List Nat) (n : Nat) : ptN l n ≤ 8 := Nat.min_le_left _ _
end Go.Proofs.Ytkclmfppjhmnjaa
