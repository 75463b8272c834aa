/- Plain: what galois.reduced computes, as matrices over the field: row equivalence, the reduced form, inverses. -/
/- Plain: what Invert returns is the inverse, and a matrix has one exactly if its rank is full. -/
/- Plain: every square part of a Cauchy matrix has full rank. No program in sight. -/
import Derived.Test.YtkclmfppjhmnjaaB20
import Derived.Test.YtkclmfppjhmnjaaB02
import Derived.Test.YtkclmfppjhmnjaaB25
import Derived.Test.YtkclmfppjhmnjaaB10
namespace Go.Proofs.Ytkclmfppjhmnjaa.Alg
open Go.Proofs.Ytkclmfppjhmnjaa

def tg (x : Nat) : G := ⟨x % 256, Nat.mod_lt _ (by decide)⟩
theorem tg_val {x : Nat} (h : x < 256) : (tg x).val = x := Nat.mod_eq_of_lt h
theorem tg_zero : tg 0 = g0 := rfl
theorem tg_one : tg 1 = g1 := rfl
theorem tg_inj {x y : Nat} (hx : x < 256) (hy : y < 256) (h : tg x = tg y) : x = y := by
  have := congrArg Fin.val h
  rw [tg_val hx, tg_val hy] at this
  exact this
theorem tg_xor {x y : Nat} (hx : x < 256) (hy : y < 256) : tg (x ^^^ y) = ga (tg x) (tg y) := Fin.ext (by rw [tg_val (Gf.xor_lt hx hy)]; show _ = (tg x).val ^^^ (tg y).val; rw [tg_val hx, tg_val hy])
theorem tg_gm {x y : Nat} (hx : x < 256) (hy : y < 256) : tg (Gf.gm x y) = gx (tg x) (tg y) := Fin.ext (by rw [tg_val (Gf.gm_lt _ _)]; show _ = Gf.gm (tg x).val (tg y).val; rw [tg_val hx, tg_val hy])
theorem tg_gi {x : Nat} (hx : x < 256) : tg (Gf.gi x) = gv (tg x) := Fin.ext (by rw [tg_val (Gf.gi_lt _)]; show _ = Gf.gi (tg x).val; rw [tg_val hx])
theorem tg_ne {x : Nat} (hx : x < 256) (h : x ≠ 0) : tg x ≠ g0 := fun e => h (tg_inj hx (by decide) e)

/-- The elements of a matrix. -/
def ent (m : List (List Nat)) : Mt := fun i j => tg ((m.getD i []).getD j 0)

theorem getD_set {α : Type} {l : List α} {i j : Nat} {x d : α} (hi : i < l.length) : (l.set i x).getD j d = if j = i then x else l.getD j d := by
  rw [List.getD_eq_getElem?_getD, List.getD_eq_getElem?_getD]
  by_cases h : i = j
  · subst h; rw [List.getElem?_set_self hi, if_pos rfl]; rfl
  · rw [List.getElem?_set_ne h, if_neg fun e => h e.symm]

def swp (p q i : Nat) : Nat := if i = q then p else if i = p then q else i
theorem swp_lt {n p q i : Nat} (hp : p < n) (hq : q < n) (hi : i < n) : swp p q i < n := by unfold swp; split; exact hp; split; exact hq; exact hi
theorem swp_swp (p q i : Nat) : swp p q (swp p q i) = i := by
  unfold swp
  by_cases h1 : i = q
  · rw [if_pos h1]
    by_cases h2 : p = q
    · rw [if_pos h2]; omega
    · rw [if_neg h2, if_pos rfl]; omega
  · rw [if_neg h1]
    by_cases h2 : i = p
    · rw [if_pos h2, if_pos rfl]; omega
    · rw [if_neg h2, if_neg h1, if_neg h2]
theorem swp_first (p q : Nat) : swp p q p = q := by
  unfold swp
  by_cases h : p = q
  · rw [if_pos h]; exact h
  · rw [if_neg h, if_pos rfl]

theorem swapM_getD {m : List (List Nat)} {p q : Nat} (hp : p < m.length) (hq : q < m.length) (i : Nat) : (swapM m p q).getD i [] = m.getD (swp p q i) [] := by
  unfold swapM swp
  rw [getD_set (by simpa using hq), getD_set hp]
  by_cases h : i = q
  · rw [if_pos h, if_pos h]
  · rw [if_neg h, if_neg h]
    by_cases h2 : i = p
    · rw [if_pos h2, if_pos h2]
    · rw [if_neg h2, if_neg h2]

theorem addMul_getD {f : Nat} {tv fr : List Nat} (h : tv.length = fr.length) {j : Nat} (hj : j < fr.length) : (addMul f tv fr).getD j 0 = tv.getD j 0 ^^^ Gf.gm f (fr.getD j 0) := by
  have h1 : tv[j]? = some (tv.getD j 0) := getD_some (by omega)
  have h2 : fr[j]? = some (fr.getD j 0) := getD_some hj
  rw [List.getD_eq_getElem?_getD]
  unfold addMul
  rw [List.getElem?_zipWith, h1, h2]; rfl

theorem map_getD {g : Nat → Nat} {l : List Nat} {j : Nat} (hj : j < l.length) : (l.map g).getD j 0 = g (l.getD j 0) := by
  rw [List.getD_eq_getElem?_getD, List.getElem?_map, getD_some (d := 0) hj]; rfl

/-- One column. -/
theorem hit_ent {cols : Nat} {m : List (List Nat)} (hm : Rect cols m) {c rank p : Nat} (hr : rank + p < m.length) {i j : Nat} (hi : i < m.length) (hj : j < cols) :
    ent (hitM m c rank p) i j =
      let V : Mt := fun i j => ent m (swp rank (rank + p) i) j
      ga (gx (if i = rank then gv (V rank c) else g1) (V i j)) (gx (if i = rank then g0 else gx (V i c) (gv (V rank c))) (V rank j)) := by
  have hm1 : Rect cols (swapM m rank (rank + p)) := swapM_rect hm (by omega) hr
  have hl1 : (swapM m rank (rank + p)).length = m.length := swapM_length _ _ _
  have hV : ∀ i j, ent m (swp rank (rank + p) i) j = tg (((swapM m rank (rank + p)).getD i []).getD j 0) := fun i j => by rw [swapM_getD (by omega) hr]; rfl
  simp only [hV]
  unfold hitM
  dsimp only
  generalize swapM m rank (rank + p) = m1 at *
  have a := hm1.get (i := rank) (by omega)
  have b := hm1.get (i := i) (by omega)
  have hpv : unitRow c (m1.getD rank []) = (m1.getD rank []).map fun t => Gf.gm t (Gf.gi ((m1.getD rank []).getD c 0)) := unitRow_eq a.2
  rw [hpv]
  have hx := a.2.getD c
  have hrow : (elimM ((m1.getD rank []).map fun t => Gf.gm t (Gf.gi ((m1.getD rank []).getD c 0))) c rank (m1.set rank ((m1.getD rank []).map fun t => Gf.gm t (Gf.gi ((m1.getD rank []).getD c 0))))).getD i [] =
      elimRow ((m1.getD rank []).map fun t => Gf.gm t (Gf.gi ((m1.getD rank []).getD c 0))) c rank i (if i = rank then ((m1.getD rank []).map fun t => Gf.gm t (Gf.gi ((m1.getD rank []).getD c 0))) else m1.getD i []) := by
    apply getD_get
    unfold elimM
    rw [List.getElem?_mapIdx, getD_some (d := []) (show i < (m1.set rank _).length by simpa using (by omega : i < m1.length)), getD_set (by omega)]
    rfl
  unfold ent
  rw [hrow]
  unfold elimRow
  by_cases h : i = rank
  · subst h
    rw [if_pos rfl, if_pos rfl, if_pos rfl, if_pos rfl, zero_gx, ga_zero, map_getD (by omega), tg_gm (a.2.getD j) (Gf.gi_lt _), tg_gi hx, gx_comm]
  · rw [if_neg h, if_neg h, if_neg h, if_neg h, one_gx, addMul_getD (by rw [List.length_map]; omega) (by rw [List.length_map]; omega), map_getD (by omega)]
    rw [tg_xor (b.2.getD j) (Gf.gm_lt _ _), tg_gm (b.2.getD c) (Gf.gm_lt _ _), tg_gm (a.2.getD j) (Gf.gi_lt _), tg_gi hx]
    congr 1
    rw [gx_comm (tg _) (gv _), ← gx_assoc]

theorem hit_re {cols : Nat} {m : List (List Nat)} (hm : Rect cols m) {c rank p : Nat} (hr : rank + p < m.length) (hx : ((m.getD (rank + p) []).getD c 0) ≠ 0) : RE m.length cols (ent m) (ent (hitM m c rank p)) := by
  have h1 : RE m.length cols (ent m) fun i j => ent m (swp rank (rank + p) i) j := RE.perm _ (fun i hi => swp_lt (by omega) hr hi) (fun i _ => swp_swp _ _ _)
  have hv : ent m (swp rank (rank + p) rank) c ≠ g0 := by
    rw [swp_first]
    exact tg_ne ((hm.get hr).2.getD c) hx
  refine (h1.trans (RE.comb (r := rank) (by omega) _ (fun i => if i = rank then gv (ent m (swp rank (rank + p) rank) c) else g1) (fun i => if i = rank then g0 else gx (ent m (swp rank (rank + p) i) c) (gv (ent m (swp rank (rank + p) rank) c))) ?_ (if_pos rfl))).eqv ?_
  · intro i _
    split
    · exact gv_ne _
    · exact g1_ne
  · intro i j hi hj
    exact hit_ent hm hr hi hj

theorem redTo_re {cols : Nat} {m : List (List Nat)} (hm : Rect cols m) (c : Nat) : RE m.length cols (ent m) (ent (redTo m c).1) := by
  induction c with
  | zero => exact RE.refl _ _ _
  | succ c ih =>
    have h := ih
    show RE m.length cols (ent m) (ent (stepR c (redTo m c)).1)
    unfold stepR
    rcases pivotAt_cases (redTo m c).1 c (redTo m c).2 with hp | ⟨k, hp, h1, h2⟩
    · rw [hp, if_pos (by decide)]; exact h
    · rw [hp, if_neg (by omega), Int.toNat_natCast]
      have := hit_re (redTo_rect hm c) h1 h2
      rw [redTo_length] at this
      exact h.trans this

theorem pivot_minus {m : List (List Nat)} {c rank : Nat} (h : pivotAt m c rank = -1) {i : Nat} (h1 : rank ≤ i) (h2 : i < m.length) : ent m i c = g0 := by
  unfold pivotAt at h
  rcases firstOf_cases (fun j => (m.getD (rank + j) []).getD c 0 != 0) (m.length - rank) with ⟨_, hz⟩ | ⟨k, hk, _⟩
  · have := hz (i - rank) (by omega)
    rw [show rank + (i - rank) = i by omega] at this
    have e : (m.getD i []).getD c 0 = 0 := by simpa using this
    unfold ent; rw [e]; rfl
  · rw [hk] at h; omega

theorem redTo_rank_le (m : List (List Nat)) (c : Nat) : (redTo m c).2 ≤ c := by
  induction c with
  | zero => exact Nat.le_refl _
  | succ c ih =>
    show (stepR c (redTo m c)).2 ≤ c + 1
    unfold stepR
    split
    · omega
    · show (redTo m c).2 + 1 ≤ c + 1; omega

/-- The rows without a pivot are zero in the columns that are done. -/
theorem redTo_zeros {cols : Nat} {m : List (List Nat)} (hm : Rect cols m) (c : Nat) (hc : c ≤ cols) : ∀ i j, (redTo m c).2 ≤ i → i < m.length → j < c → ent (redTo m c).1 i j = g0 := by
  induction c with
  | zero => intro i j _ _ h; omega
  | succ c ih =>
    have h := ih (by omega)
    have hR := redTo_rect hm c
    have hL := redTo_length m c
    intro i j
    show (stepR c (redTo m c)).2 ≤ i → i < m.length → j < c + 1 → ent (stepR c (redTo m c)).1 i j = g0
    unfold stepR
    rcases pivotAt_cases (redTo m c).1 c (redTo m c).2 with hp | ⟨k, hp, h1, h2⟩
    · rw [hp, if_pos (by decide)]
      intro hi1 hi2 hj
      by_cases hjc : j < c
      · exact h i j hi1 hi2 hjc
      · rw [show j = c by omega]; exact pivot_minus hp hi1 (by omega)
    · rw [hp, if_neg (by omega), Int.toNat_natCast]
      intro hi1 hi2 hj
      have hi1' : (redTo m c).2 + 1 ≤ i := hi1
      show ent (hitM _ _ _ _) i j = g0
      rw [hit_ent hR h1 (by omega) (show j < cols by omega)]
      generalize (redTo m c).1 = M at *
      generalize (redTo m c).2 = r at *
      dsimp only
      rw [if_neg (by omega), if_neg (by omega), one_gx]
      have hv : ent M (swp r (r + k) r) c ≠ g0 := by rw [swp_first]; exact tg_ne ((hR.get h1).2.getD c) h2
      by_cases hjc : j < c
      · have e1 : ent M (swp r (r + k) i) j = g0 := h _ j (by unfold swp; split; omega; split; omega; omega) (swp_lt (by omega) (by omega) hi2) hjc
        have e2 : ent M (swp r (r + k) r) j = g0 := by rw [swp_first]; exact h _ j (by omega) (by omega) hjc
        rw [e1, e2, gx_zero, ga_zero]
      · rw [show j = c by omega, gx_assoc, gv_gx hv, gx_one, ga_self]

/-- If every column has a pivot, the columns that are done are those of the unit matrix. -/
theorem redTo_units {cols : Nat} {m : List (List Nat)} (hm : Rect cols m) (c : Nat) (hc : c ≤ cols) (hr : (redTo m c).2 = c) : ∀ i j, i < m.length → j < c → ent (redTo m c).1 i j = one i j := by
  induction c with
  | zero => intro i j _ h; omega
  | succ c ih =>
    have hR := redTo_rect hm c
    have hL := redTo_length m c
    have hle := redTo_rank_le m c
    intro i j
    revert hr
    show (stepR c (redTo m c)).2 = c + 1 → i < m.length → j < c + 1 → ent (stepR c (redTo m c)).1 i j = one i j
    unfold stepR
    rcases pivotAt_cases (redTo m c).1 c (redTo m c).2 with hp | ⟨k, hp, h1, h2⟩
    · rw [hp, if_pos (by decide)]
      intro h; omega
    · rw [hp, if_neg (by omega), Int.toNat_natCast]
      intro hr hi hj
      have hr' : (redTo m c).2 = c := by have : (redTo m c).2 + 1 = c + 1 := hr; omega
      have h := ih (by omega) hr'
      show ent (hitM _ _ _ _) i j = one i j
      rw [hit_ent hR h1 (by omega) (show j < cols by omega)]
      rw [hr'] at h1 h2 ⊢
      generalize (redTo m c).1 = M at *
      dsimp only
      have hv : ent M (swp c (c + k) c) c ≠ g0 := by rw [swp_first]; exact tg_ne ((hR.get h1).2.getD c) h2
      have hvj : j < c → ent M (swp c (c + k) c) j = g0 := fun hjc => by
        rw [swp_first, h _ j (by omega) hjc]; unfold one; rw [if_neg (by omega)]
      by_cases hic : i = c
      · rw [if_pos hic, if_pos hic, zero_gx, ga_zero, hic]
        by_cases hjc : j < c
        · rw [hvj hjc, gx_zero]; unfold one; rw [if_neg (by omega)]
        · rw [show j = c by omega, gv_gx hv]; unfold one; rw [if_pos rfl]
      · rw [if_neg hic, if_neg hic, one_gx]
        by_cases hjc : j < c
        · rw [hvj hjc, gx_zero, ga_zero, h _ j (swp_lt (by omega) (by omega) hi) hjc]
          unfold one swp
          by_cases hik : i = c + k
          · rw [if_pos hik, if_neg (by omega), if_neg (by omega)]
          · rw [if_neg hik, if_neg hic]
        · rw [show j = c by omega, gx_assoc, gv_gx hv, gx_one, ga_self]; unfold one; rw [if_neg hic]

/-- The first matrix, beside another one, is reduced as if it were alone. -/
theorem redTo_zip2 {n k : Nat} {m o : List (List Nat)} (hm : Rect n m) (ho : Rect k o) (h : m.length = o.length) (c : Nat) (hc : c ≤ n) :
    ∃ O, redTo (zip2 m o) c = (zip2 (redTo m c).1 O, (redTo m c).2) ∧ Rect k O ∧ O.length = m.length := by
  induction c with
  | zero => exact ⟨o, rfl, ho, h.symm⟩
  | succ c ih =>
    obtain ⟨O, e, hO, hl⟩ := ih (by omega)
    have hR := redTo_rect hm c
    have hL := redTo_length m c
    have hlen : (redTo m c).1.length = O.length := by rw [hL, hl]
    show ∃ O', stepR c (redTo (zip2 m o) c) = (zip2 (stepR c (redTo m c)).1 O', (stepR c (redTo m c)).2) ∧ _ ∧ _
    rw [e]
    unfold stepR
    dsimp only
    rw [pivotAt_zip2 hR hlen (by omega)]
    rcases pivotAt_cases (redTo m c).1 c (redTo m c).2 with hp | ⟨q, hp, h1, h2⟩
    · rw [hp, if_pos (by decide), if_pos (by decide)]
      exact ⟨O, rfl, hO, hl⟩
    · rw [hp, if_neg (by omega), if_neg (by omega), Int.toNat_natCast]
      have hz := hitM_zip2 hR hO hlen (show c < n by omega) h1 rfl
      generalize (redTo m c).1 = M at *
      generalize (redTo m c).2 = r at *
      have hM1 : Rect n (swapM M r (r + q)) := swapM_rect hR (by omega) h1
      have a := hM1.get (i := r) (by rw [swapM_length]; omega)
      have hO1 : Rect k (swapM O r (r + q)) := swapM_rect hO (by omega) (by omega)
      have b := hO1.get (i := r) (by rw [swapM_length]; omega)
      obtain ⟨OO, z1, z2, z3⟩ : ∃ OO, hitM (zip2 M O) c r q = zip2 (hitM M c r q) OO ∧ Rect k OO ∧ OO.length = m.length := by
        refine ⟨_, hz.trans (congrArg (fun t => zip2 t _) ?_), ?_, ?_⟩
        · unfold hitM
          dsimp only
          rw [unitRow_eq a.2]
        · have hmap : ∀ (l : List Nat) (x : Nat), Byt (l.map fun t => Gf.gm t x) := fun l x y hy => by
            obtain ⟨t, _, rfl⟩ := List.mem_map.1 hy
            exact Gf.gm_lt _ _
          intro s hs
          unfold elimO at hs
          obtain ⟨i, hi, rfl⟩ := List.mem_mapIdx.1 hs
          exact elimRowO_rect (by rw [List.length_map]; exact b.1) _ _ _ (hO1.set ⟨by rw [List.length_map]; exact b.1, hmap _ _⟩ r) i _ (List.getElem?_eq_getElem hi)
        · unfold elimO
          rw [List.length_mapIdx, List.length_set, swapM_length, hl]

      exact ⟨OO, by rw [z1], z2, z3⟩

end Go.Proofs.Ytkclmfppjhmnjaa.Alg

namespace Go.Proofs.Ytkclmfppjhmnjaa.Alg
open Go.Proofs.Ytkclmfppjhmnjaa

theorem ent_val {n : Nat} {m : List (List Nat)} (hm : Rect n m) {i : Nat} (hi : i < m.length) (j : Nat) : (ent m i j).val = (m.getD i []).getD j 0 := tg_val ((hm.get hi).2.getD j)

/-- Two matrices with the same elements are the same. -/
theorem ent_ext {n c : Nat} {a b : List (List Nat)} (ha : Rect c a) (hb : Rect c b) (la : a.length = n) (lb : b.length = n) (h : Eqv n c (ent a) (ent b)) : a = b := by
  apply List.ext_getElem?
  intro i
  by_cases hi : i < n
  · have h1 : a[i]? = some (a.getD i []) := getD_some (by omega)
    have h2 : b[i]? = some (b.getD i []) := getD_some (by omega)
    rw [h1, h2]
    congr 1
    have ra := ha.get (i := i) (by omega)
    have rb := hb.get (i := i) (by omega)
    apply List.ext_getElem?
    intro j
    by_cases hj : j < c
    · rw [getD_some (l := a.getD i []) (d := 0) (by omega), getD_some (l := b.getD i []) (d := 0) (by omega)]
      have := congrArg Fin.val (h i j hi hj)
      rw [ent_val ha (by omega), ent_val hb (by omega)] at this
      rw [this]
    · rw [List.getElem?_eq_none (by omega), List.getElem?_eq_none (by omega)]
  · rw [List.getElem?_eq_none (by omega), List.getElem?_eq_none (by omega)]

theorem ent_zip2 {n k : Nat} {m o : List (List Nat)} (hm : Rect n m) (h : m.length = o.length) {i : Nat} (hi : i < m.length) (j : Nat) : ent (zip2 m o) i j = if j < n then ent m i j else ent o i (j - n) := by
  have _ := k
  unfold ent
  rw [zip2_getD h]
  have hl := (hm.get hi).1
  by_cases hj : j < n
  · rw [if_pos hj, getD_append_left (by omega)]
  · rw [if_neg hj, List.getD_eq_getElem?_getD, List.getElem?_append_right (by omega), hl, ← List.getD_eq_getElem?_getD]

theorem ent_id {n i : Nat} (hi : i < n) (j : Nat) (hj : j < n) : ent (idM n) i j = one i j := by
  have h1 : (idM n).getD i [] = unitVec n i := getD_get (by simp [idM, hi])
  unfold ent one
  rw [h1]
  unfold unitVec
  rw [getD_set (by simpa using hi)]
  by_cases h : i = j
  · rw [if_pos h.symm, if_pos h]; rfl
  · rw [if_neg fun e => h e.symm, if_neg h, List.getD_eq_getElem?_getD, List.getElem?_replicate]
    rw [if_pos hj]; rfl

/-- What the reduction of a square matrix beside the unit matrix gives. -/
theorem inv_data {n : Nat} {m : List (List Nat)} (hm : Rect n m) (hl : m.length = n) :
    ∃ (P : List (List Nat)) (B : Mt), Rect n P ∧ P.length = n ∧ redTo (wideM m) n = (zip2 (redTo m n).1 P, (redTo m n).2) ∧ Eqv n n (mul n (ent P) B) one ∧ Eqv n n (mul n B (ent P)) one ∧ Eqv n n (ent (redTo m n).1) (mul n (ent P) (ent m)) := by
  have hid := idM_rect n
  have hidl := idM_length n
  have hwide : zip2 m (idM n) = wideM m := by rw [← hl]; exact zip2_id m
  obtain ⟨P, e, hP, hPl⟩ := redTo_zip2 hm hid (by rw [hl, hidl]) n (Nat.le_refl _)
  rw [hwide] at e
  have hWr : Rect (n + n) (wideM m) := by rw [← hwide]; exact zip2_rect hm hid
  have hWl : (wideM m).length = n := by rw [wideM_length, hl]
  obtain ⟨A, B, h1, h2, h3⟩ := redTo_re hWr n
  rw [hWl] at h1 h2 h3
  rw [e, ← hwide] at h3
  have hML : (redTo m n).1.length = n := by rw [redTo_length, hl]
  have hMR := redTo_rect hm n
  have hPA : Eqv n n (ent P) A := by
    intro i j hi hj
    have := h3 i (n + j) hi (by omega)
    rw [ent_zip2 (k := n) hMR (by rw [hML, hPl, hl]) (by omega), if_neg (by omega), show n + j - n = j by omega] at this
    rw [this]
    have e2 : mul n A (ent (zip2 m (idM n))) i (n + j) = mul n A one i j := S_congr fun k hk => by
      rw [ent_zip2 (k := n) hm (by rw [hl, hidl]) (by omega), if_neg (by omega), show n + j - n = j by omega, ent_id hk j hj]
    rw [e2, mul_one hj]
  have hMA : Eqv n n (ent (redTo m n).1) (mul n A (ent m)) := by
    intro i j hi hj
    have := h3 i j hi (by omega)
    rw [ent_zip2 (k := n) hMR (by rw [hML, hPl, hl]) (by omega), if_pos hj] at this
    rw [this]
    exact S_congr fun k hk => by rw [ent_zip2 (k := n) hm (by rw [hl, hidl]) (by omega), if_pos hj]
  exact ⟨P, B, hP, by rw [hPl, hl], e, (hPA.mul (Eqv.refl _ _ _)).trans h1, ((Eqv.refl _ _ _).mul hPA).trans h2, hMA.trans (hPA.symm.mul (Eqv.refl _ _ _))⟩

/-- Full rank: the second matrix is the inverse, on both sides. -/
theorem inv_full {n : Nat} {m : List (List Nat)} (hm : Rect n m) (hl : m.length = n) (hr : (redTo m n).2 = n) :
    ∃ P, Rect n P ∧ P.length = n ∧ (redTo (wideM m) n).1.map (List.drop n) = P ∧ Eqv n n (mul n (ent P) (ent m)) one ∧ Eqv n n (mul n (ent m) (ent P)) one := by
  obtain ⟨P, B, hP, hPl, e, h1, h2, h3⟩ := inv_data hm hl
  have hu : Eqv n n (mul n (ent P) (ent m)) one := fun i j hi hj => by rw [← h3 i j hi hj]; exact redTo_units hm n (Nat.le_refl _) hr i j (by omega) hj
  have hB : Eqv n n (ent m) B := by
    intro i j hi hj
    have e1 : mul n B (mul n (ent P) (ent m)) i j = B i j := by
      rw [mul_congr (A' := B) (B' := one) (fun _ _ => rfl) (fun k hk => hu k j hk hj), mul_one hj]
    rw [← mul_assoc, mul_congr (A' := one) (B' := ent m) (fun k hk => h2 i k hi hk) (fun _ _ => rfl), one_mul hi] at e1
    exact e1
  refine ⟨P, hP, hPl, ?_, hu, ?_⟩
  · rw [e]
    exact zip2_drop (redTo_rect hm n) (by rw [redTo_length, hl, hPl])
  · exact (hB.mul (Eqv.refl _ _ _)).trans h2

/-- A right inverse makes the rank full. -/
theorem full_of_right {n : Nat} {m : List (List Nat)} (hm : Rect n m) (hl : m.length = n) {Y : Mt} (hY : Eqv n n (mul n (ent m) Y) one) : (redTo m n).2 = n := by
  obtain ⟨P, B, hP, hPl, e, h1, h2, h3⟩ := inv_data hm hl
  apply Classical.byContradiction
  intro hne
  have hle := redTo_rank m n
  rw [hl] at hle
  have hn : n - 1 < n := by omega
  have hz : ∀ j, j < n → ent (redTo m n).1 (n - 1) j = g0 := fun j hj => redTo_zeros hm n (Nat.le_refl _) (n - 1) j (by omega) (by omega) hj
  have hP0 : ∀ k, k < n → ent P (n - 1) k = g0 := by
    intro k hk
    have e1 : mul n (ent P) (mul n (ent m) Y) (n - 1) k = ent P (n - 1) k := by
      rw [mul_congr (A' := ent P) (B' := one) (fun _ _ => rfl) (fun l hlk => hY l k hlk hk), mul_one hk]
    rw [← e1, ← mul_assoc]
    exact S_zero fun l hlk => by rw [← h3 (n - 1) l hn hlk, hz l hlk, zero_gx]
  have := h1 (n - 1) (n - 1) hn hn
  rw [show mul n (ent P) B (n - 1) (n - 1) = g0 from S_zero fun l hlk => by rw [hP0 l hlk, zero_gx]] at this
  unfold one at this
  rw [if_pos rfl] at this
  exact g1_ne this.symm

/-- A matrix of given elements. -/
def lst (n : Nat) (A : Mt) : List (List Nat) := (List.range n).map fun i => (List.range n).map fun j => (A i j).val
theorem lst_rect (n : Nat) (A : Mt) : Rect n (lst n A) := by
  intro r hr
  obtain ⟨i, _, rfl⟩ := List.mem_map.1 hr
  refine ⟨by simp, fun x hx => ?_⟩
  obtain ⟨j, _, rfl⟩ := List.mem_map.1 hx
  exact (A i j).2
theorem lst_length (n : Nat) (A : Mt) : (lst n A).length = n := by simp [lst]
theorem lst_ent (n : Nat) (A : Mt) : Eqv n n (ent (lst n A)) A := by
  intro i j hi hj
  have h1 : (lst n A).getD i [] = (List.range n).map fun j => (A i j).val := getD_get (by simp [lst, hi])
  unfold ent
  rw [h1, show ((List.range n).map fun j => (A i j).val).getD j 0 = (A i j).val from getD_get (by simp [hj])]
  exact Fin.ext (tg_val (A i j).2)

/-- So does a left inverse. -/
theorem full_of_left {n : Nat} {m : List (List Nat)} (hm : Rect n m) (hl : m.length = n) {X : Mt} (hX : Eqv n n (mul n X (ent m)) one) : (redTo m n).2 = n := by
  obtain ⟨P, B, hP, hPl, e, h1, h2, h3⟩ := inv_data hm hl
  have hle := redTo_rank m n
  rw [hl] at hle
  apply Classical.byContradiction
  intro hne
  have hn : n - 1 < n := by omega
  -- m = B M
  have hBM : Eqv n n (mul n B (ent (redTo m n).1)) (ent m) := by
    intro i j hi hj
    rw [mul_congr (A' := B) (B' := mul n (ent P) (ent m)) (fun _ _ => rfl) (fun k hk => h3 k j hk hj), ← mul_assoc, mul_congr (A' := one) (B' := ent m) (fun k hk => h2 i k hi hk) (fun _ _ => rfl), one_mul hi]
  have hS : Eqv n n (mul n (ent (lst n (mul n X B))) (ent (redTo m n).1)) one := by
    intro i j hi hj
    rw [mul_congr (A' := mul n X B) (B' := ent (redTo m n).1) (fun k hk => lst_ent n _ i k hi hk) (fun _ _ => rfl), mul_assoc, mul_congr (A' := X) (B' := ent m) (fun _ _ => rfl) (fun k hk => hBM k j hk hj)]
    exact hX i j hi hj
  have hSf := full_of_right (lst_rect n _) (lst_length n _) hS
  obtain ⟨T, hT, hTl, _, t1, t2⟩ := inv_full (lst_rect n _) (lst_length n _) hSf
  -- M = T, so M S = 1, and M has a row of zeros
  have hMT : Eqv n n (ent (redTo m n).1) (ent T) := by
    intro i j hi hj
    have e1 : mul n (ent T) (mul n (ent (lst n (mul n X B))) (ent (redTo m n).1)) i j = ent T i j := by
      rw [mul_congr (A' := ent T) (B' := one) (fun _ _ => rfl) (fun k hk => hS k j hk hj), mul_one hj]
    rw [← mul_assoc, mul_congr (A' := one) (B' := ent (redTo m n).1) (fun k hk => t1 i k hi hk) (fun _ _ => rfl), one_mul hi] at e1
    exact e1
  have hz : ∀ j, j < n → ent T (n - 1) j = g0 := fun j hj => by rw [← hMT _ _ hn hj]; exact redTo_zeros hm n (Nat.le_refl _) (n - 1) j (by omega) (by omega) hj
  have := t1 (n - 1) (n - 1) hn hn
  rw [show mul n (ent T) (ent (lst n (mul n X B))) (n - 1) (n - 1) = g0 from S_zero fun l hlk => by rw [hz l hlk, zero_gx]] at this
  unfold one at this
  rw [if_pos rfl] at this
  exact g1_ne this.symm

theorem ent_prod {n c : Nat} {a b : List (List Nat)} (ha : Rect n a) (hb : Rect c b) (lb : b.length = n) {i j : Nat} (hi : i < a.length) (hj : j < c) (hc : (b.getD 0 []).length = c) : ent (prodM a b) i j = mul n (ent a) (ent b) i j := by
  have h1 : (prodM a b).getD i [] = prTo (a.getD i []) b c b.length := getD_get (by rw [prodM_get (getD_some (d := []) hi), hc])
  have ra := ha.get hi
  have key : ∀ k, k ≤ b.length → tg (acc (a.getD i []) b j k) = S k fun l => gx (ent a i l) (ent b l j) := by
    intro k
    induction k with
    | zero => intro _; rfl
    | succ k ih =>
      intro hk
      have rb := hb.get (i := k) (by omega)
      show tg (acc _ _ _ k ^^^ _) = ga (S k _) _
      rw [tg_xor (acc_lt _ _ _ _) (Gf.gm_lt _ _), ih (by omega), tg_gm (ra.2.getD k) (rb.2.getD j)]
      rfl
  show tg (((prodM a b).getD i []).getD j 0) = _
  rw [h1, getD_get (prTo_acc hb hj b.length (Nat.le_refl _)), key b.length (Nat.le_refl _), lb]
  rfl

end Go.Proofs.Ytkclmfppjhmnjaa.Alg

namespace Go.Proofs.Ytkclmfppjhmnjaa.Alg
open Go.Proofs.Ytkclmfppjhmnjaa

/-- If no combination of the rows but the empty one vanishes, the rank is full. -/
theorem full_of_indep {n : Nat} {m : List (List Nat)} (hm : Rect n m) (hl : m.length = n) (h : ∀ u : Nat → G, (∀ j, j < n → S n (fun i => gx (u i) (ent m i j)) = g0) → ∀ i, i < n → u i = g0) : (redTo m n).2 = n := by
  obtain ⟨P, B, hP, hPl, e, h1, h2, h3⟩ := inv_data hm hl
  apply Classical.byContradiction
  intro hne
  have hle := redTo_rank m n
  rw [hl] at hle
  have hn : n - 1 < n := by omega
  have hz : ∀ j, j < n → ent (redTo m n).1 (n - 1) j = g0 := fun j hj => redTo_zeros hm n (Nat.le_refl _) (n - 1) j (by omega) (by omega) hj
  have hP0 : ∀ k, k < n → ent P (n - 1) k = g0 := h (fun k => ent P (n - 1) k) fun j hj => by
    have := h3 (n - 1) j hn hj
    rw [hz j hj] at this
    exact this.symm
  have := h1 (n - 1) (n - 1) hn hn
  rw [show mul n (ent P) B (n - 1) (n - 1) = g0 from S_zero fun l hlk => by rw [hP0 l hlk, zero_gx]] at this
  unfold one at this
  rw [if_pos rfl] at this
  exact g1_ne this.symm

theorem ga_cancel (a b c : G) : ga (ga a b) (ga c b) = ga a c := by rw [ga_swap, ga_self, ga_zero]

/-- (c + a)/a + (c + b)/b = (c/b)(a + b)/a. -/
theorem frac_sum {a b c : G} (ha : a ≠ g0) (hb : b ≠ g0) : ga (gx (ga c a) (gv a)) (gx (ga c b) (gv b)) = gx (gx (gx c (gv b)) (gv a)) (ga a b) := by
  rw [ga_gx, ga_gx, gx_gv ha, gx_gv hb, ga_cancel, gx_ga, gx_assoc (gx c (gv b)), gv_gx ha, gx_one, gx_assoc (gx c (gv b)), gx_comm (gv a) b, ← gx_assoc, gx_assoc c, gv_gx hb, gx_one, ga_comm]

theorem cauchy_indep (s : Nat) : ∀ (x y u : Nat → G), (∀ i j, i < s → j < s → x i = x j → i = j) → (∀ i j, i < s → j < s → y i = y j → i = j) → (∀ i j, i < s → j < s → ga (x i) (y j) ≠ g0) →
    (∀ j, j < s → S s (fun i => gx (u i) (gv (ga (x i) (y j)))) = g0) → ∀ i, i < s → u i = g0 := by
  induction s with
  | zero => intro x y u _ _ _ _ i hi; omega
  | succ s ih =>
    intro x y u hx hy hxy h
    have key : ∀ i, i < s → u i = g0 := by
      intro i hi
      have hu := ih x y (fun i => gx (u i) (gx (ga (x s) (x i)) (gv (ga (x i) (y s))))) (fun i j hi hj => hx i j (by omega) (by omega)) (fun i j hi hj => hy i j (by omega) (by omega)) (fun i j hi hj => hxy i j (by omega) (by omega)) (fun j hj => by
        have e1 := h j (by omega)
        have e2 := h s (by omega)
        have e1' : ga (S s fun i => gx (u i) (gv (ga (x i) (y j)))) (gx (u s) (gv (ga (x s) (y j)))) = g0 := e1
        have e2' : ga (S s fun i => gx (u i) (gv (ga (x i) (y s)))) (gx (u s) (gv (ga (x s) (y s)))) = g0 := e2
        have nj := hxy s j (by omega) (by omega)
        have ns := hxy s s (by omega) (by omega)
        -- multiply
        have m1 : ga (S s fun i => gx (gx (u i) (gv (ga (x i) (y j)))) (ga (x s) (y j))) (u s) = g0 := by
          have := congrArg (fun t => gx t (ga (x s) (y j))) e1'
          simp only [zero_gx, ga_gx, S_right] at this
          rw [gx_assoc (u s), gv_gx nj, gx_one] at this
          exact this
        have m2 : ga (S s fun i => gx (gx (u i) (gv (ga (x i) (y s)))) (ga (x s) (y s))) (u s) = g0 := by
          have := congrArg (fun t => gx t (ga (x s) (y s))) e2'
          simp only [zero_gx, ga_gx, S_right] at this
          rw [gx_assoc (u s), gv_gx ns, gx_one] at this
          exact this
        have m3 : S s (fun i => ga (gx (gx (u i) (gv (ga (x i) (y j)))) (ga (x s) (y j))) (gx (gx (u i) (gv (ga (x i) (y s)))) (ga (x s) (y s)))) = g0 := by
          rw [S_ga]
          have := ga_cancel (S s fun i => gx (gx (u i) (gv (ga (x i) (y j)))) (ga (x s) (y j))) (u s) (S s fun i => gx (gx (u i) (gv (ga (x i) (y s)))) (ga (x s) (y s)))
          rw [m1, m2, ga_zero] at this
          exact this.symm
        have hjs : ga (y j) (y s) ≠ g0 := fun e => by have := hy j s (by omega) (by omega) (ga_eq_zero e); omega
        have m4 : gx (S s fun i => gx (gx (u i) (gx (ga (x s) (x i)) (gv (ga (x i) (y s))))) (gv (ga (x i) (y j)))) (ga (y j) (y s)) = g0 := by
          rw [S_right, ← m3]
          refine S_congr fun i hi => ?_
          have na := hxy i j (by omega) (by omega)
          have nb := hxy i s (by omega) (by omega)
          have f := frac_sum (a := ga (x i) (y j)) (b := ga (x i) (y s)) (c := ga (x s) (x i)) na nb
          have r1 : ga (ga (x s) (x i)) (ga (x i) (y j)) = ga (x s) (y j) := by rw [ga_assoc, ← ga_assoc (x i), ga_self, zero_ga]
          have r2 : ga (ga (x s) (x i)) (ga (x i) (y s)) = ga (x s) (y s) := by rw [ga_assoc, ← ga_assoc (x i), ga_self, zero_ga]
          have r3 : ga (ga (x i) (y j)) (ga (x i) (y s)) = ga (y j) (y s) := by rw [ga_swap, ga_self, zero_ga]
          rw [r1, r2, r3] at f
          rw [gx_assoc (u i) (gv (ga (x i) (y j))), gx_assoc (u i) (gv (ga (x i) (y s))), ← gx_ga, gx_comm (gv (ga (x i) (y j))), gx_comm (gv (ga (x i) (y s))), f]
          rw [gx_assoc (u i), gx_assoc (u i)]
        exact gx_eq_zero m4 hjs) i hi
      have n1 : gx (ga (x s) (x i)) (gv (ga (x i) (y s))) ≠ g0 := fun e => by
        have := ga_eq_zero (gx_eq_zero e (gv_ne _))
        have := hx s i (by omega) (by omega) this
        omega
      exact gx_eq_zero hu n1
    intro i hi
    by_cases his : i < s
    · exact key i his
    · have : i = s := by omega
      subst this
      have e2 := h i (by omega)
      have e2' : ga (S i fun k => gx (u k) (gv (ga (x k) (y i)))) (gx (u i) (gv (ga (x i) (y i)))) = g0 := e2
      rw [S_zero (fun k hk => by rw [key k hk, zero_gx]), zero_ga] at e2'
      exact gx_eq_zero e2' (gv_ne _)

/-- The part of the Cauchy matrix with n rows at the rows is and the columns ks. -/
def partM (n : Nat) (is ks : List Nat) : List (List Nat) := is.map fun i => ks.map fun k => Gf.gi (i ^^^ (n + k))

theorem partM_length (n : Nat) (is ks : List Nat) : (partM n is ks).length = is.length := by simp [partM]
theorem partM_rect (n : Nat) (is ks : List Nat) : Rect ks.length (partM n is ks) := by
  intro r hr
  obtain ⟨i, _, rfl⟩ := List.mem_map.1 hr
  refine ⟨by simp, fun x hx => ?_⟩
  obtain ⟨k, _, rfl⟩ := List.mem_map.1 hx
  exact Gf.gi_lt _

theorem nodup_get {l : List Nat} (h : l.Nodup) {i j : Nat} (hi : i < l.length) (hj : j < l.length) (e : l.getD i 0 = l.getD j 0) : i = j := by
  rw [List.getD_eq_getElem?_getD, List.getD_eq_getElem?_getD, List.getElem?_eq_getElem hi, List.getElem?_eq_getElem hj] at e
  simp only [Option.getD_some] at e
  have hp : List.Pairwise (· ≠ ·) l := h
  rw [List.pairwise_iff_getElem] at hp
  rcases Nat.lt_trichotomy i j with hlt | rfl | hgt
  · exact absurd e (hp i j hi hj hlt)
  · rfl
  · exact absurd e.symm (hp j i hj hi hgt)

theorem part_full {n m : Nat} {is ks : List Nat} (hn : n ≤ 64) (hm : m ≤ 64) (hl : is.length = ks.length) (hi : ∀ i ∈ is, i < n) (hk : ∀ k ∈ ks, k < m) (di : is.Nodup) (dk : ks.Nodup) : (redTo (partM n is ks) is.length).2 = is.length := by
  have hR := partM_rect n is ks
  rw [← hl] at hR
  have hi' : ∀ i, i < is.length → is.getD i 0 < n := fun i h => by
    rw [List.getD_eq_getElem?_getD, List.getElem?_eq_getElem h]; exact hi _ (List.getElem_mem h)
  have hk' : ∀ i, i < is.length → ks.getD i 0 < m := fun i h => by
    rw [List.getD_eq_getElem?_getD, List.getElem?_eq_getElem (by omega)]; exact hk _ (List.getElem_mem _)
  have he : ∀ i j, i < is.length → j < is.length → ent (partM n is ks) i j = gv (ga (tg (is.getD i 0)) (tg (n + ks.getD j 0))) := by
    intro i j h1 h2
    have b1 := hi' i h1
    have b2 := hk' j h2
    have : ((partM n is ks).getD i []).getD j 0 = Gf.gi (is.getD i 0 ^^^ (n + ks.getD j 0)) := by
      unfold partM
      rw [List.getD_eq_getElem?_getD, List.getD_eq_getElem?_getD, List.getElem?_map, List.getElem?_eq_getElem h1]
      simp only [Option.map_some, Option.getD_some, List.getElem?_map]
      rw [List.getElem?_eq_getElem (show j < ks.length by omega)]
      simp only [Option.map_some, Option.getD_some]
      rw [List.getD_eq_getElem?_getD, List.getD_eq_getElem?_getD, List.getElem?_eq_getElem h1, List.getElem?_eq_getElem (show j < ks.length by omega)]
      rfl
    unfold ent
    rw [this, tg_gi (Gf.xor_lt (by omega) (by omega)), tg_xor (by omega) (by omega)]
  refine full_of_indep hR (partM_length n is ks) fun u hu => ?_
  refine cauchy_indep is.length (fun i => tg (is.getD i 0)) (fun j => tg (n + ks.getD j 0)) u ?_ ?_ ?_ fun j hj => ?_
  · intro i j h1 h2 e
    exact nodup_get di h1 h2 (tg_inj (by have := hi' i h1; omega) (by have := hi' j h2; omega) e)
  · intro i j h1 h2 e
    have := tg_inj (by have := hk' i h1; omega) (by have := hk' j h2; omega) e
    exact nodup_get dk (by omega) (by omega) (by omega)
  · intro i j h1 h2 e
    have := tg_inj (by have := hi' i h1; omega) (by have := hk' j h2; omega) (ga_eq_zero e)
    have := hi' i h1
    omega
  · rw [← hu j hj]
    exact S_congr fun i h => by rw [he i j h hj]
end Go.Proofs.Ytkclmfppjhmnjaa.Alg
