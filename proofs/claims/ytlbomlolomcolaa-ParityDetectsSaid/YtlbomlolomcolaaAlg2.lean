/- Plain: what galois.reduced computes, as matrices over the field: row equivalence, the reduced form, inverses. -/
import Derived.Test.YtlbomlolomcolaaAlg
import Derived.Test.YtlbomlolomcolaaLin2
namespace Go.Proofs.Ytlbomlolomcolaa.Alg
open Go.Proofs.Ytlbomlolomcolaa

def tg (x : Nat) : G := ⟨x % 256, Nat.mod_lt _ (by decide)⟩
theorem tg_val {x : Nat} (h : x < 256) : (tg x).val = x := Nat.mod_eq_of_lt h
theorem tg_zero : tg 0 = g0 := rfl
theorem tg_one : tg 1 = g1 := rfl
theorem tg_inj {x y : Nat} (hx : x < 256) (hy : y < 256) (h : tg x = tg y) : x = y := by
  have := congrArg Fin.val h
  rw [tg_val hx, tg_val hy] at this
  exact this
theorem tg_xor {x y : Nat} (hx : x < 256) (hy : y < 256) : tg (x ^^^ y) = ga (tg x) (tg y) := Fin.ext (by rw [tg_val (Gf.xor_lt hx hy)]; show _ = (tg x).val ^^^ (tg y).val; rw [tg_val hx, tg_val hy])
theorem tg_gm {x y : Nat} (hx : x < 256) (hy : y < 256) : tg (Gf.gm x y) = gx (tg x) (tg y) := Fin.ext (by rw [tg_val (Gf.gm_lt _ _)]; show _ = Gf.gm (tg x).val (tg y).val; rw [tg_val hx, tg_val hy])
theorem tg_gi {x : Nat} (hx : x < 256) : tg (Gf.gi x) = gv (tg x) := Fin.ext (by rw [tg_val (Gf.gi_lt _)]; show _ = Gf.gi (tg x).val; rw [tg_val hx])
theorem tg_ne {x : Nat} (hx : x < 256) (h : x ≠ 0) : tg x ≠ g0 := fun e => h (tg_inj hx (by decide) e)

/-- The elements of a matrix. -/
def ent (m : List (List Nat)) : Mt := fun i j => tg ((m.getD i []).getD j 0)

theorem getD_set {α : Type} {l : List α} {i j : Nat} {x d : α} (hi : i < l.length) : (l.set i x).getD j d = if j = i then x else l.getD j d := by
  rw [List.getD_eq_getElem?_getD, List.getD_eq_getElem?_getD]
  by_cases h : i = j
  · subst h; rw [List.getElem?_set_self hi, if_pos rfl]; rfl
  · rw [List.getElem?_set_ne h, if_neg fun e => h e.symm]

def swp (p q i : Nat) : Nat := if i = q then p else if i = p then q else i
theorem swp_lt {n p q i : Nat} (hp : p < n) (hq : q < n) (hi : i < n) : swp p q i < n := by unfold swp; split; exact hp; split; exact hq; exact hi
theorem swp_swp (p q i : Nat) : swp p q (swp p q i) = i := by
  unfold swp
  by_cases h1 : i = q
  · rw [if_pos h1]
    by_cases h2 : p = q
    · rw [if_pos h2]; omega
    · rw [if_neg h2, if_pos rfl]; omega
  · rw [if_neg h1]
    by_cases h2 : i = p
    · rw [if_pos h2, if_pos rfl]; omega
    · rw [if_neg h2, if_neg h1, if_neg h2]
theorem swp_first (p q : Nat) : swp p q p = q := by
  unfold swp
  by_cases h : p = q
  · rw [if_pos h]; exact h
  · rw [if_neg h, if_pos rfl]

theorem swapM_getD {m : List (List Nat)} {p q : Nat} (hp : p < m.length) (hq : q < m.length) (i : Nat) : (swapM m p q).getD i [] = m.getD (swp p q i) [] := by
  unfold swapM swp
  rw [getD_set (by simpa using hq), getD_set hp]
  by_cases h : i = q
  · rw [if_pos h, if_pos h]
  · rw [if_neg h, if_neg h]
    by_cases h2 : i = p
    · rw [if_pos h2, if_pos h2]
    · rw [if_neg h2, if_neg h2]

theorem addMul_getD {f : Nat} {to fr : List Nat} (h : to.length = fr.length) {j : Nat} (hj : j < fr.length) : (addMul f to fr).getD j 0 = to.getD j 0 ^^^ Gf.gm f (fr.getD j 0) := by
  have h1 : to[j]? = some (to.getD j 0) := getD_some (by omega)
  have h2 : fr[j]? = some (fr.getD j 0) := getD_some hj
  rw [List.getD_eq_getElem?_getD]
  unfold addMul
  rw [List.getElem?_zipWith, h1, h2]; rfl

theorem map_getD {g : Nat → Nat} {l : List Nat} {j : Nat} (hj : j < l.length) : (l.map g).getD j 0 = g (l.getD j 0) := by
  rw [List.getD_eq_getElem?_getD, List.getElem?_map, getD_some (d := 0) hj]; rfl

/-- One column. -/
theorem hit_ent {cols : Nat} {m : List (List Nat)} (hm : Rect cols m) {c rank p : Nat} (hr : rank + p < m.length) {i j : Nat} (hi : i < m.length) (hj : j < cols) :
    ent (hitM m c rank p) i j =
      let V : Mt := fun i j => ent m (swp rank (rank + p) i) j
      ga (gx (if i = rank then gv (V rank c) else g1) (V i j)) (gx (if i = rank then g0 else gx (V i c) (gv (V rank c))) (V rank j)) := by
  have hm1 : Rect cols (swapM m rank (rank + p)) := swapM_rect hm (by omega) hr
  have hl1 : (swapM m rank (rank + p)).length = m.length := swapM_length _ _ _
  have hV : ∀ i j, ent m (swp rank (rank + p) i) j = tg (((swapM m rank (rank + p)).getD i []).getD j 0) := fun i j => by rw [swapM_getD (by omega) hr]; rfl
  simp only [hV]
  unfold hitM
  dsimp only
  generalize swapM m rank (rank + p) = m1 at *
  have a := hm1.get (i := rank) (by omega)
  have b := hm1.get (i := i) (by omega)
  have hpv : unitRow c (m1.getD rank []) = (m1.getD rank []).map fun t => Gf.gm t (Gf.gi ((m1.getD rank []).getD c 0)) := unitRow_eq a.2
  rw [hpv]
  have hx := a.2.getD c
  have hrow : (elimM ((m1.getD rank []).map fun t => Gf.gm t (Gf.gi ((m1.getD rank []).getD c 0))) c rank (m1.set rank ((m1.getD rank []).map fun t => Gf.gm t (Gf.gi ((m1.getD rank []).getD c 0))))).getD i [] =
      elimRow ((m1.getD rank []).map fun t => Gf.gm t (Gf.gi ((m1.getD rank []).getD c 0))) c rank i (if i = rank then ((m1.getD rank []).map fun t => Gf.gm t (Gf.gi ((m1.getD rank []).getD c 0))) else m1.getD i []) := by
    apply getD_get
    unfold elimM
    rw [List.getElem?_mapIdx, getD_some (d := []) (show i < (m1.set rank _).length by simpa using (by omega : i < m1.length)), getD_set (by omega)]
    rfl
  unfold ent
  rw [hrow]
  unfold elimRow
  by_cases h : i = rank
  · subst h
    rw [if_pos rfl, if_pos rfl, if_pos rfl, if_pos rfl, zero_gx, ga_zero, map_getD (by omega), tg_gm (a.2.getD j) (Gf.gi_lt _), tg_gi hx, gx_comm]
  · rw [if_neg h, if_neg h, if_neg h, if_neg h, one_gx, addMul_getD (by rw [List.length_map]; omega) (by rw [List.length_map]; omega), map_getD (by omega)]
    rw [tg_xor (b.2.getD j) (Gf.gm_lt _ _), tg_gm (b.2.getD c) (Gf.gm_lt _ _), tg_gm (a.2.getD j) (Gf.gi_lt _), tg_gi hx]
    congr 1
    rw [gx_comm (tg _) (gv _), ← gx_assoc]

theorem hit_re {cols : Nat} {m : List (List Nat)} (hm : Rect cols m) {c rank p : Nat} (hr : rank + p < m.length) (hx : ((m.getD (rank + p) []).getD c 0) ≠ 0) : RE m.length cols (ent m) (ent (hitM m c rank p)) := by
  have h1 : RE m.length cols (ent m) fun i j => ent m (swp rank (rank + p) i) j := RE.perm _ (fun i hi => swp_lt (by omega) hr hi) (fun i _ => swp_swp _ _ _)
  have hv : ent m (swp rank (rank + p) rank) c ≠ g0 := by
    rw [swp_first]
    exact tg_ne ((hm.get hr).2.getD c) hx
  refine (h1.trans (RE.comb (r := rank) (by omega) _ (fun i => if i = rank then gv (ent m (swp rank (rank + p) rank) c) else g1) (fun i => if i = rank then g0 else gx (ent m (swp rank (rank + p) i) c) (gv (ent m (swp rank (rank + p) rank) c))) ?_ (if_pos rfl))).eqv ?_
  · intro i _
    split
    · exact gv_ne _
    · exact g1_ne
  · intro i j hi hj
    exact hit_ent hm hr hi hj

theorem redTo_re {cols : Nat} {m : List (List Nat)} (hm : Rect cols m) (c : Nat) : RE m.length cols (ent m) (ent (redTo m c).1) := by
  induction c with
  | zero => exact RE.refl _ _ _
  | succ c ih =>
    have h := ih
    show RE m.length cols (ent m) (ent (stepR c (redTo m c)).1)
    unfold stepR
    rcases pivotAt_cases (redTo m c).1 c (redTo m c).2 with hp | ⟨k, hp, h1, h2⟩
    · rw [hp, if_pos (by decide)]; exact h
    · rw [hp, if_neg (by omega), Int.toNat_natCast]
      have := hit_re (redTo_rect hm c) h1 h2
      rw [redTo_length] at this
      exact h.trans this

theorem pivot_minus {m : List (List Nat)} {c rank : Nat} (h : pivotAt m c rank = -1) {i : Nat} (h1 : rank ≤ i) (h2 : i < m.length) : ent m i c = g0 := by
  unfold pivotAt at h
  rcases firstOf_cases (fun j => (m.getD (rank + j) []).getD c 0 != 0) (m.length - rank) with ⟨_, hz⟩ | ⟨k, hk, _⟩
  · have := hz (i - rank) (by omega)
    rw [show rank + (i - rank) = i by omega] at this
    have e : (m.getD i []).getD c 0 = 0 := by simpa using this
    unfold ent; rw [e]; rfl
  · rw [hk] at h; omega

theorem redTo_rank_le (m : List (List Nat)) (c : Nat) : (redTo m c).2 ≤ c := by
  induction c with
  | zero => exact Nat.le_refl _
  | succ c ih =>
    show (stepR c (redTo m c)).2 ≤ c + 1
    unfold stepR
    split
    · omega
    · show (redTo m c).2 + 1 ≤ c + 1; omega

/-- The rows without a pivot are zero in the columns that are done. -/
theorem redTo_zeros {cols : Nat} {m : List (List Nat)} (hm : Rect cols m) (c : Nat) (hc : c ≤ cols) : ∀ i j, (redTo m c).2 ≤ i → i < m.length → j < c → ent (redTo m c).1 i j = g0 := by
  induction c with
  | zero => intro i j _ _ h; omega
  | succ c ih =>
    have h := ih (by omega)
    have hR := redTo_rect hm c
    have hL := redTo_length m c
    intro i j
    show (stepR c (redTo m c)).2 ≤ i → i < m.length → j < c + 1 → ent (stepR c (redTo m c)).1 i j = g0
    unfold stepR
    rcases pivotAt_cases (redTo m c).1 c (redTo m c).2 with hp | ⟨k, hp, h1, h2⟩
    · rw [hp, if_pos (by decide)]
      intro hi1 hi2 hj
      by_cases hjc : j < c
      · exact h i j hi1 hi2 hjc
      · rw [show j = c by omega]; exact pivot_minus hp hi1 (by omega)
    · rw [hp, if_neg (by omega), Int.toNat_natCast]
      intro hi1 hi2 hj
      have hi1' : (redTo m c).2 + 1 ≤ i := hi1
      show ent (hitM _ _ _ _) i j = g0
      rw [hit_ent hR h1 (by omega) (show j < cols by omega)]
      generalize (redTo m c).1 = M at *
      generalize (redTo m c).2 = r at *
      dsimp only
      rw [if_neg (by omega), if_neg (by omega), one_gx]
      have hv : ent M (swp r (r + k) r) c ≠ g0 := by rw [swp_first]; exact tg_ne ((hR.get h1).2.getD c) h2
      by_cases hjc : j < c
      · have e1 : ent M (swp r (r + k) i) j = g0 := h _ j (by unfold swp; split; omega; split; omega; omega) (swp_lt (by omega) (by omega) hi2) hjc
        have e2 : ent M (swp r (r + k) r) j = g0 := by rw [swp_first]; exact h _ j (by omega) (by omega) hjc
        rw [e1, e2, gx_zero, ga_zero]
      · rw [show j = c by omega, gx_assoc, gv_gx hv, gx_one, ga_self]

/-- If every column has a pivot, the columns that are done are those of the unit matrix. -/
theorem redTo_units {cols : Nat} {m : List (List Nat)} (hm : Rect cols m) (c : Nat) (hc : c ≤ cols) (hr : (redTo m c).2 = c) : ∀ i j, i < m.length → j < c → ent (redTo m c).1 i j = one i j := by
  induction c with
  | zero => intro i j _ h; omega
  | succ c ih =>
    have hR := redTo_rect hm c
    have hL := redTo_length m c
    have hle := redTo_rank_le m c
    intro i j
    revert hr
    show (stepR c (redTo m c)).2 = c + 1 → i < m.length → j < c + 1 → ent (stepR c (redTo m c)).1 i j = one i j
    unfold stepR
    rcases pivotAt_cases (redTo m c).1 c (redTo m c).2 with hp | ⟨k, hp, h1, h2⟩
    · rw [hp, if_pos (by decide)]
      intro h; omega
    · rw [hp, if_neg (by omega), Int.toNat_natCast]
      intro hr hi hj
      have hr' : (redTo m c).2 = c := by have : (redTo m c).2 + 1 = c + 1 := hr; omega
      have h := ih (by omega) hr'
      show ent (hitM _ _ _ _) i j = one i j
      rw [hit_ent hR h1 (by omega) (show j < cols by omega)]
      rw [hr'] at h1 h2 ⊢
      generalize (redTo m c).1 = M at *
      dsimp only
      have hv : ent M (swp c (c + k) c) c ≠ g0 := by rw [swp_first]; exact tg_ne ((hR.get h1).2.getD c) h2
      have hvj : j < c → ent M (swp c (c + k) c) j = g0 := fun hjc => by
        rw [swp_first, h _ j (by omega) hjc]; unfold one; rw [if_neg (by omega)]
      by_cases hic : i = c
      · rw [if_pos hic, if_pos hic, zero_gx, ga_zero, hic]
        by_cases hjc : j < c
        · rw [hvj hjc, gx_zero]; unfold one; rw [if_neg (by omega)]
        · rw [show j = c by omega, gv_gx hv]; unfold one; rw [if_pos rfl]
      · rw [if_neg hic, if_neg hic, one_gx]
        by_cases hjc : j < c
        · rw [hvj hjc, gx_zero, ga_zero, h _ j (swp_lt (by omega) (by omega) hi) hjc]
          unfold one swp
          by_cases hik : i = c + k
          · rw [if_pos hik, if_neg (by omega), if_neg (by omega)]
          · rw [if_neg hik, if_neg hic]
        · rw [show j = c by omega, gx_assoc, gv_gx hv, gx_one, ga_self]; unfold one; rw [if_neg hic]

/-- The first matrix, beside another one, is reduced as if it were alone. -/
theorem redTo_zip2 {n k : Nat} {m o : List (List Nat)} (hm : Rect n m) (ho : Rect k o) (h : m.length = o.length) (c : Nat) (hc : c ≤ n) :
    ∃ O, redTo (zip2 m o) c = (zip2 (redTo m c).1 O, (redTo m c).2) ∧ Rect k O ∧ O.length = m.length := by
  induction c with
  | zero => exact ⟨o, rfl, ho, h.symm⟩
  | succ c ih =>
    obtain ⟨O, e, hO, hl⟩ := ih (by omega)
    have hR := redTo_rect hm c
    have hL := redTo_length m c
    have hlen : (redTo m c).1.length = O.length := by rw [hL, hl]
    show ∃ O', stepR c (redTo (zip2 m o) c) = (zip2 (stepR c (redTo m c)).1 O', (stepR c (redTo m c)).2) ∧ _ ∧ _
    rw [e]
    unfold stepR
    dsimp only
    rw [pivotAt_zip2 hR hlen (by omega)]
    rcases pivotAt_cases (redTo m c).1 c (redTo m c).2 with hp | ⟨q, hp, h1, h2⟩
    · rw [hp, if_pos (by decide), if_pos (by decide)]
      exact ⟨O, rfl, hO, hl⟩
    · rw [hp, if_neg (by omega), if_neg (by omega), Int.toNat_natCast]
      have hz := hitM_zip2 hR hO hlen (show c < n by omega) h1 rfl
      generalize (redTo m c).1 = M at *
      generalize (redTo m c).2 = r at *
      have hM1 : Rect n (swapM M r (r + q)) := swapM_rect hR (by omega) h1
      have a := hM1.get (i := r) (by rw [swapM_length]; omega)
      have hO1 : Rect k (swapM O r (r + q)) := swapM_rect hO (by omega) (by omega)
      have b := hO1.get (i := r) (by rw [swapM_length]; omega)
      obtain ⟨OO, z1, z2, z3⟩ : ∃ OO, hitM (zip2 M O) c r q = zip2 (hitM M c r q) OO ∧ Rect k OO ∧ OO.length = m.length := by
        refine ⟨_, hz.trans (congrArg (fun t => zip2 t _) ?_), ?_, ?_⟩
        · unfold hitM
          dsimp only
          rw [unitRow_eq a.2]
        · have hmap : ∀ (l : List Nat) (x : Nat), Byt (l.map fun t => Gf.gm t x) := fun l x y hy => by
            obtain ⟨t, _, rfl⟩ := List.mem_map.1 hy
            exact Gf.gm_lt _ _
          intro s hs
          unfold elimO at hs
          obtain ⟨i, hi, rfl⟩ := List.mem_mapIdx.1 hs
          exact elimRowO_rect (by rw [List.length_map]; exact b.1) _ _ _ (hO1.set ⟨by rw [List.length_map]; exact b.1, hmap _ _⟩ r) i _ (List.getElem?_eq_getElem hi)
        · unfold elimO
          rw [List.length_mapIdx, List.length_set, swapM_length, hl]

      exact ⟨OO, by rw [z1], z2, z3⟩

end Go.Proofs.Ytlbomlolomcolaa.Alg
