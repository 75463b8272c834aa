/- Plain: sealed strings, headers of volumes, volumes; a changed byte is found. -/
/- A region that draws its order, inside a round of a range over a function: an invariant that each operation keeps serves every order. -/
/- The iterator slices.Values at bytes. -/
/- Contracts of checksum.absorb, Update, Sum. -/
import Derived.Test.YtkclmfppjhmnjaaB07
import Derived.Test.YtkclmfppjhmnjaaB04
import Derived.Test.YtkclmfppjhmnjaaB09
import Derived.OrdersIn
import Derived.Test.YtkclmfppjhmnjaaB10
import Derived.RangeFuncNested
import Derived.RangeFuncBound
import Derived.RangeFuncCalls
import Derived.RangeFuncLeaves
import Derived.RangeFuncBox
import Derived.Shelf.Abstract
import Derived.OwnWalkIn
import Derived.TacticsInMore
import Derived.LoopNIn
import Derived.LoopIn
import Derived.StillTailTactics
namespace Go.Proofs.Ytkclmfppjhmnjaa
namespace Crc

theorem s1_ne {r : Nat} (h : r < 4294967296) (h0 : r ≠ 0) : s1 r ≠ 0 := by
  unfold s1
  split
  · intro e
    have h1 : r / 2 = 3988292384 := by
      have := congrArg (fun x => x ^^^ 3988292384) e
      simp only [Nat.xor_assoc, Nat.xor_self, Nat.xor_zero, Nat.zero_xor] at this
      exact this
    omega
  · omega
theorem sh_ne {r : Nat} (h : r < 4294967296) (h0 : r ≠ 0) (k : Nat) : sh k r ≠ 0 := by
  induction k with
  | zero => exact h0
  | succ k ih => exact s1_ne (sh_lt h k) ih
theorem xor_zero_iff {a b : Nat} (h : a ^^^ b = 0) : a = b := by
  have := congrArg (fun x => x ^^^ b) h
  simpa only [Nat.xor_assoc, Nat.xor_self, Nat.xor_zero, Nat.zero_xor] using this
theorem xor_lt32 {a b : Nat} (ha : a < 4294967296) (hb : b < 4294967296) : a ^^^ b < 4294967296 := Nat.xor_lt_two_pow (n := 32) ha hb
theorem shf_inj {a b : Nat} (ha : a < 4294967296) (hb : b < 4294967296) (h : shf a = shf b) : a = b := by
  by_cases e : a ^^^ b = 0
  · exact xor_zero_iff e
  · exfalso
    refine sh_ne (xor_lt32 ha hb) e 8 ?_
    rw [sh_xor]
    show shf a ^^^ shf b = 0
    rw [h, Nat.xor_self]
theorem xor_right {a b c : Nat} (h : a ^^^ c = b ^^^ c) : a = b := by
  have := congrArg (fun x => x ^^^ c) h
  simpa only [Nat.xor_assoc, Nat.xor_self, Nat.xor_zero] using this
theorem xor_left {a b c : Nat} (h : c ^^^ a = c ^^^ b) : a = b := by
  rw [Nat.xor_comm c a, Nat.xor_comm c b] at h; exact xor_right h
theorem reg_inj {r s b : Nat} (hr : r < 4294967296) (hs : s < 4294967296) (hb : b < 256) (h : reg r b = reg s b) : r = s :=
  xor_right (shf_inj (xor_lt32 hr (by omega)) (xor_lt32 hs (by omega)) h)
theorem reg_byte {r a b : Nat} (hr : r < 4294967296) (ha : a < 256) (hb : b < 256) (h : reg r a = reg r b) : a = b :=
  xor_left (shf_inj (xor_lt32 hr (by omega)) (xor_lt32 hr (by omega)) h)
theorem upd_inj {l : List Nat} {r s : Nat} (hr : r < 4294967296) (hs : s < 4294967296) (hl : ∀ x ∈ l, x < 256) (h : upd r l = upd s l) : r = s := by
  induction l generalizing r s with
  | nil => exact h
  | cons b l ih =>
    have hb := hl b (by simp)
    exact reg_inj hr hs hb (ih (reg_lt hr hb) (reg_lt hs hb) (fun x hx => hl x (by simp [hx])) h)
/-- One byte is changed: so is the sum. -/
theorem upd_set {l : List Nat} {r i x : Nat} (hr : r < 4294967296) (hl : ∀ x ∈ l, x < 256) (hx : x < 256) (hi : i < l.length) (hne : l.getD i 0 ≠ x) : upd r (l.set i x) ≠ upd r l := by
  induction l generalizing r i with
  | nil => simp at hi
  | cons b l ih =>
    have hb := hl b (by simp)
    have hl' : ∀ x ∈ l, x < 256 := fun x hx => hl x (by simp [hx])
    cases i with
    | zero =>
      intro h
      rw [List.set_cons_zero] at h
      have := upd_inj (reg_lt hr hx) (reg_lt hr hb) hl' h
      exact hne (reg_byte hr hx hb this).symm
    | succ i =>
      rw [List.set_cons_succ]
      exact ih (reg_lt hr hb) hl' (by simpa using hi) (by simpa using hne)
theorem upd32 {l : List Nat} (hl : ∀ x ∈ l, x < 256) : upd 4294967295 l < 4294967296 := upd_lt (by decide) hl
theorem crc_set {l : List Nat} {i x : Nat} (hl : ∀ x ∈ l, x < 256) (hx : x < 256) (hi : i < l.length) (hne : l.getD i 0 ≠ x) : crc 0 (l.set i x) ≠ crc 0 l := by
  unfold crc
  have h1 := upd_set (r := 4294967295) (by decide) hl hx hi hne
  have h2 := upd32 hl
  have hl' : ∀ y ∈ l.set i x, y < 256 := by
    intro y hy
    rcases List.mem_or_eq_of_mem_set hy with h | h
    · exact hl y h
    · rw [h]; exact hx
  have h3 := upd32 hl'
  rw [Nat.sub_zero]
  omega
theorem tail4_inj {a b : Nat} (ha : a < 4294967296) (hb : b < 4294967296) (h : tail4 a = tail4 b) : a = b := by
  unfold tail4 at h
  simp only [List.cons.injEq, and_true] at h
  omega
theorem tail4_len (s : Nat) : (tail4 s).length = 4 := rfl

/-- What reading a sealed string says. -/
def opErr (l : List Nat) : Nat := if 65536 < l.length then 5 else if l.length < 4 then 9 else if seal4 (l.take (l.length - 4)) = l then 0 else 10
def opB (l : List Nat) : List Nat := if opErr l = 0 then l.take (l.length - 4) else []
theorem seal_take (l : List Nat) : (seal4 l).take ((seal4 l).length - 4) = l := by
  rw [seal4_length, Nat.add_sub_cancel]; unfold seal4; rw [List.take_left' rfl]
theorem op_seal {l : List Nat} (h : l.length + 4 ≤ 65536) : opErr (seal4 l) = 0 ∧ opB (seal4 l) = l := by
  have h1 : opErr (seal4 l) = 0 := by
    unfold opErr
    rw [if_neg (by rw [seal4_length]; omega), if_neg (by rw [seal4_length]; omega), seal_take, if_pos rfl]
  refine ⟨h1, ?_⟩
  unfold opB
  rw [if_pos h1, seal_take]
/-- A changed byte is found. -/
theorem op_set {l : List Nat} {i x : Nat} (hl : ∀ x ∈ l, x < 256) (hx : x < 256) (hi : i < (seal4 l).length) (hne : (seal4 l).getD i 0 ≠ x) (hL : l.length + 4 ≤ 65536) : opErr ((seal4 l).set i x) = 10 := by
  unfold opErr
  rw [List.length_set, if_neg (by rw [seal4_length]; omega), if_neg (by rw [seal4_length]; omega), if_neg]
  intro h
  rw [seal4_length] at hi h
  rw [Nat.add_sub_cancel] at h
  by_cases hil : i < l.length
  · have e1 : (seal4 l).set i x = l.set i x ++ tail4 (crc 0 l) := by unfold seal4; rw [List.set_append_left _ _ hil]
    rw [e1, List.take_left' (by rw [List.length_set])] at h
    have h2 := List.append_cancel_left (show l.set i x ++ tail4 (crc 0 (l.set i x)) = l.set i x ++ tail4 (crc 0 l) from h)
    refine crc_set hl hx hil ?_ (tail4_inj (crc_lt _ _) (crc_lt _ _) h2)
    unfold seal4 at hne
    rwa [List.getD_eq_getElem?_getD, List.getElem?_append_left hil, ← List.getD_eq_getElem?_getD] at hne
  · have e1 : (seal4 l).set i x = l ++ (tail4 (crc 0 l)).set (i - l.length) x := by unfold seal4; rw [List.set_append_right _ _ (by omega)]
    rw [e1, List.take_left' rfl] at h
    have h2 := List.append_cancel_left (show l ++ tail4 (crc 0 l) = l ++ (tail4 (crc 0 l)).set (i - l.length) x from h)
    apply hne
    unfold seal4
    rw [List.getD_eq_getElem?_getD, List.getElem?_append_right (by omega), h2, List.getElem?_set_self (by rw [tail4_len]; omega)]
    rfl
end Crc

namespace Vol
open Wire Crc
/-- Some numbers, one behind the other. -/
def nmErr : Nat → List Nat → Nat
  | 0, _ => 0
  | k + 1, l => if rdErr l = 0 then nmErr k (rdRest l) else rdErr l
def nmL : Nat → List Nat → List Nat
  | 0, _ => []
  | k + 1, l => rdNum l :: nmL k (rdRest l)
def nmR : Nat → List Nat → List Nat
  | 0, l => l
  | k + 1, l => nmR k (rdRest l)
theorem nmR_succ (k : Nat) (l : List Nat) : nmR (k + 1) l = rdRest (nmR k l) := by
  induction k generalizing l with
  | zero => rfl
  | succ k ih => exact ih (rdRest l)
theorem nmErr_succ (k : Nat) (l : List Nat) : nmErr (k + 1) l = if nmErr k l = 0 then rdErr (nmR k l) else nmErr k l := by
  induction k generalizing l with
  | zero => show (if rdErr l = 0 then 0 else rdErr l) = rdErr l; split <;> simp_all
  | succ k ih =>
    show (if rdErr l = 0 then nmErr (k + 1) (rdRest l) else rdErr l) = _
    rw [ih]
    show _ = if (if rdErr l = 0 then nmErr k (rdRest l) else rdErr l) = 0 then rdErr (nmR k (rdRest l)) else (if rdErr l = 0 then nmErr k (rdRest l) else rdErr l)
    by_cases h : rdErr l = 0
    · rw [if_pos h, if_pos h]
    · rw [if_neg h, if_neg h, if_neg h]
theorem nmErr_stop {k : Nat} {l : List Nat} (h : nmErr k l = 0) (hE : rdErr (nmR k l) ≠ 0) {j : Nat} (hj : k < j) : nmErr j l = rdErr (nmR k l) := by
  obtain ⟨i, rfl⟩ : ∃ i, j = k + 1 + i := ⟨j - (k + 1), by omega⟩
  induction i with
  | zero => rw [Nat.add_zero, nmErr_succ, if_pos h]
  | succ i ih =>
    rw [← Nat.add_assoc, nmErr_succ, ih (by omega), if_neg hE]
theorem nmL_succ (k : Nat) (l : List Nat) : nmL (k + 1) l = nmL k l ++ [rdNum (nmR k l)] := by
  induction k generalizing l with
  | zero => rfl
  | succ k ih => show rdNum l :: nmL (k + 1) (rdRest l) = _; rw [ih]; rfl
theorem nmL_length (k : Nat) (l : List Nat) : (nmL k l).length = k := by
  induction k generalizing l with
  | zero => rfl
  | succ k ih => show (rdNum l :: nmL k (rdRest l)).length = _; rw [List.length_cons, ih]
theorem rdNum_le (l : List Nat) : rdNum l ≤ 9007199254740991 := by
  unfold rdNum
  split
  · rename_i h
    unfold rdErr at h
    unfold rdRaw
    split at h
    · cases h
    · rename_i b r
      split at h
      · cases h
      split at h
      · cases h
      split at h
      · cases h
      · rename_i h3; omega
  · exact Nat.zero_le _
/-- The size of the parts. -/
def szP (n d : Nat) : Nat := max 1 ((n + d - 1) / d)
def nst (l : List Nat) : Nat := (nmL 5 (opB l)).getD 0 0
def nix (l : List Nat) : Nat := (nmL 5 (opB l)).getD 1 0
def ndt (l : List Nat) : Nat := (nmL 5 (opB l)).getD 2 0
def nrc (l : List Nat) : Nat := (nmL 5 (opB l)).getD 3 0
def nln (l : List Nat) : Nat := (nmL 5 (opB l)).getD 4 0
/-- The number of the error of a header. -/
def hdErr (l : List Nat) : Nat :=
  if opErr l ≠ 0 then opErr l else if nmErr 5 (opB l) ≠ 0 then nmErr 5 (opB l)
  else if 4294967295 < nst l ∨ ndt l = 0 ∨ 64 < ndt l + nrc l ∨ ndt l + nrc l ≤ nix l ∨ 65536 < nln l then 2
  else if (nmR 5 (opB l)).length ≠ szP (nln l) (ndt l) then 3 else 0
/-- A header: the set, the index, the data parts, the recovery parts, the length. -/
abbrev Hd : Type := Nat × Nat × Nat × Nat × Nat
def hdOf (l : List Nat) : Hd := if hdErr l = 0 then (nst l, nix l, ndt l, nrc l, nln l) else (0, 0, 0, 0, 0)
def hdP (l : List Nat) : List Nat := if hdErr l = 0 then nmR 5 (opB l) else []
def hdB (h : Hd) : List Nat := enc h.1 ++ enc h.2.1 ++ enc h.2.2.1 ++ enc h.2.2.2.1 ++ enc h.2.2.2.2
def putB (h : Hd) (p : List Nat) : List Nat := seal4 (hdB h ++ p)
theorem rd5 {a b c d e : Nat} (ha : a < 2 ^ 53) (hb : b < 2 ^ 53) (hc : c < 2 ^ 53) (hd : d < 2 ^ 53) (he : e < 2 ^ 53) (p : List Nat) :
    nmErr 5 (hdB (a, b, c, d, e) ++ p) = 0 ∧ nmL 5 (hdB (a, b, c, d, e) ++ p) = [a, b, c, d, e] ∧ nmR 5 (hdB (a, b, c, d, e) ++ p) = p := by
  unfold hdB
  simp only [List.append_assoc]
  obtain ⟨a1, a2, a3⟩ := rd_enc ha (enc b ++ (enc c ++ (enc d ++ (enc e ++ p))))
  obtain ⟨b1, b2, b3⟩ := rd_enc hb (enc c ++ (enc d ++ (enc e ++ p)))
  obtain ⟨c1, c2, c3⟩ := rd_enc hc (enc d ++ (enc e ++ p))
  obtain ⟨d1, d2, d3⟩ := rd_enc hd (enc e ++ p)
  obtain ⟨e1, e2, e3⟩ := rd_enc he p
  refine ⟨?_, ?_, ?_⟩
  · simp only [nmErr, a1, a3, b1, b3, c1, c3, d1, d3, e1, if_true]
  · simp only [nmL, a2, a3, b2, b3, c2, c3, d2, d3, e2]
  · simp only [nmR, a3, b3, c3, d3, e3]
/-- A volume's header and part are read back. -/
theorem hd_put {st ix d r n : Nat} {p : List Nat} (h1 : st < 4294967296) (h2 : 1 ≤ d) (h3 : d + r ≤ 64) (h4 : ix < d + r) (h5 : n ≤ 65536) (hp : p.length = szP n d) (hL : (putB (st, ix, d, r, n) p).length ≤ 65536) :
    hdErr (putB (st, ix, d, r, n) p) = 0 ∧ hdOf (putB (st, ix, d, r, n) p) = (st, ix, d, r, n) ∧ hdP (putB (st, ix, d, r, n) p) = p := by
  unfold putB at hL ⊢
  rw [seal4_length] at hL
  obtain ⟨o1, o2⟩ := op_seal hL
  obtain ⟨k1, k2, k3⟩ := rd5 (a := st) (b := ix) (c := d) (d := r) (e := n) (by omega) (by omega) (by omega) (by omega) (by omega) p
  have e0 : hdErr (seal4 (hdB (st, ix, d, r, n) ++ p)) = 0 := by
    unfold hdErr nst nix ndt nrc nln
    rw [o1, o2, k1, k2, k3, if_neg (by decide), if_neg (by decide), if_neg (by simp only [List.getD_cons_zero, List.getD_cons_succ]; omega), if_neg (by simp only [List.getD_cons_zero, List.getD_cons_succ]; omega)]
  refine ⟨e0, ?_, ?_⟩
  · unfold hdOf nst nix ndt nrc nln
    rw [if_pos e0, o2, k2]; rfl
  · unfold hdP; rw [if_pos e0, o2, k3]
theorem hd_set {h : Hd} {p : List Nat} {i x : Nat} (hl : ∀ x ∈ hdB h ++ p, x < 256) (hx : x < 256) (hi : i < (putB h p).length) (hne : (putB h p).getD i 0 ≠ x) (hL : (putB h p).length ≤ 65536) : hdErr ((putB h p).set i x) = 10 := by
  have := op_set hl hx hi hne (by unfold putB at hL; rw [seal4_length] at hL; exact hL)
  unfold hdErr putB
  rw [this, if_pos (by decide)]
theorem hd_len {l : List Nat} (h : hdErr l = 0) : l.length ≤ 65536 ∧ (nst l ≤ 4294967295 ∧ 1 ≤ ndt l ∧ ndt l + nrc l ≤ 64 ∧ nix l < ndt l + nrc l ∧ nln l ≤ 65536) ∧ (hdP l).length = szP (nln l) (ndt l) := by
  have hp : hdP l = nmR 5 (opB l) := by unfold hdP; rw [if_pos h]
  rw [hp]
  unfold hdErr at h
  split at h
  · rename_i h1; exact absurd h h1
  rename_i h1
  split at h
  · rename_i h2; exact absurd h h2
  split at h
  · cases h
  rename_i h3
  split at h
  · cases h
  rename_i h4
  refine ⟨?_, by omega, by simpa using h4⟩
  have h1' : opErr l = 0 := by simpa using h1
  unfold opErr at h1'
  split at h1'
  · cases h1'
  · omega
end Vol
end Go.Proofs.Ytkclmfppjhmnjaa

namespace Go.Proofs.Ytkclmfppjhmnjaa
open Go.RowKit Go.Shelf

section
variable {F : Fence} {n : Nat} {P : Program} {ops : Array Oper} {Q : Exit → Act → World → Prop}

/-- How many operations have not come up. -/
def cnt (listed : Array Bool) : Nat := listed.toList.countP (fun b => !b)

theorem cnt_set {listed : Array Bool} {i : Nat} (hi : i < listed.size) (h : listed.getD i true = false) : cnt (listed.setIfInBounds i true) + 1 = cnt listed := by
  unfold cnt
  obtain ⟨l⟩ := listed
  simp only [List.setIfInBounds_toArray, Array.getD_eq_getD_getElem?, List.getElem?_toArray, List.size_toArray] at *
  induction l generalizing i with
  | nil => simp at hi
  | cons b l ih =>
    cases i with
    | zero =>
      simp at h
      subst h
      simp
    | succ i =>
      simp only [List.set_cons_succ, List.countP_cons]
      have := ih (i := i) (by simpa using hi) (by simpa using h)
      omega

theorem ready_mem {md : Region.Mode} {listed : Array Bool} {i : Nat} (h : i ∈ Region.ready md ops listed) :
    ∃ o, ops[i]? = some o ∧ listed.getD i true = false ∧ ∀ e ∈ o.after, Region.binds md e = true → listed.getD e.on false = true := by
  unfold Region.ready at h
  rw [List.mem_filter] at h
  obtain ⟨h1, h2⟩ := h
  rw [List.mem_range] at h1
  simp only [Bool.and_eq_true, Bool.not_eq_true'] at h2
  obtain ⟨h2, h3⟩ := h2
  have ho : ops[i]? = some ops[i] := Array.getElem?_eq_getElem h1
  rw [ho] at h3
  simp only [Option.map_some, Option.getD_some] at h3
  refine ⟨ops[i], ho, h2, fun e he hb => ?_⟩
  rw [Array.all_eq_true'] at h3
  have := h3 e he
  rw [hb] at this
  simpa using this

/-- Each operation waits for earlier ones alone. -/
def downB (ops : Array Oper) : Bool := (List.range ops.size).all fun i => ((ops[i]?).map (·.after.all fun e => !Region.binds .any e || decide (e.on < i))).getD true

/-- Where nothing may come up, all have come up. -/
theorem all_listed {listed : Array Bool} (hd : downB ops = true) (hsz : listed.size = ops.size) (hr : Region.ready .any ops listed = []) : ∀ i, i < ops.size → listed.getD i false = true := by
  intro i
  induction i using Nat.strongRecOn with
  | _ i ih =>
    intro hi
    apply Classical.byContradiction
    intro hne
    have hg : listed.getD i false = false := by simpa using hne
    have hg' : listed.getD i true = false := by
      rw [Array.getD_eq_getD_getElem?, Array.getElem?_eq_getElem (by omega)] at hg ⊢
      exact hg
    have hmem : i ∈ Region.ready .any ops listed := by
      unfold Region.ready
      rw [List.mem_filter]
      refine ⟨List.mem_range.2 hi, ?_⟩
      have ho : ops[i]? = some ops[i] := Array.getElem?_eq_getElem hi
      unfold downB at hd
      rw [List.all_eq_true] at hd
      have h1 := hd i (List.mem_range.2 hi)
      rw [ho] at h1 ⊢
      simp only [Option.map_some, Option.getD_some] at h1 ⊢
      rw [hg', Bool.and_eq_true]
      refine ⟨rfl, ?_⟩
      rw [Array.all_eq_true'] at h1 ⊢
      intro e he
      have h2 := h1 e he
      cases hb : Region.binds .any e with
      | false => rfl
      | true =>
        rw [hb] at h2
        simp only [Bool.not_true, Bool.false_or, decide_eq_true_eq] at h2
        simp only [Bool.not_true, Bool.false_or]
        exact ih e.on h2 (by omega)
    rw [hr] at hmem
    simp at hmem

theorem anyIn_inv (Inv : Array Bool → Act → World → Prop)
    (hs : ∀ listed a w, Inv listed a w → listed.size = ops.size → ∀ i ∈ Region.ready .any ops listed, wpOpIn F n P ops Q i (Inv (listed.setIfInBounds i true)) a w)
    (hq : ∀ listed a w, Inv listed a w → (∀ i, i < ops.size → listed.getD i false = true) → Q .normal a w) (hd : downB ops = true) :
    ∀ (fuel : Nat) (listed : Array Bool) (a : Act) (w : World), listed.size = ops.size → cnt listed = fuel → Inv listed a w → wpAnyIn F n P .any ops Q fuel listed a w := by
  intro fuel
  induction fuel with
  | zero =>
    intro listed a w hsz hc hI
    have hr : Region.ready .any ops listed = [] := by
      apply List.eq_nil_iff_forall_not_mem.2
      intro i hi
      obtain ⟨o, ho, hl, _⟩ := ready_mem hi
      have hi' := (Array.getElem?_eq_some_iff.1 ho).1
      have := cnt_set (listed := listed) (i := i) (by omega) hl
      omega
    exact ⟨hr, hq listed a w hI (all_listed hd hsz hr)⟩
  | succ fuel ih =>
    intro listed a w hsz hc hI
    refine ⟨fun hr => hq listed a w hI (all_listed hd hsz hr), fun i hi => ?_⟩
    obtain ⟨o, ho, hl, _⟩ := ready_mem hi
    have hi' := (Array.getElem?_eq_some_iff.1 ho).1
    have hcs := cnt_set (listed := listed) (i := i) (by omega) hl
    exact wpOpIn_mono (fun a' w' h' => ih _ a' w' (by simpa using hsz) (by omega) h') (hs listed a w hI hsz i hi)

/-- One operation, inside a round of the wide fence. -/
theorem opIn_value {l i : Nat} {o : Oper} {K : Act → World → Prop} {a : Act} {w w' : World} {v : Value} (ho : ops[i]? = some o) (hg : o.guard = none) (hnd : ∀ c, o.op ≠ .defer c) (hrun : (execOp a.eval o).run P w = .ok (.value v) w') (hK : K (a.put o.dst v) w') :
    wpOpIn (Fence.wide.inRound l) n P ops Q i K a w := by
  unfold wpOpIn
  rw [ho]
  have hw : Region.wanted o (yielded ops a.tmps) = true := by simp [Region.wanted, hg]
  simp only [hw, if_true]
  refine ⟨fun _ _ => trivial, ?_⟩
  rw [Fence.inRound_round, Oper.semAt_some _ _ _ hnd, hrun]
  exact hK
theorem opIn_skip {l i : Nat} {o : Oper} {K : Act → World → Prop} {a : Act} {w w' : World} (ho : ops[i]? = some o) (hg : o.guard = none) (hnd : ∀ c, o.op ≠ .defer c) (hrun : (execOp a.eval o).run P w = .ok .skip w') (hK : K (a.put o.dst undef) w') :
    wpOpIn (Fence.wide.inRound l) n P ops Q i K a w := by
  unfold wpOpIn
  rw [ho]
  have hw : Region.wanted o (yielded ops a.tmps) = true := by simp [Region.wanted, hg]
  simp only [hw, if_true]
  refine ⟨fun _ _ => trivial, ?_⟩
  rw [Fence.inRound_round, Oper.semAt_some _ _ _ hnd, hrun]
  exact hK
end
end Go.Proofs.Ytkclmfppjhmnjaa

namespace Go.Proofs.Ytkclmfppjhmnjaa
open Go.RowKit Go.Shelf

attribute [local go_sem] Oper.semAt_some

/-- A byte. -/
abbrev B8 : Type := { x : Nat // x < 256 }
def bEnc (x : B8) : Array Value := #[.int .u8 (x.1 : Nat)]
def b8 (l : List Nat) (h : Byt l) : List B8 := l.pmap (fun x hx => ⟨x, hx⟩) h
theorem b8_val (l : List Nat) (h : Byt l) : (b8 l h).map (·.1) = l := by
  induction l with
  | nil => rfl
  | cons a l ih => exact congrArg (a :: ·) (ih fun x hx => h x (List.mem_cons_of_mem _ hx))
theorem b8_length (l : List Nat) (h : Byt l) : (b8 l h).length = l.length := by rw [← List.length_map (f := (·.1)), b8_val]

set_option maxRecDepth 100000 in
set_option maxHeartbeats 2000000 in
theorem Values1_in (F : Fence) (n : Nat) (hfn : F.fn 112) (hro : F.round = none) (hn : 1 ≤ n) (l Bs n₀ cap : Nat) (a : Option Addr) (xs : List B8) (hN : xs.length ≤ 1000000000) (J Jx : List B8 → World → Prop)
    (hY : Hid (∀ pre x W, J pre W → pre.length < xs.length → YieldAt F (n - 1) Try.prog l (bEnc x) W fun e W' =>
      (e = .returned (.bool true) ∧ J (pre ++ [x]) W' ∧ Below n₀ W W') ∨ (e = .returned (.bool false) ∧ Jx (pre ++ [x]) W')))
    (W : World) (hBs : W.cell? ⟨Bs, 0, none⟩ = some (.slice a xs.length cap)) (hc : Hid (xs ≠ [] → ∃ b o, a = some ⟨b, o, none⟩ ∧ b < n₀ ∧ RowAt W b o (xs.map (·.1)))) (h0 : Hid (J [] W)) :
    CallsIn F n Try.prog 112 #[.func (.yield l) #[] #[], .pointer (some ⟨Bs, 0, none⟩)] W fun e W' => (∃ v, e = .returned v) ∧
      ((∃ ys, ys = xs ∧ J ys W') ∨ (∃ pre, (∃ k, k ≤ xs.length ∧ pre = xs.take k) ∧ Jx pre W')) := by
  refine callsIn_of_wp Try.func112 rfl hfn ?_ hro
  simp only [Try.ntmps112, List.size_toArray, List.length_cons, List.length_nil, Nat.reduceAdd, Nat.reduceSub, Array.replicate_succ, Array.replicate_zero, List.push_toArray, List.append_toArray, List.nil_append, List.cons_append]
  gi_wp2
  gi_loopw [7] (fun i wr => ∃ k : Nat, k ≤ xs.length ∧ i = .int .i64 k ∧ Hid (J (xs.take k) wr) ∧ Hid (Below n₀ W wr))
    (fun i _ => xs.length - (intOf i).toNat)
  case atStart => exact ⟨0, Nat.zero_le _, rfl, h0, Below.refl _ _⟩
  case round =>
    obtain ⟨k, hk, rfl, hJs, hnx⟩ := hrel
    by_cases hlt : k < xs.length
    · obtain ⟨b, o, rfl, hb, hrow⟩ := hc.out (by intro e; rw [e] at hlt; simp at hlt)
      have hxk := List.getElem?_eq_getElem hlt
      obtain ⟨x, hxd⟩ : ∃ x, xs[k] = x := ⟨_, rfl⟩
      rw [hxd] at hxk
      have hcx := (hnx.out.cell (p := ⟨b, o + k, none⟩) hb).trans (hrow k x.1 (by rw [List.getElem?_map, hxk]; rfl))
      unfold bv at hcx
      have htk := Lib.hid (show xs.take (k + 1) = xs.take k ++ [x] by rw [List.take_add_one, hxk]; rfl)
      obtain ⟨fn, tmps, assign, body, hy, hR⟩ := hY.out _ x wr hJs.out (by rw [List.length_take]; omega)
      unfold bEnc at hy
      clear hxk hxd hrow
      gi_wp2
      refine hR.mono ?_
      rintro e W3 (⟨rfl, hJ3, hk3⟩ | ⟨rfl, hJx3⟩)
      · gi_wp2
        go_roundw
        case rel => exact ⟨k + 1, by omega, by simp, by rw [htk.out]; exact hJ3, hnx.out.trans hk3⟩
        case measure => simp [intOf]; omega
      · gi_wp2
        refine bodyPost_ret (results_none rfl _ _ _) rfl ?_
        exact ⟨⟨_, rfl⟩, .inr ⟨_, ⟨k + 1, by omega, htk.out.symm⟩, hJx3⟩⟩
    · obtain rfl : k = xs.length := by omega
      have hJ := hJs.out
      rw [List.take_length] at hJ
      have HJ := Lib.hid hJ
      clear hJ hJs
      gi_wp2
      go_end0
      exact ⟨⟨_, rfl⟩, .inl ⟨_, rfl, HJ.out⟩⟩

set_option maxHeartbeats 1000000 in
theorem Values_in (F : Fence) (n : Nat) (hfn : F.fn 94) (hro : F.round = none) (a : Option Addr) (len cap : Nat) (w : World) :
    CallsIn F n Try.prog 94 #[.slice a len cap] w fun e w' => e = .returned (.func (.func 112) #[] #[.pointer (some ⟨w.heap.size, 0, none⟩)]) ∧ w' = w.alloc (.cells #[.slice a len cap] 26) := by
  refine callsIn_of_wp Try.func94 rfl hfn ?_ hro
  simp only [Try.ntmps94, List.size_toArray, List.length_cons, List.length_nil, Nat.reduceAdd, Nat.reduceSub, Array.replicate_succ, Array.replicate_zero, List.push_toArray, List.append_toArray, List.nil_append, List.cons_append]
  gi_wp2
  go_ret
  exact ⟨rfl, rfl⟩

theorem Values_stops (F : Fence) (n : Nat) (hfn : F.fn 112) (hro : F.round = none) (hn : 1 ≤ n) (Bs n₀ cap : Nat) (a : Option Addr) (xs : List B8) (hN : xs.length ≤ 1000000000) (w : World) (hBs : Bs < w.heap.size)
    (hc : w.cell? ⟨Bs, 0, none⟩ = some (.slice a xs.length cap)) (hM : xs ≠ [] → ∃ b o, a = some ⟨b, o, none⟩ ∧ b < n₀ ∧ RowAt w b o (xs.map (·.1))) :
    SeqStopsK F n Try.prog 112 #[.pointer (some ⟨Bs, 0, none⟩)] bEnc (Below n₀) (fun ys => ys = xs) (fun pre => ∃ k, k ≤ xs.length ∧ pre = xs.take k) xs.length w := fun l J Jx W hW _ _ hY h0 => by
  have hc' := (hW.cell (p := ⟨Bs, 0, none⟩) hBs).trans hc
  exact Values1_in F n hfn hro hn l Bs n₀ cap a xs hN J Jx hY W hc' (fun hne => by obtain ⟨b, o, ha, hb, hr⟩ := hM hne; exact ⟨b, o, ha, hb, hr.new hW⟩) h0
end Go.Proofs.Ytkclmfppjhmnjaa

namespace Go.Proofs.Ytkclmfppjhmnjaa
open Go.RowKit Go.Shelf Crc

attribute [local go_sem] Oper.semAt_some

theorem xor_u8c (a b : Nat) (ha : a < 256) (hb : b < 256) : bits .xor .u8 (a : Int) (b : Int) = ((a ^^^ b : Nat) : Int) := by
  have hx : a ^^^ b < 2 ^ 8 := Nat.xor_lt_two_pow (by omega) (by omega)
  have h1 : (BitVec.ofInt 8 (a : Int)).toNat = a := by
    rw [BitVec.ofInt_natCast, BitVec.toNat_ofNat]; exact Nat.mod_eq_of_lt (by omega)
  have h2 : (BitVec.ofInt 8 (b : Int)).toNat = b := by
    rw [BitVec.ofInt_natCast, BitVec.toNat_ofNat]; exact Nat.mod_eq_of_lt (by omega)
  show IntKind.u8.wrap ((BitVec.ofInt 8 (a : Int) ^^^ BitVec.ofInt 8 (b : Int)).toNat : Int) = _
  rw [BitVec.toNat_xor, h1, h2]
  exact IntWalk.u8_in _ (by omega)
theorem wpIn_plainW {P : Program} {n : Nat} {o : Oper} {a : Act} {w : World} {K : Act → World → Prop} {Q : Exit → Act → World → Prop} (hp : plainOp o = true) (h : o.wp P a w K Q) : o.wpIn Fence.wide n P a w K Q := by
  refine ⟨fun _ _ => trivial, ?_⟩
  have hnd : ∀ c, o.op ≠ .defer c := by
    intro c hc
    unfold plainOp at hp
    rw [hc] at hp
    cases hp
  rw [Oper.semAt_plain Fence.wide _ _ hnd]
  unfold Oper.wp execOp at h
  unfold execOp
  unfold plainOp at hp
  split at hp
  all_goals first
    | (cases hp; done)
    | (rename_i ho; simp only [ho] at h ⊢; first | exact h | exact uponIn_value h | exact uponIn_skip h)
theorem wpListIn_store_mid {P : Program} {n : Nat} {ops : Array Oper} {rest : List Oper} {op : Oper} {a : Act} {w : World} {Q : Exit → Act → World → Prop} (hgd : op.guard = none) (ty : TypeId) (x y : Operand) (ho : op.op = .store ty x y)
    (b o : Nat) (cells : Array Value) (hx : a.eval x = .pointer (some ⟨b, o, none⟩)) (hy : a.eval y = .agg cells)
    (ht : w.there b o cells.size) (hi : (P.info? ty).map (·.size) = some cells.size) (h1 : cells.all (·.oneCell') = true)
    (h : wpListIn Fence.wide n P ops Q rest (a.put op.dst undef) (w.setCells b o cells.toList)) : wpListIn Fence.wide n P ops Q (op :: rest) a w :=
  wpListIn_plain hgd fun _ hK => wpIn_plainW (by unfold plainOp; rw [ho]) (wp_store_mid ty x y ho b o cells hx hy ht hi h1 (hK _ _ h))

/-- What holds between two rounds. -/
def AbI (r : Nat) (w : World) (g : Nat) (pre : List B8) (W : World) : Prop :=
  (W.cell? ⟨w.heap.size, 0, none⟩ = some (.int .u32 (upd r (pre.map (·.1)) : Nat)) ∧ W.frozen? ⟨w.heap.size, 0, none⟩ = false) ∧ (∀ i v, (tabL 256)[i]? = some v → W.cell? ⟨g, i, none⟩ = some v) ∧ Below w.heap.size w W
theorem abI_own (r : Nat) (w : World) (g : Nat) {B : Nat} (hB : w.heap.size ≤ B) : OwnFrom B (AbI r w g) := by
  intro s W W' row ⟨⟨h1, h2⟩, h3, h7⟩ hg hr
  have hr' : ∀ r, row = some r → ∃ o : Obj, W.heap[r]? = some o ∧ o.isCells = false := fun r e => (hr r e).2
  exact ⟨⟨cell_kept h1 hg hr', (frozen_kept h1 hg hr').trans h2⟩, fun i v hv => cell_kept (h3 i v hv) hg hr', h7.grown hg h7.size fun k e => Nat.le_trans hB (hr k e).1⟩

set_option maxRecDepth 100000 in
set_option maxHeartbeats 4000000 in
theorem cabsorb_any (r Bp cap : Nat) (a : Option Addr) (l : List Nat) (w : World) (hr : r < 4294967296) (hl : l.length ≤ 1000000000) (hB : Byt l) (hc : w.cell? ⟨Bp, 0, none⟩ = some (.slice a l.length cap))
    (hM : l ≠ [] → ∃ b o, a = some ⟨b, o, none⟩ ∧ RowAt w b o l) :
    Calls Try.prog 93 #[.int .u32 r, .func (.func 112) #[] #[.pointer (some ⟨Bp, 0, none⟩)]] w fun e w' => e = .returned (.int .u32 (upd r l)) ∧ Below w.heap.size w w' := by
  have Hc := Lib.hid hc
  have hlt := World.block_lt_of_cell? w _ hc
  have HM := Lib.hid hM
  have HBy := Lib.hid hB
  have k0 := Lib.hid ((Blk.new w 52 #[.int .u32 r]))
  have b0 := Lib.hid ((Below.refl w.heap.size w).alloc (Nat.le_refl _) (.cells #[.int .u32 r] 52))
  clear hc hM hB
  refine (callsIn_wide (n := 3)).1 ?_
  refine callsIn_of_wp_marks Try.func93 rfl trivial ?_ rfl
  simp only [Try.ntmps93, List.size_toArray, List.length_cons, List.length_nil, Nat.reduceAdd, Nat.reduceSub, Array.replicate_succ, Array.replicate_zero, List.push_toArray, List.append_toArray, List.nil_append, List.cons_append]
  gi_wp2_with fail
  refine ⟨trivial, ?_⟩
  refine (callsIn_wide.2 (ctable_any _)).mono ?_
  rintro e w1 ⟨rfl, hB1⟩
  have hBw := b0.out.trans (hB1.mono b0.out.size)
  have hz1 := hBw.size
  have kk := k0.out.below hB1 k0.out.lt
  have hgz : w.heap.size < w1.heap.size := kk.lt
  have h1 := Blk.new w1 155 Try.zeroCells155
  rw [zero_tab] at h1
  have hb2 := h1.setCells (o := 0) (vs := tabL 256) (by rw [tabL_length, tabL_length]; decide)
  rw [spl_all (by rw [tabL_length, tabL_length])] at hb2
  have Hb2 := Lib.hid hb2
  have Hth := Lib.hid (show (w1.alloc (.cells Try.zeroCells155 155)).there w1.heap.size 0 (tabL 256).toArray.size from h1.there (by rw [List.size_toArray, tabL_length, tabL_length]; decide))
  have Hs2 := Lib.hid (show (Try.prog.info? 155).map (·.size) = some (tabL 256).toArray.size by rw [List.size_toArray]; exact tab_size)
  have Hone := Lib.hid (all_oneCell_toArray tab_one)
  have HBe := Lib.hid (below_setCells (hBw.alloc hz1 (.cells Try.zeroCells155 155)) hz1 0 (tabL 256))
  have Hk2 := Lib.hid ((kk.alloc (.cells Try.zeroCells155 155)).setCells_other (b := w1.heap.size) (o := 0) (vs := tabL 256) (by omega))
  have HC2 := Lib.hid ((HBe.out.cell (p := ⟨Bp, 0, none⟩) hlt).trans Hc.out)
  have hsz : ((w1.alloc (.cells Try.zeroCells155 155)).setCells w1.heap.size 0 (tabL 256)).heap.size = w1.heap.size + 1 := by rw [size_setCells]; simp
  clear hB1 h1 hb2 hBw kk
  gi_wp2_with (refine wpListIn_store_mid rfl 155 _ _ rfl w1.heap.size 0 (tabL 256).toArray rfl rfl Hth.out Hs2.out Hone.out ?_)
  obtain ⟨W0, hW0⟩ : ∃ W0, (w1.alloc (.cells Try.zeroCells155 155)).setCells w1.heap.size 0 (tabL 256) = W0 := ⟨_, rfl⟩
  rw [hW0] at Hb2 HBe Hk2 HC2 hsz ⊢
  generalize hgd : w1.heap.size = g at *
  clear hW0 Hth
  refine wpIn_rangeFunc_ownG rfl (by decide) (gf := 112) (lb := #[.pointer (some ⟨Bp, 0, none⟩)]) rfl trivial (enters_of Try.func112 (by kernel_rfl) rfl)
    (Values_stops Fence.wide _ trivial rfl (by decide) Bp w.heap.size cap a (b8 l HBy.out) (by rw [b8_length]; exact hl) W0 (by omega) (by rw [b8_length]; exact HC2.out) (fun hne => by
      obtain ⟨b, o, ha, hrow⟩ := HM.out (by intro e; subst e; exact hne rfl)
      refine ⟨b, o, ha, ?_, by rw [b8_val]; exact hrow.new HBe.out⟩
      obtain ⟨x, hx⟩ := List.exists_mem_of_ne_nil _ hne
      have hl0 : 0 < l.length := by have := b8_length l HBy.out; have := List.length_pos_of_mem hx; omega
      exact World.block_lt_of_cell? w _ (hrow 0 _ (List.getElem?_eq_getElem hl0)))) belowK_t (belowK_b (by omega)) (Below.refl _ _) (fun _ => rfl)
    (AbI r w g) (fun _ _ _ => False) (abI_own r w g (by omega)) (fun _ _ _ _ _ hs _ _ => hs) ⟨⟨Hk2.out.cell rfl, Hk2.out.frozen 0⟩, fun i v hv => Hb2.out.cell hv, HBe.out⟩
    (fun x => { tmps := #[.int .u32 r, .func (.func 112) #[] #[.pointer (some ⟨Bp, 0, none⟩)], .pointer (some ⟨w.heap.size, 0, none⟩), undef, .int .u32 0, .pointer (some ⟨g, 0, none⟩), .int .u8 (x.1 : Nat), .agg (tabL 256).toArray, .func (.func 112) #[] #[.pointer (some ⟨Bp, 0, none⟩)], .int .u8 (x.1 : Nat), undef, undef, undef, undef, undef, undef, undef, undef, undef, undef], defers := [] }) ?assign ?body ?done ?stop
  case assign =>
    intro l x W K hK
    unfold bEnc
    gi_wp2
    exact hK
  case body =>
    rintro l0 pre ⟨x, hx⟩ W ⟨⟨c1, f1⟩, ht, hB⟩ _
    dsimp only
    have hu : upd r (pre.map (·.1)) < 4294967296 := upd_lt hr (fun y hy => by obtain ⟨z, _, rfl⟩ := List.mem_map.1 hy; exact z.2)
    have hS := Lib.hid (show upd r ((pre ++ [(⟨x, hx⟩ : B8)]).map (·.1)) = reg (upd r (pre.map (·.1))) x by rw [List.map_append, List.map_singleton, upd_snoc])
    obtain ⟨u, hud⟩ : ∃ u, upd r (pre.map (·.1)) = u := ⟨_, rfl⟩
    rw [hud] at hu hS c1
    obtain ⟨y, hy⟩ : ∃ y, (u % 256) ^^^ x = y := ⟨_, rfl⟩
    have hy2 : y < 256 := by rw [← hy]; exact Nat.xor_lt_two_pow (n := 8) (by omega) (by omega)
    have ct := ht y _ (tabL_get hy2)
    rw [if_pos hy2] at ct
    unfold tv at ct
    have hsy : shf y < 4294967296 := shf_lt (by omega)
    have e2 : bits .xor .u8 (IntKind.u8.wrap (u : Int)) (x : Int) = (y : Int) := by
      have := xor_u8c (u % 256) x (by omega) hx
      rw [hy] at this
      rw [show IntKind.u8.wrap (u : Int) = ((u % 256 : Nat) : Int) by rw [IntKind.wrap_u8]; omega]; exact this
    have e4 : bits .xor .u32 ((u : Int) / 256) (shf y : Int) = ((reg u x : Nat) : Int) := by
      have := xor_u32 (u / 256) (shf y) (by omega) hsy
      rw [show (u : Int) / 256 = ((u / 256 : Nat) : Int) by omega, this, reg_tab, hy]
    have i1 : (0 : Int) ≤ (y : Int) := by omega
    have i2 : (y : Int) < 256 := by omega
    have HBW := Lib.hid hB
    have Ht := Lib.hid ht
    clear hud hy ht hB
    gi_wp2_with fail
    refine wpIn_region_still_tail 9 (by kernel_rfl) (by kernel_rfl) (by kernel_rfl) ?_
    simp only [List.take_succ_cons, List.take_zero, List.drop_succ_cons, List.drop_zero]
    repeat still_step
    refine wpStill_nil ?_
    have c1' : (W.drewN 1).cell? ⟨w.heap.size, 0, none⟩ = some (.int .u32 (u : Nat)) := c1
    have f1' : (W.drewN 1).frozen? ⟨w.heap.size, 0, none⟩ = false := f1
    have hst : AbI r w g (pre ++ [(⟨x, hx⟩ : B8)]) ((W.drewN 1).setCell ⟨w.heap.size, 0, none⟩ (.int .u32 (reg u x : Nat))) := by
      refine ⟨⟨?_, by rw [World.frozen?_setCell]; exact f1⟩, fun i v hv => ?_, (below_drewN HBW.out 1).setCell (p := ⟨w.heap.size, 0, none⟩) (Nat.le_refl _) _⟩
      · rw [hS.out]; exact World.cell?_setCell_same' _ _ _ (by rw [c1']; rfl)
      · rw [World.cell?_setCell_other _ _ _ _ (by simp only [ne_eq, Addr.mk.injEq]; omega)]
        exact Ht.out i v hv
    have Hst := Lib.hid hst
    have Hk := Lib.hid (show KeepsFrom W0.heap.size W ((W.drewN 1).setCell ⟨w.heap.size, 0, none⟩ (.int .u32 (reg u x : Nat))) from ((⟨Nat.le_refl _, fun _ _ h _ => h⟩ : KeepsOthers W (W.drewN 1)).trans (KeepsOthers.setCell _ _ _)).from _)
    have Hbl := Lib.hid ((below_drewN (Below.refl w.heap.size W) 1).setCell (p := ⟨w.heap.size, 0, none⟩) (Nat.le_refl _) (.int .u32 (reg u x : Nat)))
    clear hst c1 f1 ct hS
    change wpList _ _ _ _ _ (W.drewN 1)
    generalize W.drewN 1 = W' at *
    go_wp2_with fail
    refine ⟨rfl, ?_⟩
    exact ⟨Hk.out, Hbl.out, Hst.out⟩
  case done =>
    rintro D ys W hD rfl ⟨⟨c1, f1⟩, ht, hB⟩ hK
    rw [b8_val] at c1
    have HB := Lib.hid hB
    have HK := Lib.hid hK
    clear ht hB hK
    gi_wp2
    refine ⟨by simp, .inl ⟨_, _, rfl, run_takeDeferred HK.out, ?_⟩⟩
    refine ⟨.int .u32 (upd r l), ?_, rfl, HB.out.trans (belowK_b (w := w) (Nat.le_refl _) _ D _ _ (by omega) HK.out rfl rfl)⟩
    simp [results, Try.f93, go_sem]
  case stop => exact fun _ _ _ _ _ _ h _ => h.elim

theorem not_u32 {s : Nat} (h : s < 4294967296) : bits .xor .u32 IntKind.u32.max (s : Int) = ((4294967295 - s : Nat) : Int) := by
  have h1 : (BitVec.ofInt 32 (s : Int)).toNat = s := by
    rw [BitVec.ofInt_natCast, BitVec.toNat_ofNat]; exact Nat.mod_eq_of_lt (by omega)
  show IntKind.u32.wrap ((BitVec.ofInt 32 (4294967295 : Int) ^^^ BitVec.ofInt 32 (s : Int)).toNat : Int) = _
  rw [show BitVec.ofInt 32 (4294967295 : Int) = BitVec.allOnes 32 by decide, BitVec.allOnes_xor, BitVec.toNat_not, h1]
  exact IntWalk.u32_in _ (by omega)

set_option maxRecDepth 100000 in
theorem cUpdate_any (s : Nat) (v : Value) (l : List Nat) (w : World) (hs : s < 4294967296) (h : Bs w v l) (hB : Byt l) (hl : l.length ≤ 1000000000) : Calls Try.prog 60 #[.int .u32 s, v] w fun e w' => e = .returned (.int .u32 (crc s l)) ∧ Below w.heap.size w w' := by
  obtain ⟨a, cap, rfl, hcap, hr⟩ := h
  have Hr := Lib.hid hr
  have HBy := Lib.hid hB
  have hu := upd_lt (r := 4294967295 - s) (by omega) hB
  have HX := Lib.hid (show crc s l = 4294967295 - upd (4294967295 - s) l from rfl)
  have n1 := not_u32 hs
  have n2 := not_u32 hu
  have b0 := Lib.hid ((Below.refl w.heap.size w).alloc (Nat.le_refl _) (.cells #[.slice a l.length cap] 26))
  have hA := Lib.hid (cabsorb_any (4294967295 - s) w.heap.size cap a l (w.alloc (.cells #[.slice a l.length cap] 26)) (by omega) hl hB ((Blk.new w 26 #[.slice a l.length cap]).cell (i := 0) rfl) (fun hne => by
    rcases hr with h | ⟨b, o, ha, hrow⟩
    · exact absurd h hne
    · exact ⟨b, o, ha, hrow.new b0.out⟩))
  generalize upd (4294967295 - s) l = u at *
  clear hr hB
  go_enter Try.func60, Try.ntmps60
  go_wp2_with fail
  refine (callsIn_wide.1 (Values_in Fence.wide 3 trivial rfl _ _ _ _)).mono ?_
  rintro e w1 ⟨rfl, rfl⟩
  go_wp2_with fail
  refine hA.out.mono ?_
  rintro e w1 ⟨rfl, hB1⟩
  have HB1 := Lib.hid (b0.out.trans (hB1.mono b0.out.size))
  clear hB1
  go_wp2_with fail
  go_ret
  exact ⟨by rw [HX.out]; rfl, HB1.out⟩

set_option maxRecDepth 100000 in
theorem cSum_any (v : Value) (l : List Nat) (w : World) (h : Bs w v l) (hB : Byt l) (hl : l.length ≤ 1000000000) : Calls Try.prog 29 #[v] w fun e w' => e = .returned (.int .u32 (crc 0 l)) ∧ Below w.heap.size w w' := by
  have H := Lib.hid (cUpdate_any 0 v l w (by decide) h hB hl)
  clear h hB hl
  go_enter Try.func29, Try.ntmps29
  go_wp2_with fail
  refine H.out.mono ?_
  rintro e w1 ⟨rfl, hB1⟩
  have HB1 := Lib.hid hB1
  clear hB1
  go_wp2_with fail
  go_ret
  exact ⟨rfl, HB1.out⟩
end Go.Proofs.Ytkclmfppjhmnjaa
