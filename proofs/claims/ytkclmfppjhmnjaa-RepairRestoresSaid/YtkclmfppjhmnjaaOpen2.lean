/- How slices of arrays of bytes are opened. -/
import Derived.Test.YtkclmfppjhmnjaaOpen
import Derived.Deep.Slices
namespace Go.Proofs.Ytkclmfppjhmnjaa
open Go.ChangeShapes Go.WideShapes Go.ChangeAt Go.RowKit

/-- From (b, o) on lie arrays of n bytes each. -/
def PgAt (w : World) (b o n : Nat) (l : List (List Nat)) : Prop := ∀ i r, l[i]? = some r → RowAt w b (o + i * n) r
/-- A slice of arrays of n bytes reads as l. -/
def Pgs (w : World) (v : Value) (n : Nat) (l : List (List Nat)) : Prop :=
  ∃ (a : Option Addr) (cap : Nat), v = .slice a l.length cap ∧ l.length ≤ cap ∧ (l = [] ∨ ∃ b o, a = some ⟨b, o, none⟩ ∧ PgAt w b o n l)

def vnat : Value → Nat
  | .int _ z => z.toNat
  | _ => 0

theorem PgAt.new {w w' : World} {b o n : Nat} {l : List (List Nat)} (h : PgAt w b o n l) (k : Below w.heap.size w w') : PgAt w' b o n l := fun i r hr => (h i r hr).new k
theorem Pgs.new {w w' : World} {v : Value} {n : Nat} {l : List (List Nat)} (h : Pgs w v n l) (k : Below w.heap.size w w') : Pgs w' v n l := by
  obtain ⟨a, cap, hv, hc, h⟩ := h
  exact ⟨a, cap, hv, hc, h.imp id fun ⟨b, o, ha, hp⟩ => ⟨b, o, ha, hp.new k⟩⟩

theorem open_arr {H : Type} {enc : TypeId × Value → H} {P : Program} {W : World} {base : Nat} {spare : Nat → Bool} {held : Bool} {e eb n fuel : Nat} {cs : List Value} {x : DataW H × List MemPlace} (he : P.underlying e = some (.array n eb)) (hb : P.underlying eb = some (.int .u8)) (hce : P.cellsOf eb = 1) (hcn : P.cellsOf e = n)
    (h : DataW.trod enc P W base spare held fuel e cs = some x) : cs.length = n ∧ Byt (cs.map vnat) ∧ cs = (cs.map vnat).map bv := by
  obtain ⟨xs, m, _, _, hl, hxl, hx⟩ := DataW.trod_array he h
  rw [hcn] at hl
  have key : ∀ (j : Nat) (v : Value), cs[j]? = some v → vnat v < 256 ∧ v = bv (vnat v) := by
    intro j v hj
    have hj1 := (List.getElem?_eq_some_iff.1 hj).1
    have h1 := hx j (by omega)
    rw [hce, Nat.mul_one, List.getElem?_eq_getElem (by omega)] at h1
    obtain ⟨z, hz, _, hw⟩ := DataW.trod_int hb h1
    rw [List.drop_eq_getElem_cons hj1] at hz
    simp only [List.take_succ_cons, List.take_zero, List.cons.injEq, and_true] at hz
    rw [List.getElem?_eq_getElem hj1, Option.some.injEq] at hj
    rw [hj] at hz
    subst hz
    have := bounds_u8 hw
    refine ⟨show z.toNat < 256 by omega, ?_⟩
    show Value.int .u8 z = .int .u8 (z.toNat : Int)
    rw [Int.toNat_of_nonneg this.1]
  refine ⟨hl, ?_, ?_⟩
  · intro y hy
    obtain ⟨v, hv, rfl⟩ := List.mem_map.1 hy
    obtain ⟨j, hj⟩ := List.mem_iff_getElem?.1 hv
    exact (key j v hj).1
  · apply List.ext_getElem?
    intro j
    rw [List.getElem?_map, List.getElem?_map]
    cases hj : cs[j]? with
    | none => rfl
    | some v => simp only [Option.map_some]; rw [← (key j v hj).2]

theorem open_pgs {H : Type} {enc : TypeId × Value → H} {P : Program} {W : World} {base bs t e eb n : Nat} {r : Reach} {v : Value} {d : DataW H} {p : List MemPlace} {spare : Nat → Bool} {held : Bool} (ht : P.underlying t = some (.slice e)) (he : P.underlying e = some (.array n eb)) (hb : P.underlying eb = some (.int .u8)) (hce : P.cellsOf eb = 1) (hcn : P.cellsOf e = n) (hn : 0 < n)
    (hv : Value.okWide P W r base t v) (h : DataW.Trod enc P W bs spare held t v d p) :
    ∃ l : List (List Nat), Pgs W v n l ∧ (∀ r ∈ l, r.length = n) ∧ BytM l ∧ l.length ≤ maxLen := by
  obtain ⟨a0, len0, cap0, rfl⟩ := okWide_slice ht hv
  obtain ⟨fuel, hf⟩ := h
  rcases Go.Deep.open_slice ht hf with ⟨hcs, _⟩ | ⟨a, len, cap, m, q, D, Pl, hcs, _, hl, hm, hmm, _, hi⟩
  · simp only [Value.cells] at hcs
    obtain ⟨rfl, rfl, rfl⟩ : a0 = none ∧ len0 = 0 ∧ cap0 = 0 := by simpa using hcs
    exact ⟨[], ⟨none, 0, rfl, Nat.le_refl _, Or.inl rfl⟩, by simp, fun r hr => by simp at hr, Nat.zero_le _⟩
  · simp only [Value.cells] at hcs
    obtain ⟨rfl, rfl, rfl⟩ : a0 = some a ∧ len0 = len ∧ cap0 = cap := by simpa using hcs
    have hlm : len0 ≤ m := by rw [hmm]; split <;> omega
    have row : ∀ i : Nat, ∃ s : List Nat, i < len0 → s.length = n ∧ Byt s ∧ ∀ (j x : Nat), s[j]? = some x → W.cell? ((a.add (i * n)).add j) = some (bv x) := by
      intro i
      by_cases hil : i < len0
      · obtain ⟨cs', hc, htr⟩ := hi i (by omega)
        rw [hcn] at hc
        obtain ⟨_, hcl, hat⟩ := World.cells?_some hc
        obtain ⟨k1, k2, k3⟩ := open_arr he hb hce hcn htr
        refine ⟨cs'.map vnat, fun _ => ⟨by simpa using k1, k2, fun j x hx => ?_⟩⟩
        have hj := (List.getElem?_eq_some_iff.1 hx).1
        rw [List.length_map, k1] at hj
        rw [hat j hj]
        rw [k3, List.getElem?_map, hx]
        rfl
      · exact ⟨[], fun h => absurd h hil⟩
    obtain ⟨f, hf⟩ := Classical.axiomOfChoice row
    have hget : ∀ (i : Nat) (r : List Nat), ((List.range len0).map f)[i]? = some r → i < len0 ∧ r = f i := by
      intro i r hr
      have h1 := (List.getElem?_eq_some_iff.1 hr).1
      simp only [List.length_map, List.length_range] at h1
      simp [h1] at hr
      exact ⟨h1, hr.symm⟩
    refine ⟨(List.range len0).map f, ⟨some a, cap0, by simp, by simpa using hl, ?_⟩, ?_, ?_, by simp; omega⟩
    · by_cases h0 : len0 = 0
      · subst h0; exact Or.inl rfl
      · right
        have h00 := hf 0 (by omega)
        have hpl := addr_plain (h00.2.2 0 _ (List.getElem?_eq_getElem (by omega)))
        have e0 : (a.add (0 * n)).add 0 = a := by rw [Nat.zero_mul]; unfold Addr.add; simp
        rw [e0] at hpl
        refine ⟨a.block, a.off, by obtain ⟨b, o, s⟩ := a; simp only at hpl; subst hpl; rfl, ?_⟩
        intro i r hr j x hx
        obtain ⟨h1, rfl⟩ := hget i r hr
        have := (hf i h1).2.2 j x hx
        rw [add_plain hpl, add_plain rfl] at this
        exact this
    · intro r hr
      obtain ⟨i, hi⟩ := List.mem_iff_getElem?.1 hr
      obtain ⟨h1, rfl⟩ := hget i r hi
      exact (hf i h1).1
    · intro r hr
      obtain ⟨i, hi⟩ := List.mem_iff_getElem?.1 hr
      obtain ⟨h1, rfl⟩ := hget i r hi
      exact (hf i h1).2.1
end Go.Proofs.Ytkclmfppjhmnjaa
