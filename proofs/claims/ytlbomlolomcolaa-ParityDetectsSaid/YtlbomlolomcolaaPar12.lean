/- The contract of chapter 54's awake: its examples hold. -/
import Derived.Test.YtlbomlolomcolaaPar11
import Derived.Test.YtlbomlolomcolaaRef1
namespace Go.Proofs.Ytlbomlolomcolaa
open Go.RowKit

/-- Headers and rows fit. -/
def RowsOk (w : World) : List (Option Addr × Nat) → List (List Nat) → Prop
  | [], [] => True
  | p :: ps, r :: rs => (r.length ≤ p.2 ∧ (r = [] ∨ ∃ b o, p.1 = some ⟨b, o, none⟩ ∧ RowAt w b o r) ∧ (p.1 = none → p.2 = 0)) ∧ RowsOk w ps rs
  | _, _ => False
theorem RowsOk.get {w : World} : ∀ {ps : List (Option Addr × Nat)} {rs : List (List Nat)}, RowsOk w ps rs → ∀ (i : Nat) (r : List Nat), rs[i]? = some r → ∃ p : Option Addr × Nat, ps[i]? = some p ∧ r.length ≤ p.2 ∧ (r = [] ∨ ∃ b o, p.1 = some ⟨b, o, none⟩ ∧ RowAt w b o r) ∧ (p.1 = none → p.2 = 0)
  | [], [], _, i, r, hr => by simp at hr
  | p :: ps, s :: rs, h, 0, r, hr => by
    simp only [List.getElem?_cons_zero, Option.some.injEq] at hr
    subst hr
    exact ⟨p, rfl, h.1⟩
  | p :: ps, s :: rs, h, i + 1, r, hr => RowsOk.get (ps := ps) (rs := rs) h.2 i r hr
  | [], s :: rs, h, _, _, _ => h.elim
  | p :: ps, [], h, _, _, _ => h.elim

theorem mx_lit {w : World} {g cap : Nat} {ps : List (Option Addr × Nat)} {rows : List (List Nat)} (hO : Blk w g 26 (List.zipWith (fun p r => Value.slice p.1 r.length p.2) ps rows)) (h : RowsOk w ps rows) (hc : rows.length ≤ cap) : Mx w (.slice (some ⟨g, 0, none⟩) rows.length cap) rows := by
  refine ⟨_, cap, rfl, hc, Or.inr ⟨g, 0, fun i => (ps.getD i (none, 0)).1, fun i => (ps.getD i (none, 0)).2, rfl, ?_⟩⟩
  intro i r hr
  obtain ⟨p, hp, h1, h2, h3⟩ := h.get i r hr
  have hg : ps.getD i (none, 0) = p := by rw [List.getD_eq_getElem?_getD, hp]; rfl
  dsimp only
  rw [hg, Nat.zero_add]
  exact ⟨hO.cell (by rw [List.getElem?_zipWith, hp, hr]), h1, h2, h3⟩

abbrev one8 (w : World) (a : Nat) : World := w.alloc (.cells #[.int .u8 a] 5)
theorem one8_row (w : World) (a : Nat) : RowAt (one8 w a) w.heap.size 0 [a] := Blk.row (l := [a]) (Blk.new w 5 #[.int .u8 a])

theorem row_keep {w w' : World} {b o : Nat} {l : List Nat} (h : RowAt w b o l) (k : Below w.heap.size w w') : RowAt w' b o l := h.new k

def lit1 (w : World) (c : Nat) : World := (one8 w c).alloc (.cells #[.slice (some ⟨w.heap.size, 0, none⟩) 1 1] 26)
def lit2 (w : World) (a b : Nat) : World := (one8 (one8 w a) b).alloc (.cells #[.slice (some ⟨w.heap.size, 0, none⟩) 1 1, .slice (some ⟨w.heap.size + 1, 0, none⟩) 1 1] 26)
def litN (w : World) (b c : Nat) : World := (one8 (one8 w b) c).alloc (.cells #[.slice none 0 0, .slice (some ⟨w.heap.size, 0, none⟩) 1 1, .slice (some ⟨w.heap.size + 1, 0, none⟩) 1 1] 26)
def litNN (w : World) (c : Nat) : World := (one8 w c).alloc (.cells #[.slice none 0 0, .slice none 0 0, .slice (some ⟨w.heap.size, 0, none⟩) 1 1] 26)
def lit3 (w : World) (a b c : Nat) : World := (one8 (one8 (one8 w a) b) c).alloc (.cells #[.slice (some ⟨w.heap.size, 0, none⟩) 1 1, .slice (some ⟨w.heap.size + 1, 0, none⟩) 1 1, .slice (some ⟨w.heap.size + 1 + 1, 0, none⟩) 1 1] 26)

theorem al (w : World) (o : Obj) : Below w.heap.size w (w.alloc o) := (Below.refl _ _).alloc (Nat.le_refl _) _
theorem al2 (w : World) (o o' : Obj) : Below w.heap.size w ((w.alloc o).alloc o') := (al w o).alloc (by simp) _
theorem al3 (w : World) (o o' o'' : Obj) : Below w.heap.size w (((w.alloc o).alloc o').alloc o'') := (al2 w o o').alloc (by simp; omega) _
theorem al4 (w : World) (o o' o'' o3 : Obj) : Below w.heap.size w ((((w.alloc o).alloc o').alloc o'').alloc o3) := (al3 w o o' o'').alloc (by simp; omega) _

theorem lit1_mx (w : World) (c : Nat) : Mx (lit1 w c) (.slice (some ⟨w.heap.size + 1, 0, none⟩) 1 1) [[c]] ∧ Below w.heap.size w (lit1 w c) := by
  refine ⟨mx_lit (ps := [(some ⟨w.heap.size, 0, none⟩, 1)]) (rows := [[c]]) ?_ ⟨⟨by simp, Or.inr ⟨_, _, rfl, row_keep (one8_row w c) (al _ _)⟩, by simp⟩, trivial⟩ (by simp), al2 _ _ _⟩
  have := Blk.new (one8 w c) 26 #[.slice (some ⟨w.heap.size, 0, none⟩) 1 1]
  rw [show (one8 w c).heap.size = w.heap.size + 1 by simp [one8]] at this
  exact this

theorem lit2_mx (w : World) (a b : Nat) : Mx (lit2 w a b) (.slice (some ⟨w.heap.size + 1 + 1, 0, none⟩) 2 2) [[a], [b]] ∧ Below w.heap.size w (lit2 w a b) := by
  have r2 := one8_row (one8 w a) b
  rw [show (one8 w a).heap.size = w.heap.size + 1 by simp [one8]] at r2
  refine ⟨mx_lit (ps := [(some ⟨w.heap.size, 0, none⟩, 1), (some ⟨w.heap.size + 1, 0, none⟩, 1)]) (rows := [[a], [b]]) ?_ ⟨⟨by simp, Or.inr ⟨_, _, rfl, row_keep (one8_row w a) (al2 _ _ _)⟩, by simp⟩, ⟨by simp, Or.inr ⟨_, _, rfl, row_keep r2 (al _ _)⟩, by simp⟩, trivial⟩ (by simp), al3 _ _ _ _⟩
  have := Blk.new (one8 (one8 w a) b) 26 #[.slice (some ⟨w.heap.size, 0, none⟩) 1 1, .slice (some ⟨w.heap.size + 1, 0, none⟩) 1 1]
  rw [show (one8 (one8 w a) b).heap.size = w.heap.size + 1 + 1 by simp [one8]] at this
  exact this

theorem litN_mx (w : World) (b c : Nat) : Mx (litN w b c) (.slice (some ⟨w.heap.size + 1 + 1, 0, none⟩) 3 3) [[], [b], [c]] ∧ Below w.heap.size w (litN w b c) := by
  have r2 := one8_row (one8 w b) c
  rw [show (one8 w b).heap.size = w.heap.size + 1 by simp [one8]] at r2
  refine ⟨mx_lit (ps := [(none, 0), (some ⟨w.heap.size, 0, none⟩, 1), (some ⟨w.heap.size + 1, 0, none⟩, 1)]) (rows := [[], [b], [c]]) ?_ ⟨⟨by simp, Or.inl rfl, by simp⟩, ⟨by simp, Or.inr ⟨_, _, rfl, row_keep (one8_row w b) (al2 _ _ _)⟩, by simp⟩, ⟨by simp, Or.inr ⟨_, _, rfl, row_keep r2 (al _ _)⟩, by simp⟩, trivial⟩ (by simp), al3 _ _ _ _⟩
  have := Blk.new (one8 (one8 w b) c) 26 #[.slice none 0 0, .slice (some ⟨w.heap.size, 0, none⟩) 1 1, .slice (some ⟨w.heap.size + 1, 0, none⟩) 1 1]
  rw [show (one8 (one8 w b) c).heap.size = w.heap.size + 1 + 1 by simp [one8]] at this
  exact this

theorem litNN_mx (w : World) (c : Nat) : Mx (litNN w c) (.slice (some ⟨w.heap.size + 1, 0, none⟩) 3 3) [[], [], [c]] ∧ Below w.heap.size w (litNN w c) := by
  refine ⟨mx_lit (ps := [(none, 0), (none, 0), (some ⟨w.heap.size, 0, none⟩, 1)]) (rows := [[], [], [c]]) ?_ ⟨⟨by simp, Or.inl rfl, by simp⟩, ⟨by simp, Or.inl rfl, by simp⟩, ⟨by simp, Or.inr ⟨_, _, rfl, row_keep (one8_row w c) (al _ _)⟩, by simp⟩, trivial⟩ (by simp), al2 _ _ _⟩
  have := Blk.new (one8 w c) 26 #[.slice none 0 0, .slice none 0 0, .slice (some ⟨w.heap.size, 0, none⟩) 1 1]
  rw [show (one8 w c).heap.size = w.heap.size + 1 by simp [one8]] at this
  exact this

theorem lit3_mx (w : World) (a b c : Nat) : Mx (lit3 w a b c) (.slice (some ⟨w.heap.size + 1 + 1 + 1, 0, none⟩) 3 3) [[a], [b], [c]] ∧ Below w.heap.size w (lit3 w a b c) := by
  have r2 := one8_row (one8 w a) b
  rw [show (one8 w a).heap.size = w.heap.size + 1 by simp [one8]] at r2
  have r3 := one8_row (one8 (one8 w a) b) c
  rw [show (one8 (one8 w a) b).heap.size = w.heap.size + 1 + 1 by simp [one8]] at r3
  refine ⟨mx_lit (ps := [(some ⟨w.heap.size, 0, none⟩, 1), (some ⟨w.heap.size + 1, 0, none⟩, 1), (some ⟨w.heap.size + 1 + 1, 0, none⟩, 1)]) (rows := [[a], [b], [c]]) ?_ ⟨⟨by simp, Or.inr ⟨_, _, rfl, row_keep (one8_row w a) (al3 _ _ _ _)⟩, by simp⟩, ⟨by simp, Or.inr ⟨_, _, rfl, row_keep r2 (al2 _ _ _)⟩, by simp⟩, ⟨by simp, Or.inr ⟨_, _, rfl, row_keep r3 (al _ _)⟩, by simp⟩, trivial⟩ (by simp), al4 _ _ _ _ _⟩
  have := Blk.new (one8 (one8 (one8 w a) b) c) 26 #[.slice (some ⟨w.heap.size, 0, none⟩) 1 1, .slice (some ⟨w.heap.size + 1, 0, none⟩) 1 1, .slice (some ⟨w.heap.size + 1 + 1, 0, none⟩) 1 1]
  rw [show (one8 (one8 (one8 w a) b) c).heap.size = w.heap.size + 1 + 1 + 1 by simp [one8]] at this
  exact this

theorem x54a : recErr [[1], [2]] 1 = 0 ∧ recRows [[1], [2]] 1 = [[0]] := by decide +kernel
theorem x54b : repErr [[], [2], [0]] 2 = 0 ∧ repRows [[], [2], [0]] 2 = [[1], [2], [0]] := by decide +kernel
theorem x54c : repErr [[], [], [0]] 2 = 26 ∧ repRows [[], [], [0]] 2 = [] := by decide +kernel
theorem x54d : updErr [[1], [2], [0]] 2 0 [4] = 0 ∧ updRows [[1], [2], [0]] 2 0 [4] = [[4], [2], [5]] := by decide +kernel

theorem bytM_small {m : List (List Nat)} (h : (m.all fun r => r.all fun x => decide (x < 256)) = true) : BytM m := by
  intro r hr x hx
  rw [List.all_eq_true] at h
  have := h r hr
  rw [List.all_eq_true] at this
  simpa using this x hx
end Go.Proofs.Ytlbomlolomcolaa
