/- The contracts of parity.Recovery and parity.Update for all arguments. -/
/- The contract of chapter 54's awake: its examples hold. -/
/- The contract of chapter 54's awake. -/
/- The contract of the reference's Update of chapter 54. -/
/- Slices of rows whose headers the call lays itself, over bytes that others hold; the contracts of chapter 54's parts and set. -/
import Derived.Test.YtkclmfppjhmnjaaB30
import Derived.Test.YtkclmfppjhmnjaaB31
import Derived.Test.YtkclmfppjhmnjaaB15
import Derived.Test.YtkclmfppjhmnjaaB26
import Derived.Deep.QuietTactic
import Derived.BigQuiet
import Derived.StillTailTactics
import Derived.Laws.AppendOwnNone
import Derived.Test.YtkclmfppjhmnjaaB04
namespace Go.Proofs.Ytkclmfppjhmnjaa
open Go.RowKit

set_option maxRecDepth 100000 in
set_option maxHeartbeats 4000000 in
theorem pRecovery_any (v : Value) (data : List (List Nat)) (count : Int) (w : World) (hn : data.length ≤ 1000000000) (hBy : BytM data) (hm : Mx w v data) (hd1 : -9223372036854775808 ≤ count) (hd2 : count ≤ 9223372036854775807) :
    Calls Try.prog 55 #[v, .int .i64 count] w (RowsErr (recRows data count) (recErr data count) w) := by
  obtain ⟨a, cap, rfl, hcap, h⟩ := hm
  by_cases hc : data.length < 1 ∨ 64 < data.length ∨ count < 0 ∨ 64 - (data.length : Int) < count
  · have e1 : recErr data count = 6 := by unfold recErr; rw [if_pos hc]
    have e2 : recRows data count = [] := by unfold recRows; rw [e1]; rfl
    rw [e1, e2]
    clear e1 e2 h
    by_cases h1 : data.length < 1
    · have t1 : decide ((data.length : Int) < 1) = true := by simp; omega
      clear hc
      go_enter Try.func55, Try.ntmps55
      go_wp2_with fail
      go_ret2
      exact ⟨.slice none 0 0, [], rfl, GM.nil _ _, (Below.refl _ _).alloc (Nat.le_refl _) _⟩
    have t1 : decide ((data.length : Int) < 1) = false := by simp; omega
    by_cases h2 : 64 < data.length
    · have t2 : decide ((64 : Int) < (data.length : Int)) = true := by simp; omega
      clear hc
      go_enter Try.func55, Try.ntmps55
      go_wp2_with fail
      go_ret2
      exact ⟨.slice none 0 0, [], rfl, GM.nil _ _, (Below.refl _ _).alloc (Nat.le_refl _) _⟩
    have t2 : decide ((64 : Int) < (data.length : Int)) = false := by simp; omega
    by_cases h3 : count < 0
    · have t3 : decide (count < 0) = true := by simp; omega
      clear hc
      go_enter Try.func55, Try.ntmps55
      go_wp2_with fail
      go_ret2
      exact ⟨.slice none 0 0, [], rfl, GM.nil _ _, (Below.refl _ _).alloc (Nat.le_refl _) _⟩
    have t3 : decide (count < 0) = false := by simp; omega
    have t4 : decide ((64 : Int) - (data.length : Int) < count) = true := by simp; omega
    have t5 : (64 : Int) - (data.length : Int) < count := by omega
    clear hc
    go_enter Try.func55, Try.ntmps55
    go_wp2_with fail
    go_ret2
    exact ⟨.slice none 0 0, [], rfl, GM.nil _ _, (Below.refl _ _).alloc (Nat.le_refl _) _⟩
  rcases h with h | ⟨b, o, A, C, rfl, hM⟩
  · rw [h] at hc; simp at hc
  have t1 : decide ((data.length : Int) < 1) = false := by simp; omega
  have t2 : decide ((64 : Int) < (data.length : Int)) = false := by simp; omega
  have t3 : decide (count < 0) = false := by simp; omega
  have t4 : decide ((64 : Int) - (data.length : Int) < count) = false := by simp; omega
  have t5 : ¬ (64 : Int) - (data.length : Int) < count := by omega
  have t6 : 0 ≤ count := by omega
  have t7 : 1 ≤ data.length := by omega
  have t8 : data.length ≤ 64 := by omega
  cases hL : longB data with
  | true =>
    have e1 : recErr data count = 5 := by unfold recErr; rw [if_neg hc, hL]; rfl
    have e2 : recRows data count = [] := by unfold recRows; rw [e1]; rfl
    rw [e1, e2]
    have HL := Lib.hid hL
    have HM := Lib.hid (hM.new ((Below.refl w.heap.size w).alloc (Nat.le_refl _) (.cells #[.slice (some ⟨b, o, none⟩) data.length cap] 44)))
    clear e1 e2 hL hM hc
    go_enter Try.func55, Try.ntmps55
    go_wp2_with fail
    refine (ContainsFunc_long b o data.length cap (fun i => .slice (A i) (plen data i) (C i)) (fun i => decide (65536 < plen data i)) _ (by omega) ?hc ?hf).mono ?_
    case hc => exact fun i hi => (HM.out i _ (getD_some (d := []) hi)).1
    case hf => exact fun i hi => long_any _ _ _ _
    rintro e w1 ⟨rfl, rfl⟩
    rw [any_firstOf, show ((List.range data.length).any fun i => decide (65536 < plen data i)) = longB data from rfl, HL.out]
    go_wp2_with fail
    go_ret2
    exact ⟨.slice none 0 0, [], rfl, GM.nil _ _, (Below.refl _ _).alloc (Nat.le_refl _) _⟩
  | false =>
    cases hbad : badB data with
    | true =>
      have e1 : recErr data count = 23 := by unfold recErr; rw [if_neg hc, hL, hbad]; rfl
      have e2 : recRows data count = [] := by unfold recRows; rw [e1]; rfl
      rw [e1, e2]
      have HL := Lib.hid hL
      have Hbad := Lib.hid hbad
      have HM := Lib.hid (hM.new ((Below.refl w.heap.size w).alloc (Nat.le_refl _) (.cells #[.slice (some ⟨b, o, none⟩) data.length cap] 44)))
      have Hbox := Lib.hid (Blk.new w 44 #[.slice (some ⟨b, o, none⟩) data.length cap])
      clear e1 e2 hL hM hc hbad
      go_enter Try.func55, Try.ntmps55
      go_wp2_with fail
      refine (ContainsFunc_long b o data.length cap (fun i => .slice (A i) (plen data i) (C i)) (fun i => decide (65536 < plen data i)) _ (by omega) ?hc3 ?hf3).mono ?_
      case hc3 => exact fun i hi => (HM.out i _ (getD_some (d := []) hi)).1
      case hf3 => exact fun i hi => long_any _ _ _ _
      rintro e w1 ⟨rfl, rfl⟩
      rw [any_firstOf, show ((List.range data.length).any fun i => decide (65536 < plen data i)) = longB data from rfl, HL.out]
      go_wp2_with fail
      refine (ContainsFunc_Recovery1 b o data.length cap (fun i => .slice (A i) (plen data i) (C i)) _ (fun i => decide (plen data i = 0 ∨ plen data i ≠ plen data 0)) _ (by omega) ?hc2 ?hf2).mono ?_
      case hc2 => exact fun i hi => (HM.out i _ (getD_some (d := []) hi)).1
      case hf2 =>
        intro i hi
        refine Recovery1_any _ (A 0) _ _ _ b o data.length cap (plen data 0) (C 0) _ (by omega) (Hbox.out.cell rfl) ?_
        have := (HM.out 0 _ (getD_some (d := []) (by omega))).1
        rw [Nat.add_zero] at this
        exact this
      rintro e w1 ⟨rfl, rfl⟩
      rw [any_firstOf, show ((List.range data.length).any fun i => decide (plen data i = 0 ∨ plen data i ≠ plen data 0)) = badB data from rfl, Hbad.out]
      go_wp2_with fail
      go_ret2
      exact ⟨.slice none 0 0, [], rfl, GM.nil _ _, (Below.refl _ _).alloc (Nat.le_refl _) _⟩
    | false =>
      obtain ⟨hR, hL1, hL2⟩ := badB_rect hBy hbad hL t7
      have e1 : recErr data count = 0 := by unfold recErr; rw [if_neg hc, hL, hbad]; rfl
      have e2 : recRows data count = prodM (cauM count.toNat data.length) data := by unfold recRows; rw [e1]; rfl
      rw [e1, e2]
      obtain ⟨r, rfl⟩ : ∃ r : Nat, count = r := ⟨count.toNat, by omega⟩
      rw [Int.toNat_natCast]
      exact pRecovery_in b o cap (plen data 0) r data A C w hcap hM t7 (by omega) hL hbad hR rfl hL1 hL2

end Go.Proofs.Ytkclmfppjhmnjaa

namespace Go.Proofs.Ytkclmfppjhmnjaa
open Go.RowKit

/-- Headers and rows fit. -/
def RowsOk (w : World) : List (Option Addr × Nat) → List (List Nat) → Prop
  | [], [] => True
  | p :: ps, r :: rs => (r.length ≤ p.2 ∧ (r = [] ∨ ∃ b o, p.1 = some ⟨b, o, none⟩ ∧ RowAt w b o r) ∧ (p.1 = none → p.2 = 0)) ∧ RowsOk w ps rs
  | _, _ => False
theorem RowsOk.get {w : World} : ∀ {ps : List (Option Addr × Nat)} {rs : List (List Nat)}, RowsOk w ps rs → ∀ (i : Nat) (r : List Nat), rs[i]? = some r → ∃ p : Option Addr × Nat, ps[i]? = some p ∧ r.length ≤ p.2 ∧ (r = [] ∨ ∃ b o, p.1 = some ⟨b, o, none⟩ ∧ RowAt w b o r) ∧ (p.1 = none → p.2 = 0)
  | [], [], _, i, r, hr => by simp at hr
  | p :: ps, s :: rs, h, 0, r, hr => by
    simp only [List.getElem?_cons_zero, Option.some.injEq] at hr
    subst hr
    exact ⟨p, rfl, h.1⟩
  | p :: ps, s :: rs, h, i + 1, r, hr => RowsOk.get (ps := ps) (rs := rs) h.2 i r hr
  | [], s :: rs, h, _, _, _ => h.elim
  | p :: ps, [], h, _, _, _ => h.elim

theorem mx_lit {w : World} {g cap : Nat} {ps : List (Option Addr × Nat)} {rows : List (List Nat)} (hO : Blk w g 26 (List.zipWith (fun p r => Value.slice p.1 r.length p.2) ps rows)) (h : RowsOk w ps rows) (hc : rows.length ≤ cap) : Mx w (.slice (some ⟨g, 0, none⟩) rows.length cap) rows := by
  refine ⟨_, cap, rfl, hc, Or.inr ⟨g, 0, fun i => (ps.getD i (none, 0)).1, fun i => (ps.getD i (none, 0)).2, rfl, ?_⟩⟩
  intro i r hr
  obtain ⟨p, hp, h1, h2, h3⟩ := h.get i r hr
  have hg : ps.getD i (none, 0) = p := by rw [List.getD_eq_getElem?_getD, hp]; rfl
  dsimp only
  rw [hg, Nat.zero_add]
  exact ⟨hO.cell (by rw [List.getElem?_zipWith, hp, hr]), h1, h2, h3⟩

abbrev one8 (w : World) (a : Nat) : World := w.alloc (.cells #[.int .u8 a] 5)
theorem one8_row (w : World) (a : Nat) : RowAt (one8 w a) w.heap.size 0 [a] := Blk.row (l := [a]) (Blk.new w 5 #[.int .u8 a])

theorem row_keep {w w' : World} {b o : Nat} {l : List Nat} (h : RowAt w b o l) (k : Below w.heap.size w w') : RowAt w' b o l := h.new k

def lit1 (w : World) (c : Nat) : World := (one8 w c).alloc (.cells #[.slice (some ⟨w.heap.size, 0, none⟩) 1 1] 26)
def lit2 (w : World) (a b : Nat) : World := (one8 (one8 w a) b).alloc (.cells #[.slice (some ⟨w.heap.size, 0, none⟩) 1 1, .slice (some ⟨w.heap.size + 1, 0, none⟩) 1 1] 26)
def litN (w : World) (b c : Nat) : World := (one8 (one8 w b) c).alloc (.cells #[.slice none 0 0, .slice (some ⟨w.heap.size, 0, none⟩) 1 1, .slice (some ⟨w.heap.size + 1, 0, none⟩) 1 1] 26)
def litNN (w : World) (c : Nat) : World := (one8 w c).alloc (.cells #[.slice none 0 0, .slice none 0 0, .slice (some ⟨w.heap.size, 0, none⟩) 1 1] 26)
def lit3 (w : World) (a b c : Nat) : World := (one8 (one8 (one8 w a) b) c).alloc (.cells #[.slice (some ⟨w.heap.size, 0, none⟩) 1 1, .slice (some ⟨w.heap.size + 1, 0, none⟩) 1 1, .slice (some ⟨w.heap.size + 1 + 1, 0, none⟩) 1 1] 26)

theorem al (w : World) (o : Obj) : Below w.heap.size w (w.alloc o) := (Below.refl _ _).alloc (Nat.le_refl _) _
theorem al2 (w : World) (o o' : Obj) : Below w.heap.size w ((w.alloc o).alloc o') := (al w o).alloc (by simp) _
theorem al3 (w : World) (o o' o'' : Obj) : Below w.heap.size w (((w.alloc o).alloc o').alloc o'') := (al2 w o o').alloc (by simp; omega) _
theorem al4 (w : World) (o o' o'' o3 : Obj) : Below w.heap.size w ((((w.alloc o).alloc o').alloc o'').alloc o3) := (al3 w o o' o'').alloc (by simp; omega) _

theorem lit1_mx (w : World) (c : Nat) : Mx (lit1 w c) (.slice (some ⟨w.heap.size + 1, 0, none⟩) 1 1) [[c]] ∧ Below w.heap.size w (lit1 w c) := by
  refine ⟨mx_lit (ps := [(some ⟨w.heap.size, 0, none⟩, 1)]) (rows := [[c]]) ?_ ⟨⟨by simp, Or.inr ⟨_, _, rfl, row_keep (one8_row w c) (al _ _)⟩, by simp⟩, trivial⟩ (by simp), al2 _ _ _⟩
  have := Blk.new (one8 w c) 26 #[.slice (some ⟨w.heap.size, 0, none⟩) 1 1]
  rw [show (one8 w c).heap.size = w.heap.size + 1 by simp [one8]] at this
  exact this

theorem lit2_mx (w : World) (a b : Nat) : Mx (lit2 w a b) (.slice (some ⟨w.heap.size + 1 + 1, 0, none⟩) 2 2) [[a], [b]] ∧ Below w.heap.size w (lit2 w a b) := by
  have r2 := one8_row (one8 w a) b
  rw [show (one8 w a).heap.size = w.heap.size + 1 by simp [one8]] at r2
  refine ⟨mx_lit (ps := [(some ⟨w.heap.size, 0, none⟩, 1), (some ⟨w.heap.size + 1, 0, none⟩, 1)]) (rows := [[a], [b]]) ?_ ⟨⟨by simp, Or.inr ⟨_, _, rfl, row_keep (one8_row w a) (al2 _ _ _)⟩, by simp⟩, ⟨by simp, Or.inr ⟨_, _, rfl, row_keep r2 (al _ _)⟩, by simp⟩, trivial⟩ (by simp), al3 _ _ _ _⟩
  have := Blk.new (one8 (one8 w a) b) 26 #[.slice (some ⟨w.heap.size, 0, none⟩) 1 1, .slice (some ⟨w.heap.size + 1, 0, none⟩) 1 1]
  rw [show (one8 (one8 w a) b).heap.size = w.heap.size + 1 + 1 by simp [one8]] at this
  exact this

theorem litN_mx (w : World) (b c : Nat) : Mx (litN w b c) (.slice (some ⟨w.heap.size + 1 + 1, 0, none⟩) 3 3) [[], [b], [c]] ∧ Below w.heap.size w (litN w b c) := by
  have r2 := one8_row (one8 w b) c
  rw [show (one8 w b).heap.size = w.heap.size + 1 by simp [one8]] at r2
  refine ⟨mx_lit (ps := [(none, 0), (some ⟨w.heap.size, 0, none⟩, 1), (some ⟨w.heap.size + 1, 0, none⟩, 1)]) (rows := [[], [b], [c]]) ?_ ⟨⟨by simp, Or.inl rfl, by simp⟩, ⟨by simp, Or.inr ⟨_, _, rfl, row_keep (one8_row w b) (al2 _ _ _)⟩, by simp⟩, ⟨by simp, Or.inr ⟨_, _, rfl, row_keep r2 (al _ _)⟩, by simp⟩, trivial⟩ (by simp), al3 _ _ _ _⟩
  have := Blk.new (one8 (one8 w b) c) 26 #[.slice none 0 0, .slice (some ⟨w.heap.size, 0, none⟩) 1 1, .slice (some ⟨w.heap.size + 1, 0, none⟩) 1 1]
  rw [show (one8 (one8 w b) c).heap.size = w.heap.size + 1 + 1 by simp [one8]] at this
  exact this

theorem litNN_mx (w : World) (c : Nat) : Mx (litNN w c) (.slice (some ⟨w.heap.size + 1, 0, none⟩) 3 3) [[], [], [c]] ∧ Below w.heap.size w (litNN w c) := by
  refine ⟨mx_lit (ps := [(none, 0), (none, 0), (some ⟨w.heap.size, 0, none⟩, 1)]) (rows := [[], [], [c]]) ?_ ⟨⟨by simp, Or.inl rfl, by simp⟩, ⟨by simp, Or.inl rfl, by simp⟩, ⟨by simp, Or.inr ⟨_, _, rfl, row_keep (one8_row w c) (al _ _)⟩, by simp⟩, trivial⟩ (by simp), al2 _ _ _⟩
  have := Blk.new (one8 w c) 26 #[.slice none 0 0, .slice none 0 0, .slice (some ⟨w.heap.size, 0, none⟩) 1 1]
  rw [show (one8 w c).heap.size = w.heap.size + 1 by simp [one8]] at this
  exact this

theorem lit3_mx (w : World) (a b c : Nat) : Mx (lit3 w a b c) (.slice (some ⟨w.heap.size + 1 + 1 + 1, 0, none⟩) 3 3) [[a], [b], [c]] ∧ Below w.heap.size w (lit3 w a b c) := by
  have r2 := one8_row (one8 w a) b
  rw [show (one8 w a).heap.size = w.heap.size + 1 by simp [one8]] at r2
  have r3 := one8_row (one8 (one8 w a) b) c
  rw [show (one8 (one8 w a) b).heap.size = w.heap.size + 1 + 1 by simp [one8]] at r3
  refine ⟨mx_lit (ps := [(some ⟨w.heap.size, 0, none⟩, 1), (some ⟨w.heap.size + 1, 0, none⟩, 1), (some ⟨w.heap.size + 1 + 1, 0, none⟩, 1)]) (rows := [[a], [b], [c]]) ?_ ⟨⟨by simp, Or.inr ⟨_, _, rfl, row_keep (one8_row w a) (al3 _ _ _ _)⟩, by simp⟩, ⟨by simp, Or.inr ⟨_, _, rfl, row_keep r2 (al2 _ _ _)⟩, by simp⟩, ⟨by simp, Or.inr ⟨_, _, rfl, row_keep r3 (al _ _)⟩, by simp⟩, trivial⟩ (by simp), al4 _ _ _ _ _⟩
  have := Blk.new (one8 (one8 (one8 w a) b) c) 26 #[.slice (some ⟨w.heap.size, 0, none⟩) 1 1, .slice (some ⟨w.heap.size + 1, 0, none⟩) 1 1, .slice (some ⟨w.heap.size + 1 + 1, 0, none⟩) 1 1]
  rw [show (one8 (one8 (one8 w a) b) c).heap.size = w.heap.size + 1 + 1 + 1 by simp [one8]] at this
  exact this

theorem x54a : recErr [[1], [2]] 1 = 0 ∧ recRows [[1], [2]] 1 = [[0]] := by decide +kernel
theorem x54b : repErr [[], [2], [0]] 2 = 0 ∧ repRows [[], [2], [0]] 2 = [[1], [2], [0]] := by decide +kernel
theorem x54c : repErr [[], [], [0]] 2 = 26 ∧ repRows [[], [], [0]] 2 = [] := by decide +kernel
theorem x54d : updErr [[1], [2], [0]] 2 0 [4] = 0 ∧ updRows [[1], [2], [0]] 2 0 [4] = [[4], [2], [5]] := by decide +kernel

theorem bytM_small {m : List (List Nat)} (h : (m.all fun r => r.all fun x => decide (x < 256)) = true) : BytM m := by
  intro r hr x hx
  rw [List.all_eq_true] at h
  have := h r hr
  rw [List.all_eq_true] at this
  simpa using this x hx
end Go.Proofs.Ytkclmfppjhmnjaa

namespace Go.Proofs.Ytkclmfppjhmnjaa
open Go.RowKit

end Go.Proofs.Ytkclmfppjhmnjaa

namespace Go.Proofs.Ytkclmfppjhmnjaa
open Go.RowKit

theorem parErr_flags {parts : List (List Nat)} {data : Int} (hP : parErr parts data = 0) : longB parts = false ∧ misB parts = false := by
  unfold parErr at hP
  split at hP
  · simp at hP
  split at hP
  · simp at hP
  split at hP
  · simp at hP
  split at hP
  · simp at hP
  rename_i h1 h2
  exact ⟨by simpa using h1, by simpa using h2⟩

theorem ch_get {part pt : List Nat} {x : Nat} (h1 : x < part.length) (h2 : x < pt.length) (b1 : Byt part) (b2 : Byt pt) : bits .xor .u8 (pt.getD x 0) (part.getD x 0) = ((addMul 1 part pt).getD x 0 : Nat) := by
  rw [xor_u8 _ _ (b2.getD x) (b1.getD x)]
  unfold addMul
  rw [List.getD_eq_getElem?_getD (l := List.zipWith _ _ _), List.getElem?_zipWith, getD_some (l := part) (d := 0) h1, getD_some (l := pt) (d := 0) h2]
  show ((_ : Nat) : Int) = ((_ : Nat) : Int)
  congr 1
  show _ = part.getD x 0 ^^^ Gf.gm 1 (pt.getD x 0)
  rw [Gf.one_gm (b2.getD x), Nat.xor_comm]

theorem owns_empty (w : World) (T : Nat) : (w.alloc (.cells #[] T)).ownsRow w.heap.size T 1 (.slice (some ⟨w.heap.size, 0, none⟩) 0 0) 0 [] :=
  ⟨rfl, .inr ⟨w.heap.size, 0, #[], rfl, Nat.le_refl _, (by show (w.heap.push _)[w.heap.size]? = _; simp), Nat.le_refl _, Nat.zero_le _, rfl, rfl⟩⟩

end Go.Proofs.Ytkclmfppjhmnjaa

namespace Go.Proofs.Ytkclmfppjhmnjaa
open Go.RowKit

/-- A header that reads as a row. -/
def HdOk (w : World) (x : Value) (r : List Nat) : Prop := ∃ a c, x = .slice a r.length c ∧ r.length ≤ c ∧ (r = [] ∨ ∃ b o, a = some ⟨b, o, none⟩ ∧ RowAt w b o r) ∧ (a = none → c = 0)
theorem HdOk.new {w w' : World} {x : Value} {r : List Nat} (h : HdOk w x r) (k : Below w.heap.size w w') : HdOk w' x r := by
  obtain ⟨a, c, h1, h2, h3, h4⟩ := h
  refine ⟨a, c, h1, h2, ?_, h4⟩
  rcases h3 with h3 | ⟨b, o, ha, hr⟩
  · exact Or.inl h3
  · exact Or.inr ⟨b, o, ha, hr.new k⟩
theorem HdOk.nil (w : World) : HdOk w (.slice none 0 0) [] := ⟨none, 0, rfl, Nat.le_refl _, Or.inl rfl, fun _ => rfl⟩

/-- Headers that read as the rows. -/
def HdsOk (w : World) (vs : List Value) (m : List (List Nat)) : Prop := vs.length = m.length ∧ ∀ (i : Nat) (x : Value) (r : List Nat), vs[i]? = some x → m[i]? = some r → HdOk w x r
theorem HdsOk.new {w w' : World} {vs : List Value} {m : List (List Nat)} (h : HdsOk w vs m) (k : Below w.heap.size w w') : HdsOk w' vs m := ⟨h.1, fun i x r hx hr => (h.2 i x r hx hr).new k⟩
theorem HdsOk.nil (w : World) : HdsOk w [] [] := ⟨rfl, fun i x r h => by simp at h⟩
theorem HdsOk.append {w : World} {vs us : List Value} {m n : List (List Nat)} (h : HdsOk w vs m) (k : HdsOk w us n) : HdsOk w (vs ++ us) (m ++ n) := by
  refine ⟨by rw [List.length_append, List.length_append, h.1, k.1], fun i x r hx hr => ?_⟩
  by_cases hi : i < vs.length
  · rw [List.getElem?_append_left hi] at hx
    rw [List.getElem?_append_left (by rw [← h.1]; exact hi)] at hr
    exact h.2 i x r hx hr
  · rw [List.getElem?_append_right (by omega)] at hx
    rw [List.getElem?_append_right (by rw [← h.1]; omega), ← h.1] at hr
    exact k.2 _ x r hx hr
theorem HdsOk.one {w : World} {x : Value} {r : List Nat} (h : HdOk w x r) : HdsOk w [x] [r] := by
  refine ⟨rfl, fun i y s hy hs => ?_⟩
  cases i with
  | zero =>
    simp only [List.getElem?_cons_zero, Option.some.injEq] at hy hs
    subst hy; subst hs; exact h
  | succ i => simp at hy
theorem HdsOk.set {w : World} {vs : List Value} {m : List (List Nat)} (h : HdsOk w vs m) {i : Nat} {x : Value} {r : List Nat} (hx : HdOk w x r) : HdsOk w (vs.set i x) (m.set i r) := by
  refine ⟨by simp [h.1], fun j y s hy hs => ?_⟩
  by_cases hj : i = j
  · subst hj
    have hi : i < vs.length := by have := (List.getElem?_eq_some_iff.1 hy).1; simpa using this
    rw [List.getElem?_set_self hi] at hy
    rw [List.getElem?_set_self (by rw [← h.1]; exact hi)] at hs
    simp only [Option.some.injEq] at hy hs
    subst hy; subst hs; exact hx
  · rw [List.getElem?_set_ne hj] at hy hs
    exact h.2 j y s hy hs
theorem HdsOk.oneCell {w : World} {vs : List Value} {m : List (List Nat)} (h : HdsOk w vs m) : ∀ u ∈ vs, u.oneCell' = true := by
  intro u hu
  obtain ⟨i, hi⟩ := List.mem_iff_getElem?.1 hu
  have hl := (List.getElem?_eq_some_iff.1 hi).1
  obtain ⟨a, c, h1, _⟩ := h.2 i u _ hi (getD_some (d := []) (by rw [← h.1]; exact hl))
  rw [h1]; rfl

def hdA (vs : List Value) (i : Nat) : Option Addr := match vs.getD i (.slice none 0 0) with | .slice a _ _ => a | _ => none
def hdC (vs : List Value) (i : Nat) : Nat := match vs.getD i (.slice none 0 0) with | .slice _ _ c => c | _ => 0
/-- Headers in a row of cells: a matrix. -/
theorem HdsOk.mxAt {w : World} {b o : Nat} {vs : List Value} {m : List (List Nat)} (h : HdsOk w vs m) (hc : ∀ (i : Nat) (x : Value), vs[i]? = some x → w.cell? ⟨b, o + i, none⟩ = some x) : MxAt w b o m (hdA vs) (hdC vs) := by
  intro i r hr
  have hi : i < vs.length := by rw [h.1]; exact (List.getElem?_eq_some_iff.1 hr).1
  have hx := getD_some (d := Value.slice none 0 0) hi
  obtain ⟨a, c, h1, h2, h3, h4⟩ := h.2 i _ r hx hr
  have hA : hdA vs i = a := by unfold hdA; rw [h1]
  have hC : hdC vs i = c := by unfold hdC; rw [h1]
  rw [hA, hC, hc i _ hx, h1]
  exact ⟨rfl, h2, h3, h4⟩
theorem HdsOk.mx {w : World} {g T cap : Nat} {vs : List Value} {m : List (List Nat)} (h : HdsOk w vs m) (hb : Blk w g T vs) (hc : m.length ≤ cap) : Mx w (.slice (some ⟨g, 0, none⟩) m.length cap) m :=
  ⟨_, cap, rfl, hc, Or.inr ⟨g, 0, _, _, rfl, h.mxAt fun i x hx => by rw [Nat.zero_add]; exact hb.cell hx⟩⟩

/-- The headers of a matrix. -/
def mvs (m : List (List Nat)) (A : Nat → Option Addr) (C : Nat → Nat) : List Value := (List.range m.length).map fun i => .slice (A i) (plen m i) (C i)
theorem mvs_length (m : List (List Nat)) (A : Nat → Option Addr) (C : Nat → Nat) : (mvs m A C).length = m.length := by simp [mvs]
theorem mvs_get {m : List (List Nat)} {A : Nat → Option Addr} {C : Nat → Nat} {i : Nat} {x : Value} (h : (mvs m A C)[i]? = some x) : i < m.length ∧ x = .slice (A i) (plen m i) (C i) := by
  have hi : i < m.length := by have := (List.getElem?_eq_some_iff.1 h).1; rwa [mvs_length] at this
  refine ⟨hi, ?_⟩
  unfold mvs at h
  rw [List.getElem?_map, List.getElem?_range hi] at h
  simpa using h.symm
theorem MxAt.hds {w : World} {b o : Nat} {m : List (List Nat)} {A : Nat → Option Addr} {C : Nat → Nat} (h : MxAt w b o m A C) : HdsOk w (mvs m A C) m := by
  refine ⟨mvs_length _ _ _, fun i x r hx hr => ?_⟩
  obtain ⟨hi, rfl⟩ := mvs_get hx
  obtain ⟨_, h2, h3, h4⟩ := h i r hr
  have e : plen m i = r.length := by unfold plen; rw [List.getD_eq_getElem?_getD, hr]; rfl
  exact ⟨A i, C i, by rw [e], h2, h3, h4⟩
theorem MxAt.src {w : World} {b o : Nat} {m : List (List Nat)} {A : Nat → Option Addr} {C : Nat → Nat} (h : MxAt w b o m A C) : ∀ j u, (mvs m A C)[j]? = some u → w.cell? ((⟨b, o, none⟩ : Addr).add j) = some u := by
  intro j u hu
  obtain ⟨hi, rfl⟩ := mvs_get hu
  rw [add_plain rfl]
  exact (h j _ (getD_some (d := []) hi)).1
theorem GM.hds {w : World} {B : Nat} {v : Value} {hd : List (Nat × Nat)} {m : List (List Nat)} (h : GM w B v hd m) : HdsOk w (hvs hd m) m := by
  refine ⟨hvs_length h.len, fun i x r hx hr => ?_⟩
  have hi : i < hd.length := by rw [h.len]; exact (List.getElem?_eq_some_iff.1 hr).1
  have hp := getD_some (d := (0, 0)) hi
  rw [hvs_get hp hr] at hx
  simp only [Option.some.injEq] at hx
  subst hx
  obtain ⟨k1, _, k3⟩ := h.rows i _ r hp hr
  exact ⟨_, _, rfl, k3, Or.inr ⟨_, 0, rfl, k1.row⟩, by simp⟩

/-- A slice of headers of the call's own. -/
structure VM (w : World) (B : Nat) (v : Value) (vs : List Value) (m : List (List Nat)) : Prop where
  outer : w.ownsRow B 26 1 v m.length vs
  hds : HdsOk w vs m
theorem VM.nil (w : World) (B : Nat) : VM w B (.slice none 0 0) [] [] := ⟨World.ownsRow_nil w B _ 1, HdsOk.nil w⟩
theorem VM.new {w w' : World} {B : Nat} {v : Value} {vs : List Value} {m : List (List Nat)} (h : VM w B v vs m) (k : Below w.heap.size w w') : VM w' B v vs m :=
  ⟨owns_kept h.outer (Kept.of_new k) (S := fun _ => False) (fun _ _ => id), h.hds.new k⟩
theorem VM.done {w : World} {B : Nat} {v : Value} {vs : List Value} {m : List (List Nat)} (h : VM w B v vs m) (hm : m ≠ []) : ∃ bo cap, v = .slice (some ⟨bo, 0, none⟩) m.length cap ∧ m.length ≤ cap ∧ cap ≤ maxLen ∧ Blk w bo 26 vs ∧ B ≤ bo := by
  have h0 := h.outer
  rcases h0.2 with ⟨rfl, hz⟩ | ⟨g, cap, cur, rfl, hb, hgg, h1, h2, h3⟩
  · exact absurd (List.length_eq_zero_iff.1 hz) hm
  · exact ⟨g, cap, rfl, h1, h2, Blk.of_owns h0, hb⟩
theorem VM.mx {w : World} {B : Nat} {v : Value} {vs : List Value} {m : List (List Nat)} (h : VM w B v vs m) : Mx w v m := by
  by_cases hm : m = []
  · subst hm
    obtain ⟨a, c, rfl⟩ := owns_slice h.outer
    exact ⟨a, c, rfl, Nat.zero_le _, Or.inl rfl⟩
  · obtain ⟨bo, cap, rfl, h1, _, hb, _⟩ := h.done hm
    exact h.hds.mx hb h1
/-- What a function that returns a slice of headers of its own leaves. -/
def VmRet (m : List (List Nat)) (w : World) (e : Ending) (w' : World) : Prop := ∃ vo vs, e = .returned vo ∧ VM w' w.heap.size vo vs m ∧ Below w.heap.size w w'

/-- Parts of n bytes. -/
def ptM (l : List Nat) (n k : Nat) : List (List Nat) := (List.range k).map fun i => (l.drop (i * n)).take n
def ptN (l : List Nat) (n : Nat) : Nat := min 8 (l.length / n)
theorem ptM_length (l : List Nat) (n k : Nat) : (ptM l n k).length = k := by simp [ptM]
theorem ptM_succ (l : List Nat) (n k : Nat) : ptM l n (k + 1) = ptM l n k ++ [(l.drop (k * n)).take n] := by
  unfold ptM; rw [List.range_succ, List.map_append]; rfl
theorem ptN_go {l : List Nat} {n k : Nat} (hn : 1 ≤ n) (h1 : k < 8) (h2 : n ≤ l.length - k * n) (h3 : k * n ≤ l.length) : k + 1 ≤ ptN l n := by
  unfold ptN
  refine Nat.le_min.2 ⟨h1, (Nat.le_div_iff_mul_le hn).2 ?_⟩
  rw [Nat.add_mul]; omega
theorem ptN_end {l : List Nat} {n k : Nat} (hn : 1 ≤ n) (hk : k ≤ ptN l n) (h : l.length - k * n < n ∨ 8 ≤ k) : k = ptN l n := by
  unfold ptN at hk ⊢
  have h8 := Nat.le_trans hk (Nat.min_le_left _ _)
  have hd := (Nat.le_div_iff_mul_le hn).1 (Nat.le_trans hk (Nat.min_le_right _ _))
  rcases h with h | h
  · have : l.length / n = k := (Nat.div_eq_iff hn).2 ⟨by omega, by omega⟩
    rw [this]; omega
  · have : 8 ≤ l.length / n := (Nat.le_div_iff_mul_le hn).2 (by have : k = 8 := by omega
                                                                rw [this] at hd; exact hd)
    omega

end Go.Proofs.Ytkclmfppjhmnjaa
