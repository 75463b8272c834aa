/- Bytes as strings. -/
import Derived.Test.YtkclmfppjhmnjaaMem
import Derived.Test.YtkclmfppjhmnjaaProg
import Derived.Laws.BytesArg
import Derived.Deep.LoopGhost
import Derived.Deep.QuietTactic
import Derived.BigQuiet
namespace Go.Proofs.Ytkclmfppjhmnjaa
open Go.RowKit

/-- Bytes as a string. -/
def bstr (l : List Nat) : ByteArray := ⟨(l.map UInt8.ofNat).toArray⟩

theorem bstr_inj {a b : List Nat} (ha : Byt a) (hb : Byt b) (h : (bstr a).toList = (bstr b).toList) : a = b := by
  have h1 : a.map UInt8.ofNat = b.map UInt8.ofNat := by simpa [bstr] using h
  clear h
  induction a generalizing b with
  | nil => cases b with
    | nil => rfl
    | cons y b => simp at h1
  | cons x a ih => cases b with
    | nil => simp at h1
    | cons y b =>
      simp only [List.map_cons, List.cons.injEq] at h1
      have hx : x < 256 := ha x (by simp)
      have hy : y < 256 := hb y (by simp)
      have e : x = y := by
        have := congrArg UInt8.toNat h1.1
        simpa [Nat.mod_eq_of_lt hx, Nat.mod_eq_of_lt hy] using this
      rw [e, ih (fun z hz => ha z (by simp [hz])) (fun z hz => hb z (by simp [hz])) h1.2]

theorem bstr_beq {a b : List Nat} (ha : Byt a) (hb : Byt b) : ((bstr a).toList == (bstr b).toList) = decide (a = b) := by
  rw [Bool.eq_iff_iff]
  simp only [beq_iff_eq, decide_eq_true_eq]
  exact ⟨bstr_inj ha hb, fun h => by rw [h]⟩

theorem conv_row {w : World} {r : List Nat} {a : Option Addr} {c : Nat} (h : r = [] ∨ ∃ b' o', a = some ⟨b', o', none⟩ ∧ RowAt w b' o' r) :
    ∀ n, (convert 26 9 (.slice a r.length c)).run Try.prog (w.drewN n) = .ok (.string (bstr r)) (w.drewN n) := by
  intro n
  have key : ∀ b o, RowAt w b o r → (convert 26 9 (.slice (some ⟨b, o, none⟩) r.length c)).run Try.prog (w.drewN n) = .ok (.string (bstr r)) (w.drewN n) := by
    intro b o hr
    have := run_convert_bytes_arg (P := Try.prog) (w.drewN n) 26 5 Try.underlying26 Try.underlying5 b o r.length c (r.map Int.ofNat) (by simp) (fun i hi => ?_) 9 Try.underlying9
    · rw [this]
      simp [strOfNums, bstr, Function.comp_def]
    · have := hr i (r[i]) (List.getElem?_eq_getElem hi)
      simp [List.getD_eq_getElem?_getD, List.getElem?_eq_getElem hi]
      exact this
  rcases h with h | ⟨b, o, rfl, hr⟩
  · subst h
    cases a with
    | none =>
      have := run_convert_bytes_nil (P := Try.prog) (w.drewN n) 26 5 Try.underlying26 Try.underlying5 0 c 9 Try.underlying9
      rw [show ([] : List Nat).length = 0 from rfl, this]
      rfl
    | some a =>
      have h1 := run_convert_bytes_string (P := Try.prog) (w.drewN n) 26 9 5 (some a) 0 c Try.underlying26 Try.underlying5 Try.underlying9
      have h2 := run_bytesToString (P := Try.prog) (w.drewN n) a 0 c [] (by simp [loadCells, loadCellsFrom])
      rw [show ([] : List Nat).length = 0 from rfl, h1, h2]
      rfl
  · exact key b o hr

end Go.Proofs.Ytkclmfppjhmnjaa
