/- append(s, make([]byte, n)...) where s has no room. -/
import Derived.Test.YtkclmfppjhmnjaaGal3
import Derived.Lib.AppendZeros
namespace Go.Proofs.Ytkclmfppjhmnjaa
open Go.RowKit

theorem run_append_zeros {P : Program} (w : World) (t tn ty e : TypeId) (i : TypeInfo) (z : Value) (kk kn : IntKind) (ht : P.underlying t = some (.slice e)) (htn : P.underlying tn = some (.int kn)) (hi : P.info? e = some i) (hz : i.zero = some z)
    (n k c : Nat) (h0 : 0 < n) (hs : i.size = 1) (hby : i.bytes = 1) (hn : k + n ≤ 1000000000) (hc : c < k + n) (hc2 : c < 256) (ad : Addr) (old : List Value) (hl : old.length = k) (hold : ∀ j v, old[j]? = some v → w.cell? (ad.add j) = some v) :
    (Builtin.append_ #[t, tn] ty #[.slice (some ad) k c, .int kk n]).run P w =
      .ok (.slice (some ⟨w.heap.size, 0, none⟩) (k + n) (grownCap w (k + n) c e)) (w.drew.alloc (.cells (old.toArray ++ Builtin.zeroCells z.cells n ++ Builtin.zeroCells z.cells (grownCap w (k + n) c e - (k + n))) e)) := by
  have hn0 : n ≠ 0 := by omega
  have hw : IntKind.i64.wrap (n : Int) = n := by rw [IntKind.wrap_i64]; omega
  have h63' : ¬ (9223372036854775807 < (k : Int) + (n : Int)) := by omega
  have hnx : Builtin.nextslicecap (k + n) c ≤ 4 * (k + n) := by
    unfold Builtin.nextslicecap
    split
    · omega
    · first | omega | (rw [if_pos hc2]; omega)
  have h48' : ¬ (281474976710656 < Builtin.nextslicecap (k + n) c) := by omega
  have h48i : ¬ (281474976710656 < (n : Int)) := by omega
  have hneg : ¬ ((n : Int) < 0) := by omega
  have hfit : ¬ (k + n ≤ c) := by omega
  have hload := run_loadCells_list (P := P) w.drew ad old (fun j v hv => by rw [World.cell?_drew]; exact hold j v hv)
  rw [hl] at hload
  simp [Builtin.append_, run_underlying ht, run_underlying htn, sizeOf, typeInfo, zeroValue, hi, hz, asInt, asIntOf, hw, hn0, hneg, hs, hby, h63', h48', h48i, hfit, Question.forced, Builtin.firstCells, hload, newRow, grownCap]
end Go.Proofs.Ytkclmfppjhmnjaa
