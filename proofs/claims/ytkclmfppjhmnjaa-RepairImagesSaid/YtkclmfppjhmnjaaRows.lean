/-
  No cell of these rows narrows 'for every input' (looked for: loops, veiled, ifaces, maps, wideKeys, modest, calm, conditions, laid).
  DERIVED. THE GIVEN ROWS OF THIS SEAT. 8 by the template 'for every input the law returns true; each argument reads behind the call as it read before'; 0 by the template 'total and deterministic' (their statements: YtkclmfppjhmnjaaTotals.lean).
  GIVEN WITH THE SEED: the statements are not yours to turn. If you find one false, say at which input.
  Laid BY PROGRAM, IN A SANDBOX (cutbox-rows.mjs): the forced cells as the released guide's own fill.sh prints them over the translation 13525b67b311b27c… (all of the seat's roots in one cut). By AI agents, Wed Nov 11 2026. No macro, syntax, notation, axiom, sorry.
-/
import Derived.Test.YtkclmfppjhmnjaaChecked
import GoSem.Claim
import GoSem.ClaimJoined
import GoSem.ClaimMapViews
import Derived.JoinedTies
import Derived.KernelRfl
namespace Go.Proofs.Ytkclmfppjhmnjaa
/- THE CELL 'sum', in the pinned program and in every row, IS THE sha256 OF THE DUMP (.gsa) THAT YtkclmfppjhmnjaaProg.lean LOADS. Nothing in Lean hashes anything: it is a label: what it is worth is what the hold of that sum in a sandbox is worth. -/
noncomputable def Try.pinned : Pinned := { name := "ytkclmfppjhmnjaa", sum := "13525b67b311b27c227b0d99977f9c9f6a969ef246ef32374337cb5adeffe605", checked := Try.checked }
namespace Rows
def none {H : Type} : Left H := { results := [], args := [] }

/-- 'compactorlaw59.RepairRestores': WHATEVER THE INPUT: true; the input reads as it did. -/
def repairRestoresSpec : ChangeSpec := { name := "repairRestores", fn := fun _ => fun
  | [d1, d2] => { results := [.lit (.bool true)], args := [d1, d2] }
  | _ => none }
def repairRestoresRow : OpenClaim := { program := "ytkclmfppjhmnjaa", sum := "13525b67b311b27c227b0d99977f9c9f6a969ef246ef32374337cb5adeffe605", func := "compactor/compactorlaw59.RepairRestores", spec := "repairRestores", unfollowed := true, recurses := true, apart := false }
def RepairRestoresSaid : Prop := repairRestoresRow.holds Try.pinned (OpenSpec.ofChange repairRestoresSpec)

/-- ITS FALSE NEIGHBOUR: 'it returns false'. Refute it at one input. -/
def repairRestoresWrong : ChangeSpec := { name := "repairRestores", fn := fun _ => fun
  | [d1, d2] => { results := [.lit (.bool false)], args := [d1, d2] }
  | _ => none }
def RepairRestoresWrongFalsely : Prop := repairRestoresRow.holds Try.pinned (OpenSpec.ofChange repairRestoresWrong)

/-- 'compactorlaw59.RepairImages': WHATEVER THE INPUT: true; the input reads as it did. -/
def repairImagesSpec : ChangeSpec := { name := "repairImages", fn := fun _ => fun
  | [d1, d2, d3] => { results := [.lit (.bool true)], args := [d1, d2, d3] }
  | _ => none }
def repairImagesRow : OpenClaim := { program := "ytkclmfppjhmnjaa", sum := "13525b67b311b27c227b0d99977f9c9f6a969ef246ef32374337cb5adeffe605", func := "compactor/compactorlaw59.RepairImages", spec := "repairImages", unfollowed := true, recurses := true, apart := false }
def RepairImagesSaid : Prop := repairImagesRow.holds Try.pinned (OpenSpec.ofChange repairImagesSpec)

/-- ITS FALSE NEIGHBOUR: 'it returns false'. Refute it at one input. -/
def repairImagesWrong : ChangeSpec := { name := "repairImages", fn := fun _ => fun
  | [d1, d2, d3] => { results := [.lit (.bool false)], args := [d1, d2, d3] }
  | _ => none }
def RepairImagesWrongFalsely : Prop := repairImagesRow.holds Try.pinned (OpenSpec.ofChange repairImagesWrong)

/-- 'compactorlaw55.VolumeHeaders': WHATEVER THE INPUT: true; the input reads as it did. -/
def volumeHeadersSpec : ChangeSpec := { name := "volumeHeaders", fn := fun _ => fun
  | [d] => { results := [.lit (.bool true)], args := [d] }
  | _ => none }
def volumeHeadersRow : OpenClaim := { program := "ytkclmfppjhmnjaa", sum := "13525b67b311b27c227b0d99977f9c9f6a969ef246ef32374337cb5adeffe605", func := "compactor/compactorlaw55.VolumeHeaders", spec := "volumeHeaders", unfollowed := true, recurses := true, apart := false }
def VolumeHeadersSaid : Prop := volumeHeadersRow.holds Try.pinned (OpenSpec.ofChange volumeHeadersSpec)

/-- ITS FALSE NEIGHBOUR: 'it returns false'. Refute it at one input. -/
def volumeHeadersWrong : ChangeSpec := { name := "volumeHeaders", fn := fun _ => fun
  | [d] => { results := [.lit (.bool false)], args := [d] }
  | _ => none }
def VolumeHeadersWrongFalsely : Prop := volumeHeadersRow.holds Try.pinned (OpenSpec.ofChange volumeHeadersWrong)

/-- 'compactorlaw55.VolumeSplits': WHATEVER THE INPUT: true; the input reads as it did. -/
def volumeSplitsSpec : ChangeSpec := { name := "volumeSplits", fn := fun _ => fun
  | [d1, d2, d3] => { results := [.lit (.bool true)], args := [d1, d2, d3] }
  | _ => none }
def volumeSplitsRow : OpenClaim := { program := "ytkclmfppjhmnjaa", sum := "13525b67b311b27c227b0d99977f9c9f6a969ef246ef32374337cb5adeffe605", func := "compactor/compactorlaw55.VolumeSplits", spec := "volumeSplits", unfollowed := true, recurses := true, apart := false }
def VolumeSplitsSaid : Prop := volumeSplitsRow.holds Try.pinned (OpenSpec.ofChange volumeSplitsSpec)

/-- ITS FALSE NEIGHBOUR: 'it returns false'. Refute it at one input. -/
def volumeSplitsWrong : ChangeSpec := { name := "volumeSplits", fn := fun _ => fun
  | [d1, d2, d3] => { results := [.lit (.bool false)], args := [d1, d2, d3] }
  | _ => none }
def VolumeSplitsWrongFalsely : Prop := volumeSplitsRow.holds Try.pinned (OpenSpec.ofChange volumeSplitsWrong)

/-- 'compactorlaw55.VolumeDetects': WHATEVER THE INPUT: true; the input reads as it did. -/
def volumeDetectsSpec : ChangeSpec := { name := "volumeDetects", fn := fun _ => fun
  | [d1, d2, d3] => { results := [.lit (.bool true)], args := [d1, d2, d3] }
  | _ => none }
def volumeDetectsRow : OpenClaim := { program := "ytkclmfppjhmnjaa", sum := "13525b67b311b27c227b0d99977f9c9f6a969ef246ef32374337cb5adeffe605", func := "compactor/compactorlaw55.VolumeDetects", spec := "volumeDetects", unfollowed := true, recurses := true, apart := false }
def VolumeDetectsSaid : Prop := volumeDetectsRow.holds Try.pinned (OpenSpec.ofChange volumeDetectsSpec)

/-- ITS FALSE NEIGHBOUR: 'it returns false'. Refute it at one input. -/
def volumeDetectsWrong : ChangeSpec := { name := "volumeDetects", fn := fun _ => fun
  | [d1, d2, d3] => { results := [.lit (.bool false)], args := [d1, d2, d3] }
  | _ => none }
def VolumeDetectsWrongFalsely : Prop := volumeDetectsRow.holds Try.pinned (OpenSpec.ofChange volumeDetectsWrong)

/-- 'compactorlaw55.VolumeIgnores': WHATEVER THE INPUT: true; the input reads as it did. -/
def volumeIgnoresSpec : ChangeSpec := { name := "volumeIgnores", fn := fun _ => fun
  | [d1, d2, d3] => { results := [.lit (.bool true)], args := [d1, d2, d3] }
  | _ => none }
def volumeIgnoresRow : OpenClaim := { program := "ytkclmfppjhmnjaa", sum := "13525b67b311b27c227b0d99977f9c9f6a969ef246ef32374337cb5adeffe605", func := "compactor/compactorlaw55.VolumeIgnores", spec := "volumeIgnores", unfollowed := true, recurses := true, apart := false }
def VolumeIgnoresSaid : Prop := volumeIgnoresRow.holds Try.pinned (OpenSpec.ofChange volumeIgnoresSpec)

/-- ITS FALSE NEIGHBOUR: 'it returns false'. Refute it at one input. -/
def volumeIgnoresWrong : ChangeSpec := { name := "volumeIgnores", fn := fun _ => fun
  | [d1, d2, d3] => { results := [.lit (.bool false)], args := [d1, d2, d3] }
  | _ => none }
def VolumeIgnoresWrongFalsely : Prop := volumeIgnoresRow.holds Try.pinned (OpenSpec.ofChange volumeIgnoresWrong)

/-- 'compactorlaw55.VolumeRecovers': WHATEVER THE INPUT: true; the input reads as it did. -/
def volumeRecoversSpec : ChangeSpec := { name := "volumeRecovers", fn := fun _ => fun
  | [d1, d2, d3] => { results := [.lit (.bool true)], args := [d1, d2, d3] }
  | _ => none }
def volumeRecoversRow : OpenClaim := { program := "ytkclmfppjhmnjaa", sum := "13525b67b311b27c227b0d99977f9c9f6a969ef246ef32374337cb5adeffe605", func := "compactor/compactorlaw55.VolumeRecovers", spec := "volumeRecovers", unfollowed := true, recurses := true, apart := false }
def VolumeRecoversSaid : Prop := volumeRecoversRow.holds Try.pinned (OpenSpec.ofChange volumeRecoversSpec)

/-- ITS FALSE NEIGHBOUR: 'it returns false'. Refute it at one input. -/
def volumeRecoversWrong : ChangeSpec := { name := "volumeRecovers", fn := fun _ => fun
  | [d1, d2, d3] => { results := [.lit (.bool false)], args := [d1, d2, d3] }
  | _ => none }
def VolumeRecoversWrongFalsely : Prop := volumeRecoversRow.holds Try.pinned (OpenSpec.ofChange volumeRecoversWrong)

/-- 'compactorlaw55.VolumeFails': WHATEVER THE INPUT: true; the input reads as it did. -/
def volumeFailsSpec : ChangeSpec := { name := "volumeFails", fn := fun _ => fun
  | [d1, d2, d3] => { results := [.lit (.bool true)], args := [d1, d2, d3] }
  | _ => none }
def volumeFailsRow : OpenClaim := { program := "ytkclmfppjhmnjaa", sum := "13525b67b311b27c227b0d99977f9c9f6a969ef246ef32374337cb5adeffe605", func := "compactor/compactorlaw55.VolumeFails", spec := "volumeFails", unfollowed := true, recurses := true, apart := false }
def VolumeFailsSaid : Prop := volumeFailsRow.holds Try.pinned (OpenSpec.ofChange volumeFailsSpec)

/-- ITS FALSE NEIGHBOUR: 'it returns false'. Refute it at one input. -/
def volumeFailsWrong : ChangeSpec := { name := "volumeFails", fn := fun _ => fun
  | [d1, d2, d3] => { results := [.lit (.bool false)], args := [d1, d2, d3] }
  | _ => none }
def VolumeFailsWrongFalsely : Prop := volumeFailsRow.holds Try.pinned (OpenSpec.ofChange volumeFailsWrong)

/- THE SECOND FORM. 'bulk': how many values and letters a reading holds, each counted each time it is reached (what is shared counts as often as it is met; a slice's spare places count too). A statement '..UptoSaid' is the law's where the arguments, and the package variables that the reading takes, are together of bulk at most 1048576: NARROWER than '..Said'. Prove '..Said' where nothing that the law and all that it calls make is longer than what came in: it says more and counts as full. Else prove '..UptoSaid'. A law counts once. -/
mutual
def uptoBulk {H : Type} : DataW H → Nat
  | .lit (.string bytes) => bytes.length + 1
  | .lit _ => 1
  | .nil => 1
  | .ptr d => uptoBulk d + 1
  | .slice elems spare => uptoBulkAll elems + uptoBulkAll spare + 1
  | .agg parts => uptoBulkAll parts + 1
  | .iface _ d => uptoBulk d + 1
  | .map entries => uptoBulkEntries entries + 1
  | .held _ => 1
def uptoBulkAll {H : Type} : List (DataW H) → Nat
  | [] => 0
  | d :: r => uptoBulk d + uptoBulkAll r
def uptoBulkEntries {H : Type} : List (Lit × DataW H) → Nat
  | [] => 0
  | x :: r => uptoBulkEntry x + uptoBulkEntries r
def uptoBulkEntry {H : Type} : Lit × DataW H → Nat
  | (.string bytes, d) => bytes.length + uptoBulk d + 1
  | (_, d) => uptoBulk d + 1
 end
def uptoSmall : (H : Type) → List (DataW H) → Bool := fun _ ds => decide (uptoBulkAll ds ≤ 1048576)
def OpenSpec.upto (s : _root_.Go.ChangeSpec) : _root_.Go.OpenSpec := { _root_.Go.OpenSpec.ofChange s with cond := some uptoSmall }

/-- 'compactorlaw59.RepairRestores', WHERE WHAT IT READS IS OF BULK AT MOST 1048576: true; the input reads as it did. -/
def repairRestoresUptoRow : OpenClaim := { program := "ytkclmfppjhmnjaa", sum := "13525b67b311b27c227b0d99977f9c9f6a969ef246ef32374337cb5adeffe605", func := "compactor/compactorlaw59.RepairRestores", spec := "repairRestores", unfollowed := true, recurses := true, apart := false, narrowed := true }
def RepairRestoresUptoSaid : Prop := repairRestoresUptoRow.holds Try.pinned (OpenSpec.upto repairRestoresSpec)

/-- 'compactorlaw59.RepairImages', WHERE WHAT IT READS IS OF BULK AT MOST 1048576: true; the input reads as it did. -/
def repairImagesUptoRow : OpenClaim := { program := "ytkclmfppjhmnjaa", sum := "13525b67b311b27c227b0d99977f9c9f6a969ef246ef32374337cb5adeffe605", func := "compactor/compactorlaw59.RepairImages", spec := "repairImages", unfollowed := true, recurses := true, apart := false, narrowed := true }
def RepairImagesUptoSaid : Prop := repairImagesUptoRow.holds Try.pinned (OpenSpec.upto repairImagesSpec)

/-- 'compactorlaw55.VolumeHeaders', WHERE WHAT IT READS IS OF BULK AT MOST 1048576: true; the input reads as it did. -/
def volumeHeadersUptoRow : OpenClaim := { program := "ytkclmfppjhmnjaa", sum := "13525b67b311b27c227b0d99977f9c9f6a969ef246ef32374337cb5adeffe605", func := "compactor/compactorlaw55.VolumeHeaders", spec := "volumeHeaders", unfollowed := true, recurses := true, apart := false, narrowed := true }
def VolumeHeadersUptoSaid : Prop := volumeHeadersUptoRow.holds Try.pinned (OpenSpec.upto volumeHeadersSpec)

/-- 'compactorlaw55.VolumeSplits', WHERE WHAT IT READS IS OF BULK AT MOST 1048576: true; the input reads as it did. -/
def volumeSplitsUptoRow : OpenClaim := { program := "ytkclmfppjhmnjaa", sum := "13525b67b311b27c227b0d99977f9c9f6a969ef246ef32374337cb5adeffe605", func := "compactor/compactorlaw55.VolumeSplits", spec := "volumeSplits", unfollowed := true, recurses := true, apart := false, narrowed := true }
def VolumeSplitsUptoSaid : Prop := volumeSplitsUptoRow.holds Try.pinned (OpenSpec.upto volumeSplitsSpec)

/-- 'compactorlaw55.VolumeDetects', WHERE WHAT IT READS IS OF BULK AT MOST 1048576: true; the input reads as it did. -/
def volumeDetectsUptoRow : OpenClaim := { program := "ytkclmfppjhmnjaa", sum := "13525b67b311b27c227b0d99977f9c9f6a969ef246ef32374337cb5adeffe605", func := "compactor/compactorlaw55.VolumeDetects", spec := "volumeDetects", unfollowed := true, recurses := true, apart := false, narrowed := true }
def VolumeDetectsUptoSaid : Prop := volumeDetectsUptoRow.holds Try.pinned (OpenSpec.upto volumeDetectsSpec)

/-- 'compactorlaw55.VolumeIgnores', WHERE WHAT IT READS IS OF BULK AT MOST 1048576: true; the input reads as it did. -/
def volumeIgnoresUptoRow : OpenClaim := { program := "ytkclmfppjhmnjaa", sum := "13525b67b311b27c227b0d99977f9c9f6a969ef246ef32374337cb5adeffe605", func := "compactor/compactorlaw55.VolumeIgnores", spec := "volumeIgnores", unfollowed := true, recurses := true, apart := false, narrowed := true }
def VolumeIgnoresUptoSaid : Prop := volumeIgnoresUptoRow.holds Try.pinned (OpenSpec.upto volumeIgnoresSpec)

/-- 'compactorlaw55.VolumeRecovers', WHERE WHAT IT READS IS OF BULK AT MOST 1048576: true; the input reads as it did. -/
def volumeRecoversUptoRow : OpenClaim := { program := "ytkclmfppjhmnjaa", sum := "13525b67b311b27c227b0d99977f9c9f6a969ef246ef32374337cb5adeffe605", func := "compactor/compactorlaw55.VolumeRecovers", spec := "volumeRecovers", unfollowed := true, recurses := true, apart := false, narrowed := true }
def VolumeRecoversUptoSaid : Prop := volumeRecoversUptoRow.holds Try.pinned (OpenSpec.upto volumeRecoversSpec)

/-- 'compactorlaw55.VolumeFails', WHERE WHAT IT READS IS OF BULK AT MOST 1048576: true; the input reads as it did. -/
def volumeFailsUptoRow : OpenClaim := { program := "ytkclmfppjhmnjaa", sum := "13525b67b311b27c227b0d99977f9c9f6a969ef246ef32374337cb5adeffe605", func := "compactor/compactorlaw55.VolumeFails", spec := "volumeFails", unfollowed := true, recurses := true, apart := false, narrowed := true }
def VolumeFailsUptoSaid : Prop := volumeFailsUptoRow.holds Try.pinned (OpenSpec.upto volumeFailsSpec)

end Rows
end Go.Proofs.Ytkclmfppjhmnjaa
