/-
  No cell of these rows narrows 'for every input' (looked for: loops, veiled, ifaces, maps, wideKeys, modest, calm, conditions, laid).
  DERIVED. THE GIVEN ROWS OF THIS SEAT. 9 by the template 'for every input the law returns true; each argument reads behind the call as it read before'; 0 by the template 'total and deterministic' (their statements: YtlbomlolomcolaaTotals.lean).
  GIVEN WITH THE SEED: the statements are not yours to turn. If you find one false, say at which input.
  Laid BY PROGRAM, IN A SANDBOX (cutbox-rows.mjs): the forced cells as the released guide's own fill.sh prints them over the translation bdbfb16268e836a1… (all of the seat's roots in one cut). By AI agents, Wed Nov 11 2026. No macro, syntax, notation, axiom, sorry.
-/
import Derived.Test.YtlbomlolomcolaaChecked
import GoSem.Claim
import GoSem.ClaimJoined
import GoSem.ClaimMapViews
import Derived.JoinedTies
import Derived.KernelRfl
namespace Go.Proofs.Ytlbomlolomcolaa
/- THE CELL 'sum', in the pinned program and in every row, IS THE sha256 OF THE DUMP (.gsa) THAT YtlbomlolomcolaaProg.lean LOADS. Nothing in Lean hashes anything: it is a label: what it is worth is what the hold of that sum in a sandbox is worth. -/
noncomputable def Try.pinned : Pinned := { name := "ytlbomlolomcolaa", sum := "bdbfb16268e836a1c0ca887ce8e0c1008cddc276c750a05dbff3396e8842cf7f", checked := Try.checked }
namespace Rows
def none {H : Type} : Left H := { results := [], args := [] }

/-- 'compactorlaw59.RepairRestores': WHATEVER THE INPUT: true; the input reads as it did. -/
def repairRestoresSpec : ChangeSpec := { name := "repairRestores", fn := fun _ => fun
  | [d1, d2] => { results := [.lit (.bool true)], args := [d1, d2] }
  | _ => none }
def repairRestoresRow : OpenClaim := { program := "ytlbomlolomcolaa", sum := "bdbfb16268e836a1c0ca887ce8e0c1008cddc276c750a05dbff3396e8842cf7f", func := "compactor/compactorlaw59.RepairRestores", spec := "repairRestores", unfollowed := true, recurses := true, apart := false }
def RepairRestoresSaid : Prop := repairRestoresRow.holds Try.pinned (OpenSpec.ofChange repairRestoresSpec)

/-- ITS FALSE NEIGHBOUR: 'it returns false'. Refute it at one input. -/
def repairRestoresWrong : ChangeSpec := { name := "repairRestores", fn := fun _ => fun
  | [d1, d2] => { results := [.lit (.bool false)], args := [d1, d2] }
  | _ => none }
def RepairRestoresWrongFalsely : Prop := repairRestoresRow.holds Try.pinned (OpenSpec.ofChange repairRestoresWrong)

/-- 'compactorlaw54.ParityRecovers': WHATEVER THE INPUT: true; the input reads as it did. -/
def parityRecoversSpec : ChangeSpec := { name := "parityRecovers", fn := fun _ => fun
  | [d1, d2] => { results := [.lit (.bool true)], args := [d1, d2] }
  | _ => none }
def parityRecoversRow : OpenClaim := { program := "ytlbomlolomcolaa", sum := "bdbfb16268e836a1c0ca887ce8e0c1008cddc276c750a05dbff3396e8842cf7f", func := "compactor/compactorlaw54.ParityRecovers", spec := "parityRecovers", unfollowed := true, recurses := true, apart := false }
def ParityRecoversSaid : Prop := parityRecoversRow.holds Try.pinned (OpenSpec.ofChange parityRecoversSpec)

/-- ITS FALSE NEIGHBOUR: 'it returns false'. Refute it at one input. -/
def parityRecoversWrong : ChangeSpec := { name := "parityRecovers", fn := fun _ => fun
  | [d1, d2] => { results := [.lit (.bool false)], args := [d1, d2] }
  | _ => none }
def ParityRecoversWrongFalsely : Prop := parityRecoversRow.holds Try.pinned (OpenSpec.ofChange parityRecoversWrong)

/-- 'compactorlaw54.ParityUpdates': WHATEVER THE INPUT: true; the input reads as it did. -/
def parityUpdatesSpec : ChangeSpec := { name := "parityUpdates", fn := fun _ => fun
  | [d1, d2, d3] => { results := [.lit (.bool true)], args := [d1, d2, d3] }
  | _ => none }
def parityUpdatesRow : OpenClaim := { program := "ytlbomlolomcolaa", sum := "bdbfb16268e836a1c0ca887ce8e0c1008cddc276c750a05dbff3396e8842cf7f", func := "compactor/compactorlaw54.ParityUpdates", spec := "parityUpdates", unfollowed := true, recurses := true, apart := false }
def ParityUpdatesSaid : Prop := parityUpdatesRow.holds Try.pinned (OpenSpec.ofChange parityUpdatesSpec)

/-- ITS FALSE NEIGHBOUR: 'it returns false'. Refute it at one input. -/
def parityUpdatesWrong : ChangeSpec := { name := "parityUpdates", fn := fun _ => fun
  | [d1, d2, d3] => { results := [.lit (.bool false)], args := [d1, d2, d3] }
  | _ => none }
def ParityUpdatesWrongFalsely : Prop := parityUpdatesRow.holds Try.pinned (OpenSpec.ofChange parityUpdatesWrong)

/-- 'compactorlaw54.ParityRestores': WHATEVER THE INPUT: true; the input reads as it did. -/
def parityRestoresSpec : ChangeSpec := { name := "parityRestores", fn := fun _ => fun
  | [d1, d2, d3] => { results := [.lit (.bool true)], args := [d1, d2, d3] }
  | _ => none }
def parityRestoresRow : OpenClaim := { program := "ytlbomlolomcolaa", sum := "bdbfb16268e836a1c0ca887ce8e0c1008cddc276c750a05dbff3396e8842cf7f", func := "compactor/compactorlaw54.ParityRestores", spec := "parityRestores", unfollowed := true, recurses := true, apart := false }
def ParityRestoresSaid : Prop := parityRestoresRow.holds Try.pinned (OpenSpec.ofChange parityRestoresSpec)

/-- ITS FALSE NEIGHBOUR: 'it returns false'. Refute it at one input. -/
def parityRestoresWrong : ChangeSpec := { name := "parityRestores", fn := fun _ => fun
  | [d1, d2, d3] => { results := [.lit (.bool false)], args := [d1, d2, d3] }
  | _ => none }
def ParityRestoresWrongFalsely : Prop := parityRestoresRow.holds Try.pinned (OpenSpec.ofChange parityRestoresWrong)

/-- 'compactorlaw54.ParityReplaces': WHATEVER THE INPUT: true; the input reads as it did. -/
def parityReplacesSpec : ChangeSpec := { name := "parityReplaces", fn := fun _ => fun
  | [d1, d2, d3] => { results := [.lit (.bool true)], args := [d1, d2, d3] }
  | _ => none }
def parityReplacesRow : OpenClaim := { program := "ytlbomlolomcolaa", sum := "bdbfb16268e836a1c0ca887ce8e0c1008cddc276c750a05dbff3396e8842cf7f", func := "compactor/compactorlaw54.ParityReplaces", spec := "parityReplaces", unfollowed := true, recurses := true, apart := false }
def ParityReplacesSaid : Prop := parityReplacesRow.holds Try.pinned (OpenSpec.ofChange parityReplacesSpec)

/-- ITS FALSE NEIGHBOUR: 'it returns false'. Refute it at one input. -/
def parityReplacesWrong : ChangeSpec := { name := "parityReplaces", fn := fun _ => fun
  | [d1, d2, d3] => { results := [.lit (.bool false)], args := [d1, d2, d3] }
  | _ => none }
def ParityReplacesWrongFalsely : Prop := parityReplacesRow.holds Try.pinned (OpenSpec.ofChange parityReplacesWrong)

/-- 'compactorlaw54.ParityAdds': WHATEVER THE INPUT: true; the input reads as it did. -/
def parityAddsSpec : ChangeSpec := { name := "parityAdds", fn := fun _ => fun
  | [d1, d2, d3] => { results := [.lit (.bool true)], args := [d1, d2, d3] }
  | _ => none }
def parityAddsRow : OpenClaim := { program := "ytlbomlolomcolaa", sum := "bdbfb16268e836a1c0ca887ce8e0c1008cddc276c750a05dbff3396e8842cf7f", func := "compactor/compactorlaw54.ParityAdds", spec := "parityAdds", unfollowed := true, recurses := true, apart := false }
def ParityAddsSaid : Prop := parityAddsRow.holds Try.pinned (OpenSpec.ofChange parityAddsSpec)

/-- ITS FALSE NEIGHBOUR: 'it returns false'. Refute it at one input. -/
def parityAddsWrong : ChangeSpec := { name := "parityAdds", fn := fun _ => fun
  | [d1, d2, d3] => { results := [.lit (.bool false)], args := [d1, d2, d3] }
  | _ => none }
def ParityAddsWrongFalsely : Prop := parityAddsRow.holds Try.pinned (OpenSpec.ofChange parityAddsWrong)

/-- 'compactorlaw54.ParityRepairs': WHATEVER THE INPUT: true; the input reads as it did. -/
def parityRepairsSpec : ChangeSpec := { name := "parityRepairs", fn := fun _ => fun
  | [d1, d2] => { results := [.lit (.bool true)], args := [d1, d2] }
  | _ => none }
def parityRepairsRow : OpenClaim := { program := "ytlbomlolomcolaa", sum := "bdbfb16268e836a1c0ca887ce8e0c1008cddc276c750a05dbff3396e8842cf7f", func := "compactor/compactorlaw54.ParityRepairs", spec := "parityRepairs", unfollowed := true, recurses := true, apart := false }
def ParityRepairsSaid : Prop := parityRepairsRow.holds Try.pinned (OpenSpec.ofChange parityRepairsSpec)

/-- ITS FALSE NEIGHBOUR: 'it returns false'. Refute it at one input. -/
def parityRepairsWrong : ChangeSpec := { name := "parityRepairs", fn := fun _ => fun
  | [d1, d2] => { results := [.lit (.bool false)], args := [d1, d2] }
  | _ => none }
def ParityRepairsWrongFalsely : Prop := parityRepairsRow.holds Try.pinned (OpenSpec.ofChange parityRepairsWrong)

/-- 'compactorlaw54.ParityDetects': WHATEVER THE INPUT: true; the input reads as it did. -/
def parityDetectsSpec : ChangeSpec := { name := "parityDetects", fn := fun _ => fun
  | [d1, d2, d3] => { results := [.lit (.bool true)], args := [d1, d2, d3] }
  | _ => none }
def parityDetectsRow : OpenClaim := { program := "ytlbomlolomcolaa", sum := "bdbfb16268e836a1c0ca887ce8e0c1008cddc276c750a05dbff3396e8842cf7f", func := "compactor/compactorlaw54.ParityDetects", spec := "parityDetects", unfollowed := true, recurses := true, apart := false }
def ParityDetectsSaid : Prop := parityDetectsRow.holds Try.pinned (OpenSpec.ofChange parityDetectsSpec)

/-- ITS FALSE NEIGHBOUR: 'it returns false'. Refute it at one input. -/
def parityDetectsWrong : ChangeSpec := { name := "parityDetects", fn := fun _ => fun
  | [d1, d2, d3] => { results := [.lit (.bool false)], args := [d1, d2, d3] }
  | _ => none }
def ParityDetectsWrongFalsely : Prop := parityDetectsRow.holds Try.pinned (OpenSpec.ofChange parityDetectsWrong)

/-- 'compactorlaw59.RepairImages': WHATEVER THE INPUT: true; the input reads as it did. -/
def repairImagesSpec : ChangeSpec := { name := "repairImages", fn := fun _ => fun
  | [d1, d2, d3] => { results := [.lit (.bool true)], args := [d1, d2, d3] }
  | _ => none }
def repairImagesRow : OpenClaim := { program := "ytlbomlolomcolaa", sum := "bdbfb16268e836a1c0ca887ce8e0c1008cddc276c750a05dbff3396e8842cf7f", func := "compactor/compactorlaw59.RepairImages", spec := "repairImages", unfollowed := true, recurses := true, apart := false }
def RepairImagesSaid : Prop := repairImagesRow.holds Try.pinned (OpenSpec.ofChange repairImagesSpec)

/-- ITS FALSE NEIGHBOUR: 'it returns false'. Refute it at one input. -/
def repairImagesWrong : ChangeSpec := { name := "repairImages", fn := fun _ => fun
  | [d1, d2, d3] => { results := [.lit (.bool false)], args := [d1, d2, d3] }
  | _ => none }
def RepairImagesWrongFalsely : Prop := repairImagesRow.holds Try.pinned (OpenSpec.ofChange repairImagesWrong)

/- THE SECOND FORM. 'bulk': how many values and letters a reading holds, each counted each time it is reached (what is shared counts as often as it is met; a slice's spare places count too). A statement '..UptoSaid' is the law's where the arguments, and the package variables that the reading takes, are together of bulk at most 1048576: NARROWER than '..Said'. Prove '..Said' where nothing that the law and all that it calls make is longer than what came in: it says more and counts as full. Else prove '..UptoSaid'. A law counts once. -/
mutual
def uptoBulk {H : Type} : DataW H → Nat
  | .lit (.string bytes) => bytes.length + 1
  | .lit _ => 1
  | .nil => 1
  | .ptr d => uptoBulk d + 1
  | .slice elems spare => uptoBulkAll elems + uptoBulkAll spare + 1
  | .agg parts => uptoBulkAll parts + 1
  | .iface _ d => uptoBulk d + 1
  | .map entries => uptoBulkEntries entries + 1
  | .held _ => 1
def uptoBulkAll {H : Type} : List (DataW H) → Nat
  | [] => 0
  | d :: r => uptoBulk d + uptoBulkAll r
def uptoBulkEntries {H : Type} : List (Lit × DataW H) → Nat
  | [] => 0
  | x :: r => uptoBulkEntry x + uptoBulkEntries r
def uptoBulkEntry {H : Type} : Lit × DataW H → Nat
  | (.string bytes, d) => bytes.length + uptoBulk d + 1
  | (_, d) => uptoBulk d + 1
 end
def uptoSmall : (H : Type) → List (DataW H) → Bool := fun _ ds => decide (uptoBulkAll ds ≤ 1048576)
def OpenSpec.upto (s : _root_.Go.ChangeSpec) : _root_.Go.OpenSpec := { _root_.Go.OpenSpec.ofChange s with cond := some uptoSmall }

/-- 'compactorlaw59.RepairRestores', WHERE WHAT IT READS IS OF BULK AT MOST 1048576: true; the input reads as it did. -/
def repairRestoresUptoRow : OpenClaim := { program := "ytlbomlolomcolaa", sum := "bdbfb16268e836a1c0ca887ce8e0c1008cddc276c750a05dbff3396e8842cf7f", func := "compactor/compactorlaw59.RepairRestores", spec := "repairRestores", unfollowed := true, recurses := true, apart := false, narrowed := true }
def RepairRestoresUptoSaid : Prop := repairRestoresUptoRow.holds Try.pinned (OpenSpec.upto repairRestoresSpec)

/-- 'compactorlaw54.ParityRecovers', WHERE WHAT IT READS IS OF BULK AT MOST 1048576: true; the input reads as it did. -/
def parityRecoversUptoRow : OpenClaim := { program := "ytlbomlolomcolaa", sum := "bdbfb16268e836a1c0ca887ce8e0c1008cddc276c750a05dbff3396e8842cf7f", func := "compactor/compactorlaw54.ParityRecovers", spec := "parityRecovers", unfollowed := true, recurses := true, apart := false, narrowed := true }
def ParityRecoversUptoSaid : Prop := parityRecoversUptoRow.holds Try.pinned (OpenSpec.upto parityRecoversSpec)

/-- 'compactorlaw54.ParityUpdates', WHERE WHAT IT READS IS OF BULK AT MOST 1048576: true; the input reads as it did. -/
def parityUpdatesUptoRow : OpenClaim := { program := "ytlbomlolomcolaa", sum := "bdbfb16268e836a1c0ca887ce8e0c1008cddc276c750a05dbff3396e8842cf7f", func := "compactor/compactorlaw54.ParityUpdates", spec := "parityUpdates", unfollowed := true, recurses := true, apart := false, narrowed := true }
def ParityUpdatesUptoSaid : Prop := parityUpdatesUptoRow.holds Try.pinned (OpenSpec.upto parityUpdatesSpec)

/-- 'compactorlaw54.ParityRestores', WHERE WHAT IT READS IS OF BULK AT MOST 1048576: true; the input reads as it did. -/
def parityRestoresUptoRow : OpenClaim := { program := "ytlbomlolomcolaa", sum := "bdbfb16268e836a1c0ca887ce8e0c1008cddc276c750a05dbff3396e8842cf7f", func := "compactor/compactorlaw54.ParityRestores", spec := "parityRestores", unfollowed := true, recurses := true, apart := false, narrowed := true }
def ParityRestoresUptoSaid : Prop := parityRestoresUptoRow.holds Try.pinned (OpenSpec.upto parityRestoresSpec)

/-- 'compactorlaw54.ParityReplaces', WHERE WHAT IT READS IS OF BULK AT MOST 1048576: true; the input reads as it did. -/
def parityReplacesUptoRow : OpenClaim := { program := "ytlbomlolomcolaa", sum := "bdbfb16268e836a1c0ca887ce8e0c1008cddc276c750a05dbff3396e8842cf7f", func := "compactor/compactorlaw54.ParityReplaces", spec := "parityReplaces", unfollowed := true, recurses := true, apart := false, narrowed := true }
def ParityReplacesUptoSaid : Prop := parityReplacesUptoRow.holds Try.pinned (OpenSpec.upto parityReplacesSpec)

/-- 'compactorlaw54.ParityAdds', WHERE WHAT IT READS IS OF BULK AT MOST 1048576: true; the input reads as it did. -/
def parityAddsUptoRow : OpenClaim := { program := "ytlbomlolomcolaa", sum := "bdbfb16268e836a1c0ca887ce8e0c1008cddc276c750a05dbff3396e8842cf7f", func := "compactor/compactorlaw54.ParityAdds", spec := "parityAdds", unfollowed := true, recurses := true, apart := false, narrowed := true }
def ParityAddsUptoSaid : Prop := parityAddsUptoRow.holds Try.pinned (OpenSpec.upto parityAddsSpec)

/-- 'compactorlaw54.ParityRepairs', WHERE WHAT IT READS IS OF BULK AT MOST 1048576: true; the input reads as it did. -/
def parityRepairsUptoRow : OpenClaim := { program := "ytlbomlolomcolaa", sum := "bdbfb16268e836a1c0ca887ce8e0c1008cddc276c750a05dbff3396e8842cf7f", func := "compactor/compactorlaw54.ParityRepairs", spec := "parityRepairs", unfollowed := true, recurses := true, apart := false, narrowed := true }
def ParityRepairsUptoSaid : Prop := parityRepairsUptoRow.holds Try.pinned (OpenSpec.upto parityRepairsSpec)

/-- 'compactorlaw54.ParityDetects', WHERE WHAT IT READS IS OF BULK AT MOST 1048576: true; the input reads as it did. -/
def parityDetectsUptoRow : OpenClaim := { program := "ytlbomlolomcolaa", sum := "bdbfb16268e836a1c0ca887ce8e0c1008cddc276c750a05dbff3396e8842cf7f", func := "compactor/compactorlaw54.ParityDetects", spec := "parityDetects", unfollowed := true, recurses := true, apart := false, narrowed := true }
def ParityDetectsUptoSaid : Prop := parityDetectsUptoRow.holds Try.pinned (OpenSpec.upto parityDetectsSpec)

/-- 'compactorlaw59.RepairImages', WHERE WHAT IT READS IS OF BULK AT MOST 1048576: true; the input reads as it did. -/
def repairImagesUptoRow : OpenClaim := { program := "ytlbomlolomcolaa", sum := "bdbfb16268e836a1c0ca887ce8e0c1008cddc276c750a05dbff3396e8842cf7f", func := "compactor/compactorlaw59.RepairImages", spec := "repairImages", unfollowed := true, recurses := true, apart := false, narrowed := true }
def RepairImagesUptoSaid : Prop := repairImagesUptoRow.holds Try.pinned (OpenSpec.upto repairImagesSpec)

end Rows
end Go.Proofs.Ytlbomlolomcolaa
