/-
  No cell of these rows narrows 'for every input' (looked for: loops, veiled, ifaces, maps, wideKeys, modest, calm, conditions, laid).
  DERIVED. THE GIVEN ROWS OF THIS SEAT. 8 by the template 'for every input the law returns true; each argument reads behind the call as it read before'; 0 by the template 'total and deterministic' (their statements: YtpiiigeabbhdaaaTotals.lean).
  GIVEN WITH THE SEED: the statements are not yours to turn. If you find one false, say at which input.
  Laid BY PROGRAM, IN A SANDBOX (cutbox-rows.mjs): the forced cells as the released guide's own fill.sh prints them over the translation fa47382cd77e0a48… (all of the seat's roots in one cut). By AI agents, Wed Nov 11 2026. No macro, syntax, notation, axiom, sorry.
-/
import Derived.Test.YtpiiigeabbhdaaaChecked
import GoSem.Claim
import GoSem.ClaimJoined
import GoSem.ClaimMapViews
import Derived.JoinedTies
import Derived.KernelRfl
namespace Go.Proofs.Ytpiiigeabbhdaaa
/- THE CELL 'sum', in the pinned program and in every row, IS THE sha256 OF THE DUMP (.gsa) THAT YtpiiigeabbhdaaaProg.lean LOADS. Nothing in Lean hashes anything: it is a label: what it is worth is what the hold of that sum in a sandbox is worth. -/
noncomputable def Try.pinned : Pinned := { name := "ytpiiigeabbhdaaa", sum := "fa47382cd77e0a486413b5302517442bf3b8246c74ed42502e800409e33712a5", checked := Try.checked }
namespace Rows
def none {H : Type} : Left H := { results := [], args := [] }

/-- 'compactorlaw53.GaloisMultiplies': WHATEVER THE INPUT: true; the input reads as it did. -/
def galoisMultipliesSpec : ChangeSpec := { name := "galoisMultiplies", fn := fun _ => fun
  | [d1, d2, d3] => { results := [.lit (.bool true)], args := [d1, d2, d3] }
  | _ => none }
def galoisMultipliesRow : OpenClaim := { program := "ytpiiigeabbhdaaa", sum := "fa47382cd77e0a486413b5302517442bf3b8246c74ed42502e800409e33712a5", func := "compactor/compactorlaw53.GaloisMultiplies", spec := "galoisMultiplies", unfollowed := true, recurses := true, apart := false }
def GaloisMultipliesSaid : Prop := galoisMultipliesRow.holds Try.pinned (OpenSpec.ofChange galoisMultipliesSpec)

/-- ITS FALSE NEIGHBOUR: 'it returns false'. Refute it at one input. -/
def galoisMultipliesWrong : ChangeSpec := { name := "galoisMultiplies", fn := fun _ => fun
  | [d1, d2, d3] => { results := [.lit (.bool false)], args := [d1, d2, d3] }
  | _ => none }
def GaloisMultipliesWrongFalsely : Prop := galoisMultipliesRow.holds Try.pinned (OpenSpec.ofChange galoisMultipliesWrong)

/-- 'compactorlaw53.GaloisCauchys': WHATEVER THE INPUT: true; the input reads as it did. -/
def galoisCauchysSpec : ChangeSpec := { name := "galoisCauchys", fn := fun _ => fun
  | [d1, d2] => { results := [.lit (.bool true)], args := [d1, d2] }
  | _ => none }
def galoisCauchysRow : OpenClaim := { program := "ytpiiigeabbhdaaa", sum := "fa47382cd77e0a486413b5302517442bf3b8246c74ed42502e800409e33712a5", func := "compactor/compactorlaw53.GaloisCauchys", spec := "galoisCauchys", unfollowed := true, recurses := true, apart := false }
def GaloisCauchysSaid : Prop := galoisCauchysRow.holds Try.pinned (OpenSpec.ofChange galoisCauchysSpec)

/-- ITS FALSE NEIGHBOUR: 'it returns false'. Refute it at one input. -/
def galoisCauchysWrong : ChangeSpec := { name := "galoisCauchys", fn := fun _ => fun
  | [d1, d2] => { results := [.lit (.bool false)], args := [d1, d2] }
  | _ => none }
def GaloisCauchysWrongFalsely : Prop := galoisCauchysRow.holds Try.pinned (OpenSpec.ofChange galoisCauchysWrong)

/-- 'compactorlaw53.GaloisInverts': WHATEVER THE INPUT: true; the input reads as it did. -/
def galoisInvertsSpec : ChangeSpec := { name := "galoisInverts", fn := fun _ => fun
  | [d] => { results := [.lit (.bool true)], args := [d] }
  | _ => none }
def galoisInvertsRow : OpenClaim := { program := "ytpiiigeabbhdaaa", sum := "fa47382cd77e0a486413b5302517442bf3b8246c74ed42502e800409e33712a5", func := "compactor/compactorlaw53.GaloisInverts", spec := "galoisInverts", unfollowed := true, recurses := true, apart := false }
def GaloisInvertsSaid : Prop := galoisInvertsRow.holds Try.pinned (OpenSpec.ofChange galoisInvertsSpec)

/-- ITS FALSE NEIGHBOUR: 'it returns false'. Refute it at one input. -/
def galoisInvertsWrong : ChangeSpec := { name := "galoisInverts", fn := fun _ => fun
  | [d] => { results := [.lit (.bool false)], args := [d] }
  | _ => none }
def GaloisInvertsWrongFalsely : Prop := galoisInvertsRow.holds Try.pinned (OpenSpec.ofChange galoisInvertsWrong)

/-- 'compactorlaw53.GaloisField': WHATEVER THE INPUT: true; the input reads as it did. -/
def galoisFieldSpec : ChangeSpec := { name := "galoisField", fn := fun _ => fun
  | [d1, d2, d3] => { results := [.lit (.bool true)], args := [d1, d2, d3] }
  | _ => none }
def galoisFieldRow : OpenClaim := { program := "ytpiiigeabbhdaaa", sum := "fa47382cd77e0a486413b5302517442bf3b8246c74ed42502e800409e33712a5", func := "compactor/compactorlaw53.GaloisField", spec := "galoisField", unfollowed := true, recurses := true, apart := false }
def GaloisFieldSaid : Prop := galoisFieldRow.holds Try.pinned (OpenSpec.ofChange galoisFieldSpec)

/-- ITS FALSE NEIGHBOUR: 'it returns false'. Refute it at one input. -/
def galoisFieldWrong : ChangeSpec := { name := "galoisField", fn := fun _ => fun
  | [d1, d2, d3] => { results := [.lit (.bool false)], args := [d1, d2, d3] }
  | _ => none }
def GaloisFieldWrongFalsely : Prop := galoisFieldRow.holds Try.pinned (OpenSpec.ofChange galoisFieldWrong)

/-- 'compactorlaw53.GaloisPowers': WHATEVER THE INPUT: true; the input reads as it did. -/
def galoisPowersSpec : ChangeSpec := { name := "galoisPowers", fn := fun _ => fun
  | [d1, d2, d3] => { results := [.lit (.bool true)], args := [d1, d2, d3] }
  | _ => none }
def galoisPowersRow : OpenClaim := { program := "ytpiiigeabbhdaaa", sum := "fa47382cd77e0a486413b5302517442bf3b8246c74ed42502e800409e33712a5", func := "compactor/compactorlaw53.GaloisPowers", spec := "galoisPowers", unfollowed := true, recurses := true, apart := false }
def GaloisPowersSaid : Prop := galoisPowersRow.holds Try.pinned (OpenSpec.ofChange galoisPowersSpec)

/-- ITS FALSE NEIGHBOUR: 'it returns false'. Refute it at one input. -/
def galoisPowersWrong : ChangeSpec := { name := "galoisPowers", fn := fun _ => fun
  | [d1, d2, d3] => { results := [.lit (.bool false)], args := [d1, d2, d3] }
  | _ => none }
def GaloisPowersWrongFalsely : Prop := galoisPowersRow.holds Try.pinned (OpenSpec.ofChange galoisPowersWrong)

/-- 'compactorlaw53.GaloisProducts': WHATEVER THE INPUT: true; the input reads as it did. -/
def galoisProductsSpec : ChangeSpec := { name := "galoisProducts", fn := fun _ => fun
  | [d1, d2] => { results := [.lit (.bool true)], args := [d1, d2] }
  | _ => none }
def galoisProductsRow : OpenClaim := { program := "ytpiiigeabbhdaaa", sum := "fa47382cd77e0a486413b5302517442bf3b8246c74ed42502e800409e33712a5", func := "compactor/compactorlaw53.GaloisProducts", spec := "galoisProducts", unfollowed := true, recurses := true, apart := false }
def GaloisProductsSaid : Prop := galoisProductsRow.holds Try.pinned (OpenSpec.ofChange galoisProductsSpec)

/-- ITS FALSE NEIGHBOUR: 'it returns false'. Refute it at one input. -/
def galoisProductsWrong : ChangeSpec := { name := "galoisProducts", fn := fun _ => fun
  | [d1, d2] => { results := [.lit (.bool false)], args := [d1, d2] }
  | _ => none }
def GaloisProductsWrongFalsely : Prop := galoisProductsRow.holds Try.pinned (OpenSpec.ofChange galoisProductsWrong)

/-- 'compactorlaw53.GaloisReverses': WHATEVER THE INPUT: true; the input reads as it did. -/
def galoisReversesSpec : ChangeSpec := { name := "galoisReverses", fn := fun _ => fun
  | [d1, d2] => { results := [.lit (.bool true)], args := [d1, d2] }
  | _ => none }
def galoisReversesRow : OpenClaim := { program := "ytpiiigeabbhdaaa", sum := "fa47382cd77e0a486413b5302517442bf3b8246c74ed42502e800409e33712a5", func := "compactor/compactorlaw53.GaloisReverses", spec := "galoisReverses", unfollowed := true, recurses := true, apart := false }
def GaloisReversesSaid : Prop := galoisReversesRow.holds Try.pinned (OpenSpec.ofChange galoisReversesSpec)

/-- ITS FALSE NEIGHBOUR: 'it returns false'. Refute it at one input. -/
def galoisReversesWrong : ChangeSpec := { name := "galoisReverses", fn := fun _ => fun
  | [d1, d2] => { results := [.lit (.bool false)], args := [d1, d2] }
  | _ => none }
def GaloisReversesWrongFalsely : Prop := galoisReversesRow.holds Try.pinned (OpenSpec.ofChange galoisReversesWrong)

/-- 'compactorlaw53.GaloisParts': WHATEVER THE INPUT: true; the input reads as it did. -/
def galoisPartsSpec : ChangeSpec := { name := "galoisParts", fn := fun _ => fun
  | [d1, d2, d3] => { results := [.lit (.bool true)], args := [d1, d2, d3] }
  | _ => none }
def galoisPartsRow : OpenClaim := { program := "ytpiiigeabbhdaaa", sum := "fa47382cd77e0a486413b5302517442bf3b8246c74ed42502e800409e33712a5", func := "compactor/compactorlaw53.GaloisParts", spec := "galoisParts", unfollowed := true, recurses := true, apart := false }
def GaloisPartsSaid : Prop := galoisPartsRow.holds Try.pinned (OpenSpec.ofChange galoisPartsSpec)

/-- ITS FALSE NEIGHBOUR: 'it returns false'. Refute it at one input. -/
def galoisPartsWrong : ChangeSpec := { name := "galoisParts", fn := fun _ => fun
  | [d1, d2, d3] => { results := [.lit (.bool false)], args := [d1, d2, d3] }
  | _ => none }
def GaloisPartsWrongFalsely : Prop := galoisPartsRow.holds Try.pinned (OpenSpec.ofChange galoisPartsWrong)

/- THE SECOND FORM. 'bulk': how many values and letters a reading holds, each counted each time it is reached (what is shared counts as often as it is met; a slice's spare places count too). A statement '..UptoSaid' is the law's where the arguments, and the package variables that the reading takes, are together of bulk at most 1048576: NARROWER than '..Said'. Prove '..Said' where nothing that the law and all that it calls make is longer than what came in: it says more and counts as full. Else prove '..UptoSaid'. A law counts once. -/
mutual
def uptoBulk {H : Type} : DataW H → Nat
  | .lit (.string bytes) => bytes.length + 1
  | .lit _ => 1
  | .nil => 1
  | .ptr d => uptoBulk d + 1
  | .slice elems spare => uptoBulkAll elems + uptoBulkAll spare + 1
  | .agg parts => uptoBulkAll parts + 1
  | .iface _ d => uptoBulk d + 1
  | .map entries => uptoBulkEntries entries + 1
  | .held _ => 1
def uptoBulkAll {H : Type} : List (DataW H) → Nat
  | [] => 0
  | d :: r => uptoBulk d + uptoBulkAll r
def uptoBulkEntries {H : Type} : List (Lit × DataW H) → Nat
  | [] => 0
  | x :: r => uptoBulkEntry x + uptoBulkEntries r
def uptoBulkEntry {H : Type} : Lit × DataW H → Nat
  | (.string bytes, d) => bytes.length + uptoBulk d + 1
  | (_, d) => uptoBulk d + 1
 end
def uptoSmall : (H : Type) → List (DataW H) → Bool := fun _ ds => decide (uptoBulkAll ds ≤ 1048576)
def OpenSpec.upto (s : _root_.Go.ChangeSpec) : _root_.Go.OpenSpec := { _root_.Go.OpenSpec.ofChange s with cond := some uptoSmall }

/-- 'compactorlaw53.GaloisMultiplies', WHERE WHAT IT READS IS OF BULK AT MOST 1048576: true; the input reads as it did. -/
def galoisMultipliesUptoRow : OpenClaim := { program := "ytpiiigeabbhdaaa", sum := "fa47382cd77e0a486413b5302517442bf3b8246c74ed42502e800409e33712a5", func := "compactor/compactorlaw53.GaloisMultiplies", spec := "galoisMultiplies", unfollowed := true, recurses := true, apart := false, narrowed := true }
def GaloisMultipliesUptoSaid : Prop := galoisMultipliesUptoRow.holds Try.pinned (OpenSpec.upto galoisMultipliesSpec)

/-- 'compactorlaw53.GaloisCauchys', WHERE WHAT IT READS IS OF BULK AT MOST 1048576: true; the input reads as it did. -/
def galoisCauchysUptoRow : OpenClaim := { program := "ytpiiigeabbhdaaa", sum := "fa47382cd77e0a486413b5302517442bf3b8246c74ed42502e800409e33712a5", func := "compactor/compactorlaw53.GaloisCauchys", spec := "galoisCauchys", unfollowed := true, recurses := true, apart := false, narrowed := true }
def GaloisCauchysUptoSaid : Prop := galoisCauchysUptoRow.holds Try.pinned (OpenSpec.upto galoisCauchysSpec)

/-- 'compactorlaw53.GaloisInverts', WHERE WHAT IT READS IS OF BULK AT MOST 1048576: true; the input reads as it did. -/
def galoisInvertsUptoRow : OpenClaim := { program := "ytpiiigeabbhdaaa", sum := "fa47382cd77e0a486413b5302517442bf3b8246c74ed42502e800409e33712a5", func := "compactor/compactorlaw53.GaloisInverts", spec := "galoisInverts", unfollowed := true, recurses := true, apart := false, narrowed := true }
def GaloisInvertsUptoSaid : Prop := galoisInvertsUptoRow.holds Try.pinned (OpenSpec.upto galoisInvertsSpec)

/-- 'compactorlaw53.GaloisField', WHERE WHAT IT READS IS OF BULK AT MOST 1048576: true; the input reads as it did. -/
def galoisFieldUptoRow : OpenClaim := { program := "ytpiiigeabbhdaaa", sum := "fa47382cd77e0a486413b5302517442bf3b8246c74ed42502e800409e33712a5", func := "compactor/compactorlaw53.GaloisField", spec := "galoisField", unfollowed := true, recurses := true, apart := false, narrowed := true }
def GaloisFieldUptoSaid : Prop := galoisFieldUptoRow.holds Try.pinned (OpenSpec.upto galoisFieldSpec)

/-- 'compactorlaw53.GaloisPowers', WHERE WHAT IT READS IS OF BULK AT MOST 1048576: true; the input reads as it did. -/
def galoisPowersUptoRow : OpenClaim := { program := "ytpiiigeabbhdaaa", sum := "fa47382cd77e0a486413b5302517442bf3b8246c74ed42502e800409e33712a5", func := "compactor/compactorlaw53.GaloisPowers", spec := "galoisPowers", unfollowed := true, recurses := true, apart := false, narrowed := true }
def GaloisPowersUptoSaid : Prop := galoisPowersUptoRow.holds Try.pinned (OpenSpec.upto galoisPowersSpec)

/-- 'compactorlaw53.GaloisProducts', WHERE WHAT IT READS IS OF BULK AT MOST 1048576: true; the input reads as it did. -/
def galoisProductsUptoRow : OpenClaim := { program := "ytpiiigeabbhdaaa", sum := "fa47382cd77e0a486413b5302517442bf3b8246c74ed42502e800409e33712a5", func := "compactor/compactorlaw53.GaloisProducts", spec := "galoisProducts", unfollowed := true, recurses := true, apart := false, narrowed := true }
def GaloisProductsUptoSaid : Prop := galoisProductsUptoRow.holds Try.pinned (OpenSpec.upto galoisProductsSpec)

/-- 'compactorlaw53.GaloisReverses', WHERE WHAT IT READS IS OF BULK AT MOST 1048576: true; the input reads as it did. -/
def galoisReversesUptoRow : OpenClaim := { program := "ytpiiigeabbhdaaa", sum := "fa47382cd77e0a486413b5302517442bf3b8246c74ed42502e800409e33712a5", func := "compactor/compactorlaw53.GaloisReverses", spec := "galoisReverses", unfollowed := true, recurses := true, apart := false, narrowed := true }
def GaloisReversesUptoSaid : Prop := galoisReversesUptoRow.holds Try.pinned (OpenSpec.upto galoisReversesSpec)

/-- 'compactorlaw53.GaloisParts', WHERE WHAT IT READS IS OF BULK AT MOST 1048576: true; the input reads as it did. -/
def galoisPartsUptoRow : OpenClaim := { program := "ytpiiigeabbhdaaa", sum := "fa47382cd77e0a486413b5302517442bf3b8246c74ed42502e800409e33712a5", func := "compactor/compactorlaw53.GaloisParts", spec := "galoisParts", unfollowed := true, recurses := true, apart := false, narrowed := true }
def GaloisPartsUptoSaid : Prop := galoisPartsUptoRow.holds Try.pinned (OpenSpec.upto galoisPartsSpec)

end Rows
end Go.Proofs.Ytpiiigeabbhdaaa
