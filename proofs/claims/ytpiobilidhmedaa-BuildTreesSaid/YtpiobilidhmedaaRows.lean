/-
  No cell of these rows narrows 'for every input' (looked for: loops, veiled, ifaces, maps, wideKeys, modest, calm, conditions, laid).
  DERIVED. THE GIVEN ROWS OF THIS SEAT. 12 by the template 'for every input the law returns true; each argument reads behind the call as it read before'; 0 by the template 'total and deterministic' (their statements: YtpiobilidhmedaaTotals.lean).
  GIVEN WITH THE SEED: the statements are not yours to turn. If you find one false, say at which input.
  Laid BY PROGRAM, IN A SANDBOX (cutbox-rows.mjs): the forced cells as the released guide's own fill.sh prints them over the translation 365d29f2c0232b0b… (all of the seat's roots in one cut). By AI agents, Wed Nov 11 2026. No macro, syntax, notation, axiom, sorry.
-/
import Derived.Test.YtpiobilidhmedaaChecked
import GoSem.Claim
import GoSem.ClaimJoined
import GoSem.ClaimMapViews
import Derived.JoinedTies
import Derived.KernelRfl
namespace Go.Proofs.Ytpiobilidhmedaa
/- THE CELL 'sum', in the pinned program and in every row, IS THE sha256 OF THE DUMP (.gsa) THAT YtpiobilidhmedaaProg.lean LOADS. Nothing in Lean hashes anything: it is a label: what it is worth is what the hold of that sum in a sandbox is worth. -/
noncomputable def Try.pinned : Pinned := { name := "ytpiobilidhmedaa", sum := "365d29f2c0232b0b01d2bbd5f67c71bbae9bbcd1b94fa7e0580b2c851abaa6c8", checked := Try.checked }
namespace Rows
def none {H : Type} : Left H := { results := [], args := [] }

/-- 'samaralaw18.BuildEntries': WHATEVER THE INPUT: true; the input reads as it did. -/
def buildEntriesSpec : ChangeSpec := { name := "buildEntries", fn := fun _ => fun
  | [d1, d2, d3] => { results := [.lit (.bool true)], args := [d1, d2, d3] }
  | _ => none }
def buildEntriesRow : OpenClaim := { program := "ytpiobilidhmedaa", sum := "365d29f2c0232b0b01d2bbd5f67c71bbae9bbcd1b94fa7e0580b2c851abaa6c8", func := "samara/samaralaw18.BuildEntries", spec := "buildEntries", unfollowed := true, recurses := true, apart := false }
def BuildEntriesSaid : Prop := buildEntriesRow.holds Try.pinned (OpenSpec.ofChange buildEntriesSpec)

/-- ITS FALSE NEIGHBOUR: 'it returns false'. Refute it at one input. -/
def buildEntriesWrong : ChangeSpec := { name := "buildEntries", fn := fun _ => fun
  | [d1, d2, d3] => { results := [.lit (.bool false)], args := [d1, d2, d3] }
  | _ => none }
def BuildEntriesWrongFalsely : Prop := buildEntriesRow.holds Try.pinned (OpenSpec.ofChange buildEntriesWrong)

/-- 'samaralaw18.BuildTrees': WHATEVER THE INPUT: true; the input reads as it did. -/
def buildTreesSpec : ChangeSpec := { name := "buildTrees", fn := fun _ => fun
  | [d1, d2, d3] => { results := [.lit (.bool true)], args := [d1, d2, d3] }
  | _ => none }
def buildTreesRow : OpenClaim := { program := "ytpiobilidhmedaa", sum := "365d29f2c0232b0b01d2bbd5f67c71bbae9bbcd1b94fa7e0580b2c851abaa6c8", func := "samara/samaralaw18.BuildTrees", spec := "buildTrees", unfollowed := true, recurses := true, apart := false }
def BuildTreesSaid : Prop := buildTreesRow.holds Try.pinned (OpenSpec.ofChange buildTreesSpec)

/-- ITS FALSE NEIGHBOUR: 'it returns false'. Refute it at one input. -/
def buildTreesWrong : ChangeSpec := { name := "buildTrees", fn := fun _ => fun
  | [d1, d2, d3] => { results := [.lit (.bool false)], args := [d1, d2, d3] }
  | _ => none }
def BuildTreesWrongFalsely : Prop := buildTreesRow.holds Try.pinned (OpenSpec.ofChange buildTreesWrong)

/-- 'samaralaw18.BuildGaps': WHATEVER THE INPUT: true; the input reads as it did. -/
def buildGapsSpec : ChangeSpec := { name := "buildGaps", fn := fun _ => fun
  | [d] => { results := [.lit (.bool true)], args := [d] }
  | _ => none }
def buildGapsRow : OpenClaim := { program := "ytpiobilidhmedaa", sum := "365d29f2c0232b0b01d2bbd5f67c71bbae9bbcd1b94fa7e0580b2c851abaa6c8", func := "samara/samaralaw18.BuildGaps", spec := "buildGaps", unfollowed := true, recurses := true, apart := false }
def BuildGapsSaid : Prop := buildGapsRow.holds Try.pinned (OpenSpec.ofChange buildGapsSpec)

/-- ITS FALSE NEIGHBOUR: 'it returns false'. Refute it at one input. -/
def buildGapsWrong : ChangeSpec := { name := "buildGaps", fn := fun _ => fun
  | [d] => { results := [.lit (.bool false)], args := [d] }
  | _ => none }
def BuildGapsWrongFalsely : Prop := buildGapsRow.holds Try.pinned (OpenSpec.ofChange buildGapsWrong)

/-- 'samaralaw17.WalkFinds': WHATEVER THE INPUT: true; the input reads as it did. -/
def walkFindsSpec : ChangeSpec := { name := "walkFinds", fn := fun _ => fun
  | [d1, d2, d3] => { results := [.lit (.bool true)], args := [d1, d2, d3] }
  | _ => none }
def walkFindsRow : OpenClaim := { program := "ytpiobilidhmedaa", sum := "365d29f2c0232b0b01d2bbd5f67c71bbae9bbcd1b94fa7e0580b2c851abaa6c8", func := "samara/samaralaw17.WalkFinds", spec := "walkFinds", unfollowed := true, recurses := true, apart := false }
def WalkFindsSaid : Prop := walkFindsRow.holds Try.pinned (OpenSpec.ofChange walkFindsSpec)

/-- ITS FALSE NEIGHBOUR: 'it returns false'. Refute it at one input. -/
def walkFindsWrong : ChangeSpec := { name := "walkFinds", fn := fun _ => fun
  | [d1, d2, d3] => { results := [.lit (.bool false)], args := [d1, d2, d3] }
  | _ => none }
def WalkFindsWrongFalsely : Prop := walkFindsRow.holds Try.pinned (OpenSpec.ofChange walkFindsWrong)

/-- 'samaralaw17.WalkGoes': WHATEVER THE INPUT: true; the input reads as it did. -/
def walkGoesSpec : ChangeSpec := { name := "walkGoes", fn := fun _ => fun
  | [d1, d2] => { results := [.lit (.bool true)], args := [d1, d2] }
  | _ => none }
def walkGoesRow : OpenClaim := { program := "ytpiobilidhmedaa", sum := "365d29f2c0232b0b01d2bbd5f67c71bbae9bbcd1b94fa7e0580b2c851abaa6c8", func := "samara/samaralaw17.WalkGoes", spec := "walkGoes", unfollowed := true, recurses := true, apart := false }
def WalkGoesSaid : Prop := walkGoesRow.holds Try.pinned (OpenSpec.ofChange walkGoesSpec)

/-- ITS FALSE NEIGHBOUR: 'it returns false'. Refute it at one input. -/
def walkGoesWrong : ChangeSpec := { name := "walkGoes", fn := fun _ => fun
  | [d1, d2] => { results := [.lit (.bool false)], args := [d1, d2] }
  | _ => none }
def WalkGoesWrongFalsely : Prop := walkGoesRow.holds Try.pinned (OpenSpec.ofChange walkGoesWrong)

/-- 'samaralaw17.WalkAgrees': WHATEVER THE INPUT: true; the input reads as it did. -/
def walkAgreesSpec : ChangeSpec := { name := "walkAgrees", fn := fun _ => fun
  | [d1, d2] => { results := [.lit (.bool true)], args := [d1, d2] }
  | _ => none }
def walkAgreesRow : OpenClaim := { program := "ytpiobilidhmedaa", sum := "365d29f2c0232b0b01d2bbd5f67c71bbae9bbcd1b94fa7e0580b2c851abaa6c8", func := "samara/samaralaw17.WalkAgrees", spec := "walkAgrees", unfollowed := true, recurses := true, apart := false }
def WalkAgreesSaid : Prop := walkAgreesRow.holds Try.pinned (OpenSpec.ofChange walkAgreesSpec)

/-- ITS FALSE NEIGHBOUR: 'it returns false'. Refute it at one input. -/
def walkAgreesWrong : ChangeSpec := { name := "walkAgrees", fn := fun _ => fun
  | [d1, d2] => { results := [.lit (.bool false)], args := [d1, d2] }
  | _ => none }
def WalkAgreesWrongFalsely : Prop := walkAgreesRow.holds Try.pinned (OpenSpec.ofChange walkAgreesWrong)

/-- 'samaralaw17.WalkRound': WHATEVER THE INPUT: true; the input reads as it did. -/
def walkRoundSpec : ChangeSpec := { name := "walkRound", fn := fun _ => fun
  | [d1, d2] => { results := [.lit (.bool true)], args := [d1, d2] }
  | _ => none }
def walkRoundRow : OpenClaim := { program := "ytpiobilidhmedaa", sum := "365d29f2c0232b0b01d2bbd5f67c71bbae9bbcd1b94fa7e0580b2c851abaa6c8", func := "samara/samaralaw17.WalkRound", spec := "walkRound", unfollowed := true, recurses := true, apart := false }
def WalkRoundSaid : Prop := walkRoundRow.holds Try.pinned (OpenSpec.ofChange walkRoundSpec)

/-- ITS FALSE NEIGHBOUR: 'it returns false'. Refute it at one input. -/
def walkRoundWrong : ChangeSpec := { name := "walkRound", fn := fun _ => fun
  | [d1, d2] => { results := [.lit (.bool false)], args := [d1, d2] }
  | _ => none }
def WalkRoundWrongFalsely : Prop := walkRoundRow.holds Try.pinned (OpenSpec.ofChange walkRoundWrong)

/-- 'samaralaw19.ReplaceRing': WHATEVER THE INPUT: true; the input reads as it did. -/
def replaceRingSpec : ChangeSpec := { name := "replaceRing", fn := fun _ => fun
  | [d1, d2] => { results := [.lit (.bool true)], args := [d1, d2] }
  | _ => none }
def replaceRingRow : OpenClaim := { program := "ytpiobilidhmedaa", sum := "365d29f2c0232b0b01d2bbd5f67c71bbae9bbcd1b94fa7e0580b2c851abaa6c8", func := "samara/samaralaw19.ReplaceRing", spec := "replaceRing", unfollowed := true, recurses := true, apart := false }
def ReplaceRingSaid : Prop := replaceRingRow.holds Try.pinned (OpenSpec.ofChange replaceRingSpec)

/-- ITS FALSE NEIGHBOUR: 'it returns false'. Refute it at one input. -/
def replaceRingWrong : ChangeSpec := { name := "replaceRing", fn := fun _ => fun
  | [d1, d2] => { results := [.lit (.bool false)], args := [d1, d2] }
  | _ => none }
def ReplaceRingWrongFalsely : Prop := replaceRingRow.holds Try.pinned (OpenSpec.ofChange replaceRingWrong)

/-- 'samaralaw19.ReplacePlays': WHATEVER THE INPUT: true; the input reads as it did. -/
def replacePlaysSpec : ChangeSpec := { name := "replacePlays", fn := fun _ => fun
  | [d1, d2] => { results := [.lit (.bool true)], args := [d1, d2] }
  | _ => none }
def replacePlaysRow : OpenClaim := { program := "ytpiobilidhmedaa", sum := "365d29f2c0232b0b01d2bbd5f67c71bbae9bbcd1b94fa7e0580b2c851abaa6c8", func := "samara/samaralaw19.ReplacePlays", spec := "replacePlays", unfollowed := true, recurses := true, apart := false }
def ReplacePlaysSaid : Prop := replacePlaysRow.holds Try.pinned (OpenSpec.ofChange replacePlaysSpec)

/-- ITS FALSE NEIGHBOUR: 'it returns false'. Refute it at one input. -/
def replacePlaysWrong : ChangeSpec := { name := "replacePlays", fn := fun _ => fun
  | [d1, d2] => { results := [.lit (.bool false)], args := [d1, d2] }
  | _ => none }
def ReplacePlaysWrongFalsely : Prop := replacePlaysRow.holds Try.pinned (OpenSpec.ofChange replacePlaysWrong)

/-- 'samaralaw19.ReplaceNew': WHATEVER THE INPUT: true; the input reads as it did. -/
def replaceNewSpec : ChangeSpec := { name := "replaceNew", fn := fun _ => fun
  | [d] => { results := [.lit (.bool true)], args := [d] }
  | _ => none }
def replaceNewRow : OpenClaim := { program := "ytpiobilidhmedaa", sum := "365d29f2c0232b0b01d2bbd5f67c71bbae9bbcd1b94fa7e0580b2c851abaa6c8", func := "samara/samaralaw19.ReplaceNew", spec := "replaceNew", unfollowed := true, recurses := true, apart := false }
def ReplaceNewSaid : Prop := replaceNewRow.holds Try.pinned (OpenSpec.ofChange replaceNewSpec)

/-- ITS FALSE NEIGHBOUR: 'it returns false'. Refute it at one input. -/
def replaceNewWrong : ChangeSpec := { name := "replaceNew", fn := fun _ => fun
  | [d] => { results := [.lit (.bool false)], args := [d] }
  | _ => none }
def ReplaceNewWrongFalsely : Prop := replaceNewRow.holds Try.pinned (OpenSpec.ofChange replaceNewWrong)

/-- 'samaralaw19.ReplaceWrites': WHATEVER THE INPUT: true; the input reads as it did. -/
def replaceWritesSpec : ChangeSpec := { name := "replaceWrites", fn := fun _ => fun
  | [d1, d2] => { results := [.lit (.bool true)], args := [d1, d2] }
  | _ => none }
def replaceWritesRow : OpenClaim := { program := "ytpiobilidhmedaa", sum := "365d29f2c0232b0b01d2bbd5f67c71bbae9bbcd1b94fa7e0580b2c851abaa6c8", func := "samara/samaralaw19.ReplaceWrites", spec := "replaceWrites", unfollowed := true, recurses := true, apart := false }
def ReplaceWritesSaid : Prop := replaceWritesRow.holds Try.pinned (OpenSpec.ofChange replaceWritesSpec)

/-- ITS FALSE NEIGHBOUR: 'it returns false'. Refute it at one input. -/
def replaceWritesWrong : ChangeSpec := { name := "replaceWrites", fn := fun _ => fun
  | [d1, d2] => { results := [.lit (.bool false)], args := [d1, d2] }
  | _ => none }
def ReplaceWritesWrongFalsely : Prop := replaceWritesRow.holds Try.pinned (OpenSpec.ofChange replaceWritesWrong)

/-- 'samaralaw18.BuildBack': WHATEVER THE INPUT: true; the input reads as it did. -/
def buildBackSpec : ChangeSpec := { name := "buildBack", fn := fun _ => fun
  | [d1, d2] => { results := [.lit (.bool true)], args := [d1, d2] }
  | _ => none }
def buildBackRow : OpenClaim := { program := "ytpiobilidhmedaa", sum := "365d29f2c0232b0b01d2bbd5f67c71bbae9bbcd1b94fa7e0580b2c851abaa6c8", func := "samara/samaralaw18.BuildBack", spec := "buildBack", unfollowed := true, recurses := true, apart := false }
def BuildBackSaid : Prop := buildBackRow.holds Try.pinned (OpenSpec.ofChange buildBackSpec)

/-- ITS FALSE NEIGHBOUR: 'it returns false'. Refute it at one input. -/
def buildBackWrong : ChangeSpec := { name := "buildBack", fn := fun _ => fun
  | [d1, d2] => { results := [.lit (.bool false)], args := [d1, d2] }
  | _ => none }
def BuildBackWrongFalsely : Prop := buildBackRow.holds Try.pinned (OpenSpec.ofChange buildBackWrong)

/- THE SECOND FORM. 'bulk': how many values and letters a reading holds, each counted each time it is reached (what is shared counts as often as it is met; a slice's spare places count too). A statement '..UptoSaid' is the law's where the arguments, and the package variables that the reading takes, are together of bulk at most 1048576: NARROWER than '..Said'. Prove '..Said' where nothing that the law and all that it calls make is longer than what came in: it says more and counts as full. Else prove '..UptoSaid'. A law counts once. -/
mutual
def uptoBulk {H : Type} : DataW H → Nat
  | .lit (.string bytes) => bytes.length + 1
  | .lit _ => 1
  | .nil => 1
  | .ptr d => uptoBulk d + 1
  | .slice elems spare => uptoBulkAll elems + uptoBulkAll spare + 1
  | .agg parts => uptoBulkAll parts + 1
  | .iface _ d => uptoBulk d + 1
  | .map entries => uptoBulkEntries entries + 1
  | .held _ => 1
def uptoBulkAll {H : Type} : List (DataW H) → Nat
  | [] => 0
  | d :: r => uptoBulk d + uptoBulkAll r
def uptoBulkEntries {H : Type} : List (Lit × DataW H) → Nat
  | [] => 0
  | x :: r => uptoBulkEntry x + uptoBulkEntries r
def uptoBulkEntry {H : Type} : Lit × DataW H → Nat
  | (.string bytes, d) => bytes.length + uptoBulk d + 1
  | (_, d) => uptoBulk d + 1
 end
def uptoSmall : (H : Type) → List (DataW H) → Bool := fun _ ds => decide (uptoBulkAll ds ≤ 1048576)
def OpenSpec.upto (s : _root_.Go.ChangeSpec) : _root_.Go.OpenSpec := { _root_.Go.OpenSpec.ofChange s with cond := some uptoSmall }

/-- 'samaralaw18.BuildEntries', WHERE WHAT IT READS IS OF BULK AT MOST 1048576: true; the input reads as it did. -/
def buildEntriesUptoRow : OpenClaim := { program := "ytpiobilidhmedaa", sum := "365d29f2c0232b0b01d2bbd5f67c71bbae9bbcd1b94fa7e0580b2c851abaa6c8", func := "samara/samaralaw18.BuildEntries", spec := "buildEntries", unfollowed := true, recurses := true, apart := false, narrowed := true }
def BuildEntriesUptoSaid : Prop := buildEntriesUptoRow.holds Try.pinned (OpenSpec.upto buildEntriesSpec)

/-- 'samaralaw18.BuildTrees', WHERE WHAT IT READS IS OF BULK AT MOST 1048576: true; the input reads as it did. -/
def buildTreesUptoRow : OpenClaim := { program := "ytpiobilidhmedaa", sum := "365d29f2c0232b0b01d2bbd5f67c71bbae9bbcd1b94fa7e0580b2c851abaa6c8", func := "samara/samaralaw18.BuildTrees", spec := "buildTrees", unfollowed := true, recurses := true, apart := false, narrowed := true }
def BuildTreesUptoSaid : Prop := buildTreesUptoRow.holds Try.pinned (OpenSpec.upto buildTreesSpec)

/-- 'samaralaw18.BuildGaps', WHERE WHAT IT READS IS OF BULK AT MOST 1048576: true; the input reads as it did. -/
def buildGapsUptoRow : OpenClaim := { program := "ytpiobilidhmedaa", sum := "365d29f2c0232b0b01d2bbd5f67c71bbae9bbcd1b94fa7e0580b2c851abaa6c8", func := "samara/samaralaw18.BuildGaps", spec := "buildGaps", unfollowed := true, recurses := true, apart := false, narrowed := true }
def BuildGapsUptoSaid : Prop := buildGapsUptoRow.holds Try.pinned (OpenSpec.upto buildGapsSpec)

/-- 'samaralaw17.WalkFinds', WHERE WHAT IT READS IS OF BULK AT MOST 1048576: true; the input reads as it did. -/
def walkFindsUptoRow : OpenClaim := { program := "ytpiobilidhmedaa", sum := "365d29f2c0232b0b01d2bbd5f67c71bbae9bbcd1b94fa7e0580b2c851abaa6c8", func := "samara/samaralaw17.WalkFinds", spec := "walkFinds", unfollowed := true, recurses := true, apart := false, narrowed := true }
def WalkFindsUptoSaid : Prop := walkFindsUptoRow.holds Try.pinned (OpenSpec.upto walkFindsSpec)

/-- 'samaralaw17.WalkGoes', WHERE WHAT IT READS IS OF BULK AT MOST 1048576: true; the input reads as it did. -/
def walkGoesUptoRow : OpenClaim := { program := "ytpiobilidhmedaa", sum := "365d29f2c0232b0b01d2bbd5f67c71bbae9bbcd1b94fa7e0580b2c851abaa6c8", func := "samara/samaralaw17.WalkGoes", spec := "walkGoes", unfollowed := true, recurses := true, apart := false, narrowed := true }
def WalkGoesUptoSaid : Prop := walkGoesUptoRow.holds Try.pinned (OpenSpec.upto walkGoesSpec)

/-- 'samaralaw17.WalkAgrees', WHERE WHAT IT READS IS OF BULK AT MOST 1048576: true; the input reads as it did. -/
def walkAgreesUptoRow : OpenClaim := { program := "ytpiobilidhmedaa", sum := "365d29f2c0232b0b01d2bbd5f67c71bbae9bbcd1b94fa7e0580b2c851abaa6c8", func := "samara/samaralaw17.WalkAgrees", spec := "walkAgrees", unfollowed := true, recurses := true, apart := false, narrowed := true }
def WalkAgreesUptoSaid : Prop := walkAgreesUptoRow.holds Try.pinned (OpenSpec.upto walkAgreesSpec)

/-- 'samaralaw17.WalkRound', WHERE WHAT IT READS IS OF BULK AT MOST 1048576: true; the input reads as it did. -/
def walkRoundUptoRow : OpenClaim := { program := "ytpiobilidhmedaa", sum := "365d29f2c0232b0b01d2bbd5f67c71bbae9bbcd1b94fa7e0580b2c851abaa6c8", func := "samara/samaralaw17.WalkRound", spec := "walkRound", unfollowed := true, recurses := true, apart := false, narrowed := true }
def WalkRoundUptoSaid : Prop := walkRoundUptoRow.holds Try.pinned (OpenSpec.upto walkRoundSpec)

/-- 'samaralaw19.ReplaceRing', WHERE WHAT IT READS IS OF BULK AT MOST 1048576: true; the input reads as it did. -/
def replaceRingUptoRow : OpenClaim := { program := "ytpiobilidhmedaa", sum := "365d29f2c0232b0b01d2bbd5f67c71bbae9bbcd1b94fa7e0580b2c851abaa6c8", func := "samara/samaralaw19.ReplaceRing", spec := "replaceRing", unfollowed := true, recurses := true, apart := false, narrowed := true }
def ReplaceRingUptoSaid : Prop := replaceRingUptoRow.holds Try.pinned (OpenSpec.upto replaceRingSpec)

/-- 'samaralaw19.ReplacePlays', WHERE WHAT IT READS IS OF BULK AT MOST 1048576: true; the input reads as it did. -/
def replacePlaysUptoRow : OpenClaim := { program := "ytpiobilidhmedaa", sum := "365d29f2c0232b0b01d2bbd5f67c71bbae9bbcd1b94fa7e0580b2c851abaa6c8", func := "samara/samaralaw19.ReplacePlays", spec := "replacePlays", unfollowed := true, recurses := true, apart := false, narrowed := true }
def ReplacePlaysUptoSaid : Prop := replacePlaysUptoRow.holds Try.pinned (OpenSpec.upto replacePlaysSpec)

/-- 'samaralaw19.ReplaceNew', WHERE WHAT IT READS IS OF BULK AT MOST 1048576: true; the input reads as it did. -/
def replaceNewUptoRow : OpenClaim := { program := "ytpiobilidhmedaa", sum := "365d29f2c0232b0b01d2bbd5f67c71bbae9bbcd1b94fa7e0580b2c851abaa6c8", func := "samara/samaralaw19.ReplaceNew", spec := "replaceNew", unfollowed := true, recurses := true, apart := false, narrowed := true }
def ReplaceNewUptoSaid : Prop := replaceNewUptoRow.holds Try.pinned (OpenSpec.upto replaceNewSpec)

/-- 'samaralaw19.ReplaceWrites', WHERE WHAT IT READS IS OF BULK AT MOST 1048576: true; the input reads as it did. -/
def replaceWritesUptoRow : OpenClaim := { program := "ytpiobilidhmedaa", sum := "365d29f2c0232b0b01d2bbd5f67c71bbae9bbcd1b94fa7e0580b2c851abaa6c8", func := "samara/samaralaw19.ReplaceWrites", spec := "replaceWrites", unfollowed := true, recurses := true, apart := false, narrowed := true }
def ReplaceWritesUptoSaid : Prop := replaceWritesUptoRow.holds Try.pinned (OpenSpec.upto replaceWritesSpec)

/-- 'samaralaw18.BuildBack', WHERE WHAT IT READS IS OF BULK AT MOST 1048576: true; the input reads as it did. -/
def buildBackUptoRow : OpenClaim := { program := "ytpiobilidhmedaa", sum := "365d29f2c0232b0b01d2bbd5f67c71bbae9bbcd1b94fa7e0580b2c851abaa6c8", func := "samara/samaralaw18.BuildBack", spec := "buildBack", unfollowed := true, recurses := true, apart := false, narrowed := true }
def BuildBackUptoSaid : Prop := buildBackUptoRow.holds Try.pinned (OpenSpec.upto buildBackSpec)

end Rows
end Go.Proofs.Ytpiobilidhmedaa
