/-
  No cell of these rows narrows 'for every input' (looked for: loops, veiled, ifaces, maps, wideKeys, modest, calm, conditions, laid).
  DERIVED. THE GIVEN ROWS OF THIS SEAT. 7 by the template 'for every input the law returns true; each argument reads behind the call as it read before'; 0 by the template 'total and deterministic' (their statements: YtjbeoidhbbjcmaaGreatTotals.lean).
  GIVEN WITH THE SEED: the statements are not yours to turn. If you find one false, say at which input.
  Laid BY PROGRAM, IN A SANDBOX (cutbox-rows.mjs): the forced cells as the released guide's own fill.sh prints them over the translation c64e4a78b165e2bb… (all of the seat's roots in one cut). By AI agents, Wed Nov 11 2026. No macro, syntax, notation, axiom, sorry.
-/
import Derived.Test.YtjbeoidhbbjcmaaGreatChecked
import GoSem.Claim
import GoSem.ClaimJoined
import GoSem.ClaimMapViews
import Derived.JoinedTies
import Derived.KernelRfl
namespace Go.Proofs.YtjbeoidhbbjcmaaGreat
/- THE CELL 'sum', in the pinned program and in every row, IS THE sha256 OF THE DUMP (.gsa) THAT YtjbeoidhbbjcmaaGreatProg.lean LOADS. Nothing in Lean hashes anything: it is a label: what it is worth is what the hold of that sum in a sandbox is worth. -/
noncomputable def Tryz.pinned : Pinned := { name := "ytjbeoidhbbjcmaagreat", sum := "c64e4a78b165e2bb6142538b95ad6ecd56c647da3847699f46f5205653ca1f22", checked := Tryz.checked }
namespace Rows
def none {H : Type} : Left H := { results := [], args := [] }

/-- 'galoislaw60.VerifierFactors': WHATEVER THE INPUT: true; the input reads as it did. -/
def verifierFactorsSpec : ChangeSpec := { name := "verifierFactors", fn := fun _ => fun
  | [d1, d2] => { results := [.lit (.bool true)], args := [d1, d2] }
  | _ => none }
def verifierFactorsRow : OpenClaim := { program := "ytjbeoidhbbjcmaagreat", sum := "c64e4a78b165e2bb6142538b95ad6ecd56c647da3847699f46f5205653ca1f22", func := "galois/galoislaw60.VerifierFactors", spec := "verifierFactors", unfollowed := true, recurses := true, apart := false }
def VerifierFactorsSaid : Prop := verifierFactorsRow.holds Tryz.pinned (OpenSpec.ofChange verifierFactorsSpec)

/-- ITS FALSE NEIGHBOUR: 'it returns false'. Refute it at one input. -/
def verifierFactorsWrong : ChangeSpec := { name := "verifierFactors", fn := fun _ => fun
  | [d1, d2] => { results := [.lit (.bool false)], args := [d1, d2] }
  | _ => none }
def VerifierFactorsWrongFalsely : Prop := verifierFactorsRow.holds Tryz.pinned (OpenSpec.ofChange verifierFactorsWrong)

/-- 'galoislaw60.VerifierResidues': WHATEVER THE INPUT: true; the input reads as it did. -/
def verifierResiduesSpec : ChangeSpec := { name := "verifierResidues", fn := fun _ => fun
  | [d1, d2, d3] => { results := [.lit (.bool true)], args := [d1, d2, d3] }
  | _ => none }
def verifierResiduesRow : OpenClaim := { program := "ytjbeoidhbbjcmaagreat", sum := "c64e4a78b165e2bb6142538b95ad6ecd56c647da3847699f46f5205653ca1f22", func := "galois/galoislaw60.VerifierResidues", spec := "verifierResidues", unfollowed := true, recurses := true, apart := false }
def VerifierResiduesSaid : Prop := verifierResiduesRow.holds Tryz.pinned (OpenSpec.ofChange verifierResiduesSpec)

/-- ITS FALSE NEIGHBOUR: 'it returns false'. Refute it at one input. -/
def verifierResiduesWrong : ChangeSpec := { name := "verifierResidues", fn := fun _ => fun
  | [d1, d2, d3] => { results := [.lit (.bool false)], args := [d1, d2, d3] }
  | _ => none }
def VerifierResiduesWrongFalsely : Prop := verifierResiduesRow.holds Tryz.pinned (OpenSpec.ofChange verifierResiduesWrong)

/-- 'galoislaw60.VerifierProofs': WHATEVER THE INPUT: true; the input reads as it did. -/
def verifierProofsSpec : ChangeSpec := { name := "verifierProofs", fn := fun _ => fun
  | [d1, d2, d3] => { results := [.lit (.bool true)], args := [d1, d2, d3] }
  | _ => none }
def verifierProofsRow : OpenClaim := { program := "ytjbeoidhbbjcmaagreat", sum := "c64e4a78b165e2bb6142538b95ad6ecd56c647da3847699f46f5205653ca1f22", func := "galois/galoislaw60.VerifierProofs", spec := "verifierProofs", unfollowed := true, recurses := true, apart := false }
def VerifierProofsSaid : Prop := verifierProofsRow.holds Tryz.pinned (OpenSpec.ofChange verifierProofsSpec)

/-- ITS FALSE NEIGHBOUR: 'it returns false'. Refute it at one input. -/
def verifierProofsWrong : ChangeSpec := { name := "verifierProofs", fn := fun _ => fun
  | [d1, d2, d3] => { results := [.lit (.bool false)], args := [d1, d2, d3] }
  | _ => none }
def VerifierProofsWrongFalsely : Prop := verifierProofsRow.holds Tryz.pinned (OpenSpec.ofChange verifierProofsWrong)

/-- 'galoislaw60.VerifierRadicals': WHATEVER THE INPUT: true; the input reads as it did. -/
def verifierRadicalsSpec : ChangeSpec := { name := "verifierRadicals", fn := fun _ => fun
  | [d1, d2] => { results := [.lit (.bool true)], args := [d1, d2] }
  | _ => none }
def verifierRadicalsRow : OpenClaim := { program := "ytjbeoidhbbjcmaagreat", sum := "c64e4a78b165e2bb6142538b95ad6ecd56c647da3847699f46f5205653ca1f22", func := "galois/galoislaw60.VerifierRadicals", spec := "verifierRadicals", unfollowed := true, recurses := true, apart := false }
def VerifierRadicalsSaid : Prop := verifierRadicalsRow.holds Tryz.pinned (OpenSpec.ofChange verifierRadicalsSpec)

/-- ITS FALSE NEIGHBOUR: 'it returns false'. Refute it at one input. -/
def verifierRadicalsWrong : ChangeSpec := { name := "verifierRadicals", fn := fun _ => fun
  | [d1, d2] => { results := [.lit (.bool false)], args := [d1, d2] }
  | _ => none }
def VerifierRadicalsWrongFalsely : Prop := verifierRadicalsRow.holds Tryz.pinned (OpenSpec.ofChange verifierRadicalsWrong)

/-- 'galoislaw60.VerifierGroups': WHATEVER THE INPUT: true; the input reads as it did. -/
def verifierGroupsSpec : ChangeSpec := { name := "verifierGroups", fn := fun _ => fun
  | [d1, d2] => { results := [.lit (.bool true)], args := [d1, d2] }
  | _ => none }
def verifierGroupsRow : OpenClaim := { program := "ytjbeoidhbbjcmaagreat", sum := "c64e4a78b165e2bb6142538b95ad6ecd56c647da3847699f46f5205653ca1f22", func := "galois/galoislaw60.VerifierGroups", spec := "verifierGroups", unfollowed := true, recurses := true, apart := false }
def VerifierGroupsSaid : Prop := verifierGroupsRow.holds Tryz.pinned (OpenSpec.ofChange verifierGroupsSpec)

/-- ITS FALSE NEIGHBOUR: 'it returns false'. Refute it at one input. -/
def verifierGroupsWrong : ChangeSpec := { name := "verifierGroups", fn := fun _ => fun
  | [d1, d2] => { results := [.lit (.bool false)], args := [d1, d2] }
  | _ => none }
def VerifierGroupsWrongFalsely : Prop := verifierGroupsRow.holds Tryz.pinned (OpenSpec.ofChange verifierGroupsWrong)

/-- 'galoislaw60.VerifierFigures': WHATEVER THE INPUT: true; the input reads as it did. -/
def verifierFiguresSpec : ChangeSpec := { name := "verifierFigures", fn := fun _ => fun
  | [d1, d2] => { results := [.lit (.bool true)], args := [d1, d2] }
  | _ => none }
def verifierFiguresRow : OpenClaim := { program := "ytjbeoidhbbjcmaagreat", sum := "c64e4a78b165e2bb6142538b95ad6ecd56c647da3847699f46f5205653ca1f22", func := "galois/galoislaw60.VerifierFigures", spec := "verifierFigures", unfollowed := true, recurses := true, apart := false }
def VerifierFiguresSaid : Prop := verifierFiguresRow.holds Tryz.pinned (OpenSpec.ofChange verifierFiguresSpec)

/-- ITS FALSE NEIGHBOUR: 'it returns false'. Refute it at one input. -/
def verifierFiguresWrong : ChangeSpec := { name := "verifierFigures", fn := fun _ => fun
  | [d1, d2] => { results := [.lit (.bool false)], args := [d1, d2] }
  | _ => none }
def VerifierFiguresWrongFalsely : Prop := verifierFiguresRow.holds Tryz.pinned (OpenSpec.ofChange verifierFiguresWrong)

/-- 'galoislaw60.VerifierCounts': WHATEVER THE INPUT: true; the input reads as it did. -/
def verifierCountsSpec : ChangeSpec := { name := "verifierCounts", fn := fun _ => fun
  | [d] => { results := [.lit (.bool true)], args := [d] }
  | _ => none }
def verifierCountsRow : OpenClaim := { program := "ytjbeoidhbbjcmaagreat", sum := "c64e4a78b165e2bb6142538b95ad6ecd56c647da3847699f46f5205653ca1f22", func := "galois/galoislaw60.VerifierCounts", spec := "verifierCounts", unfollowed := true, recurses := true, apart := false }
def VerifierCountsSaid : Prop := verifierCountsRow.holds Tryz.pinned (OpenSpec.ofChange verifierCountsSpec)

/-- ITS FALSE NEIGHBOUR: 'it returns false'. Refute it at one input. -/
def verifierCountsWrong : ChangeSpec := { name := "verifierCounts", fn := fun _ => fun
  | [d] => { results := [.lit (.bool false)], args := [d] }
  | _ => none }
def VerifierCountsWrongFalsely : Prop := verifierCountsRow.holds Tryz.pinned (OpenSpec.ofChange verifierCountsWrong)

/- THE SECOND FORM. 'bulk': how many values and letters a reading holds, each counted each time it is reached (what is shared counts as often as it is met; a slice's spare places count too). A statement '..UptoSaid' is the law's where the arguments, and the package variables that the reading takes, are together of bulk at most 1048576: NARROWER than '..Said'. Prove '..Said' where nothing that the law and all that it calls make is longer than what came in: it says more and counts as full. Else prove '..UptoSaid'. A law counts once. -/
mutual
def uptoBulk {H : Type} : DataW H → Nat
  | .lit (.string bytes) => bytes.length + 1
  | .lit _ => 1
  | .nil => 1
  | .ptr d => uptoBulk d + 1
  | .slice elems spare => uptoBulkAll elems + uptoBulkAll spare + 1
  | .agg parts => uptoBulkAll parts + 1
  | .iface _ d => uptoBulk d + 1
  | .map entries => uptoBulkEntries entries + 1
  | .held _ => 1
def uptoBulkAll {H : Type} : List (DataW H) → Nat
  | [] => 0
  | d :: r => uptoBulk d + uptoBulkAll r
def uptoBulkEntries {H : Type} : List (Lit × DataW H) → Nat
  | [] => 0
  | x :: r => uptoBulkEntry x + uptoBulkEntries r
def uptoBulkEntry {H : Type} : Lit × DataW H → Nat
  | (.string bytes, d) => bytes.length + uptoBulk d + 1
  | (_, d) => uptoBulk d + 1
 end
def uptoSmall : (H : Type) → List (DataW H) → Bool := fun _ ds => decide (uptoBulkAll ds ≤ 1048576)
def OpenSpec.upto (s : _root_.Go.ChangeSpec) : _root_.Go.OpenSpec := { _root_.Go.OpenSpec.ofChange s with cond := some uptoSmall }

/-- 'galoislaw60.VerifierFactors', WHERE WHAT IT READS IS OF BULK AT MOST 1048576: true; the input reads as it did. -/
def verifierFactorsUptoRow : OpenClaim := { program := "ytjbeoidhbbjcmaagreat", sum := "c64e4a78b165e2bb6142538b95ad6ecd56c647da3847699f46f5205653ca1f22", func := "galois/galoislaw60.VerifierFactors", spec := "verifierFactors", unfollowed := true, recurses := true, apart := false, narrowed := true }
def VerifierFactorsUptoSaid : Prop := verifierFactorsUptoRow.holds Tryz.pinned (OpenSpec.upto verifierFactorsSpec)

/-- 'galoislaw60.VerifierResidues', WHERE WHAT IT READS IS OF BULK AT MOST 1048576: true; the input reads as it did. -/
def verifierResiduesUptoRow : OpenClaim := { program := "ytjbeoidhbbjcmaagreat", sum := "c64e4a78b165e2bb6142538b95ad6ecd56c647da3847699f46f5205653ca1f22", func := "galois/galoislaw60.VerifierResidues", spec := "verifierResidues", unfollowed := true, recurses := true, apart := false, narrowed := true }
def VerifierResiduesUptoSaid : Prop := verifierResiduesUptoRow.holds Tryz.pinned (OpenSpec.upto verifierResiduesSpec)

/-- 'galoislaw60.VerifierProofs', WHERE WHAT IT READS IS OF BULK AT MOST 1048576: true; the input reads as it did. -/
def verifierProofsUptoRow : OpenClaim := { program := "ytjbeoidhbbjcmaagreat", sum := "c64e4a78b165e2bb6142538b95ad6ecd56c647da3847699f46f5205653ca1f22", func := "galois/galoislaw60.VerifierProofs", spec := "verifierProofs", unfollowed := true, recurses := true, apart := false, narrowed := true }
def VerifierProofsUptoSaid : Prop := verifierProofsUptoRow.holds Tryz.pinned (OpenSpec.upto verifierProofsSpec)

/-- 'galoislaw60.VerifierRadicals', WHERE WHAT IT READS IS OF BULK AT MOST 1048576: true; the input reads as it did. -/
def verifierRadicalsUptoRow : OpenClaim := { program := "ytjbeoidhbbjcmaagreat", sum := "c64e4a78b165e2bb6142538b95ad6ecd56c647da3847699f46f5205653ca1f22", func := "galois/galoislaw60.VerifierRadicals", spec := "verifierRadicals", unfollowed := true, recurses := true, apart := false, narrowed := true }
def VerifierRadicalsUptoSaid : Prop := verifierRadicalsUptoRow.holds Tryz.pinned (OpenSpec.upto verifierRadicalsSpec)

/-- 'galoislaw60.VerifierGroups', WHERE WHAT IT READS IS OF BULK AT MOST 1048576: true; the input reads as it did. -/
def verifierGroupsUptoRow : OpenClaim := { program := "ytjbeoidhbbjcmaagreat", sum := "c64e4a78b165e2bb6142538b95ad6ecd56c647da3847699f46f5205653ca1f22", func := "galois/galoislaw60.VerifierGroups", spec := "verifierGroups", unfollowed := true, recurses := true, apart := false, narrowed := true }
def VerifierGroupsUptoSaid : Prop := verifierGroupsUptoRow.holds Tryz.pinned (OpenSpec.upto verifierGroupsSpec)

/-- 'galoislaw60.VerifierFigures', WHERE WHAT IT READS IS OF BULK AT MOST 1048576: true; the input reads as it did. -/
def verifierFiguresUptoRow : OpenClaim := { program := "ytjbeoidhbbjcmaagreat", sum := "c64e4a78b165e2bb6142538b95ad6ecd56c647da3847699f46f5205653ca1f22", func := "galois/galoislaw60.VerifierFigures", spec := "verifierFigures", unfollowed := true, recurses := true, apart := false, narrowed := true }
def VerifierFiguresUptoSaid : Prop := verifierFiguresUptoRow.holds Tryz.pinned (OpenSpec.upto verifierFiguresSpec)

/-- 'galoislaw60.VerifierCounts', WHERE WHAT IT READS IS OF BULK AT MOST 1048576: true; the input reads as it did. -/
def verifierCountsUptoRow : OpenClaim := { program := "ytjbeoidhbbjcmaagreat", sum := "c64e4a78b165e2bb6142538b95ad6ecd56c647da3847699f46f5205653ca1f22", func := "galois/galoislaw60.VerifierCounts", spec := "verifierCounts", unfollowed := true, recurses := true, apart := false, narrowed := true }
def VerifierCountsUptoSaid : Prop := verifierCountsUptoRow.holds Tryz.pinned (OpenSpec.upto verifierCountsSpec)

end Rows
end Go.Proofs.YtjbeoidhbbjcmaaGreat
