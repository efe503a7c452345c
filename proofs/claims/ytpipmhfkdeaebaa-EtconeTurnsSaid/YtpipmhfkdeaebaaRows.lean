/-
  No cell of these rows narrows 'for every input' (looked for: loops, veiled, ifaces, maps, wideKeys, modest, calm, conditions, laid).
  DERIVED. THE GIVEN ROWS OF THIS SEAT. 8 by the template 'for every input the law returns true; each argument reads behind the call as it read before'; 0 by the template 'total and deterministic' (their statements: YtpipmhfkdeaebaaTotals.lean).
  GIVEN WITH THE SEED: the statements are not yours to turn. If you find one false, say at which input.
  Laid BY PROGRAM, IN A SANDBOX (cutbox-rows.mjs): the forced cells as the released guide's own fill.sh prints them over the translation 36259bb97e15b224… (all of the seat's roots in one cut). By AI agents, Wed Nov 11 2026. No macro, syntax, notation, axiom, sorry.
-/
import Derived.Test.YtpipmhfkdeaebaaChecked
import GoSem.Claim
import GoSem.ClaimJoined
import GoSem.ClaimMapViews
import Derived.JoinedTies
import Derived.KernelRfl
namespace Go.Proofs.Ytpipmhfkdeaebaa
/- THE CELL 'sum', in the pinned program and in every row, IS THE sha256 OF THE DUMP (.gsa) THAT YtpipmhfkdeaebaaProg.lean LOADS. Nothing in Lean hashes anything: it is a label: what it is worth is what the hold of that sum in a sandbox is worth. -/
noncomputable def Try.pinned : Pinned := { name := "ytpipmhfkdeaebaa", sum := "36259bb97e15b22445d6e92f3f40049c35c5a0753d38dcdb01dce909a68e6ef1", checked := Try.checked }
namespace Rows
def none {H : Type} : Left H := { results := [], args := [] }

/-- 'swatchlaw06.BconeColours': WHATEVER THE INPUT: true; the input reads as it did. -/
def bconeColoursSpec : ChangeSpec := { name := "bconeColours", fn := fun _ => fun
  | [d1, d2, d3] => { results := [.lit (.bool true)], args := [d1, d2, d3] }
  | _ => none }
def bconeColoursRow : OpenClaim := { program := "ytpipmhfkdeaebaa", sum := "36259bb97e15b22445d6e92f3f40049c35c5a0753d38dcdb01dce909a68e6ef1", func := "swatch/swatchlaw06.BconeColours", spec := "bconeColours", unfollowed := true, recurses := true, apart := false }
def BconeColoursSaid : Prop := bconeColoursRow.holds Try.pinned (OpenSpec.ofChange bconeColoursSpec)

/-- ITS FALSE NEIGHBOUR: 'it returns false'. Refute it at one input. -/
def bconeColoursWrong : ChangeSpec := { name := "bconeColours", fn := fun _ => fun
  | [d1, d2, d3] => { results := [.lit (.bool false)], args := [d1, d2, d3] }
  | _ => none }
def BconeColoursWrongFalsely : Prop := bconeColoursRow.holds Try.pinned (OpenSpec.ofChange bconeColoursWrong)

/-- 'swatchlaw06.BconeBlocks': WHATEVER THE INPUT: true; the input reads as it did. -/
def bconeBlocksSpec : ChangeSpec := { name := "bconeBlocks", fn := fun _ => fun
  | [d1, d2, d3] => { results := [.lit (.bool true)], args := [d1, d2, d3] }
  | _ => none }
def bconeBlocksRow : OpenClaim := { program := "ytpipmhfkdeaebaa", sum := "36259bb97e15b22445d6e92f3f40049c35c5a0753d38dcdb01dce909a68e6ef1", func := "swatch/swatchlaw06.BconeBlocks", spec := "bconeBlocks", unfollowed := true, recurses := true, apart := false }
def BconeBlocksSaid : Prop := bconeBlocksRow.holds Try.pinned (OpenSpec.ofChange bconeBlocksSpec)

/-- ITS FALSE NEIGHBOUR: 'it returns false'. Refute it at one input. -/
def bconeBlocksWrong : ChangeSpec := { name := "bconeBlocks", fn := fun _ => fun
  | [d1, d2, d3] => { results := [.lit (.bool false)], args := [d1, d2, d3] }
  | _ => none }
def BconeBlocksWrongFalsely : Prop := bconeBlocksRow.holds Try.pinned (OpenSpec.ofChange bconeBlocksWrong)

/-- 'swatchlaw06.BconeBack': WHATEVER THE INPUT: true; the input reads as it did. -/
def bconeBackSpec : ChangeSpec := { name := "bconeBack", fn := fun _ => fun
  | [d] => { results := [.lit (.bool true)], args := [d] }
  | _ => none }
def bconeBackRow : OpenClaim := { program := "ytpipmhfkdeaebaa", sum := "36259bb97e15b22445d6e92f3f40049c35c5a0753d38dcdb01dce909a68e6ef1", func := "swatch/swatchlaw06.BconeBack", spec := "bconeBack", unfollowed := true, recurses := true, apart := false }
def BconeBackSaid : Prop := bconeBackRow.holds Try.pinned (OpenSpec.ofChange bconeBackSpec)

/-- ITS FALSE NEIGHBOUR: 'it returns false'. Refute it at one input. -/
def bconeBackWrong : ChangeSpec := { name := "bconeBack", fn := fun _ => fun
  | [d] => { results := [.lit (.bool false)], args := [d] }
  | _ => none }
def BconeBackWrongFalsely : Prop := bconeBackRow.holds Try.pinned (OpenSpec.ofChange bconeBackWrong)

/-- 'swatchlaw06.BconeBetween': WHATEVER THE INPUT: true; the input reads as it did. -/
def bconeBetweenSpec : ChangeSpec := { name := "bconeBetween", fn := fun _ => fun
  | [d1, d2] => { results := [.lit (.bool true)], args := [d1, d2] }
  | _ => none }
def bconeBetweenRow : OpenClaim := { program := "ytpipmhfkdeaebaa", sum := "36259bb97e15b22445d6e92f3f40049c35c5a0753d38dcdb01dce909a68e6ef1", func := "swatch/swatchlaw06.BconeBetween", spec := "bconeBetween", unfollowed := true, recurses := true, apart := false }
def BconeBetweenSaid : Prop := bconeBetweenRow.holds Try.pinned (OpenSpec.ofChange bconeBetweenSpec)

/-- ITS FALSE NEIGHBOUR: 'it returns false'. Refute it at one input. -/
def bconeBetweenWrong : ChangeSpec := { name := "bconeBetween", fn := fun _ => fun
  | [d1, d2] => { results := [.lit (.bool false)], args := [d1, d2] }
  | _ => none }
def BconeBetweenWrongFalsely : Prop := bconeBetweenRow.holds Try.pinned (OpenSpec.ofChange bconeBetweenWrong)

/-- 'swatchlaw10.EtconeTells': WHATEVER THE INPUT: true; the input reads as it did. -/
def etconeTellsSpec : ChangeSpec := { name := "etconeTells", fn := fun _ => fun
  | [d1, d2, d3] => { results := [.lit (.bool true)], args := [d1, d2, d3] }
  | _ => none }
def etconeTellsRow : OpenClaim := { program := "ytpipmhfkdeaebaa", sum := "36259bb97e15b22445d6e92f3f40049c35c5a0753d38dcdb01dce909a68e6ef1", func := "swatch/swatchlaw10.EtconeTells", spec := "etconeTells", unfollowed := true, recurses := true, apart := false }
def EtconeTellsSaid : Prop := etconeTellsRow.holds Try.pinned (OpenSpec.ofChange etconeTellsSpec)

/-- ITS FALSE NEIGHBOUR: 'it returns false'. Refute it at one input. -/
def etconeTellsWrong : ChangeSpec := { name := "etconeTells", fn := fun _ => fun
  | [d1, d2, d3] => { results := [.lit (.bool false)], args := [d1, d2, d3] }
  | _ => none }
def EtconeTellsWrongFalsely : Prop := etconeTellsRow.holds Try.pinned (OpenSpec.ofChange etconeTellsWrong)

/-- 'swatchlaw10.EtconeJoins': WHATEVER THE INPUT: true; the input reads as it did. -/
def etconeJoinsSpec : ChangeSpec := { name := "etconeJoins", fn := fun _ => fun
  | [d] => { results := [.lit (.bool true)], args := [d] }
  | _ => none }
def etconeJoinsRow : OpenClaim := { program := "ytpipmhfkdeaebaa", sum := "36259bb97e15b22445d6e92f3f40049c35c5a0753d38dcdb01dce909a68e6ef1", func := "swatch/swatchlaw10.EtconeJoins", spec := "etconeJoins", unfollowed := true, recurses := true, apart := false }
def EtconeJoinsSaid : Prop := etconeJoinsRow.holds Try.pinned (OpenSpec.ofChange etconeJoinsSpec)

/-- ITS FALSE NEIGHBOUR: 'it returns false'. Refute it at one input. -/
def etconeJoinsWrong : ChangeSpec := { name := "etconeJoins", fn := fun _ => fun
  | [d] => { results := [.lit (.bool false)], args := [d] }
  | _ => none }
def EtconeJoinsWrongFalsely : Prop := etconeJoinsRow.holds Try.pinned (OpenSpec.ofChange etconeJoinsWrong)

/-- 'swatchlaw10.EtconeBack': WHATEVER THE INPUT: true; the input reads as it did. -/
def etconeBackSpec : ChangeSpec := { name := "etconeBack", fn := fun _ => fun
  | [d1, d2] => { results := [.lit (.bool true)], args := [d1, d2] }
  | _ => none }
def etconeBackRow : OpenClaim := { program := "ytpipmhfkdeaebaa", sum := "36259bb97e15b22445d6e92f3f40049c35c5a0753d38dcdb01dce909a68e6ef1", func := "swatch/swatchlaw10.EtconeBack", spec := "etconeBack", unfollowed := true, recurses := true, apart := false }
def EtconeBackSaid : Prop := etconeBackRow.holds Try.pinned (OpenSpec.ofChange etconeBackSpec)

/-- ITS FALSE NEIGHBOUR: 'it returns false'. Refute it at one input. -/
def etconeBackWrong : ChangeSpec := { name := "etconeBack", fn := fun _ => fun
  | [d1, d2] => { results := [.lit (.bool false)], args := [d1, d2] }
  | _ => none }
def EtconeBackWrongFalsely : Prop := etconeBackRow.holds Try.pinned (OpenSpec.ofChange etconeBackWrong)

/-- 'swatchlaw10.EtconeTurns': WHATEVER THE INPUT: true; the input reads as it did. -/
def etconeTurnsSpec : ChangeSpec := { name := "etconeTurns", fn := fun _ => fun
  | [d] => { results := [.lit (.bool true)], args := [d] }
  | _ => none }
def etconeTurnsRow : OpenClaim := { program := "ytpipmhfkdeaebaa", sum := "36259bb97e15b22445d6e92f3f40049c35c5a0753d38dcdb01dce909a68e6ef1", func := "swatch/swatchlaw10.EtconeTurns", spec := "etconeTurns", unfollowed := true, recurses := true, apart := false }
def EtconeTurnsSaid : Prop := etconeTurnsRow.holds Try.pinned (OpenSpec.ofChange etconeTurnsSpec)

/-- ITS FALSE NEIGHBOUR: 'it returns false'. Refute it at one input. -/
def etconeTurnsWrong : ChangeSpec := { name := "etconeTurns", fn := fun _ => fun
  | [d] => { results := [.lit (.bool false)], args := [d] }
  | _ => none }
def EtconeTurnsWrongFalsely : Prop := etconeTurnsRow.holds Try.pinned (OpenSpec.ofChange etconeTurnsWrong)

/- THE SECOND FORM. 'bulk': how many values and letters a reading holds, each counted each time it is reached (what is shared counts as often as it is met; a slice's spare places count too). A statement '..UptoSaid' is the law's where the arguments, and the package variables that the reading takes, are together of bulk at most 1048576: NARROWER than '..Said'. Prove '..Said' where nothing that the law and all that it calls make is longer than what came in: it says more and counts as full. Else prove '..UptoSaid'. A law counts once. -/
mutual
def uptoBulk {H : Type} : DataW H → Nat
  | .lit (.string bytes) => bytes.length + 1
  | .lit _ => 1
  | .nil => 1
  | .ptr d => uptoBulk d + 1
  | .slice elems spare => uptoBulkAll elems + uptoBulkAll spare + 1
  | .agg parts => uptoBulkAll parts + 1
  | .iface _ d => uptoBulk d + 1
  | .map entries => uptoBulkEntries entries + 1
  | .held _ => 1
def uptoBulkAll {H : Type} : List (DataW H) → Nat
  | [] => 0
  | d :: r => uptoBulk d + uptoBulkAll r
def uptoBulkEntries {H : Type} : List (Lit × DataW H) → Nat
  | [] => 0
  | x :: r => uptoBulkEntry x + uptoBulkEntries r
def uptoBulkEntry {H : Type} : Lit × DataW H → Nat
  | (.string bytes, d) => bytes.length + uptoBulk d + 1
  | (_, d) => uptoBulk d + 1
 end
def uptoSmall : (H : Type) → List (DataW H) → Bool := fun _ ds => decide (uptoBulkAll ds ≤ 1048576)
def OpenSpec.upto (s : _root_.Go.ChangeSpec) : _root_.Go.OpenSpec := { _root_.Go.OpenSpec.ofChange s with cond := some uptoSmall }

/-- 'swatchlaw06.BconeColours', WHERE WHAT IT READS IS OF BULK AT MOST 1048576: true; the input reads as it did. -/
def bconeColoursUptoRow : OpenClaim := { program := "ytpipmhfkdeaebaa", sum := "36259bb97e15b22445d6e92f3f40049c35c5a0753d38dcdb01dce909a68e6ef1", func := "swatch/swatchlaw06.BconeColours", spec := "bconeColours", unfollowed := true, recurses := true, apart := false, narrowed := true }
def BconeColoursUptoSaid : Prop := bconeColoursUptoRow.holds Try.pinned (OpenSpec.upto bconeColoursSpec)

/-- 'swatchlaw06.BconeBlocks', WHERE WHAT IT READS IS OF BULK AT MOST 1048576: true; the input reads as it did. -/
def bconeBlocksUptoRow : OpenClaim := { program := "ytpipmhfkdeaebaa", sum := "36259bb97e15b22445d6e92f3f40049c35c5a0753d38dcdb01dce909a68e6ef1", func := "swatch/swatchlaw06.BconeBlocks", spec := "bconeBlocks", unfollowed := true, recurses := true, apart := false, narrowed := true }
def BconeBlocksUptoSaid : Prop := bconeBlocksUptoRow.holds Try.pinned (OpenSpec.upto bconeBlocksSpec)

/-- 'swatchlaw06.BconeBack', WHERE WHAT IT READS IS OF BULK AT MOST 1048576: true; the input reads as it did. -/
def bconeBackUptoRow : OpenClaim := { program := "ytpipmhfkdeaebaa", sum := "36259bb97e15b22445d6e92f3f40049c35c5a0753d38dcdb01dce909a68e6ef1", func := "swatch/swatchlaw06.BconeBack", spec := "bconeBack", unfollowed := true, recurses := true, apart := false, narrowed := true }
def BconeBackUptoSaid : Prop := bconeBackUptoRow.holds Try.pinned (OpenSpec.upto bconeBackSpec)

/-- 'swatchlaw06.BconeBetween', WHERE WHAT IT READS IS OF BULK AT MOST 1048576: true; the input reads as it did. -/
def bconeBetweenUptoRow : OpenClaim := { program := "ytpipmhfkdeaebaa", sum := "36259bb97e15b22445d6e92f3f40049c35c5a0753d38dcdb01dce909a68e6ef1", func := "swatch/swatchlaw06.BconeBetween", spec := "bconeBetween", unfollowed := true, recurses := true, apart := false, narrowed := true }
def BconeBetweenUptoSaid : Prop := bconeBetweenUptoRow.holds Try.pinned (OpenSpec.upto bconeBetweenSpec)

/-- 'swatchlaw10.EtconeTells', WHERE WHAT IT READS IS OF BULK AT MOST 1048576: true; the input reads as it did. -/
def etconeTellsUptoRow : OpenClaim := { program := "ytpipmhfkdeaebaa", sum := "36259bb97e15b22445d6e92f3f40049c35c5a0753d38dcdb01dce909a68e6ef1", func := "swatch/swatchlaw10.EtconeTells", spec := "etconeTells", unfollowed := true, recurses := true, apart := false, narrowed := true }
def EtconeTellsUptoSaid : Prop := etconeTellsUptoRow.holds Try.pinned (OpenSpec.upto etconeTellsSpec)

/-- 'swatchlaw10.EtconeJoins', WHERE WHAT IT READS IS OF BULK AT MOST 1048576: true; the input reads as it did. -/
def etconeJoinsUptoRow : OpenClaim := { program := "ytpipmhfkdeaebaa", sum := "36259bb97e15b22445d6e92f3f40049c35c5a0753d38dcdb01dce909a68e6ef1", func := "swatch/swatchlaw10.EtconeJoins", spec := "etconeJoins", unfollowed := true, recurses := true, apart := false, narrowed := true }
def EtconeJoinsUptoSaid : Prop := etconeJoinsUptoRow.holds Try.pinned (OpenSpec.upto etconeJoinsSpec)

/-- 'swatchlaw10.EtconeBack', WHERE WHAT IT READS IS OF BULK AT MOST 1048576: true; the input reads as it did. -/
def etconeBackUptoRow : OpenClaim := { program := "ytpipmhfkdeaebaa", sum := "36259bb97e15b22445d6e92f3f40049c35c5a0753d38dcdb01dce909a68e6ef1", func := "swatch/swatchlaw10.EtconeBack", spec := "etconeBack", unfollowed := true, recurses := true, apart := false, narrowed := true }
def EtconeBackUptoSaid : Prop := etconeBackUptoRow.holds Try.pinned (OpenSpec.upto etconeBackSpec)

/-- 'swatchlaw10.EtconeTurns', WHERE WHAT IT READS IS OF BULK AT MOST 1048576: true; the input reads as it did. -/
def etconeTurnsUptoRow : OpenClaim := { program := "ytpipmhfkdeaebaa", sum := "36259bb97e15b22445d6e92f3f40049c35c5a0753d38dcdb01dce909a68e6ef1", func := "swatch/swatchlaw10.EtconeTurns", spec := "etconeTurns", unfollowed := true, recurses := true, apart := false, narrowed := true }
def EtconeTurnsUptoSaid : Prop := etconeTurnsUptoRow.holds Try.pinned (OpenSpec.upto etconeTurnsSpec)

end Rows
end Go.Proofs.Ytpipmhfkdeaebaa
