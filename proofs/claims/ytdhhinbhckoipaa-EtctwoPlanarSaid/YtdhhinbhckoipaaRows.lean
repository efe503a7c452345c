/-
  No cell of these rows narrows 'for every input' (looked for: loops, veiled, ifaces, maps, wideKeys, modest, calm, conditions, laid).
  DERIVED. THE GIVEN ROWS OF THIS SEAT. 9 by the template 'for every input the law returns true; each argument reads behind the call as it read before'; 0 by the template 'total and deterministic' (their statements: YtdhhinbhckoipaaTotals.lean).
  GIVEN WITH THE SEED: the statements are not yours to turn. If you find one false, say at which input.
  Laid BY PROGRAM, IN A SANDBOX (cutbox-rows.mjs): the forced cells as the released guide's own fill.sh prints them over the translation 5fc56a4bcfdf0a2f… (all of the seat's roots in one cut). By AI agents, Wed Nov 11 2026. No macro, syntax, notation, axiom, sorry.
-/
import Derived.Test.YtdhhinbhckoipaaChecked
import GoSem.Claim
import GoSem.ClaimJoined
import GoSem.ClaimMapViews
import Derived.JoinedTies
import Derived.KernelRfl
namespace Go.Proofs.Ytdhhinbhckoipaa
/- THE CELL 'sum', in the pinned program and in every row, IS THE sha256 OF THE DUMP (.gsa) THAT YtdhhinbhckoipaaProg.lean LOADS. Nothing in Lean hashes anything: it is a label: what it is worth is what the hold of that sum in a sandbox is worth. -/
noncomputable def Try.pinned : Pinned := { name := "ytdhhinbhckoipaa", sum := "5fc56a4bcfdf0a2fa8cc9ad006bb9bf5b2f3c6e9216e0b247a27bd7041847a2c", checked := Try.checked }
namespace Rows
def none {H : Type} : Left H := { results := [], args := [] }

/-- 'swatchlaw09.BcsevenDecodes': WHATEVER THE INPUT: true; the input reads as it did. -/
def bcsevenDecodesSpec : ChangeSpec := { name := "bcsevenDecodes", fn := fun _ => fun
  | [d] => { results := [.lit (.bool true)], args := [d] }
  | _ => none }
def bcsevenDecodesRow : OpenClaim := { program := "ytdhhinbhckoipaa", sum := "5fc56a4bcfdf0a2fa8cc9ad006bb9bf5b2f3c6e9216e0b247a27bd7041847a2c", func := "swatch/swatchlaw09.BcsevenDecodes", spec := "bcsevenDecodes", unfollowed := true, recurses := true, apart := false }
def BcsevenDecodesSaid : Prop := bcsevenDecodesRow.holds Try.pinned (OpenSpec.ofChange bcsevenDecodesSpec)

/-- ITS FALSE NEIGHBOUR: 'it returns false'. Refute it at one input. -/
def bcsevenDecodesWrong : ChangeSpec := { name := "bcsevenDecodes", fn := fun _ => fun
  | [d] => { results := [.lit (.bool false)], args := [d] }
  | _ => none }
def BcsevenDecodesWrongFalsely : Prop := bcsevenDecodesRow.holds Try.pinned (OpenSpec.ofChange bcsevenDecodesWrong)

/-- 'swatchlaw09.BcsevenTurns': WHATEVER THE INPUT: true; the input reads as it did. -/
def bcsevenTurnsSpec : ChangeSpec := { name := "bcsevenTurns", fn := fun _ => fun
  | [d1, d2] => { results := [.lit (.bool true)], args := [d1, d2] }
  | _ => none }
def bcsevenTurnsRow : OpenClaim := { program := "ytdhhinbhckoipaa", sum := "5fc56a4bcfdf0a2fa8cc9ad006bb9bf5b2f3c6e9216e0b247a27bd7041847a2c", func := "swatch/swatchlaw09.BcsevenTurns", spec := "bcsevenTurns", unfollowed := true, recurses := true, apart := false }
def BcsevenTurnsSaid : Prop := bcsevenTurnsRow.holds Try.pinned (OpenSpec.ofChange bcsevenTurnsSpec)

/-- ITS FALSE NEIGHBOUR: 'it returns false'. Refute it at one input. -/
def bcsevenTurnsWrong : ChangeSpec := { name := "bcsevenTurns", fn := fun _ => fun
  | [d1, d2] => { results := [.lit (.bool false)], args := [d1, d2] }
  | _ => none }
def BcsevenTurnsWrongFalsely : Prop := bcsevenTurnsRow.holds Try.pinned (OpenSpec.ofChange bcsevenTurnsWrong)

/-- 'swatchlaw09.BcsevenWithin': WHATEVER THE INPUT: true; the input reads as it did. -/
def bcsevenWithinSpec : ChangeSpec := { name := "bcsevenWithin", fn := fun _ => fun
  | [d] => { results := [.lit (.bool true)], args := [d] }
  | _ => none }
def bcsevenWithinRow : OpenClaim := { program := "ytdhhinbhckoipaa", sum := "5fc56a4bcfdf0a2fa8cc9ad006bb9bf5b2f3c6e9216e0b247a27bd7041847a2c", func := "swatch/swatchlaw09.BcsevenWithin", spec := "bcsevenWithin", unfollowed := true, recurses := true, apart := false }
def BcsevenWithinSaid : Prop := bcsevenWithinRow.holds Try.pinned (OpenSpec.ofChange bcsevenWithinSpec)

/-- ITS FALSE NEIGHBOUR: 'it returns false'. Refute it at one input. -/
def bcsevenWithinWrong : ChangeSpec := { name := "bcsevenWithin", fn := fun _ => fun
  | [d] => { results := [.lit (.bool false)], args := [d] }
  | _ => none }
def BcsevenWithinWrongFalsely : Prop := bcsevenWithinRow.holds Try.pinned (OpenSpec.ofChange bcsevenWithinWrong)

/-- 'swatchlaw11.EtctwoDecodes': WHATEVER THE INPUT: true; the input reads as it did. -/
def etctwoDecodesSpec : ChangeSpec := { name := "etctwoDecodes", fn := fun _ => fun
  | [d1, d2, d3] => { results := [.lit (.bool true)], args := [d1, d2, d3] }
  | _ => none }
def etctwoDecodesRow : OpenClaim := { program := "ytdhhinbhckoipaa", sum := "5fc56a4bcfdf0a2fa8cc9ad006bb9bf5b2f3c6e9216e0b247a27bd7041847a2c", func := "swatch/swatchlaw11.EtctwoDecodes", spec := "etctwoDecodes", unfollowed := true, recurses := true, apart := false }
def EtctwoDecodesSaid : Prop := etctwoDecodesRow.holds Try.pinned (OpenSpec.ofChange etctwoDecodesSpec)

/-- ITS FALSE NEIGHBOUR: 'it returns false'. Refute it at one input. -/
def etctwoDecodesWrong : ChangeSpec := { name := "etctwoDecodes", fn := fun _ => fun
  | [d1, d2, d3] => { results := [.lit (.bool false)], args := [d1, d2, d3] }
  | _ => none }
def EtctwoDecodesWrongFalsely : Prop := etctwoDecodesRow.holds Try.pinned (OpenSpec.ofChange etctwoDecodesWrong)

/-- 'swatchlaw11.EtctwoLays': WHATEVER THE INPUT: true; the input reads as it did. -/
def etctwoLaysSpec : ChangeSpec := { name := "etctwoLays", fn := fun _ => fun
  | [d1, d2] => { results := [.lit (.bool true)], args := [d1, d2] }
  | _ => none }
def etctwoLaysRow : OpenClaim := { program := "ytdhhinbhckoipaa", sum := "5fc56a4bcfdf0a2fa8cc9ad006bb9bf5b2f3c6e9216e0b247a27bd7041847a2c", func := "swatch/swatchlaw11.EtctwoLays", spec := "etctwoLays", unfollowed := true, recurses := true, apart := false }
def EtctwoLaysSaid : Prop := etctwoLaysRow.holds Try.pinned (OpenSpec.ofChange etctwoLaysSpec)

/-- ITS FALSE NEIGHBOUR: 'it returns false'. Refute it at one input. -/
def etctwoLaysWrong : ChangeSpec := { name := "etctwoLays", fn := fun _ => fun
  | [d1, d2] => { results := [.lit (.bool false)], args := [d1, d2] }
  | _ => none }
def EtctwoLaysWrongFalsely : Prop := etctwoLaysRow.holds Try.pinned (OpenSpec.ofChange etctwoLaysWrong)

/-- 'swatchlaw11.EtctwoPlanar': WHATEVER THE INPUT: true; the input reads as it did. -/
def etctwoPlanarSpec : ChangeSpec := { name := "etctwoPlanar", fn := fun _ => fun
  | [d] => { results := [.lit (.bool true)], args := [d] }
  | _ => none }
def etctwoPlanarRow : OpenClaim := { program := "ytdhhinbhckoipaa", sum := "5fc56a4bcfdf0a2fa8cc9ad006bb9bf5b2f3c6e9216e0b247a27bd7041847a2c", func := "swatch/swatchlaw11.EtctwoPlanar", spec := "etctwoPlanar", unfollowed := true, recurses := true, apart := false }
def EtctwoPlanarSaid : Prop := etctwoPlanarRow.holds Try.pinned (OpenSpec.ofChange etctwoPlanarSpec)

/-- ITS FALSE NEIGHBOUR: 'it returns false'. Refute it at one input. -/
def etctwoPlanarWrong : ChangeSpec := { name := "etctwoPlanar", fn := fun _ => fun
  | [d] => { results := [.lit (.bool false)], args := [d] }
  | _ => none }
def EtctwoPlanarWrongFalsely : Prop := etctwoPlanarRow.holds Try.pinned (OpenSpec.ofChange etctwoPlanarWrong)

/-- 'swatchlaw11.EtctwoOlder': WHATEVER THE INPUT: true; the input reads as it did. -/
def etctwoOlderSpec : ChangeSpec := { name := "etctwoOlder", fn := fun _ => fun
  | [d] => { results := [.lit (.bool true)], args := [d] }
  | _ => none }
def etctwoOlderRow : OpenClaim := { program := "ytdhhinbhckoipaa", sum := "5fc56a4bcfdf0a2fa8cc9ad006bb9bf5b2f3c6e9216e0b247a27bd7041847a2c", func := "swatch/swatchlaw11.EtctwoOlder", spec := "etctwoOlder", unfollowed := true, recurses := true, apart := false }
def EtctwoOlderSaid : Prop := etctwoOlderRow.holds Try.pinned (OpenSpec.ofChange etctwoOlderSpec)

/-- ITS FALSE NEIGHBOUR: 'it returns false'. Refute it at one input. -/
def etctwoOlderWrong : ChangeSpec := { name := "etctwoOlder", fn := fun _ => fun
  | [d] => { results := [.lit (.bool false)], args := [d] }
  | _ => none }
def EtctwoOlderWrongFalsely : Prop := etctwoOlderRow.holds Try.pinned (OpenSpec.ofChange etctwoOlderWrong)

/-- 'swatchlaw09.BcsevenSix': WHATEVER THE INPUT: true; the input reads as it did. -/
def bcsevenSixSpec : ChangeSpec := { name := "bcsevenSix", fn := fun _ => fun
  | [d1, d2, d3] => { results := [.lit (.bool true)], args := [d1, d2, d3] }
  | _ => none }
def bcsevenSixRow : OpenClaim := { program := "ytdhhinbhckoipaa", sum := "5fc56a4bcfdf0a2fa8cc9ad006bb9bf5b2f3c6e9216e0b247a27bd7041847a2c", func := "swatch/swatchlaw09.BcsevenSix", spec := "bcsevenSix", unfollowed := true, recurses := true, apart := false }
def BcsevenSixSaid : Prop := bcsevenSixRow.holds Try.pinned (OpenSpec.ofChange bcsevenSixSpec)

/-- ITS FALSE NEIGHBOUR: 'it returns false'. Refute it at one input. -/
def bcsevenSixWrong : ChangeSpec := { name := "bcsevenSix", fn := fun _ => fun
  | [d1, d2, d3] => { results := [.lit (.bool false)], args := [d1, d2, d3] }
  | _ => none }
def BcsevenSixWrongFalsely : Prop := bcsevenSixRow.holds Try.pinned (OpenSpec.ofChange bcsevenSixWrong)

/-- 'swatchlaw09.BcsevenRamp': WHATEVER THE INPUT: true; the input reads as it did. -/
def bcsevenRampSpec : ChangeSpec := { name := "bcsevenRamp", fn := fun _ => fun
  | [d1, d2, d3] => { results := [.lit (.bool true)], args := [d1, d2, d3] }
  | _ => none }
def bcsevenRampRow : OpenClaim := { program := "ytdhhinbhckoipaa", sum := "5fc56a4bcfdf0a2fa8cc9ad006bb9bf5b2f3c6e9216e0b247a27bd7041847a2c", func := "swatch/swatchlaw09.BcsevenRamp", spec := "bcsevenRamp", unfollowed := true, recurses := true, apart := false }
def BcsevenRampSaid : Prop := bcsevenRampRow.holds Try.pinned (OpenSpec.ofChange bcsevenRampSpec)

/-- ITS FALSE NEIGHBOUR: 'it returns false'. Refute it at one input. -/
def bcsevenRampWrong : ChangeSpec := { name := "bcsevenRamp", fn := fun _ => fun
  | [d1, d2, d3] => { results := [.lit (.bool false)], args := [d1, d2, d3] }
  | _ => none }
def BcsevenRampWrongFalsely : Prop := bcsevenRampRow.holds Try.pinned (OpenSpec.ofChange bcsevenRampWrong)

/- THE SECOND FORM. 'bulk': how many values and letters a reading holds, each counted each time it is reached (what is shared counts as often as it is met; a slice's spare places count too). A statement '..UptoSaid' is the law's where the arguments, and the package variables that the reading takes, are together of bulk at most 1048576: NARROWER than '..Said'. Prove '..Said' where nothing that the law and all that it calls make is longer than what came in: it says more and counts as full. Else prove '..UptoSaid'. A law counts once. -/
mutual
def uptoBulk {H : Type} : DataW H → Nat
  | .lit (.string bytes) => bytes.length + 1
  | .lit _ => 1
  | .nil => 1
  | .ptr d => uptoBulk d + 1
  | .slice elems spare => uptoBulkAll elems + uptoBulkAll spare + 1
  | .agg parts => uptoBulkAll parts + 1
  | .iface _ d => uptoBulk d + 1
  | .map entries => uptoBulkEntries entries + 1
  | .held _ => 1
def uptoBulkAll {H : Type} : List (DataW H) → Nat
  | [] => 0
  | d :: r => uptoBulk d + uptoBulkAll r
def uptoBulkEntries {H : Type} : List (Lit × DataW H) → Nat
  | [] => 0
  | x :: r => uptoBulkEntry x + uptoBulkEntries r
def uptoBulkEntry {H : Type} : Lit × DataW H → Nat
  | (.string bytes, d) => bytes.length + uptoBulk d + 1
  | (_, d) => uptoBulk d + 1
 end
def uptoSmall : (H : Type) → List (DataW H) → Bool := fun _ ds => decide (uptoBulkAll ds ≤ 1048576)
def OpenSpec.upto (s : _root_.Go.ChangeSpec) : _root_.Go.OpenSpec := { _root_.Go.OpenSpec.ofChange s with cond := some uptoSmall }

/-- 'swatchlaw09.BcsevenDecodes', WHERE WHAT IT READS IS OF BULK AT MOST 1048576: true; the input reads as it did. -/
def bcsevenDecodesUptoRow : OpenClaim := { program := "ytdhhinbhckoipaa", sum := "5fc56a4bcfdf0a2fa8cc9ad006bb9bf5b2f3c6e9216e0b247a27bd7041847a2c", func := "swatch/swatchlaw09.BcsevenDecodes", spec := "bcsevenDecodes", unfollowed := true, recurses := true, apart := false, narrowed := true }
def BcsevenDecodesUptoSaid : Prop := bcsevenDecodesUptoRow.holds Try.pinned (OpenSpec.upto bcsevenDecodesSpec)

/-- 'swatchlaw09.BcsevenTurns', WHERE WHAT IT READS IS OF BULK AT MOST 1048576: true; the input reads as it did. -/
def bcsevenTurnsUptoRow : OpenClaim := { program := "ytdhhinbhckoipaa", sum := "5fc56a4bcfdf0a2fa8cc9ad006bb9bf5b2f3c6e9216e0b247a27bd7041847a2c", func := "swatch/swatchlaw09.BcsevenTurns", spec := "bcsevenTurns", unfollowed := true, recurses := true, apart := false, narrowed := true }
def BcsevenTurnsUptoSaid : Prop := bcsevenTurnsUptoRow.holds Try.pinned (OpenSpec.upto bcsevenTurnsSpec)

/-- 'swatchlaw09.BcsevenWithin', WHERE WHAT IT READS IS OF BULK AT MOST 1048576: true; the input reads as it did. -/
def bcsevenWithinUptoRow : OpenClaim := { program := "ytdhhinbhckoipaa", sum := "5fc56a4bcfdf0a2fa8cc9ad006bb9bf5b2f3c6e9216e0b247a27bd7041847a2c", func := "swatch/swatchlaw09.BcsevenWithin", spec := "bcsevenWithin", unfollowed := true, recurses := true, apart := false, narrowed := true }
def BcsevenWithinUptoSaid : Prop := bcsevenWithinUptoRow.holds Try.pinned (OpenSpec.upto bcsevenWithinSpec)

/-- 'swatchlaw11.EtctwoDecodes', WHERE WHAT IT READS IS OF BULK AT MOST 1048576: true; the input reads as it did. -/
def etctwoDecodesUptoRow : OpenClaim := { program := "ytdhhinbhckoipaa", sum := "5fc56a4bcfdf0a2fa8cc9ad006bb9bf5b2f3c6e9216e0b247a27bd7041847a2c", func := "swatch/swatchlaw11.EtctwoDecodes", spec := "etctwoDecodes", unfollowed := true, recurses := true, apart := false, narrowed := true }
def EtctwoDecodesUptoSaid : Prop := etctwoDecodesUptoRow.holds Try.pinned (OpenSpec.upto etctwoDecodesSpec)

/-- 'swatchlaw11.EtctwoLays', WHERE WHAT IT READS IS OF BULK AT MOST 1048576: true; the input reads as it did. -/
def etctwoLaysUptoRow : OpenClaim := { program := "ytdhhinbhckoipaa", sum := "5fc56a4bcfdf0a2fa8cc9ad006bb9bf5b2f3c6e9216e0b247a27bd7041847a2c", func := "swatch/swatchlaw11.EtctwoLays", spec := "etctwoLays", unfollowed := true, recurses := true, apart := false, narrowed := true }
def EtctwoLaysUptoSaid : Prop := etctwoLaysUptoRow.holds Try.pinned (OpenSpec.upto etctwoLaysSpec)

/-- 'swatchlaw11.EtctwoPlanar', WHERE WHAT IT READS IS OF BULK AT MOST 1048576: true; the input reads as it did. -/
def etctwoPlanarUptoRow : OpenClaim := { program := "ytdhhinbhckoipaa", sum := "5fc56a4bcfdf0a2fa8cc9ad006bb9bf5b2f3c6e9216e0b247a27bd7041847a2c", func := "swatch/swatchlaw11.EtctwoPlanar", spec := "etctwoPlanar", unfollowed := true, recurses := true, apart := false, narrowed := true }
def EtctwoPlanarUptoSaid : Prop := etctwoPlanarUptoRow.holds Try.pinned (OpenSpec.upto etctwoPlanarSpec)

/-- 'swatchlaw11.EtctwoOlder', WHERE WHAT IT READS IS OF BULK AT MOST 1048576: true; the input reads as it did. -/
def etctwoOlderUptoRow : OpenClaim := { program := "ytdhhinbhckoipaa", sum := "5fc56a4bcfdf0a2fa8cc9ad006bb9bf5b2f3c6e9216e0b247a27bd7041847a2c", func := "swatch/swatchlaw11.EtctwoOlder", spec := "etctwoOlder", unfollowed := true, recurses := true, apart := false, narrowed := true }
def EtctwoOlderUptoSaid : Prop := etctwoOlderUptoRow.holds Try.pinned (OpenSpec.upto etctwoOlderSpec)

/-- 'swatchlaw09.BcsevenSix', WHERE WHAT IT READS IS OF BULK AT MOST 1048576: true; the input reads as it did. -/
def bcsevenSixUptoRow : OpenClaim := { program := "ytdhhinbhckoipaa", sum := "5fc56a4bcfdf0a2fa8cc9ad006bb9bf5b2f3c6e9216e0b247a27bd7041847a2c", func := "swatch/swatchlaw09.BcsevenSix", spec := "bcsevenSix", unfollowed := true, recurses := true, apart := false, narrowed := true }
def BcsevenSixUptoSaid : Prop := bcsevenSixUptoRow.holds Try.pinned (OpenSpec.upto bcsevenSixSpec)

/-- 'swatchlaw09.BcsevenRamp', WHERE WHAT IT READS IS OF BULK AT MOST 1048576: true; the input reads as it did. -/
def bcsevenRampUptoRow : OpenClaim := { program := "ytdhhinbhckoipaa", sum := "5fc56a4bcfdf0a2fa8cc9ad006bb9bf5b2f3c6e9216e0b247a27bd7041847a2c", func := "swatch/swatchlaw09.BcsevenRamp", spec := "bcsevenRamp", unfollowed := true, recurses := true, apart := false, narrowed := true }
def BcsevenRampUptoSaid : Prop := bcsevenRampUptoRow.holds Try.pinned (OpenSpec.upto bcsevenRampSpec)

end Rows
end Go.Proofs.Ytdhhinbhckoipaa
