/-
  No cell of these rows narrows 'for every input' (looked for: loops, veiled, ifaces, maps, wideKeys, modest, calm, conditions, laid).
  DERIVED. THE GIVEN ROWS OF THIS SEAT. 5 by the template 'for every input the law returns true; each argument reads behind the call as it read before'; 0 by the template 'total and deterministic' (their statements: YtaogfbhifeobmaaGreatTotals.lean).
  GIVEN WITH THE SEED: the statements are not yours to turn. If you find one false, say at which input.
  Laid BY PROGRAM, IN A SANDBOX (cutbox-rows.mjs): the forced cells as the released guide's own fill.sh prints them over the translation 383e99cc87710690… (all of the seat's roots in one cut). By AI agents, Wed Nov 11 2026. No macro, syntax, notation, axiom, sorry.
-/
import Derived.Test.YtaogfbhifeobmaaGreatChecked
import GoSem.Claim
import GoSem.ClaimJoined
import GoSem.ClaimMapViews
import Derived.JoinedTies
import Derived.KernelRfl
namespace Go.Proofs.YtaogfbhifeobmaaGreat
/- THE CELL 'sum', in the pinned program and in every row, IS THE sha256 OF THE DUMP (.gsa) THAT YtaogfbhifeobmaaGreatProg.lean LOADS. Nothing in Lean hashes anything: it is a label: what it is worth is what the hold of that sum in a sandbox is worth. -/
noncomputable def Tryz.pinned : Pinned := { name := "ytaogfbhifeobmaagreat", sum := "383e99cc87710690b16d44e4f63ca432db8dcfdf751bdc3c3ab436d8839e0c27", checked := Tryz.checked }
namespace Rows
def none {H : Type} : Left H := { results := [], args := [] }

/-- 'swatchlaw13.FormatTells': WHATEVER THE INPUT: true; the input reads as it did. -/
def formatTellsSpec : ChangeSpec := { name := "formatTells", fn := fun _ => fun
  | [d1, d2] => { results := [.lit (.bool true)], args := [d1, d2] }
  | _ => none }
def formatTellsRow : OpenClaim := { program := "ytaogfbhifeobmaagreat", sum := "383e99cc87710690b16d44e4f63ca432db8dcfdf751bdc3c3ab436d8839e0c27", func := "swatch/swatchlaw13.FormatTells", spec := "formatTells", unfollowed := true, recurses := true, plainKeys := false, apart := false }
def FormatTellsSaid : Prop := formatTellsRow.holds Tryz.pinned (OpenSpec.ofChange formatTellsSpec)

/-- ITS FALSE NEIGHBOUR: 'it returns false'. Refute it at one input. -/
def formatTellsWrong : ChangeSpec := { name := "formatTells", fn := fun _ => fun
  | [d1, d2] => { results := [.lit (.bool false)], args := [d1, d2] }
  | _ => none }
def FormatTellsWrongFalsely : Prop := formatTellsRow.holds Tryz.pinned (OpenSpec.ofChange formatTellsWrong)

/-- 'swatchlaw14.FlatTells': WHATEVER THE INPUT: true; the input reads as it did. -/
def flatTellsSpec : ChangeSpec := { name := "flatTells", fn := fun _ => fun
  | [d1, d2] => { results := [.lit (.bool true)], args := [d1, d2] }
  | _ => none }
def flatTellsRow : OpenClaim := { program := "ytaogfbhifeobmaagreat", sum := "383e99cc87710690b16d44e4f63ca432db8dcfdf751bdc3c3ab436d8839e0c27", func := "swatch/swatchlaw14.FlatTells", spec := "flatTells", unfollowed := true, recurses := true, plainKeys := false, apart := false }
def FlatTellsSaid : Prop := flatTellsRow.holds Tryz.pinned (OpenSpec.ofChange flatTellsSpec)

/-- ITS FALSE NEIGHBOUR: 'it returns false'. Refute it at one input. -/
def flatTellsWrong : ChangeSpec := { name := "flatTells", fn := fun _ => fun
  | [d1, d2] => { results := [.lit (.bool false)], args := [d1, d2] }
  | _ => none }
def FlatTellsWrongFalsely : Prop := flatTellsRow.holds Tryz.pinned (OpenSpec.ofChange flatTellsWrong)

/-- 'swatchlaw14.FlatOne': WHATEVER THE INPUT: true; the input reads as it did. -/
def flatOneSpec : ChangeSpec := { name := "flatOne", fn := fun _ => fun
  | [d1, d2] => { results := [.lit (.bool true)], args := [d1, d2] }
  | _ => none }
def flatOneRow : OpenClaim := { program := "ytaogfbhifeobmaagreat", sum := "383e99cc87710690b16d44e4f63ca432db8dcfdf751bdc3c3ab436d8839e0c27", func := "swatch/swatchlaw14.FlatOne", spec := "flatOne", unfollowed := true, recurses := true, plainKeys := false, apart := false }
def FlatOneSaid : Prop := flatOneRow.holds Tryz.pinned (OpenSpec.ofChange flatOneSpec)

/-- ITS FALSE NEIGHBOUR: 'it returns false'. Refute it at one input. -/
def flatOneWrong : ChangeSpec := { name := "flatOne", fn := fun _ => fun
  | [d1, d2] => { results := [.lit (.bool false)], args := [d1, d2] }
  | _ => none }
def FlatOneWrongFalsely : Prop := flatOneRow.holds Tryz.pinned (OpenSpec.ofChange flatOneWrong)

/-- 'swatchlaw14.FlatBest': WHATEVER THE INPUT: true; the input reads as it did. -/
def flatBestSpec : ChangeSpec := { name := "flatBest", fn := fun _ => fun
  | [d1, d2, d3] => { results := [.lit (.bool true)], args := [d1, d2, d3] }
  | _ => none }
def flatBestRow : OpenClaim := { program := "ytaogfbhifeobmaagreat", sum := "383e99cc87710690b16d44e4f63ca432db8dcfdf751bdc3c3ab436d8839e0c27", func := "swatch/swatchlaw14.FlatBest", spec := "flatBest", unfollowed := true, recurses := true, plainKeys := false, apart := false }
def FlatBestSaid : Prop := flatBestRow.holds Tryz.pinned (OpenSpec.ofChange flatBestSpec)

/-- ITS FALSE NEIGHBOUR: 'it returns false'. Refute it at one input. -/
def flatBestWrong : ChangeSpec := { name := "flatBest", fn := fun _ => fun
  | [d1, d2, d3] => { results := [.lit (.bool false)], args := [d1, d2, d3] }
  | _ => none }
def FlatBestWrongFalsely : Prop := flatBestRow.holds Tryz.pinned (OpenSpec.ofChange flatBestWrong)

/-- 'swatchlaw14.FlatAgain': WHATEVER THE INPUT: true; the input reads as it did. -/
def flatAgainSpec : ChangeSpec := { name := "flatAgain", fn := fun _ => fun
  | [d1, d2] => { results := [.lit (.bool true)], args := [d1, d2] }
  | _ => none }
def flatAgainRow : OpenClaim := { program := "ytaogfbhifeobmaagreat", sum := "383e99cc87710690b16d44e4f63ca432db8dcfdf751bdc3c3ab436d8839e0c27", func := "swatch/swatchlaw14.FlatAgain", spec := "flatAgain", unfollowed := true, recurses := true, plainKeys := false, apart := false }
def FlatAgainSaid : Prop := flatAgainRow.holds Tryz.pinned (OpenSpec.ofChange flatAgainSpec)

/-- ITS FALSE NEIGHBOUR: 'it returns false'. Refute it at one input. -/
def flatAgainWrong : ChangeSpec := { name := "flatAgain", fn := fun _ => fun
  | [d1, d2] => { results := [.lit (.bool false)], args := [d1, d2] }
  | _ => none }
def FlatAgainWrongFalsely : Prop := flatAgainRow.holds Tryz.pinned (OpenSpec.ofChange flatAgainWrong)

/- THE SECOND FORM. 'bulk': how many values and letters a reading holds, each counted each time it is reached (what is shared counts as often as it is met; a slice's spare places count too). A statement '..UptoSaid' is the law's where the arguments, and the package variables that the reading takes, are together of bulk at most 1048576: NARROWER than '..Said'. Prove '..Said' where nothing that the law and all that it calls make is longer than what came in: it says more and counts as full. Else prove '..UptoSaid'. A law counts once. -/
mutual
def uptoBulk {H : Type} : DataW H → Nat
  | .lit (.string bytes) => bytes.length + 1
  | .lit _ => 1
  | .nil => 1
  | .ptr d => uptoBulk d + 1
  | .slice elems spare => uptoBulkAll elems + uptoBulkAll spare + 1
  | .agg parts => uptoBulkAll parts + 1
  | .iface _ d => uptoBulk d + 1
  | .map entries => uptoBulkEntries entries + 1
  | .held _ => 1
def uptoBulkAll {H : Type} : List (DataW H) → Nat
  | [] => 0
  | d :: r => uptoBulk d + uptoBulkAll r
def uptoBulkEntries {H : Type} : List (Lit × DataW H) → Nat
  | [] => 0
  | x :: r => uptoBulkEntry x + uptoBulkEntries r
def uptoBulkEntry {H : Type} : Lit × DataW H → Nat
  | (.string bytes, d) => bytes.length + uptoBulk d + 1
  | (_, d) => uptoBulk d + 1
 end
def uptoSmall : (H : Type) → List (DataW H) → Bool := fun _ ds => decide (uptoBulkAll ds ≤ 1048576)
def OpenSpec.upto (s : _root_.Go.ChangeSpec) : _root_.Go.OpenSpec := { _root_.Go.OpenSpec.ofChange s with cond := some uptoSmall }

/-- 'swatchlaw13.FormatTells', WHERE WHAT IT READS IS OF BULK AT MOST 1048576: true; the input reads as it did. -/
def formatTellsUptoRow : OpenClaim := { program := "ytaogfbhifeobmaagreat", sum := "383e99cc87710690b16d44e4f63ca432db8dcfdf751bdc3c3ab436d8839e0c27", func := "swatch/swatchlaw13.FormatTells", spec := "formatTells", unfollowed := true, recurses := true, plainKeys := false, apart := false, narrowed := true }
def FormatTellsUptoSaid : Prop := formatTellsUptoRow.holds Tryz.pinned (OpenSpec.upto formatTellsSpec)

/-- 'swatchlaw14.FlatTells', WHERE WHAT IT READS IS OF BULK AT MOST 1048576: true; the input reads as it did. -/
def flatTellsUptoRow : OpenClaim := { program := "ytaogfbhifeobmaagreat", sum := "383e99cc87710690b16d44e4f63ca432db8dcfdf751bdc3c3ab436d8839e0c27", func := "swatch/swatchlaw14.FlatTells", spec := "flatTells", unfollowed := true, recurses := true, plainKeys := false, apart := false, narrowed := true }
def FlatTellsUptoSaid : Prop := flatTellsUptoRow.holds Tryz.pinned (OpenSpec.upto flatTellsSpec)

/-- 'swatchlaw14.FlatOne', WHERE WHAT IT READS IS OF BULK AT MOST 1048576: true; the input reads as it did. -/
def flatOneUptoRow : OpenClaim := { program := "ytaogfbhifeobmaagreat", sum := "383e99cc87710690b16d44e4f63ca432db8dcfdf751bdc3c3ab436d8839e0c27", func := "swatch/swatchlaw14.FlatOne", spec := "flatOne", unfollowed := true, recurses := true, plainKeys := false, apart := false, narrowed := true }
def FlatOneUptoSaid : Prop := flatOneUptoRow.holds Tryz.pinned (OpenSpec.upto flatOneSpec)

/-- 'swatchlaw14.FlatBest', WHERE WHAT IT READS IS OF BULK AT MOST 1048576: true; the input reads as it did. -/
def flatBestUptoRow : OpenClaim := { program := "ytaogfbhifeobmaagreat", sum := "383e99cc87710690b16d44e4f63ca432db8dcfdf751bdc3c3ab436d8839e0c27", func := "swatch/swatchlaw14.FlatBest", spec := "flatBest", unfollowed := true, recurses := true, plainKeys := false, apart := false, narrowed := true }
def FlatBestUptoSaid : Prop := flatBestUptoRow.holds Tryz.pinned (OpenSpec.upto flatBestSpec)

/-- 'swatchlaw14.FlatAgain', WHERE WHAT IT READS IS OF BULK AT MOST 1048576: true; the input reads as it did. -/
def flatAgainUptoRow : OpenClaim := { program := "ytaogfbhifeobmaagreat", sum := "383e99cc87710690b16d44e4f63ca432db8dcfdf751bdc3c3ab436d8839e0c27", func := "swatch/swatchlaw14.FlatAgain", spec := "flatAgain", unfollowed := true, recurses := true, plainKeys := false, apart := false, narrowed := true }
def FlatAgainUptoSaid : Prop := flatAgainUptoRow.holds Tryz.pinned (OpenSpec.upto flatAgainSpec)

end Rows
end Go.Proofs.YtaogfbhifeobmaaGreat
