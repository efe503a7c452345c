/-
  No cell of these rows narrows 'for every input' (looked for: loops, veiled, ifaces, maps, wideKeys, modest, calm, conditions, laid).
  DERIVED. THE GIVEN ROWS OF THIS SEAT. 11 by the template 'for every input the law returns true; each argument reads behind the call as it read before'; 0 by the template 'total and deterministic' (their statements: YtcjfigcbloploaaTotals.lean).
  GIVEN WITH THE SEED: the statements are not yours to turn. If you find one false, say at which input.
  Laid BY PROGRAM, IN A SANDBOX (cutbox-rows.mjs): the forced cells as the released guide's own fill.sh prints them over the translation e3ec71a8ecd40640… (all of the seat's roots in one cut). By AI agents, Wed Nov 11 2026. No macro, syntax, notation, axiom, sorry.
-/
import Derived.Test.YtcjfigcbloploaaChecked
import GoSem.Claim
import GoSem.ClaimJoined
import GoSem.ClaimMapViews
import Derived.JoinedTies
import Derived.KernelRfl
namespace Go.Proofs.Ytcjfigcbloploaa
/- THE CELL 'sum', in the pinned program and in every row, IS THE sha256 OF THE DUMP (.gsa) THAT YtcjfigcbloploaaProg.lean LOADS. Nothing in Lean hashes anything: it is a label: what it is worth is what the hold of that sum in a sandbox is worth. -/
noncomputable def Try.pinned : Pinned := { name := "ytcjfigcbloploaa", sum := "e3ec71a8ecd406405d0a085ac9393d4db9f3a31544bf3adb1841e846fcfdd318", checked := Try.checked }
namespace Rows
def none {H : Type} : Left H := { results := [], args := [] }

/-- 'swatchlaw17.LayoutTells': WHATEVER THE INPUT: true; the input reads as it did. -/
def layoutTellsSpec : ChangeSpec := { name := "layoutTells", fn := fun _ => fun
  | [d1, d2] => { results := [.lit (.bool true)], args := [d1, d2] }
  | _ => none }
def layoutTellsRow : OpenClaim := { program := "ytcjfigcbloploaa", sum := "e3ec71a8ecd406405d0a085ac9393d4db9f3a31544bf3adb1841e846fcfdd318", func := "swatch/swatchlaw17.LayoutTells", spec := "layoutTells", inPlace := ["internal/bytealg.IndexByteString"], unfollowed := true, recurses := true, plainKeys := false, apart := false }
def LayoutTellsSaid : Prop := layoutTellsRow.holds Try.pinned (OpenSpec.ofChange layoutTellsSpec)

/-- ITS FALSE NEIGHBOUR: 'it returns false'. Refute it at one input. -/
def layoutTellsWrong : ChangeSpec := { name := "layoutTells", fn := fun _ => fun
  | [d1, d2] => { results := [.lit (.bool false)], args := [d1, d2] }
  | _ => none }
def LayoutTellsWrongFalsely : Prop := layoutTellsRow.holds Try.pinned (OpenSpec.ofChange layoutTellsWrong)

/-- 'swatchlaw17.LayoutWhole': WHATEVER THE INPUT: true; the input reads as it did. -/
def layoutWholeSpec : ChangeSpec := { name := "layoutWhole", fn := fun _ => fun
  | [d] => { results := [.lit (.bool true)], args := [d] }
  | _ => none }
def layoutWholeRow : OpenClaim := { program := "ytcjfigcbloploaa", sum := "e3ec71a8ecd406405d0a085ac9393d4db9f3a31544bf3adb1841e846fcfdd318", func := "swatch/swatchlaw17.LayoutWhole", spec := "layoutWhole", inPlace := ["internal/bytealg.IndexByteString"], unfollowed := true, recurses := true, plainKeys := false, apart := false }
def LayoutWholeSaid : Prop := layoutWholeRow.holds Try.pinned (OpenSpec.ofChange layoutWholeSpec)

/-- ITS FALSE NEIGHBOUR: 'it returns false'. Refute it at one input. -/
def layoutWholeWrong : ChangeSpec := { name := "layoutWhole", fn := fun _ => fun
  | [d] => { results := [.lit (.bool false)], args := [d] }
  | _ => none }
def LayoutWholeWrongFalsely : Prop := layoutWholeRow.holds Try.pinned (OpenSpec.ofChange layoutWholeWrong)

/-- 'swatchlaw17.LayoutLimits': WHATEVER THE INPUT: true; the input reads as it did. -/
def layoutLimitsSpec : ChangeSpec := { name := "layoutLimits", fn := fun _ => fun
  | [d1, d2, d3] => { results := [.lit (.bool true)], args := [d1, d2, d3] }
  | _ => none }
def layoutLimitsRow : OpenClaim := { program := "ytcjfigcbloploaa", sum := "e3ec71a8ecd406405d0a085ac9393d4db9f3a31544bf3adb1841e846fcfdd318", func := "swatch/swatchlaw17.LayoutLimits", spec := "layoutLimits", inPlace := ["internal/bytealg.IndexByteString"], unfollowed := true, recurses := true, plainKeys := false, apart := false }
def LayoutLimitsSaid : Prop := layoutLimitsRow.holds Try.pinned (OpenSpec.ofChange layoutLimitsSpec)

/-- ITS FALSE NEIGHBOUR: 'it returns false'. Refute it at one input. -/
def layoutLimitsWrong : ChangeSpec := { name := "layoutLimits", fn := fun _ => fun
  | [d1, d2, d3] => { results := [.lit (.bool false)], args := [d1, d2, d3] }
  | _ => none }
def LayoutLimitsWrongFalsely : Prop := layoutLimitsRow.holds Try.pinned (OpenSpec.ofChange layoutLimitsWrong)

/-- 'swatchlaw18.DdsReads': WHATEVER THE INPUT: true; the input reads as it did. -/
def ddsReadsSpec : ChangeSpec := { name := "ddsReads", fn := fun _ => fun
  | [d1, d2] => { results := [.lit (.bool true)], args := [d1, d2] }
  | _ => none }
def ddsReadsRow : OpenClaim := { program := "ytcjfigcbloploaa", sum := "e3ec71a8ecd406405d0a085ac9393d4db9f3a31544bf3adb1841e846fcfdd318", func := "swatch/swatchlaw18.DdsReads", spec := "ddsReads", inPlace := ["internal/bytealg.IndexByteString", "internal/bytealg.MakeNoZero", "internal/reflectlite.TypeOf"], unfollowed := true, recurses := true, plainKeys := false, apart := false }
def DdsReadsSaid : Prop := ddsReadsRow.holds Try.pinned (OpenSpec.ofChange ddsReadsSpec)

/-- ITS FALSE NEIGHBOUR: 'it returns false'. Refute it at one input. -/
def ddsReadsWrong : ChangeSpec := { name := "ddsReads", fn := fun _ => fun
  | [d1, d2] => { results := [.lit (.bool false)], args := [d1, d2] }
  | _ => none }
def DdsReadsWrongFalsely : Prop := ddsReadsRow.holds Try.pinned (OpenSpec.ofChange ddsReadsWrong)

/-- 'swatchlaw18.DdsWrites': WHATEVER THE INPUT: true; the input reads as it did. -/
def ddsWritesSpec : ChangeSpec := { name := "ddsWrites", fn := fun _ => fun
  | [d] => { results := [.lit (.bool true)], args := [d] }
  | _ => none }
def ddsWritesRow : OpenClaim := { program := "ytcjfigcbloploaa", sum := "e3ec71a8ecd406405d0a085ac9393d4db9f3a31544bf3adb1841e846fcfdd318", func := "swatch/swatchlaw18.DdsWrites", spec := "ddsWrites", inPlace := ["internal/bytealg.IndexByteString", "internal/bytealg.MakeNoZero", "internal/reflectlite.TypeOf"], unfollowed := true, recurses := true, plainKeys := false, apart := false }
def DdsWritesSaid : Prop := ddsWritesRow.holds Try.pinned (OpenSpec.ofChange ddsWritesSpec)

/-- ITS FALSE NEIGHBOUR: 'it returns false'. Refute it at one input. -/
def ddsWritesWrong : ChangeSpec := { name := "ddsWrites", fn := fun _ => fun
  | [d] => { results := [.lit (.bool false)], args := [d] }
  | _ => none }
def DdsWritesWrongFalsely : Prop := ddsWritesRow.holds Try.pinned (OpenSpec.ofChange ddsWritesWrong)

/-- 'swatchlaw18.DdsBack': WHATEVER THE INPUT: true; the input reads as it did. -/
def ddsBackSpec : ChangeSpec := { name := "ddsBack", fn := fun _ => fun
  | [d1, d2] => { results := [.lit (.bool true)], args := [d1, d2] }
  | _ => none }
def ddsBackRow : OpenClaim := { program := "ytcjfigcbloploaa", sum := "e3ec71a8ecd406405d0a085ac9393d4db9f3a31544bf3adb1841e846fcfdd318", func := "swatch/swatchlaw18.DdsBack", spec := "ddsBack", inPlace := ["internal/bytealg.IndexByteString", "internal/bytealg.MakeNoZero", "internal/reflectlite.TypeOf"], unfollowed := true, recurses := true, plainKeys := false, apart := false }
def DdsBackSaid : Prop := ddsBackRow.holds Try.pinned (OpenSpec.ofChange ddsBackSpec)

/-- ITS FALSE NEIGHBOUR: 'it returns false'. Refute it at one input. -/
def ddsBackWrong : ChangeSpec := { name := "ddsBack", fn := fun _ => fun
  | [d1, d2] => { results := [.lit (.bool false)], args := [d1, d2] }
  | _ => none }
def DdsBackWrongFalsely : Prop := ddsBackRow.holds Try.pinned (OpenSpec.ofChange ddsBackWrong)

/-- 'swatchlaw18.DdsAgain': WHATEVER THE INPUT: true; the input reads as it did. -/
def ddsAgainSpec : ChangeSpec := { name := "ddsAgain", fn := fun _ => fun
  | [d] => { results := [.lit (.bool true)], args := [d] }
  | _ => none }
def ddsAgainRow : OpenClaim := { program := "ytcjfigcbloploaa", sum := "e3ec71a8ecd406405d0a085ac9393d4db9f3a31544bf3adb1841e846fcfdd318", func := "swatch/swatchlaw18.DdsAgain", spec := "ddsAgain", inPlace := ["internal/bytealg.IndexByteString", "internal/bytealg.MakeNoZero", "internal/reflectlite.TypeOf"], unfollowed := true, recurses := true, plainKeys := false, apart := false }
def DdsAgainSaid : Prop := ddsAgainRow.holds Try.pinned (OpenSpec.ofChange ddsAgainSpec)

/-- ITS FALSE NEIGHBOUR: 'it returns false'. Refute it at one input. -/
def ddsAgainWrong : ChangeSpec := { name := "ddsAgain", fn := fun _ => fun
  | [d] => { results := [.lit (.bool false)], args := [d] }
  | _ => none }
def DdsAgainWrongFalsely : Prop := ddsAgainRow.holds Try.pinned (OpenSpec.ofChange ddsAgainWrong)

/-- 'swatchlaw19.KtxReads': WHATEVER THE INPUT: true; the input reads as it did. -/
def ktxReadsSpec : ChangeSpec := { name := "ktxReads", fn := fun _ => fun
  | [d1, d2] => { results := [.lit (.bool true)], args := [d1, d2] }
  | _ => none }
def ktxReadsRow : OpenClaim := { program := "ytcjfigcbloploaa", sum := "e3ec71a8ecd406405d0a085ac9393d4db9f3a31544bf3adb1841e846fcfdd318", func := "swatch/swatchlaw19.KtxReads", spec := "ktxReads", inPlace := ["internal/bytealg.IndexByteString", "internal/bytealg.IndexString"], unfollowed := true, recurses := true, named := ["internal/bytealg.MaxLen"], plainKeys := false, apart := false }
def KtxReadsSaid : Prop := ktxReadsRow.holds Try.pinned (OpenSpec.ofChange ktxReadsSpec)

/-- ITS FALSE NEIGHBOUR: 'it returns false'. Refute it at one input. -/
def ktxReadsWrong : ChangeSpec := { name := "ktxReads", fn := fun _ => fun
  | [d1, d2] => { results := [.lit (.bool false)], args := [d1, d2] }
  | _ => none }
def KtxReadsWrongFalsely : Prop := ktxReadsRow.holds Try.pinned (OpenSpec.ofChange ktxReadsWrong)

/-- 'swatchlaw19.KtxWrites': WHATEVER THE INPUT: true; the input reads as it did. -/
def ktxWritesSpec : ChangeSpec := { name := "ktxWrites", fn := fun _ => fun
  | [d] => { results := [.lit (.bool true)], args := [d] }
  | _ => none }
def ktxWritesRow : OpenClaim := { program := "ytcjfigcbloploaa", sum := "e3ec71a8ecd406405d0a085ac9393d4db9f3a31544bf3adb1841e846fcfdd318", func := "swatch/swatchlaw19.KtxWrites", spec := "ktxWrites", inPlace := ["internal/bytealg.IndexByteString", "internal/bytealg.IndexString"], unfollowed := true, recurses := true, named := ["internal/bytealg.MaxLen"], plainKeys := false, apart := false }
def KtxWritesSaid : Prop := ktxWritesRow.holds Try.pinned (OpenSpec.ofChange ktxWritesSpec)

/-- ITS FALSE NEIGHBOUR: 'it returns false'. Refute it at one input. -/
def ktxWritesWrong : ChangeSpec := { name := "ktxWrites", fn := fun _ => fun
  | [d] => { results := [.lit (.bool false)], args := [d] }
  | _ => none }
def KtxWritesWrongFalsely : Prop := ktxWritesRow.holds Try.pinned (OpenSpec.ofChange ktxWritesWrong)

/-- 'swatchlaw19.KtxBack': WHATEVER THE INPUT: true; the input reads as it did. -/
def ktxBackSpec : ChangeSpec := { name := "ktxBack", fn := fun _ => fun
  | [d1, d2] => { results := [.lit (.bool true)], args := [d1, d2] }
  | _ => none }
def ktxBackRow : OpenClaim := { program := "ytcjfigcbloploaa", sum := "e3ec71a8ecd406405d0a085ac9393d4db9f3a31544bf3adb1841e846fcfdd318", func := "swatch/swatchlaw19.KtxBack", spec := "ktxBack", inPlace := ["internal/bytealg.IndexByteString", "internal/bytealg.IndexString"], unfollowed := true, recurses := true, named := ["internal/bytealg.MaxLen"], plainKeys := false, apart := false }
def KtxBackSaid : Prop := ktxBackRow.holds Try.pinned (OpenSpec.ofChange ktxBackSpec)

/-- ITS FALSE NEIGHBOUR: 'it returns false'. Refute it at one input. -/
def ktxBackWrong : ChangeSpec := { name := "ktxBack", fn := fun _ => fun
  | [d1, d2] => { results := [.lit (.bool false)], args := [d1, d2] }
  | _ => none }
def KtxBackWrongFalsely : Prop := ktxBackRow.holds Try.pinned (OpenSpec.ofChange ktxBackWrong)

/-- 'swatchlaw19.KtxAgain': WHATEVER THE INPUT: true; the input reads as it did. -/
def ktxAgainSpec : ChangeSpec := { name := "ktxAgain", fn := fun _ => fun
  | [d] => { results := [.lit (.bool true)], args := [d] }
  | _ => none }
def ktxAgainRow : OpenClaim := { program := "ytcjfigcbloploaa", sum := "e3ec71a8ecd406405d0a085ac9393d4db9f3a31544bf3adb1841e846fcfdd318", func := "swatch/swatchlaw19.KtxAgain", spec := "ktxAgain", inPlace := ["internal/bytealg.IndexByteString", "internal/bytealg.IndexString"], unfollowed := true, recurses := true, named := ["internal/bytealg.MaxLen"], plainKeys := false, apart := false }
def KtxAgainSaid : Prop := ktxAgainRow.holds Try.pinned (OpenSpec.ofChange ktxAgainSpec)

/-- ITS FALSE NEIGHBOUR: 'it returns false'. Refute it at one input. -/
def ktxAgainWrong : ChangeSpec := { name := "ktxAgain", fn := fun _ => fun
  | [d] => { results := [.lit (.bool false)], args := [d] }
  | _ => none }
def KtxAgainWrongFalsely : Prop := ktxAgainRow.holds Try.pinned (OpenSpec.ofChange ktxAgainWrong)

/- THE SECOND FORM. 'bulk': how many values and letters a reading holds, each counted each time it is reached (what is shared counts as often as it is met; a slice's spare places count too). A statement '..UptoSaid' is the law's where the arguments, and the package variables that the reading takes, are together of bulk at most 1048576: NARROWER than '..Said'. Prove '..Said' where nothing that the law and all that it calls make is longer than what came in: it says more and counts as full. Else prove '..UptoSaid'. A law counts once. -/
mutual
def uptoBulk {H : Type} : DataW H → Nat
  | .lit (.string bytes) => bytes.length + 1
  | .lit _ => 1
  | .nil => 1
  | .ptr d => uptoBulk d + 1
  | .slice elems spare => uptoBulkAll elems + uptoBulkAll spare + 1
  | .agg parts => uptoBulkAll parts + 1
  | .iface _ d => uptoBulk d + 1
  | .map entries => uptoBulkEntries entries + 1
  | .held _ => 1
def uptoBulkAll {H : Type} : List (DataW H) → Nat
  | [] => 0
  | d :: r => uptoBulk d + uptoBulkAll r
def uptoBulkEntries {H : Type} : List (Lit × DataW H) → Nat
  | [] => 0
  | x :: r => uptoBulkEntry x + uptoBulkEntries r
def uptoBulkEntry {H : Type} : Lit × DataW H → Nat
  | (.string bytes, d) => bytes.length + uptoBulk d + 1
  | (_, d) => uptoBulk d + 1
 end
def uptoSmall : (H : Type) → List (DataW H) → Bool := fun _ ds => decide (uptoBulkAll ds ≤ 1048576)
def OpenSpec.upto (s : _root_.Go.ChangeSpec) : _root_.Go.OpenSpec := { _root_.Go.OpenSpec.ofChange s with cond := some uptoSmall }

/-- 'swatchlaw17.LayoutTells', WHERE WHAT IT READS IS OF BULK AT MOST 1048576: true; the input reads as it did. -/
def layoutTellsUptoRow : OpenClaim := { program := "ytcjfigcbloploaa", sum := "e3ec71a8ecd406405d0a085ac9393d4db9f3a31544bf3adb1841e846fcfdd318", func := "swatch/swatchlaw17.LayoutTells", spec := "layoutTells", inPlace := ["internal/bytealg.IndexByteString"], unfollowed := true, recurses := true, plainKeys := false, apart := false, narrowed := true }
def LayoutTellsUptoSaid : Prop := layoutTellsUptoRow.holds Try.pinned (OpenSpec.upto layoutTellsSpec)

/-- 'swatchlaw17.LayoutWhole', WHERE WHAT IT READS IS OF BULK AT MOST 1048576: true; the input reads as it did. -/
def layoutWholeUptoRow : OpenClaim := { program := "ytcjfigcbloploaa", sum := "e3ec71a8ecd406405d0a085ac9393d4db9f3a31544bf3adb1841e846fcfdd318", func := "swatch/swatchlaw17.LayoutWhole", spec := "layoutWhole", inPlace := ["internal/bytealg.IndexByteString"], unfollowed := true, recurses := true, plainKeys := false, apart := false, narrowed := true }
def LayoutWholeUptoSaid : Prop := layoutWholeUptoRow.holds Try.pinned (OpenSpec.upto layoutWholeSpec)

/-- 'swatchlaw17.LayoutLimits', WHERE WHAT IT READS IS OF BULK AT MOST 1048576: true; the input reads as it did. -/
def layoutLimitsUptoRow : OpenClaim := { program := "ytcjfigcbloploaa", sum := "e3ec71a8ecd406405d0a085ac9393d4db9f3a31544bf3adb1841e846fcfdd318", func := "swatch/swatchlaw17.LayoutLimits", spec := "layoutLimits", inPlace := ["internal/bytealg.IndexByteString"], unfollowed := true, recurses := true, plainKeys := false, apart := false, narrowed := true }
def LayoutLimitsUptoSaid : Prop := layoutLimitsUptoRow.holds Try.pinned (OpenSpec.upto layoutLimitsSpec)

/-- 'swatchlaw18.DdsReads', WHERE WHAT IT READS IS OF BULK AT MOST 1048576: true; the input reads as it did. -/
def ddsReadsUptoRow : OpenClaim := { program := "ytcjfigcbloploaa", sum := "e3ec71a8ecd406405d0a085ac9393d4db9f3a31544bf3adb1841e846fcfdd318", func := "swatch/swatchlaw18.DdsReads", spec := "ddsReads", inPlace := ["internal/bytealg.IndexByteString", "internal/bytealg.MakeNoZero", "internal/reflectlite.TypeOf"], unfollowed := true, recurses := true, plainKeys := false, apart := false, narrowed := true }
def DdsReadsUptoSaid : Prop := ddsReadsUptoRow.holds Try.pinned (OpenSpec.upto ddsReadsSpec)

/-- 'swatchlaw18.DdsWrites', WHERE WHAT IT READS IS OF BULK AT MOST 1048576: true; the input reads as it did. -/
def ddsWritesUptoRow : OpenClaim := { program := "ytcjfigcbloploaa", sum := "e3ec71a8ecd406405d0a085ac9393d4db9f3a31544bf3adb1841e846fcfdd318", func := "swatch/swatchlaw18.DdsWrites", spec := "ddsWrites", inPlace := ["internal/bytealg.IndexByteString", "internal/bytealg.MakeNoZero", "internal/reflectlite.TypeOf"], unfollowed := true, recurses := true, plainKeys := false, apart := false, narrowed := true }
def DdsWritesUptoSaid : Prop := ddsWritesUptoRow.holds Try.pinned (OpenSpec.upto ddsWritesSpec)

/-- 'swatchlaw18.DdsBack', WHERE WHAT IT READS IS OF BULK AT MOST 1048576: true; the input reads as it did. -/
def ddsBackUptoRow : OpenClaim := { program := "ytcjfigcbloploaa", sum := "e3ec71a8ecd406405d0a085ac9393d4db9f3a31544bf3adb1841e846fcfdd318", func := "swatch/swatchlaw18.DdsBack", spec := "ddsBack", inPlace := ["internal/bytealg.IndexByteString", "internal/bytealg.MakeNoZero", "internal/reflectlite.TypeOf"], unfollowed := true, recurses := true, plainKeys := false, apart := false, narrowed := true }
def DdsBackUptoSaid : Prop := ddsBackUptoRow.holds Try.pinned (OpenSpec.upto ddsBackSpec)

/-- 'swatchlaw18.DdsAgain', WHERE WHAT IT READS IS OF BULK AT MOST 1048576: true; the input reads as it did. -/
def ddsAgainUptoRow : OpenClaim := { program := "ytcjfigcbloploaa", sum := "e3ec71a8ecd406405d0a085ac9393d4db9f3a31544bf3adb1841e846fcfdd318", func := "swatch/swatchlaw18.DdsAgain", spec := "ddsAgain", inPlace := ["internal/bytealg.IndexByteString", "internal/bytealg.MakeNoZero", "internal/reflectlite.TypeOf"], unfollowed := true, recurses := true, plainKeys := false, apart := false, narrowed := true }
def DdsAgainUptoSaid : Prop := ddsAgainUptoRow.holds Try.pinned (OpenSpec.upto ddsAgainSpec)

/-- 'swatchlaw19.KtxReads', WHERE WHAT IT READS IS OF BULK AT MOST 1048576: true; the input reads as it did. -/
def ktxReadsUptoRow : OpenClaim := { program := "ytcjfigcbloploaa", sum := "e3ec71a8ecd406405d0a085ac9393d4db9f3a31544bf3adb1841e846fcfdd318", func := "swatch/swatchlaw19.KtxReads", spec := "ktxReads", inPlace := ["internal/bytealg.IndexByteString", "internal/bytealg.IndexString"], unfollowed := true, recurses := true, named := ["internal/bytealg.MaxLen"], plainKeys := false, apart := false, narrowed := true }
def KtxReadsUptoSaid : Prop := ktxReadsUptoRow.holds Try.pinned (OpenSpec.upto ktxReadsSpec)

/-- 'swatchlaw19.KtxWrites', WHERE WHAT IT READS IS OF BULK AT MOST 1048576: true; the input reads as it did. -/
def ktxWritesUptoRow : OpenClaim := { program := "ytcjfigcbloploaa", sum := "e3ec71a8ecd406405d0a085ac9393d4db9f3a31544bf3adb1841e846fcfdd318", func := "swatch/swatchlaw19.KtxWrites", spec := "ktxWrites", inPlace := ["internal/bytealg.IndexByteString", "internal/bytealg.IndexString"], unfollowed := true, recurses := true, named := ["internal/bytealg.MaxLen"], plainKeys := false, apart := false, narrowed := true }
def KtxWritesUptoSaid : Prop := ktxWritesUptoRow.holds Try.pinned (OpenSpec.upto ktxWritesSpec)

/-- 'swatchlaw19.KtxBack', WHERE WHAT IT READS IS OF BULK AT MOST 1048576: true; the input reads as it did. -/
def ktxBackUptoRow : OpenClaim := { program := "ytcjfigcbloploaa", sum := "e3ec71a8ecd406405d0a085ac9393d4db9f3a31544bf3adb1841e846fcfdd318", func := "swatch/swatchlaw19.KtxBack", spec := "ktxBack", inPlace := ["internal/bytealg.IndexByteString", "internal/bytealg.IndexString"], unfollowed := true, recurses := true, named := ["internal/bytealg.MaxLen"], plainKeys := false, apart := false, narrowed := true }
def KtxBackUptoSaid : Prop := ktxBackUptoRow.holds Try.pinned (OpenSpec.upto ktxBackSpec)

/-- 'swatchlaw19.KtxAgain', WHERE WHAT IT READS IS OF BULK AT MOST 1048576: true; the input reads as it did. -/
def ktxAgainUptoRow : OpenClaim := { program := "ytcjfigcbloploaa", sum := "e3ec71a8ecd406405d0a085ac9393d4db9f3a31544bf3adb1841e846fcfdd318", func := "swatch/swatchlaw19.KtxAgain", spec := "ktxAgain", inPlace := ["internal/bytealg.IndexByteString", "internal/bytealg.IndexString"], unfollowed := true, recurses := true, named := ["internal/bytealg.MaxLen"], plainKeys := false, apart := false, narrowed := true }
def KtxAgainUptoSaid : Prop := ktxAgainUptoRow.holds Try.pinned (OpenSpec.upto ktxAgainSpec)

end Rows
end Go.Proofs.Ytcjfigcbloploaa
