/-
  No cell of these rows narrows 'for every input' (looked for: loops, veiled, ifaces, maps, wideKeys, modest, calm, conditions, laid).
  DERIVED. THE GIVEN ROWS OF THIS SEAT. 7 by the template 'for every input the law returns true; each argument reads behind the call as it read before'; 0 by the template 'total and deterministic' (their statements: YtdnccegimipapaaGreatTotals.lean).
  GIVEN WITH THE SEED: the statements are not yours to turn. If you find one false, say at which input.
  Laid BY PROGRAM, IN A SANDBOX (cutbox-rows.mjs): the forced cells as the released guide's own fill.sh prints them over the translation 1e4ac57327bfb7e7… (all of the seat's roots in one cut). By AI agents, Wed Nov 11 2026. No macro, syntax, notation, axiom, sorry.
-/
import Derived.Test.YtdnccegimipapaaGreatChecked
import GoSem.Claim
import GoSem.ClaimJoined
import GoSem.ClaimMapViews
import Derived.JoinedTies
import Derived.KernelRfl
namespace Go.Proofs.YtdnccegimipapaaGreat
/- THE CELL 'sum', in the pinned program and in every row, IS THE sha256 OF THE DUMP (.gsa) THAT YtdnccegimipapaaGreatProg.lean LOADS. Nothing in Lean hashes anything: it is a label: what it is worth is what the hold of that sum in a sandbox is worth. -/
noncomputable def Tryz.pinned : Pinned := { name := "ytdnccegimipapaagreat", sum := "1e4ac57327bfb7e7c1e487ac5060edded73aa204945cf8b921b96d0aabc5d1ea", checked := Tryz.checked }
namespace Rows
def none {H : Type} : Left H := { results := [], args := [] }

/-- 'swatchlaw16.EtcfitTells': WHATEVER THE INPUT: true; the input reads as it did. -/
def etcfitTellsSpec : ChangeSpec := { name := "etcfitTells", fn := fun _ => fun
  | [d1, d2, d3] => { results := [.lit (.bool true)], args := [d1, d2, d3] }
  | _ => none }
def etcfitTellsRow : OpenClaim := { program := "ytdnccegimipapaagreat", sum := "1e4ac57327bfb7e7c1e487ac5060edded73aa204945cf8b921b96d0aabc5d1ea", func := "swatch/swatchlaw16.EtcfitTells", spec := "etcfitTells", unfollowed := true, recurses := true, apart := false }
def EtcfitTellsSaid : Prop := etcfitTellsRow.holds Tryz.pinned (OpenSpec.ofChange etcfitTellsSpec)

/-- ITS FALSE NEIGHBOUR: 'it returns false'. Refute it at one input. -/
def etcfitTellsWrong : ChangeSpec := { name := "etcfitTells", fn := fun _ => fun
  | [d1, d2, d3] => { results := [.lit (.bool false)], args := [d1, d2, d3] }
  | _ => none }
def EtcfitTellsWrongFalsely : Prop := etcfitTellsRow.holds Tryz.pinned (OpenSpec.ofChange etcfitTellsWrong)

/-- 'swatchlaw16.EtcfitLess': WHATEVER THE INPUT: true; the input reads as it did. -/
def etcfitLessSpec : ChangeSpec := { name := "etcfitLess", fn := fun _ => fun
  | [d1, d2] => { results := [.lit (.bool true)], args := [d1, d2] }
  | _ => none }
def etcfitLessRow : OpenClaim := { program := "ytdnccegimipapaagreat", sum := "1e4ac57327bfb7e7c1e487ac5060edded73aa204945cf8b921b96d0aabc5d1ea", func := "swatch/swatchlaw16.EtcfitLess", spec := "etcfitLess", unfollowed := true, recurses := true, apart := false }
def EtcfitLessSaid : Prop := etcfitLessRow.holds Tryz.pinned (OpenSpec.ofChange etcfitLessSpec)

/-- ITS FALSE NEIGHBOUR: 'it returns false'. Refute it at one input. -/
def etcfitLessWrong : ChangeSpec := { name := "etcfitLess", fn := fun _ => fun
  | [d1, d2] => { results := [.lit (.bool false)], args := [d1, d2] }
  | _ => none }
def EtcfitLessWrongFalsely : Prop := etcfitLessRow.holds Tryz.pinned (OpenSpec.ofChange etcfitLessWrong)

/-- 'swatchlaw16.EtcfitHeld': WHATEVER THE INPUT: true; the input reads as it did. -/
def etcfitHeldSpec : ChangeSpec := { name := "etcfitHeld", fn := fun _ => fun
  | [d1, d2, d3] => { results := [.lit (.bool true)], args := [d1, d2, d3] }
  | _ => none }
def etcfitHeldRow : OpenClaim := { program := "ytdnccegimipapaagreat", sum := "1e4ac57327bfb7e7c1e487ac5060edded73aa204945cf8b921b96d0aabc5d1ea", func := "swatch/swatchlaw16.EtcfitHeld", spec := "etcfitHeld", unfollowed := true, recurses := true, apart := false }
def EtcfitHeldSaid : Prop := etcfitHeldRow.holds Tryz.pinned (OpenSpec.ofChange etcfitHeldSpec)

/-- ITS FALSE NEIGHBOUR: 'it returns false'. Refute it at one input. -/
def etcfitHeldWrong : ChangeSpec := { name := "etcfitHeld", fn := fun _ => fun
  | [d1, d2, d3] => { results := [.lit (.bool false)], args := [d1, d2, d3] }
  | _ => none }
def EtcfitHeldWrongFalsely : Prop := etcfitHeldRow.holds Tryz.pinned (OpenSpec.ofChange etcfitHeldWrong)

/-- 'swatchlaw16.EtcfitRed': WHATEVER THE INPUT: true; the input reads as it did. -/
def etcfitRedSpec : ChangeSpec := { name := "etcfitRed", fn := fun _ => fun
  | [d] => { results := [.lit (.bool true)], args := [d] }
  | _ => none }
def etcfitRedRow : OpenClaim := { program := "ytdnccegimipapaagreat", sum := "1e4ac57327bfb7e7c1e487ac5060edded73aa204945cf8b921b96d0aabc5d1ea", func := "swatch/swatchlaw16.EtcfitRed", spec := "etcfitRed", unfollowed := true, recurses := true, apart := false }
def EtcfitRedSaid : Prop := etcfitRedRow.holds Tryz.pinned (OpenSpec.ofChange etcfitRedSpec)

/-- ITS FALSE NEIGHBOUR: 'it returns false'. Refute it at one input. -/
def etcfitRedWrong : ChangeSpec := { name := "etcfitRed", fn := fun _ => fun
  | [d] => { results := [.lit (.bool false)], args := [d] }
  | _ => none }
def EtcfitRedWrongFalsely : Prop := etcfitRedRow.holds Tryz.pinned (OpenSpec.ofChange etcfitRedWrong)

/-- 'swatchlaw15.BcfitTells': WHATEVER THE INPUT: true; the input reads as it did. -/
def bcfitTellsSpec : ChangeSpec := { name := "bcfitTells", fn := fun _ => fun
  | [d1, d2, d3] => { results := [.lit (.bool true)], args := [d1, d2, d3] }
  | _ => none }
def bcfitTellsRow : OpenClaim := { program := "ytdnccegimipapaagreat", sum := "1e4ac57327bfb7e7c1e487ac5060edded73aa204945cf8b921b96d0aabc5d1ea", func := "swatch/swatchlaw15.BcfitTells", spec := "bcfitTells", unfollowed := true, recurses := true, apart := false }
def BcfitTellsSaid : Prop := bcfitTellsRow.holds Tryz.pinned (OpenSpec.ofChange bcfitTellsSpec)

/-- ITS FALSE NEIGHBOUR: 'it returns false'. Refute it at one input. -/
def bcfitTellsWrong : ChangeSpec := { name := "bcfitTells", fn := fun _ => fun
  | [d1, d2, d3] => { results := [.lit (.bool false)], args := [d1, d2, d3] }
  | _ => none }
def BcfitTellsWrongFalsely : Prop := bcfitTellsRow.holds Tryz.pinned (OpenSpec.ofChange bcfitTellsWrong)

/-- 'swatchlaw15.BcfitLess': WHATEVER THE INPUT: true; the input reads as it did. -/
def bcfitLessSpec : ChangeSpec := { name := "bcfitLess", fn := fun _ => fun
  | [d1, d2] => { results := [.lit (.bool true)], args := [d1, d2] }
  | _ => none }
def bcfitLessRow : OpenClaim := { program := "ytdnccegimipapaagreat", sum := "1e4ac57327bfb7e7c1e487ac5060edded73aa204945cf8b921b96d0aabc5d1ea", func := "swatch/swatchlaw15.BcfitLess", spec := "bcfitLess", unfollowed := true, recurses := true, apart := false }
def BcfitLessSaid : Prop := bcfitLessRow.holds Tryz.pinned (OpenSpec.ofChange bcfitLessSpec)

/-- ITS FALSE NEIGHBOUR: 'it returns false'. Refute it at one input. -/
def bcfitLessWrong : ChangeSpec := { name := "bcfitLess", fn := fun _ => fun
  | [d1, d2] => { results := [.lit (.bool false)], args := [d1, d2] }
  | _ => none }
def BcfitLessWrongFalsely : Prop := bcfitLessRow.holds Tryz.pinned (OpenSpec.ofChange bcfitLessWrong)

/-- 'swatchlaw15.BcfitTwo': WHATEVER THE INPUT: true; the input reads as it did. -/
def bcfitTwoSpec : ChangeSpec := { name := "bcfitTwo", fn := fun _ => fun
  | [d1, d2, d3] => { results := [.lit (.bool true)], args := [d1, d2, d3] }
  | _ => none }
def bcfitTwoRow : OpenClaim := { program := "ytdnccegimipapaagreat", sum := "1e4ac57327bfb7e7c1e487ac5060edded73aa204945cf8b921b96d0aabc5d1ea", func := "swatch/swatchlaw15.BcfitTwo", spec := "bcfitTwo", unfollowed := true, recurses := true, apart := false }
def BcfitTwoSaid : Prop := bcfitTwoRow.holds Tryz.pinned (OpenSpec.ofChange bcfitTwoSpec)

/-- ITS FALSE NEIGHBOUR: 'it returns false'. Refute it at one input. -/
def bcfitTwoWrong : ChangeSpec := { name := "bcfitTwo", fn := fun _ => fun
  | [d1, d2, d3] => { results := [.lit (.bool false)], args := [d1, d2, d3] }
  | _ => none }
def BcfitTwoWrongFalsely : Prop := bcfitTwoRow.holds Tryz.pinned (OpenSpec.ofChange bcfitTwoWrong)

/- THE SECOND FORM. 'bulk': how many values and letters a reading holds, each counted each time it is reached (what is shared counts as often as it is met; a slice's spare places count too). A statement '..UptoSaid' is the law's where the arguments, and the package variables that the reading takes, are together of bulk at most 1048576: NARROWER than '..Said'. Prove '..Said' where nothing that the law and all that it calls make is longer than what came in: it says more and counts as full. Else prove '..UptoSaid'. A law counts once. -/
mutual
def uptoBulk {H : Type} : DataW H → Nat
  | .lit (.string bytes) => bytes.length + 1
  | .lit _ => 1
  | .nil => 1
  | .ptr d => uptoBulk d + 1
  | .slice elems spare => uptoBulkAll elems + uptoBulkAll spare + 1
  | .agg parts => uptoBulkAll parts + 1
  | .iface _ d => uptoBulk d + 1
  | .map entries => uptoBulkEntries entries + 1
  | .held _ => 1
def uptoBulkAll {H : Type} : List (DataW H) → Nat
  | [] => 0
  | d :: r => uptoBulk d + uptoBulkAll r
def uptoBulkEntries {H : Type} : List (Lit × DataW H) → Nat
  | [] => 0
  | x :: r => uptoBulkEntry x + uptoBulkEntries r
def uptoBulkEntry {H : Type} : Lit × DataW H → Nat
  | (.string bytes, d) => bytes.length + uptoBulk d + 1
  | (_, d) => uptoBulk d + 1
 end
def uptoSmall : (H : Type) → List (DataW H) → Bool := fun _ ds => decide (uptoBulkAll ds ≤ 1048576)
def OpenSpec.upto (s : _root_.Go.ChangeSpec) : _root_.Go.OpenSpec := { _root_.Go.OpenSpec.ofChange s with cond := some uptoSmall }

/-- 'swatchlaw16.EtcfitTells', WHERE WHAT IT READS IS OF BULK AT MOST 1048576: true; the input reads as it did. -/
def etcfitTellsUptoRow : OpenClaim := { program := "ytdnccegimipapaagreat", sum := "1e4ac57327bfb7e7c1e487ac5060edded73aa204945cf8b921b96d0aabc5d1ea", func := "swatch/swatchlaw16.EtcfitTells", spec := "etcfitTells", unfollowed := true, recurses := true, apart := false, narrowed := true }
def EtcfitTellsUptoSaid : Prop := etcfitTellsUptoRow.holds Tryz.pinned (OpenSpec.upto etcfitTellsSpec)

/-- 'swatchlaw16.EtcfitLess', WHERE WHAT IT READS IS OF BULK AT MOST 1048576: true; the input reads as it did. -/
def etcfitLessUptoRow : OpenClaim := { program := "ytdnccegimipapaagreat", sum := "1e4ac57327bfb7e7c1e487ac5060edded73aa204945cf8b921b96d0aabc5d1ea", func := "swatch/swatchlaw16.EtcfitLess", spec := "etcfitLess", unfollowed := true, recurses := true, apart := false, narrowed := true }
def EtcfitLessUptoSaid : Prop := etcfitLessUptoRow.holds Tryz.pinned (OpenSpec.upto etcfitLessSpec)

/-- 'swatchlaw16.EtcfitHeld', WHERE WHAT IT READS IS OF BULK AT MOST 1048576: true; the input reads as it did. -/
def etcfitHeldUptoRow : OpenClaim := { program := "ytdnccegimipapaagreat", sum := "1e4ac57327bfb7e7c1e487ac5060edded73aa204945cf8b921b96d0aabc5d1ea", func := "swatch/swatchlaw16.EtcfitHeld", spec := "etcfitHeld", unfollowed := true, recurses := true, apart := false, narrowed := true }
def EtcfitHeldUptoSaid : Prop := etcfitHeldUptoRow.holds Tryz.pinned (OpenSpec.upto etcfitHeldSpec)

/-- 'swatchlaw16.EtcfitRed', WHERE WHAT IT READS IS OF BULK AT MOST 1048576: true; the input reads as it did. -/
def etcfitRedUptoRow : OpenClaim := { program := "ytdnccegimipapaagreat", sum := "1e4ac57327bfb7e7c1e487ac5060edded73aa204945cf8b921b96d0aabc5d1ea", func := "swatch/swatchlaw16.EtcfitRed", spec := "etcfitRed", unfollowed := true, recurses := true, apart := false, narrowed := true }
def EtcfitRedUptoSaid : Prop := etcfitRedUptoRow.holds Tryz.pinned (OpenSpec.upto etcfitRedSpec)

/-- 'swatchlaw15.BcfitTells', WHERE WHAT IT READS IS OF BULK AT MOST 1048576: true; the input reads as it did. -/
def bcfitTellsUptoRow : OpenClaim := { program := "ytdnccegimipapaagreat", sum := "1e4ac57327bfb7e7c1e487ac5060edded73aa204945cf8b921b96d0aabc5d1ea", func := "swatch/swatchlaw15.BcfitTells", spec := "bcfitTells", unfollowed := true, recurses := true, apart := false, narrowed := true }
def BcfitTellsUptoSaid : Prop := bcfitTellsUptoRow.holds Tryz.pinned (OpenSpec.upto bcfitTellsSpec)

/-- 'swatchlaw15.BcfitLess', WHERE WHAT IT READS IS OF BULK AT MOST 1048576: true; the input reads as it did. -/
def bcfitLessUptoRow : OpenClaim := { program := "ytdnccegimipapaagreat", sum := "1e4ac57327bfb7e7c1e487ac5060edded73aa204945cf8b921b96d0aabc5d1ea", func := "swatch/swatchlaw15.BcfitLess", spec := "bcfitLess", unfollowed := true, recurses := true, apart := false, narrowed := true }
def BcfitLessUptoSaid : Prop := bcfitLessUptoRow.holds Tryz.pinned (OpenSpec.upto bcfitLessSpec)

/-- 'swatchlaw15.BcfitTwo', WHERE WHAT IT READS IS OF BULK AT MOST 1048576: true; the input reads as it did. -/
def bcfitTwoUptoRow : OpenClaim := { program := "ytdnccegimipapaagreat", sum := "1e4ac57327bfb7e7c1e487ac5060edded73aa204945cf8b921b96d0aabc5d1ea", func := "swatch/swatchlaw15.BcfitTwo", spec := "bcfitTwo", unfollowed := true, recurses := true, apart := false, narrowed := true }
def BcfitTwoUptoSaid : Prop := bcfitTwoUptoRow.holds Tryz.pinned (OpenSpec.upto bcfitTwoSpec)

end Rows
end Go.Proofs.YtdnccegimipapaaGreat
