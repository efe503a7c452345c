/-
  No cell of these rows narrows 'for every input' (looked for: loops, veiled, ifaces, maps, wideKeys, modest, calm, conditions, laid).
  DERIVED. THE GIVEN ROWS OF THIS SEAT. 11 by the template 'for every input the law returns true; each argument reads behind the call as it read before'; 0 by the template 'total and deterministic' (their statements: YtjmdnghdbfmijaaTotals.lean).
  GIVEN WITH THE SEED: the statements are not yours to turn. If you find one false, say at which input.
  Laid BY PROGRAM, IN A SANDBOX (cutbox-rows.mjs): the forced cells as the released guide's own fill.sh prints them over the translation 365e25fba7c56d95… (all of the seat's roots in one cut). By AI agents, Wed Nov 11 2026. No macro, syntax, notation, axiom, sorry.
-/
import Derived.Test.YtjmdnghdbfmijaaChecked
import GoSem.Claim
import GoSem.ClaimJoined
import GoSem.ClaimMapViews
import Derived.JoinedTies
import Derived.KernelRfl
namespace Go.Proofs.Ytjmdnghdbfmijaa
/- THE CELL 'sum', in the pinned program and in every row, IS THE sha256 OF THE DUMP (.gsa) THAT YtjmdnghdbfmijaaProg.lean LOADS. Nothing in Lean hashes anything: it is a label: what it is worth is what the hold of that sum in a sandbox is worth. -/
noncomputable def Try.pinned : Pinned := { name := "ytjmdnghdbfmijaa", sum := "365e25fba7c56d95f5bd1e0faadf52a928279461595c5a9c525171b285c799bd", checked := Try.checked }
namespace Rows
def none {H : Type} : Left H := { results := [], args := [] }

/-- 'swatchlaw08.BctableTells': WHATEVER THE INPUT: true; the input reads as it did. -/
def bctableTellsSpec : ChangeSpec := { name := "bctableTells", fn := fun _ => fun
  | [d1, d2, d3] => { results := [.lit (.bool true)], args := [d1, d2, d3] }
  | _ => none }
def bctableTellsRow : OpenClaim := { program := "ytjmdnghdbfmijaa", sum := "365e25fba7c56d95f5bd1e0faadf52a928279461595c5a9c525171b285c799bd", func := "swatch/swatchlaw08.BctableTells", spec := "bctableTells", apart := false }
def BctableTellsSaid : Prop := bctableTellsRow.holds Try.pinned (OpenSpec.ofChange bctableTellsSpec)

/-- ITS FALSE NEIGHBOUR: 'it returns false'. Refute it at one input. -/
def bctableTellsWrong : ChangeSpec := { name := "bctableTells", fn := fun _ => fun
  | [d1, d2, d3] => { results := [.lit (.bool false)], args := [d1, d2, d3] }
  | _ => none }
def BctableTellsWrongFalsely : Prop := bctableTellsRow.holds Try.pinned (OpenSpec.ofChange bctableTellsWrong)

/-- 'swatchlaw08.BctableDeals': WHATEVER THE INPUT: true; the input reads as it did. -/
def bctableDealsSpec : ChangeSpec := { name := "bctableDeals", fn := fun _ => fun
  | [d] => { results := [.lit (.bool true)], args := [d] }
  | _ => none }
def bctableDealsRow : OpenClaim := { program := "ytjmdnghdbfmijaa", sum := "365e25fba7c56d95f5bd1e0faadf52a928279461595c5a9c525171b285c799bd", func := "swatch/swatchlaw08.BctableDeals", spec := "bctableDeals", apart := false }
def BctableDealsSaid : Prop := bctableDealsRow.holds Try.pinned (OpenSpec.ofChange bctableDealsSpec)

/-- ITS FALSE NEIGHBOUR: 'it returns false'. Refute it at one input. -/
def bctableDealsWrong : ChangeSpec := { name := "bctableDeals", fn := fun _ => fun
  | [d] => { results := [.lit (.bool false)], args := [d] }
  | _ => none }
def BctableDealsWrongFalsely : Prop := bctableDealsRow.holds Try.pinned (OpenSpec.ofChange bctableDealsWrong)

/-- 'swatchlaw08.BctableWeighs': WHATEVER THE INPUT: true; the input reads as it did. -/
def bctableWeighsSpec : ChangeSpec := { name := "bctableWeighs", fn := fun _ => fun
  | [d] => { results := [.lit (.bool true)], args := [d] }
  | _ => none }
def bctableWeighsRow : OpenClaim := { program := "ytjmdnghdbfmijaa", sum := "365e25fba7c56d95f5bd1e0faadf52a928279461595c5a9c525171b285c799bd", func := "swatch/swatchlaw08.BctableWeighs", spec := "bctableWeighs", apart := false }
def BctableWeighsSaid : Prop := bctableWeighsRow.holds Try.pinned (OpenSpec.ofChange bctableWeighsSpec)

/-- ITS FALSE NEIGHBOUR: 'it returns false'. Refute it at one input. -/
def bctableWeighsWrong : ChangeSpec := { name := "bctableWeighs", fn := fun _ => fun
  | [d] => { results := [.lit (.bool false)], args := [d] }
  | _ => none }
def BctableWeighsWrongFalsely : Prop := bctableWeighsRow.holds Try.pinned (OpenSpec.ofChange bctableWeighsWrong)

/-- 'swatchlaw02.BitsTell': WHATEVER THE INPUT: true; the input reads as it did. -/
def bitsTellSpec : ChangeSpec := { name := "bitsTell", fn := fun _ => fun
  | [d1, d2, d3] => { results := [.lit (.bool true)], args := [d1, d2, d3] }
  | _ => none }
def bitsTellRow : OpenClaim := { program := "ytjmdnghdbfmijaa", sum := "365e25fba7c56d95f5bd1e0faadf52a928279461595c5a9c525171b285c799bd", func := "swatch/swatchlaw02.BitsTell", spec := "bitsTell", apart := false }
def BitsTellSaid : Prop := bitsTellRow.holds Try.pinned (OpenSpec.ofChange bitsTellSpec)

/-- ITS FALSE NEIGHBOUR: 'it returns false'. Refute it at one input. -/
def bitsTellWrong : ChangeSpec := { name := "bitsTell", fn := fun _ => fun
  | [d1, d2, d3] => { results := [.lit (.bool false)], args := [d1, d2, d3] }
  | _ => none }
def BitsTellWrongFalsely : Prop := bitsTellRow.holds Try.pinned (OpenSpec.ofChange bitsTellWrong)

/-- 'swatchlaw02.BitsBack': WHATEVER THE INPUT: true; the input reads as it did. -/
def bitsBackSpec : ChangeSpec := { name := "bitsBack", fn := fun _ => fun
  | [d1, d2, d3] => { results := [.lit (.bool true)], args := [d1, d2, d3] }
  | _ => none }
def bitsBackRow : OpenClaim := { program := "ytjmdnghdbfmijaa", sum := "365e25fba7c56d95f5bd1e0faadf52a928279461595c5a9c525171b285c799bd", func := "swatch/swatchlaw02.BitsBack", spec := "bitsBack", apart := false }
def BitsBackSaid : Prop := bitsBackRow.holds Try.pinned (OpenSpec.ofChange bitsBackSpec)

/-- ITS FALSE NEIGHBOUR: 'it returns false'. Refute it at one input. -/
def bitsBackWrong : ChangeSpec := { name := "bitsBack", fn := fun _ => fun
  | [d1, d2, d3] => { results := [.lit (.bool false)], args := [d1, d2, d3] }
  | _ => none }
def BitsBackWrongFalsely : Prop := bitsBackRow.holds Try.pinned (OpenSpec.ofChange bitsBackWrong)

/-- 'swatchlaw02.BitsTurn': WHATEVER THE INPUT: true; the input reads as it did. -/
def bitsTurnSpec : ChangeSpec := { name := "bitsTurn", fn := fun _ => fun
  | [d1, d2] => { results := [.lit (.bool true)], args := [d1, d2] }
  | _ => none }
def bitsTurnRow : OpenClaim := { program := "ytjmdnghdbfmijaa", sum := "365e25fba7c56d95f5bd1e0faadf52a928279461595c5a9c525171b285c799bd", func := "swatch/swatchlaw02.BitsTurn", spec := "bitsTurn", apart := false }
def BitsTurnSaid : Prop := bitsTurnRow.holds Try.pinned (OpenSpec.ofChange bitsTurnSpec)

/-- ITS FALSE NEIGHBOUR: 'it returns false'. Refute it at one input. -/
def bitsTurnWrong : ChangeSpec := { name := "bitsTurn", fn := fun _ => fun
  | [d1, d2] => { results := [.lit (.bool false)], args := [d1, d2] }
  | _ => none }
def BitsTurnWrongFalsely : Prop := bitsTurnRow.holds Try.pinned (OpenSpec.ofChange bitsTurnWrong)

/-- 'swatchlaw12.EacBack': WHATEVER THE INPUT: true; the input reads as it did. -/
def eacBackSpec : ChangeSpec := { name := "eacBack", fn := fun _ => fun
  | [d] => { results := [.lit (.bool true)], args := [d] }
  | _ => none }
def eacBackRow : OpenClaim := { program := "ytjmdnghdbfmijaa", sum := "365e25fba7c56d95f5bd1e0faadf52a928279461595c5a9c525171b285c799bd", func := "swatch/swatchlaw12.EacBack", spec := "eacBack", unfollowed := true, recurses := true, apart := false }
def EacBackSaid : Prop := eacBackRow.holds Try.pinned (OpenSpec.ofChange eacBackSpec)

/-- ITS FALSE NEIGHBOUR: 'it returns false'. Refute it at one input. -/
def eacBackWrong : ChangeSpec := { name := "eacBack", fn := fun _ => fun
  | [d] => { results := [.lit (.bool false)], args := [d] }
  | _ => none }
def EacBackWrongFalsely : Prop := eacBackRow.holds Try.pinned (OpenSpec.ofChange eacBackWrong)

/-- 'swatchlaw12.EacRises': WHATEVER THE INPUT: true; the input reads as it did. -/
def eacRisesSpec : ChangeSpec := { name := "eacRises", fn := fun _ => fun
  | [d1, d2, d3] => { results := [.lit (.bool true)], args := [d1, d2, d3] }
  | _ => none }
def eacRisesRow : OpenClaim := { program := "ytjmdnghdbfmijaa", sum := "365e25fba7c56d95f5bd1e0faadf52a928279461595c5a9c525171b285c799bd", func := "swatch/swatchlaw12.EacRises", spec := "eacRises", unfollowed := true, recurses := true, apart := false }
def EacRisesSaid : Prop := eacRisesRow.holds Try.pinned (OpenSpec.ofChange eacRisesSpec)

/-- ITS FALSE NEIGHBOUR: 'it returns false'. Refute it at one input. -/
def eacRisesWrong : ChangeSpec := { name := "eacRises", fn := fun _ => fun
  | [d1, d2, d3] => { results := [.lit (.bool false)], args := [d1, d2, d3] }
  | _ => none }
def EacRisesWrongFalsely : Prop := eacRisesRow.holds Try.pinned (OpenSpec.ofChange eacRisesWrong)

/-- 'swatchlaw07.BcfourTells': WHATEVER THE INPUT: true; the input reads as it did. -/
def bcfourTellsSpec : ChangeSpec := { name := "bcfourTells", fn := fun _ => fun
  | [d1, d2] => { results := [.lit (.bool true)], args := [d1, d2] }
  | _ => none }
def bcfourTellsRow : OpenClaim := { program := "ytjmdnghdbfmijaa", sum := "365e25fba7c56d95f5bd1e0faadf52a928279461595c5a9c525171b285c799bd", func := "swatch/swatchlaw07.BcfourTells", spec := "bcfourTells", apart := false }
def BcfourTellsSaid : Prop := bcfourTellsRow.holds Try.pinned (OpenSpec.ofChange bcfourTellsSpec)

/-- ITS FALSE NEIGHBOUR: 'it returns false'. Refute it at one input. -/
def bcfourTellsWrong : ChangeSpec := { name := "bcfourTells", fn := fun _ => fun
  | [d1, d2] => { results := [.lit (.bool false)], args := [d1, d2] }
  | _ => none }
def BcfourTellsWrongFalsely : Prop := bcfourTellsRow.holds Try.pinned (OpenSpec.ofChange bcfourTellsWrong)

/-- 'swatchlaw07.BcfourRamp': WHATEVER THE INPUT: true; the input reads as it did. -/
def bcfourRampSpec : ChangeSpec := { name := "bcfourRamp", fn := fun _ => fun
  | [d1, d2] => { results := [.lit (.bool true)], args := [d1, d2] }
  | _ => none }
def bcfourRampRow : OpenClaim := { program := "ytjmdnghdbfmijaa", sum := "365e25fba7c56d95f5bd1e0faadf52a928279461595c5a9c525171b285c799bd", func := "swatch/swatchlaw07.BcfourRamp", spec := "bcfourRamp", apart := false }
def BcfourRampSaid : Prop := bcfourRampRow.holds Try.pinned (OpenSpec.ofChange bcfourRampSpec)

/-- ITS FALSE NEIGHBOUR: 'it returns false'. Refute it at one input. -/
def bcfourRampWrong : ChangeSpec := { name := "bcfourRamp", fn := fun _ => fun
  | [d1, d2] => { results := [.lit (.bool false)], args := [d1, d2] }
  | _ => none }
def BcfourRampWrongFalsely : Prop := bcfourRampRow.holds Try.pinned (OpenSpec.ofChange bcfourRampWrong)

/-- 'swatchlaw07.BcfourBack': WHATEVER THE INPUT: true; the input reads as it did. -/
def bcfourBackSpec : ChangeSpec := { name := "bcfourBack", fn := fun _ => fun
  | [d] => { results := [.lit (.bool true)], args := [d] }
  | _ => none }
def bcfourBackRow : OpenClaim := { program := "ytjmdnghdbfmijaa", sum := "365e25fba7c56d95f5bd1e0faadf52a928279461595c5a9c525171b285c799bd", func := "swatch/swatchlaw07.BcfourBack", spec := "bcfourBack", unfollowed := true, recurses := true, apart := false }
def BcfourBackSaid : Prop := bcfourBackRow.holds Try.pinned (OpenSpec.ofChange bcfourBackSpec)

/-- ITS FALSE NEIGHBOUR: 'it returns false'. Refute it at one input. -/
def bcfourBackWrong : ChangeSpec := { name := "bcfourBack", fn := fun _ => fun
  | [d] => { results := [.lit (.bool false)], args := [d] }
  | _ => none }
def BcfourBackWrongFalsely : Prop := bcfourBackRow.holds Try.pinned (OpenSpec.ofChange bcfourBackWrong)

/- THE SECOND FORM. 'bulk': how many values and letters a reading holds, each counted each time it is reached (what is shared counts as often as it is met; a slice's spare places count too). A statement '..UptoSaid' is the law's where the arguments, and the package variables that the reading takes, are together of bulk at most 1048576: NARROWER than '..Said'. Prove '..Said' where nothing that the law and all that it calls make is longer than what came in: it says more and counts as full. Else prove '..UptoSaid'. A law counts once. -/
mutual
def uptoBulk {H : Type} : DataW H → Nat
  | .lit (.string bytes) => bytes.length + 1
  | .lit _ => 1
  | .nil => 1
  | .ptr d => uptoBulk d + 1
  | .slice elems spare => uptoBulkAll elems + uptoBulkAll spare + 1
  | .agg parts => uptoBulkAll parts + 1
  | .iface _ d => uptoBulk d + 1
  | .map entries => uptoBulkEntries entries + 1
  | .held _ => 1
def uptoBulkAll {H : Type} : List (DataW H) → Nat
  | [] => 0
  | d :: r => uptoBulk d + uptoBulkAll r
def uptoBulkEntries {H : Type} : List (Lit × DataW H) → Nat
  | [] => 0
  | x :: r => uptoBulkEntry x + uptoBulkEntries r
def uptoBulkEntry {H : Type} : Lit × DataW H → Nat
  | (.string bytes, d) => bytes.length + uptoBulk d + 1
  | (_, d) => uptoBulk d + 1
 end
def uptoSmall : (H : Type) → List (DataW H) → Bool := fun _ ds => decide (uptoBulkAll ds ≤ 1048576)
def OpenSpec.upto (s : _root_.Go.ChangeSpec) : _root_.Go.OpenSpec := { _root_.Go.OpenSpec.ofChange s with cond := some uptoSmall }

/-- 'swatchlaw08.BctableTells', WHERE WHAT IT READS IS OF BULK AT MOST 1048576: true; the input reads as it did. -/
def bctableTellsUptoRow : OpenClaim := { program := "ytjmdnghdbfmijaa", sum := "365e25fba7c56d95f5bd1e0faadf52a928279461595c5a9c525171b285c799bd", func := "swatch/swatchlaw08.BctableTells", spec := "bctableTells", apart := false, narrowed := true }
def BctableTellsUptoSaid : Prop := bctableTellsUptoRow.holds Try.pinned (OpenSpec.upto bctableTellsSpec)

/-- 'swatchlaw08.BctableDeals', WHERE WHAT IT READS IS OF BULK AT MOST 1048576: true; the input reads as it did. -/
def bctableDealsUptoRow : OpenClaim := { program := "ytjmdnghdbfmijaa", sum := "365e25fba7c56d95f5bd1e0faadf52a928279461595c5a9c525171b285c799bd", func := "swatch/swatchlaw08.BctableDeals", spec := "bctableDeals", apart := false, narrowed := true }
def BctableDealsUptoSaid : Prop := bctableDealsUptoRow.holds Try.pinned (OpenSpec.upto bctableDealsSpec)

/-- 'swatchlaw08.BctableWeighs', WHERE WHAT IT READS IS OF BULK AT MOST 1048576: true; the input reads as it did. -/
def bctableWeighsUptoRow : OpenClaim := { program := "ytjmdnghdbfmijaa", sum := "365e25fba7c56d95f5bd1e0faadf52a928279461595c5a9c525171b285c799bd", func := "swatch/swatchlaw08.BctableWeighs", spec := "bctableWeighs", apart := false, narrowed := true }
def BctableWeighsUptoSaid : Prop := bctableWeighsUptoRow.holds Try.pinned (OpenSpec.upto bctableWeighsSpec)

/-- 'swatchlaw02.BitsTell', WHERE WHAT IT READS IS OF BULK AT MOST 1048576: true; the input reads as it did. -/
def bitsTellUptoRow : OpenClaim := { program := "ytjmdnghdbfmijaa", sum := "365e25fba7c56d95f5bd1e0faadf52a928279461595c5a9c525171b285c799bd", func := "swatch/swatchlaw02.BitsTell", spec := "bitsTell", apart := false, narrowed := true }
def BitsTellUptoSaid : Prop := bitsTellUptoRow.holds Try.pinned (OpenSpec.upto bitsTellSpec)

/-- 'swatchlaw02.BitsBack', WHERE WHAT IT READS IS OF BULK AT MOST 1048576: true; the input reads as it did. -/
def bitsBackUptoRow : OpenClaim := { program := "ytjmdnghdbfmijaa", sum := "365e25fba7c56d95f5bd1e0faadf52a928279461595c5a9c525171b285c799bd", func := "swatch/swatchlaw02.BitsBack", spec := "bitsBack", apart := false, narrowed := true }
def BitsBackUptoSaid : Prop := bitsBackUptoRow.holds Try.pinned (OpenSpec.upto bitsBackSpec)

/-- 'swatchlaw02.BitsTurn', WHERE WHAT IT READS IS OF BULK AT MOST 1048576: true; the input reads as it did. -/
def bitsTurnUptoRow : OpenClaim := { program := "ytjmdnghdbfmijaa", sum := "365e25fba7c56d95f5bd1e0faadf52a928279461595c5a9c525171b285c799bd", func := "swatch/swatchlaw02.BitsTurn", spec := "bitsTurn", apart := false, narrowed := true }
def BitsTurnUptoSaid : Prop := bitsTurnUptoRow.holds Try.pinned (OpenSpec.upto bitsTurnSpec)

/-- 'swatchlaw12.EacBack', WHERE WHAT IT READS IS OF BULK AT MOST 1048576: true; the input reads as it did. -/
def eacBackUptoRow : OpenClaim := { program := "ytjmdnghdbfmijaa", sum := "365e25fba7c56d95f5bd1e0faadf52a928279461595c5a9c525171b285c799bd", func := "swatch/swatchlaw12.EacBack", spec := "eacBack", unfollowed := true, recurses := true, apart := false, narrowed := true }
def EacBackUptoSaid : Prop := eacBackUptoRow.holds Try.pinned (OpenSpec.upto eacBackSpec)

/-- 'swatchlaw12.EacRises', WHERE WHAT IT READS IS OF BULK AT MOST 1048576: true; the input reads as it did. -/
def eacRisesUptoRow : OpenClaim := { program := "ytjmdnghdbfmijaa", sum := "365e25fba7c56d95f5bd1e0faadf52a928279461595c5a9c525171b285c799bd", func := "swatch/swatchlaw12.EacRises", spec := "eacRises", unfollowed := true, recurses := true, apart := false, narrowed := true }
def EacRisesUptoSaid : Prop := eacRisesUptoRow.holds Try.pinned (OpenSpec.upto eacRisesSpec)

/-- 'swatchlaw07.BcfourTells', WHERE WHAT IT READS IS OF BULK AT MOST 1048576: true; the input reads as it did. -/
def bcfourTellsUptoRow : OpenClaim := { program := "ytjmdnghdbfmijaa", sum := "365e25fba7c56d95f5bd1e0faadf52a928279461595c5a9c525171b285c799bd", func := "swatch/swatchlaw07.BcfourTells", spec := "bcfourTells", apart := false, narrowed := true }
def BcfourTellsUptoSaid : Prop := bcfourTellsUptoRow.holds Try.pinned (OpenSpec.upto bcfourTellsSpec)

/-- 'swatchlaw07.BcfourRamp', WHERE WHAT IT READS IS OF BULK AT MOST 1048576: true; the input reads as it did. -/
def bcfourRampUptoRow : OpenClaim := { program := "ytjmdnghdbfmijaa", sum := "365e25fba7c56d95f5bd1e0faadf52a928279461595c5a9c525171b285c799bd", func := "swatch/swatchlaw07.BcfourRamp", spec := "bcfourRamp", apart := false, narrowed := true }
def BcfourRampUptoSaid : Prop := bcfourRampUptoRow.holds Try.pinned (OpenSpec.upto bcfourRampSpec)

/-- 'swatchlaw07.BcfourBack', WHERE WHAT IT READS IS OF BULK AT MOST 1048576: true; the input reads as it did. -/
def bcfourBackUptoRow : OpenClaim := { program := "ytjmdnghdbfmijaa", sum := "365e25fba7c56d95f5bd1e0faadf52a928279461595c5a9c525171b285c799bd", func := "swatch/swatchlaw07.BcfourBack", spec := "bcfourBack", unfollowed := true, recurses := true, apart := false, narrowed := true }
def BcfourBackUptoSaid : Prop := bcfourBackUptoRow.holds Try.pinned (OpenSpec.upto bcfourBackSpec)

end Rows
end Go.Proofs.Ytjmdnghdbfmijaa
