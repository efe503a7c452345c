/- The framework AE, part 20: a law that is told. -/
import Derived.Test.YtaogfbhifeobmaaFw19
set_option linter.unusedVariables false
set_option linter.unusedSimpArgs false
namespace Go.AE
open Go Go.RowKit

/-- A told law that answers true. -/
theorem law_told {P : Program} {t : ToldF} (h : t.ok P) (ho : t.os = [.ty .bool]) {d : D (tysI t.ins [])} (hd : t.F d = some (ho ▸ (true, ()))) {M : List Place} {w : World} {vs : Array Value}
    (hl : RelL M (bldS t.n t.ins d).tmps vs.toList) (hH : RelH M (bldS t.n t.ins d).heap (Base.at w.heap.size) w) : Calls P t.f vs w fun e w' => e = .returned (.bool true) ∧ Below w.heap.size w w' := by
  obtain ⟨f, n, ins, os, F⟩ := t
  dsimp only at ho hd hl hH
  subst ho
  refine (h d _ hd M _ w vs hl hH).mono ?_
  rintro e w' ⟨rs, rfl, hb, N, Fz, _, _, _, _, _, hav, _⟩
  have hr := hav []
  obtain ⟨v, vs', hv, hx, hn⟩ := RelL_cons.1 hr
  have hn : vs' = [] := by simpa [avsO, RelL_nil] using hn
  subst hn
  refine ⟨?_, hb.below⟩
  have e1 := (relV_bool (x := true) (l := none) hx).1
  have h1 : rs = #[.bool true] := by
    apply Array.toList_inj.1
    rw [hv, e1]
  subst h1
  rfl

end Go.AE
