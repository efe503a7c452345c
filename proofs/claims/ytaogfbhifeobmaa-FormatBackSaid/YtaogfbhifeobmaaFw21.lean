/- The framework AE, part 21: slices.Clone, by hand: what it comes to. -/
import Derived.Test.YtaogfbhifeobmaaFw20
set_option linter.unusedVariables false
set_option linter.unusedSimpArgs false
namespace Go.AE
open Go Go.RowKit

theorem run_slice_nil {P : Program} {ρ : Operand → Value} {o : Oper} {t t' : TypeId} {e : TypeId} {x : Operand} (ho : o.op = .binOp .eql t x (.const (.slice none 0 0)) t') {A : Option Addr} {len cap : Nat} (hx : ρ x = .slice A len cap) (hy : ρ (.const (.slice none 0 0)) = .slice none 0 0) (hu : P.underlying t = some (.slice e)) (w : World) :
    (execOp ρ o).run P w = .ok (.value (.bool A.isNone)) w := by
  have h : (Op.equalIn Op.maxDepth t (.slice A len cap) (.slice none 0 0)).run P w = .ok A.isNone w := by
    rw [show Op.maxDepth = (Op.maxDepth - 1) + 1 from rfl]
    simp only [Op.equalIn, Sem.run_bind, run_underlying hu, Result.andThen_ok]
    cases A <;> rfl
  simp [execOp, ho, hx, hy, eqGuard, binOp, Op.equal, h]

/-- A code that goes on, told by its state behind it. -/
theorem wp_to {P : Program} (hP : Callable P) {cal : Cal St} (hcal : ∀ f, CalAt P f (cal f)) {qcal : QCal St} (hq : ∀ f, QCalAt P f (qcal f)) {c : Code} {st st' : St} (h : evCode P cal qcal (fun _ => none) c st (fun e s => match e with | .normal => some s | _ => none) = some st')
    {M : List Place} {B : Base} {w0 : World} {a : Go.Act} {w : World} (hr : Rel M st B w0 a w) {Q : Exit → Go.Act → World → Prop} (hn : ∀ M' a' w', Rel M' st' B w0 a' w' → Q .normal a' w') : c.wp P Q a w := by
  refine evCode_sound hP hcal hq c (fun _ _ _ h => by cases h) st _ h M a w Q hr fun e M' s a' w' (_ : ExtO true M M') hk hr' => ?_
  cases e <;> simp only [reduceCtorEq] at hk
  cases hk
  exact hn M' a' w' hr'

/-- What slices.Clone comes to. -/
def cloneF (sz : Nat) (l : List Int) : Option (List Int × Unit) :=
  cond (decide (0 + div1 l.length sz ≤ 1099511627776) && (if false = true then decide (0 < div1 l.length sz) else true)) (some (l, ())) none

abbrev k0 : Exit → St → Option St := fun e s => match e with | .normal => some s | _ => none

theorem clone_spec {P : Program} (hP : Callable P) {f : FuncId} {fn : Func} (hf : P.funcs[f]? = some fn) {k : IntKind} {sz : Nat} {R0 X REST : Code} {i1 : Nat} {o3 o4 : Oper} {t t' e : TypeId}
    (hb : fn.body = some (.seq R0 (.seq (.seq (.region i1 #[o3, o4] false) (.cond (.tmp 4) X .skip)) REST)))
    (ho4 : o4.op = .binOp .eql t (.tmp 3) (.const (.slice none 0 0)) t') (hd4 : o4.dst = some 4) (hg4 : o4.guard = none) (hg3 : o3.guard = none) (hu : P.underlying t = some (.slice e))
    (st1 st2 : List Int → St)
    (h0 : ∀ l, evCode P (evFn P (emptyEnv St) 1) (qof (emptyEnv St)) (fun _ => none) R0 ⟨[.sl 1 0 (div1 (List.length (α := Int) l) sz) sz .whole] ++ List.replicate (fn.ntmps - 1) .undef, [none, some ⟨.row k l, false, none⟩]⟩ k0 = some (st1 l))
    (h3 : ∀ l, evExec P (evFn P (emptyEnv St) 1) o3 (st1 l) some = some (st2 l))
    (hs3 : ∀ l, (st2 l).tmps.getD 3 .undef = .sl 1 0 (div1 (List.length (α := Int) l) sz) sz .whole ∧ (st2 l).heap = [none, some ⟨.row k l, false, none⟩])
    (hlen : ∀ l, 4 < (st2 l).tmps.length)
    (hX : ∀ l, evCode P (evFn P (emptyEnv (D (tysO [.row k sz]))) 1) (qof (emptyEnv _)) (fun _ => none) X ((st2 l).put (some 4) (.bool (some true) true)) (fun e st => match e with
      | .ret => (match aresL P st fn.results.toList with | some l => endO [.row k sz] l st.heap | none => none) | _ => none) = some ([], ()))
    (hR : ∀ l, evCode P (evFn P (emptyEnv (D (tysO [.row k sz]))) 1) (qof (emptyEnv _)) (fun _ => none) REST ((st2 l).put (some 4) (.bool (some false) false)) (fun e st => match e with
      | .ret => (match aresL P st fn.results.toList with | some l => endO [.row k sz] l st.heap | none => none) | _ => none) = cloneF sz l) :
    FnSpec P f 1 [.row k sz (.slot 0) false] [.row k sz] (fun d => cloneF sz d.1) := by
  rintro ⟨l, ⟨⟩⟩ r hF M B w vs hl hH
  have hF : cloneF sz l = some r := hF
  have hl : RelL M [.sl 1 0 (div1 l.length sz) sz .whole] vs.toList := hl
  have hH : RelH M [none, some ⟨.row k l, false, none⟩] B w := hH
  have hs := relL_size hl
  simp at hs
  refine calls_of_wp hf hb ?_
  have e0 := emptyEnv_ok P St
  have e1 := emptyEnv_ok P (D (tysO [Out.row k sz]))
  have hr0 : Rel M ⟨[.sl 1 0 (div1 l.length sz) sz .whole] ++ List.replicate (fn.ntmps - 1) .undef, [none, some ⟨.row k l, false, none⟩]⟩ B w { tmps := vs ++ Array.replicate (fn.ntmps - vs.size) undef, defers := [] } w :=
    ⟨by rw [← hs]; exact relT_args hl _, rfl, hH, Beneath.refl _ _⟩
  refine wp_seq (wp_to hP (evFn_ok hP e0 1) (qof_ok e0) (h0 l) hr0 fun M1 a1 w1 hr1 => ?_)
  refine wp_seq (wp_seq (wp_region_list ?_))
  -- the first of the two
  show wpList P #[o3, o4] _ [o3, o4] a1 w1
  unfold wpList
  rw [if_pos (by simp [Region.wanted, hg3])]
  refine .inl (evExec_sound hP (evFn_ok hP e0 1) (h3 l) hr1 fun M2 st a2 w2 hE hk hr2 => ?_)
  cases hk
  -- the comparison
  unfold wpList
  rw [if_pos (by simp [Region.wanted, hg4])]
  refine .inl ?_
  obtain ⟨hs1, hs2⟩ := hs3 l
  have hv3 := hr2.tmps.2 3
  rw [hs1] at hv3
  have hv3' := hv3
  simp only [RelV, RelX] at hv3
  obtain ⟨pl, A, cap, hpl, hv, hn, hcap, hnil, hnn, _⟩ := hv3
  have hv : a2.tmps.getD 3 undef = .slice A (div1 l.length sz) cap := by simpa using hv
  have hrun := run_slice_nil (ρ := a2.eval) ho4 (by simpa [Go.Act.eval] using hv) (by simp [Go.Act.eval]) hu w2
  unfold Oper.wp
  rw [hrun, Oper.upon_value, hd4]
  unfold wpList
  have hrb : ∀ b, A.isNone = b → Rel M2 ((st2 l).put (some 4) (.bool (some b) b)) B w (a2.put (some 4) (.bool A.isNone)) w2 := by
    intro b hb
    rw [hb]
    exact hr2.put (by simp [RelV, RelX]) (some 4)
  have fin : ∀ {c : Code} {b : Bool} {Q : Exit → Go.Act → World → Prop}, A.isNone = b → evCode P (evFn P (emptyEnv (D (tysO [.row k sz]))) 1) (qof (emptyEnv _)) (fun _ => none) c ((st2 l).put (some 4) (.bool (some b) b)) (fun e st => match e with
      | .ret => (match aresL P st fn.results.toList with | some l => endO [.row k sz] l st.heap | none => none) | _ => none) = some r →
      (∀ a' w', (a'.defers = [] ∧ ∃ v, (results fn a'.tmps).run P w' = .ok v w' ∧ ∃ rs : Array Value, Ending.returned v = .returned (retV rs) ∧ Beneath B w w' ∧ RelOut B w' [.row k sz] r rs.toList) → Q .ret a' w') →
      c.wp P Q (a2.put (some 4) (.bool A.isNone)) w2 := by
    intro c b Q hb hev hQ
    refine evCode_sound hP (evFn_ok hP e1 1) (qof_ok e1) c (fun _ _ _ h => by cases h) _ _ hev M2 _ w2 _ (hrb b hb) fun e M3 st3 a3 w3 (_ : ExtO true M2 M3) hk hr3 => ?_
    cases e <;> simp only [reduceCtorEq] at hk
    split at hk
    · rename_i l3 hres
      obtain ⟨rs, g1, g2⟩ := results_run hr3.tmps hr3.heap hres
      exact hQ _ _ ⟨hr3.defers, _, g2, rs, rfl, hr3.below, relOut_of hr3.heap hk g1⟩
    · cases hk
  have ev4 : (a2.put (some 4) (.bool A.isNone)).eval (.tmp 4) = .bool A.isNone := by
    have h4 : 4 < a2.tmps.size := by rw [← hr2.tmps.1]; exact hlen l
    simp [Go.Act.eval, Go.Act.put, h4]
  cases hA : A.isNone with
  | true =>
    rw [hA] at ev4 fin
    refine wp_cond_true ev4 (fin rfl ?_ fun a' w' h => h)
    have hpn : pl.nil = true := by
      cases hp : pl.nil with
      | true => rfl
      | false => exact absurd (Option.isNone_iff_eq_none.1 hA) (hnn hp).1
    have hl0 : l = [] := by
      obtain ⟨p0, hp0, hok⟩ := hr2.heap.obj 1 ⟨.row k l, false, none⟩ (by rw [hs2]; rfl)
      rw [hpl] at hp0
      cases hp0
      rcases hok with ⟨_, hn0, hro⟩ | ⟨h, _⟩
      · simp only [RelO] at hro
        have := congrArg List.length hro.1
        exact List.length_eq_zero_iff.1 (by simpa using this.symm)
      · rw [hpn] at h; cases h
    subst hl0
    have : r = ([], ()) := by simpa [cloneF, div1_eq] using hF.symm
    subst this
    exact hX []
  | false =>
    rw [hA] at ev4 fin
    refine wp_cond_false ev4 (wp_skip ?_)
    show Code.wp P REST _ _ _
    refine fin rfl ?_ fun a' w' h => h
    rw [hR]
    exact hF

/-! the parts of its body -/
def cloneR0 (c : Code) : Code := match c with | .seq a _ => a | _ => .skip
def cloneX (c : Code) : Code := match c with | .seq _ (.seq (.seq _ (.cond _ x _)) _) => x | _ => .skip
def cloneRest (c : Code) : Code := match c with | .seq _ (.seq _ y) => y | _ => .skip
def cloneOps (c : Code) : List Oper := match c with | .seq _ (.seq (.seq (.region _ ops _) _) _) => ops.toList | _ => []
def nopOper : Oper := ⟨none, .assign (.tmp 0), 0, "", #[], none⟩
def cloneO3 (c : Code) : Oper := match cloneOps c with | [a, _] => a | _ => nopOper
def cloneO4 (c : Code) : Oper := match cloneOps c with | [_, b] => b | _ => nopOper

theorem cloneF_is {l : List Int} (h : l.length ≤ 1099511627776) : cloneF 1 l = some (l, ()) := by
  simp [cloneF, div1_eq, h]

def cloneS1 (sz : Nat) (k : IntKind) (l : List Int) : St := ⟨[.sl 1 0 (div1 l.length sz) sz .whole, .undef, .nils, .undef, .undef, .undef, .undef, .undef], [none, some ⟨.row k l, false, none⟩]⟩
def cloneS2 (sz : Nat) (k : IntKind) (l : List Int) : St := ⟨[.sl 1 0 (div1 l.length sz) sz .whole, .undef, .nils, .sl 1 0 (div1 l.length sz) sz .whole, .undef, .undef, .undef, .undef], [none, some ⟨.row k l, false, none⟩]⟩

end Go.AE
