/- The framework AE, part 10: slices cut; lengths; the greater and the less of numbers; and what else leaves memory alone, all together. -/
import Derived.Test.YtaogfbhifeobmaaFw9
set_option linter.unusedVariables false
set_option linter.unusedSimpArgs false
namespace Go.AE
open Go Go.RowKit

/-- A bound: must it be asked that it is not below 0; and it. -/
def bnd (d : Nat) : Option AV → Option (Bool × Nat)
  | none => some (true, d)
  | some (.int _ (some m) _) => some (decide (0 ≤ m), m.toNat)
  | some (.int _ none i) => some (decide (0 ≤ i), i.toNat)
  | _ => none

def psub (h l : Nat) : Nat := match l with | 0 => h | l + 1 => h - (l + 1)
theorem psub_eq (h l : Nat) : psub h l = h - l := by cases l <;> simp [psub]

def leO (o : Option AV) (l h : Nat) : Bool := match o with | none => true | some _ => decide (l ≤ h)

def aslice (P : Program) (t : TypeId) (x : AV) (lo hi mx : Option AV) : Option (Bool × AV) :=
  match x with
  | .sl b off len sz c =>
    if elemOfSl P t = some sz then
      match bnd 0 lo, bnd len hi with
      | some (r1, l), some (r2, h) =>
        match mx with
        | none => some (r1 && (r2 && (leO lo l h && leO hi h len)), .sl b (padd off (mul1 l sz)) (psub h l) sz
            (match lo, hi with | none, none => c | some _, none => if c = .full then .full else .any | _, _ => .any))
        | some m => match bnd 0 (some m) with
          | some (r3, mm) => if hi.isSome then some (r1 && (r2 && (r3 && (leO lo l h && (decide (h ≤ len) && decide (mm = h))))), .sl b (padd off (mul1 l sz)) (psub h l) sz .full) else none
          | none => none
      | _, _ => none
    else none
  | .ptr b base none room _ =>
    match lo, hi, mx with
    | none, none, none => match elemOfArr P t with
      | some (n, s, _) => if n * s ≤ room ∧ n ≤ 4294967296 then some (true, .sl b base n s .full) else none
      | none => none
    | _, _, _ => none
  | _ => none

theorem run_bnd {P : Program} {M : List Place} {ρ : Operand → Value} {g : Operand → AV} (hg : ∀ x, RelV M (g x) (ρ x)) {d : Nat} {o : Option Operand} {r : Bool} {l : Nat} (h : bnd d (o.map g) = some (r, l)) (hr : r = true) (code : BoundsCode) {y : Nat}
    (hy : ∀ x, o = some x → l ≤ y) (w : World) : (match (o.map ρ : Option Value) with | some v => Instr.sliceBound v y code | none => pure d).run P w = .ok l w := by
  subst hr
  cases o with
  | none => simp only [Option.map_none, bnd, Option.some.injEq, Prod.mk.injEq] at h; simp [h.2]
  | some x =>
    have hx := hg x
    have hly := hy x rfl
    simp only [Option.map_some] at h ⊢
    cases hgx : g x <;> rw [hgx] at h hx <;> try (simp only [bnd, reduceCtorEq] at h; done)
    rename_i k lit i
    obtain ⟨e, hk, hl⟩ := relV_int hx
    cases lit with
    | none =>
      simp only [bnd, Option.some.injEq, Prod.mk.injEq, decide_eq_true_eq] at h
      obtain ⟨h0, rfl⟩ := h
      simp [e, Instr.sliceBound, asIntOf, h0, show i ≤ (y : Int) by omega]
    | some m =>
      have := hl m rfl
      subst this
      simp only [bnd, Option.some.injEq, Prod.mk.injEq, decide_eq_true_eq] at h
      obtain ⟨h0, rfl⟩ := h
      simp [e, Instr.sliceBound, asIntOf, h0, show i ≤ (y : Int) by omega]

theorem leO_spec {g : Operand → AV} {o : Option Operand} {l h : Nat} (hh : leO (o.map g) l h = true) : ∀ x, o = some x → l ≤ h := by
  intro x hx
  subst hx
  simpa [leO] using hh

theorem bnd_none {g : Operand → AV} {d : Nat} {o : Option Operand} {r : Bool} {l : Nat} (h : bnd d (o.map g) = some (r, l)) : o = none → l = d := by
  intro ho
  subst ho
  simp only [Option.map_none, bnd, Option.some.injEq, Prod.mk.injEq] at h
  exact h.2.symm

theorem has_le {a b : Nat} (h : IntKind.i64.has (b : Int)) (hab : a ≤ b) : IntKind.i64.has (a : Int) := by
  rw [has_iff] at *
  simp only [loB, hiB] at *
  omega

theorem aslice_sound {P : Program} {M : List Place} {ρ : Operand → Value} {g : Operand → AV} (hg : ∀ x, RelV M (g x) (ρ x)) {o : Oper} {t : TypeId} {x : Operand} {lo hi mx : Option Operand} (ho : o.op = .slice t x lo hi mx)
    {req : Bool} {r : AV} (h : aslice P t (g x) (lo.map g) (hi.map g) (mx.map g) = some (req, r)) (hreq : req = true) : ∃ v, RelV M r v ∧ ∀ w, (execOp ρ o).run P w = .ok (.value v) w := by
  subst hreq
  have hx := hg x
  unfold aslice at h
  split at h
  · rename_i b off len sz c hgx
    rw [hgx] at hx
    simp only [RelV, RelX] at hx
    obtain ⟨pl, A, cap, hpl, hv, hb, hcap, hnil, hnn, hfull, hown, hwhole, hlen⟩ := hx
    have hv : ρ x = .slice A len cap := by simpa using hv
    split at h
    · rename_i he
      obtain ⟨e, hu, hs⟩ := elemOfSl_spec he
      split at h
      · rename_i r1 l r2 hh h1 h2
        -- the two forms alike
        have fin : ∀ (m : Nat) (c' : CapK), r1 = true → r2 = true → l ≤ hh → hh ≤ len → hh ≤ m → m ≤ cap →
            (∀ w, (match (mx.map ρ : Option Value) with | some v => Instr.sliceBound v cap .slice3Acap | none => pure cap).run P w = .ok m w) →
            (∀ w, (match hi.map ρ, mx.map ρ with | some v, some _ => Instr.sliceBound v m .slice3B | some v, none => Instr.sliceBound v m .sliceAcap | none, none => pure len | none, some _ => stuck "Slice: max without high").run P w = .ok hh w) →
            (∀ w code, (match (lo.map ρ : Option Value) with | some v => Instr.sliceBound v hh code | none => pure 0).run P w = .ok l w) →
            (c' = .full → m = hh) → (c' = .own → c = .own ∧ l = 0 ∧ hh = len ∧ m = cap) → (c' = .whole → c = .whole ∧ l = 0 ∧ hh = len) →
            ∃ v, RelV M (.sl b (padd off (mul1 l sz)) (psub hh l) sz c') v ∧ ∀ w, (execOp ρ o).run P w = .ok (.value v) w := by
          intro m c' e1 e2 hlh hhl hhm hmc run3 run2 run1 cf co cw
          refine ⟨.slice (if m = l then A else A.map (·.add (l * sz))) (hh - l) (m - l), ?_, fun w => ?_⟩
          · simp only [RelV, RelX, padd_eq, mul1_eq, psub_eq]
            have hmul : l * sz + (hh - l) * sz ≤ len * sz := by
              rw [← Nat.add_mul]
              exact Nat.mul_le_mul_right sz (by omega)
            refine ⟨pl, _, m - l, hpl, rfl, by omega, by omega, fun hn => ?_, fun hn => ?_, fun hc => ?_, fun hc => ?_, fun hc => ?_, has_le hlen (by omega)⟩
            · obtain ⟨a1, a2⟩ := hnil hn
              refine ⟨fun hc => by rw [a1 (co hc).1]; simp, by omega⟩
            · obtain ⟨a1, a2⟩ := hnn hn
              refine ⟨?_, fun hc => ?_⟩
              · split
                · exact a1
                · cases A with
                  | none => exact absurd rfl a1
                  | some A => simp
              · rcases hc with hc | hc
                · have hA := a2 (.inl (by omega))
                  rw [if_neg (by omega), hA]
                  simp [addr_add, Nat.add_assoc]
                · obtain ⟨d1, d2, d3, d4⟩ := co hc
                  have hA := a2 (.inr d1)
                  subst d2
                  split
                  · rw [hA]; simp
                  · rw [hA]; simp [Addr.add]
            · have := cf hc; omega
            · obtain ⟨d1, d2, d3, d4⟩ := co hc
              obtain ⟨f1, f2, f3, f4⟩ := hown d1
              subst d2; subst d3; subst d4
              simp only [Nat.zero_mul, Nat.sub_zero]
              exact ⟨by omega, f2, f3, f4⟩
            · obtain ⟨d1, d2, d3⟩ := cw hc
              obtain ⟨f1, f2⟩ := hwhole d1
              subst d2; subst d3
              simp only [Nat.zero_mul, Nat.sub_zero]
              exact ⟨by omega, f2⟩
          · have hb3 := run3 w
            have hb2 := run2 w
            have hb1 := run1 w
            have hbs : (Instr.sliceBounds true len cap (lo.map ρ) (hi.map ρ) (mx.map ρ)).run P w = .ok (l, hh, m) w := by
              cases lo <;> cases hi <;> cases mx <;> simp only [Option.map_none, Option.map_some, Sem.run_pure, Result.ok.injEq, and_true] at hb1 hb2 hb3 <;>
                simp [Instr.sliceBounds, hb1, hb2, hb3] <;> (first | exact ⟨hb1 .sliceB, hb2, hb3⟩ | exact ⟨hb2, hb3⟩ | exact ⟨hb1 .sliceB, hb3⟩ | exact hb3 | exact hb1 .sliceB | (exfalso; simp [stuck] at hb2))
            simp [execOp, ho, hv, Instr.sliceAt, run_underlying hu, Instr.slice, hbs, run_sizeT hs]
        split at h
        · rename_i hmx
          have hmx : mx = none := by cases mx <;> simp at hmx ⊢
          subst hmx
          simp only [Option.some.injEq, Prod.mk.injEq, Bool.and_eq_true] at h
          obtain ⟨⟨e1, e2, e3, e4⟩, hr⟩ := h
          have hlo := leO_spec e3
          have hhi := leO_spec e4
          have hlh : l ≤ hh := by
            cases lo with
            | none => have := bnd_none h1 rfl; omega
            | some z => exact hlo z rfl
          have hhl : hh ≤ len := by
            cases hi with
            | none => have := bnd_none h2 rfl; omega
            | some z => exact hhi z rfl
          rw [← hr]
          refine fin cap _ e1 e2 hlh hhl (by omega) (Nat.le_refl _) (fun w => by simp) (fun w => ?_) (fun w code => run_bnd hg h1 e1 code (fun z hz => hlo z hz) w) (fun hc => ?_) (fun hc => ?_) (fun hc => ?_)
          · have := run_bnd (P := P) hg h2 e2 .sliceAcap (y := cap) (fun z hz => by have := hhi z hz; omega) w
            cases hi with
            | none => simpa using this
            | some z => simpa using this
          · cases lo <;> cases hi <;> simp at hc
            · have := bnd_none h2 rfl; have := hfull hc; omega
            · have := bnd_none h2 rfl; have := hfull hc; omega
          · cases lo <;> cases hi <;> simp at hc
            · exact ⟨hc, bnd_none h1 rfl, bnd_none h2 rfl, rfl⟩
            · split at hc <;> cases hc
          · cases lo <;> cases hi <;> simp at hc
            · exact ⟨hc, bnd_none h1 rfl, bnd_none h2 rfl⟩
            · split at hc <;> cases hc
        · rename_i mv hmx
          obtain ⟨mo, rfl⟩ : ∃ mo, mx = some mo := by cases mx <;> simp at hmx ⊢
          simp only [Option.map_some, Option.some.injEq] at hmx
          split at h
          · rename_i r3 mm h3
            split at h
            · rename_i hsome
              obtain ⟨ho', rfl⟩ : ∃ ho', hi = some ho' := by cases hi <;> simp at hsome ⊢
              simp only [Option.some.injEq, Prod.mk.injEq, Bool.and_eq_true, decide_eq_true_eq] at h
              obtain ⟨⟨e1, e2, hr3, e3, e4, e5⟩, hr⟩ := h
              subst e5
              have hlo := leO_spec e3
              have hlh : l ≤ mm := by
                cases lo with
                | none => have := bnd_none h1 rfl; omega
                | some z => exact hlo z rfl
              rw [← hr]
              rw [← hmx] at h3
              have h3' : bnd 0 ((some mo).map g) = some (r3, mm) := h3
              refine fin mm .full e1 e2 hlh e4 (Nat.le_refl _) (by omega) (fun w => ?_) (fun w => ?_) (fun w code => run_bnd hg h1 e1 code (fun z hz => hlo z hz) w) (fun _ => rfl) (fun hc => by cases hc) (fun hc => by cases hc)
              · have := run_bnd (P := P) hg h3' hr3 .slice3Acap (y := cap) (fun z hz => by omega) w
                simpa using this
              · have := run_bnd (P := P) hg h2 e2 .slice3B (y := mm) (fun z hz => by omega) w
                simpa using this
            · cases h
          · cases h
      · cases h
    · cases h
  · rename_i b base room span hgx
    rw [hgx] at hx
    simp only [RelV, RelX] at hx
    obtain ⟨pl, hpl, hnil, hv, hd1, hd2⟩ := hx
    simp only [Option.getD_none, Nat.add_zero, Nat.zero_add] at hv hd1
    have hv : ρ x = .pointer (some ⟨pl.blk, pl.off + base, none⟩) := by simpa using hv
    split at h
    · rename_i h1 h2 h3
      have h1 : lo = none := by cases lo <;> simp at h1 ⊢
      have h2 : hi = none := by cases hi <;> simp at h2 ⊢
      have h3 : mx = none := by cases mx <;> simp at h3 ⊢
      subst h1; subst h2; subst h3
      split at h
      · rename_i n s gg he
        obtain ⟨e, hu, hs, _, _⟩ := elemOfArr_spec he
        split at h
        · rename_i hr
          cases h
          refine ⟨.slice (some ⟨pl.blk, pl.off + base, none⟩) n n, ?_, fun w => ?_⟩
          · simp only [RelV, RelX]
            refine ⟨pl, _, n, hpl, rfl, by omega, Nat.le_refl _, fun hn => (by rw [hnil] at hn; cases hn), fun _ => ⟨by simp, fun _ => rfl⟩, fun _ => rfl, fun hc => (by cases hc), fun hc => (by cases hc), ?_⟩
            rw [has_iff]
            simp only [loB, hiB]
            omega
          · simp [execOp, ho, hv, Instr.sliceAt, run_underlying hu, Instr.sureAddr, Instr.sliceBounds, run_sizeT hs, Addr.add]
        · cases h
      · cases h
    · cases h
  · cases h

/-! ### lengths -/

def alen (P : Program) (t : TypeId) (x : AV) : Option AV :=
  match P.underlying t, x with
  | some (.slice _), .sl _ _ len _ _ => some (.int .i64 none len)
  | some (.slice _), .nils => some (.int .i64 (some 0) 0)
  | some (.array n _), _ => if n ≤ 4294967296 then some (.int .i64 (some n) n) else none
  | _, _ => none

theorem alen_sound {P : Program} {M : List Place} {ρ : Operand → Value} {o : Oper} {c : Call} (ho : o.op = .call c) (hc : c.callee = .builtin .len) {x : Operand} (ha : c.args = #[x]) {t : TypeId} (ht : c.argTypes[0]? = some t) {a : AV} (hx : RelV M a (ρ x))
    {r : AV} (h : alen P t a = some r) : ∃ v, RelV M r v ∧ ∀ w, (execOp ρ o).run P w = .ok (.value v) w := by
  unfold alen at h
  split at h
  · rename_i e b off len sz cc hu
    cases h
    simp only [RelV, RelX] at hx
    obtain ⟨pl, A, cap, hpl, hv, _, _, _, _, _, _, _, hlen⟩ := hx
    have hv : ρ x = .slice A len cap := by simpa using hv
    refine ⟨.int .i64 len, RelX_int.2 ⟨rfl, hlen, fun m hm => by cases hm⟩, fun w => ?_⟩
    simp [execOp, ho, resolve, hc, ha, invoke, builtin, Builtin.len_, ht, hv, run_underlying hu, goInt]
  · rename_i e hu
    cases h
    have hv : ρ x = .slice none 0 0 := by simpa [RelV, RelX] using hx
    refine ⟨.int .i64 0, RelX_int.2 ⟨rfl, by rw [has_iff]; simp [loB, hiB], fun m hm => by cases hm; rfl⟩, fun w => ?_⟩
    simp [execOp, ho, resolve, hc, ha, invoke, builtin, Builtin.len_, ht, hv, run_underlying hu, goInt]
  · rename_i n e hu
    split at h
    · cases h
      refine ⟨.int .i64 n, RelX_int.2 ⟨rfl, by rw [has_iff]; simp only [loB, hiB]; omega, fun m hm => by cases hm; rfl⟩, fun w => ?_⟩
      simp [execOp, ho, resolve, hc, ha, invoke, builtin, Builtin.len_, ht, run_underlying hu, goInt]
    · cases h
  · cases h

/-! ### the greater and the less -/

def mm1 (mx : Bool) (k : IntKind) (lx : Option Int) (x : Int) (ly : Option Int) (y : Int) : AV :=
  if mx then litI k (lift2 max lx ly) (max x y) else litI k (lift2 min lx ly) (min x y)

def amm (mx : Bool) : AV → List AV → Option AV
  | a, [] => some a
  | .int k lx x, .int k' ly y :: r => if k' = k then amm mx (mm1 mx k lx x ly y) r else none
  | _, _ => none

theorem mm1_rel {M : List Place} {mx : Bool} {k : IntKind} {lx ly : Option Int} {x y : Int} (hx : k.has x) (hy : k.has y) (h1 : ∀ m, lx = some m → x = m) (h2 : ∀ m, ly = some m → y = m) :
    RelV M (mm1 mx k lx x ly y) (.int k (if mx then max x y else min x y)) := by
  have hm : k.has (max x y) ∧ k.has (min x y) := by
    rw [has_iff, has_iff] at *
    omega
  cases mx
  · refine relV_litI hm.2 (fun m hq => ?_)
    obtain ⟨a, b, ha, hb, e⟩ := lift2_spec hq
    rw [e, h1 a ha, h2 b hb]
  · refine relV_litI hm.1 (fun m hq => ?_)
    obtain ⟨a, b, ha, hb, e⟩ := lift2_spec hq
    rw [e, h1 a ha, h2 b hb]

theorem amm_rel {P : Program} {M : List Place} {mx : Bool} : ∀ {as : List AV} {vs : List Value} {a r : AV} {v : Value}, RelV M a v → RelL M as vs → amm mx a as = some r →
    ∃ u, RelV M r u ∧ ∀ w, (vs.foldlM (if mx then Builtin.max2 else Builtin.min2) v).run P w = .ok u w
  | [], vs, a, r, v, ha, hl, h => by
    rw [RelL_nil] at hl
    subst hl
    unfold amm at h
    cases h
    exact ⟨v, ha, fun w => by simp⟩
  | c :: as, vs, a, r, v, ha, hl, h => by
    obtain ⟨u, t, rfl, hu, ht⟩ := RelL_cons.1 hl
    unfold amm at h
    split at h
    · rename_i heq; cases heq
    · rename_i k lx x k' ly y r' heq
      injection heq with e1 e2
      subst e1; subst e2
      split at h
      · rename_i hk
        subst hk
        obtain ⟨e1, h1, l1⟩ := relV_int ha
        obtain ⟨e2, h2, l2⟩ := relV_int hu
        obtain ⟨z, hz, hrun⟩ := amm_rel (P := P) (mm1_rel (mx := mx) h1 h2 l1 l2) ht h
        refine ⟨z, hz, fun w => ?_⟩
        have hstep : ((if mx then Builtin.max2 else Builtin.min2) v u).run P w = .ok (.int k' (if mx then max x y else min x y)) w := by
          rw [e1, e2]
          cases mx
          · simp only [Bool.false_eq_true, if_false, Builtin.min2, Sem.run_pure, Result.ok.injEq, and_true, Value.int.injEq, true_and]
            split <;> omega
          · simp only [if_true, Builtin.max2, Sem.run_pure, Result.ok.injEq, and_true, Value.int.injEq, true_and]
            split <;> omega
        rw [List.foldlM_cons, Sem.run_bind, hstep]
        exact hrun w
      · cases h
    · cases h

theorem relL_map {M : List Place} {g : Operand → AV} {ρ : Operand → Value} (h : ∀ x, RelV M (g x) (ρ x)) : ∀ (l : List Operand), RelL M (l.map g) (l.map ρ)
  | [] => RelL_nil.2 rfl
  | x :: r => RelL_cons.2 ⟨ρ x, r.map ρ, rfl, h x, relL_map h r⟩

theorem amm_sound {P : Program} {M : List Place} {ρ : Operand → Value} {g : Operand → AV} (hg : ∀ x, RelV M (g x) (ρ x)) {o : Oper} {c : Call} (ho : o.op = .call c) {mx : Bool} (hc : c.callee = .builtin (if mx then .max else .min)) {x : Operand} {xs : List Operand}
    (ha : c.args.toList = x :: xs) {r : AV} (h : amm mx (g x) (xs.map g) = some r) : ∃ v, RelV M r v ∧ ∀ w, (execOp ρ o).run P w = .ok (.value v) w := by
  obtain ⟨u, hu, hrun⟩ := amm_rel (P := P) (hg x) (relL_map hg xs) h
  refine ⟨u, hu, fun w => ?_⟩
  have hargs : (c.args.map ρ).toList = ρ x :: xs.map ρ := by simp [ha]
  cases mx
  · have := hrun w
    simp only [Bool.false_eq_true, if_false] at this hc
    simp only [execOp, ho, resolve, hc, invoke, builtin, Builtin.min_, hargs, Sem.run_bind, Sem.run_pure, Result.andThen_ok, this]
  · have := hrun w
    simp only [if_true] at this hc
    simp only [execOp, ho, resolve, hc, invoke, builtin, Builtin.max_, hargs, Sem.run_bind, Sem.run_pure, Result.andThen_ok, this]

/-! ### all that leaves memory alone -/

theorem mkS_append (x y : List Int) : mkS x ++ mkS y = mkS (x ++ y) := by
  apply ByteArray.ext
  simp [mkS, ByteArray.data_append]

def astr : AV → AV → Option (Bool × AV)
  | .str x, .str y => some (decide (x.length + y.length ≤ 9223372036854775807), .str (x ++ y))
  | _, _ => none

theorem astr_sound {P : Program} {M : List Place} {ρ : Operand → Value} {o : Oper} {t t' : TypeId} {x y : Operand} (ho : o.op = .binOp .add t x y t') {a b : AV} (hx : RelV M a (ρ x)) (hy : RelV M b (ρ y))
    {r : AV} (h : astr a b = some (true, r)) : ∃ v, RelV M r v ∧ ∀ w, (execOp ρ o).run P w = .ok (.value v) w := by
  unfold astr at h
  split at h
  · rename_i x1 y1
    simp only [Option.some.injEq, Prod.mk.injEq, decide_eq_true_eq] at h
    obtain ⟨hl, rfl⟩ := h
    simp only [RelV, RelX] at hx hy
    have e1 : ρ x = .string (mkS x1) := by simpa using hx.1
    have e2 : ρ y = .string (mkS y1) := by simpa using hy.1
    refine ⟨.string (mkS (x1 ++ y1)), ?_, fun w => ?_⟩
    · simp only [RelV, RelX]
      refine ⟨trivial, fun z hz => (List.mem_append.1 hz).elim (hx.2.1 z) (hy.2.1 z), ?_⟩
      rw [has_iff]
      simp only [loB, hiB, List.length_append]
      omega
    · have h1 : binOp .add t (.string (mkS x1)) (.string (mkS y1)) = Op.stringOp .add (mkS x1) (mkS y1) := rfl
      have h2 : ¬ ((((mkS x1).size + (mkS y1).size : Nat) : Int) > IntKind.i64.max) := by
        rw [mkS_size, mkS_size, show IntKind.i64.max = 9223372036854775807 from rfl]
        omega
      have h3 : Op.stringOp .add (mkS x1) (mkS y1) = pure (.string (mkS (x1 ++ y1))) := by
        simp only [Op.stringOp]
        rw [if_neg h2, mkS_append]
      rw [h3] at h1
      simp [execOp, ho, e1, e2, eqGuard, h1]
  · cases h

def abin (P : Program) (op : BinOp) (t : TypeId) (a b : AV) : Option (Bool × AV) :=
  match a, b with
  | .int k lx x, .int k' ly y => match op with
    | .shl | .shr => ashift op k lx x k' ly y
    | _ => if k' = k then abinI op k lx x ly y else none
  | _, _ => match op with
    | .eql => (aeq P t a b).map fun r => (true, .bool none r)
    | .neq => (aeq P t a b).map fun r => (true, .bool none (!r))
    | .add => astr a b
    | _ => none

theorem abin_sound {P : Program} {M : List Place} {ρ : Operand → Value} {o : Oper} {op : BinOp} {t t' : TypeId} {x y : Operand} (ho : o.op = .binOp op t x y t') {a b : AV} (hx : RelV M a (ρ x)) (hy : RelV M b (ρ y))
    {req : Bool} {r : AV} (h : abin P op t a b = some (req, r)) (hreq : req = true) : ∃ v, RelV M r v ∧ ∀ w, (execOp ρ o).run P w = .ok (.value v) w := by
  unfold abin at h
  split at h
  · rename_i k lx m k' ly n
    obtain ⟨e1, h1, l1⟩ := relV_int hx
    obtain ⟨e2, h2, l2⟩ := relV_int hy
    split at h
    · exact ashift_sound ho e1 e2 h1 h2 l1 l2 h hreq
    · exact ashift_sound ho e1 e2 h1 h2 l1 l2 h hreq
    · split at h
      · rename_i hk
        subst hk
        exact abinI_sound ho e1 e2 h1 l1 l2 h hreq
      · cases h
  · split at h
    · simp only [Option.map_eq_some_iff, Prod.mk.injEq] at h
      obtain ⟨q, hq, _, rfl⟩ := h
      exact ⟨.bool q, by simp [RelV, RelX], fun w => by simpa using aeq_sound hx hy hq .eql (.inl rfl) ho w⟩
    · simp only [Option.map_eq_some_iff, Prod.mk.injEq] at h
      obtain ⟨q, hq, _, rfl⟩ := h
      exact ⟨.bool (!q), by simp [RelV, RelX], fun w => by simpa using aeq_sound hx hy hq .neq (.inr rfl) ho w⟩
    · subst hreq
      exact astr_sound ho hx hy h
    · cases h

def aextract (a : AV) (i : Nat) : Option AV :=
  match a with
  | .tup vs => vs[i]?
  | _ => none

theorem relL_get {M : List Place} : ∀ {xs : List AV} {vs : List Value} {i : Nat} {x : AV}, RelL M xs vs → xs[i]? = some x → ∃ v, vs[i]? = some v ∧ RelV M x v
  | [], _, _, _, _, h => by simp at h
  | c :: xs, vs, i, x, hl, h => by
    obtain ⟨v, t, rfl, hv, ht⟩ := RelL_cons.1 hl
    cases i with
    | zero => simp at h; subst h; exact ⟨v, rfl, hv⟩
    | succ i => exact (relL_get ht (by simpa using h)).imp fun u hu => ⟨by simpa using hu.1, hu.2⟩

def isIface (P : Program) (t : TypeId) : Bool :=
  match P.underlying t with
  | some (.interface _) => true
  | some _ => false
  | none => true

/-- An operation that leaves memory alone: what must hold, and what it comes to. -/
def aq (P : Program) (H : Heap) (g : Operand → AV) : Op → Option (Bool × AV)
  | .move x | .assign x => some (true, g x)
  | .pick c a b => (apick (g c) (g a) (g b)).map (true, ·)
  | .load t a => (aload P H t (g a)).map (true, ·)
  | .binOp op t x y _ => abin P op t (g x) (g y)
  | .unOp op _ x => (aun op (g x)).map (true, ·)
  | .convert s d x => (aconv P s d (g x)).map (true, ·)
  | .build t parts => (abuild P t (parts.toList.map fun z => (z.1, g z.2))).map (true, ·)
  | .slice t x lo hi mx => aslice P t (g x) (lo.map g) (hi.map g) (mx.map g)
  | .fieldAddr t x f => (afieldAddr P t f (g x)).map (true, ·)
  | .field t x f => (afield P t f (g x)).map (true, ·)
  | .indexAddr t x i => aindexAddr P t (g x) (g i)
  | .index t x i => aindex P t (g x) (g i)
  | .extract x i => (aextract (g x) i).map (true, ·)
  | .makeFunc (.func f) first cap => some (true, .fn f (first.toList.map g) (cap.toList.map g))
  | .makeInterface t x => if isIface P t then none else some (true, .iface t (g x))
  | .nilCheck x => match g x with
    | .ptr b base dyn room span => some (true, .ptr b base dyn room span)
    | .rptr b off room => some (true, .rptr b off room)
    | .fn f a c => some (true, .fn f a c)
    | _ => none
  | .call c => match c.callee with
    | .builtin .len => match c.args.toList, c.argTypes[0]? with
      | [x], some t => (alen P t (g x)).map (true, ·)
      | _, _ => none
    | .builtin .min => match c.args.toList with
      | x :: xs => (amm false (g x) (xs.map g)).map (true, ·)
      | _ => none
    | .builtin .max => match c.args.toList with
      | x :: xs => (amm true (g x) (xs.map g)).map (true, ·)
      | _ => none
    | _ => none
  | _ => none

/-- All but reads of memory: in whatever world. -/
theorem aq_pure {P : Program} {M : List Place} {H : Heap} {ρ : Operand → Value} {g : Operand → AV} (hg : ∀ x, RelV M (g x) (ρ x)) {o : Oper} (hnl : ∀ t a, o.op ≠ .load t a)
    {req : Bool} {r : AV} (h : aq P H g o.op = some (req, r)) (hreq : req = true) : ∃ v, RelV M r v ∧ ∀ w', (execOp ρ o).run P w' = .ok (.value v) w' := by
  have weak : (∃ v, RelV M r v ∧ ∀ w', (execOp ρ o).run P w' = .ok (.value v) w') → ∃ v, RelV M r v ∧ ∀ w', (execOp ρ o).run P w' = .ok (.value v) w' := id
  have un : ∀ {α : Type} {a : Option α} {f : α → AV}, a.map (fun x => (true, f x)) = some (req, r) → ∃ x, a = some x ∧ f x = r := by
    intro α a f ha
    simp only [Option.map_eq_some_iff, Prod.mk.injEq] at ha
    obtain ⟨x, h1, _, h2⟩ := ha
    exact ⟨x, h1, h2⟩
  cases hop : o.op <;> rw [hop] at h <;> try (cases h; done)
  case move x => cases h; exact weak ⟨ρ x, hg x, fun w' => by simp [execOp, hop]⟩
  case assign x => cases h; exact weak ⟨ρ x, hg x, fun w' => by simp [execOp, hop]⟩
  case pick c a b =>
    obtain ⟨x, h1, rfl⟩ := un h
    exact weak (apick_sound hop (hg c) (hg a) (hg b) h1)
  case load t a => exact absurd hop (hnl t a)
  case binOp op t x y t' => exact weak (abin_sound hop (hg x) (hg y) h hreq)
  case unOp op t x =>
    obtain ⟨z, h1, rfl⟩ := un h
    exact weak (aun_sound hop (hg x) h1)
  case convert s d x =>
    obtain ⟨z, h1, rfl⟩ := un h
    exact weak (aconv_sound hop (hg x) h1)
  case build t parts =>
    obtain ⟨z, h1, rfl⟩ := un h
    exact weak (abuild_sound hg hop h1)
  case slice t x lo hi mx => exact weak (aslice_sound hg hop h hreq)
  case fieldAddr t x f =>
    obtain ⟨z, h1, rfl⟩ := un h
    exact weak (afieldAddr_sound hop (hg x) h1)
  case field t x f =>
    obtain ⟨z, h1, rfl⟩ := un h
    exact weak (afield_sound hop (hg x) h1)
  case indexAddr t x i => exact weak (aindexAddr_sound hop (hg x) (hg i) h hreq)
  case index t x i => exact weak (aindex_sound hop (hg x) (hg i) h hreq)
  case extract x i =>
    obtain ⟨z, h1, rfl⟩ := un h
    have hx := hg x
    unfold aextract at h1
    split at h1
    · rename_i vs hgx
      rw [hgx] at hx
      simp only [RelV, RelX] at hx
      obtain ⟨us, e, hl⟩ := hx
      have e : ρ x = .tuple us := by simpa using e
      obtain ⟨u, hu, hr⟩ := relL_get hl h1
      exact weak ⟨u, hr, fun w' => by simp [execOp, hop, e, Instr.extract, show us[i]? = some u by simpa using hu]⟩
    · cases h1
  case makeFunc fn first cap =>
    cases fn <;> try (cases h; done)
    rename_i f
    simp only [aq, Option.some.injEq, Prod.mk.injEq] at h
    obtain ⟨_, rfl⟩ := h
    refine weak ⟨.func (.func f) (first.map ρ) (cap.map ρ), ?_, fun w' => by simp [execOp, hop, Instr.makeFunc]⟩
    simp only [RelV, RelX]
    exact ⟨_, _, rfl, by simpa using relL_map hg first.toList, by simpa using relL_map hg cap.toList⟩
  case makeInterface t x =>
    simp only [aq] at h
    split at h
    · cases h
    · rename_i hi
      simp only [Option.some.injEq, Prod.mk.injEq] at h
      obtain ⟨_, rfl⟩ := h
      refine weak ⟨.iface t (ρ x), ?_, fun w' => ?_⟩
      · simp only [RelV, RelX]
        exact ⟨_, rfl, hg x⟩
      · unfold isIface at hi
        cases hu : P.underlying t with
        | none => simp [hu] at hi
        | some d => cases d <;> simp [hu] at hi <;> simp [execOp, hop, Instr.makeInterface, run_underlying hu]
  case nilCheck x =>
    have hx := hg x
    simp only [aq] at h
    split at h
    · rename_i b base dyn room span hgx
      simp only [Option.some.injEq, Prod.mk.injEq] at h
      obtain ⟨_, rfl⟩ := h
      rw [hgx] at hx
      have hx' := hx
      simp only [RelV, RelX] at hx'
      obtain ⟨pl, _, _, e, _⟩ := hx'
      have e : ρ x = _ := List.cons.inj e |>.1
      exact weak ⟨ρ x, hx, fun w' => by simp [execOp, hop, e]⟩
    · rename_i b off room hgx
      simp only [Option.some.injEq, Prod.mk.injEq] at h
      obtain ⟨_, rfl⟩ := h
      rw [hgx] at hx
      have hx' := hx
      simp only [RelV, RelX] at hx'
      obtain ⟨pl, _, _, e, _⟩ := hx'
      have e : ρ x = _ := List.cons.inj e |>.1
      exact weak ⟨ρ x, hx, fun w' => by simp [execOp, hop, e]⟩
    · rename_i f a c hgx
      simp only [Option.some.injEq, Prod.mk.injEq] at h
      obtain ⟨_, rfl⟩ := h
      rw [hgx] at hx
      have hx' := hx
      simp only [RelV, RelX] at hx'
      obtain ⟨u1, u2, e, _⟩ := hx'
      have e : ρ x = _ := List.cons.inj e |>.1
      exact weak ⟨ρ x, hx, fun w' => by simp [execOp, hop, e]⟩
    · cases h
  case call c =>
    simp only [aq] at h
    split at h
    · rename_i hc
      split at h
      · rename_i x t ha ht
        obtain ⟨z, h1, rfl⟩ := un h
        have ha' : c.args = #[x] := by
          apply Array.toList_inj.1
          simpa using ha
        exact weak (alen_sound hop hc ha' ht (hg x) h1)
      · cases h
    · rename_i hc
      split at h
      · rename_i x xs ha
        obtain ⟨z, h1, rfl⟩ := un h
        exact weak (amm_sound hg hop (mx := false) hc ha h1)
      · cases h
    · rename_i hc
      split at h
      · rename_i x xs ha
        obtain ⟨z, h1, rfl⟩ := un h
        exact weak (amm_sound hg hop (mx := true) hc ha h1)
      · cases h
    · cases h

theorem aq_sound {P : Program} {M : List Place} {H : Heap} {B : Base} {w : World} (rh : RelH M H B w) {ρ : Operand → Value} {g : Operand → AV} (hg : ∀ x, RelV M (g x) (ρ x)) {o : Oper}
    {req : Bool} {r : AV} (h : aq P H g o.op = some (req, r)) (hreq : req = true) : ∃ v, RelV M r v ∧ ∀ w', Below w.heap.size w w' → (execOp ρ o).run P w' = .ok (.value v) w' := by
  by_cases hl : ∃ t a, o.op = .load t a
  · obtain ⟨t, a, hop⟩ := hl
    rw [hop] at h
    simp only [aq, Option.map_eq_some_iff, Prod.mk.injEq] at h
    obtain ⟨x, h1, _, rfl⟩ := h
    obtain ⟨A, u, e, hu, hrun⟩ := aload_sound rh (hg a) h1
    exact ⟨u, hu, fun w' hb => by simp [execOp, hop, e, Instr.loadAt, Instr.sureAddr, hrun w' hb]⟩
  · obtain ⟨v, h1, h2⟩ := aq_pure hg (fun t a hop => hl ⟨t, a, hop⟩) h hreq
    exact ⟨v, h1, fun w' _ => h2 w'⟩

end Go.AE
