/- The framework AE, part 5: operations that leave memory alone. -/
import Derived.Test.YtaogfbhifeobmaaFw4
set_option linter.unusedVariables false
set_option linter.unusedSimpArgs false
namespace Go.AE
open Go Go.RowKit

def intsOf (k : IntKind) : List Value → Option (List Int)
  | [] => some []
  | .int k' n :: r => if k = k' ∧ inB k n = true then (intsOf k r).map (n :: ·) else none
  | _ => none

def ofScalar : Value → AV
  | .int k n => if inB k n then .int k (some n) n else .undef
  | .bool b => .bool (some b) b
  | .string s => if inB .i64 (bytesL s).length = true then .str (bytesL s) else .undef
  | .pointer none => .nilp
  | .slice none 0 0 => .nils
  | .nilFunc => .nilf
  | .nilIface => .niface
  | _ => .undef

def constCells (vs : List Value) : List AV :=
  match vs with
  | .int k n :: r =>
    match intsOf k (.int k n :: r) with
    | some l => [.is k l.length l]
    | none => vs.map ofScalar
  | _ => vs.map ofScalar

def ofConst : Value → AV
  | .agg vs => .agg (constCells vs.toList)
  | v => ofScalar v

theorem ofScalar_rel (M : List Place) (v : Value) : RelV M (ofScalar v) v := by
  unfold ofScalar
  split
  · split
    · rename_i h
      exact RelX_int.2 ⟨rfl, has_of_inB h, fun m hm => by cases hm; rfl⟩
    · exact relV_undef _ _
  · simp [RelV, RelX]
  · rename_i s
    split
    · rename_i hl
      simp only [RelV, RelX]
      exact ⟨by rw [mkS_bytesL], bytesL_has s, has_of_inB hl⟩
    · exact relV_undef _ _
  · simp [RelV, RelX]
  · simp [RelV, RelX]
  · simp [RelV, RelX]
  · simp [RelV, RelX]
  · exact relV_undef _ _

theorem intsOf_spec {k : IntKind} : ∀ {vs : List Value} {l : List Int}, intsOf k vs = some l → vs = l.map (.int k) ∧ ∀ x ∈ l, k.has x
  | [], l, h => by simp [intsOf] at h; subst h; simp
  | v :: r, l, h => by
    unfold intsOf at h
    split at h
    · rename_i heq; cases heq
    · rename_i k' n r' heq
      injection heq with h1 h2
      subst h1; subst h2
      split at h
      · rename_i hk
        obtain ⟨rfl, hb⟩ := hk
        simp only [Option.map_eq_some_iff] at h
        obtain ⟨l', hl, rfl⟩ := h
        obtain ⟨e1, e2⟩ := intsOf_spec hl
        refine ⟨by simp [e1], fun x hx => ?_⟩
        rcases List.mem_cons.1 hx with rfl | hx
        · exact has_of_inB hb
        · exact e2 x hx
      · cases h
    · cases h

theorem map_ofScalar_rel (M : List Place) : ∀ (vs : List Value), RelC M (vs.map ofScalar) vs
  | [] => RelC_nil.2 rfl
  | v :: r => RelC_cons.2 ⟨[v], r, rfl, ofScalar_rel M v, map_ofScalar_rel M r⟩

theorem constCells_rel (M : List Place) (vs : List Value) : RelC M (constCells vs) vs := by
  unfold constCells
  split
  · split
    · rename_i l hl
      obtain ⟨e1, e2⟩ := intsOf_spec hl
      rw [RelC_single, RelX_is]
      exact ⟨rfl, e1, e2⟩
    · exact map_ofScalar_rel M _
  · exact map_ofScalar_rel M _

theorem ofConst_rel (M : List Place) (v : Value) : RelV M (ofConst v) v := by
  unfold ofConst
  split
  · rename_i vs
    exact RelX_agg.2 ⟨vs, rfl, constCells_rel M _⟩
  · exact ofScalar_rel M v

/-- What an operand is. -/
def St.get (st : St) : Operand → AV
  | .tmp t => st.tmps.getD t .undef
  | .const v => ofConst v
  | .func f => .fn f [] []
  | .global _ => .undef

theorem get_rel {M : List Place} {st : St} {a : Act} (h : RelT M st.tmps a.tmps) (x : Operand) : RelV M (st.get x) (a.eval x) := by
  cases x with
  | tmp t => exact h.2 t
  | const v => exact ofConst_rel M v
  | global g => exact relV_undef _ _
  | func f => simp only [St.get, RelV, RelX, Act.eval]; exact ⟨#[], #[], rfl, RelL_nil.2 rfl, RelL_nil.2 rfl⟩

/-! ### The operations -/

def unInt (op : UnOp) (k : IntKind) (l : Option Int) (x : Int) : Option AV :=
  match op with
  | .neg => some (litI k (l.map fun m => fw k (0 - m)) (k.wrap (0 - x)))
  | .xor => some (litI k (l.map fun m => ixor k (if k.signed then -1 else k.max) m) (ixor k (if k.signed then -1 else k.max) x))
  | _ => none

def aun (op : UnOp) : AV → Option AV
  | .int k l x => unInt op k l x
  | .bool l x => match op with
    | .not => some (litB (l.map (!·)) (!x))
    | _ => none
  | _ => none

theorem relV_int {M : List Place} {k : IntKind} {l : Option Int} {x : Int} {v : Value} (h : RelV M (.int k l x) v) : v = .int k x ∧ k.has x ∧ ∀ m, l = some m → x = m := by
  obtain ⟨h1, h2, h3⟩ := RelX_int.1 h
  exact ⟨by simpa using h1, h2, h3⟩
theorem relV_bool {M : List Place} {l : Option Bool} {x : Bool} {v : Value} (h : RelV M (.bool l x) v) : v = .bool x ∧ ∀ m, l = some m → x = m := by
  simp only [RelV, RelX] at h
  exact ⟨by simpa using h.1, h.2⟩

theorem aun_sound {P : Program} {M : List Place} {ρ : Operand → Value} {o : Oper} {op : UnOp} {t : TypeId} {x : Operand} (ho : o.op = .unOp op t x) {a : AV} (hx : RelV M a (ρ x))
    {r : AV} (h : aun op a = some r) : ∃ v, RelV M r v ∧ ∀ w, (execOp ρ o).run P w = .ok (.value v) w := by
  cases a <;> simp only [aun, reduceCtorEq] at h
  case int k l n =>
    obtain ⟨e, hk, hl⟩ := relV_int hx
    cases op <;> simp only [unInt, Option.some.injEq, reduceCtorEq] at h <;> subst h
    · refine ⟨_, relV_litI (wrap_has k (0 - n)) (fun m hm => ?_), fun w => ?_⟩
      · cases l <;> simp at hm
        rw [← hm, fw_eq, hl _ rfl]; simp
      · simp [execOp, ho, e, Op.unary, Op.intArith, bind, pure, Sem.bind]
    · refine ⟨_, relV_litI (wrap_has k _) (fun m hm => ?_), fun w => ?_⟩
      · cases l <;> simp at hm
        rw [← hm, hl _ rfl]
      · simp [execOp, ho, e, Op.unary, Op.intBits, bind, pure, Sem.bind, ixor]
  case bool l b =>
    obtain ⟨e, hl⟩ := relV_bool hx
    cases op <;> simp only [Option.some.injEq, reduceCtorEq] at h
    subst h
    refine ⟨_, relV_litB (x := !b) (fun m hm => ?_), fun w => ?_⟩
    · cases l <;> simp at hm
      rw [hl _ rfl, hm]; simp
    · simp [execOp, ho, e, Op.unary, bind, pure, Sem.bind]

/-- Does each number of the one kind fit into the other? -/
def fitsK (k k' : IntKind) : Bool := decide (loB k' ≤ loB k) && decide (hiB k ≤ hiB k')
theorem fitsK_has {k k' : IntKind} (h : fitsK k k' = true) {n : Int} (hn : k.has n) : k'.has n := by
  simp only [fitsK, Bool.and_eq_true, decide_eq_true_eq] at h
  rw [has_iff] at *
  omega

def aconv (P : Program) (s d : TypeId) : AV → Option AV
  | .int k l x => match P.underlying s, P.underlying d with
    | some (.int _), some (.int k') => some (if fitsK k k' then litI k' l x else litI k' (l.map (fw k')) (k'.wrap x))
    | _, _ => none
  | _ => none

theorem aconv_sound {P : Program} {M : List Place} {ρ : Operand → Value} {o : Oper} {s d : TypeId} {x : Operand} (ho : o.op = .convert s d x) {a : AV} (hx : RelV M a (ρ x))
    {r : AV} (h : aconv P s d a = some r) : ∃ v, RelV M r v ∧ ∀ w, (execOp ρ o).run P w = .ok (.value v) w := by
  cases a <;> simp only [aconv, reduceCtorEq] at h
  case int k l n =>
    obtain ⟨e, hk, hl⟩ := relV_int hx
    split at h
    · rename_i k0 k' hs hd
      simp only [Option.some.injEq] at h
      subst h
      refine ⟨.int k' (k'.wrap n), ?_, fun w => ?_⟩
      · split
        · rename_i hf
          rw [wrap_id (fitsK_has hf hk)]
          exact relV_litI (fitsK_has hf hk) hl
        · refine relV_litI (wrap_has k' n) (fun m hm => ?_)
          cases l <;> simp at hm
          rw [← hm, fw_eq, hl _ rfl]
      · simp [execOp, ho, e, convert, run_underlying hs, run_underlying hd, Conv.intToInt]
    · cases h

/-- Where a field lies. -/
def fieldOf (P : Program) (t : TypeId) (f : Nat) : Option (Nat × Nat × Bool) :=
  match P.underlying t with
  | some (.struct fs) => match fs[f]? with
    | some fl => match sizeT P fl.type, isAggT P fl.type with
      | some s, some g => if 1 ≤ s then some (fl.offset, s, g) else none
      | _, _ => none
    | none => none
  | _ => none

def afieldAddr (P : Program) (t : TypeId) (f : Nat) : AV → Option AV
  | .ptr b base dyn room span => match fieldOf P t f with
    | some (fo, s, _) => if fo + s ≤ room then
        (match dyn with
         | none => some (.ptr b (base + fo) none s s)
         | some d => some (.ptr b base (some (padd fo d)) s span))
      else none
    | none => none
  | .rptr b off room => match fieldOf P t f with
    | some (fo, s, _) => if fo + s ≤ room then some (.rptr b (off + fo) s) else none
    | none => none
  | _ => none

theorem fieldOf_spec {P : Program} {t : TypeId} {f fo s : Nat} {g : Bool} (h : fieldOf P t f = some (fo, s, g)) :
    ∃ fs fl, P.underlying t = some (.struct fs) ∧ fs[f]? = some fl ∧ fl.offset = fo ∧ sizeT P fl.type = some s ∧ isAggT P fl.type = some g ∧ 1 ≤ s := by
  unfold fieldOf at h
  split at h
  · rename_i fs hu
    split at h
    · rename_i fl hf
      split at h
      · rename_i s' g' hs hg
        split at h
        · cases h
          exact ⟨fs, fl, hu, hf, rfl, hs, hg, ‹_›⟩
        · cases h
      · cases h
    · cases h
  · cases h

theorem run_fieldAddr {P : Program} {ρ : Operand → Value} {o : Oper} {t : TypeId} {x : Operand} {f : Nat} (ho : o.op = .fieldAddr t x f) {fo s : Nat} {g : Bool} (hf : fieldOf P t f = some (fo, s, g)) {b c : Nat}
    (hx : ρ x = .pointer (some ⟨b, c, none⟩)) (w : World) : (execOp ρ o).run P w = .ok (.value (.pointer (some ⟨b, c + fo, none⟩))) w := by
  obtain ⟨fs, fl, hu, hfl, hfo, hs, _, h1⟩ := fieldOf_spec hf
  have h0 : s ≠ 0 := by omega
  simp [execOp, ho, hx, Instr.fieldAt, run_underlying hu, hfl, Instr.sureAddr, fieldPlace, run_sizeT hs, h0, hfo, addr_add]

theorem afieldAddr_sound {P : Program} {M : List Place} {ρ : Operand → Value} {o : Oper} {t : TypeId} {x : Operand} {f : Nat} (ho : o.op = .fieldAddr t x f) {a : AV} (hx : RelV M a (ρ x))
    {r : AV} (h : afieldAddr P t f a = some r) : ∃ v, RelV M r v ∧ ∀ w, (execOp ρ o).run P w = .ok (.value v) w := by
  cases a <;> simp only [afieldAddr, reduceCtorEq] at h
  case ptr b base dyn room span =>
    simp only [RelV, RelX] at hx
    obtain ⟨pl, hpl, hnil, hv, hd1, hd2⟩ := hx
    have hv : ρ x = .pointer (some ⟨pl.blk, pl.off + (base + dyn.getD 0), none⟩) := by simpa using hv
    split at h
    · rename_i fo s g hf
      split at h
      · rename_i hr
        refine ⟨_, ?_, fun w => run_fieldAddr ho hf hv w⟩
        cases dyn with
        | none =>
          cases h
          simp only [RelV, RelX]
          simp only [Option.getD_none] at *
          exact ⟨pl, hpl, hnil, by simp [Nat.add_assoc], by omega, by omega⟩
        | some d =>
          cases h
          simp only [RelV, RelX, padd_eq]
          simp only [Option.getD_some] at *
          refine ⟨pl, hpl, hnil, ?_, by omega, by omega⟩
          simp only [List.cons.injEq, Value.pointer.injEq, Option.some.injEq, Addr.mk.injEq, and_true, true_and]
          omega
      · cases h
    · cases h
  case rptr b off room =>
    simp only [RelV, RelX] at hx
    obtain ⟨pl, hpl, hnil, hv, hd1⟩ := hx
    have hv : ρ x = .pointer (some ⟨pl.blk, pl.off + off, none⟩) := by simpa using hv
    split at h
    · rename_i fo s g hf
      split at h
      · cases h
        refine ⟨_, ?_, fun w => run_fieldAddr ho hf hv w⟩
        simp only [RelV, RelX]
        exact ⟨pl, hpl, hnil, by simp [Nat.add_assoc], by omega⟩
      · cases h
    · cases h

/-- A part of an aggregate's cells. -/
def apart (g : Bool) (s : Nat) (cs : List AV) (off : Nat) : Option AV :=
  if g then (subC cs off s).map .agg else cellAt cs off

theorem apart_sound {P : Program} {M : List Place} {cs : List AV} {vs : Array Value} (hc : RelC M cs vs.toList) {t : TypeId} {g : Bool} {s off : Nat} (hs : sizeT P t = some s) (hg : isAggT P t = some g) {r : AV}
    (h : apart g s cs off = some r) : ∃ v, RelV M r v ∧ ∀ w, (part t vs off).run P w = .ok v w := by
  unfold apart at h
  cases g with
  | true =>
    simp only [if_true, Option.map_eq_some_iff] at h
    obtain ⟨r', hr, rfl⟩ := h
    refine ⟨.agg (vs.extract off (off + s)), ?_, fun w => by simp [part, run_isAgg hg, run_sizeT hs]⟩
    rw [RelV, RelX_agg]
    refine ⟨_, rfl, ?_⟩
    have e : (vs.extract off (off + s)).toList = (vs.toList.drop off).take s := by
      simp
    rw [e]
    rcases subC_rel hc hr with ⟨g1, _⟩ | ⟨g1, g2⟩
    · exact g1
    · subst g1; subst g2; simp [RelC_nil]
  | false =>
    simp only [Bool.false_eq_true, if_false] at h
    obtain ⟨v, hv, hr⟩ := cellAt_rel hc h
    exact ⟨v, hr, fun w => by simp [part, run_isAgg hg, show vs[off]? = some v by simpa using hv]⟩

def afield (P : Program) (t : TypeId) (f : Nat) : AV → Option AV
  | .agg cs => match fieldOf P t f with
    | some (fo, s, g) => apart g s cs fo
    | none => none
  | _ => none

theorem afield_sound {P : Program} {M : List Place} {ρ : Operand → Value} {o : Oper} {t : TypeId} {x : Operand} {f : Nat} (ho : o.op = .field t x f) {a : AV} (hx : RelV M a (ρ x))
    {r : AV} (h : afield P t f a = some r) : ∃ v, RelV M r v ∧ ∀ w, (execOp ρ o).run P w = .ok (.value v) w := by
  cases a <;> simp only [afield, reduceCtorEq] at h
  case agg cs =>
    obtain ⟨vs, hv, hc⟩ := RelX_agg.1 hx
    have hv : ρ x = .agg vs := by simpa using hv
    split at h
    · rename_i fo s g hf
      obtain ⟨fs, fl, hu, hfl, hfo, hs, hg, h1⟩ := fieldOf_spec hf
      obtain ⟨v, hr, hrun⟩ := apart_sound hc hs hg h
      refine ⟨v, hr, fun w => ?_⟩
      simp [execOp, ho, hv, Instr.field, run_underlying hu, hfl, asAgg, hfo, hrun w]
    · cases h

def mul1 (i s : Nat) : Nat := match s with | 1 => i | s => i * s
theorem mul1_eq (i s : Nat) : mul1 i s = i * s := by unfold mul1; split <;> simp

/-- An index below a known number: what must hold, and the index where it is known. -/
def reqIx (l : Option Int) (i : Int) (n : Nat) : Bool :=
  match l with
  | some m => decide (0 ≤ m) && decide (m < n)
  | none => decide (0 ≤ i) && decide (i < n)
theorem reqIx_spec {l : Option Int} {i : Int} {n : Nat} (hl : ∀ m, l = some m → i = m) (h : reqIx l i n = true) : 0 ≤ i ∧ i < n := by
  cases l with
  | none => simpa [reqIx] using h
  | some m => have := hl m rfl; subst this; simpa [reqIx] using h

def elemOfArr (P : Program) (t : TypeId) : Option (Nat × Nat × Bool) :=
  match P.underlying t with
  | some (.array n e) => match sizeT P e, isAggT P e with
    | some s, some g => if 1 ≤ s then some (n, s, g) else none
    | _, _ => none
  | _ => none
def elemOfSl (P : Program) (t : TypeId) : Option Nat :=
  match P.underlying t with
  | some (.slice e) => sizeT P e
  | _ => none

def aindexAddr (P : Program) (t : TypeId) : AV → AV → Option (Bool × AV)
  | .ptr b base dyn room span, .int _ l i => match elemOfArr P t with
    | some (n, s, _) => if n * s ≤ room then
        (match l, dyn with
         | some m, none => some (reqIx l i n, .ptr b (base + m.toNat * s) none s s)
         | some m, some d => some (reqIx l i n, .ptr b base (some (padd (m.toNat * s) d)) s span)
         | none, none => some (reqIx l i n, .ptr b base (some (mul1 i.toNat s)) s (n * s))
         | none, some d => some (reqIx l i n, .ptr b base (some (d + mul1 i.toNat s)) s span))
      else none
    | none => none
  | .sl b off len sz _, .int _ l i => match elemOfSl P t with
    | some s => if s = sz then some (reqIx l i len, .rptr b (padd off (mul1 i.toNat s)) s) else none
    | none => none
  | .rptr b off room, .int _ l i => match elemOfArr P t with
    | some (n, s, _) => if n * s ≤ room then
        (match l with
         | some m => some (reqIx l i n, .rptr b (padd (m.toNat * s) off) s)
         | none => some (reqIx l i n, .rptr b (off + mul1 i.toNat s) s))
      else none
    | none => none
  | _, _ => none

theorem elemOfArr_spec {P : Program} {t : TypeId} {n s : Nat} {g : Bool} (h : elemOfArr P t = some (n, s, g)) : ∃ e, P.underlying t = some (.array n e) ∧ sizeT P e = some s ∧ isAggT P e = some g ∧ 1 ≤ s := by
  unfold elemOfArr at h
  split at h
  · rename_i n' e hu
    split at h
    · rename_i s' g' hs hg
      split at h
      · cases h
        exact ⟨e, hu, hs, hg, ‹_›⟩
      · cases h
    · cases h
  · cases h

theorem elemOfSl_spec {P : Program} {t : TypeId} {s : Nat} (h : elemOfSl P t = some s) : ∃ e, P.underlying t = some (.slice e) ∧ sizeT P e = some s := by
  unfold elemOfSl at h
  split at h
  · rename_i e hu
    exact ⟨e, hu, h⟩
  · cases h

theorem run_indexArr {P : Program} {ρ : Operand → Value} {o : Oper} {t e : TypeId} {x y : Operand} (ho : o.op = .indexAddr t x y) {n s : Nat} (hu : P.underlying t = some (.array n e)) (hs : sizeT P e = some s) {b c : Nat} {k : IntKind} {i : Int}
    (hx : ρ x = .pointer (some ⟨b, c, none⟩)) (hy : ρ y = .int k i) (h0 : 0 ≤ i) (h1 : i < n) (w : World) :
    (execOp ρ o).run P w = .ok (.value (.pointer (some ⟨b, c + i.toNat * s, none⟩))) w := by
  simp [execOp, ho, hx, hy, Instr.indexAt, asIntOf, run_underlying hu, Instr.sureAddr, h0, h1, run_sizeT hs, addr_add]
theorem run_indexSl {P : Program} {ρ : Operand → Value} {o : Oper} {t e : TypeId} {x y : Operand} (ho : o.op = .indexAddr t x y) {s len cap : Nat} (hu : P.underlying t = some (.slice e)) (hs : sizeT P e = some s) {b c : Nat} {k : IntKind} {i : Int}
    (hx : ρ x = .slice (some ⟨b, c, none⟩) len cap) (hy : ρ y = .int k i) (h0 : 0 ≤ i) (h1 : i < len) (w : World) :
    (execOp ρ o).run P w = .ok (.value (.pointer (some ⟨b, c + i.toNat * s, none⟩))) w := by
  simp [execOp, ho, hx, hy, Instr.indexAt, asIntOf, run_underlying hu, h0, h1, run_sizeT hs, addr_add]

theorem mul_lt {i n s : Nat} (h : i < n) : i * s + s ≤ n * s := by
  have : (i + 1) * s ≤ n * s := Nat.mul_le_mul_right s h
  rw [Nat.add_mul, Nat.one_mul] at this
  exact this

theorem aindexAddr_sound {P : Program} {M : List Place} {ρ : Operand → Value} {o : Oper} {t : TypeId} {x y : Operand} (ho : o.op = .indexAddr t x y) {a c : AV} (hx : RelV M a (ρ x)) (hy : RelV M c (ρ y))
    {req : Bool} {r : AV} (h : aindexAddr P t a c = some (req, r)) (hreq : req = true) : ∃ v, RelV M r v ∧ ∀ w, (execOp ρ o).run P w = .ok (.value v) w := by
  subst hreq
  cases a <;> try (cases h; done)
  case ptr b base dyn room span =>
    cases c <;> simp only [aindexAddr, reduceCtorEq] at h
    rename_i k l i
    obtain ⟨hye, hk, hl⟩ := relV_int hy
    simp only [RelV, RelX] at hx
    obtain ⟨pl, hpl, hnil, hv, hd1, hd2⟩ := hx
    have hv : ρ x = .pointer (some ⟨pl.blk, pl.off + (base + dyn.getD 0), none⟩) := by simpa using hv
    split at h
    · rename_i n s g he
      obtain ⟨e, hu, hs, _, _⟩ := elemOfArr_spec he
      split at h
      · rename_i hr
        have hq : reqIx l i n = true := by
          cases l <;> cases dyn <;> simp only [Option.some.injEq, Prod.mk.injEq] at h <;> exact h.1
        obtain ⟨h0, h1⟩ := reqIx_spec hl hq
        have hin : i.toNat < n := by omega
        have hm := mul_lt (s := s) hin
        refine ⟨_, ?_, fun w => run_indexArr ho hu hs hv hye h0 h1 w⟩
        cases l with
        | some m =>
          have := hl m rfl
          subst this
          cases dyn with
          | none =>
            simp only [Option.some.injEq, Prod.mk.injEq] at h
            rw [← h.2]
            simp only [Option.getD_none] at *
            simp only [RelV, RelX]
            exact ⟨pl, hpl, hnil, by simp [Nat.add_assoc], by simp, by omega⟩
          | some d =>
            simp only [Option.some.injEq, Prod.mk.injEq] at h
            rw [← h.2]
            simp only [Option.getD_some] at *
            simp only [RelV, RelX, padd_eq, Option.getD_some]
            refine ⟨pl, hpl, hnil, ?_, by omega, by omega⟩
            simp only [List.cons.injEq, Value.pointer.injEq, Option.some.injEq, Addr.mk.injEq, and_true, true_and]
            omega
        | none =>
          cases dyn with
          | none =>
            simp only [Option.some.injEq, Prod.mk.injEq] at h
            rw [← h.2]
            simp only [Option.getD_none] at *
            simp only [RelV, RelX, mul1_eq, Option.getD_some]
            exact ⟨pl, hpl, hnil, by simp [Nat.add_assoc], by omega, by omega⟩
          | some d =>
            simp only [Option.some.injEq, Prod.mk.injEq] at h
            rw [← h.2]
            simp only [Option.getD_some] at *
            simp only [RelV, RelX, mul1_eq, Option.getD_some]
            exact ⟨pl, hpl, hnil, by simp [Nat.add_assoc], by omega, by omega⟩
      · cases h
    · cases h
  case rptr b off room =>
    cases c <;> simp only [aindexAddr, reduceCtorEq] at h
    rename_i k l i
    obtain ⟨hye, hk, hl⟩ := relV_int hy
    simp only [RelV, RelX] at hx
    obtain ⟨pl, hpl, hnil, hv, hd⟩ := hx
    have hv : ρ x = .pointer (some ⟨pl.blk, pl.off + off, none⟩) := by simpa using hv
    split at h
    · rename_i n s g he
      obtain ⟨e, hu, hs, _, _⟩ := elemOfArr_spec he
      split at h
      · rename_i hr
        have hq : reqIx l i n = true := by
          cases l <;> simp only [Option.some.injEq, Prod.mk.injEq] at h <;> exact h.1
        obtain ⟨h0, h1⟩ := reqIx_spec hl hq
        have hin : i.toNat < n := by omega
        have hm := mul_lt (s := s) hin
        refine ⟨_, ?_, fun w => run_indexArr ho hu hs hv hye h0 h1 w⟩
        cases l with
        | some m =>
          have := hl m rfl
          subst this
          simp only [Option.some.injEq, Prod.mk.injEq] at h
          rw [← h.2]
          simp only [RelV, RelX, padd_eq]
          refine ⟨pl, hpl, hnil, ?_, by omega⟩
          simp only [List.cons.injEq, Value.pointer.injEq, Option.some.injEq, Addr.mk.injEq, and_true, true_and]
          omega
        | none =>
          simp only [Option.some.injEq, Prod.mk.injEq] at h
          rw [← h.2]
          simp only [RelV, RelX, mul1_eq]
          exact ⟨pl, hpl, hnil, by simp [Nat.add_assoc], by omega⟩
      · cases h
    · cases h
  case sl b off len sz cc =>
    cases c <;> simp only [aindexAddr, reduceCtorEq] at h
    rename_i k l i
    obtain ⟨hye, hk, hl⟩ := relV_int hy
    simp only [RelV, RelX] at hx
    obtain ⟨pl, A, cap, hpl, hv, hb, hcap, hnil, hnn, _⟩ := hx
    have hv : ρ x = .slice A len cap := by simpa using hv
    split at h
    · rename_i s he
      obtain ⟨e, hu, hs⟩ := elemOfSl_spec he
      split at h
      · rename_i hsz
        subst hsz
        simp only [Option.some.injEq, Prod.mk.injEq] at h
        obtain ⟨h0, h1⟩ := reqIx_spec hl h.1
        have hin : i.toNat < len := by omega
        have hm := mul_lt (s := s) hin
        have hpn : pl.nil = false := by
          cases hq : pl.nil with
          | false => rfl
          | true => have := (hnil hq).2; omega
        have hA := (hnn hpn).2 (.inl (by omega))
        subst hA
        refine ⟨_, ?_, fun w => run_indexSl ho hu hs hv hye h0 h1 w⟩
        rw [← h.2]
        simp only [RelV, RelX, padd_eq, mul1_eq]
        exact ⟨pl, hpl, hpn, by simp [Nat.add_assoc], by omega⟩
      · cases h
    · cases h

/-- An array's element. -/
def aindex (P : Program) (t : TypeId) : AV → AV → Option (Bool × AV)
  | .agg cs, .int _ l i => match elemOfArr P t with
    | some (n, s, g) => match l with
      | some m => (apart g s cs (m.toNat * s)).map fun r => (reqIx l i n, r)
      | none => (dynAt cs 0 (n * s)).map fun x => (reqIx l i n, if g then .agg [.is x.1 s ((x.2.2.drop (padd x.2.1 (mul1 i.toNat s))).take s)] else .int x.1 none (x.2.2.getD (padd x.2.1 (mul1 i.toNat s)) 0))
    | none => none
  | .str l, .int _ li i => match P.underlying t with
    | some .string => some (reqIx li i l.length, .int .u8 none (l.getD i.toNat 0))
    | _ => none
  | _, _ => none

theorem aindex_sound {P : Program} {M : List Place} {ρ : Operand → Value} {o : Oper} {t : TypeId} {x y : Operand} (ho : o.op = .index t x y) {a c : AV} (hx : RelV M a (ρ x)) (hy : RelV M c (ρ y))
    {req : Bool} {r : AV} (h : aindex P t a c = some (req, r)) (hreq : req = true) : ∃ v, RelV M r v ∧ ∀ w, (execOp ρ o).run P w = .ok (.value v) w := by
  subst hreq
  cases a <;> try (cases h; done)
  case str s =>
    cases c <;> simp only [aindex, reduceCtorEq] at h
    rename_i k l i
    obtain ⟨hye, hk, hl⟩ := relV_int hy
    split at h
    · rename_i hu
      simp only [Option.some.injEq, Prod.mk.injEq] at h
      obtain ⟨hq, rfl⟩ := h
      obtain ⟨h0, h1⟩ := reqIx_spec hl hq
      simp only [RelV, RelX] at hx
      have hxs : ρ x = .string (mkS s) := by simpa using hx.1
      have hin : i.toNat < s.length := by omega
      have hb := hx.2.1 (s.getD i.toNat 0) (by rw [List.getD_eq_getElem?_getD, List.getElem?_eq_getElem hin]; exact List.getElem_mem hin)
      have hu8 := u8_back hb
      refine ⟨.int .u8 (s.getD i.toNat 0), RelX_int.2 ⟨rfl, has_iff.2 hb, fun m hm => by cases hm⟩, fun w => ?_⟩
      simp [execOp, ho, hxs, hye, Instr.index, asIntOf, run_underlying hu, h0, mkS_get s _ hin]
      rw [← List.getD_eq_getElem?_getD]
      omega
    · cases h
  case agg cs =>
    cases c <;> simp only [aindex, reduceCtorEq] at h
    rename_i k l i
    obtain ⟨hye, hk, hl⟩ := relV_int hy
    obtain ⟨vs, hv, hc⟩ := RelX_agg.1 hx
    have hv : ρ x = .agg vs := by simpa using hv
    split at h
    · rename_i n s g he
      obtain ⟨e, hu, hs, hg, h1s⟩ := elemOfArr_spec he
      have key : 0 ≤ i → i < n → ∀ v, (∀ w, (part e vs (i.toNat * s)).run P w = .ok v w) → ∀ w, (execOp ρ o).run P w = .ok (.value v) w := by
        intro h0 h1 v hp w
        simp [execOp, ho, hv, hye, Instr.index, asIntOf, run_underlying hu, h0, h1, run_sizeT hs, hp w]
      cases l with
      | some m =>
        simp only [Option.map_eq_some_iff, Prod.mk.injEq] at h
        obtain ⟨r', hr, hq, rfl⟩ := h
        obtain ⟨h0, h1⟩ := reqIx_spec hl hq
        have := hl m rfl
        subst this
        obtain ⟨v, hv1, hv2⟩ := apart_sound hc hs hg hr
        exact ⟨v, hv1, key h0 h1 v hv2⟩
      | none =>
        simp only [Option.map_eq_some_iff, Prod.mk.injEq] at h
        obtain ⟨⟨k', q, l'⟩, hr, hq, rfl⟩ := h
        obtain ⟨h0, h1⟩ := reqIx_spec hl hq
        have hin : i.toNat < n := by omega
        have hm := mul_lt (s := s) hin
        obtain ⟨g1, g2, d, g3, g4⟩ := dynAt_rel hc hr
        have hd : d = 0 ∧ q = 0 := by omega
        obtain ⟨rfl, rfl⟩ := hd
        simp only [padd, mul1_eq]
        simp only [Nat.zero_add] at g1 g4
        cases g with
        | false =>
          simp only [Bool.false_eq_true, if_false]
          refine ⟨.int k' (l'.getD (i.toNat * s) 0), RelX_int.2 ⟨rfl, has_getD g2 _ (by omega), fun m hm => by cases hm⟩, key h0 h1 _ fun w => ?_⟩
          have := g4 (i.toNat * s) (by omega)
          simp [part, run_isAgg hg, show vs[i.toNat * s]? = some (.int k' (l'.getD (i.toNat * s) 0)) by simpa using this]
        | true =>
          simp only [if_true]
          refine ⟨.agg (vs.extract (i.toNat * s) (i.toNat * s + s)), ?_, key h0 h1 _ fun w => by simp [part, run_isAgg hg, run_sizeT hs]⟩
          rw [RelV, RelX_agg]
          refine ⟨_, rfl, ?_⟩
          rw [RelC_single, RelX_is]
          refine ⟨by simp; omega, ?_, fun x hx => g2 x (List.mem_of_mem_drop (List.mem_of_mem_take hx))⟩
          have e := take_drop_at (vs := vs.toList) (l := l') (k := k') (d := 0) (q := i.toNat * s) (s := s) (fun j hj => by rw [Nat.zero_add]; exact g4 j hj) (by omega)
          rw [Nat.zero_add] at e
          rw [← e]
          simp
    · cases h

end Go.AE
