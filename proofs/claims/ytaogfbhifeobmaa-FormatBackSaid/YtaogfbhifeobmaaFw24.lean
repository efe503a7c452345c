/- The framework AE, part 24: three functions over maps, by hand: what they come to. -/
import Derived.Test.YtaogfbhifeobmaaFw23
set_option linter.unusedVariables false
set_option linter.unusedSimpArgs false
namespace Go.AE
open Go Go.RowKit
open Go.ChangeMaps (setBlock)

/-! ### what they come to -/

def codeL (x y : Int) : Option Int := (codesT.find? fun e => e.1 == x && e.2.1 == y).map (·.2.2)
def codeF1 (x y : Int) : Option (List Int ⊕ List Int) :=
  let X : Option (List Int ⊕ List Int) := cond (y != 1) (cond (y != 2) (some (.inl [0, 1])) (some (.inr [x, y]))) (some (.inr [x, y]))
  cond (x == 1) X (cond (x == 7) X (cond (x == 8) X (cond (x == 2) X (cond (x == 3) X (cond (x == 6) X (cond (x == 10) X (cond (x == 9) X (cond (x == 4) X (cond (x == 11) X (cond (x == 5) X (cond (x == 12) X (some (.inl [0, 5])))))))))))))
def codeF2 (v : Int) (b : Bool) : Option (List Int ⊕ List Int) := cond (!b) (some (.inl [0, 9])) (some (.inl [v, 0]))
def orE (e : Int) : Option Int → Option (Int × Int × Unit)
  | some v => some (v, 0, ())
  | none => some (0, e, ())
def inl2 : Option (List Int ⊕ List Int) → Option (Int × Int × Unit)
  | some (.inl [a, b]) => some (a, b, ())
  | _ => none
theorem inl2_of {l : List Int} {x y : Int} (h : inl2 (some (.inl l)) = some (x, y, ())) : l = [x, y] := by
  unfold inl2 at h
  split at h
  · rename_i heq
    cases heq
    cases h
    rfl
  · cases h
def codeF (x y : Int) : Option (Int × Int × Unit) := match codeF1 x y with
  | some (.inr _) => orE 9 (codeL x y)
  | r => inl2 r

def formatL (x y : Int) : Option Int := (codesT.find? fun e => e.2.1 == y && e.2.2 == x).map (·.1)
def formatF1 (x y : Int) : Option (List Int ⊕ List Int) :=
  cond (y != 1)
    (cond (y != 2) (some (.inl [0, 1])) (cond (y == 2) (cond (x == 33777) (some (.inl [1, 0])) (some (.inr [x, y]))) (some (.inr [x, y]))))
    (cond (y == 2) (cond (x == 33777) (some (.inl [1, 0])) (some (.inr [x, y]))) (some (.inr [x, y])))
def formatB (x y f i n : Int) (r : Nat) : Option (List Int ⊕ List Int) :=
  cond (i == y) (cond (n == x) (some (.inl [f, 0])) (some (.inr [x, y, (r : Int)]))) (some (.inr [x, y, (r : Int)]))
def formatF (x y : Int) : Option (Int × Int × Unit) := match formatF1 x y with
  | some (.inr _) => orE 5 (formatL x y)
  | r => inl2 r

def lettersT : List (List Int × Int) := [([68, 88, 84, 49], 1), ([68, 88, 84, 51], 2), ([68, 88, 84, 53], 3), ([65, 84, 73, 49], 4), ([65, 84, 73, 50], 5), ([66, 67, 52, 85], 4), ([66, 67, 53, 85], 5)]
def lettersV : List (Value × Value) := lettersT.map fun e => (.string (mkS e.1), .int .i64 e.2)
def lettersL (s : List Int) : Option Int := (lettersT.find? fun e => e.1 == s).map (·.2)
def lettersF2 (v : Int) (b : Bool) : Option (List Int ⊕ List Int) := cond (!b) (some (.inl [0, 5])) (some (.inl [v, 0]))
def lettersF (s : List Int) : Option (Int × Int × Unit) := orE 5 (lettersL s)

theorem condI {c : Bool} {X R : Option (List Int ⊕ List Int)} {l : List Int} {p : Prop} (hX : X = some (.inr l) → p) (hR : R = some (.inr l) → p) (h : cond c X R = some (.inr l)) : p := by
  cases c
  · exact hR h
  · exact hX h
theorem codeF1_inr {x y : Int} {l : List Int} : codeF1 x y = some (.inr l) → l = [x, y] := by
  have e : some (Sum.inr (α := List Int) [x, y]) = some (.inr l) → l = [x, y] := fun h => by cases h; rfl
  have X : (cond (y != 1) (cond (y != 2) (some (.inl [0, 1])) (some (.inr [x, y]))) (some (.inr [x, y])) : Option (List Int ⊕ List Int)) = some (.inr l) → l = [x, y] := condI (condI (fun h => by cases h) e) e
  exact condI X (condI X (condI X (condI X (condI X (condI X (condI X (condI X (condI X (condI X (condI X (condI X fun h => by cases h)))))))))))
theorem formatF1_inr {x y : Int} {l : List Int} : formatF1 x y = some (.inr l) → l = [x, y] := by
  have e : some (Sum.inr (α := List Int) [x, y]) = some (.inr l) → l = [x, y] := fun h => by cases h; rfl
  have X : (cond (y == 2) (cond (x == 33777) (some (.inl [1, 0])) (some (.inr [x, y]))) (some (.inr [x, y])) : Option (List Int ⊕ List Int)) = some (.inr l) → l = [x, y] := condI (condI (fun h => by cases h) e) e
  exact condI (condI (fun h => by cases h) X) X
theorem getD_append {a b : Array Value} {i : Nat} (h : i < a.size) : (a ++ b).getD i undef = a.getD i undef := by
  rw [Array.getD_eq_getD_getElem?, Array.getD_eq_getD_getElem?, Array.getElem?_append_left h]

/-! ### the codes -/

def CodesAt (P : Program) (f : FuncId) : Prop := ∀ w, Calls P f #[] w fun e w' => ∃ b, e = .returned (.map (some b)) ∧ w.heap.size ≤ b ∧ b < w'.heap.size ∧ Below w.heap.size w w' ∧ MapAt w' b (mapT 0)

/-- The keys of the codes are keys. -/
def PairKeys (P : Program) (k : TypeId) : Prop := ∀ a b : Int, IntKind.i64.has a → IntKind.i64.has b → ∃ l, keyOf P k (.agg #[.int .i64 a, .int .i64 b]) = some l

theorem codes_has : ∀ e ∈ codesT, IntKind.i64.has e.1 ∧ IntKind.i64.has e.2.1 ∧ IntKind.i64.has e.2.2 := by
  have : codesT.all (fun e => inB .i64 e.1 && inB .i64 e.2.1 && inB .i64 e.2.2) = true := by decide
  intro e he
  have := List.all_eq_true.1 this e he
  simp only [Bool.and_eq_true] at this
  exact ⟨has_of_inB this.1.1, has_of_inB this.1.2, has_of_inB this.2⟩

theorem codes_keys {P : Program} {k : TypeId} (hk : PairKeys P k) : ∀ p ∈ mapT 0, ∃ l, keyOf P k p.1 = some l := by
  intro p hp
  obtain ⟨e, he, rfl⟩ := List.mem_map.1 hp
  obtain ⟨h1, h2, _⟩ := codes_has e he
  exact hk _ _ h1 h2

theorem pairKeys {P : Program} {k : TypeId} {f0 f1 : Field} {m : Nat} (hu : P.underlying k = some (.struct #[f0, f1])) (hk : P.keyType k = true) (hc : P.cellsOf k = 2) (hs : P.types.size = m + 1) (h0 : P.underlying f0.type = some (.int .i64)) (h1 : P.underlying f1.type = some (.int .i64))
    (c0 : P.cellsOf f0.type = 1) (c1 : P.cellsOf f1.type = 1) (o0 : f0.offset = 0) (o1 : f1.offset = 1) (n0 : (f0.name != "_") = true) (n1 : (f1.name != "_") = true) : PairKeys P k := by
  intro a b ha hb
  have wa : (Lit.int .i64 a).wf = true := by
    rw [has_iff] at ha
    simp only [loB, hiB] at ha
    simp only [Lit.wf, Bool.and_eq_true, decide_eq_true_eq]
    exact ⟨ha.1, ha.2⟩
  have wb : (Lit.int .i64 b).wf = true := by
    rw [has_iff] at hb
    simp only [loB, hiB] at hb
    simp only [Lit.wf, Bool.and_eq_true, decide_eq_true_eq]
    exact ⟨hb.1, hb.2⟩
  refine ⟨.string (keyBytes [.int .i64 a, .int .i64 b]), ?_⟩
  unfold keyOf
  rw [hu]
  simp only [hk, Value.formed, hu, hc, Value.cells, Bool.true_and]
  rw [hs]
  simp [Program.keyLits, hu, hc, h0, h1, c0, c1, o0, o1, n0, n1, wa, wb]

theorem strKeys {P : Program} {k : TypeId} (hu : P.underlying k = some .string) {l : List Int} (hl : IntKind.i64.has (l.length : Int)) : ∃ x, keyOf P k (.string (mkS l)) = some x :=
  ⟨_, Go.WideMaps.keyOf_string_mk hu (by
    rw [mkS_size]
    rw [has_iff] at hl
    simp only [loB, hiB] at hl
    have : maxLen = 9223372036854775807 := by decide
    omega)⟩

theorem codeL_of {x y : Int} {v : Value} (h : (Value.agg #[.int .i64 x, .int .i64 y], v) ∈ mapT 0) : ∃ n, codeL x y = some n ∧ v = .int .i64 n ∧ IntKind.i64.has n := by
  obtain ⟨e, he, heq⟩ := List.mem_map.1 h
  simp only [Prod.mk.injEq, Value.agg.injEq, Array.mk.injEq, List.cons.injEq, Value.int.injEq, true_and, and_true] at heq
  obtain ⟨⟨rfl, rfl⟩, rfl⟩ := heq
  refine ⟨e.2.2, ?_, rfl, (codes_has e he).2.2⟩
  have : codesT.all (fun e => codeL e.1 e.2.1 == some e.2.2) = true := by decide
  simpa using List.all_eq_true.1 this e he
theorem codeL_none {x y : Int} (h : ∀ p ∈ mapT 0, p.1 ≠ .agg #[.int .i64 x, .int .i64 y]) : codeL x y = none := by
  unfold codeL
  rw [Option.map_eq_none_iff, List.find?_eq_none]
  intro e he hq
  simp only [Bool.and_eq_true, beq_iff_eq] at hq
  refine h (.agg #[.int .i64 e.1, .int .i64 e.2.1], .int .i64 e.2.2) (List.mem_map.2 ⟨e, he, rfl⟩) ?_
  rw [hq.1, hq.2]

theorem lettersL_of {s : List Int} (hs : ∀ x ∈ s, 0 ≤ x ∧ x ≤ 255) {v : Value} (h : (Value.string (mkS s), v) ∈ lettersV) : ∃ n, lettersL s = some n ∧ v = .int .i64 n ∧ IntKind.i64.has n := by
  obtain ⟨e, he, heq⟩ := List.mem_map.1 h
  simp only [Prod.mk.injEq, Value.string.injEq] at heq
  obtain ⟨h1, rfl⟩ := heq
  have hb : lettersT.all (fun e => (e.1.all fun x => decide (0 ≤ x ∧ x ≤ 255)) && (lettersL e.1 == some e.2) && inB .i64 e.2) = true := by decide
  have h2 := List.all_eq_true.1 hb e he
  simp only [Bool.and_eq_true, List.all_eq_true, decide_eq_true_eq, beq_iff_eq] at h2
  have h3 : e.1 = s := by rw [← bytesL_mkS h2.1.1, h1, bytesL_mkS hs]
  subst h3
  exact ⟨e.2, h2.1.2, rfl, has_of_inB h2.2⟩
theorem lettersL_none {s : List Int} (h : ∀ p ∈ lettersV, p.1 ≠ .string (mkS s)) : lettersL s = none := by
  unfold lettersL
  rw [Option.map_eq_none_iff, List.find?_eq_none]
  intro e he hq
  simp only [beq_iff_eq] at hq
  exact h (.string (mkS e.1), .int .i64 e.2) (List.mem_map.2 ⟨e, he, rfl⟩) (by rw [hq])

/-! ### steps -/

theorem run_call0 {P : Program} (hP : Callable P) {f : FuncId} {fn : Func} (hf : P.funcs[f]? = some fn) (hb : fn.body.isSome = true) {o : Oper} (ho : o.op = .call ⟨.value (.func f), #[], #[]⟩) (a : Go.Act) (w : World) :
    (execOp a.eval o).run P w = .ok (.enter f #[]) w := by
  have hn := hP f fn hf hb
  cases hq : fn.body with
  | none => simp [hq] at hb
  | some cd => simp [execOp, ho, resolve, Go.Act.eval, Deferred.ofValue, invoke, callFunc, hf, hn, hq]

theorem getD_int {a : Go.Act} {n : Nat} {l : List Int} {slots : List (Nat × Bool)} (h : ∀ (j : Nat) (x : Int) (t : Nat × Bool), l[j]? = some x → slots[j]? = some t → a.tmps.getD t.1 undef = slotVal t.2 x ∧ (t.2 = false → IntKind.i64.has x)) (j : Nat) {x : Int} {t : Nat} (hl : l[j]? = some x) (hs : slots[j]? = some (t, false)) :
    RelV M0 (.int .i64 none x) (a.tmps.getD t undef) := by
  obtain ⟨h1, h2⟩ := h j x (t, false) hl hs
  rw [h1]
  exact relV_int_mk (h2 rfl)

theorem Exit.then_of {N : Go.Act → World → Prop} {Q : Exit → Go.Act → World → Prop} {e : Exit} {a : Go.Act} {w : World} (h1 : e = .normal → N a w) (h2 : e ≠ .normal → Q e a w) : Exit.then N Q e a w := by
  cases e with
  | normal => exact h1 rfl
  | _ => exact h2 (by simp)

theorem code_spec {P : Program} (hP : Callable P) {f fc : FuncId} {fn fnc : Func} {c c4 : Code} {id n : Nat} {ops : Array Oper} {T K E : TypeId} {o0 ol : Oper} {l1 l2 : List Oper} {d0 dk dl : Nat} {kx : Int → Int → AV}
    (hf : P.funcs[f]? = some fn) (hb : fn.body = some c) (hn : fn.ntmps = n) (hsz : 1 < n ∧ d0 < n ∧ dl < n ∧ d0 ≠ 0 ∧ d0 ≠ 1) (hr : rest 3 c = .seq (.region id ops false) c4)
    (hK : Maps.Keyed P K) (hT : P.underlying T = some (.map K E)) (hz : ∀ w, (zeroValue E).run P w = .ok (.int .i64 0) w) (hkey : PairKeys P K)
    (hfc : P.funcs[fc]? = some fnc) (hbc : fnc.body.isSome = true) (hcodes : CodesAt P fc) (hops : ops.toList = o0 :: (l1 ++ ol :: l2))
    (h01 : o0.op = .call ⟨.value (.func fc), #[], #[]⟩) (h02 : o0.guard = none) (h03 : o0.dst = some d0) (hl1 : ol.op = .lookup T (.tmp d0) (.tmp dk) true) (hl2 : ol.guard = none) (hl3 : ol.dst = some dl)
    (h1 : ∀ x y, evPre P (cal0 P) qcal0 3 c ⟨pickT n [(0, .int .i64 none x), (1, .int .i64 none y)], H0⟩ (fun e st => if st.tmps.length = n then endK P fn [(0, false), (1, false)] e st else none) = codeF1 x y)
    (h2 : ∀ x y b, evList P (evFn P (emptyEnv (List AV)) 12) ops l1 ⟨pickT n [(0, .int .i64 none x), (1, .int .i64 none y), (d0, .mp b)], H0⟩ (fun st => if st.tmps.length = n then some ([d0, dk].map fun t => st.tmps.getD t .undef) else none) = some [.mp b, kx x y])
    (hkx : ∀ M x y v, RelV M (kx x y) v → v = .agg #[.int .i64 x, .int .i64 y])
    (h3 : ∀ v b, evList P (cal0 P) ops l2 ⟨pickT n [(dl, .tup [.int .i64 none v, .bool none b])], H0⟩ (fun st => evCode P (cal0 P) qcal0 (fun _ => none) c4 st (fun e st => if st.tmps.length = n then endK P fn [] e st else none)) = codeF2 v b) :
    FnSpec P f 2 [.slot 0 (.int .i64), .slot 1 (.int .i64)] [.ty (.int .i64), .ty (.int .i64)] (fun d => codeF d.1 d.2.1) := by
  refine fnSpec2 fun d x y M vs w hl hd => ?_
  obtain ⟨a0, a1, ⟨⟩⟩ := d
  have hd : codeF a0 a1 = some (x, y, ()) := hd
  obtain ⟨v0, r0, hv, hx0, hr0⟩ := RelL_cons.1 (show RelL M [.int .i64 none a0, .int .i64 none a1] vs.toList from hl)
  obtain ⟨v1, r1, rfl, hx1, hr1⟩ := RelL_cons.1 hr0
  rw [RelL_nil] at hr1
  subst hr1
  obtain ⟨rfl, g0, _⟩ := relV_int (l := none) (x := a0) hx0
  obtain ⟨rfl, g1, _⟩ := relV_int (l := none) (x := a1) hx1
  obtain rfl : vs = #[.int .i64 a0, .int .i64 a1] := by
    apply Array.toList_inj.1
    simpa using hv
  refine calls_of_wp hf hb ?_
  rw [hn]
  obtain ⟨n1, nd0, ndl, d00, d01⟩ := hsz
  -- the slots ahead
  have hs0 : (#[Value.int .i64 a0, Value.int .i64 a1] ++ Array.replicate (n - 2) undef).size = n := by simp; omega
  have hT0 : RelT M0 (pickT n [(0, .int .i64 none a0), (1, .int .i64 none a1)]) (#[Value.int .i64 a0, Value.int .i64 a1] ++ Array.replicate (n - 2) undef) := by
    refine relT_pick hs0 fun p hp => ?_
    rcases List.mem_cons.1 hp with rfl | hp
    · rw [getD_append (by simp)]
      exact relV_int_mk g0
    · obtain rfl := List.mem_singleton.1 hp
      rw [getD_append (by simp)]
      exact relV_int_mk g1
  have hlen : ∀ l : List (Nat × AV), (pickT n l).length = n := pickT_len n
  cases hF : codeF1 a0 a1 with
  | none => rw [codeF, hF] at hd; cases hd
  | some r =>
    refine piece hP (fn := fn) (slots := [(0, false), (1, false)]) (r := r) (by rw [hlen]; rw [← hF]; exact h1 a0 a1) hT0 rfl fun e a' w' ⟨hbl, hde, hsz', he⟩ => ?_
    rw [hlen] at hsz'
    cases e with
    | ret =>
      obtain ⟨l, rfl, hhas, hres⟩ := he
      refine ⟨hde, _, hres, ?_⟩
      have hl2 : l = [x, y] := inl2_of (by simpa only [codeF, hF] using hd)
      subst hl2
      exact ⟨rfl, hhas, hbl⟩
    | normal =>
      obtain ⟨l, rfl, hll, hsl⟩ := he
      have hl2 : l = [a0, a1] := by
        exact codeF1_inr hF
      subst hl2
      show Code.wp P (rest 3 c) _ a' w'
      rw [hr]
      refine wp_seq (wp_region_list ?_)
      rw [hops]
      refine wpl_enter h02 (run_call0 hP hfc hbc h01 a' w') ((hcodes w').mono ?_)
      rintro e2 w2 ⟨b, rfl, hb1, hb2, hb3, hm⟩
      refine ⟨_, rfl, ?_⟩
      rw [h03]
      have q0 : RelV M0 (.int .i64 none a0) (a'.tmps.getD 0 undef) := getD_int (n := n) hsl 0 (t := 0) rfl rfl
      have q1 : RelV M0 (.int .i64 none a1) (a'.tmps.getD 1 undef) := getD_int (n := n) hsl 1 (t := 1) rfl rfl
      have hT1 : RelT M0 (pickT n [(0, .int .i64 none a0), (1, .int .i64 none a1), (d0, .mp b)]) (a'.put (some d0) (.map (some b))).tmps := by
        refine relT_pick (by rw [put_size]; exact hsz') fun p hp => ?_
        rcases List.mem_cons.1 hp with rfl | hp
        · rw [put_get_ne (fun h => d00 h.symm)]; exact q0
        rcases List.mem_cons.1 hp with rfl | hp
        · rw [put_get_ne (fun h => d01 h.symm)]; exact q1
        · obtain rfl := List.mem_singleton.1 hp
          rw [put_get (by omega)]
          simp [RelV, RelX]
      refine pieceL hP (picks := [d0, dk]) (xs := [.mp b, kx a0 a1]) (by rw [hlen]; exact h2 a0 a1 b) hT1 (by rw [put_defers]; exact hde) fun M3 a3 w3 hp3 hs3 hd3 hb3' => ?_
      rw [hlen] at hs3
      have e1 : a3.tmps.getD d0 undef = .map (some b) := by
        have := hp3 0 d0 _ rfl rfl
        simpa [RelV, RelX] using this
      have e2 : a3.tmps.getD dk undef = .agg #[.int .i64 a0, .int .i64 a1] := hkx _ _ _ _ (hp3 1 dk _ rfl rfl)
      have hm3 : MapAt w3 b (mapT 0) := hm.kept hb3' (by omega)
      have hlook : ∃ (v : Int) (q : Bool), (Instr.lookup T (.map (some b)) (.agg #[.int .i64 a0, .int .i64 a1]) true).run P w3 = .ok (.tuple #[.int .i64 v, .bool q]) w3 ∧ IntKind.i64.has v ∧ orE 9 (codeL a0 a1) = inl2 (codeF2 v q) := by
        rcases MapAt.look hK hT hm3 (codes_keys hkey) (hkey a0 a1 g0 g1) (hz w3) with ⟨v, hv, hrun⟩ | ⟨hno, hrun⟩
        · obtain ⟨m, hm1, rfl, hm2⟩ := codeL_of hv
          exact ⟨m, true, hrun, hm2, by rw [hm1]; rfl⟩
        · exact ⟨0, false, hrun, has_of_inB rfl, by rw [codeL_none hno]; rfl⟩
      obtain ⟨v, q, hrun, hv, hq⟩ := hlook
      have hrun2 : (execOp a3.eval ol).run P w3 = .ok (.value (.tuple #[.int .i64 v, .bool q])) w3 := by
        simp [execOp, hl1, Go.Act.eval, ← Array.getD_eq_getD_getElem?, e1, e2, hrun, Result.andThen]
      refine wpl hl2 hrun2 ?_
      rw [hl3]
      have hT4 : RelT M0 (pickT n [(dl, .tup [.int .i64 none v, .bool none q])]) (a3.put (some dl) (.tuple #[.int .i64 v, .bool q])).tmps := by
        refine relT_pick (by rw [put_size]; exact hs3) fun p hp => ?_
        obtain rfl := List.mem_singleton.1 hp
        rw [put_get (by omega)]
        simp only [RelV, RelX]
        exact ⟨_, rfl, RelL_cons.2 ⟨_, _, rfl, relV_int_mk hv, RelL_cons.2 ⟨_, _, rfl, by simp [RelX], RelL_nil.2 rfl⟩⟩⟩
      have h2s : ∃ l, codeF2 v q = some (.inl l) := by cases q <;> exact ⟨_, rfl⟩
      obtain ⟨l4, h4⟩ := h2s
      refine pieceLC hP (fn := fn) (slots := []) (r := .inl l4) (by rw [hlen]; rw [← h4]; exact h3 v q) hT4 (by rw [put_defers]; exact hd3) fun e5 a5 w5 ⟨hb5, hd5, _, he5⟩ => ?_
      cases e5 with
      | ret =>
        obtain ⟨l5, hl5, hhas5, hres5⟩ := he5
        cases hl5
        refine ⟨hd5, _, hres5, ?_⟩
        have : l4 = [x, y] := by
          have hd2 : orE 9 (codeL a0 a1) = some (x, y, ()) := by
            simpa only [codeF, hF] using hd
          rw [hq, h4] at hd2
          exact inl2_of hd2
        subst this
        exact ⟨rfl, hhas5, hbl.trans (Below.weak (hb3.trans (Below.weak (hb3'.trans (Below.weak hb5 hb3'.size)) hb3.size)) hbl.size)⟩
      | normal => obtain ⟨l5, hl5, _⟩ := he5; cases hl5
      | _ => cases he5
    | _ => cases he

/-! ### a range over the codes -/

theorem formatL_of {x y : Int} {e : Int × Int × Int} (he : e ∈ codesT) (hy : e.2.1 = y) (hx : e.2.2 = x) : formatL x y = some e.1 := by
  have : codesT.all (fun e => formatL e.2.2 e.2.1 == some e.1) = true := by decide
  have := List.all_eq_true.1 this e he
  rw [hy, hx] at this
  simpa using this
theorem formatL_none {x y : Int} (h : ∀ e ∈ codesT, ¬ (e.2.1 = y ∧ e.2.2 = x)) : formatL x y = none := by
  unfold formatL
  rw [Option.map_eq_none_iff, List.find?_eq_none]
  intro e he hq
  simp only [Bool.and_eq_true, beq_iff_eq] at hq
  exact h e he hq

theorem codes_mem {k v : Value} (h : (k, v) ∈ mapT 0) : ∃ e ∈ codesT, k = .agg #[.int .i64 e.1, .int .i64 e.2.1] ∧ v = .int .i64 e.2.2 := by
  obtain ⟨e, he, heq⟩ := List.mem_map.1 h
  cases heq
  exact ⟨e, he, rfl, rfl⟩

theorem formatB_ret {x y f i n : Int} {r : Nat} {l : List Int} (h : formatB x y f i n r = some (.inl l)) : i = y ∧ n = x ∧ l = [f, 0] := by
  unfold formatB at h
  cases h1 : (i == y) <;> cases h2 : (n == x) <;> rw [h1] at h <;> try rw [h2] at h
  all_goals cases h
  exact ⟨by simpa using h1, by simpa using h2, rfl⟩
theorem formatB_next {x y f i n : Int} {r : Nat} {l : List Int} (h : formatB x y f i n r = some (.inr l)) : ¬ (i = y ∧ n = x) ∧ l = [x, y, (r : Int)] := by
  unfold formatB at h
  cases h1 : (i == y) <;> cases h2 : (n == x) <;> rw [h1] at h <;> try rw [h2] at h
  all_goals cases h
  · exact ⟨fun q => by simp [q.1] at h1, rfl⟩
  · exact ⟨fun q => by simp [q.1] at h1, rfl⟩
  · exact ⟨fun q => by simp [q.2] at h2, rfl⟩

/-- Where the loop is: what the slots hold; the map; the iterator; none of those that were seen is the one that is sought. -/
structure FLoop (n dr b r : Nat) (x y : Int) (w0 : World) (k : Nat) (a : Go.Act) (w : World) : Prop where
  size : a.tmps.size = n
  defers : a.defers = []
  s0 : RelV M0 (.int .i64 none x) (a.tmps.getD 0 undef)
  s1 : RelV M0 (.int .i64 none y) (a.tmps.getD 1 undef)
  sr : a.tmps.getD dr undef = .pointer (some ⟨r, 0, none⟩)
  mem : ∃ es clock seen, w.heap[b]? = some (.map es clock) ∧ MapKept.Stamped es clock ∧ (es.toList.map fun e => (e.key, e.val)).Perm (mapT 0) ∧ w.heap[r]? = some (.mapIter (some b) clock seen clock) ∧ (leftOf es seen).size = k ∧
    ∀ e ∈ es.toList, seen.contains e.born = true → ∀ q ∈ codesT, (e.key, e.val) = (.agg #[.int .i64 q.1, .int .i64 q.2.1], .int .i64 q.2.2) → ¬ (q.2.1 = y ∧ q.2.2 = x)
  below : Below w0.heap.size w0 w
  hb : w0.heap.size ≤ b
  hr : w0.heap.size ≤ r
  ne : r ≠ b

theorem format_spec {P : Program} (hP : Callable P) {f fc : FuncId} {fn fnc : Func} {c c6 c7 : Code} {i1 i2 i3 i4 i5 n : Nat} {ops1 ops3 ops5 : Array Oper} {T K E : TypeId} {o0 o1 o2 o3 o5 : Oper} {l5 : List Oper} {d0 dr dn dc de : Nat}
    (hf : P.funcs[f]? = some fn) (hb : fn.body = some c) (hn : fn.ntmps = n) (hsz : 1 < n ∧ d0 < n ∧ dr < n ∧ dn < n ∧ dc < n ∧ de < n ∧ d0 ≠ 0 ∧ d0 ≠ 1 ∧ dr ≠ 0 ∧ dr ≠ 1 ∧ dn ≠ 0 ∧ dn ≠ 1 ∧ dn ≠ dr ∧ dc ≠ 0 ∧ dc ≠ 1 ∧ dc ≠ dr ∧ de ≠ 0 ∧ de ≠ 1 ∧ de ≠ dr)
    (hr : rest 2 c = .seq (.seq (.region i1 ops1 false) (.block i2 (.loop (.seq (.region i3 ops3 false) (.seq (.cond (.tmp dc) .skip (.exit i2)) (.block i4 (.seq (.region i5 ops5 false) c6))))))) c7)
    (hK : Maps.Keyed P K) (hT : P.underlying T = some (.map K E))
    (hfc : P.funcs[fc]? = some fnc) (hbc : fnc.body.isSome = true) (hcodes : CodesAt P fc)
    (hops1 : ops1.toList = [o0, o1]) (hops3 : ops3.toList = [o2, o3]) (hops5 : ops5.toList = o5 :: l5)
    (h01 : o0.op = .call ⟨.value (.func fc), #[], #[]⟩) (h02 : o0.guard = none) (h03 : o0.dst = some d0) (h11 : o1.op = .range T (.tmp d0)) (h12 : o1.guard = none) (h13 : o1.dst = some dr)
    (h21 : o2.op = .next (.tmp dr) false) (h22 : o2.guard = none) (h23 : o2.dst = some dn) (h31 : o3.op = .extract (.tmp dn) 0) (h32 : o3.guard = none) (h33 : o3.dst = some dc)
    (h51 : o5.op = .entry (.tmp dr)) (h52 : o5.guard = none) (h53 : o5.dst = some de)
    (h1 : ∀ x y, evPre P (cal0 P) qcal0 2 c ⟨pickT n [(0, .int .i64 none x), (1, .int .i64 none y)], H0⟩ (fun e st => if st.tmps.length = n then endK P fn [(0, false), (1, false)] e st else none) = formatF1 x y)
    (h6 : ∀ x y k i v r, evList P (cal0 P) ops5 l5 ⟨pickT n [(0, .int .i64 none x), (1, .int .i64 none y), (dr, .itr r), (de, .tup [.agg [.int .i64 none k, .int .i64 none i], .int .i64 none v])], H0⟩ (fun st => evCode P (cal0 P) qcal0 (fun _ => none) c6 st (fun e st => if st.tmps.length = n then endK P fn [(0, false), (1, false), (dr, true)] e st else none)) = formatB x y k i v r)
    (h7 : evCode P (cal0 P) qcal0 (fun _ => none) c7 ⟨pickT n [], H0⟩ (fun e st => if st.tmps.length = n then endK P fn [] e st else none) = some (.inl [0, 5])) :
    FnSpec P f 2 [.slot 0 (.int .i64), .slot 1 (.int .i64)] [.ty (.int .i64), .ty (.int .i64)] (fun d => formatF d.1 d.2.1) := by
  refine fnSpec2 fun d x y M vs w hl hd => ?_
  obtain ⟨a0, a1, ⟨⟩⟩ := d
  have hd : formatF a0 a1 = some (x, y, ()) := hd
  obtain ⟨v0, r0, hv, hx0, hr0⟩ := RelL_cons.1 (show RelL M [.int .i64 none a0, .int .i64 none a1] vs.toList from hl)
  obtain ⟨v1, r1, rfl, hx1, hr1⟩ := RelL_cons.1 hr0
  rw [RelL_nil] at hr1
  subst hr1
  obtain ⟨rfl, g0, _⟩ := relV_int (l := none) (x := a0) hx0
  obtain ⟨rfl, g1, _⟩ := relV_int (l := none) (x := a1) hx1
  obtain rfl : vs = #[.int .i64 a0, .int .i64 a1] := by
    apply Array.toList_inj.1
    simpa using hv
  refine calls_of_wp hf hb ?_
  rw [hn]
  obtain ⟨n1, nd0, ndr, ndn, ndc, nde, d00, d01, dr0, dr1, dn0, dn1, dnr, dc0, dc1, dcr, de0, de1, der⟩ := hsz
  have hs0 : (#[Value.int .i64 a0, Value.int .i64 a1] ++ Array.replicate (n - 2) undef).size = n := by simp; omega
  have hT0 : RelT M0 (pickT n [(0, .int .i64 none a0), (1, .int .i64 none a1)]) (#[Value.int .i64 a0, Value.int .i64 a1] ++ Array.replicate (n - 2) undef) := by
    refine relT_pick hs0 fun p hp => ?_
    rcases List.mem_cons.1 hp with rfl | hp
    · rw [getD_append (by simp)]
      exact relV_int_mk g0
    · obtain rfl := List.mem_singleton.1 hp
      rw [getD_append (by simp)]
      exact relV_int_mk g1
  have hlen : ∀ l : List (Nat × AV), (pickT n l).length = n := pickT_len n
  cases hF : formatF1 a0 a1 with
  | none => rw [formatF, hF] at hd; cases hd
  | some r =>
    refine piece hP (fn := fn) (slots := [(0, false), (1, false)]) (r := r) (by rw [hlen]; rw [← hF]; exact h1 a0 a1) hT0 rfl fun e a' w' ⟨hbl, hde, hsz', he⟩ => ?_
    rw [hlen] at hsz'
    cases e with
    | ret =>
      obtain ⟨l, rfl, hhas, hres⟩ := he
      refine ⟨hde, _, hres, ?_⟩
      have hl2 : l = [x, y] := inl2_of (by simpa only [formatF, hF] using hd)
      subst hl2
      exact ⟨rfl, hhas, hbl⟩
    | normal =>
      obtain ⟨l, rfl, hll, hsl⟩ := he
      have hl2 : l = [a0, a1] := formatF1_inr hF
      subst hl2
      have hd2 : orE 5 (formatL a0 a1) = some (x, y, ()) := by
        simpa only [formatF, hF] using hd
      show Code.wp P (rest 2 c) _ a' w'
      rw [hr]
      refine wp_seq (wp_seq (wp_region_list ?_))
      rw [hops1]
      refine wpl_enter h02 (run_call0 hP hfc hbc h01 a' w') ((hcodes w').mono ?_)
      rintro e2 w2 ⟨b, rfl, hb1, hb2, hb3, hm⟩
      refine ⟨_, rfl, ?_⟩
      rw [h03]
      have q0 : RelV M0 (.int .i64 none a0) (a'.tmps.getD 0 undef) := getD_int (n := n) hsl 0 (t := 0) rfl rfl
      have q1 : RelV M0 (.int .i64 none a1) (a'.tmps.getD 1 undef) := getD_int (n := n) hsl 1 (t := 1) rfl rfl
      obtain ⟨es, clock, m1, m2, m3⟩ := hm
      have e0 : (a'.put (some d0) (.map (some b))).tmps.getD d0 undef = .map (some b) := put_get (by omega)
      have hrun1 : (execOp (a'.put (some d0) (.map (some b))).eval o1).run P w2 = .ok (.value (.pointer (some ⟨w2.heap.size, 0, none⟩))) (w2.alloc (.mapIter (some b) clock #[] clock)) := by
        have := run_range_map (P := P) w2 T K E b es clock hT m1
        simp [execOp, h11, Go.Act.eval, ← Array.getD_eq_getD_getElem?, e0, this, Result.andThen]
      refine wpl h12 hrun1 ?_
      rw [h13]
      have hw3 : Below w2.heap.size w2 (w2.alloc (.mapIter (some b) clock #[] clock)) := Below.alloc w2 _ (Nat.le_refl _)
      -- the loop
      have init : FLoop n dr b w2.heap.size a0 a1 w (leftOf es #[]).size ((a'.put (some d0) (.map (some b))).put (some dr) (.pointer (some ⟨w2.heap.size, 0, none⟩))) (w2.alloc (.mapIter (some b) clock #[] clock)) := by
        refine ⟨by rw [put_size, put_size]; exact hsz', by rw [put_defers, put_defers]; exact hde, ?_, ?_, put_get (by rw [put_size]; omega), ⟨es, clock, #[], ?_, m2, m3, (MapKept.heap_alloc w2 _).1, rfl, fun e _ h => by simp at h⟩, ?_, ?_, ?_, ?_⟩
        · rw [put_get_ne (fun h => dr0 h.symm), put_get_ne (fun h => d00 h.symm)]; exact q0
        · rw [put_get_ne (fun h => dr1 h.symm), put_get_ne (fun h => d01 h.symm)]; exact q1
        · exact ((MapKept.heap_alloc w2 _).2 b hb2).trans m1
        · exact hbl.trans (Below.weak (hb3.trans (Below.weak hw3 hb3.size)) hbl.size)
        · exact Nat.le_trans hbl.size hb1
        · exact Nat.le_trans hbl.size hb3.size
        · omega
      show Code.wp P (.block i2 _) _ _ _
      refine wp_block (wp_loop_ind (FLoop n dr b w2.heap.size a0 a1 w) init ?_)
      clear init hw3 hrun1 e0 q0 q1 hsl hde hsz' hbl hT0 hs0
      intro k a w3 I
      refine wp_seq (wp_region_list ?_)
      rw [hops3]
      obtain ⟨i_size, i_def, i0, i1', ir, ⟨es, clock, seen, j1, j2, j3, j4, j5, j6⟩, i_bel, i_b, i_r, i_ne⟩ := I
      have j2' := (MapKept.stamped_iff es clock).1 j2
      -- behind the two operations
      have two : ∀ (v : Value) (q : Bool) (w4 : World), (Instr.next (.pointer (some ⟨w2.heap.size, 0, none⟩)) false o2.type).run P w3 = .ok v w4 → (Instr.extract v 0).run P w4 = .ok (.bool q) w4 →
          ∀ {Q : Exit → Go.Act → World → Prop}, Q .normal ((a.put (some dn) v).put (some dc) (.bool q)) w4 → wpList P ops3 Q [o2, o3] a w3 := by
        intro v q w4 r1 r2 Q hQ
        have r3 : (execOp a.eval o2).run P w3 = .ok (.value v) w4 := by
          simp [execOp, h21, Go.Act.eval, ← Array.getD_eq_getD_getElem?, ir, r1, Result.andThen]
        refine wpl h22 r3 ?_
        rw [h23]
        have e1 : (a.put (some dn) v).tmps.getD dn undef = v := put_get (by omega)
        have r4 : (execOp (a.put (some dn) v).eval o3).run P w4 = .ok (.value (.bool q)) w4 := by
          simp [execOp, h31, Go.Act.eval, ← Array.getD_eq_getD_getElem?, e1, r2, Result.andThen]
        refine wpl h32 r4 ?_
        rw [h33]
        exact hQ
      rcases run_next_at (P := P) w3 o2.type w2.heap.size b clock clock seen es clock j4 j1 j2'.1 (Nat.le_refl _) with ⟨h0, hrun⟩ | ⟨e, hel, w4, hw4, hrun⟩
      · -- none is left
        refine two _ false w3 hrun (by simp [Instr.extract]) ?_
        refine wp_seq (wp_cond_false ?_ (wp_exit ?_))
        · have : ((a.put (some dn) (.tuple #[.bool false])).put (some dc) (.bool false)).tmps.getD dc undef = .bool false := put_get (by rw [put_size]; omega)
          simpa [Go.Act.eval, ← Array.getD_eq_getD_getElem?] using this
        show if i2 = i2 then _ else _
        rw [if_pos rfl]
        -- behind the loop
        have hno : formatL a0 a1 = none := formatL_none fun q hq => by
          obtain ⟨e, he, heq⟩ := List.mem_map.1 (j3.mem_iff.2 (List.mem_map.2 ⟨q, hq, rfl⟩))
          exact j6 e he (all_seen es seen h0 e he) q hq heq
        rw [hno] at hd2
        have hxy : x = 0 ∧ y = 5 := by cases hd2; exact ⟨rfl, rfl⟩
        obtain ⟨rfl, rfl⟩ := hxy
        refine piece1 hP (fn := fn) (slots := []) (ts := pickT n []) (r := .inl [0, 5]) (by rw [hlen]; exact h7) (relT_pick (by rw [put_size, put_size]; exact i_size) (fun p hp => by cases hp)) (by rw [put_defers, put_defers]; exact i_def) fun e5 a5 w5 ⟨hb5, hd5, _, he5⟩ => ?_
        cases e5 with
        | ret =>
          obtain ⟨l5, hl5, hhas5, hres5⟩ := he5
          cases hl5
          exact ⟨hd5, _, hres5, rfl, hhas5, i_bel.trans (Below.weak hb5 i_bel.size)⟩
        | normal => obtain ⟨l5, hl5, _⟩ := he5; cases hl5
        | _ => cases he5
      · -- one more
        obtain ⟨hem, hes⟩ := mem_left hel
        have hb4 : Below w3.heap.size w3 w4 := by
          rcases hw4 with rfl | rfl
          · exact Below.refl _ _
          · exact (Below.refl _ _).drew
        have hr4 : w4.heap[w2.heap.size]? = some (.mapIter (some b) clock seen clock) := by rcases hw4 with rfl | rfl <;> exact j4
        have hm4 : w4.heap[b]? = some (.map es clock) := by rcases hw4 with rfl | rfl <;> exact j1
        have hr5 := heap_set_same (o' := .mapIter (some b) clock (seen.push e.born) clock) hr4
        have hm5 : (setBlock w4 w2.heap.size (.mapIter (some b) clock (seen.push e.born) clock)).heap[b]? = some (.map es clock) := by
          rw [heap_set_other (fun h => i_ne h.symm)]
          exact hm4
        have hb5 : Below w.heap.size w (setBlock w4 w2.heap.size (.mapIter (some b) clock (seen.push e.born) clock)) := by
          refine (i_bel.trans (Below.weak hb4 i_bel.size)).trans ⟨rfl, rfl, rfl, by simp [setBlock], fun i hi => ?_⟩
          exact heap_set_other (by omega)
        refine two _ true _ hrun (by simp [Instr.extract]) ?_
        refine wp_seq (wp_cond_true ?_ (wp_skip ?_))
        · have : ((a.put (some dn) (.tuple #[.bool true, e.key, e.val])).put (some dc) (.bool true)).tmps.getD dc undef = .bool true := put_get (by rw [put_size]; omega)
          simpa [Go.Act.eval, ← Array.getD_eq_getD_getElem?] using this
        refine wp_block (wp_seq (wp_region_list ?_))
        rw [hops5]
        have e6 : ((a.put (some dn) (.tuple #[.bool true, e.key, e.val])).put (some dc) (.bool true)).tmps.getD dr undef = .pointer (some ⟨w2.heap.size, 0, none⟩) := by
          rw [put_get_ne (fun h => dcr h.symm), put_get_ne (fun h => dnr h.symm)]
          exact ir
        have r6 : (execOp ((a.put (some dn) (.tuple #[.bool true, e.key, e.val])).put (some dc) (.bool true)).eval o5).run P (setBlock w4 w2.heap.size (.mapIter (some b) clock (seen.push e.born) clock)) = .ok (.value (.tuple #[e.key, e.val])) (setBlock w4 w2.heap.size (.mapIter (some b) clock (seen.push e.born) clock)) := by
          have := run_entry_at (P := P) _ w2.heap.size b clock seen es clock e hr5 hm5 hem j2'.2.1
          simp [execOp, h51, Go.Act.eval, ← Array.getD_eq_getD_getElem?, e6, this, Result.andThen]
        refine wpl h52 r6 ?_
        rw [h53]
        obtain ⟨q, hq, hqk, hqv⟩ := codes_mem (j3.mem_iff.1 (List.mem_map.2 ⟨e, hem, rfl⟩))
        obtain ⟨c1, c2, c3⟩ := codes_has q hq
        have hT6 : RelT M0 (pickT n [(0, .int .i64 none a0), (1, .int .i64 none a1), (dr, .itr w2.heap.size), (de, .tup [.agg [.int .i64 none q.1, .int .i64 none q.2.1], .int .i64 none q.2.2])]) (((a.put (some dn) (.tuple #[.bool true, e.key, e.val])).put (some dc) (.bool true)).put (some de) (.tuple #[e.key, e.val])).tmps := by
          refine relT_pick (by rw [put_size, put_size, put_size]; exact i_size) fun p hp => ?_
          rcases List.mem_cons.1 hp with rfl | hp
          · rw [put_get_ne (fun h => de0 h.symm), put_get_ne (fun h => dc0 h.symm), put_get_ne (fun h => dn0 h.symm)]; exact i0
          rcases List.mem_cons.1 hp with rfl | hp
          · rw [put_get_ne (fun h => de1 h.symm), put_get_ne (fun h => dc1 h.symm), put_get_ne (fun h => dn1 h.symm)]; exact i1'
          rcases List.mem_cons.1 hp with rfl | hp
          · rw [put_get_ne (fun h => der h.symm), e6]
            simp [RelV, RelX]
          · obtain rfl := List.mem_singleton.1 hp
            rw [put_get (by rw [put_size, put_size]; omega), hqk, hqv]
            simp only [RelV, RelX]
            exact ⟨_, rfl, RelL_cons.2 ⟨_, _, rfl, RelX_agg.2 ⟨_, rfl, RelC_cons.2 ⟨_, _, rfl, relV_int_mk c1, RelC_single.2 (relV_int_mk c2)⟩⟩, RelL_cons.2 ⟨_, _, rfl, relV_int_mk c3, RelL_nil.2 rfl⟩⟩⟩
        have hB : ∃ r, formatB a0 a1 q.1 q.2.1 q.2.2 w2.heap.size = some r := by
          unfold formatB
          cases (q.2.1 == a1) <;> cases (q.2.2 == a0) <;> exact ⟨_, rfl⟩
        obtain ⟨r, hB⟩ := hB
        refine pieceLC hP (fn := fn) (slots := [(0, false), (1, false), (dr, true)]) (r := r) (by rw [hlen]; rw [← hB]; exact h6 a0 a1 q.1 q.2.1 q.2.2 w2.heap.size) hT6 (by rw [put_defers, put_defers, put_defers]; exact i_def) fun e7 a7 w7 ⟨hb7, hd7, hs7, he7⟩ => ?_
        rw [hlen] at hs7
        have hb7' : Below w.heap.size w w7 := hb5.trans (Below.weak hb7 hb5.size)
        cases e7 with
        | ret =>
          obtain ⟨l7, rfl, hhas7, hres7⟩ := he7
          have hmatch := formatB_ret hB
          obtain ⟨u1, u2, rfl⟩ := hmatch
          rw [formatL_of hq u1 u2] at hd2
          have hxy : x = q.1 ∧ y = 0 := by cases hd2; exact ⟨rfl, rfl⟩
          obtain ⟨rfl, rfl⟩ := hxy
          exact ⟨hd7, _, hres7, rfl, hhas7, hb7'⟩
        | normal =>
          obtain ⟨l7, rfl, hl7, hsl7⟩ := he7
          have hmatch := formatB_next hB
          obtain ⟨hnot, rfl⟩ := hmatch
          have hlt := left_shrinks es seen e hel
          rw [j5] at hlt
          refine ⟨_, hlt, hs7, hd7, getD_int (n := n) hsl7 0 (t := 0) rfl rfl, getD_int (n := n) hsl7 1 (t := 1) rfl rfl, ?_, ⟨es, clock, seen.push e.born, ?_, j2, j3, ?_, rfl, fun e' he' hs' q' hq' heq => ?_⟩, hb7', i_b, i_r, i_ne⟩
          · have := (hsl7 2 _ (dr, true) rfl rfl).1
            simpa [slotVal] using this
          · rw [hb7.block b (Array.getElem?_eq_some_iff.1 hm5).1]
            exact hm5
          · rw [hb7.block _ (Array.getElem?_eq_some_iff.1 hr5).1]
            exact hr5
          · rw [contains_push] at hs'
            rcases Bool.or_eq_true_iff.1 hs' with hs' | hs'
            · exact j6 e' he' hs' q' hq' heq
            · have hb : e'.born = e.born := by simpa using hs'
              have : e' = e := born_inj j2'.2.1 he' hem hb
              subst this
              rw [hqk, hqv] at heq
              simp only [Prod.mk.injEq, Value.agg.injEq, Array.mk.injEq, List.cons.injEq, Value.int.injEq, true_and, and_true] at heq
              rw [← heq.1.2, ← heq.2]
              exact hnot
        | _ => cases he7
    | _ => cases he

/-! ### letters -/

theorem letters_keys {P : Program} {k : TypeId} (hu : P.underlying k = some .string) : ∀ p ∈ lettersV, ∃ l, keyOf P k p.1 = some l := by
  intro p hp
  obtain ⟨e, he, rfl⟩ := List.mem_map.1 hp
  have hb : lettersT.all (fun e => inB .i64 (e.1.length : Int)) = true := by decide
  exact strKeys hu (has_of_inB (List.all_eq_true.1 hb e he))
theorem letters_apart : (lettersV ++ []).Pairwise (fun (p q : Value × Value) => p.1 ≠ q.1) := by
  rw [List.append_nil]
  unfold lettersV
  rw [List.pairwise_map]
  have hb : lettersT.all (fun e => e.1.all fun x => decide (0 ≤ x ∧ x ≤ 255)) = true := by decide
  have hp : lettersT.Pairwise (fun a b => a.1 ≠ b.1) := by decide
  refine hp.imp_of_mem fun {a b} ha hb' h e => h ?_
  have h1 : ∀ x ∈ a.1, 0 ≤ x ∧ x ≤ 255 := fun x hx => by simpa using List.all_eq_true.1 (List.all_eq_true.1 hb a ha) x hx
  have h2 : ∀ x ∈ b.1, 0 ≤ x ∧ x ≤ 255 := fun x hx => by simpa using List.all_eq_true.1 (List.all_eq_true.1 hb b hb') x hx
  simp only [Value.string.injEq] at e
  rw [← bytesL_mkS h1, e, bytesL_mkS h2]

theorem letters_spec {P : Program} (hP : Callable P) {f : FuncId} {fn : Func} {c3 : Code} {i0 i1 n : Nat} {ops0 ops1 : Array Oper} {T K E : TypeId} {om ol : Oper} {li l1 l2 : List Oper} {dm dk ds dl : Nat}
    (hf : P.funcs[f]? = some fn) (hb : fn.body = some (.seq (.region i0 ops0 false) (.seq (.region i1 ops1 false) c3))) (hn : fn.ntmps = n) (hsz : 0 < n ∧ dm < n ∧ dl < n ∧ dm ≠ 0)
    (hK : Maps.Keyed P K) (hu : P.underlying K = some .string) (hT : P.underlying T = some (.map K E)) (hz : ∀ w, (zeroValue E).run P w = .ok (.int .i64 0) w)
    (hops : ops1.toList = om :: (li ++ (l1 ++ ol :: l2)))
    (hm1 : om.op = .makeMap T none) (hm2 : om.guard = none) (hm3 : om.dst = some dm) (hl1 : ol.op = .lookup T (.tmp dk) (.tmp ds) true) (hl2 : ol.guard = none) (hl3 : ol.dst = some dl)
    (h0 : ∀ s, evList P (evFn P (emptyEnv (List AV)) 12) ops0 ops0.toList ⟨pickT n [(0, .str s)], H0⟩ (fun st => if st.tmps.length = n then some ([0].map fun t => st.tmps.getD t .undef) else none) = some [.str s])
    (hi : (li.all fun o => o.guard.isNone && o.dst.isNone) = true) (hi2 : ∀ (a : Go.Act) (b : Nat), a.eval (.tmp dm) = .map (some b) → li.map (insOf a b) = lettersV.map fun p => some (T, b, p.1, p.2))
    (h1 : ∀ s b, evList P (evFn P (emptyEnv (List AV)) 12) ops1 l1 ⟨pickT n [(0, .str s), (dm, .mp b)], H0⟩ (fun st => if st.tmps.length = n then some ([dk, ds].map fun t => st.tmps.getD t .undef) else none) = some [.mp b, .str s])
    (h2 : ∀ v b, evList P (cal0 P) ops1 l2 ⟨pickT n [(dl, .tup [.int .i64 none v, .bool none b])], H0⟩ (fun st => evCode P (cal0 P) qcal0 (fun _ => none) c3 st (fun e st => if st.tmps.length = n then endK P fn [] e st else none)) = lettersF2 v b) :
    FnSpec P f 1 [.slot 0 .str] [.ty (.int .i64), .ty (.int .i64)] (fun d => lettersF d.1) := by
  refine fnSpec2 fun d x y M vs w hl hd => ?_
  obtain ⟨s, ⟨⟩⟩ := d
  have hd : orE 5 (lettersL s) = some (x, y, ()) := hd
  obtain ⟨v0, r0, hv, hx0, hr0⟩ := RelL_cons.1 (show RelL M [.str s] vs.toList from hl)
  rw [RelL_nil] at hr0
  subst hr0
  simp only [RelX] at hx0
  obtain ⟨hx0, hs1, hs2⟩ := hx0
  have hx0 : v0 = .string (mkS s) := by simpa using hx0
  subst hx0
  obtain rfl : vs = #[.string (mkS s)] := by
    apply Array.toList_inj.1
    simpa using hv
  have hrs : RelV M0 (.str s) (.string (mkS s)) := by simp only [RelV, RelX]; exact ⟨trivial, hs1, hs2⟩
  refine calls_of_wp hf hb ?_
  rw [hn]
  obtain ⟨n0, nm, nl, dm0⟩ := hsz
  have hlen : ∀ l : List (Nat × AV), (pickT n l).length = n := pickT_len n
  have hs0 : (#[Value.string (mkS s)] ++ Array.replicate (n - 1) undef).size = n := by simp; omega
  have hT0 : RelT M0 (pickT n [(0, .str s)]) (#[Value.string (mkS s)] ++ Array.replicate (n - 1) undef) := by
    refine relT_pick hs0 fun p hp => ?_
    obtain rfl := List.mem_singleton.1 hp
    rw [getD_append (by simp)]
    exact hrs
  refine wp_seq (wp_region_list ?_)
  rw [← List.append_nil ops0.toList]
  refine pieceL hP (picks := [0]) (xs := [.str s]) (by rw [hlen]; exact h0 s) hT0 rfl fun M1 a1 w1 hp1 hs1' hd1 hb1 => ?_
  rw [hlen] at hs1'
  have q0 : a1.tmps.getD 0 undef = .string (mkS s) := by
    have := hp1 0 0 _ rfl rfl
    simp only [RelV, RelX] at this
    simpa using this.1
  show Code.wp P _ _ a1 w1
  refine wp_seq (wp_region_list ?_)
  rw [hops]
  refine wpl (w' := w1.alloc (.map #[] 0)) (v := .map (some w1.heap.size)) hm2 (by simp [execOp, hm1, run_makeMap, Result.andThen]) ?_
  rw [hm3]
  have e0 : (a1.put (some dm) (.map (some w1.heap.size))).tmps.getD dm undef = .map (some w1.heap.size) := put_get (by omega)
  have hw2 : Below w1.heap.size w1 (w1.alloc (.map #[] 0)) := Below.alloc w1 _ (Nat.le_refl _)
  have hwA : Below w.heap.size w (w1.alloc (.map #[] 0)) := hb1.trans (Below.weak hw2 hb1.size)
  refine wpList_inss hK hT (b := w1.heap.size) (n0 := w.heap.size) (w0 := w) hb1.size (T := []) (ents := lettersV) hi (hi2 _ _ (by simpa [Go.Act.eval, ← Array.getD_eq_getD_getElem?] using e0)) (letters_keys hu) (fun p hp => by cases hp) letters_apart (MapAt.made w1) hwA hwA.size fun w3 hm hb3 _ => ?_
  have hm : MapAt w3 w1.heap.size lettersV := hm.perm (by rw [List.append_nil]; exact List.reverse_perm _)
  have hT1 : RelT M0 (pickT n [(0, .str s), (dm, .mp w1.heap.size)]) (a1.put (some dm) (.map (some w1.heap.size))).tmps := by
    refine relT_pick (by rw [put_size]; exact hs1') fun p hp => ?_
    rcases List.mem_cons.1 hp with rfl | hp
    · rw [put_get_ne (fun h => dm0 h.symm), q0]; exact hrs
    · obtain rfl := List.mem_singleton.1 hp
      rw [e0]
      simp [RelV, RelX]
  refine pieceL hP (picks := [dk, ds]) (xs := [.mp w1.heap.size, .str s]) (by rw [hlen]; exact h1 s w1.heap.size) hT1 (by rw [put_defers]; exact hd1) fun M4 a4 w4 hp4 hs4 hd4 hb4 => ?_
  rw [hlen] at hs4
  have e1 : a4.tmps.getD dk undef = .map (some w1.heap.size) := by
    have := hp4 0 dk _ rfl rfl
    simpa [RelV, RelX] using this
  have e2 : a4.tmps.getD ds undef = .string (mkS s) := by
    have := hp4 1 ds _ rfl rfl
    simp only [RelV, RelX] at this
    simpa using this.1
  have hm4 : MapAt w4 w1.heap.size lettersV := hm.kept hb4 (by
    obtain ⟨es, clock, g, _⟩ := hm
    exact (Array.getElem?_eq_some_iff.1 g).1)
  have hlook : ∃ (v : Int) (q : Bool), (Instr.lookup T (.map (some w1.heap.size)) (.string (mkS s)) true).run P w4 = .ok (.tuple #[.int .i64 v, .bool q]) w4 ∧ IntKind.i64.has v ∧ orE 5 (lettersL s) = inl2 (lettersF2 v q) := by
    rcases MapAt.look hK hT hm4 (letters_keys hu) (strKeys hu hs2) (hz w4) with ⟨v, hv, hrun⟩ | ⟨hno, hrun⟩
    · obtain ⟨m, hm1, rfl, hm2⟩ := lettersL_of hs1 hv
      exact ⟨m, true, hrun, hm2, by rw [hm1]; rfl⟩
    · exact ⟨0, false, hrun, has_of_inB rfl, by rw [lettersL_none hno]; rfl⟩
  obtain ⟨v, q, hrun, hv', hq⟩ := hlook
  have hrun2 : (execOp a4.eval ol).run P w4 = .ok (.value (.tuple #[.int .i64 v, .bool q])) w4 := by
    simp [execOp, hl1, Go.Act.eval, ← Array.getD_eq_getD_getElem?, e1, e2, hrun, Result.andThen]
  refine wpl hl2 hrun2 ?_
  rw [hl3]
  have hT4 : RelT M0 (pickT n [(dl, .tup [.int .i64 none v, .bool none q])]) (a4.put (some dl) (.tuple #[.int .i64 v, .bool q])).tmps := by
    refine relT_pick (by rw [put_size]; exact hs4) fun p hp => ?_
    obtain rfl := List.mem_singleton.1 hp
    rw [put_get (by omega)]
    simp only [RelV, RelX]
    exact ⟨_, rfl, RelL_cons.2 ⟨_, _, rfl, relV_int_mk hv', RelL_cons.2 ⟨_, _, rfl, by simp [RelX], RelL_nil.2 rfl⟩⟩⟩
  have h2s : ∃ l, lettersF2 v q = some (.inl l) := by cases q <;> exact ⟨_, rfl⟩
  obtain ⟨l4, h4⟩ := h2s
  refine pieceLC hP (fn := fn) (slots := []) (r := .inl l4) (by rw [hlen]; rw [← h4]; exact h2 v q) hT4 (by rw [put_defers]; exact hd4) fun e5 a5 w5 ⟨hb5, hd5, _, he5⟩ => ?_
  cases e5 with
  | ret =>
    obtain ⟨l5, hl5, hhas5, hres5⟩ := he5
    cases hl5
    refine ⟨hd5, _, hres5, ?_⟩
    have : l4 = [x, y] := by
      rw [hq, h4] at hd
      exact inl2_of hd
    subst this
    exact ⟨rfl, hhas5, hb3.trans (Below.weak (hb4.trans (Below.weak hb5 hb4.size)) hb3.size)⟩
  | normal => obtain ⟨l5, hl5, _⟩ := he5; cases hl5
  | _ => cases he5

/-! ### the map of the codes, laid in whatever order -/

/-- Operations that yield just this. -/
def AllB (P : Program) (ops : Array Oper) : List (Nat × Nat × Value) → Prop
  | [] => True
  | p :: r => (∃ o, ops[p.1]? = some o ∧ o.guard = none ∧ o.dst = some p.2.1 ∧ ∀ (a : Go.Act) (w : World), (execOp a.eval o).run P w = .ok (.value p.2.2) w) ∧ AllB P ops r
def takesB (ops : Array Oper) : Array Bool → List (Nat × Nat × Value) → Bool
  | _, [] => true
  | L, p :: r => Region.free .any ops L p.1 && (Region.ready .any ops L).contains p.1 && takesB ops (L.setIfInBounds p.1 true) r
def takeL (L : Array Bool) (l : List (Nat × Nat × Value)) : Array Bool := l.foldl (fun L p => L.setIfInBounds p.1 true) L
def putsA (a : Go.Act) (l : List (Nat × Nat × Value)) : Go.Act := l.foldl (fun a p => a.put (some p.2.1) p.2.2) a

theorem wpAny_builds {P : Program} {ops : Array Oper} {Q : Exit → Go.Act → World → Prop} (hs : Region.noSelect ops = true) (hQ : ∀ c (a a' : Go.Act) w, Q (.panic c) a w → Q (.panic c) a' w) : ∀ {l : List (Nat × Nat × Value)} {L : Array Bool} {a : Go.Act} {w : World} {f : Nat},
    AllB P ops l → takesB ops L l = true → wpAny P .any ops Q f (takeL L l) (putsA a l) w → wpAny P .any ops Q (f + l.length) L a w
  | [], L, a, w, f, _, _, h => h
  | p :: l, L, a, w, f, hb, ht, h => by
    obtain ⟨⟨o, h1, h2, h3, h4⟩, hb⟩ := hb
    simp only [takesB, Bool.and_eq_true] at ht
    refine wpAny_take (i := p.1) (v := p.2.2) h1 hs ht.1.1 ht.1.2 (fun c a' w' hq => hQ c _ _ w' hq) (.inl ⟨by simp [Region.wanted, h2], fun w => h4 a w⟩) ?_
    rw [h3]
    exact wpAny_builds hs hQ hb ht.2 h

theorem wpOp_run {P : Program} {ops : Array Oper} {Q : Exit → Go.Act → World → Prop} {i : Nat} {o : Oper} {K : Go.Act → World → Prop} {a : Go.Act} {w w' : World} {v : Value} (hi : ops[i]? = some o) (hg : o.guard = none) (hrun : (execOp a.eval o).run P w = .ok (.value v) w') (h : K (a.put o.dst v) w') : wpOp P ops Q i K a w := by
  unfold wpOp
  rw [hi]
  simp only [Region.wanted, hg, if_true]
  left
  unfold Oper.wp
  rw [hrun, Oper.upon_value]
  exact h

def codesS : List Nat := (List.range 18).map fun i => 2 * i + 2
def codesE (i : Nat) : Value × Value := (mapT 0).getD (i / 2 - 1) (undef, undef)
theorem codesE_map : codesS.map codesE = mapT 0 := rfl
theorem codesE_ne : ∀ i ∈ codesS, ∀ j ∈ codesS, i ≠ j → (codesE i).1 ≠ (codesE j).1 := by
  have h : codesS.all (fun i => codesS.all fun j => i == j || !((codesT.getD (i / 2 - 1) (0, 0, 0)).1 == (codesT.getD (j / 2 - 1) (0, 0, 0)).1 && (codesT.getD (i / 2 - 1) (0, 0, 0)).2.1 == (codesT.getD (j / 2 - 1) (0, 0, 0)).2.1)) = true := by decide
  have e : ∀ i ∈ codesS, codesE i = (.agg #[.int .i64 (codesT.getD (i / 2 - 1) (0, 0, 0)).1, .int .i64 (codesT.getD (i / 2 - 1) (0, 0, 0)).2.1], .int .i64 (codesT.getD (i / 2 - 1) (0, 0, 0)).2.2) := by
    intro i hi
    obtain ⟨k, hk, rfl⟩ := List.mem_map.1 hi
    have hk := List.mem_range.1 hk
    match k, hk with
    | 0, _ | 1, _ | 2, _ | 3, _ | 4, _ | 5, _ | 6, _ | 7, _ | 8, _ | 9, _ | 10, _ | 11, _ | 12, _ | 13, _ | 14, _ | 15, _ | 16, _ | 17, _ => rfl
    | n + 18, h => omega
  intro i hi j hj hne hq
  have := List.all_eq_true.1 (List.all_eq_true.1 h i hi) j hj
  rw [e i hi, e j hj] at hq
  simp only [Value.agg.injEq, Array.mk.injEq, List.cons.injEq, Value.int.injEq, true_and, and_true] at hq
  rw [hq.1, hq.2] at this
  simp at this
  exact hne this
theorem codesE_key {P : Program} {k : TypeId} (hk : PairKeys P k) : ∀ i ∈ codesS, ∃ l, keyOf P k (codesE i).1 = some l := by
  intro i hi
  refine codes_keys hk _ ?_
  rw [← codesE_map]
  exact List.mem_map.2 ⟨i, hi, rfl⟩

def codesA0 (n : Nat) : Go.Act := ({ tmps := #[] ++ Array.replicate (n - 0) undef, defers := [] } : Go.Act).put (some 0) (.map none)

theorem codes_at {P : Program} {f : FuncId} {fn : Func} {i0 i1 n : Nat} {ops0 ops : Array Oper} {T K E : TypeId} {oz om o37 o38 : Oper} {dm d37 : Nat} {bl : List (Nat × Nat × Value)}
    (hf : P.funcs[f]? = some fn) (hb : fn.body = some (.seq (.region i0 ops0 false) (.seq (.region i1 ops true) .ret))) (hn : fn.ntmps = n) (hres : fn.results = #[.tmp 0]) (hm : P.follows .mixedOrders = true)
    (hz : ops0.toList = [oz]) (hz1 : oz.op = .assign (.const (.map none))) (hz2 : oz.guard = none) (hz3 : oz.dst = some 0)
    (hsz : ops.size = 39) (hbl : bl.length = 18) (hs : Region.noSelect ops = true) (hAll : AllB P ops bl) (ht : takesB ops (Array.replicate 39 false) bl = true)
    (hr0 : Region.ready .any ops (takeL (Array.replicate 39 false) bl) = [0]) (hm0 : ops[0]? = some om) (hm1 : om.op = .makeMap T none) (hm2 : om.guard = none) (hm3 : om.dst = some dm)
    (hK : Maps.Keyed P K) (hT : P.underlying T = some (.map K E)) (hkey : PairKeys P K)
    (hir : insReady ops ((takeL (Array.replicate 39 false) bl).setIfInBounds 0 true) codesS = true)
    (hins : ∀ b, codesS.map (fun i => (ops[i]?).bind (insOf ((putsA (codesA0 n) bl).put (some dm) (.map (some b))) b)) = codesS.map fun i => some (T, b, (codesE i).1, (codesE i).2))
    (hr1 : Region.ready .any ops (setAll codesS ((takeL (Array.replicate 39 false) bl).setIfInBounds 0 true)) = [37]) (h37 : ops[37]? = some o37) (h371 : o37.op = .move (.tmp dm)) (h372 : o37.guard = none) (h373 : o37.dst = some d37)
    (hr2 : Region.ready .any ops ((setAll codesS ((takeL (Array.replicate 39 false) bl).setIfInBounds 0 true)).setIfInBounds 37 true) = [38]) (h38 : ops[38]? = some o38) (h381 : o38.op = .assign (.tmp d37)) (h382 : o38.guard = none) (h383 : o38.dst = some 0)
    (hr3 : Region.ready .any ops (((setAll codesS ((takeL (Array.replicate 39 false) bl).setIfInBounds 0 true)).setIfInBounds 37 true).setIfInBounds 38 true) = [])
    (hsA : (putsA (codesA0 n) bl).tmps.size = n ∧ 0 < n ∧ dm < n ∧ d37 < n) (hdA : (putsA (codesA0 n) bl).defers = []) : CodesAt P f := by
  intro w
  refine calls_of_wp hf hb ?_
  rw [hn]
  refine wp_seq (wp_region_list ?_)
  rw [hz]
  refine wpl (w' := w) (v := .map none) hz2 (by simp [execOp, hz1, Go.Act.eval]) ?_
  rw [hz3]
  show Code.wp P _ _ (codesA0 n) w
  obtain ⟨hsA, n0, nm, n37⟩ := hsA
  refine wp_seq ?_
  generalize hQ : bodyPost P fn _ = Q
  refine Code.wp_mono (Q := fun e a w' => e = .normal ∧ Code.wp P .ret Q a w') (fun e a w' h => by rw [h.1]; exact h.2) (wp_region_any hm ?_)
  subst hQ
  rw [hsz]
  show wpAny P .any ops _ (21 + 18) _ _ _
  rw [← hbl]
  refine wpAny_builds hs (fun c a a' w' hq => by cases hq.1) hAll ht ?_
  show wpAny P .any ops _ (20 + 1) _ _ _
  refine wpAny_all hr0 (by simp) fun i hi => ?_
  obtain rfl : i = 0 := by simpa using hi
  have hrun : (execOp (putsA (codesA0 n) bl).eval om).run P ({ w with drawn := w.drawn + 1 } : World) = .ok (.value (.map (some w.heap.size))) (({ w with drawn := w.drawn + 1 } : World).alloc (.map #[] 0)) := by
    have h1 := run_makeMap (P := P) T ({ w with drawn := w.drawn + 1 } : World)
    unfold execOp
    rw [hm1]
    simp only [Option.map_none, Sem.run_bind, h1, Result.andThen_ok, Sem.run_pure]
  refine wpOp_run hm0 hm2 hrun ?_
  rw [hm3]
  have hb0 : Below w.heap.size w ({ w with drawn := w.drawn + 1 } : World) := (Below.refl _ _).drew
  have hb1 : Below w.heap.size w (({ w with drawn := w.drawn + 1 } : World).alloc (.map #[] 0)) := hb0.trans (Below.alloc _ _ (Nat.le_refl _))
  show wpAny P .any ops _ (2 + 18) (setAll [] _) _ _
  refine wpAny_ins (n0 := w.heap.size) (w0 := w) (b := w.heap.size) (ent := codesE) hK hT (by decide) hir (hins w.heap.size) (codesE_key hkey) codesE_ne (Nat.le_refl _) ?_ 18 [] _ (fun i h => by cases h) List.nodup_nil (by decide) (MapAt.made ({ w with drawn := w.drawn + 1 } : World)) hb1 hb1.size
  intro w3 hm3' hb3
  rw [codesE_map] at hm3'
  have e1 : ((putsA (codesA0 n) bl).put (some dm) (.map (some w.heap.size))).tmps.getD dm undef = .map (some w.heap.size) := put_get (by omega)
  refine wpAny_all hr1 (by simp) fun i hi => ?_
  obtain rfl : i = 37 := by simpa using hi
  refine wpOp_run (w' := w3) (v := .map (some w.heap.size)) h37 h372 (by simp [execOp, h371, Go.Act.eval, ← Array.getD_eq_getD_getElem?, e1]) ?_
  rw [h373]
  have e2 : (((putsA (codesA0 n) bl).put (some dm) (.map (some w.heap.size))).put (some d37) (.map (some w.heap.size))).tmps.getD d37 undef = .map (some w.heap.size) := put_get (by rw [put_size]; omega)
  refine wpAny_all hr2 (by simp) fun i hi => ?_
  obtain rfl : i = 38 := by simpa using hi
  refine wpOp_run (w' := w3) (v := .map (some w.heap.size)) h38 h382 (by simp [execOp, h381, Go.Act.eval, ← Array.getD_eq_getD_getElem?, e2]) ?_
  rw [h383]
  refine wpAny_done hr3 ⟨rfl, wp_ret ⟨by rw [put_defers, put_defers, put_defers]; exact hdA, .map (some w.heap.size), ?_, w.heap.size, rfl, Nat.le_refl _, ?_, hb3, hm3'⟩⟩ _
  · have e3 : ((((putsA (codesA0 n) bl).put (some dm) (.map (some w.heap.size))).put (some d37) (.map (some w.heap.size))).put (some 0) (.map (some w.heap.size))).tmps.getD 0 undef = .map (some w.heap.size) := put_get (by rw [put_size, put_size]; omega)
    simp [results, hres, ← Array.getD_eq_getD_getElem?, e3]
  · obtain ⟨es, clock, g, _⟩ := hm3'
    exact (Array.getElem?_eq_some_iff.1 g).1

/-! ### the parts of a code -/

def seqA : Code → Code
  | .seq x _ => x
  | _ => .skip
def seqB : Code → Code
  | .seq _ y => y
  | _ => .skip
def inB' : Code → Code
  | .block _ c => c
  | .loop c => c
  | _ => .skip
def blkId : Code → Nat
  | .block i _ => i
  | .region i _ _ => i
  | _ => 0
def regArr : Code → Array Oper
  | .region _ ops _ => ops
  | _ => #[]
def opAt (c : Code) (i : Nat) : Oper := (regArr c).toList.getD i nopOper
def opsIn (c : Code) (i n : Nat) : List Oper := ((regArr c).toList.drop i).take n
def fldAt (P : Program) (t i : Nat) : Field := match P.underlying t with
  | some (.struct fs) => fs.toList.getD i default
  | _ => default

theorem pair_val {M : List Place} {x y : Int} {v : Value} (h : RelV M (.agg [.int .i64 none x, .int .i64 none y]) v) : v = .agg #[.int .i64 x, .int .i64 y] := by
  obtain ⟨vs, e, hc⟩ := RelX_agg.1 h
  obtain ⟨a, r, e1, hx, hr⟩ := RelC_cons.1 hc
  have hy := RelC_single.1 hr
  have h1 := (RelX_int.1 hx).1
  have h2 := (RelX_int.1 hy).1
  subst h1
  subst h2
  have e : v = .agg vs := by simpa using e
  rw [e]
  congr 1
  apply Array.toList_inj.1
  simpa using e1

/-- What operations lay into a map that lies in a slot, of constants. -/
def insC (d : Nat) (o : Oper) : Option (TypeId × Value × Value) := match o.op with
  | .insert t (.tmp d') (.const x) (.const v) => if d' = d then some (t, x, v) else none
  | _ => none
theorem insOf_eq {a : Go.Act} {b d : Nat} {T : TypeId} {li : List Oper} {es : List (Value × Value)} (h : a.eval (.tmp d) = .map (some b)) (hc : li.map (insC d) = es.map fun p => some (T, p.1, p.2)) : li.map (insOf a b) = es.map fun p => some (T, b, p.1, p.2) := by
  induction li generalizing es with
  | nil => cases es with
    | nil => rfl
    | cons _ _ => simp at hc
  | cons o li ih =>
    cases es with
    | nil => simp at hc
    | cons p es =>
      simp only [List.map_cons, List.cons.injEq] at hc ⊢
      refine ⟨?_, ih hc.2⟩
      have h1 := hc.1
      unfold insC at h1
      split at h1
      · rename_i t d' x v ho
        split at h1
        · rename_i hd
          subst hd
          simp only [Option.some.injEq, Prod.mk.injEq] at h1
          obtain ⟨rfl, rfl, rfl⟩ := h1
          unfold insOf
          rw [ho]
          simp only [h]
          rfl
        · cases h1
      · cases h1

end Go.AE
