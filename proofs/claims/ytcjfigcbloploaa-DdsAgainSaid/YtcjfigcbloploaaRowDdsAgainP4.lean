/- A part of the proof, put together of my texts: Fw24, Fw25, Fw26, Fw27, Fw28, Fw29, Fw30, Fw31, Fw32, Fw33, Fw34, Fw35, Fw36, A02defs, A08defs, C11defs, E13defs, E13zdefs, D17defs. -/
import Derived.OrdersIn
import Derived.TacticsIn
import Derived.RangeFuncCalls
import Derived.RangeFuncNested
import Derived.OpenShut
import Derived.Deep.Slices
import Derived.WalkKit
import Derived.LaidEql
import Derived.Stop.Asserts
import Derived.RowKitTokens
import Derived.Shelf.Bytes.SlJoin
import Derived.Test.YtcjfigcbloploaaRowDdsAgainP3
set_option linter.unusedVariables false
set_option linter.unusedSimpArgs false
namespace Go.AE
open Go Go.RowKit
open Go.ChangeMaps (setBlock)
def codeL (x y : Int) : Option Int := (codesT.find? fun e => e.1 == x && e.2.1 == y).map (·.2.2)
def codeF1 (x y : Int) : Option (List Int ⊕ List Int) :=
  let X : Option (List Int ⊕ List Int) := cond (y != 1) (cond (y != 2) (some (.inl [0, 1])) (some (.inr [x, y]))) (some (.inr [x, y]))
  cond (x == 1) X (cond (x == 7) X (cond (x == 8) X (cond (x == 2) X (cond (x == 3) X (cond (x == 6) X (cond (x == 10) X (cond (x == 9) X (cond (x == 4) X (cond (x == 11) X (cond (x == 5) X (cond (x == 12) X (some (.inl [0, 5])))))))))))))
def codeF2 (v : Int) (b : Bool) : Option (List Int ⊕ List Int) := cond (!b) (some (.inl [0, 9])) (some (.inl [v, 0]))
def orE (e : Int) : Option Int → Option (Int × Int × Unit)
  | some v => some (v, 0, ())
  | none => some (0, e, ())
def inl2 : Option (List Int ⊕ List Int) → Option (Int × Int × Unit)
  | some (.inl [a, b]) => some (a, b, ())
  | _ => none
theorem inl2_of {l : List Int} {x y : Int} (h : inl2 (some (.inl l)) = some (x, y, ())) : l = [x, y] := by
  unfold inl2 at h
  split at h
  · rename_i heq
    cases heq
    cases h
    rfl
  · cases h
def codeF (x y : Int) : Option (Int × Int × Unit) := match codeF1 x y with
  | some (.inr _) => orE 9 (codeL x y)
  | r => inl2 r
def formatL (x y : Int) : Option Int := (codesT.find? fun e => e.2.1 == y && e.2.2 == x).map (·.1)
def formatF1 (x y : Int) : Option (List Int ⊕ List Int) :=
  cond (y != 1)
    (cond (y != 2) (some (.inl [0, 1])) (cond (y == 2) (cond (x == 33777) (some (.inl [1, 0])) (some (.inr [x, y]))) (some (.inr [x, y]))))
    (cond (y == 2) (cond (x == 33777) (some (.inl [1, 0])) (some (.inr [x, y]))) (some (.inr [x, y])))
def formatB (x y f i n : Int) (r : Nat) : Option (List Int ⊕ List Int) :=
  cond (i == y) (cond (n == x) (some (.inl [f, 0])) (some (.inr [x, y, (r : Int)]))) (some (.inr [x, y, (r : Int)]))
def formatF (x y : Int) : Option (Int × Int × Unit) := match formatF1 x y with
  | some (.inr _) => orE 5 (formatL x y)
  | r => inl2 r
def lettersT : List (List Int × Int) := [([68, 88, 84, 49], 1), ([68, 88, 84, 51], 2), ([68, 88, 84, 53], 3), ([65, 84, 73, 49], 4), ([65, 84, 73, 50], 5), ([66, 67, 52, 85], 4), ([66, 67, 53, 85], 5)]
def lettersV : List (Value × Value) := lettersT.map fun e => (.string (mkS e.1), .int .i64 e.2)
def lettersL (s : List Int) : Option Int := (lettersT.find? fun e => e.1 == s).map (·.2)
def lettersF2 (v : Int) (b : Bool) : Option (List Int ⊕ List Int) := cond (!b) (some (.inl [0, 5])) (some (.inl [v, 0]))
def lettersF (s : List Int) : Option (Int × Int × Unit) := orE 5 (lettersL s)
theorem condI {c : Bool} {X R : Option (List Int ⊕ List Int)} {l : List Int} {p : Prop} (hX : X = some (.inr l) → p) (hR : R = some (.inr l) → p) (h : cond c X R = some (.inr l)) : p := by
  cases c
  · exact hR h
  · exact hX h
theorem codeF1_inr {x y : Int} {l : List Int} : codeF1 x y = some (.inr l) → l = [x, y] := by
  have e : some (Sum.inr (α := List Int) [x, y]) = some (.inr l) → l = [x, y] := fun h => by cases h; rfl
  have X : (cond (y != 1) (cond (y != 2) (some (.inl [0, 1])) (some (.inr [x, y]))) (some (.inr [x, y])) : Option (List Int ⊕ List Int)) = some (.inr l) → l = [x, y] := condI (condI (fun h => by cases h) e) e
  exact condI X (condI X (condI X (condI X (condI X (condI X (condI X (condI X (condI X (condI X (condI X (condI X fun h => by cases h)))))))))))
theorem formatF1_inr {x y : Int} {l : List Int} : formatF1 x y = some (.inr l) → l = [x, y] := by
  have e : some (Sum.inr (α := List Int) [x, y]) = some (.inr l) → l = [x, y] := fun h => by cases h; rfl
  have X : (cond (y == 2) (cond (x == 33777) (some (.inl [1, 0])) (some (.inr [x, y]))) (some (.inr [x, y])) : Option (List Int ⊕ List Int)) = some (.inr l) → l = [x, y] := condI (condI (fun h => by cases h) e) e
  exact condI (condI (fun h => by cases h) X) X
theorem getD_append {a b : Array Value} {i : Nat} (h : i < a.size) : (a ++ b).getD i undef = a.getD i undef := by
  rw [Array.getD_eq_getD_getElem?, Array.getD_eq_getD_getElem?, Array.getElem?_append_left h]
def CodesAt (P : Program) (f : FuncId) : Prop := ∀ w, Calls P f #[] w fun e w' => ∃ b, e = .returned (.map (some b)) ∧ w.heap.size ≤ b ∧ b < w'.heap.size ∧ Below w.heap.size w w' ∧ MapAt w' b (mapT 0)
def PairKeys (P : Program) (k : TypeId) : Prop := ∀ a b : Int, IntKind.i64.has a → IntKind.i64.has b → ∃ l, keyOf P k (.agg #[.int .i64 a, .int .i64 b]) = some l
theorem codes_has : ∀ e ∈ codesT, IntKind.i64.has e.1 ∧ IntKind.i64.has e.2.1 ∧ IntKind.i64.has e.2.2 := by
  have : codesT.all (fun e => inB .i64 e.1 && inB .i64 e.2.1 && inB .i64 e.2.2) = true := by decide
  intro e he
  have := List.all_eq_true.1 this e he
  simp only [Bool.and_eq_true] at this
  exact ⟨has_of_inB this.1.1, has_of_inB this.1.2, has_of_inB this.2⟩
theorem codes_keys {P : Program} {k : TypeId} (hk : PairKeys P k) : ∀ p ∈ mapT 0, ∃ l, keyOf P k p.1 = some l := by
  intro p hp
  obtain ⟨e, he, rfl⟩ := List.mem_map.1 hp
  obtain ⟨h1, h2, _⟩ := codes_has e he
  exact hk _ _ h1 h2
theorem pairKeys {P : Program} {k : TypeId} {f0 f1 : Field} {m : Nat} (hu : P.underlying k = some (.struct #[f0, f1])) (hk : P.keyType k = true) (hc : P.cellsOf k = 2) (hs : P.types.size = m + 1) (h0 : P.underlying f0.type = some (.int .i64)) (h1 : P.underlying f1.type = some (.int .i64))
    (c0 : P.cellsOf f0.type = 1) (c1 : P.cellsOf f1.type = 1) (o0 : f0.offset = 0) (o1 : f1.offset = 1) (n0 : (f0.name != "_") = true) (n1 : (f1.name != "_") = true) : PairKeys P k := by
  intro a b ha hb
  have wa : (Lit.int .i64 a).wf = true := by
    rw [has_iff] at ha
    simp only [loB, hiB] at ha
    simp only [Lit.wf, Bool.and_eq_true, decide_eq_true_eq]
    exact ⟨ha.1, ha.2⟩
  have wb : (Lit.int .i64 b).wf = true := by
    rw [has_iff] at hb
    simp only [loB, hiB] at hb
    simp only [Lit.wf, Bool.and_eq_true, decide_eq_true_eq]
    exact ⟨hb.1, hb.2⟩
  refine ⟨.string (keyBytes [.int .i64 a, .int .i64 b]), ?_⟩
  unfold keyOf
  rw [hu]
  simp only [hk, Value.formed, hu, hc, Value.cells, Bool.true_and]
  rw [hs]
  simp [Program.keyLits, hu, hc, h0, h1, c0, c1, o0, o1, n0, n1, wa, wb]
theorem strKeys {P : Program} {k : TypeId} (hu : P.underlying k = some .string) {l : List Int} (hl : IntKind.i64.has (l.length : Int)) : ∃ x, keyOf P k (.string (mkS l)) = some x :=
  ⟨_, Go.WideMaps.keyOf_string_mk hu (by
    rw [mkS_size]
    rw [has_iff] at hl
    simp only [loB, hiB] at hl
    have : maxLen = 9223372036854775807 := by decide
    omega)⟩
theorem codeL_of {x y : Int} {v : Value} (h : (Value.agg #[.int .i64 x, .int .i64 y], v) ∈ mapT 0) : ∃ n, codeL x y = some n ∧ v = .int .i64 n ∧ IntKind.i64.has n := by
  obtain ⟨e, he, heq⟩ := List.mem_map.1 h
  simp only [Prod.mk.injEq, Value.agg.injEq, Array.mk.injEq, List.cons.injEq, Value.int.injEq, true_and, and_true] at heq
  obtain ⟨⟨rfl, rfl⟩, rfl⟩ := heq
  refine ⟨e.2.2, ?_, rfl, (codes_has e he).2.2⟩
  have : codesT.all (fun e => codeL e.1 e.2.1 == some e.2.2) = true := by decide
  simpa using List.all_eq_true.1 this e he
theorem codeL_none {x y : Int} (h : ∀ p ∈ mapT 0, p.1 ≠ .agg #[.int .i64 x, .int .i64 y]) : codeL x y = none := by
  unfold codeL
  rw [Option.map_eq_none_iff, List.find?_eq_none]
  intro e he hq
  simp only [Bool.and_eq_true, beq_iff_eq] at hq
  refine h (.agg #[.int .i64 e.1, .int .i64 e.2.1], .int .i64 e.2.2) (List.mem_map.2 ⟨e, he, rfl⟩) ?_
  rw [hq.1, hq.2]
theorem lettersL_of {s : List Int} (hs : ∀ x ∈ s, 0 ≤ x ∧ x ≤ 255) {v : Value} (h : (Value.string (mkS s), v) ∈ lettersV) : ∃ n, lettersL s = some n ∧ v = .int .i64 n ∧ IntKind.i64.has n := by
  obtain ⟨e, he, heq⟩ := List.mem_map.1 h
  simp only [Prod.mk.injEq, Value.string.injEq] at heq
  obtain ⟨h1, rfl⟩ := heq
  have hb : lettersT.all (fun e => (e.1.all fun x => decide (0 ≤ x ∧ x ≤ 255)) && (lettersL e.1 == some e.2) && inB .i64 e.2) = true := by decide
  have h2 := List.all_eq_true.1 hb e he
  simp only [Bool.and_eq_true, List.all_eq_true, decide_eq_true_eq, beq_iff_eq] at h2
  have h3 : e.1 = s := by rw [← bytesL_mkS h2.1.1, h1, bytesL_mkS hs]
  subst h3
  exact ⟨e.2, h2.1.2, rfl, has_of_inB h2.2⟩
theorem lettersL_none {s : List Int} (h : ∀ p ∈ lettersV, p.1 ≠ .string (mkS s)) : lettersL s = none := by
  unfold lettersL
  rw [Option.map_eq_none_iff, List.find?_eq_none]
  intro e he hq
  simp only [beq_iff_eq] at hq
  exact h (.string (mkS e.1), .int .i64 e.2) (List.mem_map.2 ⟨e, he, rfl⟩) (by rw [hq])
theorem run_call0 {P : Program} (hP : Callable P) {f : FuncId} {fn : Func} (hf : P.funcs[f]? = some fn) (hb : fn.body.isSome = true) {o : Oper} (ho : o.op = .call ⟨.value (.func f), #[], #[]⟩) (a : Go.Act) (w : World) :
    (execOp a.eval o).run P w = .ok (.enter f #[]) w := by
  have hn := hP f fn hf hb
  cases hq : fn.body with
  | none => simp [hq] at hb
  | some cd => simp [execOp, ho, resolve, Go.Act.eval, Deferred.ofValue, invoke, callFunc, hf, hn, hq]
theorem getD_int {a : Go.Act} {n : Nat} {l : List Int} {slots : List (Nat × Bool)} (h : ∀ (j : Nat) (x : Int) (t : Nat × Bool), l[j]? = some x → slots[j]? = some t → a.tmps.getD t.1 undef = slotVal t.2 x ∧ (t.2 = false → IntKind.i64.has x)) (j : Nat) {x : Int} {t : Nat} (hl : l[j]? = some x) (hs : slots[j]? = some (t, false)) :
    RelV M0 (.int .i64 none x) (a.tmps.getD t undef) := by
  obtain ⟨h1, h2⟩ := h j x (t, false) hl hs
  rw [h1]
  exact relV_int_mk (h2 rfl)
theorem code_spec {P : Program} (hP : Callable P) {f fc : FuncId} {fn fnc : Func} {c c4 : Code} {id n : Nat} {ops : Array Oper} {T K E : TypeId} {o0 ol : Oper} {l1 l2 : List Oper} {d0 dk dl : Nat} {kx : Int → Int → AV}
    (hf : P.funcs[f]? = some fn) (hb : fn.body = some c) (hn : fn.ntmps = n) (hsz : 1 < n ∧ d0 < n ∧ dl < n ∧ d0 ≠ 0 ∧ d0 ≠ 1) (hr : rest 3 c = .seq (.region id ops false) c4)
    (hK : Maps.Keyed P K) (hT : P.underlying T = some (.map K E)) (hz : ∀ w, (zeroValue E).run P w = .ok (.int .i64 0) w) (hkey : PairKeys P K)
    (hfc : P.funcs[fc]? = some fnc) (hbc : fnc.body.isSome = true) (hcodes : CodesAt P fc) (hops : ops.toList = o0 :: (l1 ++ ol :: l2))
    (h01 : o0.op = .call ⟨.value (.func fc), #[], #[]⟩) (h02 : o0.guard = none) (h03 : o0.dst = some d0) (hl1 : ol.op = .lookup T (.tmp d0) (.tmp dk) true) (hl2 : ol.guard = none) (hl3 : ol.dst = some dl)
    (h1 : ∀ x y, evPre P (cal0 P) qcal0 3 c ⟨pickT n [(0, .int .i64 none x), (1, .int .i64 none y)], H0⟩ (fun e st => if st.tmps.length = n then endK P fn [(0, false), (1, false)] e st else none) = codeF1 x y)
    (h2 : ∀ x y b, evList P (evFn P (emptyEnv (List AV)) 12) ops l1 ⟨pickT n [(0, .int .i64 none x), (1, .int .i64 none y), (d0, .mp b)], H0⟩ (fun st => if st.tmps.length = n then some ([d0, dk].map fun t => st.tmps.getD t .undef) else none) = some [.mp b, kx x y])
    (hkx : ∀ M x y v, RelV M (kx x y) v → v = .agg #[.int .i64 x, .int .i64 y])
    (h3 : ∀ v b, evList P (cal0 P) ops l2 ⟨pickT n [(dl, .tup [.int .i64 none v, .bool none b])], H0⟩ (fun st => evCode P (cal0 P) qcal0 (fun _ => none) c4 st (fun e st => if st.tmps.length = n then endK P fn [] e st else none)) = codeF2 v b) :
    FnSpec P f 2 [.slot 0 (.int .i64), .slot 1 (.int .i64)] [.ty (.int .i64), .ty (.int .i64)] (fun d => codeF d.1 d.2.1) := by
  refine fnSpec2 fun d x y M vs w hl hd => ?_
  obtain ⟨a0, a1, ⟨⟩⟩ := d
  have hd : codeF a0 a1 = some (x, y, ()) := hd
  obtain ⟨v0, r0, hv, hx0, hr0⟩ := RelL_cons.1 (show RelL M [.int .i64 none a0, .int .i64 none a1] vs.toList from hl)
  obtain ⟨v1, r1, rfl, hx1, hr1⟩ := RelL_cons.1 hr0
  rw [RelL_nil] at hr1
  subst hr1
  obtain ⟨rfl, g0, _⟩ := relV_int (l := none) (x := a0) hx0
  obtain ⟨rfl, g1, _⟩ := relV_int (l := none) (x := a1) hx1
  obtain rfl : vs = #[.int .i64 a0, .int .i64 a1] := by
    apply Array.toList_inj.1
    simpa using hv
  refine calls_of_wp hf hb ?_
  rw [hn]
  obtain ⟨n1, nd0, ndl, d00, d01⟩ := hsz
  have hs0 : (#[Value.int .i64 a0, Value.int .i64 a1] ++ Array.replicate (n - 2) undef).size = n := by simp; omega
  have hT0 : RelT M0 (pickT n [(0, .int .i64 none a0), (1, .int .i64 none a1)]) (#[Value.int .i64 a0, Value.int .i64 a1] ++ Array.replicate (n - 2) undef) := by
    refine relT_pick hs0 fun p hp => ?_
    rcases List.mem_cons.1 hp with rfl | hp
    · rw [getD_append (by simp)]
      exact relV_int_mk g0
    · obtain rfl := List.mem_singleton.1 hp
      rw [getD_append (by simp)]
      exact relV_int_mk g1
  have hlen : ∀ l : List (Nat × AV), (pickT n l).length = n := pickT_len n
  cases hF : codeF1 a0 a1 with
  | none => rw [codeF, hF] at hd; cases hd
  | some r =>
    refine piece hP (fn := fn) (slots := [(0, false), (1, false)]) (r := r) (by rw [hlen]; rw [← hF]; exact h1 a0 a1) hT0 rfl fun e a' w' ⟨hbl, hde, hsz', he⟩ => ?_
    rw [hlen] at hsz'
    cases e with
    | ret =>
      obtain ⟨l, rfl, hhas, hres⟩ := he
      refine ⟨hde, _, hres, ?_⟩
      have hl2 : l = [x, y] := inl2_of (by simpa only [codeF, hF] using hd)
      subst hl2
      exact ⟨rfl, hhas, hbl⟩
    | normal =>
      obtain ⟨l, rfl, hll, hsl⟩ := he
      have hl2 : l = [a0, a1] := by
        exact codeF1_inr hF
      subst hl2
      show Code.wp P (rest 3 c) _ a' w'
      rw [hr]
      refine wp_seq (wp_region_list ?_)
      rw [hops]
      refine wpl_enter h02 (run_call0 hP hfc hbc h01 a' w') ((hcodes w').mono ?_)
      rintro e2 w2 ⟨b, rfl, hb1, hb2, hb3, hm⟩
      refine ⟨_, rfl, ?_⟩
      rw [h03]
      have q0 : RelV M0 (.int .i64 none a0) (a'.tmps.getD 0 undef) := getD_int (n := n) hsl 0 (t := 0) rfl rfl
      have q1 : RelV M0 (.int .i64 none a1) (a'.tmps.getD 1 undef) := getD_int (n := n) hsl 1 (t := 1) rfl rfl
      have hT1 : RelT M0 (pickT n [(0, .int .i64 none a0), (1, .int .i64 none a1), (d0, .mp b)]) (a'.put (some d0) (.map (some b))).tmps := by
        refine relT_pick (by rw [put_size]; exact hsz') fun p hp => ?_
        rcases List.mem_cons.1 hp with rfl | hp
        · rw [put_get_ne (fun h => d00 h.symm)]; exact q0
        rcases List.mem_cons.1 hp with rfl | hp
        · rw [put_get_ne (fun h => d01 h.symm)]; exact q1
        · obtain rfl := List.mem_singleton.1 hp
          rw [put_get (by omega)]
          simp [RelV, RelX]
      refine pieceL hP (picks := [d0, dk]) (xs := [.mp b, kx a0 a1]) (by rw [hlen]; exact h2 a0 a1 b) hT1 (by rw [put_defers]; exact hde) fun M3 a3 w3 hp3 hs3 hd3 hb3' => ?_
      rw [hlen] at hs3
      have e1 : a3.tmps.getD d0 undef = .map (some b) := by
        have := hp3 0 d0 _ rfl rfl
        simpa [RelV, RelX] using this
      have e2 : a3.tmps.getD dk undef = .agg #[.int .i64 a0, .int .i64 a1] := hkx _ _ _ _ (hp3 1 dk _ rfl rfl)
      have hm3 : MapAt w3 b (mapT 0) := hm.kept hb3' (by omega)
      have hlook : ∃ (v : Int) (q : Bool), (Instr.lookup T (.map (some b)) (.agg #[.int .i64 a0, .int .i64 a1]) true).run P w3 = .ok (.tuple #[.int .i64 v, .bool q]) w3 ∧ IntKind.i64.has v ∧ orE 9 (codeL a0 a1) = inl2 (codeF2 v q) := by
        rcases MapAt.look hK hT hm3 (codes_keys hkey) (hkey a0 a1 g0 g1) (hz w3) with ⟨v, hv, hrun⟩ | ⟨hno, hrun⟩
        · obtain ⟨m, hm1, rfl, hm2⟩ := codeL_of hv
          exact ⟨m, true, hrun, hm2, by rw [hm1]; rfl⟩
        · exact ⟨0, false, hrun, has_of_inB rfl, by rw [codeL_none hno]; rfl⟩
      obtain ⟨v, q, hrun, hv, hq⟩ := hlook
      have hrun2 : (execOp a3.eval ol).run P w3 = .ok (.value (.tuple #[.int .i64 v, .bool q])) w3 := by
        simp [execOp, hl1, Go.Act.eval, ← Array.getD_eq_getD_getElem?, e1, e2, hrun, Result.andThen]
      refine wpl hl2 hrun2 ?_
      rw [hl3]
      have hT4 : RelT M0 (pickT n [(dl, .tup [.int .i64 none v, .bool none q])]) (a3.put (some dl) (.tuple #[.int .i64 v, .bool q])).tmps := by
        refine relT_pick (by rw [put_size]; exact hs3) fun p hp => ?_
        obtain rfl := List.mem_singleton.1 hp
        rw [put_get (by omega)]
        simp only [RelV, RelX]
        exact ⟨_, rfl, RelL_cons.2 ⟨_, _, rfl, relV_int_mk hv, RelL_cons.2 ⟨_, _, rfl, by simp [RelX], RelL_nil.2 rfl⟩⟩⟩
      have h2s : ∃ l, codeF2 v q = some (.inl l) := by cases q <;> exact ⟨_, rfl⟩
      obtain ⟨l4, h4⟩ := h2s
      refine pieceLC hP (fn := fn) (slots := []) (r := .inl l4) (by rw [hlen]; rw [← h4]; exact h3 v q) hT4 (by rw [put_defers]; exact hd3) fun e5 a5 w5 ⟨hb5, hd5, _, he5⟩ => ?_
      cases e5 with
      | ret =>
        obtain ⟨l5, hl5, hhas5, hres5⟩ := he5
        cases hl5
        refine ⟨hd5, _, hres5, ?_⟩
        have : l4 = [x, y] := by
          have hd2 : orE 9 (codeL a0 a1) = some (x, y, ()) := by
            simpa only [codeF, hF] using hd
          rw [hq, h4] at hd2
          exact inl2_of hd2
        subst this
        exact ⟨rfl, hhas5, hbl.trans (Below.weak (hb3.trans (Below.weak (hb3'.trans (Below.weak hb5 hb3'.size)) hb3.size)) hbl.size)⟩
      | normal => obtain ⟨l5, hl5, _⟩ := he5; cases hl5
      | _ => cases he5
    | _ => cases he
theorem formatL_of {x y : Int} {e : Int × Int × Int} (he : e ∈ codesT) (hy : e.2.1 = y) (hx : e.2.2 = x) : formatL x y = some e.1 := by
  have : codesT.all (fun e => formatL e.2.2 e.2.1 == some e.1) = true := by decide
  have := List.all_eq_true.1 this e he
  rw [hy, hx] at this
  simpa using this
theorem formatL_none {x y : Int} (h : ∀ e ∈ codesT, ¬ (e.2.1 = y ∧ e.2.2 = x)) : formatL x y = none := by
  unfold formatL
  rw [Option.map_eq_none_iff, List.find?_eq_none]
  intro e he hq
  simp only [Bool.and_eq_true, beq_iff_eq] at hq
  exact h e he hq
theorem codes_mem {k v : Value} (h : (k, v) ∈ mapT 0) : ∃ e ∈ codesT, k = .agg #[.int .i64 e.1, .int .i64 e.2.1] ∧ v = .int .i64 e.2.2 := by
  obtain ⟨e, he, heq⟩ := List.mem_map.1 h
  cases heq
  exact ⟨e, he, rfl, rfl⟩
theorem formatB_ret {x y f i n : Int} {r : Nat} {l : List Int} (h : formatB x y f i n r = some (.inl l)) : i = y ∧ n = x ∧ l = [f, 0] := by
  unfold formatB at h
  cases h1 : (i == y) <;> cases h2 : (n == x) <;> rw [h1] at h <;> try rw [h2] at h
  all_goals cases h
  exact ⟨by simpa using h1, by simpa using h2, rfl⟩
theorem formatB_next {x y f i n : Int} {r : Nat} {l : List Int} (h : formatB x y f i n r = some (.inr l)) : ¬ (i = y ∧ n = x) ∧ l = [x, y, (r : Int)] := by
  unfold formatB at h
  cases h1 : (i == y) <;> cases h2 : (n == x) <;> rw [h1] at h <;> try rw [h2] at h
  all_goals cases h
  · exact ⟨fun q => by simp [q.1] at h1, rfl⟩
  · exact ⟨fun q => by simp [q.1] at h1, rfl⟩
  · exact ⟨fun q => by simp [q.2] at h2, rfl⟩
structure FLoop (n dr b r : Nat) (x y : Int) (w0 : World) (k : Nat) (a : Go.Act) (w : World) : Prop where
  size : a.tmps.size = n
  defers : a.defers = []
  s0 : RelV M0 (.int .i64 none x) (a.tmps.getD 0 undef)
  s1 : RelV M0 (.int .i64 none y) (a.tmps.getD 1 undef)
  sr : a.tmps.getD dr undef = .pointer (some ⟨r, 0, none⟩)
  mem : ∃ es clock seen, w.heap[b]? = some (.map es clock) ∧ MapKept.Stamped es clock ∧ (es.toList.map fun e => (e.key, e.val)).Perm (mapT 0) ∧ w.heap[r]? = some (.mapIter (some b) clock seen clock) ∧ (leftOf es seen).size = k ∧
    ∀ e ∈ es.toList, seen.contains e.born = true → ∀ q ∈ codesT, (e.key, e.val) = (.agg #[.int .i64 q.1, .int .i64 q.2.1], .int .i64 q.2.2) → ¬ (q.2.1 = y ∧ q.2.2 = x)
  below : Below w0.heap.size w0 w
  hb : w0.heap.size ≤ b
  hr : w0.heap.size ≤ r
  ne : r ≠ b
theorem format_spec {P : Program} (hP : Callable P) {f fc : FuncId} {fn fnc : Func} {c c6 c7 : Code} {i1 i2 i3 i4 i5 n : Nat} {ops1 ops3 ops5 : Array Oper} {T K E : TypeId} {o0 o1 o2 o3 o5 : Oper} {l5 : List Oper} {d0 dr dn dc de : Nat}
    (hf : P.funcs[f]? = some fn) (hb : fn.body = some c) (hn : fn.ntmps = n) (hsz : 1 < n ∧ d0 < n ∧ dr < n ∧ dn < n ∧ dc < n ∧ de < n ∧ d0 ≠ 0 ∧ d0 ≠ 1 ∧ dr ≠ 0 ∧ dr ≠ 1 ∧ dn ≠ 0 ∧ dn ≠ 1 ∧ dn ≠ dr ∧ dc ≠ 0 ∧ dc ≠ 1 ∧ dc ≠ dr ∧ de ≠ 0 ∧ de ≠ 1 ∧ de ≠ dr)
    (hr : rest 2 c = .seq (.seq (.region i1 ops1 false) (.block i2 (.loop (.seq (.region i3 ops3 false) (.seq (.cond (.tmp dc) .skip (.exit i2)) (.block i4 (.seq (.region i5 ops5 false) c6))))))) c7)
    (hK : Maps.Keyed P K) (hT : P.underlying T = some (.map K E))
    (hfc : P.funcs[fc]? = some fnc) (hbc : fnc.body.isSome = true) (hcodes : CodesAt P fc)
    (hops1 : ops1.toList = [o0, o1]) (hops3 : ops3.toList = [o2, o3]) (hops5 : ops5.toList = o5 :: l5)
    (h01 : o0.op = .call ⟨.value (.func fc), #[], #[]⟩) (h02 : o0.guard = none) (h03 : o0.dst = some d0) (h11 : o1.op = .range T (.tmp d0)) (h12 : o1.guard = none) (h13 : o1.dst = some dr)
    (h21 : o2.op = .next (.tmp dr) false) (h22 : o2.guard = none) (h23 : o2.dst = some dn) (h31 : o3.op = .extract (.tmp dn) 0) (h32 : o3.guard = none) (h33 : o3.dst = some dc)
    (h51 : o5.op = .entry (.tmp dr)) (h52 : o5.guard = none) (h53 : o5.dst = some de)
    (h1 : ∀ x y, evPre P (cal0 P) qcal0 2 c ⟨pickT n [(0, .int .i64 none x), (1, .int .i64 none y)], H0⟩ (fun e st => if st.tmps.length = n then endK P fn [(0, false), (1, false)] e st else none) = formatF1 x y)
    (h6 : ∀ x y k i v r, evList P (cal0 P) ops5 l5 ⟨pickT n [(0, .int .i64 none x), (1, .int .i64 none y), (dr, .itr r), (de, .tup [.agg [.int .i64 none k, .int .i64 none i], .int .i64 none v])], H0⟩ (fun st => evCode P (cal0 P) qcal0 (fun _ => none) c6 st (fun e st => if st.tmps.length = n then endK P fn [(0, false), (1, false), (dr, true)] e st else none)) = formatB x y k i v r)
    (h7 : evCode P (cal0 P) qcal0 (fun _ => none) c7 ⟨pickT n [], H0⟩ (fun e st => if st.tmps.length = n then endK P fn [] e st else none) = some (.inl [0, 5])) :
    FnSpec P f 2 [.slot 0 (.int .i64), .slot 1 (.int .i64)] [.ty (.int .i64), .ty (.int .i64)] (fun d => formatF d.1 d.2.1) := by
  refine fnSpec2 fun d x y M vs w hl hd => ?_
  obtain ⟨a0, a1, ⟨⟩⟩ := d
  have hd : formatF a0 a1 = some (x, y, ()) := hd
  obtain ⟨v0, r0, hv, hx0, hr0⟩ := RelL_cons.1 (show RelL M [.int .i64 none a0, .int .i64 none a1] vs.toList from hl)
  obtain ⟨v1, r1, rfl, hx1, hr1⟩ := RelL_cons.1 hr0
  rw [RelL_nil] at hr1
  subst hr1
  obtain ⟨rfl, g0, _⟩ := relV_int (l := none) (x := a0) hx0
  obtain ⟨rfl, g1, _⟩ := relV_int (l := none) (x := a1) hx1
  obtain rfl : vs = #[.int .i64 a0, .int .i64 a1] := by
    apply Array.toList_inj.1
    simpa using hv
  refine calls_of_wp hf hb ?_
  rw [hn]
  obtain ⟨n1, nd0, ndr, ndn, ndc, nde, d00, d01, dr0, dr1, dn0, dn1, dnr, dc0, dc1, dcr, de0, de1, der⟩ := hsz
  have hs0 : (#[Value.int .i64 a0, Value.int .i64 a1] ++ Array.replicate (n - 2) undef).size = n := by simp; omega
  have hT0 : RelT M0 (pickT n [(0, .int .i64 none a0), (1, .int .i64 none a1)]) (#[Value.int .i64 a0, Value.int .i64 a1] ++ Array.replicate (n - 2) undef) := by
    refine relT_pick hs0 fun p hp => ?_
    rcases List.mem_cons.1 hp with rfl | hp
    · rw [getD_append (by simp)]
      exact relV_int_mk g0
    · obtain rfl := List.mem_singleton.1 hp
      rw [getD_append (by simp)]
      exact relV_int_mk g1
  have hlen : ∀ l : List (Nat × AV), (pickT n l).length = n := pickT_len n
  cases hF : formatF1 a0 a1 with
  | none => rw [formatF, hF] at hd; cases hd
  | some r =>
    refine piece hP (fn := fn) (slots := [(0, false), (1, false)]) (r := r) (by rw [hlen]; rw [← hF]; exact h1 a0 a1) hT0 rfl fun e a' w' ⟨hbl, hde, hsz', he⟩ => ?_
    rw [hlen] at hsz'
    cases e with
    | ret =>
      obtain ⟨l, rfl, hhas, hres⟩ := he
      refine ⟨hde, _, hres, ?_⟩
      have hl2 : l = [x, y] := inl2_of (by simpa only [formatF, hF] using hd)
      subst hl2
      exact ⟨rfl, hhas, hbl⟩
    | normal =>
      obtain ⟨l, rfl, hll, hsl⟩ := he
      have hl2 : l = [a0, a1] := formatF1_inr hF
      subst hl2
      have hd2 : orE 5 (formatL a0 a1) = some (x, y, ()) := by
        simpa only [formatF, hF] using hd
      show Code.wp P (rest 2 c) _ a' w'
      rw [hr]
      refine wp_seq (wp_seq (wp_region_list ?_))
      rw [hops1]
      refine wpl_enter h02 (run_call0 hP hfc hbc h01 a' w') ((hcodes w').mono ?_)
      rintro e2 w2 ⟨b, rfl, hb1, hb2, hb3, hm⟩
      refine ⟨_, rfl, ?_⟩
      rw [h03]
      have q0 : RelV M0 (.int .i64 none a0) (a'.tmps.getD 0 undef) := getD_int (n := n) hsl 0 (t := 0) rfl rfl
      have q1 : RelV M0 (.int .i64 none a1) (a'.tmps.getD 1 undef) := getD_int (n := n) hsl 1 (t := 1) rfl rfl
      obtain ⟨es, clock, m1, m2, m3⟩ := hm
      have e0 : (a'.put (some d0) (.map (some b))).tmps.getD d0 undef = .map (some b) := put_get (by omega)
      have hrun1 : (execOp (a'.put (some d0) (.map (some b))).eval o1).run P w2 = .ok (.value (.pointer (some ⟨w2.heap.size, 0, none⟩))) (w2.alloc (.mapIter (some b) clock #[] clock)) := by
        have := run_range_map (P := P) w2 T K E b es clock hT m1
        simp [execOp, h11, Go.Act.eval, ← Array.getD_eq_getD_getElem?, e0, this, Result.andThen]
      refine wpl h12 hrun1 ?_
      rw [h13]
      have hw3 : Below w2.heap.size w2 (w2.alloc (.mapIter (some b) clock #[] clock)) := Below.alloc w2 _ (Nat.le_refl _)
      have init : FLoop n dr b w2.heap.size a0 a1 w (leftOf es #[]).size ((a'.put (some d0) (.map (some b))).put (some dr) (.pointer (some ⟨w2.heap.size, 0, none⟩))) (w2.alloc (.mapIter (some b) clock #[] clock)) := by
        refine ⟨by rw [put_size, put_size]; exact hsz', by rw [put_defers, put_defers]; exact hde, ?_, ?_, put_get (by rw [put_size]; omega), ⟨es, clock, #[], ?_, m2, m3, (MapKept.heap_alloc w2 _).1, rfl, fun e _ h => by simp at h⟩, ?_, ?_, ?_, ?_⟩
        · rw [put_get_ne (fun h => dr0 h.symm), put_get_ne (fun h => d00 h.symm)]; exact q0
        · rw [put_get_ne (fun h => dr1 h.symm), put_get_ne (fun h => d01 h.symm)]; exact q1
        · exact ((MapKept.heap_alloc w2 _).2 b hb2).trans m1
        · exact hbl.trans (Below.weak (hb3.trans (Below.weak hw3 hb3.size)) hbl.size)
        · exact Nat.le_trans hbl.size hb1
        · exact Nat.le_trans hbl.size hb3.size
        · omega
      show Code.wp P (.block i2 _) _ _ _
      refine wp_block (wp_loop_ind (FLoop n dr b w2.heap.size a0 a1 w) init ?_)
      clear init hw3 hrun1 e0 q0 q1 hsl hde hsz' hbl hT0 hs0
      intro k a w3 I
      refine wp_seq (wp_region_list ?_)
      rw [hops3]
      obtain ⟨i_size, i_def, i0, i1', ir, ⟨es, clock, seen, j1, j2, j3, j4, j5, j6⟩, i_bel, i_b, i_r, i_ne⟩ := I
      have j2' := (MapKept.stamped_iff es clock).1 j2
      have two : ∀ (v : Value) (q : Bool) (w4 : World), (Instr.next (.pointer (some ⟨w2.heap.size, 0, none⟩)) false o2.type).run P w3 = .ok v w4 → (Instr.extract v 0).run P w4 = .ok (.bool q) w4 →
          ∀ {Q : Exit → Go.Act → World → Prop}, Q .normal ((a.put (some dn) v).put (some dc) (.bool q)) w4 → wpList P ops3 Q [o2, o3] a w3 := by
        intro v q w4 r1 r2 Q hQ
        have r3 : (execOp a.eval o2).run P w3 = .ok (.value v) w4 := by
          simp [execOp, h21, Go.Act.eval, ← Array.getD_eq_getD_getElem?, ir, r1, Result.andThen]
        refine wpl h22 r3 ?_
        rw [h23]
        have e1 : (a.put (some dn) v).tmps.getD dn undef = v := put_get (by omega)
        have r4 : (execOp (a.put (some dn) v).eval o3).run P w4 = .ok (.value (.bool q)) w4 := by
          simp [execOp, h31, Go.Act.eval, ← Array.getD_eq_getD_getElem?, e1, r2, Result.andThen]
        refine wpl h32 r4 ?_
        rw [h33]
        exact hQ
      rcases run_next_at (P := P) w3 o2.type w2.heap.size b clock clock seen es clock j4 j1 j2'.1 (Nat.le_refl _) with ⟨h0, hrun⟩ | ⟨e, hel, w4, hw4, hrun⟩
      · 
        refine two _ false w3 hrun (by simp [Instr.extract]) ?_
        refine wp_seq (wp_cond_false ?_ (wp_exit ?_))
        · have : ((a.put (some dn) (.tuple #[.bool false])).put (some dc) (.bool false)).tmps.getD dc undef = .bool false := put_get (by rw [put_size]; omega)
          simpa [Go.Act.eval, ← Array.getD_eq_getD_getElem?] using this
        show if i2 = i2 then _ else _
        rw [if_pos rfl]
        have hno : formatL a0 a1 = none := formatL_none fun q hq => by
          obtain ⟨e, he, heq⟩ := List.mem_map.1 (j3.mem_iff.2 (List.mem_map.2 ⟨q, hq, rfl⟩))
          exact j6 e he (all_seen es seen h0 e he) q hq heq
        rw [hno] at hd2
        have hxy : x = 0 ∧ y = 5 := by cases hd2; exact ⟨rfl, rfl⟩
        obtain ⟨rfl, rfl⟩ := hxy
        refine piece1 hP (fn := fn) (slots := []) (ts := pickT n []) (r := .inl [0, 5]) (by rw [hlen]; exact h7) (relT_pick (by rw [put_size, put_size]; exact i_size) (fun p hp => by cases hp)) (by rw [put_defers, put_defers]; exact i_def) fun e5 a5 w5 ⟨hb5, hd5, _, he5⟩ => ?_
        cases e5 with
        | ret =>
          obtain ⟨l5, hl5, hhas5, hres5⟩ := he5
          cases hl5
          exact ⟨hd5, _, hres5, rfl, hhas5, i_bel.trans (Below.weak hb5 i_bel.size)⟩
        | normal => obtain ⟨l5, hl5, _⟩ := he5; cases hl5
        | _ => cases he5
      · 
        obtain ⟨hem, hes⟩ := mem_left hel
        have hb4 : Below w3.heap.size w3 w4 := by
          rcases hw4 with rfl | rfl
          · exact Below.refl _ _
          · exact (Below.refl _ _).drew
        have hr4 : w4.heap[w2.heap.size]? = some (.mapIter (some b) clock seen clock) := by rcases hw4 with rfl | rfl <;> exact j4
        have hm4 : w4.heap[b]? = some (.map es clock) := by rcases hw4 with rfl | rfl <;> exact j1
        have hr5 := heap_set_same (o' := .mapIter (some b) clock (seen.push e.born) clock) hr4
        have hm5 : (setBlock w4 w2.heap.size (.mapIter (some b) clock (seen.push e.born) clock)).heap[b]? = some (.map es clock) := by
          rw [heap_set_other (fun h => i_ne h.symm)]
          exact hm4
        have hb5 : Below w.heap.size w (setBlock w4 w2.heap.size (.mapIter (some b) clock (seen.push e.born) clock)) := by
          refine (i_bel.trans (Below.weak hb4 i_bel.size)).trans ⟨rfl, rfl, rfl, by simp [setBlock], fun i hi => ?_⟩
          exact heap_set_other (by omega)
        refine two _ true _ hrun (by simp [Instr.extract]) ?_
        refine wp_seq (wp_cond_true ?_ (wp_skip ?_))
        · have : ((a.put (some dn) (.tuple #[.bool true, e.key, e.val])).put (some dc) (.bool true)).tmps.getD dc undef = .bool true := put_get (by rw [put_size]; omega)
          simpa [Go.Act.eval, ← Array.getD_eq_getD_getElem?] using this
        refine wp_block (wp_seq (wp_region_list ?_))
        rw [hops5]
        have e6 : ((a.put (some dn) (.tuple #[.bool true, e.key, e.val])).put (some dc) (.bool true)).tmps.getD dr undef = .pointer (some ⟨w2.heap.size, 0, none⟩) := by
          rw [put_get_ne (fun h => dcr h.symm), put_get_ne (fun h => dnr h.symm)]
          exact ir
        have r6 : (execOp ((a.put (some dn) (.tuple #[.bool true, e.key, e.val])).put (some dc) (.bool true)).eval o5).run P (setBlock w4 w2.heap.size (.mapIter (some b) clock (seen.push e.born) clock)) = .ok (.value (.tuple #[e.key, e.val])) (setBlock w4 w2.heap.size (.mapIter (some b) clock (seen.push e.born) clock)) := by
          have := run_entry_at (P := P) _ w2.heap.size b clock seen es clock e hr5 hm5 hem j2'.2.1
          simp [execOp, h51, Go.Act.eval, ← Array.getD_eq_getD_getElem?, e6, this, Result.andThen]
        refine wpl h52 r6 ?_
        rw [h53]
        obtain ⟨q, hq, hqk, hqv⟩ := codes_mem (j3.mem_iff.1 (List.mem_map.2 ⟨e, hem, rfl⟩))
        obtain ⟨c1, c2, c3⟩ := codes_has q hq
        have hT6 : RelT M0 (pickT n [(0, .int .i64 none a0), (1, .int .i64 none a1), (dr, .itr w2.heap.size), (de, .tup [.agg [.int .i64 none q.1, .int .i64 none q.2.1], .int .i64 none q.2.2])]) (((a.put (some dn) (.tuple #[.bool true, e.key, e.val])).put (some dc) (.bool true)).put (some de) (.tuple #[e.key, e.val])).tmps := by
          refine relT_pick (by rw [put_size, put_size, put_size]; exact i_size) fun p hp => ?_
          rcases List.mem_cons.1 hp with rfl | hp
          · rw [put_get_ne (fun h => de0 h.symm), put_get_ne (fun h => dc0 h.symm), put_get_ne (fun h => dn0 h.symm)]; exact i0
          rcases List.mem_cons.1 hp with rfl | hp
          · rw [put_get_ne (fun h => de1 h.symm), put_get_ne (fun h => dc1 h.symm), put_get_ne (fun h => dn1 h.symm)]; exact i1'
          rcases List.mem_cons.1 hp with rfl | hp
          · rw [put_get_ne (fun h => der h.symm), e6]
            simp [RelV, RelX]
          · obtain rfl := List.mem_singleton.1 hp
            rw [put_get (by rw [put_size, put_size]; omega), hqk, hqv]
            simp only [RelV, RelX]
            exact ⟨_, rfl, RelL_cons.2 ⟨_, _, rfl, RelX_agg.2 ⟨_, rfl, RelC_cons.2 ⟨_, _, rfl, relV_int_mk c1, RelC_single.2 (relV_int_mk c2)⟩⟩, RelL_cons.2 ⟨_, _, rfl, relV_int_mk c3, RelL_nil.2 rfl⟩⟩⟩
        have hB : ∃ r, formatB a0 a1 q.1 q.2.1 q.2.2 w2.heap.size = some r := by
          unfold formatB
          cases (q.2.1 == a1) <;> cases (q.2.2 == a0) <;> exact ⟨_, rfl⟩
        obtain ⟨r, hB⟩ := hB
        refine pieceLC hP (fn := fn) (slots := [(0, false), (1, false), (dr, true)]) (r := r) (by rw [hlen]; rw [← hB]; exact h6 a0 a1 q.1 q.2.1 q.2.2 w2.heap.size) hT6 (by rw [put_defers, put_defers, put_defers]; exact i_def) fun e7 a7 w7 ⟨hb7, hd7, hs7, he7⟩ => ?_
        rw [hlen] at hs7
        have hb7' : Below w.heap.size w w7 := hb5.trans (Below.weak hb7 hb5.size)
        cases e7 with
        | ret =>
          obtain ⟨l7, rfl, hhas7, hres7⟩ := he7
          have hmatch := formatB_ret hB
          obtain ⟨u1, u2, rfl⟩ := hmatch
          rw [formatL_of hq u1 u2] at hd2
          have hxy : x = q.1 ∧ y = 0 := by cases hd2; exact ⟨rfl, rfl⟩
          obtain ⟨rfl, rfl⟩ := hxy
          exact ⟨hd7, _, hres7, rfl, hhas7, hb7'⟩
        | normal =>
          obtain ⟨l7, rfl, hl7, hsl7⟩ := he7
          have hmatch := formatB_next hB
          obtain ⟨hnot, rfl⟩ := hmatch
          have hlt := left_shrinks es seen e hel
          rw [j5] at hlt
          refine ⟨_, hlt, hs7, hd7, getD_int (n := n) hsl7 0 (t := 0) rfl rfl, getD_int (n := n) hsl7 1 (t := 1) rfl rfl, ?_, ⟨es, clock, seen.push e.born, ?_, j2, j3, ?_, rfl, fun e' he' hs' q' hq' heq => ?_⟩, hb7', i_b, i_r, i_ne⟩
          · have := (hsl7 2 _ (dr, true) rfl rfl).1
            simpa [slotVal] using this
          · rw [hb7.block b (Array.getElem?_eq_some_iff.1 hm5).1]
            exact hm5
          · rw [hb7.block _ (Array.getElem?_eq_some_iff.1 hr5).1]
            exact hr5
          · rw [contains_push] at hs'
            rcases Bool.or_eq_true_iff.1 hs' with hs' | hs'
            · exact j6 e' he' hs' q' hq' heq
            · have hb : e'.born = e.born := by simpa using hs'
              have : e' = e := born_inj j2'.2.1 he' hem hb
              subst this
              rw [hqk, hqv] at heq
              simp only [Prod.mk.injEq, Value.agg.injEq, Array.mk.injEq, List.cons.injEq, Value.int.injEq, true_and, and_true] at heq
              rw [← heq.1.2, ← heq.2]
              exact hnot
        | _ => cases he7
    | _ => cases he
theorem letters_keys {P : Program} {k : TypeId} (hu : P.underlying k = some .string) : ∀ p ∈ lettersV, ∃ l, keyOf P k p.1 = some l := by
  intro p hp
  obtain ⟨e, he, rfl⟩ := List.mem_map.1 hp
  have hb : lettersT.all (fun e => inB .i64 (e.1.length : Int)) = true := by decide
  exact strKeys hu (has_of_inB (List.all_eq_true.1 hb e he))
theorem letters_apart : (lettersV ++ []).Pairwise (fun (p q : Value × Value) => p.1 ≠ q.1) := by
  rw [List.append_nil]
  unfold lettersV
  rw [List.pairwise_map]
  have hb : lettersT.all (fun e => e.1.all fun x => decide (0 ≤ x ∧ x ≤ 255)) = true := by decide
  have hp : lettersT.Pairwise (fun a b => a.1 ≠ b.1) := by decide
  refine hp.imp_of_mem fun {a b} ha hb' h e => h ?_
  have h1 : ∀ x ∈ a.1, 0 ≤ x ∧ x ≤ 255 := fun x hx => by simpa using List.all_eq_true.1 (List.all_eq_true.1 hb a ha) x hx
  have h2 : ∀ x ∈ b.1, 0 ≤ x ∧ x ≤ 255 := fun x hx => by simpa using List.all_eq_true.1 (List.all_eq_true.1 hb b hb') x hx
  simp only [Value.string.injEq] at e
  rw [← bytesL_mkS h1, e, bytesL_mkS h2]
theorem letters_spec {P : Program} (hP : Callable P) {f : FuncId} {fn : Func} {c3 : Code} {i0 i1 n : Nat} {ops0 ops1 : Array Oper} {T K E : TypeId} {om ol : Oper} {li l1 l2 : List Oper} {dm dk ds dl : Nat}
    (hf : P.funcs[f]? = some fn) (hb : fn.body = some (.seq (.region i0 ops0 false) (.seq (.region i1 ops1 false) c3))) (hn : fn.ntmps = n) (hsz : 0 < n ∧ dm < n ∧ dl < n ∧ dm ≠ 0)
    (hK : Maps.Keyed P K) (hu : P.underlying K = some .string) (hT : P.underlying T = some (.map K E)) (hz : ∀ w, (zeroValue E).run P w = .ok (.int .i64 0) w)
    (hops : ops1.toList = om :: (li ++ (l1 ++ ol :: l2)))
    (hm1 : om.op = .makeMap T none) (hm2 : om.guard = none) (hm3 : om.dst = some dm) (hl1 : ol.op = .lookup T (.tmp dk) (.tmp ds) true) (hl2 : ol.guard = none) (hl3 : ol.dst = some dl)
    (h0 : ∀ s, evList P (evFn P (emptyEnv (List AV)) 12) ops0 ops0.toList ⟨pickT n [(0, .str s)], H0⟩ (fun st => if st.tmps.length = n then some ([0].map fun t => st.tmps.getD t .undef) else none) = some [.str s])
    (hi : (li.all fun o => o.guard.isNone && o.dst.isNone) = true) (hi2 : ∀ (a : Go.Act) (b : Nat), a.eval (.tmp dm) = .map (some b) → li.map (insOf a b) = lettersV.map fun p => some (T, b, p.1, p.2))
    (h1 : ∀ s b, evList P (evFn P (emptyEnv (List AV)) 12) ops1 l1 ⟨pickT n [(0, .str s), (dm, .mp b)], H0⟩ (fun st => if st.tmps.length = n then some ([dk, ds].map fun t => st.tmps.getD t .undef) else none) = some [.mp b, .str s])
    (h2 : ∀ v b, evList P (cal0 P) ops1 l2 ⟨pickT n [(dl, .tup [.int .i64 none v, .bool none b])], H0⟩ (fun st => evCode P (cal0 P) qcal0 (fun _ => none) c3 st (fun e st => if st.tmps.length = n then endK P fn [] e st else none)) = lettersF2 v b) :
    FnSpec P f 1 [.slot 0 .str] [.ty (.int .i64), .ty (.int .i64)] (fun d => lettersF d.1) := by
  refine fnSpec2 fun d x y M vs w hl hd => ?_
  obtain ⟨s, ⟨⟩⟩ := d
  have hd : orE 5 (lettersL s) = some (x, y, ()) := hd
  obtain ⟨v0, r0, hv, hx0, hr0⟩ := RelL_cons.1 (show RelL M [.str s] vs.toList from hl)
  rw [RelL_nil] at hr0
  subst hr0
  simp only [RelX] at hx0
  obtain ⟨hx0, hs1, hs2⟩ := hx0
  have hx0 : v0 = .string (mkS s) := by simpa using hx0
  subst hx0
  obtain rfl : vs = #[.string (mkS s)] := by
    apply Array.toList_inj.1
    simpa using hv
  have hrs : RelV M0 (.str s) (.string (mkS s)) := by simp only [RelV, RelX]; exact ⟨trivial, hs1, hs2⟩
  refine calls_of_wp hf hb ?_
  rw [hn]
  obtain ⟨n0, nm, nl, dm0⟩ := hsz
  have hlen : ∀ l : List (Nat × AV), (pickT n l).length = n := pickT_len n
  have hs0 : (#[Value.string (mkS s)] ++ Array.replicate (n - 1) undef).size = n := by simp; omega
  have hT0 : RelT M0 (pickT n [(0, .str s)]) (#[Value.string (mkS s)] ++ Array.replicate (n - 1) undef) := by
    refine relT_pick hs0 fun p hp => ?_
    obtain rfl := List.mem_singleton.1 hp
    rw [getD_append (by simp)]
    exact hrs
  refine wp_seq (wp_region_list ?_)
  rw [← List.append_nil ops0.toList]
  refine pieceL hP (picks := [0]) (xs := [.str s]) (by rw [hlen]; exact h0 s) hT0 rfl fun M1 a1 w1 hp1 hs1' hd1 hb1 => ?_
  rw [hlen] at hs1'
  have q0 : a1.tmps.getD 0 undef = .string (mkS s) := by
    have := hp1 0 0 _ rfl rfl
    simp only [RelV, RelX] at this
    simpa using this.1
  show Code.wp P _ _ a1 w1
  refine wp_seq (wp_region_list ?_)
  rw [hops]
  refine wpl (w' := w1.alloc (.map #[] 0)) (v := .map (some w1.heap.size)) hm2 (by simp [execOp, hm1, run_makeMap, Result.andThen]) ?_
  rw [hm3]
  have e0 : (a1.put (some dm) (.map (some w1.heap.size))).tmps.getD dm undef = .map (some w1.heap.size) := put_get (by omega)
  have hw2 : Below w1.heap.size w1 (w1.alloc (.map #[] 0)) := Below.alloc w1 _ (Nat.le_refl _)
  have hwA : Below w.heap.size w (w1.alloc (.map #[] 0)) := hb1.trans (Below.weak hw2 hb1.size)
  refine wpList_inss hK hT (b := w1.heap.size) (n0 := w.heap.size) (w0 := w) hb1.size (T := []) (ents := lettersV) hi (hi2 _ _ (by simpa [Go.Act.eval, ← Array.getD_eq_getD_getElem?] using e0)) (letters_keys hu) (fun p hp => by cases hp) letters_apart (MapAt.made w1) hwA hwA.size fun w3 hm hb3 _ => ?_
  have hm : MapAt w3 w1.heap.size lettersV := hm.perm (by rw [List.append_nil]; exact List.reverse_perm _)
  have hT1 : RelT M0 (pickT n [(0, .str s), (dm, .mp w1.heap.size)]) (a1.put (some dm) (.map (some w1.heap.size))).tmps := by
    refine relT_pick (by rw [put_size]; exact hs1') fun p hp => ?_
    rcases List.mem_cons.1 hp with rfl | hp
    · rw [put_get_ne (fun h => dm0 h.symm), q0]; exact hrs
    · obtain rfl := List.mem_singleton.1 hp
      rw [e0]
      simp [RelV, RelX]
  refine pieceL hP (picks := [dk, ds]) (xs := [.mp w1.heap.size, .str s]) (by rw [hlen]; exact h1 s w1.heap.size) hT1 (by rw [put_defers]; exact hd1) fun M4 a4 w4 hp4 hs4 hd4 hb4 => ?_
  rw [hlen] at hs4
  have e1 : a4.tmps.getD dk undef = .map (some w1.heap.size) := by
    have := hp4 0 dk _ rfl rfl
    simpa [RelV, RelX] using this
  have e2 : a4.tmps.getD ds undef = .string (mkS s) := by
    have := hp4 1 ds _ rfl rfl
    simp only [RelV, RelX] at this
    simpa using this.1
  have hm4 : MapAt w4 w1.heap.size lettersV := hm.kept hb4 (by
    obtain ⟨es, clock, g, _⟩ := hm
    exact (Array.getElem?_eq_some_iff.1 g).1)
  have hlook : ∃ (v : Int) (q : Bool), (Instr.lookup T (.map (some w1.heap.size)) (.string (mkS s)) true).run P w4 = .ok (.tuple #[.int .i64 v, .bool q]) w4 ∧ IntKind.i64.has v ∧ orE 5 (lettersL s) = inl2 (lettersF2 v q) := by
    rcases MapAt.look hK hT hm4 (letters_keys hu) (strKeys hu hs2) (hz w4) with ⟨v, hv, hrun⟩ | ⟨hno, hrun⟩
    · obtain ⟨m, hm1, rfl, hm2⟩ := lettersL_of hs1 hv
      exact ⟨m, true, hrun, hm2, by rw [hm1]; rfl⟩
    · exact ⟨0, false, hrun, has_of_inB rfl, by rw [lettersL_none hno]; rfl⟩
  obtain ⟨v, q, hrun, hv', hq⟩ := hlook
  have hrun2 : (execOp a4.eval ol).run P w4 = .ok (.value (.tuple #[.int .i64 v, .bool q])) w4 := by
    simp [execOp, hl1, Go.Act.eval, ← Array.getD_eq_getD_getElem?, e1, e2, hrun, Result.andThen]
  refine wpl hl2 hrun2 ?_
  rw [hl3]
  have hT4 : RelT M0 (pickT n [(dl, .tup [.int .i64 none v, .bool none q])]) (a4.put (some dl) (.tuple #[.int .i64 v, .bool q])).tmps := by
    refine relT_pick (by rw [put_size]; exact hs4) fun p hp => ?_
    obtain rfl := List.mem_singleton.1 hp
    rw [put_get (by omega)]
    simp only [RelV, RelX]
    exact ⟨_, rfl, RelL_cons.2 ⟨_, _, rfl, relV_int_mk hv', RelL_cons.2 ⟨_, _, rfl, by simp [RelX], RelL_nil.2 rfl⟩⟩⟩
  have h2s : ∃ l, lettersF2 v q = some (.inl l) := by cases q <;> exact ⟨_, rfl⟩
  obtain ⟨l4, h4⟩ := h2s
  refine pieceLC hP (fn := fn) (slots := []) (r := .inl l4) (by rw [hlen]; rw [← h4]; exact h2 v q) hT4 (by rw [put_defers]; exact hd4) fun e5 a5 w5 ⟨hb5, hd5, _, he5⟩ => ?_
  cases e5 with
  | ret =>
    obtain ⟨l5, hl5, hhas5, hres5⟩ := he5
    cases hl5
    refine ⟨hd5, _, hres5, ?_⟩
    have : l4 = [x, y] := by
      rw [hq, h4] at hd
      exact inl2_of hd
    subst this
    exact ⟨rfl, hhas5, hb3.trans (Below.weak (hb4.trans (Below.weak hb5 hb4.size)) hb3.size)⟩
  | normal => obtain ⟨l5, hl5, _⟩ := he5; cases hl5
  | _ => cases he5
def AllB (P : Program) (ops : Array Oper) : List (Nat × Nat × Value) → Prop
  | [] => True
  | p :: r => (∃ o, ops[p.1]? = some o ∧ o.guard = none ∧ o.dst = some p.2.1 ∧ ∀ (a : Go.Act) (w : World), (execOp a.eval o).run P w = .ok (.value p.2.2) w) ∧ AllB P ops r
def takesB (ops : Array Oper) : Array Bool → List (Nat × Nat × Value) → Bool
  | _, [] => true
  | L, p :: r => Region.free .any ops L p.1 && (Region.ready .any ops L).contains p.1 && takesB ops (L.setIfInBounds p.1 true) r
def takeL (L : Array Bool) (l : List (Nat × Nat × Value)) : Array Bool := l.foldl (fun L p => L.setIfInBounds p.1 true) L
def putsA (a : Go.Act) (l : List (Nat × Nat × Value)) : Go.Act := l.foldl (fun a p => a.put (some p.2.1) p.2.2) a
theorem wpAny_builds {P : Program} {ops : Array Oper} {Q : Exit → Go.Act → World → Prop} (hs : Region.noSelect ops = true) (hQ : ∀ c (a a' : Go.Act) w, Q (.panic c) a w → Q (.panic c) a' w) : ∀ {l : List (Nat × Nat × Value)} {L : Array Bool} {a : Go.Act} {w : World} {f : Nat},
    AllB P ops l → takesB ops L l = true → wpAny P .any ops Q f (takeL L l) (putsA a l) w → wpAny P .any ops Q (f + l.length) L a w
  | [], L, a, w, f, _, _, h => h
  | p :: l, L, a, w, f, hb, ht, h => by
    obtain ⟨⟨o, h1, h2, h3, h4⟩, hb⟩ := hb
    simp only [takesB, Bool.and_eq_true] at ht
    refine wpAny_take (i := p.1) (v := p.2.2) h1 hs ht.1.1 ht.1.2 (fun c a' w' hq => hQ c _ _ w' hq) (.inl ⟨by simp [Region.wanted, h2], fun w => h4 a w⟩) ?_
    rw [h3]
    exact wpAny_builds hs hQ hb ht.2 h
theorem wpOp_run {P : Program} {ops : Array Oper} {Q : Exit → Go.Act → World → Prop} {i : Nat} {o : Oper} {K : Go.Act → World → Prop} {a : Go.Act} {w w' : World} {v : Value} (hi : ops[i]? = some o) (hg : o.guard = none) (hrun : (execOp a.eval o).run P w = .ok (.value v) w') (h : K (a.put o.dst v) w') : wpOp P ops Q i K a w := by
  unfold wpOp
  rw [hi]
  simp only [Region.wanted, hg, if_true]
  left
  unfold Oper.wp
  rw [hrun, Oper.upon_value]
  exact h
def codesS : List Nat := (List.range 18).map fun i => 2 * i + 2
def codesE (i : Nat) : Value × Value := (mapT 0).getD (i / 2 - 1) (undef, undef)
theorem codesE_map : codesS.map codesE = mapT 0 := rfl
theorem codesE_ne : ∀ i ∈ codesS, ∀ j ∈ codesS, i ≠ j → (codesE i).1 ≠ (codesE j).1 := by
  have h : codesS.all (fun i => codesS.all fun j => i == j || !((codesT.getD (i / 2 - 1) (0, 0, 0)).1 == (codesT.getD (j / 2 - 1) (0, 0, 0)).1 && (codesT.getD (i / 2 - 1) (0, 0, 0)).2.1 == (codesT.getD (j / 2 - 1) (0, 0, 0)).2.1)) = true := by decide
  have e : ∀ i ∈ codesS, codesE i = (.agg #[.int .i64 (codesT.getD (i / 2 - 1) (0, 0, 0)).1, .int .i64 (codesT.getD (i / 2 - 1) (0, 0, 0)).2.1], .int .i64 (codesT.getD (i / 2 - 1) (0, 0, 0)).2.2) := by
    intro i hi
    obtain ⟨k, hk, rfl⟩ := List.mem_map.1 hi
    have hk := List.mem_range.1 hk
    match k, hk with
    | 0, _ | 1, _ | 2, _ | 3, _ | 4, _ | 5, _ | 6, _ | 7, _ | 8, _ | 9, _ | 10, _ | 11, _ | 12, _ | 13, _ | 14, _ | 15, _ | 16, _ | 17, _ => rfl
    | n + 18, h => omega
  intro i hi j hj hne hq
  have := List.all_eq_true.1 (List.all_eq_true.1 h i hi) j hj
  rw [e i hi, e j hj] at hq
  simp only [Value.agg.injEq, Array.mk.injEq, List.cons.injEq, Value.int.injEq, true_and, and_true] at hq
  rw [hq.1, hq.2] at this
  simp at this
  exact hne this
theorem codesE_key {P : Program} {k : TypeId} (hk : PairKeys P k) : ∀ i ∈ codesS, ∃ l, keyOf P k (codesE i).1 = some l := by
  intro i hi
  refine codes_keys hk _ ?_
  rw [← codesE_map]
  exact List.mem_map.2 ⟨i, hi, rfl⟩
def codesA0 (n : Nat) : Go.Act := ({ tmps := #[] ++ Array.replicate (n - 0) undef, defers := [] } : Go.Act).put (some 0) (.map none)
theorem codes_at {P : Program} {f : FuncId} {fn : Func} {i0 i1 n : Nat} {ops0 ops : Array Oper} {T K E : TypeId} {oz om o37 o38 : Oper} {dm d37 : Nat} {bl : List (Nat × Nat × Value)}
    (hf : P.funcs[f]? = some fn) (hb : fn.body = some (.seq (.region i0 ops0 false) (.seq (.region i1 ops true) .ret))) (hn : fn.ntmps = n) (hres : fn.results = #[.tmp 0]) (hm : P.follows .mixedOrders = true)
    (hz : ops0.toList = [oz]) (hz1 : oz.op = .assign (.const (.map none))) (hz2 : oz.guard = none) (hz3 : oz.dst = some 0)
    (hsz : ops.size = 39) (hbl : bl.length = 18) (hs : Region.noSelect ops = true) (hAll : AllB P ops bl) (ht : takesB ops (Array.replicate 39 false) bl = true)
    (hr0 : Region.ready .any ops (takeL (Array.replicate 39 false) bl) = [0]) (hm0 : ops[0]? = some om) (hm1 : om.op = .makeMap T none) (hm2 : om.guard = none) (hm3 : om.dst = some dm)
    (hK : Maps.Keyed P K) (hT : P.underlying T = some (.map K E)) (hkey : PairKeys P K)
    (hir : insReady ops ((takeL (Array.replicate 39 false) bl).setIfInBounds 0 true) codesS = true)
    (hins : ∀ b, codesS.map (fun i => (ops[i]?).bind (insOf ((putsA (codesA0 n) bl).put (some dm) (.map (some b))) b)) = codesS.map fun i => some (T, b, (codesE i).1, (codesE i).2))
    (hr1 : Region.ready .any ops (setAll codesS ((takeL (Array.replicate 39 false) bl).setIfInBounds 0 true)) = [37]) (h37 : ops[37]? = some o37) (h371 : o37.op = .move (.tmp dm)) (h372 : o37.guard = none) (h373 : o37.dst = some d37)
    (hr2 : Region.ready .any ops ((setAll codesS ((takeL (Array.replicate 39 false) bl).setIfInBounds 0 true)).setIfInBounds 37 true) = [38]) (h38 : ops[38]? = some o38) (h381 : o38.op = .assign (.tmp d37)) (h382 : o38.guard = none) (h383 : o38.dst = some 0)
    (hr3 : Region.ready .any ops (((setAll codesS ((takeL (Array.replicate 39 false) bl).setIfInBounds 0 true)).setIfInBounds 37 true).setIfInBounds 38 true) = [])
    (hsA : (putsA (codesA0 n) bl).tmps.size = n ∧ 0 < n ∧ dm < n ∧ d37 < n) (hdA : (putsA (codesA0 n) bl).defers = []) : CodesAt P f := by
  intro w
  refine calls_of_wp hf hb ?_
  rw [hn]
  refine wp_seq (wp_region_list ?_)
  rw [hz]
  refine wpl (w' := w) (v := .map none) hz2 (by simp [execOp, hz1, Go.Act.eval]) ?_
  rw [hz3]
  show Code.wp P _ _ (codesA0 n) w
  obtain ⟨hsA, n0, nm, n37⟩ := hsA
  refine wp_seq ?_
  generalize hQ : bodyPost P fn _ = Q
  refine Code.wp_mono (Q := fun e a w' => e = .normal ∧ Code.wp P .ret Q a w') (fun e a w' h => by rw [h.1]; exact h.2) (wp_region_any hm ?_)
  subst hQ
  rw [hsz]
  show wpAny P .any ops _ (21 + 18) _ _ _
  rw [← hbl]
  refine wpAny_builds hs (fun c a a' w' hq => by cases hq.1) hAll ht ?_
  show wpAny P .any ops _ (20 + 1) _ _ _
  refine wpAny_all hr0 (by simp) fun i hi => ?_
  obtain rfl : i = 0 := by simpa using hi
  have hrun : (execOp (putsA (codesA0 n) bl).eval om).run P ({ w with drawn := w.drawn + 1 } : World) = .ok (.value (.map (some w.heap.size))) (({ w with drawn := w.drawn + 1 } : World).alloc (.map #[] 0)) := by
    have h1 := run_makeMap (P := P) T ({ w with drawn := w.drawn + 1 } : World)
    unfold execOp
    rw [hm1]
    simp only [Option.map_none, Sem.run_bind, h1, Result.andThen_ok, Sem.run_pure]
  refine wpOp_run hm0 hm2 hrun ?_
  rw [hm3]
  have hb0 : Below w.heap.size w ({ w with drawn := w.drawn + 1 } : World) := (Below.refl _ _).drew
  have hb1 : Below w.heap.size w (({ w with drawn := w.drawn + 1 } : World).alloc (.map #[] 0)) := hb0.trans (Below.alloc _ _ (Nat.le_refl _))
  show wpAny P .any ops _ (2 + 18) (setAll [] _) _ _
  refine wpAny_ins (n0 := w.heap.size) (w0 := w) (b := w.heap.size) (ent := codesE) hK hT (by decide) hir (hins w.heap.size) (codesE_key hkey) codesE_ne (Nat.le_refl _) ?_ 18 [] _ (fun i h => by cases h) List.nodup_nil (by decide) (MapAt.made ({ w with drawn := w.drawn + 1 } : World)) hb1 hb1.size
  intro w3 hm3' hb3
  rw [codesE_map] at hm3'
  have e1 : ((putsA (codesA0 n) bl).put (some dm) (.map (some w.heap.size))).tmps.getD dm undef = .map (some w.heap.size) := put_get (by omega)
  refine wpAny_all hr1 (by simp) fun i hi => ?_
  obtain rfl : i = 37 := by simpa using hi
  refine wpOp_run (w' := w3) (v := .map (some w.heap.size)) h37 h372 (by simp [execOp, h371, Go.Act.eval, ← Array.getD_eq_getD_getElem?, e1]) ?_
  rw [h373]
  have e2 : (((putsA (codesA0 n) bl).put (some dm) (.map (some w.heap.size))).put (some d37) (.map (some w.heap.size))).tmps.getD d37 undef = .map (some w.heap.size) := put_get (by rw [put_size]; omega)
  refine wpAny_all hr2 (by simp) fun i hi => ?_
  obtain rfl : i = 38 := by simpa using hi
  refine wpOp_run (w' := w3) (v := .map (some w.heap.size)) h38 h382 (by simp [execOp, h381, Go.Act.eval, ← Array.getD_eq_getD_getElem?, e2]) ?_
  rw [h383]
  refine wpAny_done hr3 ⟨rfl, wp_ret ⟨by rw [put_defers, put_defers, put_defers]; exact hdA, .map (some w.heap.size), ?_, w.heap.size, rfl, Nat.le_refl _, ?_, hb3, hm3'⟩⟩ _
  · have e3 : ((((putsA (codesA0 n) bl).put (some dm) (.map (some w.heap.size))).put (some d37) (.map (some w.heap.size))).put (some 0) (.map (some w.heap.size))).tmps.getD 0 undef = .map (some w.heap.size) := put_get (by rw [put_size, put_size]; omega)
    simp [results, hres, ← Array.getD_eq_getD_getElem?, e3]
  · obtain ⟨es, clock, g, _⟩ := hm3'
    exact (Array.getElem?_eq_some_iff.1 g).1
def seqA : Code → Code
  | .seq x _ => x
  | _ => .skip
def seqB : Code → Code
  | .seq _ y => y
  | _ => .skip
def inB' : Code → Code
  | .block _ c => c
  | .loop c => c
  | _ => .skip
def blkId : Code → Nat
  | .block i _ => i
  | .region i _ _ => i
  | _ => 0
def regArr : Code → Array Oper
  | .region _ ops _ => ops
  | _ => #[]
def opAt (c : Code) (i : Nat) : Oper := (regArr c).toList.getD i nopOper
def opsIn (c : Code) (i n : Nat) : List Oper := ((regArr c).toList.drop i).take n
def fldAt (P : Program) (t i : Nat) : Field := match P.underlying t with
  | some (.struct fs) => fs.toList.getD i default
  | _ => default
theorem pair_val {M : List Place} {x y : Int} {v : Value} (h : RelV M (.agg [.int .i64 none x, .int .i64 none y]) v) : v = .agg #[.int .i64 x, .int .i64 y] := by
  obtain ⟨vs, e, hc⟩ := RelX_agg.1 h
  obtain ⟨a, r, e1, hx, hr⟩ := RelC_cons.1 hc
  have hy := RelC_single.1 hr
  have h1 := (RelX_int.1 hx).1
  have h2 := (RelX_int.1 hy).1
  subst h1
  subst h2
  have e : v = .agg vs := by simpa using e
  rw [e]
  congr 1
  apply Array.toList_inj.1
  simpa using e1
def insC (d : Nat) (o : Oper) : Option (TypeId × Value × Value) := match o.op with
  | .insert t (.tmp d') (.const x) (.const v) => if d' = d then some (t, x, v) else none
  | _ => none
theorem insOf_eq {a : Go.Act} {b d : Nat} {T : TypeId} {li : List Oper} {es : List (Value × Value)} (h : a.eval (.tmp d) = .map (some b)) (hc : li.map (insC d) = es.map fun p => some (T, p.1, p.2)) : li.map (insOf a b) = es.map fun p => some (T, b, p.1, p.2) := by
  induction li generalizing es with
  | nil => cases es with
    | nil => rfl
    | cons _ _ => simp at hc
  | cons o li ih =>
    cases es with
    | nil => simp at hc
    | cons p es =>
      simp only [List.map_cons, List.cons.injEq] at hc ⊢
      refine ⟨?_, ih hc.2⟩
      have h1 := hc.1
      unfold insC at h1
      split at h1
      · rename_i t d' x v ho
        split at h1
        · rename_i hd
          subst hd
          simp only [Option.some.injEq, Prod.mk.injEq] at h1
          obtain ⟨rfl, rfl, rfl⟩ := h1
          unfold insOf
          rw [ho]
          simp only [h]
          rfl
        · cases h1
      · cases h1
end Go.AE
set_option linter.unusedVariables false
set_option linter.unusedSimpArgs false
namespace Go.AE
open Go Go.RowKit
section
variable {P : Program} {ops : Array Oper} {C : World → Prop} {Q : Exit → Go.Act → World → Prop} {a : Go.Act} {w : World}
theorem any_quiet (hB : Region.lexB .any ops = true) (hC : C w.drew) (h : wpQuiet P ops C (fun a' => ∀ w', C w' → Q .normal a' w') ops.toList a) : wpAny P .any ops Q ops.size (Array.replicate ops.size false) a w.drew := by
  simp only [Region.lexB, Bool.and_eq_true] at hB
  refine wpAny_of_quiet (Q := fun a' => ∀ w', C w' → Q .normal a' w') (fun _ w' hw' h => h w' hw') _ _ _ _ hC ?_
  have := wpAnyQ_lex (C := C) (md := .any) hB.1 ops.toList 0 (Array.replicate ops.size false) a (by simp) (by simpa using hB.2) h
  simpa using this
theorem any_quiet_tail (n : Nat) (hB : Region.lexTailB .any ops n = true) (hC : C w.drew)
    (h : wpQuiet P ops C (fun a' => ∀ w', C w' → wpList P ops Q (ops.toList.drop n) a' w') (ops.toList.take n) a) : wpAny P .any ops Q ops.size (Array.replicate ops.size false) a w.drew := by
  simp only [Region.lexTailB, Bool.and_eq_true, decide_eq_true_eq] at hB
  obtain ⟨⟨⟨⟨hsel, hn⟩, hs⟩, hc⟩, hlex⟩ := hB
  have htl : (ops.toList.take n).length = n := by simp; omega
  have hdl : (ops.toList.drop n).length = ops.size - n := by simp
  have inv0 : HeadInv .any ops n (Array.replicate ops.size false) :=
    ⟨by simp, fun j oj _ hl => (by rw [getD_replicate_false] at hl; cases hl), fun t _ ht => getD_in (by simpa using ht) (getD_replicate_false _ _)⟩
  have H := wpAnyLQ_lex (md := .any) (g := ops.size - n) hsel hs hc hn (ops.toList.take n) 0 _ a (fun j hj => by
    have hj' : j < n := by rw [htl] at hj; exact hj
    simp [hj']) (by simpa using htl) inv0 (by rw [htl]; exact hlex) h
  have := wpAny_of_headQ (Q' := Q) (g := ops.size - n) (fun listed a' w' hw' hL => by
    have := wpAny_of_seq (md := .any) (Q' := Q) (ops.toList.drop n) n listed a' w' (fun j => by simp [List.getElem?_drop]) (by rw [hdl]; exact hL.1) (hL.2 w' hw')
    rwa [hdl] at this) _ _ _ _ hC H
  rw [htl, show n + (ops.size - n) = ops.size by omega] at this
  exact this
def Reg (P : Program) (ops : Array Oper) (draw : Bool) (Q : Exit → Go.Act → World → Prop) (a : Go.Act) (w : World) : Prop :=
  match draw with
  | false => wpList P ops Q ops.toList a w
  | true => P.follows .mixedOrders = true ∧ wpAny P .any ops Q ops.size (Array.replicate ops.size false) a w.drew
end
variable {ρ : Type}
def Qn (Q : Exit → Go.Act → World → Prop) : Exit → Go.Act → World → Prop := fun e a w => e = .normal ∧ Q .normal a w
theorem qn_shut (Q : Exit → Go.Act → World → Prop) : ¬ LetsOut (Qn Q) := fun ⟨_, _, h⟩ => by cases h.1
theorem evRegion_reg {P : Program} (hP : Callable P) {cal : Cal ρ} (hcal : ∀ f, CalAt P f (cal f)) {qcal : QCal ρ} (hq : ∀ f, QCalAt P f (qcal f)) {ops : Array Oper} {draw : Bool} {st : St} {K : St → Option ρ} {r : ρ} (h : evRegion P cal qcal ops draw st K = some r)
    {M : List Place} {B : Base} {w0 : World} {a : Go.Act} {w : World} (hr : Rel M st B w0 a w) {Q : Exit → Go.Act → World → Prop} (hn : ∀ M' st' a' w', Ext M M' → K st' = some r → Rel M' st' B w0 a' w' → Q .normal a' w') : Reg P ops draw (Qn Q) a w := by
  have hn' : ∀ M' st' a' w', Ext M M' → K st' = some r → Rel M' st' B w0 a' w' → Qn Q .normal a' w' := fun M' st' a' w' h1 h2 h3 => ⟨rfl, hn M' st' a' w' h1 h2 h3⟩
  unfold evRegion at h
  split at h
  · exact evList_sound hP hcal h hr hn'
  · split at h
    · rename_i hm
      refine ⟨hm, ?_⟩
      have hb0 : Below w.heap.size w w.drew := (Below.refl _ _).drew
      have hH0 : RelH M st.heap B w.drew := hr.heap.below hb0
      have later : ∀ (st' : St) (a' : Go.Act) (w' : World), RelT M st'.tmps a'.tmps → st'.heap = st.heap → a'.defers = B.ds → Below w.drew.heap.size w.drew w' → Rel M st' B w0 a' w' := by
        intro st' a' w' ht hh hd hb
        exact ⟨ht, hd, by rw [hh]; exact hH0.below hb, hr.below.trans ((Beneath.of hb0).trans (Beneath.of hb))⟩
      have anyR : evAnyR P cal ops st K = some r → wpAny P .any ops (Qn Q) ops.size (Array.replicate ops.size false) a w.drew := by
        intro h
        unfold evAnyR at h
        split at h
        · rename_i hs
          have hs' := Bool.and_eq_true_iff.1 hs
          have hr0 := later st a w.drew hr.tmps rfl hr.defers (Below.refl _ _)
          have hcnt : cntF (lst [] (Array.replicate ops.size false)) ≤ ops.size := by simp [lst, cntF]
          exact wpAny_of_D _ _ _ _ _ (evAny_sound hP hcal hs'.1 (mkrs_ok P ops) hs'.2 ops.size ops.size [] [] [] _ st M a w.drew h (closed_none ops _) (fun p hp => by cases hp) (fun p hp => by cases hp)
            ⟨fun p hp => (by cases hp), fun p hp => (by cases hp), List.nodup_nil⟩ (hr0.tmps.clear _ _) hr0.defers (hr0.heap.rebase (B' := B.less []) (fun k h => ⟨h, fun p hp => by cases hp⟩) (fun k h => ⟨h, fun p hp => by cases hp⟩) (fun k pl h => h) (fun k ob _ h => h.elim (fun h => .inl ⟨h, fun p hp => by cases hp⟩) .inr) (fun k h => h)) hr0.below hcnt hn)
        · cases h
      split at h
      · exact anyR h
      split at h
      · split at h
        · rename_i hB
          have hB := (Bool.and_eq_true_iff.1 hB).1
          refine any_quiet (C := fun w' => Below w.drew.heap.size w.drew w') hB (Below.refl _ _) ?_
          exact evQList_sound hP hq hH0 h hr.tmps rfl hr.defers fun st' a' hk ht hh hd w' hb => hn' M st' a' w' (Ext.refl M) hk (later st' a' w' ht hh hd hb)
        · exact anyR h
      · split at h
        · rename_i hB
          refine any_quiet_tail (C := fun w' => Below w.drew.heap.size w.drew w') _ hB (Below.refl _ _) ?_
          exact evQList_sound hP hq hH0 h hr.tmps rfl hr.defers fun st' a' hk ht hh hd w' hb => evList_sound hP hcal hk (later st' a' w' ht hh hd hb) hn'
        · exact anyR h
    · cases h
abbrev Fence.rnd (l : Nat) : Fence := Fence.wide.inRound l
section
variable {P : Program} {l n : Nat} {Q : Exit → Go.Act → World → Prop}
theorem operR {o : Oper} (ho : ∀ c, o.op ≠ .defer c) {a : Go.Act} {w : World} {K : Go.Act → World → Prop} (h : o.wp P a w K Q) : o.wpIn (Fence.rnd l) n P a w K Q := by
  refine ⟨fun f _ => trivial, ?_⟩
  show o.uponIn _ n P a K Q ((Oper.semAt (some l) a.eval o).run P w)
  rw [Oper.semAt_some l _ o ho]
  unfold Oper.wp at h
  generalize (execOp a.eval o).run P w = r at h
  cases r with
  | ok nx w' =>
    cases nx with
    | value v => exact h
    | skip => exact h
    | defer d => exact h
    | enter f args => exact ⟨fun hd => by simp [Fence.rnd, Fence.inRound, Fence.wide] at hd, CallsIn.inRound l (callsIn_wide.2 h)⟩
    | row row args => exact ⟨fun hd => by simp [Fence.rnd, Fence.inRound, Fence.wide] at hd, fun c cs _ => let ⟨v, w', r, s⟩ := h c cs; ⟨v, w', r, stepsIn_wide.2 s⟩⟩
    | _ => exact h.elim
  | halt e w' =>
    cases e with
    | panic v => exact h
    | _ => exact h.elim
theorem listR {ops : Array Oper} (hQ : ¬ LetsOut Q) : ∀ (L : List Oper), (∀ o ∈ L, ∀ c, o.op ≠ .defer c) → ∀ (a : Go.Act) (w : World), wpList P ops Q L a w → wpListIn (Fence.rnd l) n P ops Q L a w
  | [], _, a, w, h => h
  | o :: L, hL, a, w, h => by
    unfold wpList at h
    unfold wpListIn
    by_cases hw : Region.wanted o (yielded ops a.tmps) = true
    · rw [if_pos hw] at h ⊢
      rcases h with h | h
      · exact Oper.wpIn_mono (fun a w h => listR hQ L (fun o ho => hL o (List.mem_cons_of_mem _ ho)) a w h) (operR (hL o List.mem_cons_self) h)
      · exact absurd h.2 hQ
    · rw [if_neg hw] at h ⊢
      exact ⟨fun f _ => trivial, listR hQ L (fun o ho => hL o (List.mem_cons_of_mem _ ho)) _ w h⟩
theorem anyR {ops : Array Oper} (hQ : ¬ LetsOut Q) (hd : ∀ (i : Nat) o, ops[i]? = some o → ∀ c, o.op ≠ .defer c) {md : Region.Mode} : ∀ (f : Nat) (listed : Array Bool) (a : Go.Act) (w : World), wpAny P md ops Q f listed a w → wpAnyIn (Fence.rnd l) n P md ops Q f listed a w
  | 0, listed, a, w, h => h
  | f + 1, listed, a, w, h => by
    refine ⟨h.1, fun i hi => ?_⟩
    have h2 := h.2 i hi
    unfold wpOp at h2
    unfold wpOpIn
    cases ho : ops[i]? with
    | none =>
      rw [ho] at h2
      exact anyR hQ hd f _ a w h2
    | some o =>
      rw [ho] at h2
      simp only at h2 ⊢
      by_cases hw : Region.wanted o (yielded ops a.tmps) = true
      · rw [if_pos hw] at h2 ⊢
        rcases h2 with h2 | h2
        · exact Oper.wpIn_mono (fun a w h => anyR hQ hd f _ a w h) (operR (hd i o ho) h2)
        · exact absurd h2.2 hQ
      · rw [if_neg hw] at h2 ⊢
        exact ⟨fun f _ => trivial, anyR hQ hd f _ _ w h2⟩
theorem regionR {ops : Array Oper} {draw : Bool} (hQ : ¬ LetsOut Q) (hd : ∀ (i : Nat) o, ops[i]? = some o → ∀ c, o.op ≠ .defer c) {id : Nat} {a : Go.Act} {w : World} (h : Reg P ops draw Q a w) : (Code.region id ops draw).wpIn (Fence.rnd l) n P Q a w := by
  cases draw with
  | false => exact wpIn_region_list (listR hQ _ (fun o ho => by
      obtain ⟨i, hi⟩ := List.getElem?_of_mem ho
      exact hd i o (by rw [← Array.getElem?_toList]; exact hi)) a w h)
  | true => exact wpIn_region_any h.1 (anyR hQ hd _ _ a _ h.2)
end
def calmOp (o : Oper) : Bool := match o.op with
  | .defer _ => false
  | _ => true
theorem calmOp_of {o : Oper} (h : calmOp o = true) : ∀ c, o.op ≠ .defer c := fun c hc => by
  unfold calmOp at h
  rw [hc] at h
  cases h
def calm : Code → Bool
  | .skip => true
  | .region _ ops _ => ops.toList.all calmOp
  | .seq x y => calm x && calm y
  | .cond _ x y => calm x && calm y
  | .block _ c => calm c
  | .loop c => calm c
  | .exit _ => true
  | .ret => true
  | .label _ => true
  | _ => false
theorem wpIn_loop_ind {F : Fence} {n : Nat} {P : Program} {c : Code} {Q : Exit → Go.Act → World → Prop} {a : Go.Act} {w : World} (I : Nat → Go.Act → World → Prop) {m : Nat} (h0 : I m a w)
    (round : ∀ m a w, I m a w → c.wpIn F n P (Exit.then (fun a' w' => ∃ m', m' < m ∧ I m' a' w') Q) a w) : (Code.loop c).wpIn F n P Q a w := by
  intro b k cs hro hb hr
  have key : ∀ j a w, I j a w → ∃ e a' w', Q e a' w' ∧ ArrivesIn (Machine.fenced P F) P (lone (b.atR a (.code c :: .inLoop c :: k)) cs w) b k cs e a' w' := by
    intro j
    induction j using Nat.strongRecOn with
    | _ j ih =>
      intro a w hI
      obtain ⟨e, a₁, w₁, hq, harr⟩ := round j a w hI b (.inLoop c :: k) cs hro hb hr
      cases e with
      | normal =>
        obtain ⟨m', hm, hI₁⟩ := hq
        obtain ⟨e₂, a₂, w₂, hq₂, harr₂⟩ := ih m' hm a₁ w₁ hI₁
        exact ⟨e₂, a₂, w₂, hq₂, .of_steps (StepsIn.trans harr (.one (fenced_calm hb hr rfl) stepR_inLoop)) harr₂⟩
      | exit id => exact ⟨_, a₁, w₁, hq, .pass (x := .inLoop c) rfl (fun _ _ => .inl (by simp)) harr⟩
      | goto l => exact ⟨_, a₁, w₁, hq, .pass (x := .inLoop c) rfl (fun _ _ => .inl (by simp)) harr⟩
      | ret => exact ⟨_, a₁, w₁, hq, .pass (x := .inLoop c) rfl (fun _ _ => .inl (by simp)) harr⟩
      | panic ch => exact ⟨_, a₁, w₁, hq, .pass (x := .inLoop c) rfl (fun _ _ => .inl (by simp)) harr⟩
      | outgrown => exact ⟨_, a₁, w₁, hq, .pass (x := .inLoop c) rfl (fun _ _ => .inl (by simp)) harr⟩
  obtain ⟨e, a', w', hq, harr⟩ := key _ a w h0
  exact ⟨e, a', w', hq, .of_steps (.one (fenced_calm hb hr rfl) stepR_loop) harr⟩
theorem evCode_soundR {P : Program} (hP : Callable P) {cal : Cal ρ} (hcal : ∀ f, CalAt P f (cal f)) {qcal : QCal ρ} (hq : ∀ f, QCalAt P f (qcal f)) {l n : Nat} {B : Base} {w0 : World} {r : ρ} :
    ∀ (c : Code) (_ : calm c = true) (st : St) (K : Exit → St → Option ρ), evCode P cal qcal (fun _ => none) c st K = some r →
      ∀ (M : List Place) (a : Go.Act) (w : World) (Q : Exit → Go.Act → World → Prop), Rel M st B w0 a w → (∀ e M' st' a' w', Ext M M' → K e st' = some r → Rel M' st' B w0 a' w' → Q e a' w') → c.wpIn (Fence.rnd l) n P Q a w := by
  intro c
  induction c with
  | skip => intro _ st K h M a w Q hr hn; exact wpIn_skip (hn _ M st a w (Ext.refl M) h hr)
  | region id ops draw =>
    intro hc st K h M a w Q hr hn
    have hd : ∀ (i : Nat) o, ops[i]? = some o → ∀ c, o.op ≠ .defer c := fun i o ho => calmOp_of (List.all_eq_true.1 hc o (by
      rw [← Array.getElem?_toList] at ho
      exact List.mem_of_getElem? ho))
    exact Code.wpIn_mono (fun e a w h => by obtain ⟨rfl, h⟩ := h; exact h) (regionR (qn_shut Q) hd (evRegion_reg hP hcal hq h hr fun M' st' a' w' hE => hn .normal M' st' a' w' hE))
  | seq x y ihx ihy =>
    intro hc st K h M a w Q hr hn
    have hc := Bool.and_eq_true_iff.1 hc
    refine wpIn_seq (ihx hc.1 st _ h M a w _ hr fun e M' st' a' w' hE hk hr' => ?_)
    cases e with
    | normal => exact ihy hc.2 st' K hk M' a' w' Q hr' fun e M2 st2 a2 w2 hE2 => hn e M2 st2 a2 w2 (hE.trans hE2)
    | exit id => exact hn _ M' st' a' w' hE hk hr'
    | goto l => exact hn _ M' st' a' w' hE hk hr'
    | ret => exact hn _ M' st' a' w' hE hk hr'
    | panic ch => exact hn _ M' st' a' w' hE hk hr'
    | outgrown => exact hn _ M' st' a' w' hE hk hr'
  | cond c x y ihx ihy =>
    intro hc st K h M a w Q hr hn
    have hc := Bool.and_eq_true_iff.1 hc
    have hg := get_rel hr.tmps c
    unfold evCode at h
    have lit : ∀ b : Bool, a.eval c = .bool b → Rel M (st.lit c b) B w0 a w := by
      intro b hb
      cases c with
      | tmp t =>
        have h1 := hr.put (x := .bool (some b) b) (v := .bool b) (by simp [RelV, RelX]) (some t)
        simp only [Act.eval] at hb
        rw [← hb, put_self] at h1
        exact h1
      | _ => exact hr
    split at h
    · rename_i b z hst
      rw [hst] at hg
      obtain ⟨e, hl⟩ := relV_bool hg
      have := hl b rfl
      subst this
      cases z
      · exact wpIn_cond_false e (ihy hc.2 st K h M a w Q hr hn)
      · exact wpIn_cond_true e (ihx hc.1 st K h M a w Q hr hn)
    · rename_i b hst
      rw [hst] at hg
      obtain ⟨e, _⟩ := relV_bool hg
      cases b
      · exact wpIn_cond_false e (ihy hc.2 _ K h M a w Q (lit _ e) hn)
      · exact wpIn_cond_true e (ihx hc.1 _ K h M a w Q (lit _ e) hn)
    · cases h
  | block id c ih =>
    intro hc st K h M a w Q hr hn
    unfold evCode at h
    refine wpIn_block (ih hc st _ h M a w _ hr fun e M' st' a' w' hE hk hr' => ?_)
    cases e with
    | exit id' =>
      simp only at hk
      unfold Exit.inBlock
      split at hk
      · rename_i hid
        simp only [hid, if_true]
        exact hn _ M' st' a' w' hE hk hr'
      · rename_i hid
        simp only [hid, if_false]
        exact hn _ M' st' a' w' hE hk hr'
    | normal => exact hn _ M' st' a' w' hE hk hr'
    | goto l => exact hn _ M' st' a' w' hE hk hr'
    | ret => exact hn _ M' st' a' w' hE hk hr'
    | panic ch => exact hn _ M' st' a' w' hE hk hr'
    | outgrown => exact hn _ M' st' a' w' hE hk hr'
  | loop c ih =>
    intro hc st K h M a w Q hr hn
    unfold evCode at h
    refine wpIn_loop_ind (fun m a' w' => ∃ st' M', loopN m (fun st K => evCode P cal qcal (fun _ => none) c st K) st' K = some r ∧ Ext M M' ∧ Rel M' st' B w0 a' w') (m := 300) ⟨st, M, h, Ext.refl M, hr⟩ ?_
    rintro m a1 w1 ⟨st1, M1, h1, hE1, hr1⟩
    cases m with
    | zero => cases h1
    | succ m =>
      unfold loopN at h1
      refine ih hc st1 _ h1 M1 a1 w1 _ hr1 fun e M' st' a' w' hE hk hr' => ?_
      cases e with
      | normal => exact ⟨m, by omega, st', M', hk, hE1.trans hE, hr'⟩
      | exit id => exact hn _ M' st' a' w' (hE1.trans hE) hk hr'
      | goto l => exact hn _ M' st' a' w' (hE1.trans hE) hk hr'
      | ret => exact hn _ M' st' a' w' (hE1.trans hE) hk hr'
      | panic ch => exact hn _ M' st' a' w' (hE1.trans hE) hk hr'
      | outgrown => exact hn _ M' st' a' w' (hE1.trans hE) hk hr'
  | exit id => intro _ st K h M a w Q hr hn; exact wpIn_exit (hn _ M st a w (Ext.refl M) h hr)
  | ret => intro _ st K h M a w Q hr hn; exact wpIn_ret (hn _ M st a w (Ext.refl M) h hr)
  | label l => intro _ st K h M a w Q hr hn; exact wpIn_label (hn _ M st a w (Ext.refl M) h hr)
  | _ => intro hc; cases hc
end Go.AE
set_option linter.unusedVariables false
set_option linter.unusedSimpArgs false
namespace Go.AE
open Go Go.RowKit
def OB (O : Nat → Prop) : Base := ⟨O, fun _ => True, fun _ _ => True, fun _ => False, []⟩
def grow (O : Nat → Prop) (W W' : World) (k : Nat) : Prop := O k ∨ (W.heap.size ≤ k ∧ k < W'.heap.size)
def Same (O : Nat → Prop) (W W' : World) : Prop := ∀ k, O k → W'.heap[k]? = W.heap[k]?
theorem Same.refl (O : Nat → Prop) (W : World) : Same O W W := fun _ _ => rfl
theorem Same.trans {O : Nat → Prop} {A B C : World} (h : Same O A B) (k : Same O B C) : Same O A C := fun i hi => (k i hi).trans (h i hi)
theorem Same.putObj {O : Nat → Prop} {W : World} {l : Nat} (hl : ¬ O l) (o : Obj) : Same O W (W.putObj l o) := fun k hk => World.putObj_heap_other (fun e => hl (e ▸ hk))
def ItAt {α : Type} (P : Program) (gf : FuncId) (lb : Array Value) (encs : α → Array Value) (ok : α → Prop) (xs : List α) (O0 : Nat → Prop) (w : World) : Prop :=
  ∀ (l : Nat) (J Jx : List α → (Nat → Prop) → World → Prop) (W : World), Same O0 w W → w.heap.size ≤ W.heap.size →
    (∀ pre O W W', J pre O W → Beneath (OB O) W W' → J pre (grow O W W') W') →
    (∀ pre O W W', Jx pre O W → Beneath (OB O) W W' → Jx pre (grow O W W') W') →
    (∀ pre x rest O W1, xs = pre ++ x :: rest → ok x → J pre O W1 → YieldAt Fence.wide 0 P l (encs x) W1 fun e W' =>
      W1.heap.size ≤ W'.heap.size ∧ Same O W1 W' ∧ ((e = .returned (.bool true) ∧ J (pre ++ [x]) O W') ∨ (e = .returned (.bool false) ∧ Jx (pre ++ [x]) O W'))) →
    J [] O0 W →
    CallsIn Fence.wide 0 P gf (#[.func (.yield l) #[] #[]] ++ lb) W fun e W' => (∃ v, e = .returned v) ∧ ((∃ O, J xs O W') ∨ (∃ pre O, pre <+: xs ∧ Jx pre O W'))
structure Kept (n0 : Nat) (W W' : World) : Prop where
  size : W.heap.size ≤ W'.heap.size
  same : ∀ k, n0 ≤ k → k < n0 + 2 → W'.heap[k]? = W.heap[k]?
def rndPost {α : Type} (n0 : Nat) (O : Nat → Prop) (I : List α → (Nat → Prop) → World → Prop) (Ix : Code → List α → (Nat → Prop) → World → Prop) (xs : List α) (W : World) : Exit → Go.Act → World → Prop
  | .normal, _, W' => Kept n0 W W' ∧ Same O W W' ∧ I xs O W'
  | .ret, _, W' => Kept n0 W W' ∧ Same O W W' ∧ Ix .ret xs O W'
  | .exit id, _, W' => Kept n0 W W' ∧ Same O W W' ∧ Ix (.exit id) xs O W'
  | .goto t, _, W' => Kept n0 W W' ∧ Same O W W' ∧ Ix (.goto t) xs O W'
  | _, _, _ => False
abbrev mark (D : Nat) : Deferred := { target := .collected D, args := #[] }
theorem wpIn_range {P : Program} {α : Type} {g : Operand} {ps : Array Tmp} {assign body : Code} {Q : Exit → Go.Act → World → Prop} {a : Go.Act} {w : World}
    {gf : Nat} {lb : Array Value} (hg : a.eval g = .func (.func gf) #[] lb) (eg : ∀ args w, (callFunc gf args).run P w = .ok (.enter gf args) w)
    {encs : α → Array Value} {ok : α → Prop} {xs : List α} {O0 : Nat → Prop} (hit : ItAt P gf lb encs ok xs O0 w) (hO : ∀ k, O0 k → k < w.heap.size) (hps : ∀ x, (encs x).size = ps.size)
    (I : List α → (Nat → Prop) → World → Prop) (Ix : Code → List α → (Nat → Prop) → World → Prop)
    (hI : ∀ pre O W W', I pre O W → Beneath (OB O) W W' → I pre (grow O W W') W')
    (hIx : ∀ c pre O W W', Ix c pre O W → Beneath (OB O) W W' → Ix c pre (grow O W W') W')
    (hIp : ∀ pre O W l o o', I pre O W → w.heap.size ≤ l → l < w.heap.size + 2 → W.heap[l]? = some o → o.isCells = false → I pre O (W.putObj l o'))
    (hIxp : ∀ c pre O W l o o', Ix c pre O W → w.heap.size ≤ l → l < w.heap.size + 2 → W.heap[l]? = some o → o.isCells = false → Ix c pre O (W.putObj l o'))
    (h0 : ∀ W, Below w.heap.size w W → w.heap.size + 2 ≤ W.heap.size → I [] O0 W) (Ax : List α → α → (Nat → Prop) → Go.Act → World → Prop)
    (hAp : ∀ pre x O a' W l o o', Ax pre x O a' W → w.heap.size ≤ l → l < w.heap.size + 2 → W.heap[l]? = some o → o.isCells = false → Ax pre x O a' (W.putObj l o'))
    (hassign : ∀ (l : Nat) pre x rest O W, xs = pre ++ x :: rest → ok x → I pre O W →
      assign.wpIn (Fence.rnd l) 0 P (Exit.then (fun a' W' => Kept w.heap.size W W' ∧ Same O W W' ∧ Ax pre x O a' W') (fun _ _ _ => False)) { tmps := (ps.zip (encs x)).foldl (fun t (p, v) => t.setIfInBounds p v) a.tmps, defers := [] } W)
    (hbody : ∀ (l : Nat) pre x rest O a' W, xs = pre ++ x :: rest → Ax pre x O a' W → body.wpIn (Fence.rnd l) 0 P (rndPost w.heap.size O I Ix (pre ++ [x]) W) a' W)
    (hdone : ∀ O W, I xs O W → W.heap[w.heap.size]? = some (.deferred (some [])) → Q .normal { a with defers := mark w.heap.size :: a.defers } W)
    (hstop : ∀ c pre O W, pre <+: xs → Ix c pre O W → W.heap[w.heap.size]? = some (.deferred (some [])) → c.wpIn Fence.wide 0 P Q { a with defers := mark w.heap.size :: a.defers } W) :
    (Code.rangeFunc g ps assign body).wpIn Fence.wide 0 P Q a w := by
  refine wpIn_rangeFunc ?_
  intro fn hfn
  rw [show Fence.wide.round = none from rfl]
  obtain ⟨rec, hrec⟩ : ∃ rec : LoopState → Option Code → Loop, rec = fun st pe => { state := st, pending := pe, fn, tmps := a.tmps, params := ps, assign, body, defers := w.heap.size } := ⟨_, rfl⟩
  obtain ⟨W1, hW1⟩ : ∃ W1, (w.alloc (.deferred (some []))).alloc (.loop (rec .ready none)) = W1 := ⟨_, rfl⟩
  have hL1 : W1.heap[w.heap.size + 1]? = some (.loop (rec .ready none)) := by
    rw [← hW1]; have := World.alloc_heap_new (w.alloc (.deferred (some []))) (.loop (rec .ready none)); rwa [World.size_alloc] at this
  have hK1 : W1.heap[w.heap.size]? = some (.deferred (some [])) := by
    rw [← hW1]; exact (Below.heap_alloc _ _ _ (by simp)).trans (World.alloc_heap_new w _)
  have hb1 : Below w.heap.size w W1 := by
    rw [← hW1]; exact ((Below.refl _ w).alloc (Nat.le_refl _) _).alloc (by simp) _
  have hI1 : I [] O0 W1 := h0 W1 hb1 (by rw [← hW1]; simp)
  refine ⟨w.heap.size + 1, [mark w.heap.size], W1, { target := .fn (.func gf) lb, args := #[.func (.yield (w.heap.size + 1)) #[] #[]] }, W1, gf,
    #[.func (.yield (w.heap.size + 1)) #[] #[]] ++ lb, W1, ?_, ?_, ?_, ?_, ?_, ?_⟩
  · rw [← hW1, hrec]; exact run_enterLoop_outer _ _ _ _ _
  · simp only [resolve, hg]
    simp [go_sem]
  · intro f' hf'; trivial
  · simp [invoke, go_sem, eg]
  · intro h; simp [Fence.wide] at h
  · refine (hit (w.heap.size + 1)
      (fun pre O W => I pre O W ∧ W.heap[w.heap.size + 1]? = some (.loop (rec .ready none)) ∧ W.heap[w.heap.size]? = some (.deferred (some [])) ∧ ¬ O (w.heap.size + 1) ∧ ¬ O w.heap.size)
      (fun pre O W => ∃ c, Ix c pre O W ∧ W.heap[w.heap.size + 1]? = some (.loop (rec .done (some c))) ∧ W.heap[w.heap.size]? = some (.deferred (some [])) ∧ ¬ O (w.heap.size + 1) ∧ ¬ O w.heap.size)
      W1 (fun k hk => hb1.block k (hO k hk)) hb1.size ?_ ?_ ?_ ⟨hI1, hL1, hK1, fun h => by have := hO _ h; omega, fun h => by have := hO _ h; omega⟩).mono ?_
    · rintro pre O W W' ⟨h1, h2, h3, h4, h5⟩ hB
      have l2 := (Array.getElem?_eq_some_iff.1 h2).1
      have l3 := (Array.getElem?_eq_some_iff.1 h3).1
      exact ⟨hI _ _ _ _ h1 hB, (hB.block _ l2 h4).trans h2, (hB.block _ l3 h5).trans h3, fun h => h.elim h4 fun h => by omega, fun h => h.elim h5 fun h => by omega⟩
    · rintro pre O W W' ⟨c, h1, h2, h3, h4, h5⟩ hB
      have l2 := (Array.getElem?_eq_some_iff.1 h2).1
      have l3 := (Array.getElem?_eq_some_iff.1 h3).1
      exact ⟨c, hIx _ _ _ _ _ h1 hB, (hB.block _ l2 h4).trans h2, (hB.block _ l3 h5).trans h3, fun h => h.elim h4 fun h => by omega, fun h => h.elim h5 fun h => by omega⟩
    · rintro pre x rest O W hx hokx ⟨hi, hl, hk, hol, hok⟩
      have hy := run_yield (P := P) (args := encs x) hl (by rw [hrec]; exact hps x)
      rw [hrec] at hy
      refine ⟨fn, _, assign, body, hy, roundIn_of_wpIn hfn (Code.wpIn_mono (fun e a' Wa h => ?_) (hassign _ pre x rest O W hx hokx hi))⟩
      cases e with
      | normal =>
        obtain ⟨hkfa, hsa, hax⟩ := h
        have hl := (hkfa.same (w.heap.size + 1) (by omega) (by omega)).trans hl
        have hk := (hkfa.same w.heap.size (by omega) (by omega)).trans hk
        have hlt : w.heap.size + 1 < Wa.heap.size := (Array.getElem?_eq_some_iff.1 hl).1
        refine ⟨_, run_beginRound hl (by rw [hrec]), ?_⟩
        have hl2 : (Wa.putObj (w.heap.size + 1) (.loop { rec .ready none with state := .busy })).heap[w.heap.size + 1]? = some (.loop { rec .ready none with state := .busy }) := World.putObj_heap_same hlt
        have hk2 : (Wa.putObj (w.heap.size + 1) (.loop { rec .ready none with state := .busy })).heap[w.heap.size]? = some (.deferred (some [])) := (World.putObj_heap_other (by omega)).trans hk
        have hs2 : Same O Wa (Wa.putObj (w.heap.size + 1) (.loop { rec .ready none with state := .busy })) := Same.putObj hol _
        refine wpIn_mono (hbody _ pre x rest O a' _ hx (hAp _ _ _ _ _ _ _ _ hax (by omega) (by omega) hl rfl)) ?_
        have fin : ∀ (jump : Option Code) (W3 : World), Kept w.heap.size (Wa.putObj (w.heap.size + 1) (.loop { rec .ready none with state := .busy })) W3 → Same O (Wa.putObj (w.heap.size + 1) (.loop { rec .ready none with state := .busy })) W3 →
            (Instr.endRound (w.heap.size + 1) jump).run P W3 = .ok (.bool jump.isNone) (W3.putObj (w.heap.size + 1) (.loop (rec (if jump.isNone then .ready else .done) jump))) ∧
            W3.heap[w.heap.size + 1]? = some (.loop { rec .ready none with state := .busy }) ∧
            (W3.putObj (w.heap.size + 1) (.loop (rec (if jump.isNone then .ready else .done) jump))).heap[w.heap.size + 1]? = some (.loop (rec (if jump.isNone then .ready else .done) jump)) ∧
            (W3.putObj (w.heap.size + 1) (.loop (rec (if jump.isNone then .ready else .done) jump))).heap[w.heap.size]? = some (.deferred (some [])) ∧
            W.heap.size ≤ (W3.putObj (w.heap.size + 1) (.loop (rec (if jump.isNone then .ready else .done) jump))).heap.size ∧
            Same O W (W3.putObj (w.heap.size + 1) (.loop (rec (if jump.isNone then .ready else .done) jump))) := fun jump W3 hk3 hs3 => by
          have hl3 := (hk3.same (w.heap.size + 1) (by omega) (by omega)).trans hl2
          have := run_endRound (P := P) jump hl3
          have z1 := hkfa.size
          have z3 := hk3.size
          rw [World.putObj_size] at z3
          rw [hrec] at this ⊢
          exact ⟨this, by rw [hrec] at hl3; exact hl3, World.putObj_heap_same (Array.getElem?_eq_some_iff.1 hl3).1, (World.putObj_heap_other (by omega)).trans ((hk3.same w.heap.size (by omega) (by omega)).trans hk2), by rw [World.putObj_size]; omega,
            by rw [hrec] at hs2 hs3; exact hsa.trans (hs2.trans (hs3.trans (Same.putObj hol _)))⟩
        rintro e a3 W3 hp
        cases e with
        | normal =>
          obtain ⟨hk3, hs3, hi3⟩ := hp
          obtain ⟨hr, hl3, hl4, hk4, hz4, hs4⟩ := fin none W3 hk3 hs3
          exact ⟨_, _, hr, hz4, hs4, .inl ⟨rfl, hIp _ _ _ _ _ _ hi3 (by omega) (by omega) hl3 rfl, hl4, hk4, hol, hok⟩⟩
        | ret =>
          obtain ⟨hk3, hs3, hi3⟩ := hp
          obtain ⟨hr, hl3, hl4, hk4, hz4, hs4⟩ := fin (some .ret) W3 hk3 hs3
          exact ⟨_, _, hr, hz4, hs4, .inr ⟨rfl, .ret, hIxp _ _ _ _ _ _ _ hi3 (by omega) (by omega) hl3 rfl, hl4, hk4, hol, hok⟩⟩
        | exit id =>
          obtain ⟨hk3, hs3, hi3⟩ := hp
          obtain ⟨hr, hl3, hl4, hk4, hz4, hs4⟩ := fin (some (.exit id)) W3 hk3 hs3
          exact ⟨_, _, hr, hz4, hs4, .inr ⟨rfl, .exit id, hIxp _ _ _ _ _ _ _ hi3 (by omega) (by omega) hl3 rfl, hl4, hk4, hol, hok⟩⟩
        | goto t =>
          obtain ⟨hk3, hs3, hi3⟩ := hp
          obtain ⟨hr, hl3, hl4, hk4, hz4, hs4⟩ := fin (some (.goto t)) W3 hk3 hs3
          exact ⟨_, _, hr, hz4, hs4, .inr ⟨rfl, .goto t, hIxp _ _ _ _ _ _ _ hi3 (by omega) (by omega) hl3 rfl, hl4, hk4, hol, hok⟩⟩
        | panic ch => exact hp.elim
        | outgrown => exact hp.elim
      | _ => exact h.elim
    · rintro e W2 ⟨⟨v, rfl⟩, (⟨O, hi, hl, hk, _, _⟩ | ⟨pre, O, hSp, c, hi, hl, hk, _, _⟩)⟩
      · exact ⟨none, _, by have := run_endLoop (P := P) hl (by rw [hrec]; simp); rw [hrec] at this; exact this, hdone O _ (hIp _ _ _ _ _ _ hi (by omega) (by omega) hl rfl) ((World.putObj_heap_other (by omega)).trans hk)⟩
      · exact ⟨some c, _, by have := run_endLoop (P := P) hl (by rw [hrec]; simp); rw [hrec] at this; exact this, hstop c pre O _ hSp (hIxp _ _ _ _ _ _ _ hi (by omega) (by omega) hl rfl) ((World.putObj_heap_other (by omega)).trans hk)⟩
end Go.AE
set_option linter.unusedVariables false
set_option linter.unusedSimpArgs false
namespace Go.AE
open Go Go.RowKit
theorem RelH.carry {M : List Place} {H : Heap} {B B' : Base} {w w' : World} (r : RelH M H B w)
    (hpl : ∀ (i : Nat) (o : AObj) (pl : Place), H[i]? = some (some o) → M[i]? = some pl → pl.nil = false → w'.heap[pl.blk]? = w.heap[pl.blk]?)
    (hz : ∀ k ob, FzAt M k ob → w'.heap[k]? = some ob ∧ (B'.w k ∨ B'.f k))
    (hw : ∀ (i : Nat) (o : AObj) (pl : Place), H[i]? = some (some o) → M[i]? = some pl → o.own = true → pl.nil = false → B.w pl.blk → B'.w pl.blk)
    (hv : ∀ k, B.vis k → B'.vis k) (hp : ∀ k pl, B.pin k pl → B'.pin k pl) (hf : ∀ k, B'.f k → B.f k)
    (hb : ∀ k, w'.heap.size ≤ k → B'.w k ∧ B'.vis k) (hbf : ∀ k, w'.heap.size ≤ k → ¬ B'.f k) : RelH M H B' w' := by
  refine ⟨r.len, hb, fun i o ho => ?_, r.sep, fun i o pl k h1 h2 h3 => hp _ _ (r.pin i o pl k h1 h2 h3), fun i o pl h1 h2 h3 => hv _ (r.vis i o pl h1 h2 h3), fun k ob h => ⟨(hz k ob h).1, hv _ (r.fz k ob h).2.1, (hz k ob h).2⟩,
    fun i o pl h1 h2 h3 h4 => ⟨fun h => (r.fo i o pl h1 h2 h3 h4).1 (hf _ h), (r.fo i o pl h1 h2 h3 h4).2⟩, hbf⟩
  obtain ⟨pl, hpl', hok⟩ := r.obj i o ho
  refine ⟨pl, hpl', ?_⟩
  rcases hok with hok | ⟨g1, cs, el, fz, g2, g3, g4, g5, g6⟩
  · exact .inl hok
  · exact .inr ⟨g1, cs, el, fz, (hpl i o pl ho hpl' g1).trans g2, g3, g4, g5, fun e => ⟨(g6 e).1, (g6 e).2.1, hw i o pl ho hpl' e g1 (g6 e).2.2⟩⟩
theorem RelH.cells {M : List Place} {H : Heap} {B : Base} {w : World} (r : RelH M H B w) {i : Nat} {o : AObj} {pl : Place} (ho : H[i]? = some (some o)) (hp : M[i]? = some pl) (hn : pl.nil = false) : ∃ ob, w.heap[pl.blk]? = some ob ∧ ob.isCells = true := by
  obtain ⟨pl', hpl', hok⟩ := r.obj i o ho
  rw [hp] at hpl'
  cases hpl'
  rcases hok with ⟨h, _⟩ | ⟨g1, cs, el, fz, g2, _⟩
  · rw [hn] at h
    cases h
  · exact ⟨_, g2, rfl⟩
theorem RelH.putOther {M : List Place} {H : Heap} {B : Base} {w : World} (r : RelH M H B w) {D : Nat} {ob : Obj} (hD : w.heap[D]? = some ob) (hc : ob.isCells = false) (hz : ∀ ob, ¬ FzAt M D ob) (ob' : Obj) : RelH M H B (w.putObj D ob') :=
  r.carry (fun i o pl h1 h2 h3 => World.putObj_heap_other (fun e => by
      obtain ⟨x, hx, hx'⟩ := r.cells h1 h2 h3
      rw [e, hD] at hx
      cases hx
      rw [hc] at hx'
      cases hx'))
    (fun k x h => ⟨(World.putObj_heap_other (fun e => hz x (by rw [← e]; exact h))).trans (r.fz k x h).1, (r.fz k x h).2.2⟩) (fun _ _ _ _ _ _ _ h => h) (fun _ h => h) (fun _ _ h => h) (fun _ h => h)
    (fun k hk => r.base k (by rwa [World.putObj_size] at hk)) (fun k hk => r.bf k (by rwa [World.putObj_size] at hk))
def Base.marked (B : Base) (D : Nat) : Base := ⟨fun k => B.w k ∧ k ≠ D, B.vis, B.pin, B.f, [mark D]⟩
theorem RelH.marked {M : List Place} {H : Heap} {B : Base} {w : World} (r : RelH M H B w) {D : Nat} {ob : Obj} (hD : w.heap[D]? = some ob) (hc : ob.isCells = false) (hz : ∀ ob, ¬ FzAt M D ob) : RelH M H (B.marked D) w := by
  have hlt := (Array.getElem?_eq_some_iff.1 hD).1
  refine r.carry (fun _ _ _ _ _ _ => rfl) (fun k x h => ⟨(r.fz k x h).1, ?_⟩) (fun i o pl h1 h2 h3 h4 h => ⟨h, fun e => ?_⟩) (fun _ h => h) (fun _ _ h => h) (fun _ h => h) (fun k hk => ⟨⟨(r.base k hk).1, by omega⟩, (r.base k hk).2⟩) r.bf
  · rcases (r.fz k x h).2.2 with g | g
    · exact .inl ⟨g, fun e => hz x (by rw [← e]; exact h)⟩
    · exact .inr g
  · obtain ⟨x, hx, hx'⟩ := r.cells h1 h2 h4
    rw [e, hD] at hx
    cases hx
    rw [hc] at hx'
    cases hx'
theorem RelH.unmarked {M : List Place} {H : Heap} {B : Base} {w : World} {D : Nat} (r : RelH M H (B.marked D) w) : RelH M H B w :=
  r.rebase (fun _ h => h.1) (fun _ h => h) (fun _ _ h => h) (fun _ _ _ h => h.imp (fun h => h.1) id) (fun _ h => h)
theorem Beneath.mark_kept {B : Base} {D : Nat} {w w' : World} (h : Beneath (B.marked D) w w') {ob : Obj} (hD : w.heap[D]? = some ob) : w'.heap[D]? = some ob :=
  (h.block D (Array.getElem?_eq_some_iff.1 hD).1 (fun h => h.2 rfl)).trans hD
theorem Beneath.unmarked {B : Base} {D : Nat} {w w' : World} (h : Beneath (B.marked D) w w') : Beneath B w w' := ⟨h.os, h.tape, h.output, h.size, fun k hk hn => h.block k hk (fun h => hn h.1)⟩
theorem leaves_mark {P : Program} {fn : Func} {tmps : Array Value} {R : Ending → World → Prop} {D : Nat} {w : World} (hD : w.heap[D]? = some (.deferred (some []))) {v : Value}
    (hr : (results fn tmps).run P (w.putObj D (.deferred none)) = .ok v (w.putObj D (.deferred none))) (hR : R (.returned v) (w.putObj D (.deferred none))) : LeavesInM Fence.wide 0 P fn tmps R [mark D] .returning w :=
  ⟨by simp, .inl ⟨D, _, rfl, run_takeDeferred hD, v, hr, hR⟩⟩
variable {ρ : Type}
end Go.AE
set_option linter.unusedVariables false
set_option linter.unusedSimpArgs false
namespace Go.AE
open Go Go.RowKit
def itB (O : Nat → Prop) (W : World) : Base := ⟨fun k => O k ∨ W.heap.size ≤ k, fun _ => True, fun _ _ => True, fun _ => False, []⟩
def ownAll (H : Heap) : Bool := H.all fun x => match x with
  | some o => o.own
  | none => true
theorem ownAll_at {H : Heap} (h : ownAll H = true) {i : Nat} {o : AObj} (ho : H[i]? = some (some o)) : o.own = true :=
  List.all_eq_true.1 h (some o) (List.mem_of_getElem? ho)
theorem Beneath.it {O : Nat → Prop} {W W' : World} (h : Beneath (itB O W) W W') : Beneath (OB O) W W' :=
  ⟨h.os, h.tape, h.output, h.size, fun k hk hn => h.block k hk fun h => h.elim hn fun h => absurd hk (by omega)⟩
theorem it_own {M : List Place} {H : Heap} {O : Nat → Prop} {W : World} (r : RelH M H (itB O W) W) (ho : ownAll H = true) {i : Nat} {o : AObj} {pl : Place} (h1 : H[i]? = some (some o)) (h2 : M[i]? = some pl) (h3 : pl.nil = false) : O pl.blk := by
  obtain ⟨pl', hpl', hok⟩ := r.obj i o h1
  rw [h2] at hpl'
  cases hpl'
  rcases hok with ⟨h, _⟩ | ⟨g1, cs, el, fz, g2, g3, g4, g5, g6⟩
  · rw [h3] at h
    cases h
  · have hlt := (Array.getElem?_eq_some_iff.1 g2).1
    rcases (g6 (ownAll_at ho h1)).2.2 with h | h
    · exact h
    · omega
theorem it_round {M : List Place} {H : Heap} {O : Nat → Prop} {W W' : World} (r : RelH M H (itB O W) W) (ho : ownAll H = true) (hs : Same O W W') (hz : W.heap.size ≤ W'.heap.size) : RelH M H (itB O W') W' :=
  r.carry (fun i o pl h1 h2 h3 => hs _ (it_own r ho h1 h2 h3))
    (fun k ob h => by
      have hk := (r.fz k ob h).1
      have hlt := (Array.getElem?_eq_some_iff.1 hk).1
      have hO : O k := (r.fz k ob h).2.2.elim (fun h => h.elim id fun h => absurd hlt (by omega)) False.elim
      exact ⟨(hs k hO).trans hk, .inl (.inl hO)⟩)
    (fun i o pl h1 h2 h3 h4 _ => .inl (it_own r ho h1 h2 h4)) (fun _ h => h) (fun _ _ h => h) (fun _ h => h) (fun k hk => ⟨.inr hk, trivial⟩) (fun _ _ h => h)
theorem it_step {M : List Place} {H : Heap} {O : Nat → Prop} {W W' : World} (r : RelH M H (itB O W) W') : RelH M H (itB (grow O W W') W') W' := by
  have tr : ∀ k, (O k ∨ W.heap.size ≤ k) → grow O W W' k ∨ W'.heap.size ≤ k := fun k h => by
    by_cases hk : W'.heap.size ≤ k
    · exact .inr hk
    · exact .inl (h.elim .inl fun h => .inr ⟨h, by omega⟩)
  exact r.carry (fun _ _ _ _ _ _ => rfl) (fun k ob h => ⟨(r.fz k ob h).1, (r.fz k ob h).2.2.elim (fun h => .inl (tr k h)) False.elim⟩) (fun i o pl h1 h2 h3 h4 h => tr _ h) (fun _ h => h) (fun _ _ h => h) (fun _ h => h) (fun k hk => ⟨.inr hk, trivial⟩) (fun _ _ h => h)
theorem yield_run {P : Program} {o : Oper} {t l : Nat} {args : Array Operand} {tys : Array TypeId} (ho : o.op = .call { callee := .value (.tmp t), args := args, argTypes := tys }) {a : Go.Act} (hv : a.eval (.tmp t) = .func (.yield l) #[] #[]) (w : World) :
    (execOp a.eval o).run P w = (Instr.yield l (args.map a.eval)).run P w := by
  have hv2 := hv
  simp [Go.Act.eval] at hv2
  unfold execOp
  rw [ho]
  simp [go_sem, resolve, hv2]
end Go.AE
set_option linter.unusedVariables false
set_option linter.unusedSimpArgs false
namespace Go.AE
open Go Go.RowKit
section
variable {P : Program} {ops : Array Oper} {Q : Exit → Go.Act → World → Prop}
theorem operW {Q' : Exit → Go.Act → World → Prop} {o : Oper} {a : Go.Act} {w : World} {K K' : Go.Act → World → Prop} (h : o.wp P a w K Q') (hK : ∀ a w, K a w → K' a w) (hp : ∀ ch a w, ¬ Q' (.panic ch) a w) (hq : ¬ LetsOut Q') : o.wpIn Fence.wide 0 P a w K' Q := by
  refine ⟨fun f _ => trivial, ?_⟩
  show o.uponIn _ 0 P a K' Q ((Oper.semAt none a.eval o).run P w)
  rw [Oper.semAt_none]
  unfold Oper.wp at h
  generalize (execOp a.eval o).run P w = r at h
  cases r with
  | ok nx w' =>
    cases nx with
    | value v => exact hK _ _ h
    | skip => exact hK _ _ h
    | defer d => exact hK _ _ h
    | enter f args =>
      refine ⟨fun hd => by simp [Fence.wide] at hd, callsIn_wide.2 (Calls.mono h fun e w'' h => ?_)⟩
      cases e with
      | returned v => exact hK _ _ h
      | panicked ch => exact absurd h (hp _ _ _)
      | outgrown => exact absurd h hq
    | row row args => exact ⟨fun hd => by simp [Fence.wide] at hd, fun c cs _ => let ⟨v, w', r, s⟩ := h c cs; ⟨v, w', hK _ _ r, stepsIn_wide.2 s⟩⟩
    | _ => exact h.elim
  | halt e w' =>
    cases e with
    | panic v => exact absurd h (hp _ _ _)
    | _ => exact h.elim
end
end Go.AE
set_option linter.unusedVariables false
set_option linter.unusedSimpArgs false
namespace Go.AE
open Go Go.RowKit
theorem RelH.carryT {M : List Place} {H : Heap} {B B' : Base} {w w' : World} (r : RelH M H B w)
    (hpl : ∀ (i : Nat) (o : AObj) (pl : Place), H[i]? = some (some o) → M[i]? = some pl → pl.nil = false → w'.heap[pl.blk]? = w.heap[pl.blk]? ∧ B'.vis pl.blk ∧ (o.own = true → ¬ B'.f pl.blk ∧ (B.w pl.blk → B'.w pl.blk)))
    (hz : ∀ k ob, FzAt M k ob → w'.heap[k]? = some ob ∧ B'.vis k ∧ (B'.w k ∨ B'.f k))
    (hp : ∀ k pl, B.pin k pl → B'.pin k pl)
    (hb : ∀ k, w'.heap.size ≤ k → B'.w k ∧ B'.vis k) (hbf : ∀ k, w'.heap.size ≤ k → ¬ B'.f k) : RelH M H B' w' := by
  refine ⟨r.len, hb, fun i o ho => ?_, r.sep, fun i o pl k h1 h2 h3 => hp _ _ (r.pin i o pl k h1 h2 h3), fun i o pl h1 h2 h3 => (hpl i o pl h1 h2 h3).2.1, hz,
    fun i o pl h1 h2 h3 h4 => ⟨((hpl i o pl h1 h2 h4).2.2 h3).1, (r.fo i o pl h1 h2 h3 h4).2⟩, hbf⟩
  obtain ⟨pl, hpl', hok⟩ := r.obj i o ho
  refine ⟨pl, hpl', ?_⟩
  rcases hok with hok | ⟨g1, cs, el, fz, g2, g3, g4, g5, g6⟩
  · exact .inl hok
  · have h := hpl i o pl ho hpl' g1
    exact .inr ⟨g1, cs, el, fz, h.1.trans g2, g3, g4, g5, fun e => ⟨(g6 e).1, (g6 e).2.1, (h.2.2 e).2 (g6 e).2.2⟩⟩
theorem RelH.lt {M : List Place} {H : Heap} {B : Base} {w : World} (r : RelH M H B w) {i : Nat} {o : AObj} {pl : Place} (ho : H[i]? = some (some o)) (hp : M[i]? = some pl) (hn : pl.nil = false) : pl.blk < w.heap.size := by
  obtain ⟨ob, h, _⟩ := r.cells ho hp hn
  exact (Array.getElem?_eq_some_iff.1 h).1
mutual
def noFzV : AV → Bool
  | .fsl _ _ _ | .dsl _ | .fref _ _ _ _ | .dref _ _ | .mapc _ => false
  | .fn _ x y => noFzL x && noFzL y
  | .agg cs => noFzL cs
  | .tup xs => noFzL xs
  | .iface _ x => noFzV x
  | _ => true
def noFzL : List AV → Bool
  | [] => true
  | x :: r => noFzV x && noFzL r
end
def LikeM (M M' : List Place) : Prop := ∀ (b : Nat) (pl : Place), M[b]? = some pl → ∃ z, M'[b]? = some { pl with fz := z }
mutual
theorem RelX.like {M M' : List Place} (h : LikeM M M') : ∀ (x : AV) (a : List Value), noFzV x = true → RelX M x a → RelX M' x a
  | .undef, a, _, r => by simpa only [RelX] using r
  | .int k lit x, a, _, r => by simpa only [RelX] using r
  | .bool lit x, a, _, r => by simpa only [RelX] using r
  | .str s, a, _, r => by simpa only [RelX] using r
  | .nilp, a, _, r => by simpa only [RelX] using r
  | .ptr b base dyn room span, a, _, r => by
    simp only [RelX] at r ⊢
    obtain ⟨pl, e, r⟩ := r
    obtain ⟨z, hz⟩ := h _ _ e
    exact ⟨_, hz, r⟩
  | .rptr b off room, a, _, r => by
    simp only [RelX] at r ⊢
    obtain ⟨pl, e, r⟩ := r
    obtain ⟨z, hz⟩ := h _ _ e
    exact ⟨_, hz, r⟩
  | .sl b off len sz c, a, _, r => by
    simp only [RelX] at r ⊢
    obtain ⟨pl, A, cap, e, r⟩ := r
    obtain ⟨z, hz⟩ := h _ _ e
    exact ⟨_, A, cap, hz, r⟩
  | .nils, a, _, r => by simpa only [RelX] using r
  | .fn f first cap, a, n, r => by
    simp only [RelX] at r ⊢
    simp only [noFzV, Bool.and_eq_true] at n
    obtain ⟨x, y, e, r1, r2⟩ := r
    exact ⟨x, y, e, RelL.like h _ _ n.1 r1, RelL.like h _ _ n.2 r2⟩
  | .nilf, a, _, r => by simpa only [RelX] using r
  | .agg cs, a, n, r => by
    simp only [RelX] at r ⊢
    simp only [noFzV] at n
    obtain ⟨x, e, r1⟩ := r
    exact ⟨x, e, RelC.like h _ _ n r1⟩
  | .is k n l, a, _, r => by simpa only [RelX] using r
  | .tup xs, a, n, r => by
    simp only [RelX] at r ⊢
    simp only [noFzV] at n
    obtain ⟨x, e, r1⟩ := r
    exact ⟨x, e, RelL.like h _ _ n r1⟩
  | .iface t x, a, n, r => by
    simp only [RelX] at r ⊢
    simp only [noFzV] at n
    obtain ⟨y, e, r1⟩ := r
    exact ⟨y, e, RelX.like h _ _ n r1⟩
  | .niface, a, _, r => by simpa only [RelX] using r
  | .fsl k sz l, a, n, r => by cases n
  | .dsl d, a, n, r => by cases n
  | .fref k l off room, a, n, r => by cases n
  | .dref d off, a, n, r => by cases n
  | .mapc i, a, n, r => by cases n
  | .mp b, a, _, r => by simpa only [RelX] using r
  | .itr b, a, _, r => by simpa only [RelX] using r
  | .yld l, a, _, r => by simpa only [RelX] using r
theorem RelL.like {M M' : List Place} (h : LikeM M M') : ∀ (xs : List AV) (a : List Value), noFzL xs = true → RelL M xs a → RelL M' xs a
  | [], a, _, r => by simpa only [RelL] using r
  | x :: xs, a, n, r => by
    simp only [RelL] at r ⊢
    simp only [noFzL, Bool.and_eq_true] at n
    obtain ⟨v, t, e, r1, r2⟩ := r
    exact ⟨v, t, e, RelX.like h _ _ n.1 r1, RelL.like h _ _ n.2 r2⟩
theorem RelC.like {M M' : List Place} (h : LikeM M M') : ∀ (xs : List AV) (a : List Value), noFzL xs = true → RelC M xs a → RelC M' xs a
  | [], a, _, r => by simpa only [RelC] using r
  | x :: xs, a, n, r => by
    simp only [RelC] at r ⊢
    simp only [noFzL, Bool.and_eq_true] at n
    obtain ⟨v, t, e, r1, r2⟩ := r
    exact ⟨v, t, e, RelX.like h _ _ n.1 r1, RelC.like h _ _ n.2 r2⟩
end
def noFzC : Cont → Bool
  | .segs cs => noFzL cs
  | .row _ _ => true
  | .drow _ => false
def itSt (st : St) : Bool := noFzL st.tmps && st.heap.all fun x => match x with
  | some o => o.own && noFzC o.c
  | none => true
theorem itSt_at {st : St} (h : itSt st = true) {i : Nat} {o : AObj} (ho : st.heap[i]? = some (some o)) : o.own = true ∧ noFzC o.c = true := by
  simp only [itSt, Bool.and_eq_true] at h
  have := List.all_eq_true.1 h.2 (some o) (List.mem_of_getElem? ho)
  simpa using this
def dropFz (M : List Place) : List Place := M.map fun p => { p with fz := noFz }
theorem dropFz_at {M : List Place} {b : Nat} {pl : Place} (h : (dropFz M)[b]? = some pl) : ∃ p, M[b]? = some p ∧ pl = { p with fz := noFz } := by
  simp only [dropFz, List.getElem?_map, Option.map_eq_some_iff] at h
  obtain ⟨p, h1, h2⟩ := h
  exact ⟨p, h1, h2.symm⟩
theorem dropFz_like (M : List Place) : LikeM M (dropFz M) := fun b pl h => ⟨noFz, by simp [dropFz, h]⟩
theorem dropFz_no {M : List Place} {k : Nat} {ob : Obj} : ¬ FzAt (dropFz M) k ob := fun ⟨i, pl, h, e⟩ => by
  obtain ⟨p, _, rfl⟩ := dropFz_at h
  cases e
theorem it_base {M : List Place} {st : St} {B : Base} {w : World} {O : Nat → Prop} (r : RelH M st.heap B w) (hs : itSt st = true)
    (hO : ∀ (i : Nat) (o : AObj) (pl : Place), st.heap[i]? = some (some o) → M[i]? = some pl → pl.nil = false → O pl.blk) : RelH (dropFz M) st.heap (itB O w) w := by
  refine ⟨by rw [r.len]; simp [dropFz], fun k hk => ⟨.inr hk, trivial⟩, fun i o ho => ?_, fun i j oi oj pi pj h1 h2 h3 h4 h5 h6 h7 h8 => ?_, fun _ _ _ _ _ _ _ => trivial, fun _ _ _ _ _ _ => trivial, fun k ob h => absurd h dropFz_no, fun _ _ _ _ _ _ _ => ⟨id, fun ob h => dropFz_no h⟩, fun _ _ h => h⟩
  · obtain ⟨pl, hpl, hok⟩ := r.obj i o ho
    refine ⟨{ pl with fz := noFz }, by simp [dropFz, hpl], ?_⟩
    have hc := (itSt_at hs ho).2
    have rel : ∀ l, RelO M o.c l → RelO (dropFz M) o.c l := fun l h => by
      cases hcc : o.c with
      | segs cs =>
        rw [hcc] at h hc
        exact RelC.like (dropFz_like M) _ _ hc h
      | row k l' =>
        rw [hcc] at h
        exact h
      | drow d =>
        rw [hcc] at hc
        cases hc
    rcases hok with ⟨g1, g2, g3⟩ | ⟨g1, cs, el, fz, g2, g3, g4, g5, g6⟩
    · exact .inl ⟨g1, g2, rel _ g3⟩
    · exact .inr ⟨g1, cs, el, fz, g2, g3, g4, rel _ g5, fun e => ⟨(g6 e).1, (g6 e).2.1, .inl (hO i o pl ho hpl g1)⟩⟩
  · obtain ⟨p, hp, rfl⟩ := dropFz_at h3
    obtain ⟨q, hq, rfl⟩ := dropFz_at h4
    exact r.sep i j oi oj p q h1 h2 hp hq h5 h6 h7 h8
def ItSpec {α : Type} (P : Program) (gf : FuncId) (encs : α → Array Value) (ok : α → Prop) (n : Nat) (ins : List Item) (F : D (tysI ins []) → Option (List α)) : Prop :=
  ∀ d xs, F d = some xs → ∀ (M : List Place) (w : World) (O0 : Nat → Prop) (lb : Array Value), RelL M (bldS n ins d).tmps lb.toList → RelH M (bldS n ins d).heap (itB O0 w) w → (∀ k, O0 k → k < w.heap.size) → ItAt P gf lb encs ok xs O0 w
def RB (B : Base) (n0 : Nat) (O : Nat → Prop) : Base := ⟨fun k => B.w k ∧ ¬ O k ∧ ¬ (n0 ≤ k ∧ k < n0 + 2), fun k => B.vis k ∧ ¬ O k, B.pin, B.f, []⟩
section
variable {α DI DX : Type}
def runL (step : α → DI → Option (DI ⊕ DX)) : List α → DI → Option (DI ⊕ DX)
  | [], d => some (.inl d)
  | x :: r, d => match step x d with
    | some (.inl d') => runL step r d'
    | some (.inr e) => some (.inr e)
    | none => none
end
def setPs (ts : List AV) : List Nat → List AV → List AV
  | p :: ps, x :: xs => setPs (ts.set p x) ps xs
  | _, _ => ts
theorem setPs_rel {M : List Place} : ∀ {ps : List Nat} {xs : List AV} {vs : List Value} {ts : List AV} {a : Array Value}, RelL M xs vs → RelT M ts a → RelT M (setPs ts ps xs) ((ps.zip vs).foldl (fun t (p, v) => t.setIfInBounds p v) a)
  | [], xs, vs, ts, a, _, h => by cases xs <;> exact h
  | p :: ps, [], vs, ts, a, hx, h => by
    rw [RelL_nil] at hx
    subst hx
    exact h
  | p :: ps, x :: xs, vs, ts, a, hx, h => by
    obtain ⟨v, r, rfl, h1, h2⟩ := RelL_cons.1 hx
    simp only [List.zip_cons_cons, List.foldl_cons, setPs]
    exact setPs_rel h2 (h.put h1 p)
def kR (nt : Nat) (its outX : List Item) (eX : Exit) (ts : List AV) : Exit → St → Option (D (tysI its []) ⊕ D (tysI outX [])) := fun e st => match e with
  | .normal => (extS nt its ⟨ts, st.heap⟩).bind fun d => some (.inl d)
  | .exit j => (match eX with
    | .exit i => if j = i then (extS nt outX ⟨ts, st.heap⟩).bind fun d => some (.inr d) else none
    | _ => none)
  | .ret => (match eX with
    | .ret => (extS nt outX ⟨ts, st.heap⟩).bind fun d => some (.inr d)
    | _ => none)
  | _ => none
def evRound (P : Program) (cal : Cals) (qcal : QCals) (nt : Nat) (its outX : List Item) (eX : Exit) (ps : List Nat) (assign body : Code) (xs : List AV) (d : D (tysI its [])) : Option (D (tysI its []) ⊕ D (tysI outX [])) :=
  evCode P (cal _) (qcal _) (fun _ => none) assign ⟨setPs (bldS nt its d).tmps ps xs, (bldS nt its d).heap⟩ fun e st => match e with
    | .normal => evCode P (cal _) (qcal _) (fun _ => none) body st (kR nt its outX eX (bldS nt its d).tmps)
    | _ => none
def exitC : Exit → Code
  | .exit i => .exit i
  | .ret => .ret
  | _ => .skip
theorem RB_round {M : List Place} {H : Heap} {B : Base} {n0 : Nat} {O : Nat → Prop} {W W' : World} (r : RelH M H (RB B n0 O) W) (hO : ∀ k, O k → k < W.heap.size) (hn : n0 + 2 ≤ W.heap.size) (hB : Beneath (OB O) W W') : RelH M H (RB B n0 (grow O W W')) W' := by
  have hz := hB.size
  refine r.carryT (fun i o pl h1 h2 h3 => ?_) (fun k ob h => ?_) (fun _ _ h => h) (fun k hk => ?_) (fun k hk => r.bf k (by omega))
  · have hlt := r.lt h1 h2 h3
    have hv := r.vis i o pl h1 h2 h3
    refine ⟨hB.block _ hlt hv.2, ⟨hv.1, fun h => h.elim hv.2 fun h => by omega⟩, fun ho => ⟨(r.fo i o pl h1 h2 ho h3).1, fun h => ⟨h.1, fun g => g.elim hv.2 fun h => by omega, h.2.2⟩⟩⟩
  · obtain ⟨h1, h2, h3⟩ := r.fz k ob h
    have hlt := (Array.getElem?_eq_some_iff.1 h1).1
    exact ⟨(hB.block _ hlt h2.2).trans h1, ⟨h2.1, fun h => h.elim h2.2 fun h => by omega⟩, h3.imp (fun h => ⟨h.1, fun g => g.elim h2.2 fun h => by omega, h.2.2⟩) id⟩
  · have hb := r.base k (by omega)
    have hno : ¬ grow O W W' k := fun h => h.elim (fun h => by have := hO k h; omega) fun h => by omega
    exact ⟨⟨hb.1.1, hno, by omega⟩, hb.2.1, hno⟩
theorem RB_back {M : List Place} {H : Heap} {B : Base} {n0 : Nat} {O : Nat → Prop} {W : World} (r : RelH M H (RB B n0 O) W) : RelH M H B W :=
  r.rebase (fun _ h => h.1) (fun _ h => h.1) (fun _ _ h => h) (fun _ _ _ h => h.imp (fun h => h.1) id) (fun _ h => h)
theorem RB_put {M : List Place} {H : Heap} {B : Base} {n0 : Nat} {O : Nat → Prop} {W : World} (r : RelH M H (RB B n0 O) W) (hf : ∀ k, n0 ≤ k → ¬ B.f k) {l : Nat} {o o' : Obj} (h1 : n0 ≤ l) (h2 : l < n0 + 2) (hl : W.heap[l]? = some o) (hc : o.isCells = false) : RelH M H (RB B n0 O) (W.putObj l o') :=
  r.putOther hl hc (fun ob h => (r.fz l ob h).2.2.elim (fun h => h.2.2 ⟨h1, h2⟩) (hf l h1)) o'
theorem Beneath.put {B : Base} {w0 W : World} (h : Beneath B w0 W) {l : Nat} (hl : w0.heap.size ≤ l) (o : Obj) : Beneath B w0 (W.putObj l o) :=
  ⟨h.os, h.tape, h.output, by rw [World.putObj_size]; exact h.size, fun k hk hn => (World.putObj_heap_other (by omega)).trans (h.block k hk hn)⟩
theorem Beneath.rb {B : Base} {n0 : Nat} {O : Nat → Prop} {W W' : World} (h : Beneath (RB B n0 O) W W') : Beneath B W W' := ⟨h.os, h.tape, h.output, h.size, fun k hk hn => h.block k hk fun h => hn h.1⟩
theorem Beneath.ob {B : Base} {O : Nat → Prop} {W W' : World} (h : Beneath (OB O) W W') (hO : ∀ k, O k → B.w k) : Beneath B W W' := ⟨h.os, h.tape, h.output, h.size, fun k hk hn => h.block k hk fun h => hn (hO k h)⟩
theorem Beneath.kept {B : Base} {n0 : Nat} {O : Nat → Prop} {W W' : World} (h : Beneath (RB B n0 O) W W') (hn : n0 + 2 ≤ W.heap.size) : Kept n0 W W' := ⟨h.size, fun k h1 h2 => h.block k (by omega) fun h => h.2.2 ⟨h1, h2⟩⟩
theorem Beneath.sameO {B : Base} {n0 : Nat} {O : Nat → Prop} {W W' : World} (h : Beneath (RB B n0 O) W W') (hO : ∀ k, O k → k < W.heap.size) : Same O W W' := fun k hk => h.block k (hO k hk) fun h => h.2.1 hk
structure Between (B : Base) (w0 : World) (n0 : Nat) (O : Nat → Prop) (W : World) : Prop where
  n : n0 + 2 ≤ W.heap.size
  o : ∀ k, O k → k < W.heap.size ∧ B.w k
  below : Beneath B w0 W
theorem Between.step {B : Base} {w0 : World} {n0 : Nat} {O : Nat → Prop} {W W' : World} (h : Between B w0 n0 O W) (hb : ∀ k, W.heap.size ≤ k → B.w k) (hB : Beneath (OB O) W W') : Between B w0 n0 (grow O W W') W' :=
  ⟨Nat.le_trans h.n hB.size, fun k hk => hk.elim (fun g => ⟨Nat.lt_of_lt_of_le (h.o k g).1 hB.size, (h.o k g).2⟩) fun g => ⟨g.2, hb k g.1⟩, h.below.trans (hB.ob fun k hk => (h.o k hk).2)⟩
theorem Between.put {B : Base} {w0 : World} {n0 : Nat} {O : Nat → Prop} {W : World} (h : Between B w0 n0 O W) (hn : w0.heap.size ≤ n0) {l : Nat} (hl : n0 ≤ l) (o : Obj) : Between B w0 n0 O (W.putObj l o) :=
  ⟨by rw [World.putObj_size]; exact h.n, fun k hk => by rw [World.putObj_size]; exact h.o k hk, h.below.put (by omega) o⟩
theorem Between.round {B : Base} {w0 : World} {n0 : Nat} {O : Nat → Prop} {W W' : World} (h : Between B w0 n0 O W) (hB : Beneath (RB B n0 O) W W') : Between B w0 n0 O W' :=
  ⟨Nat.le_trans h.n hB.size, fun k hk => ⟨Nat.lt_of_lt_of_le (h.o k hk).1 hB.size, (h.o k hk).2⟩, h.below.trans hB.rb⟩
theorem range_sound {P : Program} (hP : Callable P) {cal : Cals} (hcal : ∀ σ f, CalAt P f (cal σ f)) {qcal : QCals} (hq : ∀ σ f, QCalAt P f (qcal σ f)) {α : Type} {g : Operand} {ps : Array Tmp} {assign body : Code} {Q : Exit → Go.Act → World → Prop} {a : Go.Act} {w : World}
    {gf : Nat} {lb : Array Value} (hg : a.eval g = .func (.func gf) #[] lb) (eg : ∀ args w, (callFunc gf args).run P w = .ok (.enter gf args) w)
    {encs : α → Array Value} {enc : α → List AV} {ok : α → Prop} {xs : List α} {O0 : Nat → Prop} (hit : ItAt P gf lb encs ok xs O0 w) (hps : ∀ x, (encs x).size = ps.size) (henc : ∀ x, ok x → ∀ M, RelL M (enc x) (encs x).toList)
    (hca : calm assign = true) (hcb : calm body = true) {nt : Nat} {its outX : List Item} {eX : Exit} {step : α → D (tysI its []) → Option (D (tysI its []) ⊕ D (tysI outX []))}
    (hs : ∀ x d, evRound P cal qcal nt its outX eX ps.toList assign body (enc x) d = step x d) {B : Base} {w0 : World} (hw0 : w0.heap.size ≤ w.heap.size) (hbf : ∀ k, w.heap.size ≤ k → ¬ B.f k)
    {d : D (tysI its [])} {r : D (tysI its []) ⊕ D (tysI outX [])} (hr : runL step xs d = some r)
    (hO : ∀ k, O0 k → k < w.heap.size ∧ B.w k) {M : List Place} (hT : RelT M (bldS nt its d).tmps a.tmps)
    (hH : ∀ W, Below w.heap.size w W → w.heap.size + 2 ≤ W.heap.size → RelH M (bldS nt its d).heap (RB B w.heap.size O0) W) (hB : Beneath B w0 w)
    (hdone : ∀ d' M' W, r = .inl d' → RelT M' (bldS nt its d').tmps a.tmps → RelH M' (bldS nt its d').heap B W → Beneath B w0 W → W.heap[w.heap.size]? = some (.deferred (some [])) → (∀ ob, ¬ FzAt M' w.heap.size ob) → Q .normal { a with defers := mark w.heap.size :: a.defers } W)
    (hstop : ∀ d' M' W, r = .inr d' → RelT M' (bldS nt outX d').tmps a.tmps → RelH M' (bldS nt outX d').heap B W → Beneath B w0 W → W.heap[w.heap.size]? = some (.deferred (some [])) → (∀ ob, ¬ FzAt M' w.heap.size ob) → (exitC eX).wpIn Fence.wide 0 P Q { a with defers := mark w.heap.size :: a.defers } W) :
    (Code.rangeFunc g ps assign body).wpIn Fence.wide 0 P Q a w := by
  have noFzD : ∀ {M' : List Place} {H : Heap} {O : Nat → Prop} {W : World}, RelH M' H (RB B w.heap.size O) W → ∀ ob, ¬ FzAt M' w.heap.size ob := fun r ob h => (r.fz _ ob h).2.2.elim (fun h => h.2.2 ⟨by omega, by omega⟩) (hbf _ (Nat.le_refl _))
  refine wpIn_range hg eg hit (fun k hk => (hO k hk).1) hps
    (fun pre O W => Between B w0 w.heap.size O W ∧ ∃ d' M' rest, xs = pre ++ rest ∧ runL step rest d' = some r ∧ RelT M' (bldS nt its d').tmps a.tmps ∧ RelH M' (bldS nt its d').heap (RB B w.heap.size O) W)
    (fun c pre O W => c = exitC eX ∧ Between B w0 w.heap.size O W ∧ ∃ d' M', r = .inr d' ∧ RelT M' (bldS nt outX d').tmps a.tmps ∧ RelH M' (bldS nt outX d').heap (RB B w.heap.size O) W)
    ?_ ?_ ?_ ?_ ?_
    (fun pre x O a' W => Between B w0 w.heap.size O W ∧ ∃ d' M' st' rest y, xs = pre ++ x :: rest ∧ evCode P (cal _) (qcal _) (fun _ => none) body st' (kR nt its outX eX (bldS nt its d').tmps) = some y ∧ (∀ d2, y = .inl d2 → runL step rest d2 = some r) ∧ (∀ d2, y = .inr d2 → r = .inr d2) ∧
      RelT M' (bldS nt its d').tmps a.tmps ∧ RelT M' st'.tmps a'.tmps ∧ a'.defers = [] ∧ RelH M' st'.heap (RB B w.heap.size O) W)
    ?_ ?_ ?_ ?_ ?_
  · rintro pre O W W' ⟨hb, d', M', rest, h1, h2, h3, h4⟩ hB
    exact ⟨hb.step (fun k hk => (h4.base k hk).1.1) hB, d', M', rest, h1, h2, h3, RB_round h4 (fun k hk => (hb.o k hk).1) hb.n hB⟩
  · rintro c pre O W W' ⟨hc, hb, d', M', h1, h3, h4⟩ hB
    exact ⟨hc, hb.step (fun k hk => (h4.base k hk).1.1) hB, d', M', h1, h3, RB_round h4 (fun k hk => (hb.o k hk).1) hb.n hB⟩
  · rintro pre O W l o o' ⟨hb, d', M', rest, h1, h2, h3, h4⟩ g1 g2 g3 g4
    exact ⟨hb.put hw0 g1 o', d', M', rest, h1, h2, h3, RB_put h4 hbf g1 g2 g3 g4⟩
  · rintro c pre O W l o o' ⟨hc, hb, d', M', h1, h3, h4⟩ g1 g2 g3 g4
    exact ⟨hc, hb.put hw0 g1 o', d', M', h1, h3, RB_put h4 hbf g1 g2 g3 g4⟩
  · intro W hW hn
    exact ⟨⟨hn, fun k hk => ⟨Nat.lt_of_lt_of_le (hO k hk).1 hW.size, (hO k hk).2⟩, hB.trans (Beneath.of hW)⟩, d, M, xs, rfl, hr, hT, hH W hW hn⟩
  · rintro pre x O a' W l o o' ⟨hb, d', M', st', rest, y, h1, h2, h3, h4, h5, h6, h7, h8⟩ g1 g2 g3 g4
    exact ⟨hb.put hw0 g1 o', d', M', st', rest, y, h1, h2, h3, h4, h5, h6, h7, RB_put h8 hbf g1 g2 g3 g4⟩
  · rintro l pre x rest O W hx hok ⟨hb, d', M', rest', h1, h2, h3, h4⟩
    have hrest : rest' = x :: rest := by
      rw [hx] at h1
      exact (List.append_cancel_left h1).symm
    subst hrest
    unfold runL at h2
    have hy : ∃ y, step x d' = some y ∧ (∀ d2, y = .inl d2 → runL step rest d2 = some r) ∧ (∀ d2, y = .inr d2 → r = .inr d2) := by
      cases hst : step x d' with
      | none => rw [hst] at h2; cases h2
      | some y =>
        rw [hst] at h2
        cases y with
        | inl d2 => exact ⟨_, rfl, fun d3 e => (by cases e; exact h2), fun d3 e => (by cases e)⟩
        | inr d2 => exact ⟨_, rfl, fun d3 e => (by cases e), fun d3 e => (by cases e; simpa using h2.symm)⟩
    obtain ⟨y, hy, hy1, hy2⟩ := hy
    rw [← hs] at hy
    have ht1 : RelT M' (setPs (bldS nt its d').tmps ps.toList (enc x)) ((ps.zip (encs x)).foldl (fun t (p, v) => t.setIfInBounds p v) a.tmps) := by
      have h := setPs_rel (ps := ps.toList) (henc x hok M') h3
      rw [← Array.toList_zip, Array.foldl_toList] at h
      exact h
    refine evCode_soundR hP (hcal _) (hq _) assign hca _ _ hy M' _ W _ ⟨ht1, rfl, h4, Beneath.refl _ _⟩ fun e M2 st2 a2 W2 hE hk hr2 => ?_
    cases e <;> simp only [reduceCtorEq] at hk
    exact ⟨hr2.below.kept hb.n, hr2.below.sameO (fun k hk => (hb.o k hk).1), hb.round hr2.below, d', M2, st2, rest, y, hx, hk, hy1, hy2, h3.mono hE, hr2.tmps, hr2.defers, hr2.heap⟩
  · rintro l pre x rest O a' W hx ⟨hb, d', M', st', rest', y, h1, h2, h3, h4, h5, h6, h7, h8⟩
    have hrest : rest' = rest := by
      rw [hx] at h1
      exact (List.cons.inj (List.append_cancel_left h1)).2.symm
    subst hrest
    refine evCode_soundR hP (hcal _) (hq _) body hcb _ _ h2 M' _ W _ ⟨h6, h7, h8, Beneath.refl _ _⟩ fun e M2 st2 a2 W2 hE hk hr2 => ?_
    have hb2 := hb.round hr2.below
    have k2 := hr2.below.kept hb.n
    have s2 := hr2.below.sameO (fun k hk => (hb.o k hk).1)
    have rel2 : Rel M2 ⟨(bldS nt its d').tmps, st2.heap⟩ (RB B w.heap.size O) W { tmps := a.tmps, defers := [] } W2 := ⟨h5.mono hE, rfl, hr2.heap, hr2.below⟩
    have stop : ∀ {c : Code}, c = exitC eX → (extS nt outX ⟨(bldS nt its d').tmps, st2.heap⟩).bind (fun d => (some (.inr d) : Option (D (tysI its []) ⊕ D (tysI outX [])))) = some y → Kept w.heap.size W W2 ∧ Same O W W2 ∧ (c = exitC eX ∧ Between B w0 w.heap.size O W2 ∧ ∃ d' M', r = .inr d' ∧ RelT M' (bldS nt outX d').tmps a.tmps ∧ RelH M' (bldS nt outX d').heap (RB B w.heap.size O) W2) := by
      intro c hc hk
      simp only [Option.bind_eq_some_iff, Option.some.injEq] at hk
      obtain ⟨d2, hd2, rfl⟩ := hk
      obtain ⟨M3, hr3⟩ := extS_rel rel2 hd2
      exact ⟨k2, s2, hc, hb2, d2, M3, h4 _ rfl, hr3.tmps, hr3.heap⟩
    cases e with
    | normal =>
      simp only [kR, Option.bind_eq_some_iff, Option.some.injEq] at hk
      obtain ⟨d2, hd2, rfl⟩ := hk
      obtain ⟨M3, hr3⟩ := extS_rel rel2 hd2
      exact ⟨k2, s2, hb2, d2, M3, rest', by rw [hx]; simp, h3 _ rfl, hr3.tmps, hr3.heap⟩
    | exit j =>
      simp only [kR] at hk
      split at hk
      · split at hk
        · rename_i i hj
          subst hj
          exact stop rfl hk
        · cases hk
      · cases hk
    | ret =>
      simp only [kR] at hk
      split at hk
      · exact stop rfl hk
      · cases hk
    | goto t => simp only [kR] at hk; cases hk
    | panic ch => simp only [kR] at hk; cases hk
    | outgrown => simp only [kR] at hk; cases hk
  · rintro O W ⟨hb, d', M', rest, h1, h2, h3, h4⟩ hD
    have hrest : rest = [] := by
      have := congrArg List.length h1
      simp at this
      exact this
    subst hrest
    simp only [runL, Option.some.injEq] at h2
    exact hdone d' M' W h2.symm h3 (RB_back h4) hb.below hD (noFzD h4)
  · rintro c pre O W _ ⟨rfl, hb, d', M', h1, h3, h4⟩ hD
    exact hstop d' M' W h1 h3 (RB_back h4) hb.below hD (noFzD h4)
end Go.AE
set_option linter.unusedVariables false
set_option linter.unusedSimpArgs false
namespace Go.AE
open Go Go.RowKit
def unseq : Code → List Code
  | .seq x y => unseq x ++ unseq y
  | c => [c]
section
variable {P : Program} {Q : Exit → Go.Act → World → Prop}
def WL (P : Program) (Q : Exit → Go.Act → World → Prop) : List Code → Go.Act → World → Prop
  | [], a, w => Q .normal a w
  | c :: r, a, w => c.wpIn Fence.wide 0 P (Exit.then (WL P Q r) Q) a w
theorem wl_one {c : Code} {r : List Code} {a : Go.Act} {w : World} : ∀ (h : unseq c = [c]) (_ : WL P Q (unseq c ++ r) a w), c.wpIn Fence.wide 0 P (Exit.then (WL P Q r) Q) a w := fun h k => by
  rw [h] at k
  exact k
theorem wl_seq : ∀ (c : Code) (r : List Code) (a : Go.Act) (w : World), WL P Q (unseq c ++ r) a w → c.wpIn Fence.wide 0 P (Exit.then (WL P Q r) Q) a w
  | .seq x y, r, a, w, h => by
    unfold unseq at h
    rw [List.append_assoc] at h
    refine wpIn_seq (wpIn_mono (wl_seq x _ a w h) fun e a' w' h => ?_)
    cases e with
    | normal => exact wl_seq y r a' w' h
    | _ => exact h
  | .skip, r, a, w, h => wl_one (by simp [unseq]) h
  | .region _ _ _, r, a, w, h => wl_one (by simp [unseq]) h
  | .cond _ _ _, r, a, w, h => wl_one (by simp [unseq]) h
  | .block _ _, r, a, w, h => wl_one (by simp [unseq]) h
  | .loop _, r, a, w, h => wl_one (by simp [unseq]) h
  | .exit _, r, a, w, h => wl_one (by simp [unseq]) h
  | .ret, r, a, w, h => wl_one (by simp [unseq]) h
  | .label _, r, a, w, h => wl_one (by simp [unseq]) h
  | .goto _, r, a, w, h => wl_one (by simp [unseq]) h
  | .scope _, r, a, w, h => wl_one (by simp [unseq]) h
  | .rangeFunc _ _ _ _, r, a, w, h => wl_one (by simp [unseq]) h
  | .refuse _, r, a, w, h => wl_one (by simp [unseq]) h
theorem wl_code {c : Code} {a : Go.Act} {w : World} (h : WL P Q (unseq c) a w) : c.wpIn Fence.wide 0 P Q a w := by
  refine wpIn_mono (wl_seq c [] a w (by simpa using h)) fun e a' w' h => ?_
  cases e <;> exact h
end
variable {ρ : Type}
def evL (P : Program) (cal : Cal ρ) (qcal : QCal ρ) : List Code → St → (Exit → St → Option ρ) → Option ρ
  | [], st, K => K .normal st
  | c :: r, st, K => evCode P cal qcal (fun _ => none) c st fun e st' => match e with
    | .normal => evL P cal qcal r st' K
    | e => K e st'
theorem evL_sound {P : Program} (hP : Callable P) {cal : Cal ρ} (hcal : ∀ f, CalAt P f (cal f)) {qcal : QCal ρ} (hq : ∀ f, QCalAt P f (qcal f)) {B : Base} {w0 : World} {r : ρ} {Q : Exit → Go.Act → World → Prop} {more : List Code} :
    ∀ (l : List Code) (st : St) (K : Exit → St → Option ρ), evL P cal qcal l st K = some r → ∀ (M : List Place) (a : Go.Act) (w : World), Rel M st B w0 a w →
      (∀ e M' st' a' w', K e st' = some r → Rel M' st' B w0 a' w' → Exit.then (WL P Q more) Q e a' w') → WL P Q (l ++ more) a w
  | [], st, K, h, M, a, w, hr, hn => hn .normal M st a w h hr
  | c :: l, st, K, h, M, a, w, hr, hn => by
    show c.wpIn Fence.wide 0 P (Exit.then (WL P Q (l ++ more)) Q) a w
    refine wpIn_wide.2 (evCode_sound hP hcal hq c (fun _ _ _ h => by cases h) st _ h M a w _ hr fun e M' st' a' w' (_ : ExtO true M M') hk hr' => ?_)
    cases e with
    | normal => exact evL_sound hP hcal hq l st' K hk M' a' w' hr' hn
    | exit id => exact hn (.exit id) M' st' a' w' hk hr'
    | goto l => exact hn (.goto l) M' st' a' w' hk hr'
    | ret => exact hn .ret M' st' a' w' hk hr'
    | panic ch => exact hn (.panic ch) M' st' a' w' hk hr'
    | outgrown => exact hn .outgrown M' st' a' w' hk hr'
def kEnd (P : Program) (fn : Func) (K : List AV → Heap → Option ρ) : Exit → St → Option ρ := fun e st => match e with
  | .normal | .ret => match aresL P st fn.results.toList with
    | some l => K l st.heap
    | none => none
  | _ => none
def EndR (B : Base) (w0 : World) (K : List AV → Heap → Option ρ) (r : ρ) : Ending → World → Prop := fun e w' =>
  ∃ (rs : Array Value) (l : List AV) (H' : Heap) (M' : List Place), e = .returned (retV rs) ∧ K l H' = some r ∧ RelL M' l rs.toList ∧ RelH M' H' B w' ∧ Beneath B w0 w'
theorem kEnd_end {P : Program} {fn : Func} {K : List AV → Heap → Option ρ} {r : ρ} {e : Exit} {st : St} (h : kEnd P fn K e st = some r) {M : List Place} {B : Base} {w0 : World} {a : Go.Act} {w : World} (hr : Rel M st B.clean w0 a w) :
    bodyPostM Fence.wide 0 P fn (EndR B w0 K r) e a w := by
  have fin : (match aresL P st fn.results.toList with | some l => K l st.heap | none => none) = some r → LeavesInM Fence.wide 0 P fn a.tmps (EndR B w0 K r) a.defers .returning w := by
    intro h
    split at h
    · rename_i l hl
      obtain ⟨rs, h1, h2⟩ := results_run (fn := fn) hr.tmps hr.heap hl
      have hd : a.defers = [] := hr.defers
      rw [hd]
      exact ⟨retV rs, h2, rs, l, st.heap, M, rfl, h, h1, hr.heap.unclean, hr.below.unclean⟩
    · cases h
  cases e <;> simp only [kEnd, reduceCtorEq] at h
  case normal => exact fin h
  case ret => exact fin h
theorem kEnd_marked {P : Program} {fn : Func} {K : List AV → Heap → Option ρ} {r : ρ} {e : Exit} {st : St} (h : kEnd P fn K e st = some r) {M : List Place} {B : Base} {w0 w1 : World} {a : Go.Act} {w : World} {D : Nat} (hr : Rel M st (B.marked D) w1 a w)
    (hD : w1.heap[D]? = some (.deferred (some []))) (hBf : ¬ B.f D) (hD0 : w0.heap.size ≤ D) (hB : Beneath B w0 w1) : bodyPostM Fence.wide 0 P fn (EndR B w0 K r) e a w := by
  have fin : (match aresL P st fn.results.toList with | some l => K l st.heap | none => none) = some r → LeavesInM Fence.wide 0 P fn a.tmps (EndR B w0 K r) a.defers .returning w := by
    intro h
    split at h
    · rename_i l hl
      have hD' := hr.below.mark_kept hD
      have hz' : ∀ ob, ¬ FzAt M D ob := fun ob h => (hr.heap.fz D ob h).2.2.elim (fun h => h.2 rfl) hBf
      have hH2 : RelH M st.heap B (w.putObj D (.deferred none)) := hr.heap.unmarked.putOther hD' rfl hz' _
      obtain ⟨rs, h1, h2⟩ := results_run hr.tmps hH2 hl
      have hB2 : Beneath B w0 (w.putObj D (.deferred none)) := (hB.trans hr.below.unmarked).put hD0 _
      have hde : a.defers = [mark D] := hr.defers
      rw [hde]
      exact leaves_mark hD' h2 ⟨rs, l, _, M, rfl, h, h1, hH2, hB2⟩
    · cases h
  cases e <;> simp only [kEnd, reduceCtorEq] at h
  case normal => exact fin h
  case ret => exact fin h
def killL (H : Heap) (bs : List Nat) : Heap := bs.foldl (fun H b => H.set b none) H
theorem killL_at : ∀ {bs : List Nat} {H : Heap} {i : Nat} {o : AObj}, (killL H bs)[i]? = some (some o) → i ∉ bs ∧ H[i]? = some (some o)
  | [], H, i, o, h => ⟨by simp, h⟩
  | b :: bs, H, i, o, h => by
    obtain ⟨h1, h2⟩ := killL_at (bs := bs) (H := H.set b none) h
    rcases set_case h2 with ⟨_, h3⟩ | ⟨h3, h4⟩
    · cases h3
    · exact ⟨by simp [h1, Ne.symm h3], h4⟩
theorem RelH.killL {M : List Place} {B : Base} {w : World} : ∀ {bs : List Nat} {H : Heap}, RelH M H B w → RelH M (AE.killL H bs) B w
  | [], H, r => r
  | b :: bs, H, r => RelH.killL (bs := bs) (r.kill b)
def itBs (args : List AV) (H : Heap) (ins : List Item) : List Nat := (drop0 :: actsI ⟨args, H⟩ false ins).filterMap fun ac => if ac.own = true then ac.id else none
def evRng {α : Type} (gf g ni : Nat) (insI : List Item) (FI : D (tysI insI []) → Option (List α)) (nt : Nat) (its outX : List Item) (step : α → D (tysI its []) → Option (D (tysI its []) ⊕ D (tysI outX [])))
    (st : St) (Kn : D (tysI its []) → Option ρ) (Kx : D (tysI outX []) → Option ρ) : Option ρ :=
  match st.tmps.getD g .undef with
  | .fn gf' [] caps => if gf' = gf then
      match extA ni insI caps st.heap with
      | some di => (FI di).bind fun xs => (extS nt its ⟨st.tmps, killL st.heap (itBs caps st.heap insI)⟩).bind fun d => (runL step xs d).bind fun r => match r with
        | .inl d => Kn d
        | .inr d => Kx d
      | none => none
    else none
  | _ => none
def evBodyR {α : Type} (P : Program) (cal : Cals) (qcal : QCals) (fn : Func) (l1 l2 : List Code) (out gf g ni : Nat) (insI : List Item) (FI : D (tysI insI []) → Option (List α)) (nt : Nat) (its outX : List Item) (eX : Exit)
    (step : α → D (tysI its []) → Option (D (tysI its []) ⊕ D (tysI outX []))) (args : List AV) (H : Heap) (K : List AV → Heap → Option ρ) : Option ρ :=
  evL P (cal _) (qcal _) l1 ⟨args ++ List.replicate (fn.ntmps - args.length) .undef, H⟩ fun e st => match e with
    | .normal => evRng gf g ni insI FI nt its outX step st
        (fun d => evL P (cal _) (qcal _) l2 (bldS nt its d) (kEnd P fn K))
        (fun d => match eX with
          | .ret => kEnd P fn K .ret (bldS nt outX d)
          | .exit j => if j = out then evL P (cal _) (qcal _) l2 (bldS nt outX d) (kEnd P fn K) else none
          | _ => none)
    | e => kEnd P fn K e st
theorem callFunc_run {P : Program} (hP : Callable P) {gf : Nat} {gfn : Func} (hf : P.funcs[gf]? = some gfn) (hb : gfn.body.isSome = true) (args : Array Value) (w : World) : (callFunc gf args).run P w = .ok (.enter gf args) w := by
  have hn := hP gf gfn hf hb
  cases hq : gfn.body with
  | none => simp [hq] at hb
  | some cd => simp [callFunc, hf, hn, hq]
theorem fnSpec_range {P : Program} (hP : Callable P) {cal : Cals} (hcal : ∀ σ f, CalAt P f (cal σ f)) {qcal : QCals} (hq : ∀ σ f, QCalAt P f (qcal σ f)) {α : Type} {f n : Nat} {ins : List Item} {os : List Out} {F : D (tysI ins []) → Option (D (tysO os))} {fn gfn : Func} {c : Code}
    (hf : P.funcs[f]? = some fn) (hb : fn.body = some c) {l1 l2 : List Code} {out gf g ni : Nat} {ps : Array Tmp} {assign body : Code} (hc : unseq c = l1 ++ .block out (.rangeFunc (.tmp g) ps assign body) :: l2)
    (hgf : P.funcs[gf]? = some gfn) (hgb : gfn.body.isSome = true) {encs : α → Array Value} {enc : α → List AV} {ok : α → Prop} (hps : ∀ x, (encs x).size = ps.size) (henc : ∀ x, ok x → ∀ M, RelL M (enc x) (encs x).toList) {insI : List Item} {FI : D (tysI insI []) → Option (List α)} (hit : ItSpec P gf encs ok ni insI FI)
    (hca : calm assign = true) (hcb : calm body = true) {nt : Nat} {its outX : List Item} {eX : Exit} {step : α → D (tysI its []) → Option (D (tysI its []) ⊕ D (tysI outX []))}
    (hs : ∀ x d, evRound P cal qcal nt its outX eX ps.toList assign body (enc x) d = step x d) (hown : ∀ d, itSt (bldS ni insI d) = true)
    (h : ∀ d, evBodyR P cal qcal fn l1 l2 out gf g ni insI FI nt its outX eX step (bldS n ins d).tmps (bldS n ins d).heap (endO os) = F d) : FnSpec P f n ins os F := by
  intro d r hd M B w vs hl hH
  rw [← h] at hd
  have key : Calls P f vs w (EndR B w (endO os) r) := by
    refine callsIn_wide.1 (callsIn_of_wp_marks hf hb trivial (wl_code ?_))
    rw [hc]
    unfold evBodyR at hd
    have hsz := relL_size hl
    simp at hsz
    have hr0 : Rel M ⟨(bldS n ins d).tmps ++ List.replicate (fn.ntmps - (bldS n ins d).tmps.length) .undef, (bldS n ins d).heap⟩ B.clean w { tmps := vs ++ Array.replicate (fn.ntmps - vs.size) undef, defers := [] } w :=
      ⟨by rw [hsz]; exact relT_args hl _, rfl, hH.clean, Beneath.refl _ _⟩
    refine evL_sound hP (hcal _) (hq _) l1 _ _ hd M _ w hr0 fun e M' st' a' w' hk hr => ?_
    cases e with
    | normal =>
      show (Code.block out (.rangeFunc (.tmp g) ps assign body)).wpIn Fence.wide 0 P (Exit.then (WL P (bodyPostM Fence.wide 0 P fn (EndR B w (endO os) r)) l2) (bodyPostM Fence.wide 0 P fn (EndR B w (endO os) r))) a' w'
      refine wpIn_block ?_
      simp only at hk
      unfold evRng at hk
      split at hk
      · rename_i gf' caps hg
        split at hk
        · rename_i hgf'
          subst hgf'
          split at hk
          · rename_i di hdi
            simp only [Option.bind_eq_some_iff] at hk
            obtain ⟨xs, hxs, d1, hd1, r1, hr1, hk⟩ := hk
            have hv := hr.tmps.2 g
            rw [hg] at hv
            simp only [RelV, RelX] at hv
            obtain ⟨x, y, hv, h1, h2⟩ := hv
            have hv : a'.tmps.getD g undef = .func (.func gf') x y := by simpa using hv
            have hx : x = #[] := by
              rw [RelL_nil] at h1
              exact Array.toList_eq_nil_iff.1 h1
            subst hx
            obtain ⟨M2, t⟩ := extA_told h2 hr.heap hdi
            obtain ⟨bs, hbs⟩ : ∃ bs, bs = itBs caps st'.heap insI := ⟨_, rfl⟩
            rw [← hbs] at hd1
            obtain ⟨O0, hO0⟩ : ∃ O0 : Nat → Prop, O0 = fun k => ∃ b ∈ bs, ∃ pl, M'[b]? = some pl ∧ pl.nil = false ∧ pl.blk = k := ⟨_, rfl⟩
            have hbown : ∀ b ∈ bs, ∃ o, st'.heap[b]? = some (some o) ∧ o.own = true := by
              intro b hb
              rw [hbs] at hb
              unfold itBs at hb
              obtain ⟨ac, hac, hid⟩ := List.mem_filterMap.1 hb
              split at hid
              · rename_i how
                obtain ⟨i, hi⟩ := List.getElem?_of_mem hac
                obtain ⟨p1, _, g2, _⟩ := t.act i ac hi
                obtain ⟨o, p, k1, k2, _, _, k5, _⟩ := g2 b hid
                exact ⟨o, k1, k5 how⟩
              · cases hid
            have hOk : ∀ k, O0 k → k < w'.heap.size ∧ B.clean.w k := by
              intro k hk
              rw [hO0] at hk
              obtain ⟨b, hb, pl, k1, k2, rfl⟩ := hk
              obtain ⟨o, ho, how⟩ := hbown b hb
              obtain ⟨pl', hpl', hok⟩ := hr.heap.obj b o ho
              rw [k1] at hpl'
              cases hpl'
              rcases hok with ⟨q, _⟩ | ⟨_, cs, el, fz, q2, _, _, _, q6⟩
              · rw [k2] at q
                cases q
              · exact ⟨(Array.getElem?_eq_some_iff.1 q2).1, (q6 how).2.2⟩
            have hOf : ∀ k, O0 k → ∀ ob, ¬ FzAt M' k ob := by
              intro k hk
              rw [hO0] at hk
              obtain ⟨b, hb, pl, k1, k2, rfl⟩ := hk
              obtain ⟨o, ho, how⟩ := hbown b hb
              exact (hr.heap.fo b o pl ho k1 how k2).2
            have hOo : ∀ (i : Nat) (o : AObj) (pl : Place), (killL st'.heap bs)[i]? = some (some o) → M'[i]? = some pl → pl.nil = false → ¬ O0 pl.blk := by
              intro i o pl hi hpl hnil hk
              rw [hO0] at hk
              obtain ⟨b, hb, plb, k1, k2, k3⟩ := hk
              obtain ⟨ob, hob, how⟩ := hbown b hb
              obtain ⟨j1, j2⟩ := killL_at hi
              exact hr.heap.sep b i ob o plb pl hob j2 k1 hpl (fun e => j1 (e ▸ hb)) how k2 hnil k3
            have hib : RelH (dropFz M2) (bldS ni insI di).heap (itB O0 w') w' := by
              refine it_base t.heap (hown di) fun i o pl hi hpl hnil => ?_
              have hlt : i < (drop0 :: actsI ⟨caps, st'.heap⟩ false insI).length := by rw [t.len]; exact (List.getElem?_eq_some_iff.1 hpl).1
              obtain ⟨p1, g1, g2, g3, g4, _⟩ := t.act i _ (List.getElem?_eq_getElem hlt)
              rw [hpl] at g1
              cases g1
              have how := (itSt_at (hown di) hi).1
              have hac := g4 o hi
              rw [how] at hac
              cases hid : ((drop0 :: actsI ⟨caps, st'.heap⟩ false insI)[i]).id with
              | none =>
                obtain ⟨q, _⟩ := (g3.1 hid).2 hnil
                rw [q] at hac
                cases hac
              | some b =>
                obtain ⟨o', p, k1, k2, k3, k4, _⟩ := g2 b hid
                rw [hO0]
                refine ⟨b, ?_, p, k2, by rw [← k3]; exact hnil, k4.symm⟩
                rw [hbs]
                unfold itBs
                refine List.mem_filterMap.2 ⟨_, List.getElem_mem hlt, ?_⟩
                rw [← hac, if_pos rfl]
                exact hid
            have hnf : noFzL (bldS ni insI di).tmps = true := by
              have := hown di
              simp only [itSt, Bool.and_eq_true] at this
              exact this.1
            have hitat := hit di xs hxs (dropFz M2) w' O0 y (RelL.like (dropFz_like M2) _ _ hnf (relL_of_relT t.tmps)) hib fun k hk => (hOk k hk).1
            have hk1 : RelH M' (killL st'.heap bs) ⟨fun k => B.w k ∧ ¬ O0 k, fun k => B.vis k ∧ ¬ O0 k, B.pin, B.f, []⟩ w' := by
              have hkl : RelH M' (killL st'.heap bs) B.clean w' := RelH.killL hr.heap
              refine hkl.carryT (fun i o pl h1 h2 h3 => ⟨rfl, ⟨hkl.vis i o pl h1 h2 h3, hOo i o pl h1 h2 h3⟩, fun ho => ⟨(hkl.fo i o pl h1 h2 ho h3).1, fun h => ⟨h, hOo i o pl h1 h2 h3⟩⟩⟩)
                (fun k ob h => ?_) (fun _ _ h => h) (fun k hk => ?_) hkl.bf
              · obtain ⟨q1, q2, q3⟩ := hkl.fz k ob h
                have hno : ¬ O0 k := fun h' => hOf k h' ob h
                exact ⟨q1, ⟨q2, hno⟩, q3.imp (fun h => ⟨h, hno⟩) id⟩
              · have hno : ¬ O0 k := fun h' => by have := (hOk k h').1; omega
                exact ⟨⟨(hkl.base k hk).1, hno⟩, (hkl.base k hk).2, hno⟩
            obtain ⟨M3, hr3⟩ := extS_rel (st := ⟨st'.tmps, killL st'.heap bs⟩) (B := ⟨fun k => B.w k ∧ ¬ O0 k, fun k => B.vis k ∧ ¬ O0 k, B.pin, B.f, []⟩) (w0 := w') (a := a') (w := w') ⟨hr.tmps, hr.defers, hk1, Beneath.refl _ _⟩ hd1
            have ha' : a'.defers = [] := hr.defers
            have more : ∀ {its' : List Item} {d' : D (tysI its' [])} {M4 : List Place} {W : World}, evL P (cal _) (qcal _) l2 (bldS nt its' d') (kEnd P fn (endO os)) = some r → RelT M4 (bldS nt its' d').tmps a'.tmps → RelH M4 (bldS nt its' d').heap B.clean W → Beneath B.clean w W →
                W.heap[w'.heap.size]? = some (.deferred (some [])) → (∀ ob, ¬ FzAt M4 w'.heap.size ob) → WL P (bodyPostM Fence.wide 0 P fn (EndR B w (endO os) r)) l2 { a' with defers := mark w'.heap.size :: a'.defers } W := by
              intro its' d' M4 W hk hT4 hH4 hB4 hD hz
              rw [← List.append_nil l2]
              refine evL_sound hP (hcal _) (hq _) l2 _ _ hk M4 _ W (B := B.marked w'.heap.size) (w0 := W) ⟨hT4, by rw [ha']; rfl, hH4.unclean.marked hD rfl hz, Beneath.refl _ _⟩ fun e M5 st5 a5 w5 hk5 hr5 => ?_
              have hbf : ¬ B.f w'.heap.size := hr.heap.bf _ (Nat.le_refl _)
              have := kEnd_marked hk5 hr5 hD hbf hr.below.size hB4.unclean
              cases e <;> exact this
            refine range_sound (B := B.clean) (w0 := w) (d := d1) (r := r1) (M := M3) hP hcal hq hv (callFunc_run hP hgf hgb) hitat hps henc hca hcb hs hr.below.size hr.heap.bf hr1 hOk hr3.tmps ?_ hr.below ?_ ?_
            · intro W hW hn
              refine hr3.heap.carryT (fun i o pl h1 h2 h3 => ?_) (fun k ob h => ?_) (fun _ _ h => h) (fun k hk => ?_) (fun k hk => hr.heap.bf k (Nat.le_trans hW.size hk))
              · have hlt := hr3.heap.lt h1 h2 h3
                have hvv := hr3.heap.vis i o pl h1 h2 h3
                exact ⟨hW.block _ hlt, hvv, fun ho => ⟨(hr3.heap.fo i o pl h1 h2 ho h3).1, fun h => ⟨h.1, h.2, by omega⟩⟩⟩
              · obtain ⟨q1, q2, q3⟩ := hr3.heap.fz k ob h
                have hlt := (Array.getElem?_eq_some_iff.1 q1).1
                exact ⟨(hW.block _ hlt).trans q1, q2, q3.imp (fun h => ⟨h.1, h.2, by omega⟩) id⟩
              · have hno : ¬ O0 k := fun h' => by have := (hOk k h').1; omega
                have := hr.heap.base k (by omega)
                exact ⟨⟨this.1, hno, by omega⟩, this.2, hno⟩
            · intro d' M4 W hrd hT4 hH4 hB4 hD hz
              subst hrd
              exact more hk hT4 hH4 hB4 hD hz
            · intro d' M4 W hrd hT4 hH4 hB4 hD hz
              subst hrd
              simp only at hk
              split at hk
              · refine wpIn_ret ?_
                have hr5 : Rel M4 (bldS nt outX d') (B.marked w'.heap.size) W { a' with defers := mark w'.heap.size :: a'.defers } W := ⟨hT4, by rw [ha']; rfl, hH4.unclean.marked hD rfl hz, Beneath.refl _ _⟩
                exact kEnd_marked hk hr5 hD (hr.heap.bf _ (Nat.le_refl _)) hr.below.size hB4.unclean
              · split at hk
                · rename_i j hj
                  subst hj
                  refine wpIn_exit ?_
                  show if j = j then _ else _
                  rw [if_pos rfl]
                  exact more hk hT4 hH4 hB4 hD hz
                · cases hk
              · cases hk
          · cases hk
        · cases hk
      · cases hk
    | ret => exact kEnd_end hk hr
    | exit id => exact kEnd_end hk hr
    | goto l => exact kEnd_end hk hr
    | panic ch => exact kEnd_end hk hr
    | outgrown => exact kEnd_end hk hr
  refine key.mono ?_
  rintro e w' ⟨rs, l, H', M', rfl, hk, hl', hH', hb⟩
  exact ⟨rs, rfl, hb, endO_sound hH' hk hl'⟩
end Go.AE
set_option linter.unusedVariables false
set_option linter.unusedSimpArgs false
namespace Go.AE
open Go Go.RowKit
variable {α : Type}
def yldOf (st : St) : Op → Option (Nat × List AV)
  | .call c => match c.callee with
    | .value (.tmp t) => match st.tmps.getD t .undef with
      | .yld l => some (l, c.args.toList.map st.get)
      | _ => none
    | _ => none
  | _ => none
def evIExec (P : Program) (cal : Cal (List (Nat × α))) (dec : List AV → Option α) (o : Oper) (st : St) (K : St → Option (List (Nat × α))) : Option (List (Nat × α)) :=
  match yldOf st o.op with
  | some (l, args) => match ownAll st.heap with
    | true => (dec args).bind fun x => (K (st.put o.dst (.bool (some true) true))).bind fun L => (K (st.put o.dst (.bool (some false) false))).bind fun L2 => match L2 with
      | [] => some ((l, x) :: L)
      | _ => none
    | false => none
  | none => evExec P cal o st K
def evIList (P : Program) (cal : Cal (List (Nat × α))) (dec : List AV → Option α) (ops : Array Oper) : List Oper → St → (St → Option (List (Nat × α))) → Option (List (Nat × α))
  | [], st, K => K st
  | o :: l, st, K => guarded ops o st (evIExec P cal dec o) fun st' => evIList P cal dec ops l st' K
def isDyn (o : Oper) : Bool := match o.op with
  | .call c => match c.callee with
    | .value (.tmp _) => true
    | _ => false
  | _ => false
def dynIx (ops : Array Oper) : Option Nat := ops.toList.findIdx? isDyn
def evIRegion (P : Program) (cal : Cal (List (Nat × α))) (qcal : QCal (List (Nat × α))) (dec : List AV → Option α) (ops : Array Oper) (draw : Bool) (st : St) (K : St → Option (List (Nat × α))) : Option (List (Nat × α)) :=
  match dynIx ops with
  | none => evRegion P cal qcal ops draw st K
  | some n => match draw with
    | false => evIList P cal dec ops ops.toList st K
    | true => if P.follows .mixedOrders = true then
        if Region.lexTailB .any ops n = true then evQList P qcal ops (ops.toList.take n) st fun st' => evIList P cal dec ops (ops.toList.drop n) st' K else none
      else none
def evICode (P : Program) (cal : Cal (List (Nat × α))) (qcal : QCal (List (Nat × α))) (dec : List AV → Option α) : Code → St → (Exit → St → Option (List (Nat × α))) → Option (List (Nat × α))
  | .skip, st, K => K .normal st
  | .region _ ops draw, st, K => evIRegion P cal qcal dec ops draw st (K .normal)
  | .seq x y, st, K => evICode P cal qcal dec x st fun e st' => match e with
    | .normal => evICode P cal qcal dec y st' K
    | e => K e st'
  | .cond c x y, st, K => match st.get c with
    | .bool (some b) _ => cond b (evICode P cal qcal dec x st K) (evICode P cal qcal dec y st K)
    | .bool none b => cond b (evICode P cal qcal dec x (st.lit c true) K) (evICode P cal qcal dec y (st.lit c false) K)
    | _ => none
  | .block id c, st, K => evICode P cal qcal dec c st fun e st' => match e with
    | .exit id' => if id' = id then K .normal st' else K (.exit id') st'
    | e => K e st'
  | .loop c, st, K => loopN 300 (fun st K => evICode P cal qcal dec c st K) st K
  | .exit id, st, K => K (.exit id) st
  | .ret, st, K => K .ret st
  | .label _, st, K => K .normal st
  | _, _, _ => none
structure Yields (P : Program) (l0 : Nat) (encs : α → Array Value) (ok : α → Prop) (xs : List α) (J Jx : List α → (Nat → Prop) → World → Prop) : Prop where
  j : ∀ pre O W W', J pre O W → Beneath (OB O) W W' → J pre (grow O W W') W'
  jx : ∀ pre O W W', Jx pre O W → Beneath (OB O) W W' → Jx pre (grow O W W') W'
  y : ∀ pre x rest O W1, xs = pre ++ x :: rest → ok x → J pre O W1 → YieldAt Fence.wide 0 P l0 (encs x) W1 fun e W' =>
      W1.heap.size ≤ W'.heap.size ∧ Same O W1 W' ∧ ((e = .returned (.bool true) ∧ J (pre ++ [x]) O W') ∨ (e = .returned (.bool false) ∧ Jx (pre ++ [x]) O W'))
def Going (xs : List α) (l0 : Nat) (J Jx : List α → (Nat → Prop) → World → Prop) (L : List (Nat × α)) (O : Nat → Prop) (W : World) : Prop :=
  (∃ pre rest, xs = pre ++ rest ∧ L = rest.map (fun x => (l0, x)) ∧ J pre O W) ∨ (L = [] ∧ ∃ pre, pre <+: xs ∧ Jx pre O W)
structure ItRel (xs : List α) (l0 : Nat) (J Jx : List α → (Nat → Prop) → World → Prop) (M : List Place) (st : St) (O : Nat → Prop) (L : List (Nat × α)) (a : Go.Act) (W : World) : Prop where
  tmps : RelT M st.tmps a.tmps
  defers : a.defers = []
  heap : RelH M st.heap (itB O W) W
  o : ∀ k, O k → k < W.heap.size
  go : Going xs l0 J Jx L O W
section
variable {P : Program} {l0 : Nat} {encs : α → Array Value} {ok : α → Prop} {xs : List α} {J Jx : List α → (Nat → Prop) → World → Prop} {ops : Array Oper} {Q : Exit → Go.Act → World → Prop}
theorem ItRel.rel {M : List Place} {st : St} {O : Nat → Prop} {L : List (Nat × α)} {a : Go.Act} {W : World} (r : ItRel xs l0 J Jx M st O L a W) : Rel M st (itB O W) W a W := ⟨r.tmps, r.defers, r.heap, Beneath.refl _ _⟩
theorem ItRel.step (hy : Yields P l0 encs ok xs J Jx) {M M' : List Place} {st st' : St} {O : Nat → Prop} {L : List (Nat × α)} {a a' : Go.Act} {W W' : World} (r : ItRel xs l0 J Jx M st O L a W) (r' : Rel M' st' (itB O W) W a' W') : ItRel xs l0 J Jx M' st' (grow O W W') L a' W' := by
  have hB := r'.below.it
  refine ⟨r'.tmps, r'.defers, it_step r'.heap, fun k hk => hk.elim (fun h => Nat.lt_of_lt_of_le (r.o k h) hB.size) fun h => h.2, ?_⟩
  rcases r.go with ⟨pre, rest, h1, h2, h3⟩ | ⟨h1, pre, h2, h3⟩
  · exact .inl ⟨pre, rest, h1, h2, hy.j _ _ _ _ h3 hB⟩
  · exact .inr ⟨h1, pre, h2, hy.jx _ _ _ _ h3 hB⟩
theorem oper_yield {o : Oper} {t l : Nat} {args : Array Operand} {tys : Array TypeId} (ho : o.op = .call { callee := .value (.tmp t), args := args, argTypes := tys }) {a : Go.Act} {w : World}
    (hv : a.eval (.tmp t) = .func (.yield l) #[] #[]) {R : Ending → World → Prop} (hy : YieldAt Fence.wide 0 P l (args.map a.eval) w R) {K : Go.Act → World → Prop} (hR : ∀ e w', R e w' → ∃ b, e = .returned (.bool b) ∧ K (a.put o.dst (.bool b)) w') :
    o.wpIn Fence.wide 0 P a w K Q := by
  refine ⟨fun f _ => trivial, ?_⟩
  show o.uponIn _ 0 P a _ Q ((Oper.semAt none a.eval o).run P w)
  rw [Oper.semAt_none, yield_run ho hv]
  obtain ⟨fn, tmps, assign, body, hrun, hr⟩ := hy
  rw [hrun, Oper.uponIn_round]
  refine ⟨fun hd => by simp [Fence.wide] at hd, hr.mono fun e w' h => ?_⟩
  obtain ⟨b, rfl, h2⟩ := hR e w' h
  exact h2
theorem relV_boolLit (M : List Place) (b : Bool) : RelV M (.bool (some b) b) (.bool b) := by simp [RelV, RelX]
variable {dec : List AV → Option α}
def DecOk (dec : List AV → Option α) (encs : α → Array Value) (ok : α → Prop) : Prop := ∀ (M : List Place) (args : List AV) (vs : List Value) (x : α), RelL M args vs → dec args = some x → vs = (encs x).toList ∧ ok x
theorem evIExec_sound (hP : Callable P) {cal : Cal (List (Nat × α))} (hcal : ∀ f, CalAt P f (cal f)) (hy : Yields P l0 encs ok xs J Jx) (hdec : DecOk dec encs ok) {o : Oper} {st : St} {K : St → Option (List (Nat × α))} {L : List (Nat × α)} (h : evIExec P cal dec o st K = some L)
    {M : List Place} {O : Nat → Prop} {a : Go.Act} {W : World} (hr : ItRel xs l0 J Jx M st O L a W) {next : Go.Act → World → Prop} (hn : ∀ M' st' O' L' a' W', K st' = some L' → ItRel xs l0 J Jx M' st' O' L' a' W' → next a' W') : o.wpIn Fence.wide 0 P a W next Q := by
  unfold evIExec at h
  split at h
  · rename_i l args hyl
    split at h
    · rename_i hown
      simp only [Option.bind_eq_some_iff] at h
      obtain ⟨x, hx, L1, hL1, L2, hL2, h⟩ := h
      split at h
      · cases h
        unfold yldOf at hyl
        split at hyl
        · rename_i c hop
          split at hyl
          · rename_i t hc
            split at hyl
            · rename_i l' hl'
              cases hyl
              have hv := hr.tmps.2 t
              rw [hl'] at hv
              simp only [RelV, RelX] at hv
              have hv : a.eval (.tmp t) = .func (.yield l) #[] #[] := by simpa [Go.Act.eval] using hv
              rcases hr.go with ⟨pre, rest, g1, g2, g3⟩ | ⟨g1, _⟩
              · cases rest with
                | nil => cases g2
                | cons x' rest =>
                  simp only [List.map_cons, List.cons.injEq, Prod.mk.injEq] at g2
                  obtain ⟨⟨rfl, rfl⟩, rfl⟩ := g2
                  have hargs : (c.args.map a.eval).toList = (encs x).toList ∧ ok x := by
                    refine hdec M _ _ _ ?_ hx
                    rw [Array.toList_map]
                    exact relL_map (fun y => get_rel hr.tmps y) _
                  have hargs2 : c.args.map a.eval = encs x := Array.toList_inj.1 hargs.1
                  obtain ⟨callee, cargs, tys⟩ := c
                  simp only at hc hargs2
                  subst hc
                  refine oper_yield (tys := tys) hop hv (by rw [hargs2]; exact hy.y pre x rest O W g1 hargs.2 g3) ?_
                  rintro e W' ⟨hz, hs, h⟩
                  have hH : RelH M st.heap (itB O W') W' := it_round hr.heap hown hs hz
                  have put : ∀ (b : Bool), (st.put o.dst (.bool (some b) b)).heap = st.heap ∧ RelT M (st.put o.dst (.bool (some b) b)).tmps (a.put o.dst (.bool b)).tmps ∧ (a.put o.dst (.bool b)).defers = [] := fun b => by
                    cases o.dst with
                    | none => exact ⟨rfl, hr.tmps, hr.defers⟩
                    | some d => exact ⟨rfl, hr.tmps.put (relV_boolLit M b) d, hr.defers⟩
                  have ho : ∀ k, O k → k < W'.heap.size := fun k hk => Nat.lt_of_lt_of_le (hr.o k hk) hz
                  rcases h with ⟨rfl, h⟩ | ⟨rfl, h⟩
                  · obtain ⟨p1, p2, p3⟩ := put true
                    exact ⟨true, rfl, hn M _ O _ _ W' hL1 ⟨p2, p3, by rw [p1]; exact hH, ho, .inl ⟨pre ++ [x], rest, by rw [g1]; simp, rfl, h⟩⟩⟩
                  · obtain ⟨p1, p2, p3⟩ := put false
                    exact ⟨false, rfl, hn M _ O _ _ W' hL2 ⟨p2, p3, by rw [p1]; exact hH, ho, .inr ⟨rfl, pre ++ [x], ⟨rest, by rw [g1]; simp⟩, h⟩⟩⟩
              · cases g1
            · cases hyl
          · cases hyl
        · cases hyl
      · cases h
    · cases h
  · exact operW (evExec_sound hP hcal h hr.rel (Q := fun _ _ _ => False) fun M' st' a' w' _ hk hr' => hn M' st' _ L a' w' hk (hr.step hy hr')) (fun _ _ h => h) (fun _ _ _ h => h) (fun ⟨_, _, h⟩ => h)
theorem evIList_sound (hP : Callable P) {cal : Cal (List (Nat × α))} (hcal : ∀ f, CalAt P f (cal f)) (hy : Yields P l0 encs ok xs J Jx) (hdec : DecOk dec encs ok) {K : St → Option (List (Nat × α))} : ∀ {l : List Oper} {st : St} {L : List (Nat × α)} {M : List Place} {O : Nat → Prop} {a : Go.Act} {W : World},
    evIList P cal dec ops l st K = some L → ItRel xs l0 J Jx M st O L a W → (∀ M' st' O' L' a' W', K st' = some L' → ItRel xs l0 J Jx M' st' O' L' a' W' → Q .normal a' W') → wpListIn Fence.wide 0 P ops Q l a W
  | [], st, L, M, O, a, W, h, hr, hn => hn M st O L a W h hr
  | o :: l, st, L, M, O, a, W, h, hr, hn => by
    unfold wpListIn
    rcases guarded_sound h hr.tmps with ⟨hw, st', h', ht, hh⟩ | ⟨hw, st', h', ht, hh⟩
    · rw [if_pos hw]
      exact evIExec_sound hP hcal hy hdec h' ⟨ht, hr.defers, by rw [hh]; exact hr.heap, hr.o, hr.go⟩ fun M' st2 O' L' a' w' hk hr2 => evIList_sound hP hcal hy hdec hk hr2 hn
    · rw [if_neg (by rw [hw]; simp)]
      have hr' : Rel M st' (itB O W) W a W := ⟨ht, hr.defers, by rw [hh]; exact hr.heap, Beneath.refl _ _⟩
      have hr2 := hr'.put (relV_skip M) o.dst
      exact ⟨fun f _ => trivial, evIList_sound hP hcal hy hdec h' ⟨hr2.tmps, hr2.defers, hr2.heap, hr.o, hr.go⟩ hn⟩
theorem opInW {i : Nat} {K : Go.Act → World → Prop} {a : Go.Act} {w : World} (h : wpOp P ops (fun _ _ _ => False) i K a w) : wpOpIn Fence.wide 0 P ops Q i K a w := by
  unfold wpOp at h
  unfold wpOpIn
  cases ho : ops[i]? with
  | none =>
    rw [ho] at h
    exact h
  | some o =>
    rw [ho] at h
    simp only at h ⊢
    by_cases hw : Region.wanted o (yielded ops a.tmps) = true
    · rw [if_pos hw] at h ⊢
      rcases h with h | h
      · exact operW h (fun _ _ h => h) (fun _ _ _ h => h) (fun ⟨_, _, h⟩ => h)
      · exact absurd h.2 (fun ⟨_, _, h⟩ => h)
    · rw [if_neg hw] at h ⊢
      exact ⟨fun f _ => trivial, h⟩
theorem wpAnyIn_of_headQ {md : Region.Mode} {C : World → Prop} {n g : Nat} {L : Array Bool → Go.Act → Prop} (hL : ∀ listed a w, C w → L listed a → wpAnyIn Fence.wide 0 P md ops Q g listed a w) :
    ∀ (f : Nat) (listed : Array Bool) (a : Go.Act) (w : World), C w → wpAnyLQ P md ops C n L f listed a → wpAnyIn Fence.wide 0 P md ops Q (f + g) listed a w
  | 0, listed, a, w, hw, h => by rw [Nat.zero_add]; exact hL _ _ _ hw h
  | f + 1, listed, a, w, hw, h => by
    rw [show f + 1 + g = (f + g) + 1 by omega]
    exact ⟨fun h0 => absurd h0 h.1, fun i hi => opInW (wpOp_of_qOp hw (fun a' w' hw' h' => wpAnyIn_of_headQ hL f _ a' w' hw' h') (h.2 i hi).2)⟩
theorem wpAnyIn_of_seq {md : Region.Mode} : ∀ (l : List Oper) (k : Nat) (listed : Array Bool) (a : Go.Act) (w : World), (∀ j, l[j]? = ops[k + j]?) →
    Region.seqB md ops l.length k listed = true → wpListIn Fence.wide 0 P ops Q l a w → wpAnyIn Fence.wide 0 P md ops Q l.length listed a w
  | [], _, _, _, _, _, hB, h => ⟨by simpa [Region.seqB] using hB, h⟩
  | o :: l, k, listed, a, w, hl, hB, h => by
    have h0 : ops[k]? = some o := by simpa using (hl 0).symm
    simp only [List.length_cons, Region.seqB, Bool.and_eq_true, decide_eq_true_eq] at hB
    refine ⟨fun h1 => (by rw [hB.1] at h1; cases h1), fun i hi => ?_⟩
    rw [hB.1] at hi
    have hik : i = k := by simpa using hi
    subst hik
    have hw : wpOpIn Fence.wide 0 P ops Q i (wpListIn Fence.wide 0 P ops Q l) a w := by unfold wpOpIn; simp only [h0]; exact h
    exact wpOpIn_mono (fun a' w' h' => wpAnyIn_of_seq l (i + 1) _ a' w' (fun j => by have := hl (j + 1); simpa [Nat.add_assoc, Nat.add_comm 1 j] using this) hB.2 h') hw
theorem anyIn_quiet_tail (n : Nat) {C : World → Prop} {a : Go.Act} {w : World} (hB : Region.lexTailB .any ops n = true) (hC : C w.drew)
    (h : wpQuiet P ops C (fun a' => ∀ w', C w' → wpListIn Fence.wide 0 P ops Q (ops.toList.drop n) a' w') (ops.toList.take n) a) : wpAnyIn Fence.wide 0 P .any ops Q ops.size (Array.replicate ops.size false) a w.drew := by
  simp only [Region.lexTailB, Bool.and_eq_true, decide_eq_true_eq] at hB
  obtain ⟨⟨⟨⟨hsel, hn⟩, hs⟩, hc⟩, hlex⟩ := hB
  have htl : (ops.toList.take n).length = n := by simp; omega
  have hdl : (ops.toList.drop n).length = ops.size - n := by simp
  have inv0 : HeadInv .any ops n (Array.replicate ops.size false) :=
    ⟨by simp, fun j oj _ hl => (by rw [getD_replicate_false] at hl; cases hl), fun t _ ht => getD_in (by simpa using ht) (getD_replicate_false _ _)⟩
  have H := wpAnyLQ_lex (md := .any) (g := ops.size - n) hsel hs hc hn (ops.toList.take n) 0 _ a (fun j hj => by
    have hj' : j < n := by rw [htl] at hj; exact hj
    simp [hj']) (by simpa using htl) inv0 (by rw [htl]; exact hlex) h
  have := wpAnyIn_of_headQ (Q := Q) (g := ops.size - n) (fun listed a' w' hw' hL => by
    have := wpAnyIn_of_seq (md := .any) (Q := Q) (ops.toList.drop n) n listed a' w' (fun j => by simp [List.getElem?_drop]) (by rw [hdl]; exact hL.1) (hL.2 w' hw')
    rwa [hdl] at this) _ _ _ _ hC H
  rw [htl, show n + (ops.size - n) = ops.size by omega] at this
  exact this
theorem evIRegion_sound (hP : Callable P) {cal : Cal (List (Nat × α))} (hcal : ∀ f, CalAt P f (cal f)) {qcal : QCal (List (Nat × α))} (hq : ∀ f, QCalAt P f (qcal f)) (hy : Yields P l0 encs ok xs J Jx) (hdec : DecOk dec encs ok) {draw : Bool} {id : Nat} {st : St} {K : St → Option (List (Nat × α))} {L : List (Nat × α)}
    (h : evIRegion P cal qcal dec ops draw st K = some L) {M : List Place} {O : Nat → Prop} {a : Go.Act} {W : World} (hr : ItRel xs l0 J Jx M st O L a W) (hn : ∀ M' st' O' L' a' W', K st' = some L' → ItRel xs l0 J Jx M' st' O' L' a' W' → Q .normal a' W') : (Code.region id ops draw).wpIn Fence.wide 0 P Q a W := by
  unfold evIRegion at h
  split at h
  · exact wpIn_wide.2 (evRegion_sound hP hcal hq h hr.rel fun M' st' a' w' _ hk hr' => hn M' st' _ L a' w' hk (hr.step hy hr'))
  · rename_i n _
    split at h
    · exact wpIn_region_list (evIList_sound hP hcal hy hdec h hr hn)
    · split at h
      · rename_i hm
        split at h
        · rename_i hB
          refine wpIn_region_any hm (anyIn_quiet_tail n (C := fun w' => Below W.drew.heap.size W.drew w') hB (Below.refl _ _) ?_)
          have hb0 : Below W.heap.size W W.drew := (Below.refl _ _).drew
          exact evQList_sound hP hq (hr.heap.below hb0) h hr.tmps rfl hr.defers fun st' a' hk ht hh hd w' hb => evIList_sound hP hcal hy hdec hk
            (hr.step hy (a' := a') (W' := w') ⟨ht, hd, by rw [hh]; exact (hr.heap.below hb0).below hb, (Beneath.of hb0).trans (Beneath.of hb)⟩) hn
        · cases h
      · cases h
theorem ItRel.lit {M : List Place} {st : St} {O : Nat → Prop} {L : List (Nat × α)} {a : Go.Act} {W : World} (r : ItRel xs l0 J Jx M st O L a W) {c : Operand} {b : Bool} (hb : a.eval c = .bool b) : ItRel xs l0 J Jx M (st.lit c b) O L a W := by
  cases c with
  | tmp t =>
    have h1 := r.rel.put (x := .bool (some b) b) (v := .bool b) (by simp [RelV, RelX]) (some t)
    simp only [Go.Act.eval] at hb
    rw [← hb, put_self] at h1
    exact ⟨h1.tmps, h1.defers, h1.heap, r.o, r.go⟩
  | _ => exact r
theorem evICode_sound (hP : Callable P) {cal : Cal (List (Nat × α))} (hcal : ∀ f, CalAt P f (cal f)) {qcal : QCal (List (Nat × α))} (hq : ∀ f, QCalAt P f (qcal f)) (hy : Yields P l0 encs ok xs J Jx) (hdec : DecOk dec encs ok) :
    ∀ (c : Code) (st : St) (K : Exit → St → Option (List (Nat × α))) (L : List (Nat × α)), evICode P cal qcal dec c st K = some L → ∀ (M : List Place) (O : Nat → Prop) (a : Go.Act) (W : World) (Q : Exit → Go.Act → World → Prop), ItRel xs l0 J Jx M st O L a W →
      (∀ e M' st' O' L' a' W', K e st' = some L' → ItRel xs l0 J Jx M' st' O' L' a' W' → Q e a' W') → c.wpIn Fence.wide 0 P Q a W := by
  intro c
  induction c with
  | skip => intro st K L h M O a W Q hr hn; exact wpIn_skip (hn _ M st O L a W h hr)
  | region id ops draw => intro st K L h M O a W Q hr hn; exact evIRegion_sound hP hcal hq hy hdec h hr fun M' st' O' L' a' W' => hn .normal M' st' O' L' a' W'
  | seq x y ihx ihy =>
    intro st K L h M O a W Q hr hn
    refine wpIn_seq (ihx st _ L h M O a W _ hr fun e M' st' O' L' a' W' hk hr' => ?_)
    cases e with
    | normal => exact ihy st' K L' hk M' O' a' W' Q hr' hn
    | exit id => exact hn _ M' st' O' L' a' W' hk hr'
    | goto l => exact hn _ M' st' O' L' a' W' hk hr'
    | ret => exact hn _ M' st' O' L' a' W' hk hr'
    | panic ch => exact hn _ M' st' O' L' a' W' hk hr'
    | outgrown => exact hn _ M' st' O' L' a' W' hk hr'
  | cond c x y ihx ihy =>
    intro st K L h M O a W Q hr hn
    have hg := get_rel hr.tmps c
    unfold evICode at h
    split at h
    · rename_i b z hst
      rw [hst] at hg
      obtain ⟨e, hl⟩ := relV_bool hg
      have := hl b rfl
      subst this
      cases z
      · exact wpIn_cond_false e (ihy st K L h M O a W Q hr hn)
      · exact wpIn_cond_true e (ihx st K L h M O a W Q hr hn)
    · rename_i b hst
      rw [hst] at hg
      obtain ⟨e, _⟩ := relV_bool hg
      cases b
      · exact wpIn_cond_false e (ihy _ K L h M O a W Q (hr.lit e) hn)
      · exact wpIn_cond_true e (ihx _ K L h M O a W Q (hr.lit e) hn)
    · cases h
  | block id c ih =>
    intro st K L h M O a W Q hr hn
    unfold evICode at h
    refine wpIn_block (ih st _ L h M O a W _ hr fun e M' st' O' L' a' W' hk hr' => ?_)
    cases e with
    | exit id' =>
      simp only at hk
      unfold Exit.inBlock
      split at hk
      · rename_i hid
        simp only [hid, if_true]
        exact hn _ M' st' O' L' a' W' hk hr'
      · rename_i hid
        simp only [hid, if_false]
        exact hn _ M' st' O' L' a' W' hk hr'
    | normal => exact hn _ M' st' O' L' a' W' hk hr'
    | goto l => exact hn _ M' st' O' L' a' W' hk hr'
    | ret => exact hn _ M' st' O' L' a' W' hk hr'
    | panic ch => exact hn _ M' st' O' L' a' W' hk hr'
    | outgrown => exact hn _ M' st' O' L' a' W' hk hr'
  | loop c ih =>
    intro st K L h M O a W Q hr hn
    unfold evICode at h
    refine wpIn_loop_ind (fun m a' w' => ∃ st' M' O' L', loopN m (fun st K => evICode P cal qcal dec c st K) st' K = some L' ∧ ItRel xs l0 J Jx M' st' O' L' a' w') (m := 300) ⟨st, M, O, L, h, hr⟩ ?_
    rintro m a1 w1 ⟨st1, M1, O1, L1, h1, hr1⟩
    cases m with
    | zero => cases h1
    | succ m =>
      unfold loopN at h1
      refine ih st1 _ L1 h1 M1 O1 a1 w1 _ hr1 fun e M' st' O' L' a' W' hk hr' => ?_
      cases e with
      | normal => exact ⟨m, by omega, st', M', O', L', hk, hr'⟩
      | exit id => exact hn _ M' st' O' L' a' W' hk hr'
      | goto l => exact hn _ M' st' O' L' a' W' hk hr'
      | ret => exact hn _ M' st' O' L' a' W' hk hr'
      | panic ch => exact hn _ M' st' O' L' a' W' hk hr'
      | outgrown => exact hn _ M' st' O' L' a' W' hk hr'
  | exit id => intro st K L h M O a W Q hr hn; exact wpIn_exit (hn _ M st O L a W h hr)
  | ret => intro st K L h M O a W Q hr hn; exact wpIn_ret (hn _ M st O L a W h hr)
  | label l => intro st K L h M O a W Q hr hn; exact wpIn_label (hn _ M st O L a W h hr)
  | _ => intro st K L h; cases h
end
def kIEnd (P : Program) (fn : Func) : Exit → St → Option (List (Nat × α)) := fun e st => match e with
  | .normal | .ret => match aresL P st fn.results.toList with
    | some _ => some []
    | none => none
  | _ => none
def itHead (fn : Func) (n : Nat) (ins : List Item) (l : Nat) (d : D (tysI ins [])) : St := ⟨(.yld l :: (bldS n ins d).tmps) ++ List.replicate (fn.ntmps - (n + 1)) .undef, (bldS n ins d).heap⟩
theorem itSpec_of {P : Program} {gf : FuncId} {fn : Func} {c : Code} (hf : P.funcs[gf]? = some fn) (hb : fn.body = some c) {encs : α → Array Value} {ok : α → Prop} {n : Nat} {ins : List Item} {F : D (tysI ins []) → Option (List α)}
    (hlen : ∀ d, (bldS n ins d).tmps.length = n) (hown : ∀ d, ownAll (bldS n ins d).heap = true)
    (h : ∀ (d : D (tysI ins [])) (xs : List α) (l0 : Nat) (J Jx : List α → (Nat → Prop) → World → Prop), F d = some xs → Yields P l0 encs ok xs J Jx → ∀ (M : List Place) (O : Nat → Prop) (a : Go.Act) (W : World), ItRel xs l0 J Jx M (itHead fn n ins l0 d) O (xs.map fun x => (l0, x)) a W →
      c.wpIn Fence.wide 0 P (fun e a' W' => ∃ M' st' O', kIEnd (α := α) P fn e st' = some [] ∧ ItRel xs l0 J Jx M' st' O' [] a' W') a W) : ItSpec P gf encs ok n ins F := by
  intro d xs hd M w O0 lb hl hH hO
  intro l J Jx W hs hz hJ hJx hY hJ0
  have hsz := relL_size hl
  simp at hsz
  refine callsIn_of_wp hf hb trivial ?_
  have hy : Yields P l encs ok xs J Jx := ⟨hJ, hJx, hY⟩
  have hH' : RelH M (bldS n ins d).heap (itB O0 W) W := it_round hH (hown d) hs hz
  · refine wpIn_mono (h d xs l J Jx hd hy M O0 _ W ⟨?_, rfl, hH', fun k hk => Nat.lt_of_lt_of_le (hO k hk) hz, .inl ⟨[], xs, rfl, rfl, hJ0⟩⟩) ?_
    · have h1 : RelL M (.yld l :: (bldS n ins d).tmps) (#[Value.func (.yield l) #[] #[]] ++ lb).toList := by
        rw [Array.toList_append]
        exact RelL_cons.2 ⟨_, _, rfl, by simp [RelX], hl⟩
      have h2 := relT_args h1 (fn.ntmps - (n + 1))
      have e : (#[Value.func (.yield l) #[] #[]] ++ lb).size = n + 1 := by
        have := hlen d
        simp
        omega
      rw [e]
      exact h2
    · rintro e a' W' ⟨M', st', O', hk, hr⟩
      have fin : (match aresL P st' fn.results.toList with | some _ => some [] | none => none) = some ([] : List (Nat × α)) → a'.defers = [] ∧ ∃ v, (results fn a'.tmps).run P W' = .ok v W' ∧ ((∃ v', Ending.returned v = .returned v') ∧ ((∃ O, J xs O W') ∨ ∃ pre O, pre <+: xs ∧ Jx pre O W')) := by
        intro hk
        split at hk
        · rename_i lr hlr
          obtain ⟨rs, h1, h2⟩ := results_run (fn := fn) hr.tmps hr.heap hlr
          refine ⟨hr.defers, _, h2, ⟨_, rfl⟩, ?_⟩
          rcases hr.go with ⟨pre, rest, g1, g2, g3⟩ | ⟨_, pre, g2, g3⟩
          · have : rest = [] := by simpa using g2.symm
            subst this
            simp at g1
            subst g1
            exact .inl ⟨_, g3⟩
          · exact .inr ⟨pre, _, g2, g3⟩
        · cases hk
      cases e <;> simp only [kIEnd, reduceCtorEq] at hk
      case normal => exact fin hk
      case ret => exact fin hk
def bldY (l : Nat) (nt : Nat) (its : List Item) (d : D (tysI its [])) : St := ⟨(bldS nt its d).tmps.set 0 (.yld l), (bldS nt its d).heap⟩
def kIL (P : Program) (fn : Func) (nt : Nat) (its : List Item) (id : Nat) (L : Nat → D (tysI its []) → Option (List (Nat × α))) : Exit → St → Option (List (Nat × α)) := fun e st => match e with
  | .normal => (match st.tmps.getD 0 .undef with
    | .yld l => (extS nt its st).bind fun d => L l d
    | _ => none)
  | .exit j => if j = id then kIEnd P fn .normal st else none
  | .ret => kIEnd P fn .ret st
  | _ => none
theorem kIEnd_nil {P : Program} {fn : Func} {e : Exit} {st : St} {L : List (Nat × α)} (h : kIEnd P fn e st = some L) : L = [] := by
  unfold kIEnd at h
  split at h
  · split at h
    · cases h; rfl
    · cases h
  · split at h
    · cases h; rfl
    · cases h
  · cases h
theorem bldY_rel {xs : List α} {l0 : Nat} {J Jx : List α → (Nat → Prop) → World → Prop} {M : List Place} {st : St} {O : Nat → Prop} {L : List (Nat × α)} {a : Go.Act} {W : World} (r : ItRel xs l0 J Jx M st O L a W) {l nt : Nat} (hl : st.tmps.getD 0 .undef = .yld l) {its : List Item} {d : D (tysI its [])} (hd : extS nt its st = some d) :
    ∃ M', ItRel xs l0 J Jx M' (bldY l nt its d) O L a W := by
  obtain ⟨M', h⟩ := extS_rel r.rel hd
  refine ⟨M', ?_, h.defers, h.heap, r.o, r.go⟩
  have hv := r.tmps.2 0
  rw [hl] at hv
  have hv' : RelV M' (.yld l) (a.tmps.getD 0 undef) := by
    simp only [RelV, RelX] at hv ⊢
    exact hv
  have h1 := h.tmps.put hv' 0
  have h2 := congrArg Go.Act.tmps (put_self (a := a) (d := 0))
  simp only [Go.Act.put] at h2
  rw [h2] at h1
  exact h1
def evIL (P : Program) (cal : Cal (List (Nat × α))) (qcal : QCal (List (Nat × α))) (dec : List AV → Option α) : List Code → St → (Exit → St → Option (List (Nat × α))) → Option (List (Nat × α))
  | [], st, K => K .normal st
  | c :: r, st, K => evICode P cal qcal dec c st fun e st' => match e with
    | .normal => evIL P cal qcal dec r st' K
    | e => K e st'
theorem evIL_sound {P : Program} (hP : Callable P) {cal : Cal (List (Nat × α))} (hcal : ∀ f, CalAt P f (cal f)) {qcal : QCal (List (Nat × α))} (hq : ∀ f, QCalAt P f (qcal f)) {encs : α → Array Value} {ok : α → Prop} {dec : List AV → Option α} {xs : List α} {l0 : Nat} {J Jx : List α → (Nat → Prop) → World → Prop} (hy : Yields P l0 encs ok xs J Jx) (hdec : DecOk dec encs ok)
    {Q : Exit → Go.Act → World → Prop} {more : List Code} : ∀ (l : List Code) (st : St) (K : Exit → St → Option (List (Nat × α))) (L : List (Nat × α)), evIL P cal qcal dec l st K = some L → ∀ (M : List Place) (O : Nat → Prop) (a : Go.Act) (W : World), ItRel xs l0 J Jx M st O L a W →
      (∀ e M' st' O' L' a' W', K e st' = some L' → ItRel xs l0 J Jx M' st' O' L' a' W' → Exit.then (WL P Q more) Q e a' W') → WL P Q (l ++ more) a W
  | [], st, K, L, h, M, O, a, W, hr, hn => hn .normal M st O L a W h hr
  | c :: l, st, K, L, h, M, O, a, W, hr, hn => by
    show c.wpIn Fence.wide 0 P (Exit.then (WL P Q (l ++ more)) Q) a W
    refine evICode_sound hP hcal hq hy hdec c _ _ _ h M O a W _ hr fun e M' st' O' L' a' W' hk hr' => ?_
    cases e with
    | normal => exact evIL_sound hP hcal hq hy hdec l st' K L' hk M' O' a' W' hr' hn
    | exit id => exact hn (.exit id) M' st' O' L' a' W' hk hr'
    | goto l => exact hn (.goto l) M' st' O' L' a' W' hk hr'
    | ret => exact hn .ret M' st' O' L' a' W' hk hr'
    | panic ch => exact hn (.panic ch) M' st' O' L' a' W' hk hr'
    | outgrown => exact hn .outgrown M' st' O' L' a' W' hk hr'
theorem itSpec_loop {P : Program} (hP : Callable P) {cal : Cals} (hcal : ∀ σ f, CalAt P f (cal σ f)) {qcal : QCals} (hq : ∀ σ f, QCalAt P f (qcal σ f)) {gf : FuncId} {fn : Func} {c body : Code} {l1 : List Code} {id : Nat} (hf : P.funcs[gf]? = some fn) (hb : fn.body = some c) (hc : unseq c = l1 ++ [.block id (.loop body)])
    {encs : α → Array Value} {ok : α → Prop} {dec : List AV → Option α} (hdec : DecOk dec encs ok)
    {n nt : Nat} {ins its : List Item} {F : D (tysI ins []) → Option (List α)} (hlen : ∀ d, (bldS n ins d).tmps.length = n) (hown : ∀ d, ownAll (bldS n ins d).heap = true)
    (L : Nat → Nat → D (tysI its []) → Option (List (Nat × α))) (fuel : Nat) (h0 : ∀ l d, L 0 l d = none)
    (hs : ∀ k l d, evICode P (cal _) (qcal _) dec body (bldY l nt its d) (kIL P fn nt its id (L k)) = L (k + 1) l d)
    (h : ∀ l d, evIL P (cal _) (qcal _) dec l1 (itHead fn n ins l d) (fun e st => match e with
      | .normal => kIL P fn nt its id (L fuel) .normal st
      | _ => none) = (F d).map (List.map fun x => (l, x))) : ItSpec P gf encs ok n ins F := by
  refine itSpec_of hf hb hlen hown fun d xs l0 J Jx hd hy M O a W hr => ?_
  have h1 := h l0 d
  rw [hd] at h1
  refine wl_code ?_
  rw [hc]
  refine evIL_sound hP (hcal _) (hq _) hy hdec l1 _ _ _ h1 M O a W hr fun e M' st' O' L' a' W' hk hr' => ?_
  cases e <;> simp only [reduceCtorEq] at hk
  simp only [kIL] at hk
  split at hk
  · rename_i l hl
    simp only [Option.bind_eq_some_iff] at hk
    obtain ⟨d1, hd1, hk⟩ := hk
    obtain ⟨M1, hr1⟩ := bldY_rel hr' hl hd1
    show (Code.block id (.loop body)).wpIn Fence.wide 0 P _ a' W'
    refine wpIn_block ?_
    refine wpIn_loop_ind (fun m a' w' => ∃ l' d' M' O' L', L m l' d' = some L' ∧ ItRel xs l0 J Jx M' (bldY l' nt its d') O' L' a' w') (m := fuel) ⟨l, d1, M1, O', L', hk, hr1⟩ ?_
    rintro m a1 w1 ⟨l2, d2, M2, O2, L2, h2, hr2⟩
    cases m with
    | zero => rw [h0] at h2; cases h2
    | succ m =>
      rw [← hs] at h2
      refine evICode_sound hP (hcal _) (hq _) hy hdec body _ _ _ h2 M2 O2 a1 w1 _ hr2 fun e M' st' O' L' a' W' hk hr' => ?_
      cases e with
      | normal =>
        simp only [kIL] at hk
        split at hk
        · rename_i l3 hl3
          simp only [Option.bind_eq_some_iff] at hk
          obtain ⟨d3, hd3, hk⟩ := hk
          obtain ⟨M3, hr3⟩ := bldY_rel hr' hl3 hd3
          exact ⟨m, by omega, l3, d3, M3, O', L', hk, hr3⟩
        · cases hk
      | exit j =>
        simp only [kIL] at hk
        split at hk
        · rename_i hj
          subst hj
          have := kIEnd_nil hk
          subst this
          show if j = j then _ else _
          rw [if_pos rfl]
          exact ⟨M', st', O', hk, hr'⟩
        · cases hk
      | ret =>
        simp only [kIL] at hk
        have := kIEnd_nil hk
        subst this
        exact ⟨M', st', O', hk, hr'⟩
      | goto t => simp only [kIL] at hk; cases hk
      | panic ch => simp only [kIL] at hk; cases hk
      | outgrown => simp only [kIL] at hk; cases hk
  · cases hk
end Go.AE
set_option linter.unusedVariables false
set_option linter.unusedSimpArgs false
namespace Go.AE
open Go Go.RowKit
def encsII (x : Int × Int) : Array Value := #[.int .i64 x.1, .int .i64 x.2]
def encII (x : Int × Int) : List AV := [.int .i64 none x.1, .int .i64 none x.2]
def okII (x : Int × Int) : Prop := IntKind.i64.has x.1 ∧ IntKind.i64.has x.2
def decII : List AV → Option (Int × Int)
  | [.int .i64 _ x, .int .i64 _ y] => some (x, y)
  | _ => none
theorem decII_ok : DecOk decII encsII okII := by
  intro M args vs x hl h
  unfold decII at h
  split at h
  · cases h
    obtain ⟨v, r, rfl, h1, h2⟩ := RelL_cons.1 hl
    obtain ⟨v2, r2, rfl, h3, h4⟩ := RelL_cons.1 h2
    rw [RelL_nil] at h4
    subst h4
    obtain ⟨e1, g1, _⟩ := relV_int h1
    obtain ⟨e2, g2, _⟩ := relV_int h3
    subst e1 e2
    exact ⟨rfl, g1, g2⟩
  · cases h
theorem encII_rel (x : Int × Int) (h : okII x) (M : List Place) : RelL M (encII x) (encsII x).toList :=
  RelL_cons.2 ⟨_, _, rfl, RelX_int.2 ⟨rfl, h.1, fun m hm => by cases hm⟩, RelL_cons.2 ⟨_, _, rfl, RelX_int.2 ⟨rfl, h.2, fun m hm => by cases hm⟩, RelL_nil.2 rfl⟩⟩
def fst1 {α : Type} (l : Nat) (x : α) (r : Option (List (Nat × α))) : Option (List (Nat × α)) := r.bind fun L => (some ([] : List (Nat × α))).bind fun L2 => match L2 with
  | [] => some ((l, x) :: L)
  | _ => none
def cons1 {α : Type} (x : α) (r : Option (List α)) : Option (List α) := r.bind fun L => some (x :: L)
abbrev Tag (α : Type) := Option (List (Nat × α))
def sizesS (hf : Int → Option (Int × Unit)) (rec : Nat → Int → Int → Tag (Int × Int)) (l : Nat) (w h : Int) : Tag (Int × Int) :=
  cond (decide ((1 : Int) ≤ w)) (cond (decide ((1 : Int) ≤ h)) (fst1 l (w, h) (cond (decide ((1 : Int) < w)) ((hf w).bind fun a => (hf h).bind fun b => rec l a.1 b.1) (cond (decide ((1 : Int) < h)) ((hf w).bind fun a => (hf h).bind fun b => rec l a.1 b.1) (some [])))) (some [])) (some [])
def sizesT (hf : Int → Option (Int × Unit)) : Nat → Nat → Int → Int → Tag (Int × Int)
  | 0, _, _, _ => none
  | k + 1, l, w, h => sizesS hf (sizesT hf k) l w h
def sizesL (hf : Int → Option (Int × Unit)) : Nat → Int → Int → Option (List (Int × Int))
  | 0, _, _ => none
  | k + 1, w, h => cond (decide ((1 : Int) ≤ w)) (cond (decide ((1 : Int) ≤ h)) (cons1 (w, h) (cond (decide ((1 : Int) < w)) ((hf w).bind fun a => (hf h).bind fun b => sizesL hf k a.1 b.1) (cond (decide ((1 : Int) < h)) ((hf w).bind fun a => (hf h).bind fun b => sizesL hf k a.1 b.1) (some [])))) (some [])) (some [])
theorem fst1_tag {α : Type} (l : Nat) (x : α) (r : Option (List α)) : fst1 l x (r.map (List.map fun x => (l, x))) = (cons1 x r).map (List.map fun x => (l, x)) := by
  cases r <;> rfl
theorem bind_map {α β γ : Type} (x : Option α) (f : α → Option β) (g : β → γ) : (x.bind f).map g = x.bind fun a => (f a).map g := by cases x <;> rfl
theorem cond_map {β γ : Type} (b : Bool) (x y : Option β) (g : β → γ) : (cond b x y).map g = cond b (x.map g) (y.map g) := by cases b <;> rfl
theorem sizes_tag (hf : Int → Option (Int × Unit)) (l : Nat) : ∀ (k : Nat) (w h : Int), sizesT hf k l w h = (sizesL hf k w h).map (List.map fun x => (l, x))
  | 0, w, h => rfl
  | k + 1, w, h => by
    have ih : sizesT hf k l = fun a b => (sizesL hf k a b).map (List.map fun x => (l, x)) := funext fun a => funext fun b => sizes_tag hf l k a b
    show sizesS hf (sizesT hf k) l w h = _
    unfold sizesS sizesL
    simp only [cond_map, ← fst1_tag, bind_map, ih]
    rfl
def levelsS (sd : Int → Int → Option (Int × Unit)) (rec : Nat → Int → Int → Int → Int → Tag (Int × Int)) (l : Nat) (n i w h : Int) : Tag (Int × Int) :=
  cond (decide (i < n)) ((sd w i).bind fun a => (sd h i).bind fun b => fst1 l (a.1, b.1) (rec l n (IntKind.i64.wrap (i + 1)) w h)) (some [])
def levelsT (sd : Int → Int → Option (Int × Unit)) : Nat → Nat → Int → Int → Int → Int → Tag (Int × Int)
  | 0, _, _, _, _, _ => none
  | k + 1, l, n, i, w, h => levelsS sd (levelsT sd k) l n i w h
def levelsL (sd : Int → Int → Option (Int × Unit)) : Nat → Int → Int → Int → Int → Option (List (Int × Int))
  | 0, _, _, _, _ => none
  | k + 1, n, i, w, h => cond (decide (i < n)) ((sd w i).bind fun a => (sd h i).bind fun b => cons1 (a.1, b.1) (levelsL sd k n (IntKind.i64.wrap (i + 1)) w h)) (some [])
theorem levels_tag (sd : Int → Int → Option (Int × Unit)) (l : Nat) : ∀ (k : Nat) (n i w h : Int), levelsT sd k l n i w h = (levelsL sd k n i w h).map (List.map fun x => (l, x))
  | 0, n, i, w, h => rfl
  | k + 1, n, i, w, h => by
    have ih : levelsT sd k l = fun n i w h => (levelsL sd k n i w h).map (List.map fun x => (l, x)) := funext fun n => funext fun i => funext fun w => funext fun h => levels_tag sd l k n i w h
    show levelsS sd (levelsT sd k) l n i w h = _
    unfold levelsS levelsL
    simp only [cond_map, ← fst1_tag, bind_map, ih]
    rfl
def rngPs : List Code → Array Tmp
  | .block _ (.rangeFunc _ ps _ _) :: _ => ps
  | _ => #[]
def rngAssign : List Code → Code
  | .block _ (.rangeFunc _ _ a _) :: _ => a
  | _ => .skip
def rngBody : List Code → Code
  | .block _ (.rangeFunc _ _ _ b) :: _ => b
  | _ => .skip
def isRng (out g : Nat) : List Code → Bool
  | .block o (.rangeFunc (.tmp t) _ _ _) :: _ => o == out && t == g
  | _ => false
theorem rng_split {c : Code} {k out g : Nat} (h : isRng out g ((unseq c).drop k) = true) : unseq c = (unseq c).take k ++ .block out (.rangeFunc (.tmp g) (rngPs ((unseq c).drop k)) (rngAssign ((unseq c).drop k)) (rngBody ((unseq c).drop k))) :: (unseq c).drop (k + 1) := by
  conv => lhs; rw [← List.take_append_drop k (unseq c)]
  congr 1
  rw [← List.drop_drop (i := 1) (j := k)]
  generalize (unseq c).drop k = l at h ⊢
  unfold isRng at h
  split at h
  · simp only [Bool.and_eq_true, beq_iff_eq] at h
    obtain ⟨rfl, rfl⟩ := h
    rfl
  · cases h
def loopEnd : List Code → Code
  | [.block _ (.loop b)] => b
  | _ => .skip
def isLoopEnd (id : Nat) : List Code → Bool
  | [.block i (.loop _)] => i == id
  | _ => false
theorem loop_split {c : Code} {k id : Nat} (h : isLoopEnd id ((unseq c).drop k) = true) : unseq c = (unseq c).take k ++ [.block id (.loop (loopEnd ((unseq c).drop k)))] := by
  conv => lhs; rw [← List.take_append_drop k (unseq c)]
  congr 1
  generalize (unseq c).drop k = l at h ⊢
  unfold isLoopEnd at h
  split at h
  · simp only [beq_iff_eq] at h
    subst h
    rfl
  · cases h
end Go.AE
set_option linter.unusedVariables false
set_option linter.unusedSimpArgs false
namespace Go.AE
open Go Go.RowKit Go.Deep Go.ChangeShapes Go.WideShapes
section
variable {H : Type} {enc : TypeId × Value → H} {P : Program} {w : World} {held : Bool}
end
def EK.wf : (e : EK) → e.den → Prop
  | .row k sz, l => (∀ z ∈ (l : List Int), k.has z) ∧ (sz = 1 → IntKind.i64.has ((l : List Int).length : Int))
  | .pair, x => (IsBytes x.1 ∧ IntKind.i64.has (x.1.length : Int)) ∧ IsBytes x.2 ∧ IntKind.i64.has (x.2.length : Int)
  | _, _ => True
end Go.AE
set_option linter.unusedVariables false
set_option linter.unusedSimpArgs false
namespace Go.AE
open Go Go.RowKit
theorem eq_held {P : Program} {ti tn : TypeId} {k : IntKind} {ms : Array (String × TypeId)} (w : World) (a b : Int) (h1 : P.underlying ti = some (.interface ms)) (h2 : P.underlying tn = some (.int k)) (h3 : (P.info? tn).map (·.comparable) = some true) :
    (binOp .eql ti (.iface tn (.int k a)) (.iface tn (.int k b))).run P w = .ok (.bool (a == b)) w := by
  obtain ⟨i, h4, h5⟩ := Option.map_eq_some_iff.1 h3
  have inner : ∀ d : Nat, (Op.equalIn (d + 2) ti (.iface tn (.int k a)) (.iface tn (.int k b))).run P w = .ok (a == b) w := fun d => by
    simp [Op.equalIn, run_underlying h1, run_underlying h2, typeInfo, h4, h5]
  have := inner 9998
  simp only [binOp]
  simp [Op.equal, Op.maxDepth, this]
theorem is_told {P : Program} {f : FuncId} {T : TypeId} (h : ∀ (a b : Int) (w : World), Calls P f #[.iface T (.int .i64 a), .iface T (.int .i64 b)] w fun e w' => e = .returned (.bool (a == b)) ∧ w' = w) :
    FnSpec P f 2 [.ifc 0 T .i64, .ifc 1 T .i64] [.ty .bool] (u2 fun a b => some (a == b, ())) := by
  rintro ⟨a, b, ⟨⟩⟩ r hr M B w vs hl hH
  cases hr
  have e : (bldS 2 [.ifc 0 T .i64, .ifc 1 T .i64] (a, b, ())).tmps = [.iface T (.int .i64 none a), .iface T (.int .i64 none b)] := rfl
  rw [e] at hl
  obtain ⟨v1, t1, e1, r1, hl⟩ := RelL_cons.1 hl
  obtain ⟨v2, t2, e2, r2, hl⟩ := RelL_cons.1 hl
  rw [RelL_nil] at hl
  subst hl e2
  simp only [RelX] at r1 r2
  obtain ⟨y1, g1, q1, _⟩ := r1
  obtain ⟨y2, g2, q2, _⟩ := r2
  have g1 : v1 = .iface T y1 := by simpa using g1
  have q1 : y1 = .int .i64 a := by simpa using q1
  have g2 : v2 = .iface T y2 := by simpa using g2
  have q2 : y2 = .int .i64 b := by simpa using q2
  subst g1 q1 g2 q2
  have ev : vs = #[.iface T (.int .i64 a), .iface T (.int .i64 b)] := by
    apply Array.ext'
    rw [e1]
  subst ev
  refine (h a b w).mono ?_
  rintro e w' ⟨rfl, hw⟩
  rw [hw]
  refine ⟨#[.bool (a == b)], rfl, Beneath.refl B w, [], [], News.nil B w, rfl, fun k ob h => FzAt.nil h, fun k ob h => absurd h FzAt.nil, fun i pi oi h => (by simp at h), fun M => ?_, fun M pin c h => (by cases h)⟩
  refine RelL_cons.2 ⟨_, _, rfl, ?_, RelL_nil.2 rfl⟩
  show RelX _ (.bool none (a == b)) _
  simp [RelX]
end Go.AE
set_option linter.unusedVariables false
set_option linter.unusedSimpArgs false
namespace Go.AE
open Go Go.RowKit
theorem bytes_of_has {l : List Int} (h : ∀ x ∈ l, IntKind.u8.has x) : IsBytes l := by
  intro x hx
  have := has_iff.1 (h x hx)
  simp only [loB, hiB] at this
  omega
theorem bytesOf_inj {a b : List Int} (ha : IsBytes a) (hb : IsBytes b) (h : Go.Lib.bytesOf a = Go.Lib.bytesOf b) : a = b := by
  have key : ∀ l : List Int, IsBytes l → (Go.Lib.bytesOf l).map (fun x => (x.toNat : Int)) = l := by
    intro l hl
    unfold Go.Lib.bytesOf
    simp only [List.map_map]
    conv => rhs; rw [← List.map_id l]
    refine List.map_congr_left fun x hx => ?_
    simp only [Function.comp, id]
    exact u8_back (hl x hx)
  rw [← key a ha, ← key b hb, h]
theorem fz_cell {M : List Place} {H : Heap} {B : Base} {w : World} (r : RelH M H B w) {blk : Nat} {cs : Array Value} {el : TypeId} {fz : Nat × Nat} (h : FzAt M blk (.cells cs el fz)) {i : Nat} {v : Value} (hv : cs[i]? = some v) : w.cell? ⟨blk, i, none⟩ = some v := by
  have := (r.fz _ _ h).1
  simp [World.cell?, this, hv]
theorem row_holds {M : List Place} {H : Heap} {B : Base} {w : World} (r : RelH M H B w) {l : List Int} {v : Value} (h : RowFz M .u8 1 l v) : Go.Lib.HoldsBytes w v (Go.Lib.bytesOf l) := by
  obtain ⟨A, len, cap, rfl, h1, h2, h3, h4, h5⟩ := h
  rw [Nat.mul_one] at h2 h5
  have hlen : (Go.Lib.bytesOf l).length = len := by rw [Go.Lib.bytesOf_length, h2]
  refine ⟨A, cap, by rw [hlen], ?_, ?_⟩
  · rintro rfl
    rcases h5 with h5 | ⟨_, _, _, _, _, h6, _⟩
    · have : l.length = 0 := by omega
      rw [List.length_eq_zero_iff.1 this]; rfl
    · cases h6
  · rintro a rfl i x hx
    have hi : i < l.length := by rw [← Go.Lib.bytesOf_length]; exact (List.getElem?_eq_some_iff.1 hx).1
    rcases h5 with h5 | ⟨blk, off, cs, el, fz, h6, h7, h8, h9⟩
    · omega
    · cases h6
      rw [Go.Proofs.Lib.add_plain2]
      refine fz_cell r h7 ?_
      have hx' : x = UInt8.ofNat (l[i]).toNat := by
        have := (List.getElem?_eq_some_iff.1 hx).2
        rw [← this]
        simp [Go.Lib.bytesOf]
      have e : ((cs.toList.drop off).take len)[i]? = some (.int .u8 (l[i])) := by rw [h9]; simp [hi]
      rw [List.getElem?_take_of_lt (by omega), List.getElem?_drop, Array.getElem?_toList] at e
      rw [e, hx', u8_back (bytes_of_has h4 _ (List.getElem_mem hi))]
theorem relOut_empty {B : Base} {w' : World} (A : Option Addr) : RelOut B w' [.ty (.fsl .u8 1)] (([] : List Int), ()) [.slice A 0 0] := by
  refine ⟨[], [⟨true, 0, 0, 0, 0, noFz⟩], News.nil B w', rfl, fun k ob h => FzAt.nil h, fun k ob h => ?_, fun i pi oi h => (by simp at h), fun M => ?_, fun M pin c h => (by cases h)⟩
  · obtain ⟨i, pl, h, h'⟩ := h
    cases i <;> simp at h
    subst h; cases h'
  · refine RelL_cons.2 ⟨_, _, rfl, ?_, RelL_nil.2 rfl⟩
    show RelX _ (.fsl .u8 1 []) _
    simp only [RelX]
    exact ⟨_, rfl, A, 0, 0, rfl, Nat.le_refl _, rfl, (by simp [has_iff, loB, hiB]), fun x hx => (by cases hx), .inl rfl⟩
theorem relOut_fresh {M : List Place} {H : Heap} {B : Base} {w w' : World} (r : RelH M H B w) {l : List Int} {v : Value} (hl : IsBytes l) (hn : IntKind.i64.has (l.length : Int)) (hf : Go.Lib.FreshBytes w.heap.size w' v (Go.Lib.bytesOf l)) : RelOut B w' [.ty (.fsl .u8 1)] (l, ()) [v] := by
  obtain ⟨g, cap, zs, rfl, h1, h2, h3, h4, h5, h6, h7, h8⟩ := hf
  rw [Go.Lib.bytesOf_length] at h2 h6 ⊢
  have hz : zs.take l.length = l := bytesOf_inj (fun x hx => by have := h5 x (List.mem_of_mem_take hx); omega) hl h6
  by_cases hc : cap = 0
  · have h0 : l = [] := List.length_eq_zero_iff.1 (by omega)
    subst h0 hc
    exact relOut_empty _
  · have hb := h7 0 (by omega)
    obtain ⟨cs, el, fz, e1, _, _⟩ := worldCell (x := ⟨g, 0, none⟩) (i := 0) (by simpa [Addr.add] using hb)
    have e1 : w'.heap[g]? = some (.cells cs el fz) := e1
    have hcs : ∀ i, i < cap → cs[i]? = some (.int .u8 (zs.getD i 0)) := by
      intro i hi
      have := h7 i hi
      simpa [World.cell?, e1] using this
    have hsz : l.length ≤ cs.size := by
      by_cases h0 : l.length = 0
      · omega
      · have := (Array.getElem?_eq_some_iff.1 (hcs (l.length - 1) (by omega))).1
        omega
    have hrow : (cs.toList.drop 0).take l.length = l.map (.int .u8) := by
      apply List.ext_getElem?
      intro i
      by_cases hi : i < l.length
      · rw [List.getElem?_take_of_lt hi, List.drop_zero, Array.getElem?_toList, hcs i (by omega)]
        have : zs.getD i 0 = l[i] := by
          have e : (zs.take l.length)[i]? = l[i]? := by rw [hz]
          rw [List.getElem?_take_of_lt hi, List.getElem?_eq_getElem hi] at e
          simp [List.getD_eq_getElem?_getD, e]
        rw [this]
        simp [hi]
      · rw [List.getElem?_eq_none (by simp; omega), List.getElem?_eq_none (by simp; omega)]
    refine ⟨[], [⟨true, 0, 0, 0, 0, fun k => if k = g then some (.cells cs el fz) else none⟩], News.nil B w', rfl, fun k ob h => FzAt.nil h, fun k ob h => ?_, fun i pi oi h => (by simp at h), fun M => ?_, fun M pin c h => (by cases h)⟩
    · obtain ⟨i, pl, h, h'⟩ := h
      cases i <;> simp at h
      subst h
      simp only at h'
      split at h'
      · rename_i hk
        cases h'
        subst hk
        exact ⟨e1, (r.base _ h1).2, .inl (r.base _ h1).1⟩
      · cases h'
    · refine RelL_cons.2 ⟨_, _, rfl, ?_, RelL_nil.2 rfl⟩
      show RelX _ (.fsl .u8 1 l) _
      simp only [RelX]
      refine ⟨_, rfl, _, l.length, cap, rfl, h2, (by simp), hn, fun x hx => has_iff.2 (by have := hl x hx; simp only [loB, hiB]; omega), .inr ⟨g, 0, cs, el, fz, rfl, ?_, (by simpa using hsz), (by rw [Nat.mul_one]; exact hrow)⟩⟩
      refine FzAt.right M ⟨0, _, rfl, ?_⟩
      simp
theorem lens_bytes (ls : List (List Int)) : Go.Lib.lens (ls.map Go.Lib.bytesOf) = ls.flatten.length := by
  simp [Go.Lib.lens, List.map_map, Function.comp_def, Go.Lib.bytesOf_length, List.length_flatten]
theorem join_bytes (ls : List (List Int)) : Go.Lib.join (ls.map Go.Lib.bytesOf) [] = Go.Lib.bytesOf ls.flatten := by
  cases ls with
  | nil => rfl
  | cons x r => simp [Go.Lib.join_cons, Go.Lib.joinTail, Go.Lib.bytesOf, List.map_flatten, List.map_map, Function.comp_def]
theorem join_told {P : Program} {ρ : Go.Shelf.Ren} (L : Go.Proofs.SlLaysJ.n14 P ρ) :
    FnSpec P (ρ.f 14) 2 [.slot 0 (.dsl (.row .u8 1)), .const 1 .nils] [.ty (.fsl .u8 1)] (u1 fun a0 => cond (decide (a0.length ≤ 1099511627776) && decide (a0.flatten.length ≤ 1099511627776)) (some (a0.flatten, ())) none) := by
  rintro ⟨ls, ⟨⟩⟩ ⟨l', ⟨⟩⟩ hr M B w vs hl hH
  simp only [u1, u0] at hr
  cases hc : (decide (ls.length ≤ 1099511627776) && decide (ls.flatten.length ≤ 1099511627776)) with
  | false => rw [hc] at hr; cases hr
  | true =>
  rw [hc] at hr
  cases hr
  rw [Bool.and_eq_true, decide_eq_true_iff, decide_eq_true_iff] at hc
  obtain ⟨hn, ht⟩ := hc
  have e : (bldS 2 [.slot 0 (.dsl (.row .u8 1)), .const 1 .nils] (ls, ())).tmps = [.dsl ⟨.row .u8 1, ls⟩, .nils] := rfl
  rw [e] at hl
  obtain ⟨v1, t1, e1, r1, hl⟩ := RelL_cons.1 hl
  obtain ⟨v2, t2, e2, r2, hl⟩ := RelL_cons.1 hl
  rw [RelL_nil] at hl
  subst hl e2
  simp only [RelX] at r1 r2
  obtain ⟨v1', g1, A, len, cap, rfl, h1, h2, h3, h4⟩ := r1
  have h2 : ls.length = len := h2
  have g1 : v1 = .slice A len cap := by simpa using g1
  have r2 : v2 = .slice none 0 0 := by simpa using r2
  subst g1 r2
  have ev : vs = #[.slice A len cap, .slice none 0 0] := by
    apply Array.ext'
    rw [e1]
  subst ev
  have hfl : ∀ (l : List Int), l ∈ ls → IsBytes l := by
    intro l hl
    obtain ⟨i, hi, rfl⟩ := List.getElem_of_mem hl
    rcases h4 with h4 | ⟨blk, off, cs, el, fz, _, _, _, h5⟩
    · omega
    · obtain ⟨v, _, _, _, _, _, _, _, _, h, _⟩ := h5 i ls[i] (List.getElem?_eq_getElem hi)
      exact bytes_of_has h
  have hfb : IsBytes ls.flatten := by
    intro x hx
    obtain ⟨l, hl, hx⟩ := List.mem_flatten.1 hx
    exact hfl l hl x hx
  have hfn : IntKind.i64.has (ls.flatten.length : Int) := has_iff.2 (by simp only [loB, hiB]; omega)
  by_cases hz : len = 0
  · subst hz
    have h0 : ls = [] := List.length_eq_zero_iff.1 h2
    subst h0
    refine (Go.Proofs.Any.bytes_Join_none L A cap _ w).mono ?_
    rintro e w' ⟨rfl, hw⟩
    rw [hw]
    refine ⟨#[.slice (some ⟨w.heap.size, 0, none⟩) 0 0], rfl, Beneath.of ((Below.refl _ w).alloc (Nat.le_refl _) _), relOut_empty _⟩
  rcases h4 with h4 | ⟨blk, off, cs, el, fz, rfl, hf, hsz, h5⟩
  · exact absurd h4 hz
  have cellv : ∀ (i : Nat) (hi : i < len), ∃ v, w.cell? ⟨blk, off + i, none⟩ = some v ∧ RowFz M .u8 1 (ls.getD i []) v := by
    intro i hi
    have hi' : i < ls.length := by omega
    obtain ⟨v, hv, hrow⟩ := h5 i ls[i] (List.getElem?_eq_getElem hi')
    refine ⟨v, fz_cell hH hf ?_, by simpa [List.getD_eq_getElem?_getD, hi'] using hrow⟩
    have := congrArg (·[0]?) hv
    simp only [EK.w, Nat.mul_one] at this
    rw [List.getElem?_take_of_lt (by omega), List.getElem?_drop, Array.getElem?_toList] at this
    simpa using this
  by_cases h1' : len = 1
  · subst h1'
    obtain ⟨v, hv, hrow⟩ := cellv 0 (by omega)
    obtain ⟨l, rfl⟩ : ∃ l, ls = [l] := List.length_eq_one_iff.1 h2
    have hb := hfl l (by simp)
    have hh := row_holds hH hrow
    simp only [List.getD_cons_zero] at hrow hh
    rw [Nat.add_zero] at hv
    obtain ⟨p, c0, rfl, k1, k2⟩ := hh
    rw [Go.Lib.bytesOf_length] at hv
    simp only [List.flatten_cons, List.flatten_nil, List.append_nil] at ht hfn ⊢
    by_cases hl0 : l.length = 0
    · have : l = [] := List.length_eq_zero_iff.1 hl0
      subst this
      refine (Go.Proofs.Any.bytes_Join_one_empty L blk off cap p c0 _ w hv).mono ?_
      rintro e w' ⟨rfl, hw⟩
      rw [hw]
      exact ⟨#[.slice none 0 0], rfl, Beneath.refl B w, relOut_empty _⟩
    · cases p with
      | none => exact absurd (by have := congrArg List.length (k1 rfl); rwa [Go.Lib.bytesOf_length] at this) hl0
      | some ad =>
        refine (Go.Proofs.Any.bytes_Join_one L blk off cap ad c0 (Go.Lib.bytesOf l) _ w (by rw [Go.Lib.bytesOf_length]; exact hv) (k2 ad rfl) (by rw [Go.Lib.bytesOf_length]; omega) (by rw [Go.Lib.bytesOf_length]; omega)).mono ?_
        rintro e w' ⟨v', rfl, hfr, hbl⟩
        exact ⟨#[v'], rfl, Beneath.of hbl, relOut_fresh hH hb hfn hfr⟩
  · have hpa : Go.Lib.PartsAt w ⟨blk, off, none⟩ ((List.range len).map fun i => (w.cell? ⟨blk, off + i, none⟩).getD undef) (ls.map Go.Lib.bytesOf) := by
      refine ⟨by simp; exact h2.symm, fun i v hv => ?_, fun i v l hv hl => ?_⟩
      · have hi : i < len := by
          have := (List.getElem?_eq_some_iff.1 hv).1
          simpa using this
        obtain ⟨v', hc, _⟩ := cellv i hi
        rw [Go.Proofs.Lib.add_plain2]
        simp [hi, hc] at hv
        rw [hc, hv]
      · have hi : i < len := by
          have := (List.getElem?_eq_some_iff.1 hv).1
          simpa using this
        obtain ⟨v', hc, hrow⟩ := cellv i hi
        simp [hi, hc] at hv
        subst hv
        have hi' : i < ls.length := by omega
        have : l = Go.Lib.bytesOf (ls.getD i []) := by
          simp [hi'] at hl
          simp [List.getD_eq_getElem?_getD, hi', hl]
        rw [this]
        exact row_holds hH hrow
    refine (Go.Proofs.Any.bytes_Join_many L blk off len cap _ (ls.map Go.Lib.bytesOf) (.slice none 0 0) [] w (by simp; exact h2) (by omega) hpa h1 ⟨none, 0, rfl, fun _ => rfl, fun a h => by cases h⟩ (by omega) (by rw [lens_bytes]; simp only [List.length_nil, Nat.zero_mul, Nat.add_zero]; omega)).mono ?_
    rintro e w' ⟨v', rfl, hfr, hbl⟩
    rw [join_bytes] at hfr
    exact ⟨#[v'], rfl, Beneath.of hbl, relOut_fresh hH hfb hfn hfr⟩
end Go.AE
set_option linter.unusedSimpArgs false
set_option linter.unusedVariables false
namespace Go.AE.Gn
open Go Go.AE
def slices_Clone_byte_byte (F : Nat) (a0 : List Int) : Option (List Int × Unit) := cloneF 1 a0
def ref01_Same_l0S (F : Nat) (rec : List Int → List Int → Int → Option (Unit ⊕ Unit)) (x0 : List Int) (x1 : List Int) (x2 : Int) : Option (Unit ⊕ Unit) :=
  let v720 : Int := (((List.length x0) : Nat) : Int)
  cond (decide (x2 < v720))
    (cond ((decide ((0 : Int) ≤ x2)) && (decide (x2 < (((List.length x0) : Nat) : Int))))
      (cond ((decide ((0 : Int) ≤ x2)) && (decide (x2 < (((List.length x1) : Nat) : Int))))
        (cond ((List.getD x0 (Int.toNat x2) (0 : Int)) != (List.getD x1 (Int.toNat x2) (0 : Int)))
          (some (.inl ()))
          (rec x0 x1 (IntKind.wrap .i64 (x2 + (1 : Int)))))
        (none))
      (none))
    (some (.inr ()))
def ref01_Same_l0 (F : Nat) : Nat → List Int → List Int → Int → Option (Unit ⊕ Unit)
  | 0, _, _, _ => none
  | k + 1, x0, x1, x2 => ref01_Same_l0S F (ref01_Same_l0 F k) x0 x1 x2
def ref01_Same (F : Nat) (a0 : List Int) (a1 : List Int) : Option (Bool × Unit) :=
  cond ((((List.length a0) : Nat) : Int) != (((List.length a1) : Nat) : Int))
    (some (false, ()))
    ((ref01_Same_l0 F F a0 a1 (0 : Int)).bind fun r729 => match r729 with
      | .inl r729 => (some (false, ()))
      | .inr r729 => (some (true, ())))
end Go.AE.Gn
set_option linter.unusedSimpArgs false
set_option linter.unusedVariables false
namespace Go.AE.Gn
open Go Go.AE
def bctable_WeightsT6 : List Int := [0, 9, 18, 27, 37, 46, 55, 64]
def bctable_WeightsT7 : List Int := [0, 4, 9, 13, 17, 21, 26, 30, 34, 38, 43, 47, 51, 55, 60, 64]
end Go.AE.Gn
set_option linter.unusedSimpArgs false
set_option linter.unusedVariables false
namespace Go.AE.Gn
open Go Go.AE
def etctwo_DistanceT1261 : List Int := [3, 6, 11, 16, 23, 32, 41, 64]
end Go.AE.Gn
set_option linter.unusedSimpArgs false
set_option linter.unusedVariables false
namespace Go.AE.Gn
open Go Go.AE
def format_Of (F : Nat) (a0 : Int) : Option ((Int × (Int × (Bool × Unit))) × (Int × Unit)) :=
  cond (a0 == (1 : Int))
    (some (((8 : Int), ((7 : Int), (false, ()))), ((0 : Int), ())))
    (cond (a0 == (7 : Int))
      (some (((8 : Int), ((7 : Int), (false, ()))), ((0 : Int), ())))
      (cond (a0 == (8 : Int))
        (some (((8 : Int), ((7 : Int), (false, ()))), ((0 : Int), ())))
        (cond (a0 == (2 : Int))
          (some (((16 : Int), ((15 : Int), (false, ()))), ((0 : Int), ())))
          (cond (a0 == (3 : Int))
            (some (((16 : Int), ((15 : Int), (false, ()))), ((0 : Int), ())))
            (cond (a0 == (6 : Int))
              (some (((16 : Int), ((15 : Int), (false, ()))), ((0 : Int), ())))
              (cond (a0 == (10 : Int))
                (some (((16 : Int), ((15 : Int), (false, ()))), ((0 : Int), ())))
                (cond (a0 == (9 : Int))
                  (some (((8 : Int), ((15 : Int), (false, ()))), ((0 : Int), ())))
                  (cond (a0 == (4 : Int))
                    (some (((8 : Int), ((1 : Int), ((a0 == (11 : Int)), ()))), ((0 : Int), ())))
                    (let b12 : Bool := (a0 == (11 : Int))
                    cond b12
                      (some (((8 : Int), ((1 : Int), (b12, ()))), ((0 : Int), ())))
                      (cond (a0 == (5 : Int))
                        (some (((16 : Int), ((3 : Int), ((a0 == (12 : Int)), ()))), ((0 : Int), ())))
                        (let b15 : Bool := (a0 == (12 : Int))
                        cond b15
                          (some (((16 : Int), ((3 : Int), (b15, ()))), ((0 : Int), ())))
                          (some (((0 : Int), ((0 : Int), (false, ()))), ((5 : Int), ()))))))))))))))
def image_Tiles (F : Nat) (a0 : Int) (a1 : Int) : Option (Int × (Int × Unit)) :=
  cond (decide (a0 < (1 : Int)))
    (some ((0 : Int), ((0 : Int), ())))
    (cond (decide (a1 < (1 : Int)))
      (some ((0 : Int), ((0 : Int), ())))
      (some ((IntKind.wrap .i64 ((IntKind.wrap .i64 (Int.tdiv (IntKind.wrap .i64 (a0 - (1 : Int))) (4 : Int))) + (1 : Int))), ((IntKind.wrap .i64 ((IntKind.wrap .i64 (Int.tdiv (IntKind.wrap .i64 (a1 - (1 : Int))) (4 : Int))) + (1 : Int))), ()))))
def field_Times (F : Nat) (a0 : Int) (a1 : Int) : Option (Int × (Int × Unit)) :=
  cond (decide (a0 < (0 : Int)))
    (some ((0 : Int), ((1 : Int), ())))
    (cond (decide (a1 < (0 : Int)))
      (some ((0 : Int), ((1 : Int), ())))
      (cond (decide ((0 : Int) < a1))
        (cond (!(a1 == (0 : Int)))
          (let v3417 : Int := (IntKind.wrap .i64 (Int.tdiv (2147483647 : Int) a1))
          cond (decide (v3417 < a0))
            (some ((0 : Int), ((10 : Int), ())))
            (some ((IntKind.wrap .i64 (a0 * a1)), ((0 : Int), ()))))
          (none))
        (some ((IntKind.wrap .i64 (a0 * a1)), ((0 : Int), ())))))
def format_Bytes (F : Nat) (a0 : Int) (a1 : Int) (a2 : Int) : Option (Int × (Int × Unit)) :=
  (format_Of F a0).bind fun r3400 =>
  cond (r3400.2.1 != (0 : Int))
    (some ((0 : Int), (r3400.2.1, ())))
    (cond (decide (a1 < (1 : Int)))
      (some ((0 : Int), ((1 : Int), ())))
      (cond (decide (a2 < (1 : Int)))
        (some ((0 : Int), ((1 : Int), ())))
        ((image_Tiles F a1 a2).bind fun r3412 =>
        (field_Times F r3412.1 r3412.2.1).bind fun r3421 =>
        cond (r3421.2.1 != (0 : Int))
          (some ((0 : Int), (r3421.2.1, ())))
          ((field_Times F r3421.1 r3400.1.1).bind fun r3423 =>
          some (r3423.1, (r3423.2.1, ()))))))
def format_Code (F : Nat) (a0 : Int) (a1 : Int) : Option (Int × (Int × Unit)) := codeF a0 a1
def format_Letters (F : Nat) (a0 : List Int) : Option (Int × (Int × Unit)) := lettersF a0
def format_Format (F : Nat) (a0 : Int) (a1 : Int) : Option (Int × (Int × Unit)) := formatF a0 a1
end Go.AE.Gn
set_option linter.unusedSimpArgs false
set_option linter.unusedVariables false
namespace Go.AE.Gn
open Go Go.AE
def ref13_Of (F : Nat) (a0 : Int) : Option ((Int × (Int × (Bool × Unit))) × (Int × Unit)) :=
  cond (decide (a0 < (1 : Int)))
    (some (((0 : Int), ((0 : Int), (false, ()))), ((5 : Int), ())))
    (cond (decide ((12 : Int) < a0))
      (some (((0 : Int), ((0 : Int), (false, ()))), ((5 : Int), ())))
      (cond (a0 == (0 : Int))
        (some (((0 : Int), ((0 : Int), (false, ()))), ((0 : Int), ())))
        (cond (a0 == (1 : Int))
          (some (((8 : Int), ((7 : Int), (false, ()))), ((0 : Int), ())))
          (cond (a0 == (2 : Int))
            (some (((16 : Int), ((15 : Int), (false, ()))), ((0 : Int), ())))
            (cond (a0 == (3 : Int))
              (some (((16 : Int), ((15 : Int), (false, ()))), ((0 : Int), ())))
              (cond (a0 == (4 : Int))
                (some (((8 : Int), ((1 : Int), (false, ()))), ((0 : Int), ())))
                (cond (a0 == (5 : Int))
                  (some (((16 : Int), ((3 : Int), (false, ()))), ((0 : Int), ())))
                  (cond (a0 == (6 : Int))
                    (some (((16 : Int), ((15 : Int), (false, ()))), ((0 : Int), ())))
                    (cond (a0 == (7 : Int))
                      (some (((8 : Int), ((7 : Int), (false, ()))), ((0 : Int), ())))
                      (cond (a0 == (8 : Int))
                        (some (((8 : Int), ((7 : Int), (false, ()))), ((0 : Int), ())))
                        (cond (a0 == (9 : Int))
                          (some (((8 : Int), ((15 : Int), (false, ()))), ((0 : Int), ())))
                          (cond (a0 == (10 : Int))
                            (some (((16 : Int), ((15 : Int), (false, ()))), ((0 : Int), ())))
                            (cond (a0 == (11 : Int))
                              (some (((8 : Int), ((1 : Int), (true, ()))), ((0 : Int), ())))
                              (cond (a0 == (12 : Int))
                                (some (((16 : Int), ((3 : Int), (true, ()))), ((0 : Int), ())))
                                (none)))))))))))))))
def ref04_Tiles (F : Nat) (a0 : Int) (a1 : Int) : Option (Int × (Int × Unit)) :=
  cond (decide (a0 < (1 : Int)))
    (some ((0 : Int), ((0 : Int), ())))
    (cond (decide (a1 < (1 : Int)))
      (some ((0 : Int), ((0 : Int), ())))
      (some ((IntKind.wrap .i64 ((IntKind.wrap .i64 (Int.tdiv (IntKind.wrap .i64 (a0 - (1 : Int))) (4 : Int))) + (1 : Int))), ((IntKind.wrap .i64 ((IntKind.wrap .i64 (Int.tdiv (IntKind.wrap .i64 (a1 - (1 : Int))) (4 : Int))) + (1 : Int))), ()))))
def ref01_Times (F : Nat) (a0 : Int) (a1 : Int) : Option (Int × (Int × Unit)) :=
  cond (decide (a0 < (0 : Int)))
    (some ((0 : Int), ((1 : Int), ())))
    (cond (decide (a1 < (0 : Int)))
      (some ((0 : Int), ((1 : Int), ())))
      (cond (a0 == (0 : Int))
        (some ((0 : Int), ((0 : Int), ())))
        (cond (a1 == (0 : Int))
          (some ((0 : Int), ((0 : Int), ())))
          (cond (!(a1 == (0 : Int)))
            (let v3688 : Int := (IntKind.wrap .i64 (Int.tdiv (2147483647 : Int) a1))
            cond (decide (v3688 < a0))
              (some ((0 : Int), ((10 : Int), ())))
              (some ((IntKind.wrap .i64 (a0 * a1)), ((0 : Int), ()))))
            (none)))))
def ref13_Bytes (F : Nat) (a0 : Int) (a1 : Int) (a2 : Int) : Option (Int × (Int × Unit)) :=
  (ref13_Of F a0).bind fun r3670 =>
  cond (r3670.2.1 != (0 : Int))
    (some ((0 : Int), (r3670.2.1, ())))
    (cond (decide (a1 < (1 : Int)))
      (some ((0 : Int), ((1 : Int), ())))
      (cond (decide (a2 < (1 : Int)))
        (some ((0 : Int), ((1 : Int), ())))
        ((ref04_Tiles F a1 a2).bind fun r3682 =>
        (ref01_Times F r3682.1 r3682.2.1).bind fun r3691 =>
        cond (r3691.2.1 != (0 : Int))
          (some ((0 : Int), (r3691.2.1, ())))
          ((ref01_Times F r3691.1 r3670.1.1).bind fun r3693 =>
          some (r3693.1, (r3693.2.1, ()))))))
def ref13_codesT3702 : List Int := [0, 71, 74, 77, 80, 83, 98, 0, 0, 0, 0, 0, 0]
def ref13_codesT3703 : List Int := [0, 33776, 33778, 33779, 36283, 36285, 36492, 36196, 37492, 37494, 37496, 37488, 37490]
def ref13_codes (F : Nat) (a0 : Int) : Option (List Int × Unit) :=
  cond (a0 == (1 : Int))
    (some (ref13_codesT3702, ()))
    (some (ref13_codesT3703, ()))
def ref13_Code (F : Nat) (a0 : Int) (a1 : Int) : Option (Int × (Int × Unit)) :=
  (ref13_Of F a0).bind fun r3697 =>
  cond (r3697.2.1 != (0 : Int))
    (some ((0 : Int), (r3697.2.1, ())))
    (cond (a1 != (1 : Int))
      (cond (a1 != (2 : Int))
        (some ((0 : Int), ((1 : Int), ())))
        ((ref13_codes F a1).bind fun r3705 =>
        let n3706 : Nat := (List.length r3705.1)
        cond ((decide ((0 : Int) ≤ a0)) && (decide (a0 < ((n3706 : Nat) : Int))))
          (let v3709 : Int := (List.getD r3705.1 (Int.toNat a0) (0 : Int))
          cond (v3709 == (0 : Int))
            (some ((0 : Int), ((9 : Int), ())))
            (some (v3709, ((0 : Int), ()))))
          (none)))
      ((ref13_codes F a1).bind fun r3711 =>
      let n3712 : Nat := (List.length r3711.1)
      cond ((decide ((0 : Int) ≤ a0)) && (decide (a0 < ((n3712 : Nat) : Int))))
        (let v3715 : Int := (List.getD r3711.1 (Int.toNat a0) (0 : Int))
        cond (v3715 == (0 : Int))
          (some ((0 : Int), ((9 : Int), ())))
          (some (v3715, ((0 : Int), ()))))
        (none)))
def ref13_Format_l0S (F : Nat) (rec : Int → List Int → Int → Option ((Int × Unit) ⊕ Unit)) (x0 : Int) (x1 : List Int) (x2 : Int) : Option ((Int × Unit) ⊕ Unit) :=
  let v3743 : Int := (((List.length x1) : Nat) : Int)
  cond (decide (x2 < v3743))
    (cond ((decide ((0 : Int) ≤ x2)) && (decide (x2 < (((List.length x1) : Nat) : Int))))
      (cond ((List.getD x1 (Int.toNat x2) (0 : Int)) == x0)
        (cond (x0 != (0 : Int))
          (some (.inl (x2, ())))
          (rec x0 x1 (IntKind.wrap .i64 (x2 + (1 : Int)))))
        (rec x0 x1 (IntKind.wrap .i64 (x2 + (1 : Int)))))
      (none))
    (some (.inr ()))
def ref13_Format_l0 (F : Nat) : Nat → Int → List Int → Int → Option ((Int × Unit) ⊕ Unit)
  | 0, _, _, _ => none
  | k + 1, x0, x1, x2 => ref13_Format_l0S F (ref13_Format_l0 F k) x0 x1 x2
def ref13_Format (F : Nat) (a0 : Int) (a1 : Int) : Option (Int × (Int × Unit)) :=
  cond (a1 != (1 : Int))
    (cond (a1 != (2 : Int))
      (some ((0 : Int), ((1 : Int), ())))
      (cond (a1 == (2 : Int))
        (cond (a0 == (33777 : Int))
          (some ((1 : Int), ((0 : Int), ())))
          ((ref13_codes F a1).bind fun r3723 =>
          (ref13_Format_l0 F F a0 r3723.1 (1 : Int)).bind fun r3752 => match r3752 with
            | .inl r3752 => (some (r3752.1, ((0 : Int), ())))
            | .inr r3752 => (some ((0 : Int), ((5 : Int), ())))))
        ((ref13_codes F a1).bind fun r3753 =>
        (ref13_Format_l0 F F a0 r3753.1 (1 : Int)).bind fun r3765 => match r3765 with
          | .inl r3765 => (some (r3765.1, ((0 : Int), ())))
          | .inr r3765 => (some ((0 : Int), ((5 : Int), ()))))))
    (cond (a1 == (2 : Int))
      (cond (a0 == (33777 : Int))
        (some ((1 : Int), ((0 : Int), ())))
        ((ref13_codes F a1).bind fun r3768 =>
        (ref13_Format_l0 F F a0 r3768.1 (1 : Int)).bind fun r3780 => match r3780 with
          | .inl r3780 => (some (r3780.1, ((0 : Int), ())))
          | .inr r3780 => (some ((0 : Int), ((5 : Int), ())))))
      ((ref13_codes F a1).bind fun r3781 =>
      (ref13_Format_l0 F F a0 r3781.1 (1 : Int)).bind fun r3793 => match r3793 with
        | .inl r3793 => (some (r3793.1, ((0 : Int), ())))
        | .inr r3793 => (some ((0 : Int), ((5 : Int), ())))))
def ref13_Letters (F : Nat) (a0 : List Int) : Option (Int × (Int × Unit)) :=
  cond ([(68 : Int), (88 : Int), (84 : Int), (49 : Int)] == a0)
    (some ((1 : Int), ((0 : Int), ())))
    (cond ([(68 : Int), (88 : Int), (84 : Int), (51 : Int)] == a0)
      (some ((2 : Int), ((0 : Int), ())))
      (cond ([(68 : Int), (88 : Int), (84 : Int), (53 : Int)] == a0)
        (some ((3 : Int), ((0 : Int), ())))
        (cond ([(65 : Int), (84 : Int), (73 : Int), (49 : Int)] == a0)
          (some ((4 : Int), ((0 : Int), ())))
          (cond ([(65 : Int), (84 : Int), (73 : Int), (50 : Int)] == a0)
            (some ((5 : Int), ((0 : Int), ())))
            (cond ([(66 : Int), (67 : Int), (52 : Int), (85 : Int)] == a0)
              (some ((4 : Int), ((0 : Int), ())))
              (cond ([(66 : Int), (67 : Int), (53 : Int), (85 : Int)] == a0)
                (some ((5 : Int), ((0 : Int), ())))
                (some ((0 : Int), ((5 : Int), ())))))))))
end Go.AE.Gn
set_option linter.unusedSimpArgs false
set_option linter.unusedVariables false
namespace Go.AE.Gn
open Go Go.AE
def mip_half (F : Nat) (a0 : Int) : Option (Int × Unit) :=
  some ((max (IntKind.wrap .i64 (Int.tdiv a0 (2 : Int))) (1 : Int)), ())
def mip_sizes_c1 (F : Nat) (a0 : Int) (a1 : Int) : Option (List (Int × Int)) := sizesL (mip_half F) F a0 a1
def mip_Levels_r (F : Nat) (x : Int × Int) (x0 : Int) : Option ((Int × Unit) ⊕ Unit) :=
  some (.inl ((IntKind.wrap .i64 (x0 + (1 : Int))), ()))
def mip_Levels (F : Nat) (a0 : Int) (a1 : Int) : Option (Int × Unit) :=
  (mip_sizes_c1 F a0 a1).bind fun l25 =>
  (runL (fun x => u1 (mip_Levels_r F x)) l25 ((0 : Int), ())).bind fun r26 => match r26 with
    | .inl r26 => (some (r26.1, ()))
    | .inr r26 => (none)
def mip_Side_r (F : Nat) (x : Int × Int) (x0 : Int) (x1 : Int) : Option ((Int × (Int × Unit)) ⊕ (Int × Unit)) :=
  cond (x0 == (0 : Int))
    (some (.inr (x.1, ())))
    (some (.inl ((IntKind.wrap .i64 (x0 - (1 : Int))), (x.1, ()))))
def mip_Side (F : Nat) (a0 : Int) (a1 : Int) : Option (Int × Unit) :=
  cond (decide (a1 < (0 : Int)))
    (some ((0 : Int), ()))
    ((mip_sizes_c1 F a0 (1 : Int)).bind fun l36 =>
    (runL (fun x => u2 (mip_Side_r F x)) l36 (a1, ((0 : Int), ()))).bind fun r37 => match r37 with
      | .inl r37 => (some (r37.2.1, ()))
      | .inr r37 => (some (r37.1, ())))
def layout_levels_c1 (F : Nat) (a0 : Int) (a1 : Int) (a2 : Int) : Option (List (Int × Int)) := levelsL (mip_Side F) F a0 0 a1 a2
def layout_Sizes_r (F : Nat) (x : Int × Int) (x0 : Int) (x1 : List Int) : Option ((Int × (List Int × Unit)) ⊕ (Int × Unit)) :=
  (format_Bytes F x0 x.1 x.2).bind fun r95 =>
  cond (r95.2.1 != (0 : Int))
    (some (.inr (r95.2.1, ())))
    (cond ((decide (((List.length x1) + 1) ≤ 1099511627776)) && true)
      (some (.inl (x0, ((x1 ++ [r95.1]), ()))))
      (none))
def layout_Sizes (F : Nat) (a0 : Int) (a1 : Int) (a2 : Int) (a3 : Int) : Option (List Int × (Int × Unit)) :=
  (format_Of F a0).bind fun r79 =>
  cond (r79.2.1 != (0 : Int))
    (some ([], (r79.2.1, ())))
    (cond (decide (a1 < (1 : Int)))
      (some ([], ((1 : Int), ())))
      (cond (decide (a2 < (1 : Int)))
        (some ([], ((1 : Int), ())))
        (cond (decide (a3 < (1 : Int)))
          (some ([], ((1 : Int), ())))
          ((mip_Levels F a1 a2).bind fun r84 =>
          cond (decide (r84.1 < a3))
            (some ([], ((1 : Int), ())))
            ((layout_levels_c1 F a3 a1 a2).bind fun l100 =>
            (runL (fun x => u2 (layout_Sizes_r F x)) l100 (a0, ([], ()))).bind fun r101 => match r101 with
              | .inl r101 => (some (r101.2.1, ((0 : Int), ())))
              | .inr r101 => (some ([], (r101.1, ()))))))))
def field_Sum (F : Nat) (a0 : Int) (a1 : Int) : Option (Int × (Int × Unit)) :=
  cond (decide (a0 < (0 : Int)))
    (some ((0 : Int), ((1 : Int), ())))
    (cond (decide (a1 < (0 : Int)))
      (some ((0 : Int), ((1 : Int), ())))
      (cond (decide ((2147483647 : Int) < a0))
        (some ((0 : Int), ((10 : Int), ())))
        (let v114 : Int := (IntKind.wrap .i64 ((2147483647 : Int) - a0))
        cond (decide (v114 < a1))
          (some ((0 : Int), ((10 : Int), ())))
          (some ((IntKind.wrap .i64 (a0 + a1)), ((0 : Int), ()))))))
def layout_Texels_r (F : Nat) (x : Int × Int) (x0 : Int) (x1 : Int) (x2 : Int) (x3 : Int) (x4 : Int) (x5 : Int) (x6 : List (List Int)) (x7 : List (List Int × List Int)) (x8 : Int) (x9 : Int) (x10 : Int) : Option ((Int × (Int × (Int × (Int × (Int × (Int × (List (List Int) × (List (List Int × List Int) × (Int × (Int × (Int × Unit))))))))))) ⊕ (Int × Unit)) :=
  (field_Times F x.1 x.2).bind fun r123 =>
  cond (r123.2.1 != (0 : Int))
    (some (.inr (r123.2.1, ())))
    ((field_Sum F x8 r123.1).bind fun r125 =>
    cond (r125.2.1 != (0 : Int))
      (some (.inr (r125.2.1, ())))
      (some (.inl (x0, (x1, (x2, (x3, (x4, (x5, (x6, (x7, (r125.1, (r125.2.1, (x10, ()))))))))))))))
def layout_Texels (F : Nat) (a0 : (Int × (Int × (Int × (Int × (Int × (Int × (List (List Int) × (List (List Int × List Int) × Unit))))))))) : Option (Int × (Int × Unit)) :=
  let v105 : Int := (min (min (min (min a0.2.1 a0.2.2.1) a0.2.2.2.1) a0.2.2.2.2.1) a0.2.2.2.2.2.1)
  cond (decide (v105 < (1 : Int)))
    (some ((0 : Int), ((1 : Int), ())))
    ((mip_Levels F a0.2.1 a0.2.2.1).bind fun r107 =>
    let v108 : Int := (min a0.2.2.2.2.2.1 r107.1)
    (layout_levels_c1 F v108 a0.2.1 a0.2.2.1).bind fun l127 =>
    (runL (fun x => u11 (layout_Texels_r F x)) l127 (a0.1, (a0.2.1, (a0.2.2.1, (a0.2.2.2.1, (a0.2.2.2.2.1, (a0.2.2.2.2.2.1, (a0.2.2.2.2.2.2.1, (a0.2.2.2.2.2.2.2.1, ((0 : Int), ((0 : Int), (v108, ())))))))))))).bind fun r128 => match r128 with
      | .inl r128 => ((field_Sum F r128.2.2.2.2.2.2.2.2.1 (min (IntKind.wrap .i64 (r128.2.2.2.2.2.1 - r128.2.2.2.2.2.2.2.2.2.2.1)) (2147483647 : Int))).bind fun r131 =>
        cond (r131.2.1 != (0 : Int))
          (some ((0 : Int), (r131.2.1, ())))
          ((field_Times F r131.1 r128.2.2.2.2.1).bind fun r133 =>
          cond (r133.2.1 != (0 : Int))
            (some ((0 : Int), (r133.2.1, ())))
            ((field_Times F r133.1 r128.2.2.2.1).bind fun r135 =>
            some (r135.1, (r135.2.1, ())))))
      | .inr r128 => (some ((0 : Int), (r128.1, ()))))
def layout_in (F : Nat) (a0 : Int) (a1 : Int) : Option (Bool × Unit) :=
  cond (decide ((0 : Int) ≤ a0))
    (some ((decide (a0 < a1)), ()))
    (some (false, ()))
def layout_Index (F : Nat) (a0 : (Int × (Int × (Int × (Int × (Int × (Int × (List (List Int) × (List (List Int × List Int) × Unit))))))))) (a1 : Int) (a2 : Int) (a3 : Int) : Option (Int × Unit) :=
  some ((IntKind.wrap .i64 ((IntKind.wrap .i64 ((IntKind.wrap .i64 ((IntKind.wrap .i64 (a1 * a0.2.2.2.2.1)) + a2)) * a0.2.2.2.2.2.1)) + a3)), ())
def field_room (F : Nat) (a0 : List Int) (a1 : Int) (a2 : Int) : Option (Bool × Unit) :=
  let v169 : Int := (((List.length a0) : Nat) : Int)
  cond (decide (a1 ≤ v169))
    (let v171 : Int := (IntKind.wrap .i64 (v169 - a1))
    some ((decide (a2 ≤ v171)), ()))
    (some (false, ()))
def field_Part (F : Nat) (a0 : List Int) (a1 : Int) (a2 : Int) : Option (List Int × (Int × Unit)) :=
  cond (decide (a1 < (0 : Int)))
    (some ([], ((1 : Int), ())))
    (cond (decide (a2 < (0 : Int)))
      (some ([], ((1 : Int), ())))
      ((field_room F a0 a1 a2).bind fun r185 =>
      cond (!r185.1)
        (some ([], ((2 : Int), ())))
        (let v187 : Int := (IntKind.wrap .i64 (a1 + a2))
        cond ((decide ((0 : Int) ≤ a1)) && ((decide ((0 : Int) ≤ v187)) && ((decide ((0 : Int) ≤ v187)) && ((decide ((Int.toNat a1) ≤ (Int.toNat v187))) && ((decide ((Int.toNat v187) ≤ (List.length a0))) && (decide ((Int.toNat v187) = (Int.toNat v187))))))))
          ((slices_Clone_byte_byte F (List.take (psub (Int.toNat v187) (Int.toNat a1)) (List.drop (Int.toNat a1) a0))).bind fun r192 =>
          some (r192.1, ((0 : Int), ())))
          (none))))
def layout_Block (F : Nat) (a0 : (Int × (Int × (Int × (Int × (Int × (Int × (List (List Int) × (List (List Int × List Int) × Unit))))))))) (a1 : Int) (a2 : Int) (a3 : Int) (a4 : Int) (a5 : Int) : Option (List Int × (Int × Unit)) :=
  (layout_in F a1 a0.2.2.2.1).bind fun r197 =>
  cond (!r197.1)
    (some ([], ((1 : Int), ())))
    ((layout_in F a2 a0.2.2.2.2.1).bind fun r199 =>
    cond (!r199.1)
      (some ([], ((1 : Int), ())))
      ((layout_in F a3 a0.2.2.2.2.2.1).bind fun r201 =>
      cond (!r201.1)
        (some ([], ((1 : Int), ())))
        ((mip_Side F a0.2.1 a3).bind fun r203 =>
        (mip_Side F a0.2.2.1 a3).bind fun r204 =>
        (image_Tiles F r203.1 r204.1).bind fun r205 =>
        (layout_Index F (a0.1, (a0.2.1, (a0.2.2.1, (a0.2.2.2.1, (a0.2.2.2.2.1, (a0.2.2.2.2.2.1, (a0.2.2.2.2.2.2.1, (a0.2.2.2.2.2.2.2.1, ())))))))) a1 a2 a3).bind fun r206 =>
        (layout_in F a4 r205.1).bind fun r207 =>
        cond (!r207.1)
          (some ([], ((1 : Int), ())))
          ((layout_in F a5 r205.2.1).bind fun r209 =>
          cond (!r209.1)
            (some ([], ((1 : Int), ())))
            (let v211 : Int := (((List.length a0.2.2.2.2.2.2.1) : Nat) : Int)
            cond (decide (v211 ≤ r206.1))
              (some ([], ((1 : Int), ())))
              ((format_Of F a0.1).bind fun r213 =>
              cond ((decide ((0 : Int) ≤ r206.1)) && (decide (r206.1 < (((List.length a0.2.2.2.2.2.2.1) : Nat) : Int))))
                ((field_Part F (List.getD a0.2.2.2.2.2.2.1 (Int.toNat r206.1) []) (IntKind.wrap .i64 ((IntKind.wrap .i64 ((IntKind.wrap .i64 (a5 * r205.1)) + a4)) * r213.1.1)) r213.1.1).bind fun r219 =>
                cond (r219.2.1 != (0 : Int))
                  (some ([], ((1 : Int), ())))
                  (some (r219.1, ((0 : Int), ()))))
                (none)))))))
def ref17_Wide (F : Nat) : Option ((Int × (Int × (Int × Unit))) × Unit) :=
  some (((4096 : Int), ((100 : Int), ((1000000 : Int), ()))), ())
def layout_Header (F : Nat) (a0 : (Int × (Int × (Int × (Int × (Int × (Int × (List (List Int) × (List (List Int × List Int) × Unit))))))))) (a1 : (Int × (Int × (Int × Unit)))) : Option (Int × Unit) :=
  (format_Of F a0.1).bind fun r239 =>
  (layout_Texels F (a0.1, (a0.2.1, (a0.2.2.1, (a0.2.2.2.1, (a0.2.2.2.2.1, (a0.2.2.2.2.2.1, (a0.2.2.2.2.2.2.1, (a0.2.2.2.2.2.2.2.1, ()))))))))).bind fun r240 =>
  cond (r239.2.1 != (0 : Int))
    (some (r239.2.1, ()))
    (let v242 : Int := (min (min (min a0.2.1 a0.2.2.1) a0.2.2.2.1) a0.2.2.2.2.2.1)
    cond (decide (v242 < (1 : Int)))
      (some ((1 : Int), ()))
      (cond (a0.2.2.2.2.1 != (1 : Int))
        (cond (a0.2.2.2.2.1 != (6 : Int))
          (some ((1 : Int), ()))
          (cond (a0.2.2.2.2.1 == (6 : Int))
            (cond (a0.2.1 != a0.2.2.1)
              (some ((1 : Int), ()))
              ((mip_Levels F a0.2.1 a0.2.2.1).bind fun r248 =>
              cond (decide (r248.1 < a0.2.2.2.2.2.1))
                (some ((1 : Int), ()))
                (cond (decide (a1.1 < a0.2.1))
                  (some ((6 : Int), ()))
                  (cond (decide (a1.1 < a0.2.2.1))
                    (some ((6 : Int), ()))
                    (cond (decide (a1.2.1 < a0.2.2.2.1))
                      (some ((6 : Int), ()))
                      (cond (r240.2.1 != (0 : Int))
                        (some ((6 : Int), ()))
                        (cond (decide (a1.2.2.1 < r240.1))
                          (some ((6 : Int), ()))
                          (some ((0 : Int), ())))))))))
            ((mip_Levels F a0.2.1 a0.2.2.1).bind fun r255 =>
            cond (decide (r255.1 < a0.2.2.2.2.2.1))
              (some ((1 : Int), ()))
              (cond (decide (a1.1 < a0.2.1))
                (some ((6 : Int), ()))
                (cond (decide (a1.1 < a0.2.2.1))
                  (some ((6 : Int), ()))
                  (cond (decide (a1.2.1 < a0.2.2.2.1))
                    (some ((6 : Int), ()))
                    (cond (r240.2.1 != (0 : Int))
                      (some ((6 : Int), ()))
                      (cond (decide (a1.2.2.1 < r240.1))
                        (some ((6 : Int), ()))
                        (some ((0 : Int), ()))))))))))
        (cond (a0.2.2.2.2.1 == (6 : Int))
          (cond (a0.2.1 != a0.2.2.1)
            (some ((1 : Int), ()))
            ((mip_Levels F a0.2.1 a0.2.2.1).bind fun r264 =>
            cond (decide (r264.1 < a0.2.2.2.2.2.1))
              (some ((1 : Int), ()))
              (cond (decide (a1.1 < a0.2.1))
                (some ((6 : Int), ()))
                (cond (decide (a1.1 < a0.2.2.1))
                  (some ((6 : Int), ()))
                  (cond (decide (a1.2.1 < a0.2.2.2.1))
                    (some ((6 : Int), ()))
                    (cond (r240.2.1 != (0 : Int))
                      (some ((6 : Int), ()))
                      (cond (decide (a1.2.2.1 < r240.1))
                        (some ((6 : Int), ()))
                        (some ((0 : Int), ())))))))))
          ((mip_Levels F a0.2.1 a0.2.2.1).bind fun r271 =>
          cond (decide (r271.1 < a0.2.2.2.2.2.1))
            (some ((1 : Int), ()))
            (cond (decide (a1.1 < a0.2.1))
              (some ((6 : Int), ()))
              (cond (decide (a1.1 < a0.2.2.1))
                (some ((6 : Int), ()))
                (cond (decide (a1.2.1 < a0.2.2.2.1))
                  (some ((6 : Int), ()))
                  (cond (r240.2.1 != (0 : Int))
                    (some ((6 : Int), ()))
                    (cond (decide (a1.2.2.1 < r240.1))
                      (some ((6 : Int), ()))
                      (some ((0 : Int), ())))))))))))
def layout_data_l0S (F : Nat) (rec : Int → Int → Int → Int → Int → Int → List (List Int) → List (List Int × List Int) → List Int → List (List Int) → Int → Int → Option (Unit ⊕ Unit)) (x0 : Int) (x1 : Int) (x2 : Int) (x3 : Int) (x4 : Int) (x5 : Int) (x6 : List (List Int)) (x7 : List (List Int × List Int)) (x8 : List Int) (x9 : List (List Int)) (x10 : Int) (x11 : Int) : Option (Unit ⊕ Unit) :=
  cond (decide (x11 < x10))
    (cond ((decide ((0 : Int) ≤ x11)) && (decide (x11 < (((List.length x9) : Nat) : Int))))
      (cond (!(x5 == (0 : Int)))
        (cond ((decide ((0 : Int) ≤ (Int.tmod x11 x5))) && (decide ((Int.tmod x11 x5) < (((List.length x8) : Nat) : Int))))
          (cond ((((List.length (List.getD x9 (Int.toNat x11) [])) : Nat) : Int) != (List.getD x8 (Int.toNat (Int.tmod x11 x5)) (0 : Int)))
            (some (.inl ()))
            (rec x0 x1 x2 x3 x4 x5 x6 x7 x8 x9 x10 (IntKind.wrap .i64 (x11 + (1 : Int)))))
          (none))
        (none))
      (none))
    (some (.inr ()))
def layout_data_l0 (F : Nat) : Nat → Int → Int → Int → Int → Int → Int → List (List Int) → List (List Int × List Int) → List Int → List (List Int) → Int → Int → Option (Unit ⊕ Unit)
  | 0, _, _, _, _, _, _, _, _, _, _, _, _ => none
  | k + 1, x0, x1, x2, x3, x4, x5, x6, x7, x8, x9, x10, x11 => layout_data_l0S F (layout_data_l0 F k) x0 x1 x2 x3 x4 x5 x6 x7 x8 x9 x10 x11
def layout_data (F : Nat) (a0 : (Int × (Int × (Int × (Int × (Int × (Int × (List (List Int) × (List (List Int × List Int) × Unit))))))))) : Option (Bool × Unit) :=
  (layout_Sizes F a0.1 a0.2.1 a0.2.2.1 a0.2.2.2.2.2.1).bind fun r280 =>
  cond (r280.2.1 != (0 : Int))
    (some (false, ()))
    (let v283 : Int := (((List.length a0.2.2.2.2.2.2.1) : Nat) : Int)
    let b284 : Bool := (!(a0.2.2.2.2.2.1 == (0 : Int)))
    cond b284
      (cond ((Int.tmod v283 a0.2.2.2.2.2.1) != (0 : Int))
        (some (false, ()))
        (cond b284
          (cond ((IntKind.wrap .i64 (Int.tdiv v283 a0.2.2.2.2.2.1)) != (IntKind.wrap .i64 (a0.2.2.2.1 * a0.2.2.2.2.1)))
            (some (false, ()))
            ((layout_data_l0 F F a0.1 a0.2.1 a0.2.2.1 a0.2.2.2.1 a0.2.2.2.2.1 a0.2.2.2.2.2.1 a0.2.2.2.2.2.2.1 a0.2.2.2.2.2.2.2.1 r280.1 a0.2.2.2.2.2.2.1 v283 (0 : Int)).bind fun r325 => match r325 with
              | .inl r325 => (some (false, ()))
              | .inr r325 => (some (true, ()))))
          (none)))
      (none))
def internal_stringslite_IndexByte (F : Nat) (a0 : List Int) (a1 : Int) : Option (Int × Unit) :=
  some ((idxB a1 a0 (0 : Int)), ())
def strings_IndexByte (F : Nat) (a0 : List Int) (a1 : Int) : Option (Int × Unit) :=
  (internal_stringslite_IndexByte F a0 a1).bind fun r334 =>
  some (r334.1, ())
def layout_Check_c1 (F : Nat) (a0 : (List Int × (List Int × Unit))) : Option (Bool × Unit) :=
  cond (a0.1 == (bytesL (ByteArray.mk (List.toArray []))))
    (some (true, ()))
    ((strings_IndexByte F a0.1 (0 : Int)).bind fun r335 =>
    cond (decide ((0 : Int) ≤ r335.1))
      (some (true, ()))
      (let v339 : Int := (IntKind.wrap .i64 ((((List.length a0.1) : Nat) : Int) + (((List.length a0.2.1) : Nat) : Int)))
      some ((decide ((65535 : Int) < v339)), ())))
def slices_IndexFunc_api_Pair_api_Pair_Check_c1_l0S (F : Nat) (rec : List (List Int × List Int) → Int → Int → Option ((Int × Unit) ⊕ Unit)) (x0 : List (List Int × List Int)) (x1 : Int) (x2 : Int) : Option ((Int × Unit) ⊕ Unit) :=
  cond (decide (x2 < x1))
    (cond ((decide ((0 : Int) ≤ x2)) && (decide (x2 < (((List.length x0) : Nat) : Int))))
      (let d365 : (List Int × List Int) := (List.getD x0 (Int.toNat x2) ([], []))
      (layout_Check_c1 F (d365.1, (d365.2, ()))).bind fun r366 =>
      cond r366.1
        (some (.inl (x2, ())))
        (rec x0 x1 (IntKind.wrap .i64 (x2 + (1 : Int)))))
      (none))
    (some (.inr ()))
def slices_IndexFunc_api_Pair_api_Pair_Check_c1_l0 (F : Nat) : Nat → List (List Int × List Int) → Int → Int → Option ((Int × Unit) ⊕ Unit)
  | 0, _, _, _ => none
  | k + 1, x0, x1, x2 => slices_IndexFunc_api_Pair_api_Pair_Check_c1_l0S F (slices_IndexFunc_api_Pair_api_Pair_Check_c1_l0 F k) x0 x1 x2
def slices_IndexFunc_api_Pair_api_Pair_Check_c1 (F : Nat) (a0 : List (List Int × List Int)) : Option (Int × Unit) :=
  (slices_IndexFunc_api_Pair_api_Pair_Check_c1_l0 F F a0 (((List.length a0) : Nat) : Int) (0 : Int)).bind fun r368 => match r368 with
    | .inl r368 => (some (r368.1, ()))
    | .inr r368 => (some ((-(1 : Int)), ()))
def slices_ContainsFunc_api_Pair_api_Pair_Check_c1 (F : Nat) (a0 : List (List Int × List Int)) : Option (Bool × Unit) :=
  (slices_IndexFunc_api_Pair_api_Pair_Check_c1 F a0).bind fun r371 =>
  some ((decide ((0 : Int) ≤ r371.1)), ())
def layout_Check (F : Nat) (a0 : (Int × (Int × (Int × (Int × (Int × (Int × (List (List Int) × (List (List Int × List Int) × Unit))))))))) (a1 : (Int × (Int × (Int × Unit)))) : Option (Int × Unit) :=
  (layout_Header F (a0.1, (a0.2.1, (a0.2.2.1, (a0.2.2.2.1, (a0.2.2.2.2.1, (a0.2.2.2.2.2.1, (a0.2.2.2.2.2.2.1, (a0.2.2.2.2.2.2.2.1, ())))))))) (a1.1, (a1.2.1, (a1.2.2.1, ())))).bind fun r278 =>
  cond (r278.1 != (0 : Int))
    (some (r278.1, ()))
    ((layout_data F (a0.1, (a0.2.1, (a0.2.2.1, (a0.2.2.2.1, (a0.2.2.2.2.1, (a0.2.2.2.2.2.1, (a0.2.2.2.2.2.2.1, (a0.2.2.2.2.2.2.2.1, ()))))))))).bind fun r326 =>
    cond (!r326.1)
      (some ((1 : Int), ()))
      ((slices_ContainsFunc_api_Pair_api_Pair_Check_c1 F a0.2.2.2.2.2.2.2.1).bind fun r373 =>
      cond r373.1
        (some ((8 : Int), ()))
        (some ((0 : Int), ()))))
def ref05_Side_l0S (F : Nat) (rec : Int → Int → Int → Option (Int × Unit)) (x0 : Int) (x1 : Int) (x2 : Int) : Option (Int × Unit) :=
  cond (decide (x2 < x1))
    (cond (decide ((1 : Int) < x0))
      (rec (IntKind.wrap .i64 (Int.tdiv x0 (2 : Int))) x1 (IntKind.wrap .i64 (x2 + (1 : Int))))
      (some (x0, ())))
    (some (x0, ()))
def ref05_Side_l0 (F : Nat) : Nat → Int → Int → Int → Option (Int × Unit)
  | 0, _, _, _ => none
  | k + 1, x0, x1, x2 => ref05_Side_l0S F (ref05_Side_l0 F k) x0 x1 x2
def ref05_Side (F : Nat) (a0 : Int) (a1 : Int) : Option (Int × Unit) :=
  cond (decide (a0 < (1 : Int)))
    (some ((0 : Int), ()))
    (cond (decide (a1 < (0 : Int)))
      (some ((0 : Int), ()))
      ((ref05_Side_l0 F F a0 a1 (0 : Int)).bind fun r567 =>
      some (r567.1, ())))
def ref01_Sum (F : Nat) (a0 : Int) (a1 : Int) : Option (Int × (Int × Unit)) :=
  cond (decide (a0 < (0 : Int)))
    (some ((0 : Int), ((1 : Int), ())))
    (cond (decide (a1 < (0 : Int)))
      (some ((0 : Int), ((1 : Int), ())))
      (cond (decide ((2147483647 : Int) < a0))
        (some ((0 : Int), ((10 : Int), ())))
        (let v583 : Int := (IntKind.wrap .i64 ((2147483647 : Int) - a0))
        cond (decide (v583 < a1))
          (some ((0 : Int), ((10 : Int), ())))
          (some ((IntKind.wrap .i64 (a0 + a1)), ((0 : Int), ()))))))
def ref17_Texels_l0S (F : Nat) (rec : Int → Int → Int → Int → Int → Int → List (List Int) → List (List Int × List Int) → Int → Int → Option ((Int × Unit) ⊕ (Int × (Int × (Int × (Int × (Int × (Int × (List (List Int) × (List (List Int × List Int) × (Int × Unit))))))))))) (x0 : Int) (x1 : Int) (x2 : Int) (x3 : Int) (x4 : Int) (x5 : Int) (x6 : List (List Int)) (x7 : List (List Int × List Int)) (x8 : Int) (x9 : Int) : Option ((Int × Unit) ⊕ (Int × (Int × (Int × (Int × (Int × (Int × (List (List Int) × (List (List Int × List Int) × (Int × Unit)))))))))) :=
  cond (decide (x9 < x5))
    (cond (decide (x9 < (80 : Int)))
      ((ref05_Side F x1 x9).bind fun r599 =>
      (ref05_Side F x2 x9).bind fun r600 =>
      (ref01_Times F r599.1 r600.1).bind fun r601 =>
      cond (r601.2.1 != (0 : Int))
        (some (.inl (r601.2.1, ())))
        ((ref01_Sum F x8 r601.1).bind fun r603 =>
        cond (r603.2.1 != (0 : Int))
          (some (.inl (r603.2.1, ())))
          (rec x0 x1 x2 x3 x4 x5 x6 x7 r603.1 (IntKind.wrap .i64 (x9 + (1 : Int))))))
      (some (.inr (x0, (x1, (x2, (x3, (x4, (x5, (x6, (x7, (x8, ()))))))))))))
    (some (.inr (x0, (x1, (x2, (x3, (x4, (x5, (x6, (x7, (x8, ())))))))))))
def ref17_Texels_l0 (F : Nat) : Nat → Int → Int → Int → Int → Int → Int → List (List Int) → List (List Int × List Int) → Int → Int → Option ((Int × Unit) ⊕ (Int × (Int × (Int × (Int × (Int × (Int × (List (List Int) × (List (List Int × List Int) × (Int × Unit))))))))))
  | 0, _, _, _, _, _, _, _, _, _, _ => none
  | k + 1, x0, x1, x2, x3, x4, x5, x6, x7, x8, x9 => ref17_Texels_l0S F (ref17_Texels_l0 F k) x0 x1 x2 x3 x4 x5 x6 x7 x8 x9
def ref17_Texels (F : Nat) (a0 : (Int × (Int × (Int × (Int × (Int × (Int × (List (List Int) × (List (List Int × List Int) × Unit))))))))) : Option (Int × (Int × Unit)) :=
  cond (decide (a0.2.1 < (1 : Int)))
    (some ((0 : Int), ((1 : Int), ())))
    (cond (decide (a0.2.2.1 < (1 : Int)))
      (some ((0 : Int), ((1 : Int), ())))
      (cond (decide (a0.2.2.2.1 < (1 : Int)))
        (some ((0 : Int), ((1 : Int), ())))
        (cond (decide (a0.2.2.2.2.1 < (1 : Int)))
          (some ((0 : Int), ((1 : Int), ())))
          (cond (decide (a0.2.2.2.2.2.1 < (1 : Int)))
            (some ((0 : Int), ((1 : Int), ())))
            ((ref17_Texels_l0 F F a0.1 a0.2.1 a0.2.2.1 a0.2.2.2.1 a0.2.2.2.2.1 a0.2.2.2.2.2.1 a0.2.2.2.2.2.2.1 a0.2.2.2.2.2.2.2.1 (0 : Int) (0 : Int)).bind fun r606 => match r606 with
              | .inl r606 => (some ((0 : Int), (r606.1, ())))
              | .inr r606 => (cond (decide ((80 : Int) < r606.2.2.2.2.2.1))
                  ((ref01_Sum F r606.2.2.2.2.2.2.2.2.1 (min (IntKind.wrap .i64 (r606.2.2.2.2.2.1 - (80 : Int))) (2147483647 : Int))).bind fun r610 =>
                  cond (r610.2.1 != (0 : Int))
                    (some ((0 : Int), (r610.2.1, ())))
                    ((ref01_Times F r610.1 r606.2.2.2.2.1).bind fun r612 =>
                    cond (r612.2.1 != (0 : Int))
                      (some ((0 : Int), (r612.2.1, ())))
                      ((ref01_Times F r612.1 r606.2.2.2.1).bind fun r614 =>
                      some (r614.1, (r614.2.1, ())))))
                  ((ref01_Times F r606.2.2.2.2.2.2.2.2.1 r606.2.2.2.2.1).bind fun r615 =>
                  cond (r615.2.1 != (0 : Int))
                    (some ((0 : Int), (r615.2.1, ())))
                    ((ref01_Times F r615.1 r606.2.2.2.1).bind fun r617 =>
                    some (r617.1, (r617.2.1, ()))))))))))
def ref17_Same_l0S (F : Nat) (rec : Int → Int → Int → Int → Int → Int → List (List Int) → List (List Int × List Int) → Int → Int → Int → Int → Int → Int → List (List Int) → List (List Int × List Int) → Int → Option (Unit ⊕ (Int × (Int × (Int × (Int × (Int × (Int × (List (List Int) × (List (List Int × List Int) × (Int × (Int × (Int × (Int × (Int × (Int × (List (List Int) × (List (List Int × List Int) × Unit)))))))))))))))))) (x0 : Int) (x1 : Int) (x2 : Int) (x3 : Int) (x4 : Int) (x5 : Int) (x6 : List (List Int)) (x7 : List (List Int × List Int)) (x8 : Int) (x9 : Int) (x10 : Int) (x11 : Int) (x12 : Int) (x13 : Int) (x14 : List (List Int)) (x15 : List (List Int × List Int)) (x16 : Int) : Option (Unit ⊕ (Int × (Int × (Int × (Int × (Int × (Int × (List (List Int) × (List (List Int × List Int) × (Int × (Int × (Int × (Int × (Int × (Int × (List (List Int) × (List (List Int × List Int) × Unit))))))))))))))))) :=
  let v685 : Int := (((List.length x6) : Nat) : Int)
  cond (decide (x16 < v685))
    (cond ((decide ((0 : Int) ≤ x16)) && (decide (x16 < (((List.length x6) : Nat) : Int))))
      (cond ((decide ((0 : Int) ≤ x16)) && (decide (x16 < (((List.length x14) : Nat) : Int))))
        ((ref01_Same F (List.getD x6 (Int.toNat x16) []) (List.getD x14 (Int.toNat x16) [])).bind fun r691 =>
        cond (!r691.1)
          (some (.inl ()))
          (rec x0 x1 x2 x3 x4 x5 x6 x7 x8 x9 x10 x11 x12 x13 x14 x15 (IntKind.wrap .i64 (x16 + (1 : Int)))))
        (none))
      (none))
    (some (.inr (x0, (x1, (x2, (x3, (x4, (x5, (x6, (x7, (x8, (x9, (x10, (x11, (x12, (x13, (x14, (x15, ()))))))))))))))))))
def ref17_Same_l0 (F : Nat) : Nat → Int → Int → Int → Int → Int → Int → List (List Int) → List (List Int × List Int) → Int → Int → Int → Int → Int → Int → List (List Int) → List (List Int × List Int) → Int → Option (Unit ⊕ (Int × (Int × (Int × (Int × (Int × (Int × (List (List Int) × (List (List Int × List Int) × (Int × (Int × (Int × (Int × (Int × (Int × (List (List Int) × (List (List Int × List Int) × Unit)))))))))))))))))
  | 0, _, _, _, _, _, _, _, _, _, _, _, _, _, _, _, _, _ => none
  | k + 1, x0, x1, x2, x3, x4, x5, x6, x7, x8, x9, x10, x11, x12, x13, x14, x15, x16 => ref17_Same_l0S F (ref17_Same_l0 F k) x0 x1 x2 x3 x4 x5 x6 x7 x8 x9 x10 x11 x12 x13 x14 x15 x16
def ref17_Same_l2S (F : Nat) (rec : Int → Int → Int → Int → Int → Int → List (List Int) → List (List Int × List Int) → Int → Int → Int → Int → Int → Int → List (List Int) → List (List Int × List Int) → Int → Option (Unit ⊕ Unit)) (x0 : Int) (x1 : Int) (x2 : Int) (x3 : Int) (x4 : Int) (x5 : Int) (x6 : List (List Int)) (x7 : List (List Int × List Int)) (x8 : Int) (x9 : Int) (x10 : Int) (x11 : Int) (x12 : Int) (x13 : Int) (x14 : List (List Int)) (x15 : List (List Int × List Int)) (x16 : Int) : Option (Unit ⊕ Unit) :=
  let v710 : Int := (((List.length x7) : Nat) : Int)
  cond (decide (x16 < v710))
    (cond ((decide ((0 : Int) ≤ x16)) && (decide (x16 < (((List.length x7) : Nat) : Int))))
      (let d713 : (List Int × List Int) := (List.getD x7 (Int.toNat x16) ([], []))
      cond ((decide ((0 : Int) ≤ x16)) && (decide (x16 < (((List.length x15) : Nat) : Int))))
        (let d715 : (List Int × List Int) := (List.getD x15 (Int.toNat x16) ([], []))
        cond (!((d713.1 == d715.1) && (d713.2 == d715.2)))
          (some (.inl ()))
          (rec x0 x1 x2 x3 x4 x5 x6 x7 x8 x9 x10 x11 x12 x13 x14 x15 (IntKind.wrap .i64 (x16 + (1 : Int)))))
        (none))
      (none))
    (some (.inr ()))
def ref17_Same_l2 (F : Nat) : Nat → Int → Int → Int → Int → Int → Int → List (List Int) → List (List Int × List Int) → Int → Int → Int → Int → Int → Int → List (List Int) → List (List Int × List Int) → Int → Option (Unit ⊕ Unit)
  | 0, _, _, _, _, _, _, _, _, _, _, _, _, _, _, _, _, _ => none
  | k + 1, x0, x1, x2, x3, x4, x5, x6, x7, x8, x9, x10, x11, x12, x13, x14, x15, x16 => ref17_Same_l2S F (ref17_Same_l2 F k) x0 x1 x2 x3 x4 x5 x6 x7 x8 x9 x10 x11 x12 x13 x14 x15 x16
def ref17_Same (F : Nat) (a0 : (Int × (Int × (Int × (Int × (Int × (Int × (List (List Int) × (List (List Int × List Int) × Unit))))))))) (a1 : (Int × (Int × (Int × (Int × (Int × (Int × (List (List Int) × (List (List Int × List Int) × Unit))))))))) : Option (Bool × Unit) :=
  cond (a0.1 != a1.1)
    (some (false, ()))
    (cond (a0.2.1 != a1.2.1)
      (some (false, ()))
      (cond (a0.2.2.1 != a1.2.2.1)
        (some (false, ()))
        (cond (a0.2.2.2.1 != a1.2.2.2.1)
          (some (false, ()))
          (cond (a0.2.2.2.2.1 != a1.2.2.2.2.1)
            (some (false, ()))
            (cond (a0.2.2.2.2.2.1 != a1.2.2.2.2.2.1)
              (some (false, ()))
              (cond ((((List.length a0.2.2.2.2.2.2.1) : Nat) : Int) != (((List.length a1.2.2.2.2.2.2.1) : Nat) : Int))
                (some (false, ()))
                (cond ((((List.length a0.2.2.2.2.2.2.2.1) : Nat) : Int) != (((List.length a1.2.2.2.2.2.2.2.1) : Nat) : Int))
                  (some (false, ()))
                  ((ref17_Same_l0 F F a0.1 a0.2.1 a0.2.2.1 a0.2.2.2.1 a0.2.2.2.2.1 a0.2.2.2.2.2.1 a0.2.2.2.2.2.2.1 a0.2.2.2.2.2.2.2.1 a1.1 a1.2.1 a1.2.2.1 a1.2.2.2.1 a1.2.2.2.2.1 a1.2.2.2.2.2.1 a1.2.2.2.2.2.2.1 a1.2.2.2.2.2.2.2.1 (0 : Int)).bind fun r694 => match r694 with
                    | .inl r694 => (some (false, ()))
                    | .inr r694 => ((ref17_Same_l2 F F r694.1 r694.2.1 r694.2.2.1 r694.2.2.2.1 r694.2.2.2.2.1 r694.2.2.2.2.2.1 r694.2.2.2.2.2.2.1 r694.2.2.2.2.2.2.2.1 r694.2.2.2.2.2.2.2.2.1 r694.2.2.2.2.2.2.2.2.2.1 r694.2.2.2.2.2.2.2.2.2.2.1 r694.2.2.2.2.2.2.2.2.2.2.2.1 r694.2.2.2.2.2.2.2.2.2.2.2.2.1 r694.2.2.2.2.2.2.2.2.2.2.2.2.2.1 r694.2.2.2.2.2.2.2.2.2.2.2.2.2.2.1 r694.2.2.2.2.2.2.2.2.2.2.2.2.2.2.2.1 (0 : Int)).bind fun r718 => match r718 with
                        | .inl r718 => (some (false, ()))
                        | .inr r718 => (some (true, ())))))))))))
def ref05_Levels_l0S (F : Nat) (rec : Int → Int → Int → Option (Int × Unit)) (x0 : Int) (x1 : Int) (x2 : Int) : Option (Int × Unit) :=
  cond (decide ((1 : Int) < x0))
    (rec (max (IntKind.wrap .i64 (Int.tdiv x0 (2 : Int))) (1 : Int)) (max (IntKind.wrap .i64 (Int.tdiv x1 (2 : Int))) (1 : Int)) (IntKind.wrap .i64 (x2 + (1 : Int))))
    (cond (decide ((1 : Int) < x1))
      (rec (max (IntKind.wrap .i64 (Int.tdiv x0 (2 : Int))) (1 : Int)) (max (IntKind.wrap .i64 (Int.tdiv x1 (2 : Int))) (1 : Int)) (IntKind.wrap .i64 (x2 + (1 : Int))))
      (some (x2, ())))
def ref05_Levels_l0 (F : Nat) : Nat → Int → Int → Int → Option (Int × Unit)
  | 0, _, _, _ => none
  | k + 1, x0, x1, x2 => ref05_Levels_l0S F (ref05_Levels_l0 F k) x0 x1 x2
def ref05_Levels (F : Nat) (a0 : Int) (a1 : Int) : Option (Int × Unit) :=
  cond (decide (a0 < (1 : Int)))
    (some ((0 : Int), ()))
    (cond (decide (a1 < (1 : Int)))
      (some ((0 : Int), ()))
      ((ref05_Levels_l0 F F a0 a1 (1 : Int)).bind fun r784 =>
      some (r784.1, ())))
def ref17_Header (F : Nat) (a0 : (Int × (Int × (Int × (Int × (Int × (Int × (List (List Int) × (List (List Int × List Int) × Unit))))))))) (a1 : (Int × (Int × (Int × Unit)))) : Option (Int × Unit) :=
  (ref13_Of F a0.1).bind fun r738 =>
  cond (r738.2.1 != (0 : Int))
    (some (r738.2.1, ()))
    (cond (decide (a0.2.1 < (1 : Int)))
      (some ((1 : Int), ()))
      (cond (decide (a0.2.2.1 < (1 : Int)))
        (some ((1 : Int), ()))
        (cond (decide (a0.2.2.2.1 < (1 : Int)))
          (some ((1 : Int), ()))
          (cond (decide (a0.2.2.2.2.2.1 < (1 : Int)))
            (some ((1 : Int), ()))
            (cond (a0.2.2.2.2.1 != (1 : Int))
              (cond (a0.2.2.2.2.1 != (6 : Int))
                (some ((1 : Int), ()))
                (cond (a0.2.2.2.2.1 == (6 : Int))
                  (cond (a0.2.1 != a0.2.2.1)
                    (some ((1 : Int), ()))
                    ((ref05_Levels F a0.2.1 a0.2.2.1).bind fun r785 =>
                    cond (decide (r785.1 < a0.2.2.2.2.2.1))
                      (some ((1 : Int), ()))
                      (cond (decide (a1.1 < a0.2.1))
                        (some ((6 : Int), ()))
                        (cond (decide (a1.1 < a0.2.2.1))
                          (some ((6 : Int), ()))
                          (cond (decide (a1.2.1 < a0.2.2.2.1))
                            (some ((6 : Int), ()))
                            ((ref17_Texels F (a0.1, (a0.2.1, (a0.2.2.1, (a0.2.2.2.1, (a0.2.2.2.2.1, (a0.2.2.2.2.2.1, (a0.2.2.2.2.2.2.1, (a0.2.2.2.2.2.2.2.1, ()))))))))).bind fun r790 =>
                            cond (r790.2.1 != (0 : Int))
                              (some ((6 : Int), ()))
                              (cond (decide (a1.2.2.1 < r790.1))
                                (some ((6 : Int), ()))
                                (some ((0 : Int), ())))))))))
                  ((ref05_Levels F a0.2.1 a0.2.2.1).bind fun r793 =>
                  cond (decide (r793.1 < a0.2.2.2.2.2.1))
                    (some ((1 : Int), ()))
                    (cond (decide (a1.1 < a0.2.1))
                      (some ((6 : Int), ()))
                      (cond (decide (a1.1 < a0.2.2.1))
                        (some ((6 : Int), ()))
                        (cond (decide (a1.2.1 < a0.2.2.2.1))
                          (some ((6 : Int), ()))
                          ((ref17_Texels F (a0.1, (a0.2.1, (a0.2.2.1, (a0.2.2.2.1, (a0.2.2.2.2.1, (a0.2.2.2.2.2.1, (a0.2.2.2.2.2.2.1, (a0.2.2.2.2.2.2.2.1, ()))))))))).bind fun r798 =>
                          cond (r798.2.1 != (0 : Int))
                            (some ((6 : Int), ()))
                            (cond (decide (a1.2.2.1 < r798.1))
                              (some ((6 : Int), ()))
                              (some ((0 : Int), ()))))))))))
              (cond (a0.2.2.2.2.1 == (6 : Int))
                (cond (a0.2.1 != a0.2.2.1)
                  (some ((1 : Int), ()))
                  ((ref05_Levels F a0.2.1 a0.2.2.1).bind fun r803 =>
                  cond (decide (r803.1 < a0.2.2.2.2.2.1))
                    (some ((1 : Int), ()))
                    (cond (decide (a1.1 < a0.2.1))
                      (some ((6 : Int), ()))
                      (cond (decide (a1.1 < a0.2.2.1))
                        (some ((6 : Int), ()))
                        (cond (decide (a1.2.1 < a0.2.2.2.1))
                          (some ((6 : Int), ()))
                          ((ref17_Texels F (a0.1, (a0.2.1, (a0.2.2.1, (a0.2.2.2.1, (a0.2.2.2.2.1, (a0.2.2.2.2.2.1, (a0.2.2.2.2.2.2.1, (a0.2.2.2.2.2.2.2.1, ()))))))))).bind fun r808 =>
                          cond (r808.2.1 != (0 : Int))
                            (some ((6 : Int), ()))
                            (cond (decide (a1.2.2.1 < r808.1))
                              (some ((6 : Int), ()))
                              (some ((0 : Int), ())))))))))
                ((ref05_Levels F a0.2.1 a0.2.2.1).bind fun r811 =>
                cond (decide (r811.1 < a0.2.2.2.2.2.1))
                  (some ((1 : Int), ()))
                  (cond (decide (a1.1 < a0.2.1))
                    (some ((6 : Int), ()))
                    (cond (decide (a1.1 < a0.2.2.1))
                      (some ((6 : Int), ()))
                      (cond (decide (a1.2.1 < a0.2.2.2.1))
                        (some ((6 : Int), ()))
                        ((ref17_Texels F (a0.1, (a0.2.1, (a0.2.2.1, (a0.2.2.2.1, (a0.2.2.2.2.1, (a0.2.2.2.2.2.1, (a0.2.2.2.2.2.2.1, (a0.2.2.2.2.2.2.2.1, ()))))))))).bind fun r816 =>
                        cond (r816.2.1 != (0 : Int))
                          (some ((6 : Int), ()))
                          (cond (decide (a1.2.2.1 < r816.1))
                            (some ((6 : Int), ()))
                            (some ((0 : Int), ()))))))))))))))
def ref17_Sizes_l0S (F : Nat) (rec : Int → Int → Int → Int → List Int → Int → Option ((Int × Unit) ⊕ (List Int × Unit))) (x0 : Int) (x1 : Int) (x2 : Int) (x3 : Int) (x4 : List Int) (x5 : Int) : Option ((Int × Unit) ⊕ (List Int × Unit)) :=
  cond (decide (x5 < x3))
    ((ref05_Side F x1 x5).bind fun r898 =>
    (ref05_Side F x2 x5).bind fun r899 =>
    (ref13_Bytes F x0 r898.1 r899.1).bind fun r900 =>
    cond (r900.2.1 != (0 : Int))
      (some (.inl (r900.2.1, ())))
      (cond ((decide (((List.length x4) + 1) ≤ 1099511627776)) && true)
        (rec x0 x1 x2 x3 (x4 ++ [r900.1]) (IntKind.wrap .i64 (x5 + (1 : Int))))
        (none)))
    (some (.inr (x4, ())))
def ref17_Sizes_l0 (F : Nat) : Nat → Int → Int → Int → Int → List Int → Int → Option ((Int × Unit) ⊕ (List Int × Unit))
  | 0, _, _, _, _, _, _ => none
  | k + 1, x0, x1, x2, x3, x4, x5 => ref17_Sizes_l0S F (ref17_Sizes_l0 F k) x0 x1 x2 x3 x4 x5
def ref17_Sizes (F : Nat) (a0 : Int) (a1 : Int) (a2 : Int) (a3 : Int) : Option (List Int × (Int × Unit)) :=
  (ref13_Of F a0).bind fun r874 =>
  cond (r874.2.1 != (0 : Int))
    (some ([], (r874.2.1, ())))
    (cond (decide (a1 < (1 : Int)))
      (some ([], ((1 : Int), ())))
      (cond (decide (a2 < (1 : Int)))
        (some ([], ((1 : Int), ())))
        (cond (decide (a3 < (1 : Int)))
          (some ([], ((1 : Int), ())))
          ((ref05_Levels F a1 a2).bind fun r879 =>
          cond (decide (r879.1 < a3))
            (some ([], ((1 : Int), ())))
            ((ref17_Sizes_l0 F F a0 a1 a2 a3 [] (0 : Int)).bind fun r906 => match r906 with
              | .inl r906 => (some ([], (r906.1, ())))
              | .inr r906 => (some (r906.1, ((0 : Int), ()))))))))
def ref17_Check_l4S (F : Nat) (rec : Int → Int → Int → Int → Int → Int → List (List Int) → List (List Int × List Int) → List Int → Int → Int → Int → Int → Option (Unit ⊕ (Int × (Int × (Int × (Int × (Int × (Int × (List (List Int) × (List (List Int × List Int) × (List Int × (Int × (Int × (Int × Unit)))))))))))))) (x0 : Int) (x1 : Int) (x2 : Int) (x3 : Int) (x4 : Int) (x5 : Int) (x6 : List (List Int)) (x7 : List (List Int × List Int)) (x8 : List Int) (x9 : Int) (x10 : Int) (x11 : Int) (x12 : Int) : Option (Unit ⊕ (Int × (Int × (Int × (Int × (Int × (Int × (List (List Int) × (List (List Int × List Int) × (List Int × (Int × (Int × (Int × Unit))))))))))))) :=
  cond (decide (x12 < x5))
    (let v1134 : Int := (((List.length x6) : Nat) : Int)
    cond (decide (v1134 ≤ x9))
      (some (.inl ()))
      (cond ((decide ((0 : Int) ≤ x9)) && (decide (x9 < (((List.length x6) : Nat) : Int))))
        (cond ((decide ((0 : Int) ≤ x12)) && (decide (x12 < (((List.length x8) : Nat) : Int))))
          (cond ((((List.length (List.getD x6 (Int.toNat x9) [])) : Nat) : Int) != (List.getD x8 (Int.toNat x12) (0 : Int)))
            (some (.inl ()))
            (rec x0 x1 x2 x3 x4 x5 x6 x7 x8 (IntKind.wrap .i64 (x9 + (1 : Int))) x10 x11 (IntKind.wrap .i64 (x12 + (1 : Int)))))
          (none))
        (none)))
    (some (.inr (x0, (x1, (x2, (x3, (x4, (x5, (x6, (x7, (x8, (x9, (x10, (x11, ()))))))))))))))
def ref17_Check_l4 (F : Nat) : Nat → Int → Int → Int → Int → Int → Int → List (List Int) → List (List Int × List Int) → List Int → Int → Int → Int → Int → Option (Unit ⊕ (Int × (Int × (Int × (Int × (Int × (Int × (List (List Int) × (List (List Int × List Int) × (List Int × (Int × (Int × (Int × Unit)))))))))))))
  | 0, _, _, _, _, _, _, _, _, _, _, _, _, _ => none
  | k + 1, x0, x1, x2, x3, x4, x5, x6, x7, x8, x9, x10, x11, x12 => ref17_Check_l4S F (ref17_Check_l4 F k) x0 x1 x2 x3 x4 x5 x6 x7 x8 x9 x10 x11 x12
def ref17_Check_l2S (F : Nat) (rec : Int → Int → Int → Int → Int → Int → List (List Int) → List (List Int × List Int) → List Int → Int → Int → Int → Option (Unit ⊕ (Int × (Int × (Int × (Int × (Int × (Int × (List (List Int) × (List (List Int × List Int) × (List Int × (Int × (Int × Unit))))))))))))) (x0 : Int) (x1 : Int) (x2 : Int) (x3 : Int) (x4 : Int) (x5 : Int) (x6 : List (List Int)) (x7 : List (List Int × List Int)) (x8 : List Int) (x9 : Int) (x10 : Int) (x11 : Int) : Option (Unit ⊕ (Int × (Int × (Int × (Int × (Int × (Int × (List (List Int) × (List (List Int × List Int) × (List Int × (Int × (Int × Unit)))))))))))) :=
  cond (decide (x11 < x4))
    ((ref17_Check_l4 F F x0 x1 x2 x3 x4 x5 x6 x7 x8 x9 x10 x11 (0 : Int)).bind fun r1145 => match r1145 with
      | .inl r1145 => (some (.inl ()))
      | .inr r1145 => (rec r1145.1 r1145.2.1 r1145.2.2.1 r1145.2.2.2.1 r1145.2.2.2.2.1 r1145.2.2.2.2.2.1 r1145.2.2.2.2.2.2.1 r1145.2.2.2.2.2.2.2.1 r1145.2.2.2.2.2.2.2.2.1 r1145.2.2.2.2.2.2.2.2.2.1 r1145.2.2.2.2.2.2.2.2.2.2.1 (IntKind.wrap .i64 (r1145.2.2.2.2.2.2.2.2.2.2.2.1 + (1 : Int)))))
    (some (.inr (x0, (x1, (x2, (x3, (x4, (x5, (x6, (x7, (x8, (x9, (x10, ())))))))))))))
def ref17_Check_l2 (F : Nat) : Nat → Int → Int → Int → Int → Int → Int → List (List Int) → List (List Int × List Int) → List Int → Int → Int → Int → Option (Unit ⊕ (Int × (Int × (Int × (Int × (Int × (Int × (List (List Int) × (List (List Int × List Int) × (List Int × (Int × (Int × Unit))))))))))))
  | 0, _, _, _, _, _, _, _, _, _, _, _, _ => none
  | k + 1, x0, x1, x2, x3, x4, x5, x6, x7, x8, x9, x10, x11 => ref17_Check_l2S F (ref17_Check_l2 F k) x0 x1 x2 x3 x4 x5 x6 x7 x8 x9 x10 x11
def ref17_Check_l0S (F : Nat) (rec : Int → Int → Int → Int → Int → Int → List (List Int) → List (List Int × List Int) → List Int → Int → Int → Option (Unit ⊕ (Int × (Int × (Int × (Int × (Int × (Int × (List (List Int) × (List (List Int × List Int) × (Int × Unit))))))))))) (x0 : Int) (x1 : Int) (x2 : Int) (x3 : Int) (x4 : Int) (x5 : Int) (x6 : List (List Int)) (x7 : List (List Int × List Int)) (x8 : List Int) (x9 : Int) (x10 : Int) : Option (Unit ⊕ (Int × (Int × (Int × (Int × (Int × (Int × (List (List Int) × (List (List Int × List Int) × (Int × Unit)))))))))) :=
  cond (decide (x10 < x3))
    ((ref17_Check_l2 F F x0 x1 x2 x3 x4 x5 x6 x7 x8 x9 x10 (0 : Int)).bind fun r1148 => match r1148 with
      | .inl r1148 => (some (.inl ()))
      | .inr r1148 => (rec r1148.1 r1148.2.1 r1148.2.2.1 r1148.2.2.2.1 r1148.2.2.2.2.1 r1148.2.2.2.2.2.1 r1148.2.2.2.2.2.2.1 r1148.2.2.2.2.2.2.2.1 r1148.2.2.2.2.2.2.2.2.1 r1148.2.2.2.2.2.2.2.2.2.1 (IntKind.wrap .i64 (r1148.2.2.2.2.2.2.2.2.2.2.1 + (1 : Int)))))
    (some (.inr (x0, (x1, (x2, (x3, (x4, (x5, (x6, (x7, (x9, ())))))))))))
def ref17_Check_l0 (F : Nat) : Nat → Int → Int → Int → Int → Int → Int → List (List Int) → List (List Int × List Int) → List Int → Int → Int → Option (Unit ⊕ (Int × (Int × (Int × (Int × (Int × (Int × (List (List Int) × (List (List Int × List Int) × (Int × Unit))))))))))
  | 0, _, _, _, _, _, _, _, _, _, _, _ => none
  | k + 1, x0, x1, x2, x3, x4, x5, x6, x7, x8, x9, x10 => ref17_Check_l0S F (ref17_Check_l0 F k) x0 x1 x2 x3 x4 x5 x6 x7 x8 x9 x10
def ref17_Check_l8S (F : Nat) (rec : Int → Int → Int → Int → Int → Int → List (List Int) → List (List Int × List Int) → Int → List Int → List Int → Int → List Int → Int → List Int → Int → Int → Bool → Option (Unit ⊕ (Int × (Int × (Int × (Int × (Int × (Int × (List (List Int) × (List (List Int × List Int) × (Int × (List Int × (List Int × (List Int × (Int × (List Int × (Int × (Int × (Bool × Unit))))))))))))))))))) (x0 : Int) (x1 : Int) (x2 : Int) (x3 : Int) (x4 : Int) (x5 : Int) (x6 : List (List Int)) (x7 : List (List Int × List Int)) (x8 : Int) (x9 : List Int) (x10 : List Int) (x11 : Int) (x12 : List Int) (x13 : Int) (x14 : List Int) (x15 : Int) (x16 : Int) (x17 : Bool) : Option (Unit ⊕ (Int × (Int × (Int × (Int × (Int × (Int × (List (List Int) × (List (List Int × List Int) × (Int × (List Int × (List Int × (List Int × (Int × (List Int × (Int × (Int × (Bool × Unit)))))))))))))))))) :=
  let v1219 : Int := (((List.length x9) : Nat) : Int)
  cond (decide (x11 < v1219))
    (cond ((decide ((0 : Int) ≤ x11)) && (decide (x11 < (((List.length x9) : Nat) : Int))))
      (cond ((List.getD x9 (Int.toNat x11) (0 : Int)) == (0 : Int))
        (some (.inl ()))
        (rec x0 x1 x2 x3 x4 x5 x6 x7 x8 x9 x10 (IntKind.wrap .i64 (x11 + (1 : Int))) x12 x13 x14 x15 x16 x17))
      (none))
    (some (.inr (x0, (x1, (x2, (x3, (x4, (x5, (x6, (x7, (x8, (x9, (x10, (x12, (x13, (x14, (x15, (x16, (x17, ())))))))))))))))))))
def ref17_Check_l8 (F : Nat) : Nat → Int → Int → Int → Int → Int → Int → List (List Int) → List (List Int × List Int) → Int → List Int → List Int → Int → List Int → Int → List Int → Int → Int → Bool → Option (Unit ⊕ (Int × (Int × (Int × (Int × (Int × (Int × (List (List Int) × (List (List Int × List Int) × (Int × (List Int × (List Int × (List Int × (Int × (List Int × (Int × (Int × (Bool × Unit))))))))))))))))))
  | 0, _, _, _, _, _, _, _, _, _, _, _, _, _, _, _, _, _, _ => none
  | k + 1, x0, x1, x2, x3, x4, x5, x6, x7, x8, x9, x10, x11, x12, x13, x14, x15, x16, x17 => ref17_Check_l8S F (ref17_Check_l8 F k) x0 x1 x2 x3 x4 x5 x6 x7 x8 x9 x10 x11 x12 x13 x14 x15 x16 x17
def ref17_Check_l6S (F : Nat) (rec : Int → Int → Int → Int → Int → Int → List (List Int) → List (List Int × List Int) → Int → Option (Unit ⊕ Unit)) (x0 : Int) (x1 : Int) (x2 : Int) (x3 : Int) (x4 : Int) (x5 : Int) (x6 : List (List Int)) (x7 : List (List Int × List Int)) (x8 : Int) : Option (Unit ⊕ Unit) :=
  let v1204 : Int := (((List.length x7) : Nat) : Int)
  cond (decide (x8 < v1204))
    (cond ((decide ((0 : Int) ≤ x8)) && (decide (x8 < (((List.length x7) : Nat) : Int))))
      (let d1207 : (List Int × List Int) := (List.getD x7 (Int.toNat x8) ([], []))
      cond (d1207.1 == (bytesL (ByteArray.mk (List.toArray []))))
        (some (.inl ()))
        (let v1209 : Int := (((List.length d1207.1) : Nat) : Int)
        let v1210 : Int := (((List.length d1207.2) : Nat) : Int)
        let v1211 : Int := (IntKind.wrap .i64 (v1209 + v1210))
        let b1212 : Bool := (decide ((65535 : Int) < v1211))
        cond b1212
          (some (.inl ()))
          ((ref17_Check_l8 F F x0 x1 x2 x3 x4 x5 x6 x7 x8 d1207.1 d1207.2 (0 : Int) d1207.1 v1209 d1207.2 v1210 v1211 b1212).bind fun r1225 => match r1225 with
            | .inl r1225 => (some (.inl ()))
            | .inr r1225 => (rec r1225.1 r1225.2.1 r1225.2.2.1 r1225.2.2.2.1 r1225.2.2.2.2.1 r1225.2.2.2.2.2.1 r1225.2.2.2.2.2.2.1 r1225.2.2.2.2.2.2.2.1 (IntKind.wrap .i64 (r1225.2.2.2.2.2.2.2.2.1 + (1 : Int)))))))
      (none))
    (some (.inr ()))
def ref17_Check_l6 (F : Nat) : Nat → Int → Int → Int → Int → Int → Int → List (List Int) → List (List Int × List Int) → Int → Option (Unit ⊕ Unit)
  | 0, _, _, _, _, _, _, _, _, _ => none
  | k + 1, x0, x1, x2, x3, x4, x5, x6, x7, x8 => ref17_Check_l6S F (ref17_Check_l6 F k) x0 x1 x2 x3 x4 x5 x6 x7 x8
def ref17_Check (F : Nat) (a0 : (Int × (Int × (Int × (Int × (Int × (Int × (List (List Int) × (List (List Int × List Int) × Unit))))))))) (a1 : (Int × (Int × (Int × Unit)))) : Option (Int × Unit) :=
  (ref17_Header F (a0.1, (a0.2.1, (a0.2.2.1, (a0.2.2.2.1, (a0.2.2.2.2.1, (a0.2.2.2.2.2.1, (a0.2.2.2.2.2.2.1, (a0.2.2.2.2.2.2.2.1, ())))))))) (a1.1, (a1.2.1, (a1.2.2.1, ())))).bind fun r822 =>
  cond (r822.1 != (0 : Int))
    (some (r822.1, ()))
    ((ref17_Sizes F a0.1 a0.2.1 a0.2.2.1 a0.2.2.2.2.2.1).bind fun r908 =>
    cond (r908.2.1 != (0 : Int))
      (some ((1 : Int), ()))
      ((ref17_Check_l0 F F a0.1 a0.2.1 a0.2.2.1 a0.2.2.2.1 a0.2.2.2.2.1 a0.2.2.2.2.2.1 a0.2.2.2.2.2.2.1 a0.2.2.2.2.2.2.2.1 r908.1 (0 : Int) (0 : Int)).bind fun r1151 => match r1151 with
        | .inl r1151 => (some ((1 : Int), ()))
        | .inr r1151 => (cond (r1151.2.2.2.2.2.2.2.2.1 != (((List.length r1151.2.2.2.2.2.2.1) : Nat) : Int))
            (some ((1 : Int), ()))
            ((ref17_Check_l6 F F r1151.1 r1151.2.1 r1151.2.2.1 r1151.2.2.2.1 r1151.2.2.2.2.1 r1151.2.2.2.2.2.1 r1151.2.2.2.2.2.2.1 r1151.2.2.2.2.2.2.2.1 (0 : Int)).bind fun r1227 => match r1227 with
              | .inl r1227 => (some ((8 : Int), ()))
              | .inr r1227 => (some ((0 : Int), ()))))))
end Go.AE.Gn
