/- The framework AE, part 14: a region that draws its order, quiet but for its last operations; the evaluator of code and of functions. -/
import Derived.Test.YtpipmhfkdeaebaaFw13b
import Derived.StillTail
import Derived.Scope
set_option linter.unusedVariables false
set_option linter.unusedSimpArgs false
namespace Go.AE
open Go Go.RowKit

section
variable {P : Program} {ops : Array Oper} {md : Region.Mode} {C : World → Prop}

def wpAnyLQ (P : Program) (md : Region.Mode) (ops : Array Oper) (C : World → Prop) (n : Nat) (L : Array Bool → Act → Prop) : Nat → Array Bool → Act → Prop
  | 0, listed, a => L listed a
  | f + 1, listed, a =>
    Region.ready md ops listed ≠ [] ∧ ∀ i ∈ Region.ready md ops listed, i < n ∧ qOp P ops C i (wpAnyLQ P md ops C n L f (listed.setIfInBounds i true)) a

theorem wpAny_of_headQ {n g : Nat} {L : Array Bool → Act → Prop} {Q' : Exit → Act → World → Prop} (hL : ∀ listed a w, C w → L listed a → wpAny P md ops Q' g listed a w) :
    ∀ (f : Nat) (listed : Array Bool) (a : Act) (w : World), C w → wpAnyLQ P md ops C n L f listed a → wpAny P md ops Q' (f + g) listed a w
  | 0, listed, a, w, hw, h => by rw [Nat.zero_add]; exact hL _ _ _ hw h
  | f + 1, listed, a, w, hw, h => by
    rw [show f + 1 + g = (f + g) + 1 by omega]
    exact ⟨fun h0 => absurd h0 h.1, fun i hi => wpOp_of_qOp hw (fun a' w' hw' h' => wpAny_of_headQ hL f _ a' w' hw' h') (h.2 i hi).2⟩

theorem wpAnyLQ_first {n i : Nat} {oi : Oper} {v : Value} {L : Array Bool → Act → Prop} (hi : ops[i]? = some oi) (hsel : ∀ (j : Nat) (o : Oper) cs b, ops[j]? = some o → o.op ≠ .select cs b)
    (hs : Region.sinkB md ops n = true) (hc : Region.chainB md ops n = true) (hn : n < ops.size) (hin : i < n)
    (hdone : ∀ listed a, L listed a → ∀ j ∈ Region.ready md ops listed, n ≤ j) :
    ∀ (f : Nat) (listed : Array Bool) (a : Act), HeadInv md ops n listed →
      (∀ j oj, ops[j]? = some oj → j ≠ i → listed.getD j true = false → (∀ e ∈ oj.after, Region.binds md e = true → e.on ≠ i) → oi.apart ops oj = true) →
      i ∈ Region.ready md ops listed → YieldsIn P ops C oi v a →
      wpAnyLQ P md ops C n L f (listed.setIfInBounds i true) (a.put oi.dst v) → wpAnyLQ P md ops C n L (f + 1) listed a := by
  intro f
  induction f with
  | zero =>
    intro listed a inv _ hr hy H
    have hun := (mem_ready.1 hr).1
    refine ⟨fun h => (by rw [h] at hr; cases hr), fun j hj => ?_⟩
    have hjn : j < n := by
      rcases Nat.lt_or_ge j n with h | h
      · exact h
      · exact absurd hj (tail_waits hs hc hn inv _ i rfl hin hun j h)
    refine ⟨hjn, ?_⟩
    by_cases hji : j = i
    · subst hji; exact hy.qOp hi H
    · have := hdone _ _ H j (ready_mono hj hji)
      omega
  | succ f ih =>
    intro listed a inv hfree hr hy H
    have hun := (mem_ready.1 hr).1
    refine ⟨fun h => (by rw [h] at hr; cases hr), fun j hj => ?_⟩
    have hjn : j < n := by
      rcases Nat.lt_or_ge j n with h | h
      · exact h
      · exact absurd hj (tail_waits hs hc hn inv _ i rfl hin hun j h)
    refine ⟨hjn, ?_⟩
    by_cases hji : j = i
    · subst hji; exact hy.qOp hi H
    · have h1 := (H.2 j (ready_mono hj hji)).2
      obtain ⟨hjun, oj, hoj, hall⟩ := mem_ready.1 hj
      have hnot : ∀ e ∈ oj.after, Region.binds md e = true → e.on ≠ i := fun e he hb heq => by
        have h1 := hall e he hb
        rw [heq, getD_both hun] at h1
        cases h1
      have h2 := qOp_put hoj (hfree j oj hoj hji hjun hnot) (fun cs b => hsel i oi cs b hi) (fun cs b => hsel j oj cs b hoj) hy h1
      have hfree' : ∀ k ok, ops[k]? = some ok → k ≠ i → (listed.setIfInBounds j true).getD k true = false →
          (∀ e ∈ ok.after, Region.binds md e = true → e.on ≠ i) → oi.apart ops ok = true := fun k ok hk hki hun hno => by
        refine hfree k ok hk hki ?_ hno
        by_cases hjk : j = k
        · subst hjk; exact hjun
        · rw [getD_set_ne true hjk] at hun; exact hun
      refine qOp_mono (fun a' h3 => ih (listed.setIfInBounds j true) a' (inv.set hj hjn) hfree' (ready_mono hr (Ne.symm hji)) h3.1 ?_) h2
      rw [Array.setIfInBounds_comm _ _ hji]
      exact h3.2

theorem wpAnyLQ_lex {n g : Nat} {Lq : Act → Prop} (hsel : Region.noSelect ops = true) (hs : Region.sinkB md ops n = true) (hc : Region.chainB md ops n = true) (hn : n < ops.size) :
    ∀ (l : List Oper) (k : Nat) (listed : Array Bool) (a : Act), (∀ j, j < l.length → l[j]? = ops[k + j]?) → k + l.length = n → HeadInv md ops n listed →
    Region.lexHead md ops g l.length k listed = true → wpQuiet P ops C Lq l a →
    wpAnyLQ P md ops C n (fun listed' a' => Region.seqB md ops g n listed' = true ∧ Lq a') l.length listed a
  | [], k, listed, a, _, hk, _, hB, h => by
    have : k = n := by simpa using hk
    subst this
    exact ⟨by simpa [Region.lexHead] using hB, h⟩
  | o :: l, k, listed, a, hl, hk, inv, hB, h => by
    have h0 : ops[k]? = some o := by simpa using (hl 0 (by simp)).symm
    simp only [List.length_cons, Region.lexHead, Bool.and_eq_true] at hB
    obtain ⟨⟨hr, hf⟩, hB'⟩ := hB
    have hkn : k < n := by simp only [List.length_cons] at hk; omega
    have hr' : k ∈ Region.ready md ops listed := by simpa using hr
    have hst : qOp P ops C k (wpQuiet P ops C Lq l) a := by unfold qOp; simp only [h0]; exact h
    obtain ⟨v, hy, hK⟩ := yieldsIn_of_qOp h0 hst
    exact wpAnyLQ_first h0 (Region.noSelect_spec hsel) hs hc hn hkn (fun listed' a' hL => seqB_ready hL.1) l.length listed a inv (Region.free_spec h0 hf) hr' hy
      (wpAnyLQ_lex hsel hs hc hn l (k + 1) _ _ (fun j hj => by have := hl (j + 1) (by simp; omega); simpa [Nat.add_assoc, Nat.add_comm 1 j] using this) (by simp only [List.length_cons] at hk; omega) (inv.set hr' hkn) hB' hK)

theorem wp_region_quiet_tail {id : Nat} {Q : Exit → Act → World → Prop} {a : Act} {w : World} (n : Nat) (hm : P.follows .mixedOrders = true) (hB : Region.lexTailB .any ops n = true) (hC : C w.drew)
    (h : wpQuiet P ops C (fun a' => ∀ w', C w' → wpList P ops Q (ops.toList.drop n) a' w') (ops.toList.take n) a) : (Code.region id ops true).wp P Q a w := by
  simp only [Region.lexTailB, Bool.and_eq_true, decide_eq_true_eq] at hB
  obtain ⟨⟨⟨⟨hsel, hn⟩, hs⟩, hc⟩, hlex⟩ := hB
  have htl : (ops.toList.take n).length = n := by simp; omega
  have hdl : (ops.toList.drop n).length = ops.size - n := by simp
  have inv0 : HeadInv .any ops n (Array.replicate ops.size false) :=
    ⟨by simp, fun j oj _ hl => (by rw [getD_replicate_false] at hl; cases hl), fun t _ ht => getD_in (by simpa using ht) (getD_replicate_false _ _)⟩
  have H := wpAnyLQ_lex (md := .any) (g := ops.size - n) hsel hs hc hn (ops.toList.take n) 0 _ a (fun j hj => by
    have hj' : j < n := by rw [htl] at hj; exact hj
    simp [hj']) (by simpa using htl) inv0 (by rw [htl]; exact hlex) h
  refine wp_region_any hm ?_
  have := wpAny_of_headQ (Q' := Q) (g := ops.size - n) (fun listed a' w' hw' hL => by
    have := wpAny_of_seq (md := .any) (Q' := Q) (ops.toList.drop n) n listed a' w' (fun j => by simp [List.getElem?_drop]) (by rw [hdl]; exact hL.1) (hL.2 w' hw')
    rwa [hdl] at this) _ _ _ _ hC H
  rw [htl, show n + (ops.size - n) = ops.size by omega] at this
  exact this
end

/-- A loop, by so many rounds that are left. -/
theorem wp_loop_ind {P : Program} {c : Code} {Q : Exit → Act → World → Prop} {a : Act} {w : World} (I : Nat → Act → World → Prop) {n : Nat} (h0 : I n a w)
    (round : ∀ n a w, I n a w → c.wp P (Exit.then (fun a' w' => ∃ m, m < n ∧ I m a' w') Q) a w) : (Code.loop c).wp P Q a w := by
  intro b k cs
  have key : ∀ n a w, I n a w → ∃ e a' w', Q e a' w' ∧ Arrives P (lone (b.at a (.code c :: .inLoop c :: k)) cs w) b k cs e a' w' := by
    intro n
    induction n using Nat.strongRecOn with
    | _ n ih =>
      intro a w hI
      obtain ⟨e, a₁, w₁, hq, harr⟩ := round n a w hI b (.inLoop c :: k) cs
      cases e with
      | normal =>
        obtain ⟨m, hm, hI1⟩ := hq
        obtain ⟨e₂, a₂, w₂, hq₂, harr₂⟩ := ih m hm a₁ w₁ hI1
        exact ⟨e₂, a₂, w₂, hq₂, .of_steps (Steps.trans harr (.one step_inLoop)) harr₂⟩
      | exit id => exact ⟨_, a₁, w₁, hq, .pass (x := .inLoop c) rfl (fun _ _ => .inl (by simp)) harr⟩
      | goto l => exact ⟨_, a₁, w₁, hq, .pass (x := .inLoop c) rfl (fun _ _ => .inl (by simp)) harr⟩
      | ret => exact ⟨_, a₁, w₁, hq, .pass (x := .inLoop c) rfl (fun _ _ => .inl (by simp)) harr⟩
      | panic ch => exact ⟨_, a₁, w₁, hq, .pass (x := .inLoop c) rfl (fun _ _ => .inl (by simp)) harr⟩
      | outgrown => exact ⟨_, a₁, w₁, hq, .pass (x := .inLoop c) rfl (fun _ _ => .inl (by simp)) harr⟩
  obtain ⟨e, a', w', hq, harr⟩ := key n a w h0
  exact ⟨e, a', w', hq, .of_steps (.one step_loop) harr⟩

/-! ### code -/

variable {ρ : Type}

def quietKind : Op → Bool
  | .alloc _ | .box _ _ | .buildSlice _ _ _ | .makeSlice _ _ _ | .store _ _ _ => false
  | .call c => match c.callee with
    | .builtin .append | .builtin .copy => false
    | _ => true
  | _ => true

def headLen : List Oper → Nat
  | [] => 0
  | o :: l => if quietKind o.op then headLen l + 1 else 0

/-- The first call of a function value from which on all is done one by one. -/
def goodCall (ops : Array Oper) : List Oper → Nat → Option Nat
  | [], _ => none
  | o :: l, i => match o.op with
    | .call c => match c.callee with
      | .value _ => if Region.lexTailB .any ops i = true then some i else goodCall ops l (i + 1)
      | _ => goodCall ops l (i + 1)
    | _ => goodCall ops l (i + 1)

/-- How many operations are done in any order: those ahead of such a call; else all that leave memory alone. -/
def hdLen (ops : Array Oper) : Nat :=
  match goodCall ops ops.toList 0 with
  | some j => if j < headLen ops.toList then j else headLen ops.toList
  | none => headLen ops.toList

/-! ### whatever order, operation by operation -/

/-- Is an operation to be done, by its guard; if that is known? -/
def guardSt (ops : Array Oper) (st : St) (o : Oper) : Option Bool := match o.guard with
  | none => some true
  | some (j, want) => match ops[j]? with
    | some oj => match oj.dst with
      | some d => match st.tmps.getD d .undef with
        | .bool (some b) _ => some (b == want)
        | .tup [] => some false
        | _ => none
      | none => none
    | none => none

/-- A guard that is not known: its slot, and its truth. -/
def guardU (ops : Array Oper) (st : St) (o : Oper) : Option (Nat × Bool) := match o.guard with
  | none => none
  | some (j, _) => match ops[j]? with
    | some oj => match oj.dst with
      | some d => match st.tmps.getD d .undef with
        | .bool none b => some (d, b)
        | _ => none
      | none => none
    | none => none

def pickU (ops : Array Oper) (st : St) : List Nat → Option (Nat × Bool)
  | [] => none
  | i :: l => match ops[i]? with
    | some o => match guardU ops st o with
      | some x => some x
      | none => pickU ops st l
    | none => pickU ops st l

theorem guardSt_spec {ops : Array Oper} {st : St} {o : Oper} {g : Bool} (h : guardSt ops st o = some g) {M : List Place} {a : Act} (ht : RelT M st.tmps a.tmps) : Region.wanted o (yielded ops a.tmps) = g := by
  unfold guardSt at h
  split at h
  · rename_i hg
    cases h
    simp [Region.wanted, hg]
  · rename_i j want hg
    split at h
    · rename_i oj hj
      split at h
      · rename_i d hd
        have hv := ht.2 d
        have hy : yielded ops a.tmps j = match a.tmps.getD d undef with | .bool b => some b | _ => none := by
          unfold yielded
          simp only [hj, hd, Option.bind_some]
          rw [Array.getD_eq_getD_getElem?]
          cases a.tmps[d]? with
          | none => rfl
          | some v => cases v <;> rfl
        split at h
        · rename_i b z hst
          cases h
          rw [hst] at hv
          obtain ⟨e, hl⟩ := relV_bool hv
          have := hl b rfl
          subst this
          rw [e] at hy
          simp [Region.wanted, hg, hy]
        · rename_i hst
          cases h
          rw [hst] at hv
          simp only [RelV, RelX, RelL_nil] at hv
          obtain ⟨vs, e, _⟩ := hv
          have e : a.tmps.getD d undef = .tuple vs := by simpa using e
          rw [e] at hy
          simp [Region.wanted, hg, hy]
        · cases h
      · cases h
    · cases h

theorem pickU_spec {ops : Array Oper} {st : St} {d : Nat} {b : Bool} : ∀ {l : List Nat}, pickU ops st l = some (d, b) → st.tmps.getD d .undef = .bool none b
  | [], h => by cases h
  | i :: l, h => by
    unfold pickU at h
    split at h
    · rename_i o ho
      split at h
      · rename_i x hx
        cases h
        unfold guardU at hx
        split at hx
        · cases hx
        · split at hx
          · split at hx
            · split at hx
              · rename_i hst
                cases hx
                exact hst
              · cases hx
            · cases hx
          · cases hx
      · exact pickU_spec h
    · exact pickU_spec h

def isLoad (o : Oper) : Bool := match o.op with
  | .load _ _ => true
  | _ => false

/-- The first operation that may come up now, reads no memory and touches nothing of the others; or is skipped. -/
def pickP (P : Program) (ops : Array Oper) (listed : Array Bool) (st : St) : List Nat → Option (Nat × Oper × Bool × AV)
  | [] => none
  | i :: l => match ops[i]? with
    | some o => if Region.free .any ops listed i = true then match guardSt ops st o with
        | some true => if isLoad o = true then pickP P ops listed st l else if (ixOf st o.op).isSome = true then pickP P ops listed st l else match aq P st.heap st.get o.op with
          | some (req, x) => some (i, o, req, x)
          | none => pickP P ops listed st l
        | some false => some (i, o, true, .tup [])
        | none => pickP P ops listed st l
      else pickP P ops listed st l
    | none => pickP P ops listed st l

/-- The block that a load reads. -/
def loadBlk (st : St) : Op → Option Nat
  | .load _ p => match st.get p with
    | .ptr b _ _ _ _ => some b
    | .rptr b _ _ => some b
    | _ => none
  | _ => none

/-- The first load that may come up now and touches nothing of the others. -/
def pickL (P : Program) (ops : Array Oper) (listed : Array Bool) (st : St) : List Nat → Option (Nat × Oper × Bool × AV × Nat)
  | [] => none
  | i :: l => match ops[i]? with
    | some o => if (isLoad o && Region.free .any ops listed i) = true then match guardSt ops st o with
        | some true => match aq P st.heap st.get o.op with
          | some (req, x) => match loadBlk st o.op with
            | some b => some (i, o, req, x, b)
            | none => pickL P ops listed st l
          | none => pickL P ops listed st l
        | _ => pickL P ops listed st l
      else pickL P ops listed st l
    | none => pickL P ops listed st l

/-- What may be taken ahead: an operation that reads no memory; where several may come up, a load, too, with its block. -/
def pick (P : Program) (ops : Array Oper) (listed : Array Bool) (st : St) (l : List Nat) : Option (Nat × Oper × Bool × AV × Option Nat) :=
  match pickP P ops listed st l with
  | some (i, o, req, x) => some (i, o, req, x, none)
  | none => match l with
    | _ :: _ :: _ => match pickL P ops listed st l with
      | some (i, o, req, x, b) => some (i, o, req, x, some b)
      | none => none
    | _ => none

def zcons (i : Nat) (b : Option Nat) (Z : List (Nat × Nat)) : List (Nat × Nat) := match b with
  | some b => (i, b) :: Z
  | none => Z

/-- The blocks that are held while an operation is done: those read ahead by loads for which it does not wait. -/
def heldBy (ops : Array Oper) (i : Nat) (Z : List (Nat × Nat)) : List Nat := (Z.filter fun p => !depB ops ops.size i p.1).map (·.2)

def evStep (P : Program) (cal : Cal ρ) (ops : Array Oper) (i : Nat) (o : Oper) (Z : List (Nat × Nat)) (st : St) (K : St → Option ρ) : Option ρ :=
  match heldBy ops i Z with
  | [] => guarded ops o st (evExec P cal o) K
  | b :: bs => guarded ops o st (evHeld P cal o (b :: bs)) K

/-- Two new variables, that alone may come up now, the one or the other first. -/
def allocPair (P : Program) (ops : Array Oper) (listed : Array Bool) : List Nat → Option (Nat × Oper × List AV × Nat × Oper × List AV)
  | [i, j] => match ops[i]?, ops[j]? with
    | some oi, some oj => match bareAlloc oi, bareAlloc oj with
      | some ti, some tj => match zeroC P ti, zeroC P tj with
        | some ci, some cj =>
          if Region.ready .any ops (listed.setIfInBounds i true) = [j] ∧ Region.ready .any ops (listed.setIfInBounds j true) = [i] ∧ i ≠ j ∧ oi.dst ≠ oj.dst then some (i, oi, ci, j, oj, cj) else none
        | _, _ => none
      | _, _ => none
    | _, _ => none
  | _ => none

def twoVars (st : St) (di dj : Option Tmp) (ci cj : List AV) : St :=
  ⟨((st.put di (.ptr st.heap.length 0 none (wid ci) (wid ci))).put dj (.ptr (st.heap.length + 1) 0 none (wid cj) (wid cj))).tmps, st.heap ++ [some ⟨.segs ci, true, none⟩] ++ [some ⟨.segs cj, true, none⟩]⟩

def evAny (P : Program) (cal : Cal ρ) (ops : Array Oper) : Nat → List (Nat × Nat) → Array Bool → St → (St → Option ρ) → Option ρ
  | 0, _, listed, st, K => match Region.ready .any ops listed with
    | [] => K st
    | _ :: _ => none
  | n + 1, Z, listed, st, K => match Region.ready .any ops listed with
    | [] => K st
    | i0 :: rs => match pick P ops listed st (i0 :: rs) with
      | some (i, o, req, x, zb) => cond req (evAny P cal ops n (zcons i zb Z) (listed.setIfInBounds i true) (st.put o.dst x) K) none
      | none => match rs with
        | [] => match ops[i0]? with
          | some o => evStep P cal ops i0 o Z st fun st' => evAny P cal ops n Z (listed.setIfInBounds i0 true) st' K
          | none => none
        | _ :: _ => match pickU ops st (i0 :: rs) with
          | some (d, b) => cond b
              (match pick P ops listed (st.put (some d) (.bool (some true) true)) (i0 :: rs) with
                | some (i, o, req, x, zb) => cond req (evAny P cal ops n (zcons i zb Z) (listed.setIfInBounds i true) ((st.put (some d) (.bool (some true) true)).put o.dst x) K) none
                | none => none)
              (match pick P ops listed (st.put (some d) (.bool (some false) false)) (i0 :: rs) with
                | some (i, o, req, x, zb) => cond req (evAny P cal ops n (zcons i zb Z) (listed.setIfInBounds i true) ((st.put (some d) (.bool (some false) false)).put o.dst x) K) none
                | none => none)
          | none => match n with
            | 0 => none
            | m + 1 => match allocPair P ops listed (i0 :: rs) with
              | some (i, oi, ci, j, oj, cj) => evAny P cal ops m Z ((listed.setIfInBounds i true).setIfInBounds j true) (twoVars st oi.dst oj.dst ci cj) K
              | none => none

theorem pickP_spec {P : Program} {ops : Array Oper} {listed : Array Bool} {st : St} {i : Nat} {o : Oper} {req : Bool} {x : AV} : ∀ {l : List Nat}, pickP P ops listed st l = some (i, o, req, x) →
    i ∈ l ∧ ops[i]? = some o ∧ Region.free .any ops listed i = true ∧ ((guardSt ops st o = some true ∧ isLoad o = false ∧ aq P st.heap st.get o.op = some (req, x)) ∨ (guardSt ops st o = some false ∧ req = true ∧ x = .tup []))
  | [], h => by cases h
  | j :: l, h => by
    unfold pickP at h
    have next : pickP P ops listed st l = some (i, o, req, x) → i ∈ j :: l ∧ ops[i]? = some o ∧ Region.free .any ops listed i = true ∧ ((guardSt ops st o = some true ∧ isLoad o = false ∧ aq P st.heap st.get o.op = some (req, x)) ∨ (guardSt ops st o = some false ∧ req = true ∧ x = .tup [])) := fun h =>
      let ⟨h1, h2⟩ := pickP_spec h
      ⟨List.mem_cons_of_mem _ h1, h2⟩
    split at h
    · rename_i o' ho
      split at h
      · rename_i hf
        split at h
        · rename_i hg
          split at h
          · exact next h
          · rename_i hl
            split at h
            · exact next h
            · split at h
              · rename_i req' x' hq
                cases h
                exact ⟨List.mem_cons_self .., ho, hf, .inl ⟨hg, by simpa using hl, hq⟩⟩
              · exact next h
        · rename_i hg
          cases h
          exact ⟨List.mem_cons_self .., ho, hf, .inr ⟨hg, rfl, rfl⟩⟩
        · exact next h
      · exact next h
    · exact next h

theorem pickL_spec {P : Program} {ops : Array Oper} {listed : Array Bool} {st : St} {i : Nat} {o : Oper} {req : Bool} {x : AV} {b : Nat} : ∀ {l : List Nat}, pickL P ops listed st l = some (i, o, req, x, b) →
    i ∈ l ∧ ops[i]? = some o ∧ isLoad o = true ∧ Region.free .any ops listed i = true ∧ guardSt ops st o = some true ∧ aq P st.heap st.get o.op = some (req, x) ∧ loadBlk st o.op = some b
  | [], h => by cases h
  | j :: l, h => by
    unfold pickL at h
    have next : pickL P ops listed st l = some (i, o, req, x, b) → i ∈ j :: l ∧ ops[i]? = some o ∧ isLoad o = true ∧ Region.free .any ops listed i = true ∧ guardSt ops st o = some true ∧ aq P st.heap st.get o.op = some (req, x) ∧ loadBlk st o.op = some b := fun h =>
      let ⟨h1, h2⟩ := pickL_spec h
      ⟨List.mem_cons_of_mem _ h1, h2⟩
    split at h
    · rename_i o' ho
      split at h
      · rename_i hp
        simp only [Bool.and_eq_true] at hp
        split at h
        · rename_i hg
          split at h
          · rename_i req' x' hq
            split at h
            · rename_i b' hb
              cases h
              exact ⟨List.mem_cons_self .., ho, hp.1, hp.2, hg, hq, hb⟩
            · exact next h
          · exact next h
        · exact next h
      · exact next h
    · exact next h

/-- A load, from its abstract value: it yields that wherever its block is as it is. -/
theorem load_held {P : Program} {M : List Place} {st : St} {B : Base} {w0 : World} {a : Act} {w : World} (hr : Rel M st B w0 a w) {ops : Array Oper} {o : Oper} {req : Bool} {x : AV} {b : Nat} (hl : isLoad o = true) (hgd : guardSt ops st o = some true)
    (hq : aq P st.heap st.get o.op = some (req, x)) (hb : loadBlk st o.op = some b) : ∃ pl v ob, M[b]? = some pl ∧ pl.nil = false ∧ RelV M x v ∧ w.heap[pl.blk]? = some ob ∧ YieldsIf P ops (fun w' => w'.heap[pl.blk]? = some ob) o v a := by
  have : ∃ t p, o.op = .load t p := by
    unfold isLoad at hl
    split at hl
    · rename_i t p he; exact ⟨t, p, he⟩
    · cases hl
  obtain ⟨t, p, hop⟩ := this
  have hg : RelV M (st.get p) (a.eval p) := get_rel hr.tmps p
  rw [hop] at hq hb
  simp only [aq, Option.map_eq_some_iff, Prod.mk.injEq] at hq
  obtain ⟨x', h1, _, rfl⟩ := hq
  obtain ⟨A, u, e, hu, hrun⟩ := aload_at hr.heap hg h1
  simp only [loadBlk] at hb
  have blk : ∃ pl, M[b]? = some pl ∧ pl.nil = false ∧ A.block = pl.blk := by
    split at hb
    · rename_i b' base dyn room span hst
      cases hb
      rw [hst] at hg
      simp only [RelV, RelX] at hg
      obtain ⟨pl, hp, hn, hv, _⟩ := hg
      rw [e] at hv
      simp at hv
      exact ⟨pl, hp, hn, by rw [hv]⟩
    · rename_i b' off room hst
      cases hb
      rw [hst] at hg
      simp only [RelV, RelX] at hg
      obtain ⟨pl, hp, hn, hv, _⟩ := hg
      rw [e] at hv
      simp at hv
      exact ⟨pl, hp, hn, by rw [hv]⟩
    · cases hb
  obtain ⟨pl, hp, hn, hA⟩ := blk
  have hob : ∃ ob, w.heap[pl.blk]? = some ob := by
    -- the load runs in this world
    cases hw : w.heap[pl.blk]? with
    | some ob => exact ⟨ob, rfl⟩
    | none =>
      exfalso
      have hx : ∃ o', st.heap[b]? = some (some o') := by
        unfold aload at h1
        split at h1
        · rename_i b' base dyn room span hst
          simp only [hst] at hb
          cases hb
          cases hc : objC st.heap b with
          | none => simp [hc] at h1
          | some c =>
            obtain ⟨o', pl', ho', _⟩ := objC_ok hr.heap hc
            exact ⟨o', ho'⟩
        · rename_i b' off room hst
          simp only [hst] at hb
          cases hb
          cases hc : objC st.heap b with
          | none => simp [hc] at h1
          | some c =>
            obtain ⟨o', pl', ho', _⟩ := objC_ok hr.heap hc
            exact ⟨o', ho'⟩
        · cases h1
      obtain ⟨o', ho'⟩ := hx
      obtain ⟨pl', hp', hok⟩ := hr.heap.obj b o' ho'
      rw [hp] at hp'; cases hp'
      have := objOk_lt hok hn
      rw [Array.getElem?_eq_none_iff] at hw
      omega
  obtain ⟨ob, hob⟩ := hob
  refine ⟨pl, u, ob, hp, hn, hu, hob, .inl ⟨guardSt_spec hgd hr.tmps, fun w' hw' => ?_⟩⟩
  have hrun' := hrun w' (fun ob' h' => by rw [hA] at h' ⊢; rw [hw', ← h', hob])
  simp [execOp, hop, e, Instr.loadAt, Instr.sureAddr, hrun']

/-- What was taken ahead. -/
theorem pick_sound {P : Program} {M : List Place} {st : St} {B : Base} {w0 : World} {a : Act} {w : World} (hr : Rel M st B w0 a w) {ops : Array Oper} {listed : Array Bool} {l : List Nat} {i : Nat} {o : Oper} {x : AV} {zb : Option Nat} (h : pick P ops listed st l = some (i, o, true, x, zb)) :
    i ∈ l ∧ ops[i]? = some o ∧ Region.free .any ops listed i = true ∧ ∃ v, RelV M x v ∧
      ((zb = none ∧ YieldsIf P ops (fun _ => True) o v a) ∨ (∃ b pl ob, zb = some b ∧ M[b]? = some pl ∧ pl.nil = false ∧ w.heap[pl.blk]? = some ob ∧ YieldsIf P ops (fun w' => w'.heap[pl.blk]? = some ob) o v a)) := by
  unfold pick at h
  split at h
  · rename_i i' o' req' x' hp
    cases h
    obtain ⟨h1, h2, h3, h4⟩ := pickP_spec hp
    refine ⟨h1, h2, h3, ?_⟩
    rcases h4 with ⟨g1, g2, g3⟩ | ⟨g1, _, g3⟩
    · have hnl : ∀ t b, o.op ≠ .load t b := by
        intro t b e
        simp [isLoad, e] at g2
      obtain ⟨v, hv, hrun⟩ := aq_pure (fun x => get_rel hr.tmps x) hnl g3 rfl
      exact ⟨v, hv, .inl ⟨rfl, .inl ⟨guardSt_spec g1 hr.tmps, fun w _ => hrun w⟩⟩⟩
    · subst g3
      exact ⟨undef, relV_skip M, .inl ⟨rfl, .inr ⟨guardSt_spec g1 hr.tmps, rfl⟩⟩⟩
  · split at h
    · split at h
      · rename_i i' o' req' x' b hp
        cases h
        obtain ⟨h1, h2, h3, h4, h5, h6, h7⟩ := pickL_spec hp
        obtain ⟨pl, v, ob, g1, g2, g3, g4, g5⟩ := load_held hr h3 h5 h6 h7
        exact ⟨h1, h2, h4, v, g3, .inr ⟨b, pl, ob, rfl, g1, g2, g4, g5⟩⟩
      · cases h
    · cases h

theorem allocPair_spec {P : Program} {ops : Array Oper} {listed : Array Bool} {l : List Nat} {i j : Nat} {oi oj : Oper} {ci cj : List AV} (h : allocPair P ops listed l = some (i, oi, ci, j, oj, cj)) :
    l = [i, j] ∧ ops[i]? = some oi ∧ ops[j]? = some oj ∧ (∃ ti tj, bareAlloc oi = some ti ∧ bareAlloc oj = some tj ∧ zeroC P ti = some ci ∧ zeroC P tj = some cj) ∧
    Region.ready .any ops (listed.setIfInBounds i true) = [j] ∧ Region.ready .any ops (listed.setIfInBounds j true) = [i] ∧ i ≠ j ∧ oi.dst ≠ oj.dst := by
  unfold allocPair at h
  split at h
  · split at h
    · rename_i oi' oj' h1 h2
      split at h
      · rename_i ti tj h3 h4
        split at h
        · rename_i ci' cj' h5 h6
          split at h
          · rename_i hc
            cases h
            exact ⟨rfl, h1, h2, ⟨ti, tj, h3, h4, h5, h6⟩, hc⟩
          · cases h
        · cases h
      · cases h
    · cases h
  · cases h

/-- A new variable that comes up alone. -/
theorem wpOp_alloc {P : Program} {ops : Array Oper} {Q : Exit → Act → World → Prop} {i : Nat} {o : Oper} {t : TypeId} {z : Value} (ho : ops[i]? = some o) (hb : bareAlloc o = some t) (hz : ∀ w, (zeroValue t).run P w = .ok z w) {a : Act} {w : World} {next : Act → World → Prop}
    (h : next (a.put o.dst (.pointer (some ⟨w.heap.size, 0, none⟩))) (w.alloc (.cells z.cells t))) : wpOp P ops Q i next a w := by
  obtain ⟨hg, hop⟩ := bareAlloc_spec hb
  unfold wpOp
  rw [ho]
  have hw : Region.wanted o (yielded ops a.tmps) = true := by simp [Region.wanted, hg]
  simp only [hw, if_true]
  refine .inl ?_
  unfold Oper.wp
  rw [run_alloc hop hz w]
  exact h

theorem evStep_sound {P : Program} (hP : Callable P) {cal : Cal ρ} (hcal : ∀ f, CalAt P f (cal f)) {ops : Array Oper} {i : Nat} {o : Oper} (ho : ops[i]? = some o) {Z : List (Nat × Nat)} {st : St} {K : St → Option ρ} {r : ρ} {M : List Place} {B : Base} {w0 : World} {a : Act} {w : World}
    (h : evStep P cal ops i o Z st K = some r) (hr : Rel M st B w0 a w) {Q : Exit → Act → World → Prop} {next : Act → World → Prop} (hn : ∀ M' st' a' w', Ext M M' → K st' = some r → Rel M' st' B w0 a' w' → w.heap.size ≤ w'.heap.size →
      (∀ b ∈ heldBy ops i Z, ∀ pl, M[b]? = some pl → pl.nil = false → w'.heap[pl.blk]? = w.heap[pl.blk]?) → next a' w') : wpOp P ops Q i next a w := by
  unfold wpOp
  rw [ho]
  unfold evStep at h
  have up : ∀ {M' : List Place} {st' : St} {a' : Act} {w' : World}, Rel M' st' B w a' w' → Rel M' st' B w0 a' w' := fun h => ⟨h.tmps, h.defers, h.heap, hr.below.trans h.below⟩
  split at h
  · rename_i hz
    rcases guarded_sound h hr.tmps with ⟨hw, st', h', ht, hh⟩ | ⟨hw, st', h', ht, hh⟩
    · simp only [hw, if_true]
      have hr' : Rel M st' B w a w := ⟨ht, hr.defers, by rw [hh]; exact hr.heap, Beneath.refl _ _⟩
      exact .inl (evExec_sound hP hcal h' hr' fun M' st2 a' w' hE hk hr2 => hn M' st2 a' w' hE hk (up hr2) hr2.below.size (by rw [hz]; simp))
    · simp only [hw, Bool.false_eq_true, if_false]
      have hr' : Rel M st' B w0 a w := ⟨ht, hr.defers, by rw [hh]; exact hr.heap, hr.below⟩
      exact hn M _ _ _ (Ext.refl M) h' (hr'.put (relV_skip M) o.dst) (Nat.le_refl _) (by rw [hz]; simp)
  · rename_i b bs hz
    rcases guarded_sound h hr.tmps with ⟨hw, st', h', ht, hh⟩ | ⟨hw, st', h', ht, hh⟩
    · simp only [hw, if_true]
      have hr' : Rel M st' B w a w := ⟨ht, hr.defers, by rw [hh]; exact hr.heap, Beneath.refl _ _⟩
      exact .inl (evHeld_sound hP hcal h' hr' fun M' st2 a' w' hE hk hr2 hu => hn M' st2 a' w' hE hk (up hr2) hr2.below.size (by rw [hz]; exact hu))
    · simp only [hw, Bool.false_eq_true, if_false]
      have hr' : Rel M st' B w0 a w := ⟨ht, hr.defers, by rw [hh]; exact hr.heap, hr.below⟩
      exact hn M _ _ _ (Ext.refl M) h' (hr'.put (relV_skip M) o.dst) (Nat.le_refl _) (fun _ _ _ _ _ => rfl)

/-- Where blocks that were read ahead lie. -/
def ZRel (M : List Place) (Z : List (Nat × Nat)) (Zc : List (Nat × Nat)) : Prop := ∀ p ∈ Zc, ∃ b pl, (p.1, b) ∈ Z ∧ M[b]? = some pl ∧ pl.nil = false ∧ pl.blk = p.2

theorem ZRel.mono {M M' : List Place} (h : Ext M M') {Z Zc : List (Nat × Nat)} (r : ZRel M Z Zc) : ZRel M' Z Zc := fun p hp => by
  obtain ⟨b, pl, h1, h2, h3⟩ := r p hp
  exact ⟨b, pl, h1, h _ _ h2, h3⟩

theorem evAny_sound {P : Program} (hP : Callable P) {cal : Cal ρ} (hcal : ∀ f, CalAt P f (cal f)) {ops : Array Oper} (hs : Region.noSelect ops = true) {Q : Exit → Act → World → Prop} {K : St → Option ρ} {r : ρ} {B : Base} {w0 : World} :
    ∀ {n : Nat} {Z Zc : List (Nat × Nat)} {listed : Array Bool} {st : St} {M : List Place} {a : Act} {w : World}, evAny P cal ops n Z listed st K = some r → Closed ops listed → ZRel M Z Zc → (∀ p ∈ Zc, p.2 < w.heap.size) → Rel M st B w0 a w → (∀ M' st' a' w', Ext M M' → K st' = some r → Rel M' st' B w0 a' w' → Q .normal a' w') →
    wpAnyD P ops (fun e a w => e = .normal ∧ Q .normal a w) ops.size n Zc listed a w
  | 0, Z, Zc, listed, st, M, a, w, h, hc, hz, hzlt, hr, hn => by
    unfold evAny at h
    split at h
    · rename_i hrd
      exact wpAnyD_done hrd ⟨rfl, hn M st a w (Ext.refl M) h hr⟩ 0
    · cases h
  | n + 1, Z, Zc, listed, st, M, a, w, h, hc, hz, hzlt, hr, hn => by
    -- one that is taken ahead, from a state that tells the same
    have ahead : ∀ (st1 : St), Rel M st1 B w0 a w → ∀ {l : List Nat} {i : Nat} {o : Oper} {req : Bool} {x : AV} {zb : Option Nat}, Region.ready .any ops listed = l → pick P ops listed st1 l = some (i, o, req, x, zb) →
        cond req (evAny P cal ops n (zcons i zb Z) (listed.setIfInBounds i true) (st1.put o.dst x) K) none = some r → wpAnyD P ops (fun e a w => e = .normal ∧ Q .normal a w) ops.size (n + 1) Zc listed a w := by
      intro st1 hr1 l i o req x zb hrd hp h
      cases req with
      | false => cases h
      | true =>
        obtain ⟨h1, h2, h3, v, hv, h4⟩ := pick_sound hr1 hp
        have hrdy : i ∈ Region.ready .any ops listed := by rw [hrd]; exact h1
        rcases h4 with ⟨rfl, h4⟩ | ⟨b, pl, ob, rfl, g1, g2, g4, g5⟩
        · exact wpAnyD_first (G := []) (S := fun _ => True) h2 (Region.noSelect_spec hs) (fun c a w hq => nomatch hq.1) (fun _ _ _ _ => trivial) n Zc listed a w (by simp) hc (Region.free_spec h2 h3) hrdy h4 trivial
            (evAny_sound hP hcal hs h (hc.set hrdy) hz hzlt (hr1.put hv o.dst) hn)
        · refine wpAnyD_less (Z := (i, pl.blk) :: Zc) (fun p hp => List.mem_cons_of_mem _ hp) ?_
          refine wpAnyD_first (G := [pl.blk]) (S := fun w' => w'.heap[pl.blk]? = some ob) h2 (Region.noSelect_spec hs) (fun c a w hq => nomatch hq.1) (fun w1 w2 hg hS => by rw [hg _ (by simp)]; exact hS) n _ listed a w (by simp) hc (Region.free_spec h2 h3) hrdy
            g5 g4 (evAny_sound (Z := (i, b) :: Z) hP hcal hs h (hc.set hrdy) ?_ (fun p hp => by
              rcases List.mem_cons.1 hp with rfl | hp
              · exact (Array.getElem?_eq_some_iff.1 g4).1
              · exact hzlt p hp) (hr1.put hv o.dst) hn)
          intro p hp
          rcases List.mem_cons.1 hp with rfl | hp
          · exact ⟨b, pl, List.mem_cons_self .., g1, g2, rfl⟩
          · obtain ⟨b', pl', z1, z2⟩ := hz p hp
            exact ⟨b', pl', List.mem_cons_of_mem _ z1, z2⟩
    unfold evAny at h
    split at h
    · rename_i hrd
      exact wpAnyD_done hrd ⟨rfl, hn M st a w (Ext.refl M) h hr⟩ _
    · rename_i i0 rs hrd
      split at h
      · rename_i i o req x zb hp
        exact ahead st hr hrd hp h
      · split at h
        · split at h
          · rename_i o ho
            refine ⟨fun h0 => (by rw [h0] at hrd; cases hrd), fun i hi => ?_⟩
            have : i = i0 := by rw [hrd] at hi; simpa using hi
            subst this
            refine evStep_sound hP hcal ho h hr fun M' st' a' w' hE hk hr' hsz hu => ⟨fun p hp hd => ?_, Zc, fun _ h => h, ?_⟩
            · obtain ⟨b, pl, z1, z2, z3, z4⟩ := hz p hp
              rw [← z4]
              refine hu b ?_ pl z2 z3
              unfold heldBy
              exact List.mem_map.2 ⟨(p.1, b), List.mem_filter.2 ⟨z1, by simp [hd]⟩, rfl⟩
            · exact evAny_sound hP hcal hs hk (hc.set hi) (hz.mono hE) (fun p hp => Nat.lt_of_lt_of_le (hzlt p hp) hsz) hr' fun M2 st3 a3 w3 hE2 => hn M2 st3 a3 w3 (hE.trans hE2)
          · cases h
        · split at h
          · rename_i d b hu
            have hst := pickU_spec hu
            have hlit : Rel M (st.put (some d) (.bool (some b) b)) B w0 a w := by
              have hv := hr.tmps.2 d
              rw [hst] at hv
              obtain ⟨e, _⟩ := relV_bool hv
              have h1 := hr.put (x := .bool (some b) b) (v := .bool b) (by simp [RelV, RelX]) (some d)
              rw [← e, put_self] at h1
              exact h1
            cases b with
            | true =>
              simp only [cond_true] at h
              split at h
              · rename_i i o req x zb hp
                exact ahead _ hlit hrd hp h
              · cases h
            | false =>
              simp only [cond_false] at h
              split at h
              · rename_i i o req x zb hp
                exact ahead _ hlit hrd hp h
              · cases h
          · cases n with
            | zero => cases h
            | succ m =>
              simp only at h
              split at h
              · rename_i i oi ci j oj cj hp
                obtain ⟨e0, h1, h2, ⟨ti, tj, h3, h4, h5, h6⟩, h7, h8, h9, h10⟩ := allocPair_spec hp
                rw [e0] at hrd
                have hri : i ∈ Region.ready .any ops listed := by rw [hrd]; simp
                have hrj : j ∈ Region.ready .any ops listed := by rw [hrd]; simp
                have hrj' : j ∈ Region.ready .any ops (listed.setIfInBounds i true) := by rw [h7]; simp
                obtain ⟨_, zi, _, _, runi, reli⟩ := zeroC_rel h5
                obtain ⟨_, zj, _, _, runj, relj⟩ := zeroC_rel h6
                have hcl := (hc.set hri).set hrj'
                have b1 : ∀ (w1 : World) (ob : Obj), w.heap.size ≤ w1.heap.size → ∀ p ∈ Zc, (w1.alloc ob).heap[p.2]? = w1.heap[p.2]? := fun w1 ob hle p hp' => (below_alloc w1 ob).block _ (Nat.lt_of_lt_of_le (hzlt p hp') hle)
                have s1 : ∀ (w1 : World) (ob : Obj), (w1.alloc ob).heap.size = w1.heap.size + 1 := fun w1 ob => by simp
                have g1 : ∀ (w1 : World) (ob : Obj), (w1.alloc ob).heap[w1.heap.size]? = some ob := fun w1 ob => by
                  show (w1.heap.push ob)[w1.heap.size]? = some ob
                  simp
                have cont : ∀ (gi gj : Nat) (w' : World), Below w.heap.size w w' → w.heap.size ≤ w'.heap.size → w'.heap[gi]? = some (.cells zi.cells ti) → w'.heap[gj]? = some (.cells zj.cells tj) → w.heap.size ≤ gi → w.heap.size ≤ gj → gi ≠ gj →
                    wpAnyD P ops (fun e a w => e = .normal ∧ Q .normal a w) ops.size m Zc ((listed.setIfInBounds i true).setIfInBounds j true) ((a.put oi.dst (.pointer (some ⟨gi, 0, none⟩))).put oj.dst (.pointer (some ⟨gj, 0, none⟩))) w' := by
                  intro gi gj w' hbb hle e1 e2 k1 k2 hne
                  obtain ⟨M', hE, hR⟩ := two_vars hr reli relj hbb e1 e2 k1 k2 hne oi.dst oj.dst
                  exact evAny_sound hP hcal hs h hcl (hz.mono hE) (fun p hp => Nat.lt_of_lt_of_le (hzlt p hp) hle) hR fun M2 st3 a3 w3 hE2 => hn M2 st3 a3 w3 (hE.trans hE2)
                have comm : ∀ (x y : Value), (a.put oj.dst x).put oi.dst y = (a.put oi.dst y).put oj.dst x := fun x y => Act.put_comm a x y fun d hd hd' => h10 (hd'.trans hd.symm)
                refine ⟨fun h0 => (by rw [h0] at hrd; cases hrd), fun x hx => ?_⟩
                rw [hrd] at hx
                simp only [List.mem_cons, List.not_mem_nil, or_false] at hx
                rcases hx with rfl | rfl
                · refine wpOp_alloc h1 h3 runi ⟨fun p hp' _ => b1 w _ (Nat.le_refl _) p hp', Zc, fun _ h => h, fun h0 => (by rw [h0] at h7; cases h7), fun y hy => ?_⟩
                  rw [h7] at hy
                  obtain rfl : y = j := by simpa using hy
                  refine wpOp_alloc h2 h4 runj ⟨fun p hp' _ => b1 _ _ (by rw [s1]; omega) p hp', Zc, fun _ h => h, cont _ _ _ ((below_alloc w _).trans ((below_alloc _ _).mono (by rw [s1]; omega))) (by rw [s1, s1]; omega) ?_ (g1 _ _) (Nat.le_refl _) (by rw [s1]; omega) (by rw [s1]; omega)⟩
                  rw [(below_alloc _ _).block _ (by rw [s1]; omega)]
                  exact g1 _ _
                · refine wpOp_alloc h2 h4 runj ⟨fun p hp' _ => b1 w _ (Nat.le_refl _) p hp', Zc, fun _ h => h, fun h0 => (by rw [h0] at h8; cases h8), fun y hy => ?_⟩
                  rw [h8] at hy
                  obtain rfl : y = i := by simpa using hy
                  refine wpOp_alloc h1 h3 runi ⟨fun p hp' _ => b1 _ _ (by rw [s1]; omega) p hp', Zc, fun _ h => h, ?_⟩
                  rw [comm, Array.setIfInBounds_comm _ _ h9.symm]
                  refine cont _ _ _ ((below_alloc w _).trans ((below_alloc _ _).mono (by rw [s1]; omega))) (by rw [s1, s1]; omega) (g1 _ _) ?_ (by rw [s1]; omega) (Nat.le_refl _) (by rw [s1]; omega)
                  rw [(below_alloc _ _).block _ (by rw [s1]; omega)]
                  exact g1 _ _
              · cases h


theorem closed_none (ops : Array Oper) (n : Nat) : Closed ops (Array.replicate n false) := fun j o _ hj => by
  exfalso
  rcases Nat.lt_or_ge j n with h | h
  · simp [h] at hj
  · simp [Array.getElem?_eq_none (show (Array.replicate n false).size ≤ j by simpa using h)] at hj

/-- Whatever order: all of it, operation by operation. -/
def evAnyR (P : Program) (cal : Cal ρ) (ops : Array Oper) (st : St) (K : St → Option ρ) : Option ρ :=
  if Region.noSelect ops = true then evAny P cal ops ops.size [] (Array.replicate ops.size false) st K else none

/-- A call that may write what the caller has: of a function value, or with a pointer. -/
def riskyCall (P : Program) (o : Oper) : Bool := match o.op with
  | .call c => match c.callee with
    | .value (.tmp _) => true
    | .value _ => c.argTypes.any fun t => match P.underlying t with
      | some (.pointer _) => true
      | _ => false
    | _ => false
  | _ => false

def evRegion (P : Program) (cal : Cal ρ) (qcal : QCal ρ) (ops : Array Oper) (draw : Bool) (st : St) (K : St → Option ρ) : Option ρ :=
  match draw with
  | false => evList P cal ops ops.toList st K
  | true => if P.follows .mixedOrders = true then
      if (ops.any (riskyCall P)) = true then evAnyR P cal ops st K
      else if hdLen ops = ops.size then (if Region.lexB .any ops = true then evQList P qcal ops ops.toList st K else evAnyR P cal ops st K)
      else if Region.lexTailB .any ops (hdLen ops) = true then
        evQList P qcal ops (ops.toList.take (hdLen ops)) st fun st' => evList P cal ops (ops.toList.drop (hdLen ops)) st' K
      else evAnyR P cal ops st K
    else none

theorem evRegion_sound {P : Program} (hP : Callable P) {cal : Cal ρ} (hcal : ∀ f, CalAt P f (cal f)) {qcal : QCal ρ} (hq : ∀ f, QCalAt P f (qcal f)) {ops : Array Oper} {draw : Bool} {id : Nat} {st : St} {K : St → Option ρ} {r : ρ} (h : evRegion P cal qcal ops draw st K = some r)
    {M : List Place} {B : Base} {w0 : World} {a : Act} {w : World} (hr : Rel M st B w0 a w) {Q : Exit → Act → World → Prop} (hn : ∀ M' st' a' w', Ext M M' → K st' = some r → Rel M' st' B w0 a' w' → Q .normal a' w') : (Code.region id ops draw).wp P Q a w := by
  unfold evRegion at h
  split at h
  · exact wp_region_list (evList_sound hP hcal h hr hn)
  · split at h
    · rename_i hm
      have hb0 : Below w.heap.size w w.drew := (Below.refl _ _).drew
      have hH0 : RelH M st.heap B w.drew := hr.heap.below hb0
      -- behind the draw, in whatever world of the class
      have later : ∀ (st' : St) (a' : Act) (w' : World), RelT M st'.tmps a'.tmps → st'.heap = st.heap → a'.defers = [] → Below w.drew.heap.size w.drew w' → Rel M st' B w0 a' w' := by
        intro st' a' w' ht hh hd hb
        exact ⟨ht, hd, by rw [hh]; exact hH0.below hb, hr.below.trans ((Beneath.of hb0).trans (Beneath.of hb))⟩
      have anyR : evAnyR P cal ops st K = some r → (Code.region id ops true).wp P Q a w := by
        intro h
        unfold evAnyR at h
        split at h
        · rename_i hs
          refine Code.wp_mono (Q := fun e a w => e = .normal ∧ Q .normal a w) (fun e a w ⟨e1, e2⟩ => by subst e1; exact e2) (wp_region_any hm ?_)
          exact wpAny_of_D _ _ _ _ _ (evAny_sound (Zc := []) hP hcal hs h (closed_none ops _) (fun p hp => by cases hp) (fun p hp => by cases hp) (later st a w.drew hr.tmps rfl hr.defers (Below.refl _ _)) hn)
        · cases h
      split at h
      · exact anyR h
      split at h
      · split at h
        · rename_i hB
          refine wp_region_quiet (C := fun w' => Below w.drew.heap.size w.drew w') hm hB (Below.refl _ _) ?_
          exact evQList_sound hP hq hH0 h hr.tmps rfl hr.defers fun st' a' hk ht hh hd w' hb => hn M st' a' w' (Ext.refl M) hk (later st' a' w' ht hh hd hb)
        · exact anyR h
      · split at h
        · rename_i hB
          refine wp_region_quiet_tail (C := fun w' => Below w.drew.heap.size w.drew w') _ hm hB (Below.refl _ _) ?_
          exact evQList_sound hP hq hH0 h hr.tmps rfl hr.defers fun st' a' hk ht hh hd w' hb => evList_sound hP hcal hk (later st' a' w' ht hh hd hb) hn
        · exact anyR h
    · cases h

/-- A loop (or any block) of which is told what it comes to. -/
abbrev Ann (ρ : Type) := St → (Exit → St → Option ρ) → Option ρ

/-- The places are kept, where that is asked for. -/
def ExtO (x : Bool) (M M' : List Place) : Prop := x = true → Ext M M'
theorem ExtO.of {x : Bool} {M M' : List Place} (h : Ext M M') : ExtO x M M' := fun _ => h
theorem ExtO.trans {x : Bool} {A B C : List Place} (h : ExtO x A B) (k : ExtO x B C) : ExtO x A C := fun e => (h e).trans (k e)

def AnnAt (P : Program) (x : Bool) (B : Base) (w0 : World) (c : Code) (an : Ann ρ) : Prop :=
  ∀ (st : St) (K : Exit → St → Option ρ) (r : ρ), an st K = some r → ∀ (M : List Place) (a : Act) (w : World) (Q : Exit → Act → World → Prop), Rel M st B w0 a w →
    (∀ e M' st' a' w', ExtO x M M' → K e st' = some r → Rel M' st' B w0 a' w' → Q e a' w') → c.wp P Q a w

/-- A slot's truth is known. -/
def St.lit (st : St) (c : Operand) (b : Bool) : St :=
  match c with
  | .tmp t => { st with tmps := st.tmps.set t (.bool (some b) b) }
  | _ => st

def loopN : Nat → (St → (Exit → St → Option ρ) → Option ρ) → St → (Exit → St → Option ρ) → Option ρ
  | 0, _, _, _ => none
  | n + 1, f, st, K => f st fun e st' => match e with
    | .normal => loopN n f st' K
    | e => K e st'

def evCode (P : Program) (cal : Cal ρ) (qcal : QCal ρ) (ann : Nat → Option (Ann ρ)) : Code → St → (Exit → St → Option ρ) → Option ρ
  | .skip, st, K => K .normal st
  | .region _ ops draw, st, K => evRegion P cal qcal ops draw st (K .normal)
  | .seq x y, st, K => evCode P cal qcal ann x st fun e st' => match e with
    | .normal => evCode P cal qcal ann y st' K
    | e => K e st'
  | .cond c x y, st, K => match st.get c with
    | .bool (some b) _ => cond b (evCode P cal qcal ann x st K) (evCode P cal qcal ann y st K)
    | .bool none b => cond b (evCode P cal qcal ann x (st.lit c true) K) (evCode P cal qcal ann y (st.lit c false) K)
    | _ => none
  | .block id c, st, K => match ann id with
    | some an => an st K
    | none => evCode P cal qcal ann c st fun e st' => match e with
      | .exit id' => if id' = id then K .normal st' else K (.exit id') st'
      | e => K e st'
  | .loop c, st, K => loopN 300 (fun st K => evCode P cal qcal ann c st K) st K
  | .exit id, st, K => K (.exit id) st
  | .ret, st, K => K .ret st
  | .label _, st, K => K .normal st
  | .scope c, st, K => evCode P cal qcal ann c st fun e st' => match e with
    | .goto _ => none
    | e => K e st'
  | _, _, _ => none

/-- The blocks of a code. -/
def blocks : Code → List (Nat × Code)
  | .seq x y => blocks x ++ blocks y
  | .cond _ x y => blocks x ++ blocks y
  | .block id c => (id, c) :: blocks c
  | .loop c => blocks c
  | .scope c => blocks c
  | _ => []

theorem evCode_sound {P : Program} (hP : Callable P) {cal : Cal ρ} (hcal : ∀ f, CalAt P f (cal f)) {qcal : QCal ρ} (hq : ∀ f, QCalAt P f (qcal f)) {ann : Nat → Option (Ann ρ)} {x : Bool} {B : Base} {w0 : World} {r : ρ} :
    ∀ (c : Code) (_ : ∀ id an c', ann id = some an → (id, c') ∈ blocks c → AnnAt P x B w0 (.block id c') an) (st : St) (K : Exit → St → Option ρ), evCode P cal qcal ann c st K = some r →
      ∀ (M : List Place) (a : Act) (w : World) (Q : Exit → Act → World → Prop), Rel M st B w0 a w → (∀ e M' st' a' w', ExtO x M M' → K e st' = some r → Rel M' st' B w0 a' w' → Q e a' w') → c.wp P Q a w := by
  intro c
  induction c with
  | skip => intro _ st K h M a w Q hr hn; exact wp_skip (hn _ M st a w (ExtO.of (Ext.refl M)) h hr)
  | region id ops draw => intro _ st K h M a w Q hr hn; exact evRegion_sound hP hcal hq h hr fun M' st' a' w' hE => hn .normal M' st' a' w' (ExtO.of hE)
  | seq x y ihx ihy =>
    intro ha st K h M a w Q hr hn
    refine wp_seq (ihx (fun id an c' h1 h2 => ha id an c' h1 (by simp [blocks, h2])) st _ h M a w _ hr fun e M' st' a' w' hE hk hr' => ?_)
    cases e with
    | normal => exact ihy (fun id an c' h1 h2 => ha id an c' h1 (by simp [blocks, h2])) st' K hk M' a' w' Q hr' fun e M2 st2 a2 w2 hE2 => hn e M2 st2 a2 w2 (hE.trans hE2)
    | exit id => exact hn _ M' st' a' w' hE hk hr'
    | goto l => exact hn _ M' st' a' w' hE hk hr'
    | ret => exact hn _ M' st' a' w' hE hk hr'
    | panic ch => exact hn _ M' st' a' w' hE hk hr'
    | outgrown => exact hn _ M' st' a' w' hE hk hr'
  | cond c x y ihx ihy =>
    intro ha st K h M a w Q hr hn
    have hg := get_rel hr.tmps c
    unfold evCode at h
    have lit : ∀ b : Bool, a.eval c = .bool b → Rel M (st.lit c b) B w0 a w := by
      intro b hb
      cases c with
      | tmp t =>
        have h1 := hr.put (x := .bool (some b) b) (v := .bool b) (by simp [RelV, RelX]) (some t)
        simp only [Act.eval] at hb
        rw [← hb, put_self] at h1
        exact h1
      | _ => exact hr
    split at h
    · rename_i b z hst
      rw [hst] at hg
      obtain ⟨e, hl⟩ := relV_bool hg
      have := hl b rfl
      subst this
      cases z
      · exact wp_cond_false e (ihy (fun id an c' h1 h2 => ha id an c' h1 (by simp [blocks, h2])) st K h M a w Q hr hn)
      · exact wp_cond_true e (ihx (fun id an c' h1 h2 => ha id an c' h1 (by simp [blocks, h2])) st K h M a w Q hr hn)
    · rename_i b hst
      rw [hst] at hg
      obtain ⟨e, _⟩ := relV_bool hg
      cases b
      · exact wp_cond_false e (ihy (fun id an c' h1 h2 => ha id an c' h1 (by simp [blocks, h2])) _ K h M a w Q (lit _ e) hn)
      · exact wp_cond_true e (ihx (fun id an c' h1 h2 => ha id an c' h1 (by simp [blocks, h2])) _ K h M a w Q (lit _ e) hn)
    · cases h
  | block id c ih =>
    intro ha st K h M a w Q hr hn
    unfold evCode at h
    split at h
    · rename_i an han
      exact ha id an c han (by simp [blocks]) st K r h M a w Q hr hn
    · refine wp_block (ih (fun id' an c' h1 h2 => ha id' an c' h1 (by simp [blocks, h2])) st _ h M a w _ hr fun e M' st' a' w' hE hk hr' => ?_)
      cases e with
      | exit id' =>
        simp only at hk
        unfold Exit.inBlock
        split at hk
        · rename_i hid
          simp only [hid, if_true]
          exact hn _ M' st' a' w' hE hk hr'
        · rename_i hid
          simp only [hid, if_false]
          exact hn _ M' st' a' w' hE hk hr'
      | normal => exact hn _ M' st' a' w' hE hk hr'
      | goto l => exact hn _ M' st' a' w' hE hk hr'
      | ret => exact hn _ M' st' a' w' hE hk hr'
      | panic ch => exact hn _ M' st' a' w' hE hk hr'
      | outgrown => exact hn _ M' st' a' w' hE hk hr'
  | loop c ih =>
    intro ha st K h M a w Q hr hn
    unfold evCode at h
    refine wp_loop_ind (fun n a' w' => ∃ st' M', loopN n (fun st K => evCode P cal qcal ann c st K) st' K = some r ∧ ExtO x M M' ∧ Rel M' st' B w0 a' w') (n := 300) ⟨st, M, h, ExtO.of (Ext.refl M), hr⟩ ?_
    rintro n a1 w1 ⟨st1, M1, h1, hE1, hr1⟩
    cases n with
    | zero => cases h1
    | succ n =>
      unfold loopN at h1
      refine ih (fun id an c' h1 h2 => ha id an c' h1 (by simp [blocks, h2])) st1 _ h1 M1 a1 w1 _ hr1 fun e M' st' a' w' hE hk hr' => ?_
      cases e with
      | normal => exact ⟨n, by omega, st', M', hk, hE1.trans hE, hr'⟩
      | exit id => exact hn _ M' st' a' w' (hE1.trans hE) hk hr'
      | goto l => exact hn _ M' st' a' w' (hE1.trans hE) hk hr'
      | ret => exact hn _ M' st' a' w' (hE1.trans hE) hk hr'
      | panic ch => exact hn _ M' st' a' w' (hE1.trans hE) hk hr'
      | outgrown => exact hn _ M' st' a' w' (hE1.trans hE) hk hr'
  | exit id => intro _ st K h M a w Q hr hn; exact wp_exit (hn _ M st a w (ExtO.of (Ext.refl M)) h hr)
  | ret => intro _ st K h M a w Q hr hn; exact wp_ret (hn _ M st a w (ExtO.of (Ext.refl M)) h hr)
  | label l => intro _ st K h M a w Q hr hn; exact wp_label (hn _ M st a w (ExtO.of (Ext.refl M)) h hr)
  | scope c ih =>
    intro ha st K h M a w Q hr hn
    unfold evCode at h
    refine wp_scope_straight (ih (fun id' an c' h1 h2 => ha id' an c' h1 (by simp [blocks, h2])) st _ h M a w _ hr fun e M' st' a' w' hE hk hr' => ?_)
    cases e with
    | goto l => cases hk
    | exit id => exact hn _ M' st' a' w' hE hk hr'
    | normal => exact hn _ M' st' a' w' hE hk hr'
    | ret => exact hn _ M' st' a' w' hE hk hr'
    | panic ch => exact hn _ M' st' a' w' hE hk hr'
    | outgrown => exact hn _ M' st' a' w' hE hk hr'
  | _ => intro _ st K h; cases h

end Go.AE
