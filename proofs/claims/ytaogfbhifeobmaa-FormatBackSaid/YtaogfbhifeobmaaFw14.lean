/- The framework AE, part 14: a region that draws its order, quiet but for its last operations; the evaluator of code and of functions. -/
import Derived.Test.YtaogfbhifeobmaaFw13c
import Derived.StillTail
import Derived.Scope
set_option linter.unusedVariables false
set_option linter.unusedSimpArgs false
namespace Go.AE
open Go Go.RowKit

section
variable {P : Program} {ops : Array Oper} {md : Region.Mode} {C : World → Prop}

def wpAnyLQ (P : Program) (md : Region.Mode) (ops : Array Oper) (C : World → Prop) (n : Nat) (L : Array Bool → Act → Prop) : Nat → Array Bool → Act → Prop
  | 0, listed, a => L listed a
  | f + 1, listed, a =>
    Region.ready md ops listed ≠ [] ∧ ∀ i ∈ Region.ready md ops listed, i < n ∧ qOp P ops C i (wpAnyLQ P md ops C n L f (listed.setIfInBounds i true)) a

theorem wpAny_of_headQ {n g : Nat} {L : Array Bool → Act → Prop} {Q' : Exit → Act → World → Prop} (hL : ∀ listed a w, C w → L listed a → wpAny P md ops Q' g listed a w) :
    ∀ (f : Nat) (listed : Array Bool) (a : Act) (w : World), C w → wpAnyLQ P md ops C n L f listed a → wpAny P md ops Q' (f + g) listed a w
  | 0, listed, a, w, hw, h => by rw [Nat.zero_add]; exact hL _ _ _ hw h
  | f + 1, listed, a, w, hw, h => by
    rw [show f + 1 + g = (f + g) + 1 by omega]
    exact ⟨fun h0 => absurd h0 h.1, fun i hi => wpOp_of_qOp hw (fun a' w' hw' h' => wpAny_of_headQ hL f _ a' w' hw' h') (h.2 i hi).2⟩

theorem wpAnyLQ_first {n i : Nat} {oi : Oper} {v : Value} {L : Array Bool → Act → Prop} (hi : ops[i]? = some oi) (hsel : ∀ (j : Nat) (o : Oper) cs b, ops[j]? = some o → o.op ≠ .select cs b)
    (hs : Region.sinkB md ops n = true) (hc : Region.chainB md ops n = true) (hn : n < ops.size) (hin : i < n)
    (hdone : ∀ listed a, L listed a → ∀ j ∈ Region.ready md ops listed, n ≤ j) :
    ∀ (f : Nat) (listed : Array Bool) (a : Act), HeadInv md ops n listed →
      (∀ j oj, ops[j]? = some oj → j ≠ i → listed.getD j true = false → (∀ e ∈ oj.after, Region.binds md e = true → e.on ≠ i) → oi.apart ops oj = true) →
      i ∈ Region.ready md ops listed → YieldsIn P ops C oi v a →
      wpAnyLQ P md ops C n L f (listed.setIfInBounds i true) (a.put oi.dst v) → wpAnyLQ P md ops C n L (f + 1) listed a := by
  intro f
  induction f with
  | zero =>
    intro listed a inv _ hr hy H
    have hun := (mem_ready.1 hr).1
    refine ⟨fun h => (by rw [h] at hr; cases hr), fun j hj => ?_⟩
    have hjn : j < n := by
      rcases Nat.lt_or_ge j n with h | h
      · exact h
      · exact absurd hj (tail_waits hs hc hn inv _ i rfl hin hun j h)
    refine ⟨hjn, ?_⟩
    by_cases hji : j = i
    · subst hji; exact hy.qOp hi H
    · have := hdone _ _ H j (ready_mono hj hji)
      omega
  | succ f ih =>
    intro listed a inv hfree hr hy H
    have hun := (mem_ready.1 hr).1
    refine ⟨fun h => (by rw [h] at hr; cases hr), fun j hj => ?_⟩
    have hjn : j < n := by
      rcases Nat.lt_or_ge j n with h | h
      · exact h
      · exact absurd hj (tail_waits hs hc hn inv _ i rfl hin hun j h)
    refine ⟨hjn, ?_⟩
    by_cases hji : j = i
    · subst hji; exact hy.qOp hi H
    · have h1 := (H.2 j (ready_mono hj hji)).2
      obtain ⟨hjun, oj, hoj, hall⟩ := mem_ready.1 hj
      have hnot : ∀ e ∈ oj.after, Region.binds md e = true → e.on ≠ i := fun e he hb heq => by
        have h1 := hall e he hb
        rw [heq, getD_both hun] at h1
        cases h1
      have h2 := qOp_put hoj (hfree j oj hoj hji hjun hnot) (fun cs b => hsel i oi cs b hi) (fun cs b => hsel j oj cs b hoj) hy h1
      have hfree' : ∀ k ok, ops[k]? = some ok → k ≠ i → (listed.setIfInBounds j true).getD k true = false →
          (∀ e ∈ ok.after, Region.binds md e = true → e.on ≠ i) → oi.apart ops ok = true := fun k ok hk hki hun hno => by
        refine hfree k ok hk hki ?_ hno
        by_cases hjk : j = k
        · subst hjk; exact hjun
        · rw [getD_set_ne true hjk] at hun; exact hun
      refine qOp_mono (fun a' h3 => ih (listed.setIfInBounds j true) a' (inv.set hj hjn) hfree' (ready_mono hr (Ne.symm hji)) h3.1 ?_) h2
      rw [Array.setIfInBounds_comm _ _ hji]
      exact h3.2

theorem wpAnyLQ_lex {n g : Nat} {Lq : Act → Prop} (hsel : Region.noSelect ops = true) (hs : Region.sinkB md ops n = true) (hc : Region.chainB md ops n = true) (hn : n < ops.size) :
    ∀ (l : List Oper) (k : Nat) (listed : Array Bool) (a : Act), (∀ j, j < l.length → l[j]? = ops[k + j]?) → k + l.length = n → HeadInv md ops n listed →
    Region.lexHead md ops g l.length k listed = true → wpQuiet P ops C Lq l a →
    wpAnyLQ P md ops C n (fun listed' a' => Region.seqB md ops g n listed' = true ∧ Lq a') l.length listed a
  | [], k, listed, a, _, hk, _, hB, h => by
    have : k = n := by simpa using hk
    subst this
    exact ⟨by simpa [Region.lexHead] using hB, h⟩
  | o :: l, k, listed, a, hl, hk, inv, hB, h => by
    have h0 : ops[k]? = some o := by simpa using (hl 0 (by simp)).symm
    simp only [List.length_cons, Region.lexHead, Bool.and_eq_true] at hB
    obtain ⟨⟨hr, hf⟩, hB'⟩ := hB
    have hkn : k < n := by simp only [List.length_cons] at hk; omega
    have hr' : k ∈ Region.ready md ops listed := by simpa using hr
    have hst : qOp P ops C k (wpQuiet P ops C Lq l) a := by unfold qOp; simp only [h0]; exact h
    obtain ⟨v, hy, hK⟩ := yieldsIn_of_qOp h0 hst
    exact wpAnyLQ_first h0 (Region.noSelect_spec hsel) hs hc hn hkn (fun listed' a' hL => seqB_ready hL.1) l.length listed a inv (Region.free_spec h0 hf) hr' hy
      (wpAnyLQ_lex hsel hs hc hn l (k + 1) _ _ (fun j hj => by have := hl (j + 1) (by simp; omega); simpa [Nat.add_assoc, Nat.add_comm 1 j] using this) (by simp only [List.length_cons] at hk; omega) (inv.set hr' hkn) hB' hK)

theorem wp_region_quiet_tail {id : Nat} {Q : Exit → Act → World → Prop} {a : Act} {w : World} (n : Nat) (hm : P.follows .mixedOrders = true) (hB : Region.lexTailB .any ops n = true) (hC : C w.drew)
    (h : wpQuiet P ops C (fun a' => ∀ w', C w' → wpList P ops Q (ops.toList.drop n) a' w') (ops.toList.take n) a) : (Code.region id ops true).wp P Q a w := by
  simp only [Region.lexTailB, Bool.and_eq_true, decide_eq_true_eq] at hB
  obtain ⟨⟨⟨⟨hsel, hn⟩, hs⟩, hc⟩, hlex⟩ := hB
  have htl : (ops.toList.take n).length = n := by simp; omega
  have hdl : (ops.toList.drop n).length = ops.size - n := by simp
  have inv0 : HeadInv .any ops n (Array.replicate ops.size false) :=
    ⟨by simp, fun j oj _ hl => (by rw [getD_replicate_false] at hl; cases hl), fun t _ ht => getD_in (by simpa using ht) (getD_replicate_false _ _)⟩
  have H := wpAnyLQ_lex (md := .any) (g := ops.size - n) hsel hs hc hn (ops.toList.take n) 0 _ a (fun j hj => by
    have hj' : j < n := by rw [htl] at hj; exact hj
    simp [hj']) (by simpa using htl) inv0 (by rw [htl]; exact hlex) h
  refine wp_region_any hm ?_
  have := wpAny_of_headQ (Q' := Q) (g := ops.size - n) (fun listed a' w' hw' hL => by
    have := wpAny_of_seq (md := .any) (Q' := Q) (ops.toList.drop n) n listed a' w' (fun j => by simp [List.getElem?_drop]) (by rw [hdl]; exact hL.1) (hL.2 w' hw')
    rwa [hdl] at this) _ _ _ _ hC H
  rw [htl, show n + (ops.size - n) = ops.size by omega] at this
  exact this
end

/-- A loop, by so many rounds that are left. -/
theorem wp_loop_ind {P : Program} {c : Code} {Q : Exit → Act → World → Prop} {a : Act} {w : World} (I : Nat → Act → World → Prop) {n : Nat} (h0 : I n a w)
    (round : ∀ n a w, I n a w → c.wp P (Exit.then (fun a' w' => ∃ m, m < n ∧ I m a' w') Q) a w) : (Code.loop c).wp P Q a w := by
  intro b k cs
  have key : ∀ n a w, I n a w → ∃ e a' w', Q e a' w' ∧ Arrives P (lone (b.at a (.code c :: .inLoop c :: k)) cs w) b k cs e a' w' := by
    intro n
    induction n using Nat.strongRecOn with
    | _ n ih =>
      intro a w hI
      obtain ⟨e, a₁, w₁, hq, harr⟩ := round n a w hI b (.inLoop c :: k) cs
      cases e with
      | normal =>
        obtain ⟨m, hm, hI1⟩ := hq
        obtain ⟨e₂, a₂, w₂, hq₂, harr₂⟩ := ih m hm a₁ w₁ hI1
        exact ⟨e₂, a₂, w₂, hq₂, .of_steps (Steps.trans harr (.one step_inLoop)) harr₂⟩
      | exit id => exact ⟨_, a₁, w₁, hq, .pass (x := .inLoop c) rfl (fun _ _ => .inl (by simp)) harr⟩
      | goto l => exact ⟨_, a₁, w₁, hq, .pass (x := .inLoop c) rfl (fun _ _ => .inl (by simp)) harr⟩
      | ret => exact ⟨_, a₁, w₁, hq, .pass (x := .inLoop c) rfl (fun _ _ => .inl (by simp)) harr⟩
      | panic ch => exact ⟨_, a₁, w₁, hq, .pass (x := .inLoop c) rfl (fun _ _ => .inl (by simp)) harr⟩
      | outgrown => exact ⟨_, a₁, w₁, hq, .pass (x := .inLoop c) rfl (fun _ _ => .inl (by simp)) harr⟩
  obtain ⟨e, a', w', hq, harr⟩ := key n a w h0
  exact ⟨e, a', w', hq, .of_steps (.one step_loop) harr⟩

/-! ### code -/

variable {ρ : Type}

def quietKind : Op → Bool
  | .alloc _ | .box _ _ | .buildSlice _ _ _ | .makeSlice _ _ _ | .store _ _ _ => false
  | .call c => match c.callee with
    | .builtin .append | .builtin .copy => false
    | _ => true
  | _ => true

def headLen : List Oper → Nat
  | [] => 0
  | o :: l => if quietKind o.op then headLen l + 1 else 0

/-- The first call of a function value from which on all is done one by one. -/
def goodCall (ops : Array Oper) : List Oper → Nat → Option Nat
  | [], _ => none
  | o :: l, i => match o.op with
    | .call c => match c.callee with
      | .value _ => if Region.lexTailB .any ops i = true then some i else goodCall ops l (i + 1)
      | _ => goodCall ops l (i + 1)
    | _ => goodCall ops l (i + 1)

/-- How many operations are done in any order: those ahead of such a call; else all that leave memory alone. -/
def hdLen (ops : Array Oper) : Nat :=
  match goodCall ops ops.toList 0 with
  | some j => if j < headLen ops.toList then j else headLen ops.toList
  | none => headLen ops.toList

/-! ### whatever order, operation by operation -/

/-- Is an operation to be done, by its guard; if that is known? -/
def guardSt (ops : Array Oper) (st : St) (o : Oper) : Option Bool := match o.guard with
  | none => some true
  | some (j, want) => match ops[j]? with
    | some oj => match oj.dst with
      | some d => match st.tmps.getD d .undef with
        | .bool (some b) _ => some (b == want)
        | .tup [] => some false
        | _ => none
      | none => none
    | none => none

/-- A guard that is not known: its slot, and its truth. -/
def guardU (ops : Array Oper) (st : St) (o : Oper) : Option (Nat × Bool) := match o.guard with
  | none => none
  | some (j, _) => match ops[j]? with
    | some oj => match oj.dst with
      | some d => match st.tmps.getD d .undef with
        | .bool none b => some (d, b)
        | _ => none
      | none => none
    | none => none

def pickU (ops : Array Oper) (st : St) : List Nat → Option (Nat × Bool)
  | [] => none
  | i :: l => match ops[i]? with
    | some o => match guardU ops st o with
      | some x => some x
      | none => pickU ops st l
    | none => pickU ops st l

theorem guardSt_spec {ops : Array Oper} {st : St} {o : Oper} {g : Bool} (h : guardSt ops st o = some g) {M : List Place} {a : Act} (ht : RelT M st.tmps a.tmps) : Region.wanted o (yielded ops a.tmps) = g := by
  unfold guardSt at h
  split at h
  · rename_i hg
    cases h
    simp [Region.wanted, hg]
  · rename_i j want hg
    split at h
    · rename_i oj hj
      split at h
      · rename_i d hd
        have hv := ht.2 d
        have hy : yielded ops a.tmps j = match a.tmps.getD d undef with | .bool b => some b | _ => none := by
          unfold yielded
          simp only [hj, hd, Option.bind_some]
          rw [Array.getD_eq_getD_getElem?]
          cases a.tmps[d]? with
          | none => rfl
          | some v => cases v <;> rfl
        split at h
        · rename_i b z hst
          cases h
          rw [hst] at hv
          obtain ⟨e, hl⟩ := relV_bool hv
          have := hl b rfl
          subst this
          rw [e] at hy
          simp [Region.wanted, hg, hy]
        · rename_i hst
          cases h
          rw [hst] at hv
          simp only [RelV, RelX, RelL_nil] at hv
          obtain ⟨vs, e, _⟩ := hv
          have e : a.tmps.getD d undef = .tuple vs := by simpa using e
          rw [e] at hy
          simp [Region.wanted, hg, hy]
        · cases h
      · cases h
    · cases h

theorem pickU_spec {ops : Array Oper} {st : St} {d : Nat} {b : Bool} : ∀ {l : List Nat}, pickU ops st l = some (d, b) → st.tmps.getD d .undef = .bool none b
  | [], h => by cases h
  | i :: l, h => by
    unfold pickU at h
    split at h
    · rename_i o ho
      split at h
      · rename_i x hx
        cases h
        unfold guardU at hx
        split at hx
        · cases hx
        · split at hx
          · split at hx
            · split at hx
              · rename_i hst
                cases hx
                exact hst
              · cases hx
            · cases hx
          · cases hx
      · exact pickU_spec h
    · exact pickU_spec h

def isLoad (o : Oper) : Bool := match o.op with
  | .load _ _ => true
  | _ => false

/-- The first operation that may come up now, reads no memory and touches nothing of the others; or is skipped. -/
def pickP (P : Program) (ops : Array Oper) (listed : Array Bool) (st : St) : List Nat → Option (Nat × Oper × Bool × AV)
  | [] => none
  | i :: l => match ops[i]? with
    | some o => if Region.free .any ops listed i = true then match guardSt ops st o with
        | some true => if isLoad o = true then pickP P ops listed st l else if (ixOf st o.op).isSome = true then pickP P ops listed st l else match aq P st.heap st.get o.op with
          | some (req, x) => some (i, o, req, x)
          | none => pickP P ops listed st l
        | some false => some (i, o, true, .tup [])
        | none => pickP P ops listed st l
      else pickP P ops listed st l
    | none => pickP P ops listed st l

/-- The block that a load reads. -/
def loadBlk (st : St) : Op → Option Nat
  | .load _ p => match st.get p with
    | .ptr b _ _ _ _ => some b
    | .rptr b _ _ => some b
    | _ => none
  | _ => none

/-- The first load that may come up now and touches nothing of the others. -/
def pickL (P : Program) (ops : Array Oper) (listed : Array Bool) (st : St) : List Nat → Option (Nat × Oper × Bool × AV × Nat)
  | [] => none
  | i :: l => match ops[i]? with
    | some o => if (isLoad o && Region.free .any ops listed i) = true then match guardSt ops st o with
        | some true => match aq P st.heap st.get o.op with
          | some (req, x) => match loadBlk st o.op with
            | some b => some (i, o, req, x, b)
            | none => pickL P ops listed st l
          | none => pickL P ops listed st l
        | _ => pickL P ops listed st l
      else pickL P ops listed st l
    | none => pickL P ops listed st l

/-- What may be taken ahead: an operation that reads no memory; where several may come up, a load, too, with its block. -/
def pick (P : Program) (ops : Array Oper) (listed : Array Bool) (st : St) (l : List Nat) : Option (Nat × Oper × Bool × AV × Option Nat) :=
  match pickP P ops listed st l with
  | some (i, o, req, x) => some (i, o, req, x, none)
  | none => match l with
    | _ :: _ :: _ => match pickL P ops listed st l with
      | some (i, o, req, x, b) => some (i, o, req, x, some b)
      | none => none
    | _ => none

def zcons (i : Nat) (b : Option Nat) (Z : List (Nat × Nat)) : List (Nat × Nat) := match b with
  | some b => (i, b) :: Z
  | none => Z

/-- The blocks that are held while an operation is done: those read ahead by loads for which it does not wait. -/
def heldBy (ops : Array Oper) (i : Nat) (Z : List (Nat × Nat)) : List Nat := (Z.filter fun p => !depB ops ops.size i p.1).map (·.2)

def evStep (P : Program) (cal : Cal ρ) (ops : Array Oper) (i : Nat) (o : Oper) (Z : List (Nat × Nat)) (st : St) (K : St → Option ρ) : Option ρ :=
  match heldBy ops i Z with
  | [] => guarded ops o st (evExec P cal o) K
  | b :: bs => guarded ops o st (evHeld P cal o (b :: bs)) K

def isM (ms : List (Nat × Tmp)) (i : Nat) : Bool := ms.any fun p => p.1 == i
def setAll (l : List Nat) (listed : Array Bool) : Array Bool := l.foldl (fun a i => a.setIfInBounds i true) listed

/-- An operation that is done now, beside makers that may have been done before. -/
def aloneOk (ops : Array Oper) (listed : Array Bool) (mk : List Nat) (j : Nat) : Bool := match mk with
  | [] => true
  | _ :: _ => Region.ready .any ops (setAll mk listed) == [j]

def evAny (P : Program) (cal : Cal ρ) (ops : Array Oper) (ms : List (Nat × Tmp)) : Nat → List (Nat × Nat) → Array Bool → St → (St → Option ρ) → Option ρ
  | 0, _, listed, st, K => match Region.ready .any ops listed with
    | [] => K (clearM listed ms st)
    | _ :: _ => none
  | n + 1, Z, listed, st, K => match Region.ready .any ops listed with
    | [] => K (clearM listed ms st)
    | i0 :: rs => match pick P ops listed (clearM listed ms st) (i0 :: rs) with
      | some (i, o, req, x, zb) => cond req (evAny P cal ops ms n (zcons i zb Z) (listed.setIfInBounds i true) ((clearM listed ms st).put o.dst x) K) none
      | none => match (match rs with | [] => none | _ :: _ => pickU ops (clearM listed ms st) (i0 :: rs)) with
          | some (d, b) => cond b
              (match pick P ops listed ((clearM listed ms st).put (some d) (.bool (some true) true)) (i0 :: rs) with
                | some (i, o, req, x, zb) => cond req (evAny P cal ops ms n (zcons i zb Z) (listed.setIfInBounds i true) (((clearM listed ms st).put (some d) (.bool (some true) true)).put o.dst x) K) none
                | none => none)
              (match pick P ops listed ((clearM listed ms st).put (some d) (.bool (some false) false)) (i0 :: rs) with
                | some (i, o, req, x, zb) => cond req (evAny P cal ops ms n (zcons i zb Z) (listed.setIfInBounds i true) (((clearM listed ms st).put (some d) (.bool (some false) false)).put o.dst x) K) none
                | none => none)
          | none => match (i0 :: rs).filter fun i => !isM ms i with
            | [j] => if aloneOk ops listed ((i0 :: rs).filter (isM ms)) j = true then match ops[j]? with
                | some o => evStep P cal ops j o Z (clearM listed ms st) fun st' => evAny P cal ops ms n Z (listed.setIfInBounds j true) st' K
                | none => none
              else none
            | [] => if aloneOk ops listed rs i0 = true then match ops[i0]? with
                | some o => match mkr P o with
                  | some (f, c) => evAny P cal ops ms n Z (listed.setIfInBounds i0 true) ⟨((clearM listed ms st).put o.dst (f st.heap.length)).tmps, st.heap ++ [some ⟨c, true, none⟩]⟩ K
                  | none => none
                | none => none
              else none
            | _ :: _ :: _ => none

theorem pickP_spec {P : Program} {ops : Array Oper} {listed : Array Bool} {st : St} {i : Nat} {o : Oper} {req : Bool} {x : AV} : ∀ {l : List Nat}, pickP P ops listed st l = some (i, o, req, x) →
    i ∈ l ∧ ops[i]? = some o ∧ Region.free .any ops listed i = true ∧ ((guardSt ops st o = some true ∧ isLoad o = false ∧ aq P st.heap st.get o.op = some (req, x)) ∨ (guardSt ops st o = some false ∧ req = true ∧ x = .tup []))
  | [], h => by cases h
  | j :: l, h => by
    unfold pickP at h
    have next : pickP P ops listed st l = some (i, o, req, x) → i ∈ j :: l ∧ ops[i]? = some o ∧ Region.free .any ops listed i = true ∧ ((guardSt ops st o = some true ∧ isLoad o = false ∧ aq P st.heap st.get o.op = some (req, x)) ∨ (guardSt ops st o = some false ∧ req = true ∧ x = .tup [])) := fun h =>
      let ⟨h1, h2⟩ := pickP_spec h
      ⟨List.mem_cons_of_mem _ h1, h2⟩
    split at h
    · rename_i o' ho
      split at h
      · rename_i hf
        split at h
        · rename_i hg
          split at h
          · exact next h
          · rename_i hl
            split at h
            · exact next h
            · split at h
              · rename_i req' x' hq
                cases h
                exact ⟨List.mem_cons_self .., ho, hf, .inl ⟨hg, by simpa using hl, hq⟩⟩
              · exact next h
        · rename_i hg
          cases h
          exact ⟨List.mem_cons_self .., ho, hf, .inr ⟨hg, rfl, rfl⟩⟩
        · exact next h
      · exact next h
    · exact next h

theorem pickL_spec {P : Program} {ops : Array Oper} {listed : Array Bool} {st : St} {i : Nat} {o : Oper} {req : Bool} {x : AV} {b : Nat} : ∀ {l : List Nat}, pickL P ops listed st l = some (i, o, req, x, b) →
    i ∈ l ∧ ops[i]? = some o ∧ isLoad o = true ∧ Region.free .any ops listed i = true ∧ guardSt ops st o = some true ∧ aq P st.heap st.get o.op = some (req, x) ∧ loadBlk st o.op = some b
  | [], h => by cases h
  | j :: l, h => by
    unfold pickL at h
    have next : pickL P ops listed st l = some (i, o, req, x, b) → i ∈ j :: l ∧ ops[i]? = some o ∧ isLoad o = true ∧ Region.free .any ops listed i = true ∧ guardSt ops st o = some true ∧ aq P st.heap st.get o.op = some (req, x) ∧ loadBlk st o.op = some b := fun h =>
      let ⟨h1, h2⟩ := pickL_spec h
      ⟨List.mem_cons_of_mem _ h1, h2⟩
    split at h
    · rename_i o' ho
      split at h
      · rename_i hp
        simp only [Bool.and_eq_true] at hp
        split at h
        · rename_i hg
          split at h
          · rename_i req' x' hq
            split at h
            · rename_i b' hb
              cases h
              exact ⟨List.mem_cons_self .., ho, hp.1, hp.2, hg, hq, hb⟩
            · exact next h
          · exact next h
        · exact next h
      · exact next h
    · exact next h

/-- A load, from its abstract value: it yields that wherever its block is as it is. -/
theorem load_held {P : Program} {M : List Place} {st : St} {B : Base} {w0 : World} {a : Act} {w : World} (hr : Rel M st B w0 a w) {ops : Array Oper} {o : Oper} {req : Bool} {x : AV} {b : Nat} (hl : isLoad o = true) (hgd : guardSt ops st o = some true)
    (hq : aq P st.heap st.get o.op = some (req, x)) (hb : loadBlk st o.op = some b) : ∃ pl v ob, M[b]? = some pl ∧ pl.nil = false ∧ RelV M x v ∧ w.heap[pl.blk]? = some ob ∧ YieldsIf P ops (fun w' => w'.heap[pl.blk]? = some ob) o v a := by
  have : ∃ t p, o.op = .load t p := by
    unfold isLoad at hl
    split at hl
    · rename_i t p he; exact ⟨t, p, he⟩
    · cases hl
  obtain ⟨t, p, hop⟩ := this
  have hg : RelV M (st.get p) (a.eval p) := get_rel hr.tmps p
  rw [hop] at hq hb
  simp only [aq, Option.map_eq_some_iff, Prod.mk.injEq] at hq
  obtain ⟨x', h1, _, rfl⟩ := hq
  obtain ⟨A, u, e, hu, hrun⟩ := aload_at hr.heap hg h1
  simp only [loadBlk] at hb
  have blk : ∃ pl, M[b]? = some pl ∧ pl.nil = false ∧ A.block = pl.blk := by
    split at hb
    · rename_i b' base dyn room span hst
      cases hb
      rw [hst] at hg
      simp only [RelV, RelX] at hg
      obtain ⟨pl, hp, hn, hv, _⟩ := hg
      rw [e] at hv
      simp at hv
      exact ⟨pl, hp, hn, by rw [hv]⟩
    · rename_i b' off room hst
      cases hb
      rw [hst] at hg
      simp only [RelV, RelX] at hg
      obtain ⟨pl, hp, hn, hv, _⟩ := hg
      rw [e] at hv
      simp at hv
      exact ⟨pl, hp, hn, by rw [hv]⟩
    · cases hb
  obtain ⟨pl, hp, hn, hA⟩ := blk
  have hob : ∃ ob, w.heap[pl.blk]? = some ob := by
    -- the load runs in this world
    cases hw : w.heap[pl.blk]? with
    | some ob => exact ⟨ob, rfl⟩
    | none =>
      exfalso
      have hx : ∃ o', st.heap[b]? = some (some o') := by
        unfold aload at h1
        split at h1
        · rename_i b' base dyn room span hst
          simp only [hst] at hb
          cases hb
          cases hc : objC st.heap b with
          | none => simp [hc] at h1
          | some c =>
            obtain ⟨o', pl', ho', _⟩ := objC_ok hr.heap hc
            exact ⟨o', ho'⟩
        · rename_i b' off room hst
          simp only [hst] at hb
          cases hb
          cases hc : objC st.heap b with
          | none => simp [hc] at h1
          | some c =>
            obtain ⟨o', pl', ho', _⟩ := objC_ok hr.heap hc
            exact ⟨o', ho'⟩
        · cases h1
      obtain ⟨o', ho'⟩ := hx
      obtain ⟨pl', hp', hok⟩ := hr.heap.obj b o' ho'
      rw [hp] at hp'; cases hp'
      have := objOk_lt hok hn
      rw [Array.getElem?_eq_none_iff] at hw
      omega
  obtain ⟨ob, hob⟩ := hob
  refine ⟨pl, u, ob, hp, hn, hu, hob, .inl ⟨guardSt_spec hgd hr.tmps, fun w' hw' => ?_⟩⟩
  have hrun' := hrun w' (fun ob' h' => by rw [hA] at h' ⊢; rw [hw', ← h', hob])
  simp [execOp, hop, e, Instr.loadAt, Instr.sureAddr, hrun']

/-- What was taken ahead. -/
theorem pick_sound {P : Program} {M : List Place} {st : St} {B : Base} {w0 : World} {a : Act} {w : World} (hr : Rel M st B w0 a w) {ops : Array Oper} {listed : Array Bool} {l : List Nat} {i : Nat} {o : Oper} {x : AV} {zb : Option Nat} (h : pick P ops listed st l = some (i, o, true, x, zb)) :
    i ∈ l ∧ ops[i]? = some o ∧ Region.free .any ops listed i = true ∧ ∃ v, RelV M x v ∧
      ((zb = none ∧ YieldsIf P ops (fun _ => True) o v a) ∨ (∃ b pl ob, zb = some b ∧ M[b]? = some pl ∧ pl.nil = false ∧ w.heap[pl.blk]? = some ob ∧ YieldsIf P ops (fun w' => w'.heap[pl.blk]? = some ob) o v a)) := by
  unfold pick at h
  split at h
  · rename_i i' o' req' x' hp
    cases h
    obtain ⟨h1, h2, h3, h4⟩ := pickP_spec hp
    refine ⟨h1, h2, h3, ?_⟩
    rcases h4 with ⟨g1, g2, g3⟩ | ⟨g1, _, g3⟩
    · have hnl : ∀ t b, o.op ≠ .load t b := by
        intro t b e
        simp [isLoad, e] at g2
      obtain ⟨v, hv, hrun⟩ := aq_pure (fun x => get_rel hr.tmps x) hnl g3 rfl
      exact ⟨v, hv, .inl ⟨rfl, .inl ⟨guardSt_spec g1 hr.tmps, fun w _ => hrun w⟩⟩⟩
    · subst g3
      exact ⟨undef, relV_skip M, .inl ⟨rfl, .inr ⟨guardSt_spec g1 hr.tmps, rfl⟩⟩⟩
  · split at h
    · split at h
      · rename_i i' o' req' x' b hp
        cases h
        obtain ⟨h1, h2, h3, h4, h5, h6, h7⟩ := pickL_spec hp
        obtain ⟨pl, v, ob, g1, g2, g3, g4, g5⟩ := load_held hr h3 h5 h6 h7
        exact ⟨h1, h2, h4, v, g3, .inr ⟨b, pl, ob, rfl, g1, g2, g4, g5⟩⟩
      · cases h
    · cases h

theorem aloneOk_spec {ops : Array Oper} {listed : Array Bool} {mk : List Nat} {j : Nat} (h : aloneOk ops listed mk j = true) : mk = [] ∨ Region.ready .any ops (setAll mk listed) = [j] := by
  cases mk with
  | nil => exact .inl rfl
  | cons x xs => exact .inr (by simpa [aloneOk] using h)

theorem evStep_sound {P : Program} (hP : Callable P) {cal : Cal ρ} (hcal : ∀ f, CalAt P f (cal f)) {ops : Array Oper} {i : Nat} {o : Oper} (ho : ops[i]? = some o) {Z : List (Nat × Nat)} {st : St} {K : St → Option ρ} {r : ρ} {M : List Place} {B : Base} {a : Act} {w : World}
    (h : evStep P cal ops i o Z st K = some r) (hr : Rel M st B w a w) {Q : Exit → Act → World → Prop} {next : Act → World → Prop} (hn : ∀ M' st' a' w', Ext M M' → K st' = some r → Rel M' st' B w a' w' → (∃ v, a' = a.put o.dst v) →
      (∀ b ∈ heldBy ops i Z, ∀ pl, M[b]? = some pl → pl.nil = false → w'.heap[pl.blk]? = w.heap[pl.blk]?) → next a' w') : wpOp P ops Q i next a w := by
  unfold wpOp
  rw [ho]
  unfold evStep at h
  split at h
  · rename_i hz
    rcases guarded_sound h hr.tmps with ⟨hw, st', h', ht, hh⟩ | ⟨hw, st', h', ht, hh⟩
    · simp only [hw, if_true]
      have hr' : Rel M st' B w a w := ⟨ht, hr.defers, by rw [hh]; exact hr.heap, Beneath.refl _ _⟩
      exact .inl (evExec_act hP hcal h' hr' fun M' st2 a' w' hE hk hr2 hact => hn M' st2 a' w' hE hk hr2 hact (by rw [hz]; simp))
    · simp only [hw, Bool.false_eq_true, if_false]
      have hr' : Rel M st' B w a w := ⟨ht, hr.defers, by rw [hh]; exact hr.heap, hr.below⟩
      exact hn M _ _ _ (Ext.refl M) h' (hr'.put (relV_skip M) o.dst) ⟨_, rfl⟩ (by rw [hz]; simp)
  · rename_i b bs hz
    rcases guarded_sound h hr.tmps with ⟨hw, st', h', ht, hh⟩ | ⟨hw, st', h', ht, hh⟩
    · simp only [hw, if_true]
      have hr' : Rel M st' B w a w := ⟨ht, hr.defers, by rw [hh]; exact hr.heap, Beneath.refl _ _⟩
      exact .inl (evHeld_sound hP hcal h' hr' fun M' st2 a' w' hE hk hr2 hu hact => hn M' st2 a' w' hE hk hr2 hact (by rw [hz]; exact hu))
    · simp only [hw, Bool.false_eq_true, if_false]
      have hr' : Rel M st' B w a w := ⟨ht, hr.defers, by rw [hh]; exact hr.heap, hr.below⟩
      exact hn M _ _ _ (Ext.refl M) h' (hr'.put (relV_skip M) o.dst) ⟨_, rfl⟩ (fun _ _ _ _ _ => rfl)

/-- Where blocks that were read ahead lie. -/
def ZRel (M : List Place) (Z : List (Nat × Nat)) (Zc : List (Nat × Nat)) : Prop := ∀ p ∈ Zc, ∃ b pl, (p.1, b) ∈ Z ∧ M[b]? = some pl ∧ pl.nil = false ∧ pl.blk = p.2

theorem ZRel.mono {M M' : List Place} (h : Ext M M') {Z Zc : List (Nat × Nat)} (r : ZRel M Z Zc) : ZRel M' Z Zc := fun p hp => by
  obtain ⟨b, pl, h1, h2, h3⟩ := r p hp
  exact ⟨b, pl, h1, h _ _ h2, h3⟩

theorem mkr_aq {P : Program} {o : Oper} {x : (Nat → AV) × Cont} (h : mkr P o = some x) : o.guard = none ∧ isLoad o = false ∧ ∀ H g, aq P H g o.op = none := by
  unfold mkr at h
  split at h
  · cases h
  · rename_i hg
    split at h
    · rename_i t hop
      exact ⟨hg, by simp [isLoad, hop], fun H g => by rw [hop]; rfl⟩
    · rename_i t len parts hop
      exact ⟨hg, by simp [isLoad, hop], fun H g => by rw [hop]; rfl⟩
    · cases h

/-- What is known of the makers of a region. -/
def MsOk (P : Program) (ops : Array Oper) (ms : List (Nat × Tmp)) : Prop := ∀ m ∈ ms, ∃ o f c, ops[m.1]? = some o ∧ o.dst = some m.2 ∧ mkr P o = some (f, c)

theorem mkrs_ok (P : Program) (ops : Array Oper) : MsOk P ops (mkrs P ops) := by
  intro m hm
  obtain ⟨i, _, hi⟩ := List.mem_filterMap.1 hm
  split at hi
  · rename_i o ho
    split at hi
    · rename_i d hd
      split at hi
      · rename_i hs
        cases hi
        obtain ⟨⟨f, c⟩, hx⟩ := Option.isSome_iff_exists.1 hs
        exact ⟨o, f, c, ho, hd, hx⟩
      · cases hi
    · cases hi
  · cases hi

theorem isM_mem {ms : List (Nat × Tmp)} {i : Nat} (h : isM ms i = true) : ∃ d, (i, d) ∈ ms := by
  obtain ⟨p, hp, he⟩ := List.any_eq_true.1 h
  simp only [beq_iff_eq] at he
  subst he
  exact ⟨p.2, hp⟩

/-- Makers that were done before. -/
structure Ahead (P : Program) (ops : Array Oper) (ms : List (Nat × Tmp)) (B : Base) (listed : Array Bool) (E : List (Nat × Nat)) (a : Act) (w : World) : Prop where
  each : ∀ p ∈ E, p.1 ∈ Region.ready .any ops listed ∧ isM ms p.1 = true ∧ (B.w p.2 ∧ B.vis p.2 ∧ ¬ B.f p.2) ∧ ∃ o d f c val cs el k, ops[p.1]? = some o ∧ o.dst = some d ∧ (p.1, d) ∈ ms ∧ mkr P o = some (f, c) ∧ Makes P o f c val cs el k ∧
    w.heap[p.2]? = some (.cells cs el) ∧ a.put (some d) (val p.2) = a
  apart : ∀ p ∈ E, ∀ q ∈ E, (p.1 = q.1 ∨ p.2 = q.2) → p = q
  nodup : E.Nodup

theorem mkrsOk_spec {ops : Array Oper} {ms : List (Nat × Tmp)} (h : mkrsOk ops ms = true) {i : Nat} {d : Tmp} (hm : (i, d) ∈ ms) {j : Nat} {o : Oper} (hj : ops[j]? = some o) (hne : j ≠ i) : o.dst ≠ some d := by
  have h1 := List.all_eq_true.1 h (i, d) hm
  have h2 := List.all_eq_true.1 h1 j (List.mem_range.2 (Array.getElem?_eq_some_iff.1 hj).1)
  simp only [hj, Bool.or_eq_true, beq_iff_eq, hne, false_or, Bool.not_eq_true'] at h2
  intro e
  rw [e] at h2
  simp at h2

theorem Ahead.put {P : Program} {ops : Array Oper} {ms : List (Nat × Tmp)} (hmo : mkrsOk ops ms = true) {B : Base} {listed : Array Bool} {E : List (Nat × Nat)} {a : Act} {w : World} (h : Ahead P ops ms B listed E a w) {i : Nat} {o : Oper} (hi : ops[i]? = some o) (hr : i ∈ Region.ready .any ops listed) (hne : ∀ p ∈ E, p.1 ≠ i)
    {w' : World} (hw : ∀ p ∈ E, w'.heap[p.2]? = w.heap[p.2]?) (v : Value) : Ahead P ops ms B (listed.setIfInBounds i true) E (a.put o.dst v) w' := by
  refine ⟨fun p hp => ?_, h.apart, h.nodup⟩
  obtain ⟨h1, h2, h3, oo, d, f, c, val, cs, el, k, g1, g2, g3, g4, g5, g6, g7⟩ := h.each p hp
  refine ⟨ready_mono h1 (hne p hp), h2, h3, oo, d, f, c, val, cs, el, k, g1, g2, g3, g4, g5, by rw [hw p hp]; exact g6, ?_⟩
  have hd := mkrsOk_spec hmo g3 hi (Ne.symm (hne p hp))
  rw [Act.put_comm a (x := o.dst) (y := some d) v (val p.2) (fun e he he2 => hd (by rw [he, he2])), g7]

theorem lst_false {E : List (Nat × Nat)} {listed : Array Bool} {j : Nat} (h : (lst E listed).getD j true = false) : listed.getD j true = false := by
  induction E generalizing listed with
  | nil => exact h
  | cons p E ih =>
    have h1 := ih (listed := listed.setIfInBounds p.1 true) h
    by_cases hj : p.1 = j
    · subst hj
      exfalso
      rcases Nat.lt_or_ge p.1 listed.size with h' | h'
      · simp [h'] at h1
      · simp [Array.getElem?_eq_none (show (listed.setIfInBounds p.1 true).size ≤ p.1 by simpa using h')] at h1
    · rwa [getD_set_ne true hj] at h1

theorem lst_not {E : List (Nat × Nat)} {listed : Array Bool} {j : Nat} (h : (lst E listed).getD j true = false) : ∀ p ∈ E, p.1 ≠ j := by
  intro p hp e
  subst e
  rw [← lst_mem_set hp] at h
  rcases Nat.lt_or_ge p.1 (lst E listed).size with h' | h'
  · simp [h'] at h
  · simp [Array.getElem?_eq_none (show ((lst E listed).setIfInBounds p.1 true).size ≤ p.1 by simpa using h')] at h

theorem less_weak {B : Base} {E E' : List (Nat × Nat)} (hE : ∀ p ∈ E', p ∈ E) {M : List Place} {H : Heap} {w : World} (r : RelH M H (B.less E) w) : RelH M H (B.less E') w :=
  r.rebase (B' := B.less E') (fun k h => ⟨h.1, fun p hp => h.2 p (hE p hp)⟩) (fun k h => ⟨h.1, fun p hp => h.2 p (hE p hp)⟩) (fun k pl h => h) (fun k ob _ h => h.elim (fun h => .inl ⟨h.1, fun p hp => h.2 p (hE p hp)⟩) .inr) (fun k h => h)

theorem less_nil {B : Base} {M : List Place} {H : Heap} {w : World} (r : RelH M H (B.less []) w) : RelH M H B w :=
  r.rebase (fun k h => h.1) (fun k h => h.1) (fun k pl h => h) (fun k ob _ h => h.elim (fun h => .inl h.1) .inr) (fun k h => h)

/-- A maker's block, told at last. -/
theorem made {P : Program} {M : List Place} {st : St} {B : Base} {a : Act} {w : World} {o : Oper} {f : Nat → AV} {c : Cont} {val : Nat → Value} {cs : Array Value} {el : TypeId} {k : Nat} (hm : Makes P o f c val cs el k) (ht : RelT M st.tmps a.tmps) (hH : RelH M st.heap B w) {g : Nat}
    (hg : w.heap[g]? = some (.cells cs el)) (hB : B.w g ∧ B.vis g) (hf : ¬ B.f g ∧ ∀ ob, ¬ FzAt M g ob) (hs : ∀ (i : Nat) (o : AObj) (pl : Place), st.heap[i]? = some (some o) → M[i]? = some pl → pl.nil = false → pl.blk ≠ g) {d : Tmp} (hd : o.dst = some d) (ha : a.put (some d) (val g) = a) :
    ∃ M', Ext M M' ∧ RelT M' (st.put o.dst (f st.heap.length)).tmps a.tmps ∧ RelH M' (st.heap ++ [some ⟨c, true, none⟩]) B w := by
  refine ⟨M ++ [⟨false, g, 0, k, cs.size, noFz⟩], Ext.snoc _ _, ?_, ?_⟩
  · have h1 := (ht.mono (Ext.snoc M [⟨false, g, 0, k, cs.size, noFz⟩])).put (hm.rel (M ++ [⟨false, g, 0, k, cs.size, noFz⟩]) st.heap.length g (by rw [hH.len]; simp)) d
    rw [hd]
    have e : a.tmps.setIfInBounds d (val g) = a.tmps := congrArg Act.tmps ha
    rw [e] at h1
    exact h1
  · refine hH.add (.inr ⟨rfl, cs, el, (0, 0), hg, rfl, by simpa using hm.le, ?_, fun _ => ⟨rfl, rfl, hB.1⟩⟩) (fun k h => by cases h) (fun _ => hB.2) (fun i oi pi hi hpi _ hn _ => hs i oi pi hi hpi hn) rfl (fun _ _ => hf)
    simp only [List.drop_zero]
    exact hm.cont M

theorem evAny_sound {P : Program} (hP : Callable P) {cal : Cal ρ} (hcal : ∀ f, CalAt P f (cal f)) {ops : Array Oper} (hs : Region.noSelect ops = true) {ms : List (Nat × Tmp)} (hms : MsOk P ops ms) (hmo : mkrsOk ops ms = true) {Q : Exit → Act → World → Prop} {K : St → Option ρ} {r : ρ} {B : Base} {w0 : World} :
    ∀ (n m : Nat) (Z Zc E : List (Nat × Nat)) (listed : Array Bool) (st : St) (M : List Place) (a : Act) (w : World), evAny P cal ops ms n Z listed st K = some r → Closed ops listed → ZRel M Z Zc → (∀ p ∈ Zc, p.2 < w.heap.size) → Ahead P ops ms B listed E a w →
      RelT M (clearM listed ms st).tmps a.tmps → a.defers = [] → RelH M st.heap (B.less E) w → Beneath B w0 w → cntF (lst E listed) ≤ m → (∀ M' st' a' w', Ext M M' → K st' = some r → Rel M' st' B w0 a' w' → Q .normal a' w') →
      wpAnyD P ops (fun e a w => e = .normal ∧ Q .normal a w) ops.size m Zc (lst E listed) a w := by
  have stop : ∀ (m : Nat) (Zc E : List (Nat × Nat)) (listed : Array Bool) (st : St) (M : List Place) (a : Act) (w : World), Region.ready .any ops listed = [] → K (clearM listed ms st) = some r → Ahead P ops ms B listed E a w →
      RelT M (clearM listed ms st).tmps a.tmps → a.defers = [] → RelH M st.heap (B.less E) w → Beneath B w0 w → (∀ M' st' a' w', Ext M M' → K st' = some r → Rel M' st' B w0 a' w' → Q .normal a' w') →
      wpAnyD P ops (fun e a w => e = .normal ∧ Q .normal a w) ops.size m Zc (lst E listed) a w := by
    intro m Zc E listed st M a w hrd h hA ht hd hH hb hn
    have hE : E = [] := by
      cases E with
      | nil => rfl
      | cons p E => have := (hA.each p (List.mem_cons_self ..)).1; rw [hrd] at this; cases this
    subst hE
    exact wpAnyD_done hrd ⟨rfl, hn M _ a w (Ext.refl M) h ⟨ht, hd, by rw [clearM_heap]; exact less_nil hH, hb⟩⟩ m
  intro n
  induction n with
  | zero =>
    intro m Z Zc E listed st M a w h hc hz hzlt hA ht hd hH hb hm hn
    unfold evAny at h
    split at h
    · rename_i hrd
      exact stop m Zc E listed st M a w hrd h hA ht hd hH hb hn
    · cases h
  | succ n ihn =>
    intro m
    induction m using Nat.strongRecOn with
    | _ m ihm =>
    intro Z Zc E listed st M a w h hc hz hzlt hA ht hd hH hb hm hn
    have h0 := h
    have hcl : Closed ops (lst E listed) := closed_lst hc fun p hp => (hA.each p hp).1
    have hR : Rel M (clearM listed ms st) (B.less E) w a w := ⟨ht, hd, by rw [clearM_heap]; exact hH, Beneath.refl _ _⟩
    -- fuel
    have fuel : ∀ {j : Nat}, (lst E listed).getD j true = false → ∃ m', m = m' + 1 ∧ cntF (lst E (listed.setIfInBounds j true)) ≤ m' := by
      intro j hj
      have := cntF_set hj
      rw [lst_set]
      exact ⟨m - 1, by omega, by omega⟩
    -- one that is taken ahead, from a state that tells the same
    have ahead : ∀ (st1 : St), st1.heap = st.heap → RelT M st1.tmps a.tmps → ∀ {l : List Nat} {i : Nat} {o : Oper} {req : Bool} {x : AV} {zb : Option Nat}, Region.ready .any ops listed = l → pick P ops listed st1 l = some (i, o, req, x, zb) →
        cond req (evAny P cal ops ms n (zcons i zb Z) (listed.setIfInBounds i true) (st1.put o.dst x) K) none = some r → wpAnyD P ops (fun e a w => e = .normal ∧ Q .normal a w) ops.size m Zc (lst E listed) a w := by
      intro st1 hh1 ht1 l i o req x zb hrd hp h
      have hr1 : Rel M st1 (B.less E) w a w := ⟨ht1, hd, by rw [hh1]; exact hH, Beneath.refl _ _⟩
      cases req with
      | false => cases h
      | true =>
        obtain ⟨h1, h2, h3, v, hv, h4⟩ := pick_sound hr1 hp
        have hrdy : i ∈ Region.ready .any ops listed := by rw [hrd]; exact h1
        -- it is no maker
        have hnm : ∀ p ∈ E, p.1 ≠ i := by
          intro p hp' e
          obtain ⟨_, _, _, oo, d, f, c, _, _, _, _, g1, _, _, g4, _⟩ := hA.each p hp'
          rw [e, h2] at g1
          cases g1
          obtain ⟨q1, q2, q3⟩ := mkr_aq g4
          unfold pick at hp
          split at hp
          · rename_i i' o' req' x' hpp
            cases hp
            obtain ⟨_, _, _, s4⟩ := pickP_spec hpp
            rcases s4 with ⟨_, _, s⟩ | ⟨s, _⟩
            · rw [q3] at s; cases s
            · unfold guardSt at s; rw [q1] at s; cases s
          · split at hp
            · split at hp
              · rename_i i' o' req' x' b hpp
                cases hp
                obtain ⟨_, _, s3, _⟩ := pickL_spec hpp
                rw [q2] at s3; cases s3
              · cases hp
            · cases hp
        have hrdy' := ready_lst hrdy hnm
        obtain ⟨m', rfl, hm'⟩ := fuel (mem_ready.1 hrdy').1
        have hfree : ∀ j oj, ops[j]? = some oj → j ≠ i → (lst E listed).getD j true = false → (∀ e ∈ oj.after, Region.binds .any e = true → e.on ≠ i) → o.apart ops oj = true := fun j oj hj hji hun hno => Region.free_spec h2 h3 j oj hj hji (lst_false hun) hno
        have hA' := hA.put hmo h2 hrdy hnm (w' := w) (fun _ _ => rfl) v
        have ht' : RelT M (clearM (listed.setIfInBounds i true) ms (st1.put o.dst x)).tmps (a.put o.dst v).tmps := (hr1.put hv o.dst).tmps.clear _ _
        have hh' : (st1.put o.dst x).heap = st.heap := by rw [← hh1]; cases o.dst <;> rfl
        have hd' : (a.put o.dst v).defers = [] := by rw [← hd]; cases o.dst <;> rfl
        rcases h4 with ⟨rfl, h4⟩ | ⟨b, pl, ob, rfl, g1, g2, g4, g5⟩
        · refine wpAnyD_first (G := []) (S := fun _ => True) h2 (Region.noSelect_spec hs) (fun c a w hq => nomatch hq.1) (fun _ _ _ _ => trivial) m' Zc (lst E listed) a w (by simp) hcl hfree hrdy' h4 trivial ?_
          rw [← lst_set]
          exact ihn m' Z Zc E _ _ M _ w h (hc.set hrdy) hz hzlt hA' ht' hd' (by rw [hh']; exact hH) hb hm' hn
        · refine wpAnyD_less (Z := (i, pl.blk) :: Zc) (fun p hp => List.mem_cons_of_mem _ hp) ?_
          refine wpAnyD_first (G := [pl.blk]) (S := fun w' => w'.heap[pl.blk]? = some ob) h2 (Region.noSelect_spec hs) (fun c a w hq => nomatch hq.1) (fun w1 w2 hg hS => by rw [hg _ (by simp)]; exact hS) m' _ (lst E listed) a w (by simp) hcl hfree hrdy' g5 g4 ?_
          rw [← lst_set]
          refine ihn m' ((i, b) :: Z) ((i, pl.blk) :: Zc) E _ _ M _ w h (hc.set hrdy) ?_ ?_ hA' ht' hd' (by rw [hh']; exact hH) hb hm' hn
          · intro p hp
            rcases List.mem_cons.1 hp with rfl | hp
            · exact ⟨b, pl, List.mem_cons_self .., g1, g2, rfl⟩
            · obtain ⟨b', pl', z1, z2⟩ := hz p hp
              exact ⟨b', pl', List.mem_cons_of_mem _ z1, z2⟩
          · intro p hp
            rcases List.mem_cons.1 hp with rfl | hp
            · exact (Array.getElem?_eq_some_iff.1 g4).1
            · exact hzlt p hp
    -- a maker that is done before
    have early : ∀ {k : Nat}, k ∈ Region.ready .any ops listed → isM ms k = true → k ∈ Region.ready .any ops (lst E listed) → ∀ {m' : Nat}, m = m' + 1 →
        wpOp P ops (fun e a w => e = .normal ∧ Q .normal a w) k (fun a' w' => (∀ p ∈ Zc, depB ops ops.size k p.1 = false → w'.heap[p.2]? = w.heap[p.2]?) ∧ ∃ Z', (∀ p ∈ Zc, p ∈ Z') ∧ wpAnyD P ops (fun e a w => e = .normal ∧ Q .normal a w) ops.size m' Z' ((lst E listed).setIfInBounds k true) a' w') a w := by
      intro k hk hkm hk' m' hm1
      have hkE := lst_not (mem_ready.1 hk').1
      obtain ⟨d, hkd⟩ := isM_mem hkm
      obtain ⟨o, f, c, ho, hdst, hmk⟩ := hms (k, d) hkd
      obtain ⟨val, cs, el, kk, hM⟩ := mkr_sound hmk
      have s1 : (w.alloc (.cells cs el)).heap.size = w.heap.size + 1 := by simp
      have g1 : (w.alloc (.cells cs el)).heap[w.heap.size]? = some (.cells cs el) := by
        show (w.heap.push _)[w.heap.size]? = some _
        simp
      have hbel := below_alloc w (.cells cs el)
      unfold wpOp
      rw [ho]
      have hw : Region.wanted o (yielded ops a.tmps) = true := by simp [Region.wanted, hM.guard]
      simp only [hw, if_true]
      refine .inl ?_
      unfold Oper.wp
      rw [hM.run a w]
      refine ⟨fun p hp _ => hbel.block _ (hzlt p hp), Zc, fun _ h => h, ?_⟩
      have e : (lst E listed).setIfInBounds k true = lst (E ++ [(k, w.heap.size)]) listed := (lst_snoc E (k, w.heap.size) listed).symm
      rw [e]
      have hEsz : ∀ p ∈ E, p.2 < w.heap.size := fun p hp => by
        obtain ⟨_, _, _, _, _, _, _, _, _, _, _, _, _, _, _, _, g6, _⟩ := hA.each p hp
        exact (Array.getElem?_eq_some_iff.1 g6).1
      have hbase := hH.base w.heap.size (Nat.le_refl _)
      refine ihm m' (by omega) Z Zc (E ++ [(k, w.heap.size)]) listed st M (a.put o.dst (val w.heap.size)) _ h0 hc hz (fun p hp => by rw [s1]; have := hzlt p hp; omega) ?_ ?_ ?_ ?_ (hb.trans (Beneath.of hbel)) ?_ hn
      · refine ⟨fun p hp => ?_, ?_, ?_⟩
        · rcases List.mem_append.1 hp with hp | hp
          · obtain ⟨h1, h2, h3, oo, d', f', c', val', cs', el', k', q1, q2, q3, q4, q5, q6, q7⟩ := hA.each p hp
            refine ⟨h1, h2, h3, oo, d', f', c', val', cs', el', k', q1, q2, q3, q4, q5, by rw [hbel.block _ (hEsz p hp)]; exact q6, ?_⟩
            have hdd := mkrsOk_spec hmo q3 ho (Ne.symm (hkE p hp))
            rw [Act.put_comm a (x := o.dst) (y := some d') _ (val' p.2) (fun e he he2 => hdd (by rw [he, he2])), q7]
          · simp only [List.mem_cons, List.not_mem_nil, or_false] at hp
            subst hp
            refine ⟨hk, hkm, ⟨hbase.1.1, hbase.2.1, hH.bf _ (Nat.le_refl _)⟩, o, d, f, c, val, cs, el, kk, ho, hdst, hkd, hmk, hM, g1, ?_⟩
            rw [hdst]
            simp only [Act.put]
            congr 1
            apply Array.ext
            · simp
            · intro t h1 h2
              by_cases ht2 : d = t
              · subst ht2; simp
              · simp [Array.getElem_setIfInBounds_ne (h := ht2)]
        · intro p hp q hq hpq
          rcases List.mem_append.1 hp with hp | hp <;> rcases List.mem_append.1 hq with hq | hq
          · exact hA.apart p hp q hq hpq
          · simp only [List.mem_cons, List.not_mem_nil, or_false] at hq
            subst hq
            rcases hpq with e | e
            · exact absurd e (hkE p hp)
            · have := hEsz p hp; simp only at e; omega
          · simp only [List.mem_cons, List.not_mem_nil, or_false] at hp
            subst hp
            rcases hpq with e | e
            · exact absurd e.symm (hkE q hq)
            · have := hEsz q hq; simp only at e; omega
          · simp only [List.mem_cons, List.not_mem_nil, or_false] at hp hq
            rw [hp, hq]
        · rw [List.nodup_append]
          refine ⟨hA.nodup, by simp, fun p hp q hq e => ?_⟩
          simp only [List.mem_cons, List.not_mem_nil, or_false] at hq
          subst e
          exact hkE p hp (by rw [hq])
      · rw [hdst]
        exact ht.putAny (clearM_undef listed ms st hkd (mem_ready.1 hk).1) _
      · rw [← hd]; cases o.dst <;> rfl
      · have hH1 : RelH M st.heap (B.less E) (w.alloc (.cells cs el)) := hH.below hbel
        have nofz : ∀ j ob, FzAt M j ob → ∀ p ∈ E ++ [(k, w.heap.size)], j ≠ p.2 := fun j ob hj p hp => by
          rcases List.mem_append.1 hp with hp | hp
          · exact (hH1.fz j ob hj).2.1.2 p hp
          · simp only [List.mem_cons, List.not_mem_nil, or_false] at hp
            rw [hp]
            exact Nat.ne_of_lt (hH.fz_lt hj)
        refine ⟨hH1.len, fun j hj => ?_, fun j oj hj => ?_, hH1.sep, hH1.pin, fun j oj pl hj hpl hnl => ?_, fun j ob hj => ⟨(hH1.fz j ob hj).1, ⟨(hH1.fz j ob hj).2.1.1, nofz j ob hj⟩, (hH1.fz j ob hj).2.2.elim (fun h => .inl ⟨h.1, nofz j ob hj⟩) .inr⟩, hH1.fo, hH1.bf⟩
        · have := hH1.base j hj
          rw [s1] at hj
          refine ⟨⟨this.1.1, fun p hp => ?_⟩, ⟨this.2.1, fun p hp => ?_⟩⟩
          all_goals
            rcases List.mem_append.1 hp with hp | hp
            · have := hEsz p hp; omega
            · simp only [List.mem_cons, List.not_mem_nil, or_false] at hp
              rw [hp]
              show j ≠ w.heap.size
              omega
        · obtain ⟨pl, hpl, hok⟩ := hH.obj j oj hj
          refine ⟨pl, hpl, ?_⟩
          rcases hok with hok | ⟨q1, cs', el', fz, q2, q3, q4, q5, q6⟩
          · exact .inl hok
          · have hlt := (Array.getElem?_eq_some_iff.1 q2).1
            refine .inr ⟨q1, cs', el', fz, by rw [hbel.block _ hlt]; exact q2, q3, q4, q5, fun e => ⟨(q6 e).1, (q6 e).2.1, (q6 e).2.2.1, fun p hp => ?_⟩⟩
            rcases List.mem_append.1 hp with hp | hp
            · exact (q6 e).2.2.2 p hp
            · simp only [List.mem_cons, List.not_mem_nil, or_false] at hp
              rw [hp]
              show pl.blk ≠ w.heap.size
              omega
        · have hv := hH1.vis j oj pl hj hpl hnl
          obtain ⟨pl', hpl', hok⟩ := hH.obj j oj hj
          rw [hpl] at hpl'; cases hpl'
          have hlt := objOk_lt hok hnl
          refine ⟨hv.1, fun p hp => ?_⟩
          rcases List.mem_append.1 hp with hp | hp
          · exact hv.2 p hp
          · simp only [List.mem_cons, List.not_mem_nil, or_false] at hp
            rw [hp]
            show pl.blk ≠ w.heap.size
            omega
      · rw [← e]
        have := cntF_set (mem_ready.1 hk').1
        omega
    unfold evAny at h
    split at h
    · rename_i hrd
      exact stop m Zc E listed st M a w hrd h hA ht hd hH hb hn
    · rename_i i0 rs hrd
      have hEr : ∀ p ∈ E, p.1 ∈ i0 :: rs := fun p hp => by rw [← hrd]; exact (hA.each p hp).1
      split at h
      · rename_i i o req x zb hp
        exact ahead _ (clearM_heap ..) ht hrd hp h
      · split at h
        · rename_i d b hu
          have hu : pickU ops (clearM listed ms st) (i0 :: rs) = some (d, b) := by
            cases rs with
            | nil => cases hu
            | cons _ _ => exact hu
          have hst := pickU_spec hu
          have hlit : RelT M ((clearM listed ms st).put (some d) (.bool (some b) b)).tmps a.tmps := by
            have hv := ht.2 d
            rw [hst] at hv
            obtain ⟨e, _⟩ := relV_bool hv
            have h1 := hR.put (x := .bool (some b) b) (v := .bool b) (by simp [RelV, RelX]) (some d)
            rw [← e, put_self] at h1
            exact h1.tmps
          cases b with
          | true =>
            simp only [cond_true] at h
            split at h
            · rename_i i o req x zb hp
              exact ahead ((clearM listed ms st).put (some d) (.bool (some true) true)) (clearM_heap listed ms st) hlit hrd hp h
            · cases h
          | false =>
            simp only [cond_false] at h
            split at h
            · rename_i i o req x zb hp
              exact ahead ((clearM listed ms st).put (some d) (.bool (some false) false)) (clearM_heap listed ms st) hlit hrd hp h
            · cases h
        · split at h
          · rename_i j hj
            split at h
            case isFalse => cases h
            rename_i hal
            split at h
            · rename_i o ho
              have hjm : j ∈ (i0 :: rs).filter fun i => !isM ms i := by rw [hj]; simp
              obtain ⟨hjr, hjn⟩ := List.mem_filter.1 hjm
              have hjE : ∀ p ∈ E, p.1 ≠ j := fun p hp e => by
                have := (hA.each p hp).2.1
                rw [e] at this
                rw [this] at hjn
                cases hjn
              have hjr' : j ∈ Region.ready .any ops listed := by rw [hrd]; exact hjr
              have hjl := ready_lst hjr' hjE
              obtain ⟨m', hm1, hm'⟩ := fuel (mem_ready.1 hjl).1
              rw [hm1]
              refine ⟨fun hemp => (by rw [hemp] at hjl; cases hjl), fun k hk => ?_⟩
              by_cases hkj : k = j
              · subst hkj
                refine evStep_sound hP hcal ho h hR fun M' st' a' w' hE hk2 hr' hact hu => ⟨fun p hp hdp => ?_, Zc, fun _ h => h, ?_⟩
                · obtain ⟨b, pl, z1, z2, z3, z4⟩ := hz p hp
                  rw [← z4]
                  refine hu b ?_ pl z2 z3
                  unfold heldBy
                  exact List.mem_map.2 ⟨(p.1, b), List.mem_filter.2 ⟨z1, by simp [hdp]⟩, rfl⟩
                · obtain ⟨v, rfl⟩ := hact
                  rw [← lst_set]
                  have hbl : ∀ p ∈ E, w'.heap[p.2]? = w.heap[p.2]? := fun p hp => by
                    obtain ⟨_, _, _, _, _, _, _, _, _, _, _, _, _, _, _, _, g6, _⟩ := hA.each p hp
                    exact hr'.below.block _ (Array.getElem?_eq_some_iff.1 g6).1 fun h2 => h2.2 p hp rfl
                  have hbw : Beneath B w w' := ⟨hr'.below.os, hr'.below.tape, hr'.below.output, hr'.below.size, fun q hq hnq => hr'.below.block q hq fun h2 => hnq h2.1⟩
                  exact ihn m' Z Zc E _ st' M' _ w' hk2 (hc.set hjr') (hz.mono hE) (fun p hp => Nat.lt_of_lt_of_le (hzlt p hp) hr'.below.size) (hA.put hmo ho hjr' hjE hbl v) (hr'.tmps.clear _ _) hr'.defers hr'.heap (hb.trans hbw) hm'
                    fun M2 st3 a3 w3 hE2 => hn M2 st3 a3 w3 (hE.trans hE2)
              · -- a maker
                have hmk : k ∈ (i0 :: rs).filter (isM ms) := by
                  by_cases hin : k ∈ (i0 :: rs).filter (isM ms)
                  · exact hin
                  · exfalso
                    have hEf : ∀ p ∈ E, p.1 ∈ (i0 :: rs).filter (isM ms) := fun p hp => List.mem_filter.2 ⟨hEr p hp, (hA.each p hp).2.1⟩
                    have hmore := ready_more hEf hk hin
                    rcases aloneOk_spec hal with hnil | h1
                    · rw [hnil] at hmore
                      simp only [List.foldl_nil] at hmore
                      rw [hrd] at hmore
                      have : k ∈ (i0 :: rs).filter fun i => !isM ms i := by
                        refine List.mem_filter.2 ⟨hmore, ?_⟩
                        cases hq : isM ms k
                        · rfl
                        · exact absurd (List.mem_filter.2 ⟨hmore, hq⟩) hin
                      rw [hj] at this
                      simp at this
                      exact hkj this
                    · change k ∈ Region.ready .any ops (setAll _ listed) at hmore
                      rw [h1] at hmore
                      simp at hmore
                      exact hkj hmore
                obtain ⟨hkr, hkm⟩ := List.mem_filter.1 hmk
                exact early (by rw [hrd]; exact hkr) hkm hk hm1
            · cases h
          · rename_i hnil
            split at h
            case isFalse => cases h
            rename_i hal
            split at h
            · rename_i o ho
              split at h
              · rename_i f c hmk
                have hallM : ∀ k ∈ i0 :: rs, isM ms k = true := by
                  intro k hk
                  cases hq : isM ms k
                  · have : k ∈ (i0 :: rs).filter fun i => !isM ms i := List.mem_filter.2 ⟨hk, by simp [hq]⟩
                    rw [hnil] at this
                    cases this
                  · rfl
                have hi0 : i0 ∈ Region.ready .any ops listed := by rw [hrd]; simp
                obtain ⟨d, hi0d⟩ := isM_mem (hallM i0 (by simp))
                obtain ⟨o', f', c', ho', hdst, hmk'⟩ := hms (i0, d) hi0d
                rw [ho] at ho'; cases ho'
                rw [hmk] at hmk'; cases hmk'
                have told : ∀ (E' : List (Nat × Nat)) (g : Nat) (val : Nat → Value) (cs : Array Value) (el : TypeId) (kk : Nat) (a1 : Act) (w1 : World) (m1 : Nat), Makes P o f c val cs el kk → w1.heap[g]? = some (.cells cs el) → (B.less E').w g ∧ (B.less E').vis g → (¬ B.f g ∧ ∀ ob, ¬ FzAt M g ob) →
                    (∀ (i : Nat) (o : AObj) (pl : Place), st.heap[i]? = some (some o) → M[i]? = some pl → pl.nil = false → pl.blk ≠ g) → a1.put (some d) (val g) = a1 → RelT M (clearM listed ms st).tmps a1.tmps → a1.defers = [] → RelH M st.heap (B.less E') w1 → Beneath B w0 w1 →
                    Ahead P ops ms B (listed.setIfInBounds i0 true) E' a1 w1 → (∀ p ∈ Zc, p.2 < w1.heap.size) → cntF (lst E' (listed.setIfInBounds i0 true)) ≤ m1 →
                    wpAnyD P ops (fun e a w => e = .normal ∧ Q .normal a w) ops.size m1 Zc (lst E' (listed.setIfInBounds i0 true)) a1 w1 := by
                  intro E' g val cs el kk a1 w1 m1 hMk hg hBg hfg hsep ha1 ht1 hd1 hH1 hb1 hA1 hz1 hm1
                  obtain ⟨M', hE, hT, hHH⟩ := made (st := ⟨(clearM listed ms st).tmps, st.heap⟩) hMk ht1 hH1 hg hBg hfg hsep hdst ha1
                  refine ihn m1 Z Zc E' _ _ M' a1 w1 h (hc.set hi0) (hz.mono hE) hz1 hA1 ?_ hd1 hHH hb1 hm1 fun M2 st3 a3 w3 hE2 => hn M2 st3 a3 w3 (hE.trans hE2)
                  refine RelT.clear (st := ⟨_, _⟩) ?_ _ _
                  have e1 : ((clearM listed ms st).put o.dst (f st.heap.length)).tmps = (St.put ⟨(clearM listed ms st).tmps, st.heap⟩ o.dst (f st.heap.length)).tmps := by cases o.dst <;> rfl
                  rw [e1]
                  exact hT
                by_cases hin : ∃ p ∈ E, p.1 = i0
                · -- it has been made before
                  obtain ⟨p, hp, hpe⟩ := hin
                  obtain ⟨_, _, hBp, oo, d', f', c', val, cs, el, kk, q1, q2, q3, q4, q5, q6, q7⟩ := hA.each p hp
                  rw [hpe, ho] at q1; cases q1
                  rw [hdst] at q2; cases q2
                  rw [hmk] at q4; cases q4
                  have hlst : lst E listed = lst (E.erase p) (listed.setIfInBounds i0 true) := by rw [← lst_erase hp, hpe]
                  have hsub : ∀ q ∈ E.erase p, q ∈ E := fun q hq => List.mem_of_mem_erase hq
                  have hne2 : ∀ q ∈ E.erase p, q ≠ p := fun q hq e => by
                    subst e
                    exact (List.Nodup.not_mem_erase hA.nodup) hq
                  rw [hlst]
                  refine told (E.erase p) p.2 val cs el kk a w m q5 q6 ⟨⟨hBp.1, fun q hq e => hne2 q hq (hA.apart q (hsub q hq) p hp (.inr e.symm))⟩, ⟨hBp.2.1, fun q hq e => hne2 q hq (hA.apart q (hsub q hq) p hp (.inr e.symm))⟩⟩ ⟨hBp.2.2, fun ob h => (hH.fz _ ob h).2.1.2 p hp rfl⟩
                    (fun i o pl hi hpl hnl e => (hH.vis i o pl hi hpl hnl).2 p hp e) q7 ht hd (less_weak hsub hH) hb ?_ hzlt (by rw [← hlst]; exact hm)
                  refine ⟨fun q hq => ?_, fun q hq q' hq' => hA.apart q (hsub q hq) q' (hsub q' hq'), hA.nodup.erase _⟩
                  obtain ⟨r1, r2⟩ := hA.each q (hsub q hq)
                  refine ⟨ready_mono r1 fun e => hne2 q hq (hA.apart q (hsub q hq) p hp (.inl (e.trans hpe.symm))), r2⟩
                · have hiE : ∀ p ∈ E, p.1 ≠ i0 := fun p hp e => hin ⟨p, hp, e⟩
                  have hil := ready_lst hi0 hiE
                  obtain ⟨m', hm1, hm'⟩ := fuel (mem_ready.1 hil).1
                  rw [hm1]
                  refine ⟨fun hemp => (by rw [hemp] at hil; cases hil), fun k hk => ?_⟩
                  by_cases hki : k = i0
                  · subst hki
                    obtain ⟨val, cs, el, kk, hMk⟩ := mkr_sound hmk
                    have s1 : (w.alloc (.cells cs el)).heap.size = w.heap.size + 1 := by simp
                    have g1 : (w.alloc (.cells cs el)).heap[w.heap.size]? = some (.cells cs el) := by
                      show (w.heap.push _)[w.heap.size]? = some _
                      simp
                    have hbel := below_alloc w (.cells cs el)
                    unfold wpOp
                    rw [ho]
                    have hw : Region.wanted o (yielded ops a.tmps) = true := by simp [Region.wanted, hMk.guard]
                    simp only [hw, if_true]
                    refine .inl ?_
                    unfold Oper.wp
                    rw [hMk.run a w]
                    refine ⟨fun p hp _ => hbel.block _ (hzlt p hp), Zc, fun _ h => h, ?_⟩
                    rw [← lst_set]
                    have hbase := hH.base w.heap.size (Nat.le_refl _)
                    refine told E w.heap.size val cs el kk _ _ m' hMk g1 hbase ⟨hH.bf _ (Nat.le_refl _), fun ob h => absurd (hH.fz_lt h) (Nat.lt_irrefl _)⟩ (fun i oi pl hi hpl hnl => ?_) ?_ ?_ ?_ (hH.below hbel) (hb.trans (Beneath.of hbel)) ?_ (fun p hp => by rw [s1]; have := hzlt p hp; omega) hm'
                    · obtain ⟨pl', hpl', hok⟩ := hH.obj i oi hi
                      rw [hpl] at hpl'; cases hpl'
                      have := objOk_lt hok hnl
                      omega
                    · rw [hdst]
                      simp only [Act.put]
                      congr 1
                      apply Array.ext
                      · simp
                      · intro t h1 h2
                        by_cases ht2 : d = t
                        · subst ht2; simp
                        · simp [Array.getElem_setIfInBounds_ne (h := ht2)]
                    · rw [hdst]
                      exact ht.putAny (clearM_undef listed ms st hi0d (mem_ready.1 hi0).1) _
                    · rw [← hd]; cases o.dst <;> rfl
                    · refine hA.put hmo ho hi0 hiE (fun p hp => ?_) _
                      obtain ⟨_, _, _, _, _, _, _, _, _, _, _, _, _, _, _, _, g6, _⟩ := hA.each p hp
                      exact hbel.block _ (Array.getElem?_eq_some_iff.1 g6).1
                  · have hkr : k ∈ rs := by
                      by_cases hin2 : k ∈ rs
                      · exact hin2
                      · exfalso
                        have hEf : ∀ p ∈ E, p.1 ∈ rs := fun p hp => by
                          rcases List.mem_cons.1 (hEr p hp) with e | e
                          · exact absurd e (hiE p hp)
                          · exact e
                        have hmore := ready_more hEf hk hin2
                        rcases aloneOk_spec hal with hnil2 | h1
                        · rw [hnil2] at hmore
                          simp only [List.foldl_nil] at hmore
                          rw [hrd, hnil2] at hmore
                          simp at hmore
                          exact hki hmore
                        · change k ∈ Region.ready .any ops (setAll _ listed) at hmore
                          rw [h1] at hmore
                          simp at hmore
                          exact hki hmore
                    exact early (by rw [hrd]; exact List.mem_cons_of_mem _ hkr) (hallM k (List.mem_cons_of_mem _ hkr)) hk hm1
              · cases h
            · cases h
          · cases h

theorem closed_none (ops : Array Oper) (n : Nat) : Closed ops (Array.replicate n false) := fun j o _ hj => by
  exfalso
  rcases Nat.lt_or_ge j n with h | h
  · simp [h] at hj
  · simp [Array.getElem?_eq_none (show (Array.replicate n false).size ≤ j by simpa using h)] at hj

/-- Whatever order: all of it, operation by operation. -/
def evAnyR (P : Program) (cal : Cal ρ) (ops : Array Oper) (st : St) (K : St → Option ρ) : Option ρ :=
  if (Region.noSelect ops && mkrsOk ops (mkrs P ops)) = true then evAny P cal ops (mkrs P ops) ops.size [] (Array.replicate ops.size false) st K else none

/-- A call that may write what the caller has: of a function value, or with a pointer. -/
def riskyCall (P : Program) (o : Oper) : Bool := match o.op with
  | .call c => match c.callee with
    | .value (.tmp _) => true
    | .value _ => c.argTypes.any fun t => match P.underlying t with
      | some (.pointer _) => true
      | _ => false
    | _ => false
  | _ => false

/-- A call that makes a slice for another call of the region. -/
def feeds (P : Program) (ops : Array Oper) (o : Oper) : Bool := match o.op, o.dst with
  | .call c, some d =>
    (match c.callee with
      | .value (.func f) => (match P.funcs[f]? with
        | some fn => fn.resultTypes.any fun t => match P.underlying t with
          | some (.slice _) => true
          | _ => false
        | none => false)
      | _ => false) &&
    ops.any fun o' => match o'.op with
      | .call c' => c'.args.any fun x => match x with
        | .tmp t => t == d
        | _ => false
      | _ => false
  | _, _ => false

def risky (P : Program) (ops : Array Oper) : Bool := ops.any (riskyCall P) || ops.any (feeds P ops)

def evRegion (P : Program) (cal : Cal ρ) (qcal : QCal ρ) (ops : Array Oper) (draw : Bool) (st : St) (K : St → Option ρ) : Option ρ :=
  match draw with
  | false => evList P cal ops ops.toList st K
  | true => if P.follows .mixedOrders = true then
      if risky P ops = true then evAnyR P cal ops st K
      else if hdLen ops = ops.size then (if Region.lexB .any ops = true then evQList P qcal ops ops.toList st K else evAnyR P cal ops st K)
      else if Region.lexTailB .any ops (hdLen ops) = true then
        evQList P qcal ops (ops.toList.take (hdLen ops)) st fun st' => evList P cal ops (ops.toList.drop (hdLen ops)) st' K
      else evAnyR P cal ops st K
    else none

theorem evRegion_sound {P : Program} (hP : Callable P) {cal : Cal ρ} (hcal : ∀ f, CalAt P f (cal f)) {qcal : QCal ρ} (hq : ∀ f, QCalAt P f (qcal f)) {ops : Array Oper} {draw : Bool} {id : Nat} {st : St} {K : St → Option ρ} {r : ρ} (h : evRegion P cal qcal ops draw st K = some r)
    {M : List Place} {B : Base} {w0 : World} {a : Act} {w : World} (hr : Rel M st B w0 a w) {Q : Exit → Act → World → Prop} (hn : ∀ M' st' a' w', Ext M M' → K st' = some r → Rel M' st' B w0 a' w' → Q .normal a' w') : (Code.region id ops draw).wp P Q a w := by
  unfold evRegion at h
  split at h
  · exact wp_region_list (evList_sound hP hcal h hr hn)
  · split at h
    · rename_i hm
      have hb0 : Below w.heap.size w w.drew := (Below.refl _ _).drew
      have hH0 : RelH M st.heap B w.drew := hr.heap.below hb0
      -- behind the draw, in whatever world of the class
      have later : ∀ (st' : St) (a' : Act) (w' : World), RelT M st'.tmps a'.tmps → st'.heap = st.heap → a'.defers = [] → Below w.drew.heap.size w.drew w' → Rel M st' B w0 a' w' := by
        intro st' a' w' ht hh hd hb
        exact ⟨ht, hd, by rw [hh]; exact hH0.below hb, hr.below.trans ((Beneath.of hb0).trans (Beneath.of hb))⟩
      have anyR : evAnyR P cal ops st K = some r → (Code.region id ops true).wp P Q a w := by
        intro h
        unfold evAnyR at h
        split at h
        · rename_i hs
          refine Code.wp_mono (Q := fun e a w => e = .normal ∧ Q .normal a w) (fun e a w ⟨e1, e2⟩ => by subst e1; exact e2) (wp_region_any hm ?_)
          have hs' := Bool.and_eq_true_iff.1 hs
          have hr0 := later st a w.drew hr.tmps rfl hr.defers (Below.refl _ _)
          have hcnt : cntF (lst [] (Array.replicate ops.size false)) ≤ ops.size := by simp [lst, cntF]
          exact wpAny_of_D _ _ _ _ _ (evAny_sound hP hcal hs'.1 (mkrs_ok P ops) hs'.2 ops.size ops.size [] [] [] _ st M a w.drew h (closed_none ops _) (fun p hp => by cases hp) (fun p hp => by cases hp)
            ⟨fun p hp => (by cases hp), fun p hp => (by cases hp), List.nodup_nil⟩ (hr0.tmps.clear _ _) hr0.defers (hr0.heap.rebase (B' := B.less []) (fun k h => ⟨h, fun p hp => by cases hp⟩) (fun k h => ⟨h, fun p hp => by cases hp⟩) (fun k pl h => h) (fun k ob _ h => h.elim (fun h => .inl ⟨h, fun p hp => by cases hp⟩) .inr) (fun k h => h)) hr0.below hcnt hn)
        · cases h
      split at h
      · exact anyR h
      split at h
      · split at h
        · rename_i hB
          refine wp_region_quiet (C := fun w' => Below w.drew.heap.size w.drew w') hm hB (Below.refl _ _) ?_
          exact evQList_sound hP hq hH0 h hr.tmps rfl hr.defers fun st' a' hk ht hh hd w' hb => hn M st' a' w' (Ext.refl M) hk (later st' a' w' ht hh hd hb)
        · exact anyR h
      · split at h
        · rename_i hB
          refine wp_region_quiet_tail (C := fun w' => Below w.drew.heap.size w.drew w') _ hm hB (Below.refl _ _) ?_
          exact evQList_sound hP hq hH0 h hr.tmps rfl hr.defers fun st' a' hk ht hh hd w' hb => evList_sound hP hcal hk (later st' a' w' ht hh hd hb) hn
        · exact anyR h
    · cases h

/-- A loop (or any block) of which is told what it comes to. -/
abbrev Ann (ρ : Type) := St → (Exit → St → Option ρ) → Option ρ

/-- The places are kept, where that is asked for. -/
def ExtO (x : Bool) (M M' : List Place) : Prop := x = true → Ext M M'
theorem ExtO.of {x : Bool} {M M' : List Place} (h : Ext M M') : ExtO x M M' := fun _ => h
theorem ExtO.trans {x : Bool} {A B C : List Place} (h : ExtO x A B) (k : ExtO x B C) : ExtO x A C := fun e => (h e).trans (k e)

def AnnAt (P : Program) (x : Bool) (B : Base) (w0 : World) (c : Code) (an : Ann ρ) : Prop :=
  ∀ (st : St) (K : Exit → St → Option ρ) (r : ρ), an st K = some r → ∀ (M : List Place) (a : Act) (w : World) (Q : Exit → Act → World → Prop), Rel M st B w0 a w →
    (∀ e M' st' a' w', ExtO x M M' → K e st' = some r → Rel M' st' B w0 a' w' → Q e a' w') → c.wp P Q a w

/-- A slot's truth is known. -/
def St.lit (st : St) (c : Operand) (b : Bool) : St :=
  match c with
  | .tmp t => { st with tmps := st.tmps.set t (.bool (some b) b) }
  | _ => st

def loopN : Nat → (St → (Exit → St → Option ρ) → Option ρ) → St → (Exit → St → Option ρ) → Option ρ
  | 0, _, _, _ => none
  | n + 1, f, st, K => f st fun e st' => match e with
    | .normal => loopN n f st' K
    | e => K e st'

def evCode (P : Program) (cal : Cal ρ) (qcal : QCal ρ) (ann : Nat → Option (Ann ρ)) : Code → St → (Exit → St → Option ρ) → Option ρ
  | .skip, st, K => K .normal st
  | .region _ ops draw, st, K => evRegion P cal qcal ops draw st (K .normal)
  | .seq x y, st, K => evCode P cal qcal ann x st fun e st' => match e with
    | .normal => evCode P cal qcal ann y st' K
    | e => K e st'
  | .cond c x y, st, K => match st.get c with
    | .bool (some b) _ => cond b (evCode P cal qcal ann x st K) (evCode P cal qcal ann y st K)
    | .bool none b => cond b (evCode P cal qcal ann x (st.lit c true) K) (evCode P cal qcal ann y (st.lit c false) K)
    | _ => none
  | .block id c, st, K => match ann id with
    | some an => an st K
    | none => evCode P cal qcal ann c st fun e st' => match e with
      | .exit id' => if id' = id then K .normal st' else K (.exit id') st'
      | e => K e st'
  | .loop c, st, K => loopN 300 (fun st K => evCode P cal qcal ann c st K) st K
  | .exit id, st, K => K (.exit id) st
  | .ret, st, K => K .ret st
  | .label _, st, K => K .normal st
  | .scope c, st, K => evCode P cal qcal ann c st fun e st' => match e with
    | .goto _ => none
    | e => K e st'
  | _, _, _ => none

/-- The blocks of a code. -/
def blocks : Code → List (Nat × Code)
  | .seq x y => blocks x ++ blocks y
  | .cond _ x y => blocks x ++ blocks y
  | .block id c => (id, c) :: blocks c
  | .loop c => blocks c
  | .scope c => blocks c
  | _ => []

theorem evCode_sound {P : Program} (hP : Callable P) {cal : Cal ρ} (hcal : ∀ f, CalAt P f (cal f)) {qcal : QCal ρ} (hq : ∀ f, QCalAt P f (qcal f)) {ann : Nat → Option (Ann ρ)} {x : Bool} {B : Base} {w0 : World} {r : ρ} :
    ∀ (c : Code) (_ : ∀ id an c', ann id = some an → (id, c') ∈ blocks c → AnnAt P x B w0 (.block id c') an) (st : St) (K : Exit → St → Option ρ), evCode P cal qcal ann c st K = some r →
      ∀ (M : List Place) (a : Act) (w : World) (Q : Exit → Act → World → Prop), Rel M st B w0 a w → (∀ e M' st' a' w', ExtO x M M' → K e st' = some r → Rel M' st' B w0 a' w' → Q e a' w') → c.wp P Q a w := by
  intro c
  induction c with
  | skip => intro _ st K h M a w Q hr hn; exact wp_skip (hn _ M st a w (ExtO.of (Ext.refl M)) h hr)
  | region id ops draw => intro _ st K h M a w Q hr hn; exact evRegion_sound hP hcal hq h hr fun M' st' a' w' hE => hn .normal M' st' a' w' (ExtO.of hE)
  | seq x y ihx ihy =>
    intro ha st K h M a w Q hr hn
    refine wp_seq (ihx (fun id an c' h1 h2 => ha id an c' h1 (by simp [blocks, h2])) st _ h M a w _ hr fun e M' st' a' w' hE hk hr' => ?_)
    cases e with
    | normal => exact ihy (fun id an c' h1 h2 => ha id an c' h1 (by simp [blocks, h2])) st' K hk M' a' w' Q hr' fun e M2 st2 a2 w2 hE2 => hn e M2 st2 a2 w2 (hE.trans hE2)
    | exit id => exact hn _ M' st' a' w' hE hk hr'
    | goto l => exact hn _ M' st' a' w' hE hk hr'
    | ret => exact hn _ M' st' a' w' hE hk hr'
    | panic ch => exact hn _ M' st' a' w' hE hk hr'
    | outgrown => exact hn _ M' st' a' w' hE hk hr'
  | cond c x y ihx ihy =>
    intro ha st K h M a w Q hr hn
    have hg := get_rel hr.tmps c
    unfold evCode at h
    have lit : ∀ b : Bool, a.eval c = .bool b → Rel M (st.lit c b) B w0 a w := by
      intro b hb
      cases c with
      | tmp t =>
        have h1 := hr.put (x := .bool (some b) b) (v := .bool b) (by simp [RelV, RelX]) (some t)
        simp only [Act.eval] at hb
        rw [← hb, put_self] at h1
        exact h1
      | _ => exact hr
    split at h
    · rename_i b z hst
      rw [hst] at hg
      obtain ⟨e, hl⟩ := relV_bool hg
      have := hl b rfl
      subst this
      cases z
      · exact wp_cond_false e (ihy (fun id an c' h1 h2 => ha id an c' h1 (by simp [blocks, h2])) st K h M a w Q hr hn)
      · exact wp_cond_true e (ihx (fun id an c' h1 h2 => ha id an c' h1 (by simp [blocks, h2])) st K h M a w Q hr hn)
    · rename_i b hst
      rw [hst] at hg
      obtain ⟨e, _⟩ := relV_bool hg
      cases b
      · exact wp_cond_false e (ihy (fun id an c' h1 h2 => ha id an c' h1 (by simp [blocks, h2])) _ K h M a w Q (lit _ e) hn)
      · exact wp_cond_true e (ihx (fun id an c' h1 h2 => ha id an c' h1 (by simp [blocks, h2])) _ K h M a w Q (lit _ e) hn)
    · cases h
  | block id c ih =>
    intro ha st K h M a w Q hr hn
    unfold evCode at h
    split at h
    · rename_i an han
      exact ha id an c han (by simp [blocks]) st K r h M a w Q hr hn
    · refine wp_block (ih (fun id' an c' h1 h2 => ha id' an c' h1 (by simp [blocks, h2])) st _ h M a w _ hr fun e M' st' a' w' hE hk hr' => ?_)
      cases e with
      | exit id' =>
        simp only at hk
        unfold Exit.inBlock
        split at hk
        · rename_i hid
          simp only [hid, if_true]
          exact hn _ M' st' a' w' hE hk hr'
        · rename_i hid
          simp only [hid, if_false]
          exact hn _ M' st' a' w' hE hk hr'
      | normal => exact hn _ M' st' a' w' hE hk hr'
      | goto l => exact hn _ M' st' a' w' hE hk hr'
      | ret => exact hn _ M' st' a' w' hE hk hr'
      | panic ch => exact hn _ M' st' a' w' hE hk hr'
      | outgrown => exact hn _ M' st' a' w' hE hk hr'
  | loop c ih =>
    intro ha st K h M a w Q hr hn
    unfold evCode at h
    refine wp_loop_ind (fun n a' w' => ∃ st' M', loopN n (fun st K => evCode P cal qcal ann c st K) st' K = some r ∧ ExtO x M M' ∧ Rel M' st' B w0 a' w') (n := 300) ⟨st, M, h, ExtO.of (Ext.refl M), hr⟩ ?_
    rintro n a1 w1 ⟨st1, M1, h1, hE1, hr1⟩
    cases n with
    | zero => cases h1
    | succ n =>
      unfold loopN at h1
      refine ih (fun id an c' h1 h2 => ha id an c' h1 (by simp [blocks, h2])) st1 _ h1 M1 a1 w1 _ hr1 fun e M' st' a' w' hE hk hr' => ?_
      cases e with
      | normal => exact ⟨n, by omega, st', M', hk, hE1.trans hE, hr'⟩
      | exit id => exact hn _ M' st' a' w' (hE1.trans hE) hk hr'
      | goto l => exact hn _ M' st' a' w' (hE1.trans hE) hk hr'
      | ret => exact hn _ M' st' a' w' (hE1.trans hE) hk hr'
      | panic ch => exact hn _ M' st' a' w' (hE1.trans hE) hk hr'
      | outgrown => exact hn _ M' st' a' w' (hE1.trans hE) hk hr'
  | exit id => intro _ st K h M a w Q hr hn; exact wp_exit (hn _ M st a w (ExtO.of (Ext.refl M)) h hr)
  | ret => intro _ st K h M a w Q hr hn; exact wp_ret (hn _ M st a w (ExtO.of (Ext.refl M)) h hr)
  | label l => intro _ st K h M a w Q hr hn; exact wp_label (hn _ M st a w (ExtO.of (Ext.refl M)) h hr)
  | scope c ih =>
    intro ha st K h M a w Q hr hn
    unfold evCode at h
    refine wp_scope_straight (ih (fun id' an c' h1 h2 => ha id' an c' h1 (by simp [blocks, h2])) st _ h M a w _ hr fun e M' st' a' w' hE hk hr' => ?_)
    cases e with
    | goto l => cases hk
    | exit id => exact hn _ M' st' a' w' hE hk hr'
    | normal => exact hn _ M' st' a' w' hE hk hr'
    | ret => exact hn _ M' st' a' w' hE hk hr'
    | panic ch => exact hn _ M' st' a' w' hE hk hr'
    | outgrown => exact hn _ M' st' a' w' hE hk hr'
  | _ => intro _ st K h; cases h

end Go.AE
