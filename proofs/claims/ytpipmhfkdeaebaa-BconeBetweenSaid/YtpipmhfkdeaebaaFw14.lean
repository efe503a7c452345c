/- The framework AE, part 14: a region that draws its order, quiet but for its last operations; the evaluator of code and of functions. -/
import Derived.Test.YtpipmhfkdeaebaaFw13
import Derived.StillTail
import Derived.Scope
set_option linter.unusedVariables false
set_option linter.unusedSimpArgs false
namespace Go.AE
open Go Go.RowKit

section
variable {P : Program} {ops : Array Oper} {md : Region.Mode} {C : World → Prop}

def wpAnyLQ (P : Program) (md : Region.Mode) (ops : Array Oper) (C : World → Prop) (n : Nat) (L : Array Bool → Act → Prop) : Nat → Array Bool → Act → Prop
  | 0, listed, a => L listed a
  | f + 1, listed, a =>
    Region.ready md ops listed ≠ [] ∧ ∀ i ∈ Region.ready md ops listed, i < n ∧ qOp P ops C i (wpAnyLQ P md ops C n L f (listed.setIfInBounds i true)) a

theorem wpAny_of_headQ {n g : Nat} {L : Array Bool → Act → Prop} {Q' : Exit → Act → World → Prop} (hL : ∀ listed a w, C w → L listed a → wpAny P md ops Q' g listed a w) :
    ∀ (f : Nat) (listed : Array Bool) (a : Act) (w : World), C w → wpAnyLQ P md ops C n L f listed a → wpAny P md ops Q' (f + g) listed a w
  | 0, listed, a, w, hw, h => by rw [Nat.zero_add]; exact hL _ _ _ hw h
  | f + 1, listed, a, w, hw, h => by
    rw [show f + 1 + g = (f + g) + 1 by omega]
    exact ⟨fun h0 => absurd h0 h.1, fun i hi => wpOp_of_qOp hw (fun a' w' hw' h' => wpAny_of_headQ hL f _ a' w' hw' h') (h.2 i hi).2⟩

theorem wpAnyLQ_first {n i : Nat} {oi : Oper} {v : Value} {L : Array Bool → Act → Prop} (hi : ops[i]? = some oi) (hsel : ∀ (j : Nat) (o : Oper) cs b, ops[j]? = some o → o.op ≠ .select cs b)
    (hs : Region.sinkB md ops n = true) (hc : Region.chainB md ops n = true) (hn : n < ops.size) (hin : i < n)
    (hdone : ∀ listed a, L listed a → ∀ j ∈ Region.ready md ops listed, n ≤ j) :
    ∀ (f : Nat) (listed : Array Bool) (a : Act), HeadInv md ops n listed →
      (∀ j oj, ops[j]? = some oj → j ≠ i → listed.getD j true = false → (∀ e ∈ oj.after, Region.binds md e = true → e.on ≠ i) → oi.apart ops oj = true) →
      i ∈ Region.ready md ops listed → YieldsIn P ops C oi v a →
      wpAnyLQ P md ops C n L f (listed.setIfInBounds i true) (a.put oi.dst v) → wpAnyLQ P md ops C n L (f + 1) listed a := by
  intro f
  induction f with
  | zero =>
    intro listed a inv _ hr hy H
    have hun := (mem_ready.1 hr).1
    refine ⟨fun h => (by rw [h] at hr; cases hr), fun j hj => ?_⟩
    have hjn : j < n := by
      rcases Nat.lt_or_ge j n with h | h
      · exact h
      · exact absurd hj (tail_waits hs hc hn inv _ i rfl hin hun j h)
    refine ⟨hjn, ?_⟩
    by_cases hji : j = i
    · subst hji; exact hy.qOp hi H
    · have := hdone _ _ H j (ready_mono hj hji)
      omega
  | succ f ih =>
    intro listed a inv hfree hr hy H
    have hun := (mem_ready.1 hr).1
    refine ⟨fun h => (by rw [h] at hr; cases hr), fun j hj => ?_⟩
    have hjn : j < n := by
      rcases Nat.lt_or_ge j n with h | h
      · exact h
      · exact absurd hj (tail_waits hs hc hn inv _ i rfl hin hun j h)
    refine ⟨hjn, ?_⟩
    by_cases hji : j = i
    · subst hji; exact hy.qOp hi H
    · have h1 := (H.2 j (ready_mono hj hji)).2
      obtain ⟨hjun, oj, hoj, hall⟩ := mem_ready.1 hj
      have hnot : ∀ e ∈ oj.after, Region.binds md e = true → e.on ≠ i := fun e he hb heq => by
        have h1 := hall e he hb
        rw [heq, getD_both hun] at h1
        cases h1
      have h2 := qOp_put hoj (hfree j oj hoj hji hjun hnot) (fun cs b => hsel i oi cs b hi) (fun cs b => hsel j oj cs b hoj) hy h1
      have hfree' : ∀ k ok, ops[k]? = some ok → k ≠ i → (listed.setIfInBounds j true).getD k true = false →
          (∀ e ∈ ok.after, Region.binds md e = true → e.on ≠ i) → oi.apart ops ok = true := fun k ok hk hki hun hno => by
        refine hfree k ok hk hki ?_ hno
        by_cases hjk : j = k
        · subst hjk; exact hjun
        · rw [getD_set_ne true hjk] at hun; exact hun
      refine qOp_mono (fun a' h3 => ih (listed.setIfInBounds j true) a' (inv.set hj hjn) hfree' (ready_mono hr (Ne.symm hji)) h3.1 ?_) h2
      rw [Array.setIfInBounds_comm _ _ hji]
      exact h3.2

theorem wpAnyLQ_lex {n g : Nat} {Lq : Act → Prop} (hsel : Region.noSelect ops = true) (hs : Region.sinkB md ops n = true) (hc : Region.chainB md ops n = true) (hn : n < ops.size) :
    ∀ (l : List Oper) (k : Nat) (listed : Array Bool) (a : Act), (∀ j, j < l.length → l[j]? = ops[k + j]?) → k + l.length = n → HeadInv md ops n listed →
    Region.lexHead md ops g l.length k listed = true → wpQuiet P ops C Lq l a →
    wpAnyLQ P md ops C n (fun listed' a' => Region.seqB md ops g n listed' = true ∧ Lq a') l.length listed a
  | [], k, listed, a, _, hk, _, hB, h => by
    have : k = n := by simpa using hk
    subst this
    exact ⟨by simpa [Region.lexHead] using hB, h⟩
  | o :: l, k, listed, a, hl, hk, inv, hB, h => by
    have h0 : ops[k]? = some o := by simpa using (hl 0 (by simp)).symm
    simp only [List.length_cons, Region.lexHead, Bool.and_eq_true] at hB
    obtain ⟨⟨hr, hf⟩, hB'⟩ := hB
    have hkn : k < n := by simp only [List.length_cons] at hk; omega
    have hr' : k ∈ Region.ready md ops listed := by simpa using hr
    have hst : qOp P ops C k (wpQuiet P ops C Lq l) a := by unfold qOp; simp only [h0]; exact h
    obtain ⟨v, hy, hK⟩ := yieldsIn_of_qOp h0 hst
    exact wpAnyLQ_first h0 (Region.noSelect_spec hsel) hs hc hn hkn (fun listed' a' hL => seqB_ready hL.1) l.length listed a inv (Region.free_spec h0 hf) hr' hy
      (wpAnyLQ_lex hsel hs hc hn l (k + 1) _ _ (fun j hj => by have := hl (j + 1) (by simp; omega); simpa [Nat.add_assoc, Nat.add_comm 1 j] using this) (by simp only [List.length_cons] at hk; omega) (inv.set hr' hkn) hB' hK)

theorem wp_region_quiet_tail {id : Nat} {Q : Exit → Act → World → Prop} {a : Act} {w : World} (n : Nat) (hm : P.follows .mixedOrders = true) (hB : Region.lexTailB .any ops n = true) (hC : C w.drew)
    (h : wpQuiet P ops C (fun a' => ∀ w', C w' → wpList P ops Q (ops.toList.drop n) a' w') (ops.toList.take n) a) : (Code.region id ops true).wp P Q a w := by
  simp only [Region.lexTailB, Bool.and_eq_true, decide_eq_true_eq] at hB
  obtain ⟨⟨⟨⟨hsel, hn⟩, hs⟩, hc⟩, hlex⟩ := hB
  have htl : (ops.toList.take n).length = n := by simp; omega
  have hdl : (ops.toList.drop n).length = ops.size - n := by simp
  have inv0 : HeadInv .any ops n (Array.replicate ops.size false) :=
    ⟨by simp, fun j oj _ hl => (by rw [getD_replicate_false] at hl; cases hl), fun t _ ht => getD_in (by simpa using ht) (getD_replicate_false _ _)⟩
  have H := wpAnyLQ_lex (md := .any) (g := ops.size - n) hsel hs hc hn (ops.toList.take n) 0 _ a (fun j hj => by
    have hj' : j < n := by rw [htl] at hj; exact hj
    simp [hj']) (by simpa using htl) inv0 (by rw [htl]; exact hlex) h
  refine wp_region_any hm ?_
  have := wpAny_of_headQ (Q' := Q) (g := ops.size - n) (fun listed a' w' hw' hL => by
    have := wpAny_of_seq (md := .any) (Q' := Q) (ops.toList.drop n) n listed a' w' (fun j => by simp [List.getElem?_drop]) (by rw [hdl]; exact hL.1) (hL.2 w' hw')
    rwa [hdl] at this) _ _ _ _ hC H
  rw [htl, show n + (ops.size - n) = ops.size by omega] at this
  exact this
end

/-- A loop, by so many rounds that are left. -/
theorem wp_loop_ind {P : Program} {c : Code} {Q : Exit → Act → World → Prop} {a : Act} {w : World} (I : Nat → Act → World → Prop) {n : Nat} (h0 : I n a w)
    (round : ∀ n a w, I n a w → c.wp P (Exit.then (fun a' w' => ∃ m, m < n ∧ I m a' w') Q) a w) : (Code.loop c).wp P Q a w := by
  intro b k cs
  have key : ∀ n a w, I n a w → ∃ e a' w', Q e a' w' ∧ Arrives P (lone (b.at a (.code c :: .inLoop c :: k)) cs w) b k cs e a' w' := by
    intro n
    induction n using Nat.strongRecOn with
    | _ n ih =>
      intro a w hI
      obtain ⟨e, a₁, w₁, hq, harr⟩ := round n a w hI b (.inLoop c :: k) cs
      cases e with
      | normal =>
        obtain ⟨m, hm, hI1⟩ := hq
        obtain ⟨e₂, a₂, w₂, hq₂, harr₂⟩ := ih m hm a₁ w₁ hI1
        exact ⟨e₂, a₂, w₂, hq₂, .of_steps (Steps.trans harr (.one step_inLoop)) harr₂⟩
      | exit id => exact ⟨_, a₁, w₁, hq, .pass (x := .inLoop c) rfl (fun _ _ => .inl (by simp)) harr⟩
      | goto l => exact ⟨_, a₁, w₁, hq, .pass (x := .inLoop c) rfl (fun _ _ => .inl (by simp)) harr⟩
      | ret => exact ⟨_, a₁, w₁, hq, .pass (x := .inLoop c) rfl (fun _ _ => .inl (by simp)) harr⟩
      | panic ch => exact ⟨_, a₁, w₁, hq, .pass (x := .inLoop c) rfl (fun _ _ => .inl (by simp)) harr⟩
      | outgrown => exact ⟨_, a₁, w₁, hq, .pass (x := .inLoop c) rfl (fun _ _ => .inl (by simp)) harr⟩
  obtain ⟨e, a', w', hq, harr⟩ := key n a w h0
  exact ⟨e, a', w', hq, .of_steps (.one step_loop) harr⟩

/-! ### code -/

variable {ρ : Type}

def quietKind : Op → Bool
  | .alloc _ | .box _ _ | .buildSlice _ _ _ | .makeSlice _ _ _ | .store _ _ _ => false
  | .call c => match c.callee with
    | .builtin .append | .builtin .copy => false
    | _ => true
  | _ => true

def headLen : List Oper → Nat
  | [] => 0
  | o :: l => if quietKind o.op then headLen l + 1 else 0

/-- The first call of a function value from which on all is done one by one. -/
def goodCall (ops : Array Oper) : List Oper → Nat → Option Nat
  | [], _ => none
  | o :: l, i => match o.op with
    | .call c => match c.callee with
      | .value _ => if Region.lexTailB .any ops i = true then some i else goodCall ops l (i + 1)
      | _ => goodCall ops l (i + 1)
    | _ => goodCall ops l (i + 1)

/-- How many operations are done in any order: those ahead of such a call; else all that leave memory alone. -/
def hdLen (ops : Array Oper) : Nat :=
  match goodCall ops ops.toList 0 with
  | some j => if j < headLen ops.toList then j else headLen ops.toList
  | none => headLen ops.toList

def evRegion (P : Program) (cal : Cal ρ) (qcal : QCal ρ) (ops : Array Oper) (draw : Bool) (st : St) (K : St → Option ρ) : Option ρ :=
  match draw with
  | false => evList P cal ops ops.toList st K
  | true => if P.follows .mixedOrders = true then
      if hdLen ops = ops.size then (if Region.lexB .any ops = true then evQList P qcal ops ops.toList st K else none)
      else if Region.lexTailB .any ops (hdLen ops) = true then
        evQList P qcal ops (ops.toList.take (hdLen ops)) st fun st' => evList P cal ops (ops.toList.drop (hdLen ops)) st' K
      else none
    else none

theorem evRegion_sound {P : Program} (hP : Callable P) {cal : Cal ρ} (hcal : ∀ f, CalAt P f (cal f)) {qcal : QCal ρ} (hq : ∀ f, QCalAt P f (qcal f)) {ops : Array Oper} {draw : Bool} {id : Nat} {st : St} {K : St → Option ρ} {r : ρ} (h : evRegion P cal qcal ops draw st K = some r)
    {M : List Place} {B : Base} {w0 : World} {a : Act} {w : World} (hr : Rel M st B w0 a w) {Q : Exit → Act → World → Prop} (hn : ∀ M' st' a' w', Ext M M' → K st' = some r → Rel M' st' B w0 a' w' → Q .normal a' w') : (Code.region id ops draw).wp P Q a w := by
  unfold evRegion at h
  split at h
  · exact wp_region_list (evList_sound hP hcal h hr hn)
  · split at h
    · rename_i hm
      have hb0 : Below w.heap.size w w.drew := (Below.refl _ _).drew
      have hH0 : RelH M st.heap B w.drew := hr.heap.below hb0
      -- behind the draw, in whatever world of the class
      have later : ∀ (st' : St) (a' : Act) (w' : World), RelT M st'.tmps a'.tmps → st'.heap = st.heap → a'.defers = [] → Below w.drew.heap.size w.drew w' → Rel M st' B w0 a' w' := by
        intro st' a' w' ht hh hd hb
        exact ⟨ht, hd, by rw [hh]; exact hH0.below hb, hr.below.trans ((Beneath.of hb0).trans (Beneath.of hb))⟩
      split at h
      · split at h
        · rename_i hB
          refine wp_region_quiet (C := fun w' => Below w.drew.heap.size w.drew w') hm hB (Below.refl _ _) ?_
          exact evQList_sound hP hq hH0 h hr.tmps rfl hr.defers fun st' a' hk ht hh hd w' hb => hn M st' a' w' (Ext.refl M) hk (later st' a' w' ht hh hd hb)
        · cases h
      · split at h
        · rename_i hB
          refine wp_region_quiet_tail (C := fun w' => Below w.drew.heap.size w.drew w') _ hm hB (Below.refl _ _) ?_
          exact evQList_sound hP hq hH0 h hr.tmps rfl hr.defers fun st' a' hk ht hh hd w' hb => evList_sound hP hcal hk (later st' a' w' ht hh hd hb) hn
        · cases h
    · cases h

/-- A loop (or any block) of which is told what it comes to. -/
abbrev Ann (ρ : Type) := St → (Exit → St → Option ρ) → Option ρ

/-- The places are kept, where that is asked for. -/
def ExtO (x : Bool) (M M' : List Place) : Prop := x = true → Ext M M'
theorem ExtO.of {x : Bool} {M M' : List Place} (h : Ext M M') : ExtO x M M' := fun _ => h
theorem ExtO.trans {x : Bool} {A B C : List Place} (h : ExtO x A B) (k : ExtO x B C) : ExtO x A C := fun e => (h e).trans (k e)

def AnnAt (P : Program) (x : Bool) (B : Base) (w0 : World) (c : Code) (an : Ann ρ) : Prop :=
  ∀ (st : St) (K : Exit → St → Option ρ) (r : ρ), an st K = some r → ∀ (M : List Place) (a : Act) (w : World) (Q : Exit → Act → World → Prop), Rel M st B w0 a w →
    (∀ e M' st' a' w', ExtO x M M' → K e st' = some r → Rel M' st' B w0 a' w' → Q e a' w') → c.wp P Q a w

/-- A slot's truth is known. -/
def St.lit (st : St) (c : Operand) (b : Bool) : St :=
  match c with
  | .tmp t => { st with tmps := st.tmps.set t (.bool (some b) b) }
  | _ => st

def loopN : Nat → (St → (Exit → St → Option ρ) → Option ρ) → St → (Exit → St → Option ρ) → Option ρ
  | 0, _, _, _ => none
  | n + 1, f, st, K => f st fun e st' => match e with
    | .normal => loopN n f st' K
    | e => K e st'

def evCode (P : Program) (cal : Cal ρ) (qcal : QCal ρ) (ann : Nat → Option (Ann ρ)) : Code → St → (Exit → St → Option ρ) → Option ρ
  | .skip, st, K => K .normal st
  | .region _ ops draw, st, K => evRegion P cal qcal ops draw st (K .normal)
  | .seq x y, st, K => evCode P cal qcal ann x st fun e st' => match e with
    | .normal => evCode P cal qcal ann y st' K
    | e => K e st'
  | .cond c x y, st, K => match st.get c with
    | .bool (some b) _ => cond b (evCode P cal qcal ann x st K) (evCode P cal qcal ann y st K)
    | .bool none b => cond b (evCode P cal qcal ann x (st.lit c true) K) (evCode P cal qcal ann y (st.lit c false) K)
    | _ => none
  | .block id c, st, K => match ann id with
    | some an => an st K
    | none => evCode P cal qcal ann c st fun e st' => match e with
      | .exit id' => if id' = id then K .normal st' else K (.exit id') st'
      | e => K e st'
  | .loop c, st, K => loopN 300 (fun st K => evCode P cal qcal ann c st K) st K
  | .exit id, st, K => K (.exit id) st
  | .ret, st, K => K .ret st
  | .label _, st, K => K .normal st
  | .scope c, st, K => evCode P cal qcal ann c st fun e st' => match e with
    | .goto _ => none
    | e => K e st'
  | _, _, _ => none

/-- The blocks of a code. -/
def blocks : Code → List (Nat × Code)
  | .seq x y => blocks x ++ blocks y
  | .cond _ x y => blocks x ++ blocks y
  | .block id c => (id, c) :: blocks c
  | .loop c => blocks c
  | .scope c => blocks c
  | _ => []

theorem evCode_sound {P : Program} (hP : Callable P) {cal : Cal ρ} (hcal : ∀ f, CalAt P f (cal f)) {qcal : QCal ρ} (hq : ∀ f, QCalAt P f (qcal f)) {ann : Nat → Option (Ann ρ)} {x : Bool} {B : Base} {w0 : World} {r : ρ} :
    ∀ (c : Code) (_ : ∀ id an c', ann id = some an → (id, c') ∈ blocks c → AnnAt P x B w0 (.block id c') an) (st : St) (K : Exit → St → Option ρ), evCode P cal qcal ann c st K = some r →
      ∀ (M : List Place) (a : Act) (w : World) (Q : Exit → Act → World → Prop), Rel M st B w0 a w → (∀ e M' st' a' w', ExtO x M M' → K e st' = some r → Rel M' st' B w0 a' w' → Q e a' w') → c.wp P Q a w := by
  intro c
  induction c with
  | skip => intro _ st K h M a w Q hr hn; exact wp_skip (hn _ M st a w (ExtO.of (Ext.refl M)) h hr)
  | region id ops draw => intro _ st K h M a w Q hr hn; exact evRegion_sound hP hcal hq h hr fun M' st' a' w' hE => hn .normal M' st' a' w' (ExtO.of hE)
  | seq x y ihx ihy =>
    intro ha st K h M a w Q hr hn
    refine wp_seq (ihx (fun id an c' h1 h2 => ha id an c' h1 (by simp [blocks, h2])) st _ h M a w _ hr fun e M' st' a' w' hE hk hr' => ?_)
    cases e with
    | normal => exact ihy (fun id an c' h1 h2 => ha id an c' h1 (by simp [blocks, h2])) st' K hk M' a' w' Q hr' fun e M2 st2 a2 w2 hE2 => hn e M2 st2 a2 w2 (hE.trans hE2)
    | exit id => exact hn _ M' st' a' w' hE hk hr'
    | goto l => exact hn _ M' st' a' w' hE hk hr'
    | ret => exact hn _ M' st' a' w' hE hk hr'
    | panic ch => exact hn _ M' st' a' w' hE hk hr'
    | outgrown => exact hn _ M' st' a' w' hE hk hr'
  | cond c x y ihx ihy =>
    intro ha st K h M a w Q hr hn
    have hg := get_rel hr.tmps c
    unfold evCode at h
    have lit : ∀ b : Bool, a.eval c = .bool b → Rel M (st.lit c b) B w0 a w := by
      intro b hb
      cases c with
      | tmp t =>
        have h1 := hr.put (x := .bool (some b) b) (v := .bool b) (by simp [RelV, RelX]) (some t)
        simp only [Act.eval] at hb
        rw [← hb, put_self] at h1
        exact h1
      | _ => exact hr
    split at h
    · rename_i b z hst
      rw [hst] at hg
      obtain ⟨e, hl⟩ := relV_bool hg
      have := hl b rfl
      subst this
      cases z
      · exact wp_cond_false e (ihy (fun id an c' h1 h2 => ha id an c' h1 (by simp [blocks, h2])) st K h M a w Q hr hn)
      · exact wp_cond_true e (ihx (fun id an c' h1 h2 => ha id an c' h1 (by simp [blocks, h2])) st K h M a w Q hr hn)
    · rename_i b hst
      rw [hst] at hg
      obtain ⟨e, _⟩ := relV_bool hg
      cases b
      · exact wp_cond_false e (ihy (fun id an c' h1 h2 => ha id an c' h1 (by simp [blocks, h2])) _ K h M a w Q (lit _ e) hn)
      · exact wp_cond_true e (ihx (fun id an c' h1 h2 => ha id an c' h1 (by simp [blocks, h2])) _ K h M a w Q (lit _ e) hn)
    · cases h
  | block id c ih =>
    intro ha st K h M a w Q hr hn
    unfold evCode at h
    split at h
    · rename_i an han
      exact ha id an c han (by simp [blocks]) st K r h M a w Q hr hn
    · refine wp_block (ih (fun id' an c' h1 h2 => ha id' an c' h1 (by simp [blocks, h2])) st _ h M a w _ hr fun e M' st' a' w' hE hk hr' => ?_)
      cases e with
      | exit id' =>
        simp only at hk
        unfold Exit.inBlock
        split at hk
        · rename_i hid
          simp only [hid, if_true]
          exact hn _ M' st' a' w' hE hk hr'
        · rename_i hid
          simp only [hid, if_false]
          exact hn _ M' st' a' w' hE hk hr'
      | normal => exact hn _ M' st' a' w' hE hk hr'
      | goto l => exact hn _ M' st' a' w' hE hk hr'
      | ret => exact hn _ M' st' a' w' hE hk hr'
      | panic ch => exact hn _ M' st' a' w' hE hk hr'
      | outgrown => exact hn _ M' st' a' w' hE hk hr'
  | loop c ih =>
    intro ha st K h M a w Q hr hn
    unfold evCode at h
    refine wp_loop_ind (fun n a' w' => ∃ st' M', loopN n (fun st K => evCode P cal qcal ann c st K) st' K = some r ∧ ExtO x M M' ∧ Rel M' st' B w0 a' w') (n := 300) ⟨st, M, h, ExtO.of (Ext.refl M), hr⟩ ?_
    rintro n a1 w1 ⟨st1, M1, h1, hE1, hr1⟩
    cases n with
    | zero => cases h1
    | succ n =>
      unfold loopN at h1
      refine ih (fun id an c' h1 h2 => ha id an c' h1 (by simp [blocks, h2])) st1 _ h1 M1 a1 w1 _ hr1 fun e M' st' a' w' hE hk hr' => ?_
      cases e with
      | normal => exact ⟨n, by omega, st', M', hk, hE1.trans hE, hr'⟩
      | exit id => exact hn _ M' st' a' w' (hE1.trans hE) hk hr'
      | goto l => exact hn _ M' st' a' w' (hE1.trans hE) hk hr'
      | ret => exact hn _ M' st' a' w' (hE1.trans hE) hk hr'
      | panic ch => exact hn _ M' st' a' w' (hE1.trans hE) hk hr'
      | outgrown => exact hn _ M' st' a' w' (hE1.trans hE) hk hr'
  | exit id => intro _ st K h M a w Q hr hn; exact wp_exit (hn _ M st a w (ExtO.of (Ext.refl M)) h hr)
  | ret => intro _ st K h M a w Q hr hn; exact wp_ret (hn _ M st a w (ExtO.of (Ext.refl M)) h hr)
  | label l => intro _ st K h M a w Q hr hn; exact wp_label (hn _ M st a w (ExtO.of (Ext.refl M)) h hr)
  | scope c ih =>
    intro ha st K h M a w Q hr hn
    unfold evCode at h
    refine wp_scope_straight (ih (fun id' an c' h1 h2 => ha id' an c' h1 (by simp [blocks, h2])) st _ h M a w _ hr fun e M' st' a' w' hE hk hr' => ?_)
    cases e with
    | goto l => cases hk
    | exit id => exact hn _ M' st' a' w' hE hk hr'
    | normal => exact hn _ M' st' a' w' hE hk hr'
    | ret => exact hn _ M' st' a' w' hE hk hr'
    | panic ch => exact hn _ M' st' a' w' hE hk hr'
    | outgrown => exact hn _ M' st' a' w' hE hk hr'
  | _ => intro _ st K h; cases h

end Go.AE
