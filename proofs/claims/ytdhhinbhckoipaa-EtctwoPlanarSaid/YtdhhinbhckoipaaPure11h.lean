/- Layer 11: etctwo. Planar blocks laid, by the program and by the document: EtctwoLays. -/
import Derived.Test.YtdhhinbhckoipaaPure11g
set_option linter.unusedVariables false
set_option linter.unusedSimpArgs false
namespace Go.AE.Gn
open Go Go.AE

def F1 : List Nat := [1, 2, 3, 4, 5, 6]
def F2 : List Nat := [7, 9, 10, 11, 12, 13, 14]
def F3 : List Nat := [15, 19, 20, 22, 23, 24]
def F4 : List Nat := [25, 26, 27, 28, 29, 31]
def F5 : List Nat := [32, 33, 34, 35, 36, 37, 38]
def F6 : List Nat := [39, 40, 41, 42, 43, 44]
def F7 : List Nat := [45, 46, 47, 48, 49, 50]
def F8 : List Nat := [51, 52, 53, 54, 55, 56, 57]
def F9 : List Nat := [58, 59, 60, 61, 62, 63]

def seqB (c : List Int) (fs : List (List Nat × Int)) : List Int := fs.foldl (fun c f => layB c f.1 f.2) c
def fieldsOf (o h v : List Int) : List (List Nat × Int) :=
  [(F1, o.getD 0 0), (F2, o.getD 1 0), (F3, o.getD 2 0), (F4, h.getD 0 0), (F5, h.getD 1 0), (F6, h.getD 2 0), (F7, v.getD 0 0), (F8, v.getD 1 0), (F9, v.getD 2 0), ([30], 1)]
def z8 : List Int := [0, 0, 0, 0, 0, 0, 0, 0]
/-- The fields laid. -/
def zAll (o h v : List Int) : List Int := seqB z8 (fieldsOf o h v)

theorem z8_bytes : Bytes z8 := fun x hx => by simp [z8] at hx; omega

theorem seqB_ok {c : List Int} (hc : Bytes c) (hl : c.length = 8) : ∀ fs, Bytes (seqB c fs) ∧ (seqB c fs).length = 8
  | [] => ⟨hc, hl⟩
  | f :: fs => seqB_ok (layB_bytes hc f.1 f.2) (by rw [layB_len, hl]) fs

def wV (b : List Int) (c : Nat) : Int := (eAs (eDiff b) b).getD c 0 + (eBs (eDiff b) b).getD c 0
def badW (x : Int) : Prop := x < 0 ∨ 31 < x
instance (x : Int) : Decidable (badW x) := by unfold badW; exact inferInstance
def fix0 (b : List Int) : List Int := if badW (wV b 0) then layB b [0] 1 else b
def fix1 (b : List Int) : List Int := if badW (wV b 1) then layB (fix0 b) [8] 1 else fix0 b
def fix2 (b : List Int) : List Int := if 4 ≤ hv (fix1 b) 19 2 + hv (fix1 b) 22 2 then layB (fix1 b) [16, 17, 18] 7 else layB (fix1 b) [21] 1

theorem P1 : Pl F1 := pl_of (by decide +kernel)
theorem P2 : Pl F2 := pl_of (by decide +kernel)
theorem P3 : Pl F3 := pl_of (by decide +kernel)
theorem P4 : Pl F4 := pl_of (by decide +kernel)
theorem P5 : Pl F5 := pl_of (by decide +kernel)
theorem P6 : Pl F6 := pl_of (by decide +kernel)
theorem P7 : Pl F7 := pl_of (by decide +kernel)
theorem P8 : Pl F8 := pl_of (by decide +kernel)
theorem P9 : Pl F9 := pl_of (by decide +kernel)
theorem P30 : Pl [30] := pl_of (by decide +kernel)
theorem P00 : Pl [0] := pl_of (by decide +kernel)
theorem P08 : Pl [8] := pl_of (by decide +kernel)
theorem P16 : Pl [16, 17, 18] := pl_of (by decide +kernel)
theorem P21 : Pl [21] := pl_of (by decide +kernel)

theorem fix0_ok {b : List Int} (hb : Bytes b) (hl : b.length = 8) : Bytes (fix0 b) ∧ (fix0 b).length = 8 := by
  unfold fix0
  split
  · exact ⟨layB_bytes hb _ _, by rw [layB_len, hl]⟩
  · exact ⟨hb, hl⟩
theorem fix1_ok {b : List Int} (hb : Bytes b) (hl : b.length = 8) : Bytes (fix1 b) ∧ (fix1 b).length = 8 := by
  obtain ⟨h1, h2⟩ := fix0_ok hb hl
  unfold fix1
  split
  · exact ⟨layB_bytes h1 _ _, by rw [layB_len, h2]⟩
  · exact ⟨h1, h2⟩
theorem fix2_ok {b : List Int} (hb : Bytes b) (hl : b.length = 8) : Bytes (fix2 b) ∧ (fix2 b).length = 8 := by
  obtain ⟨h1, h2⟩ := fix1_ok hb hl
  unfold fix2
  split <;> exact ⟨layB_bytes h1 _ _, by rw [layB_len, h2]⟩

theorem fair_w (b : List Int) (c : Nat) : -4 ≤ wV b c ∧ wV b c ≤ 46 := by
  have hf := eFair (eDiff b) b
  have h1 := hf.2.2.1 c
  have h2 := hf.2.2.2 c
  unfold wV
  omega

theorem l2_step {b : List Int} (hb : Bytes b) (hl : b.length = 8) (z : List Int) (d f : Bool) (T W : List Int) {c : Nat} (hc : c < 2) {L : List Nat} (hL : Pl L) (hLc : L = [8 * c]) (k : Nat) :
    etctwo_Lay_l2 600 (k + 1) b d f (eAs (eDiff z) z) (eBs (eDiff z) z) T W (c : Int) = etctwo_Lay_l2 600 k (if badW (wV z c) then layB b L 1 else b) d f (eAs (eDiff z) z) (eBs (eDiff z) z) T W ((c + 1 : Nat) : Int) := by
  have i1 : (c : Int) < 2 := by omega
  have i3 : (c : Int) < 3 := by omega
  have hw := fair_w z c
  have ew : IntKind.wrap .i64 ((eAs (eDiff z) z).getD c 0 + (eBs (eDiff z) z).getD c 0) = wV z c := w64 (by unfold wV at hw; omega) (by unfold wV at hw; omega)
  have e8 : [IntKind.wrap .i64 (8 * (c : Int))] = casts L := by
    rw [hLc, w64 (by omega) (by omega)]
    simp [casts]
  have hp := c1_is hb hl 1 hL
  conv => lhs; unfold etctwo_Lay_l2 etctwo_Lay_l2S
  simp only [i1, i3, decide_true, cond_true, Int.natCast_nonneg, Bool.and_self, Int.toNat_natCast, ew, e8, hp, Option.bind_some]
  rw [nextI (by omega)]
  by_cases h1 : wV z c < 0
  · rw [if_pos (show badW (wV z c) from Or.inl h1)]
    simp only [h1, decide_true, cond_true]
  · by_cases h2 : 31 < wV z c
    · rw [if_pos (show badW (wV z c) from Or.inr h2)]
      simp only [h1, h2, decide_true, decide_false, cond_true, cond_false]
    · rw [if_neg (show ¬ badW (wV z c) from fun h => h.elim h1 h2)]
      simp only [h1, h2, decide_false, cond_false]

theorem l2_is {b : List Int} (hb : Bytes b) (hl : b.length = 8) (d f : Bool) (T W : List Int) (k : Nat) : etctwo_Lay_l2 600 (k + 3) b d f (eAs (eDiff b) b) (eBs (eDiff b) b) T W 0 = some (fix1 b, ()) := by
  obtain ⟨h1, h2⟩ := fix0_ok hb hl
  refine (l2_step hb hl b d f T W (c := 0) (by omega) P00 rfl (k + 2)).trans ?_
  refine (l2_step h1 h2 b d f T W (c := 1) (by omega) P08 rfl (k + 1)).trans ?_
  unfold etctwo_Lay_l2 etctwo_Lay_l2S
  have : ¬ (((1 + 1 : Nat) : Int) < 2) := by omega
  simp only [this, decide_false, cond_false]
  rfl

theorem hv_lay {b : List Int} (hb : Bytes b) (hl : b.length = 8) {L : List Nat} (hL : Pl L) (v : Int) {a n : Nat} (h : ∀ q, a ≤ q → q < a + n → ∀ i, i < L.length → L.getD i 0 ≠ q) : hv (layB b L v) a n = hv b a n :=
  sumHi_congr fun i hi => layB_out hb hl hL v (h (a + i) (by omega) (by omega))

theorem wV_fix {b : List Int} (hb : Bytes b) (hl : b.length = 8) : wV (fix0 b) 1 = wV b 1 := by
  unfold fix0
  split
  · have h : ∀ a n, 1 ≤ a → hv (layB b [0] 1) a n = hv b a n := fun a n ha => hv_lay hb hl P00 1 fun q h1 h2 i hi => by
      have : i = 0 := by
        have : i < 1 := hi
        omega
      subst this
      show 0 ≠ q
      omega
    unfold wV eAs eBs eA eB eDiff
    simp only [List.getD_cons_zero, List.getD_cons_succ, h 30 1 (by omega), h (8 * 1) 5 (by omega), h (8 * 1) 4 (by omega), h (8 * 1 + 5) 3 (by omega), h (8 * 1 + 4) 4 (by omega)]
  · rfl

theorem rl2_step {b : List Int} (hb : Bytes b) (hl : b.length = 8) {c : Nat} (hc : c < 2) {L : List Nat} (hL : Pl L) (hLc : L = [8 * c]) (k : Nat) :
    ref11_Lay_l2 600 (k + 1) b (c : Int) = ref11_Lay_l2 600 k (if badW (wV b c) then layB b L 1 else b) ((c + 1 : Nat) : Int) := by
  have i1 : (c : Int) < 2 := by omega
  have i3 : (c : Int) < 3 := by omega
  have hw := fair_w b c
  have ew : IntKind.wrap .i64 ((eAs (eDiff b) b).getD c 0 + (eBs (eDiff b) b).getD c 0) = wV b c := w64 (by unfold wV at hw; omega) (by unfold wV at hw; omega)
  have e8 : [IntKind.wrap .i64 (8 * (c : Int))] = casts L := by
    rw [hLc, w64 (by omega) (by omega)]
    simp [casts]
  have hp := put_is hb hl (n := 1) (by omega) hL
  have hP : ref10_Parts 600 b = some (eP b, (0, ())) := rParts10_is (by omega) hb hl
  conv => lhs; unfold ref11_Lay_l2 ref11_Lay_l2S
  simp only [i1, i3, decide_true, cond_true, Int.natCast_nonneg, Bool.and_self, Int.toNat_natCast, hP, eP, ew, e8, hp, Option.bind_some]
  rw [nextI (by omega)]
  by_cases h1 : wV b c < 0
  · rw [if_pos (show badW (wV b c) from Or.inl h1)]
    simp only [h1, decide_true, cond_true]
  · by_cases h2 : 31 < wV b c
    · rw [if_pos (show badW (wV b c) from Or.inr h2)]
      simp only [h1, h2, decide_true, decide_false, cond_true, cond_false]
    · rw [if_neg (show ¬ badW (wV b c) from fun h => h.elim h1 h2)]
      simp only [h1, h2, decide_false, cond_false]

theorem rl2_is {b : List Int} (hb : Bytes b) (hl : b.length = 8) (k : Nat) : ref11_Lay_l2 600 (k + 3) b 0 = some (fix1 b, ()) := by
  obtain ⟨h1, h2⟩ := fix0_ok hb hl
  refine (rl2_step hb hl (c := 0) (by omega) P00 rfl (k + 2)).trans ?_
  refine (rl2_step h1 h2 (c := 1) (by omega) P08 rfl (k + 1)).trans ?_
  rw [wV_fix hb hl]
  unfold ref11_Lay_l2 ref11_Lay_l2S
  have : ¬ (((1 + 1 : Nat) : Int) < 2) := by omega
  simp only [this, decide_false, cond_false]
  rfl

/-! ### what may be laid -/

def ok3 (l : List Int) : Prop := (0 ≤ l.getD 0 0 ∧ l.getD 0 0 < 64) ∧ (0 ≤ l.getD 1 0 ∧ l.getD 1 0 < 128) ∧ (0 ≤ l.getD 2 0 ∧ l.getD 2 0 < 64)
instance (l : List Int) : Decidable (ok3 l) := by unfold ok3; exact inferInstance

def I64 (x : Int) : Prop := -9223372036854775808 ≤ x ∧ x ≤ 9223372036854775807

theorem l0_step (o h v : List Int) {L : List Int} (hL : ∀ i, I64 (L.getD i 0)) (hLl : L.length = 9) {i : Nat} (hi : i < 3) (k : Nat) :
    etctwo_Lay_l0 600 (k + 1) o h v L (i : Int) = (if ok3 (tab 3 fun c => L.getD (i * 3 + c) 0) then etctwo_Lay_l0 600 k o h v L ((i + 1 : Nat) : Int) else some (.inl ())) ∧
    ref11_Lay_l0 600 (k + 1) o h v L (i : Int) = (if ok3 (tab 3 fun c => L.getD (i * 3 + c) 0) then ref11_Lay_l0 600 k o h v L ((i + 1 : Nat) : Int) else some (.inl ())) := by
  have i1 : (i : Int) < 3 := by omega
  have hrow : List.take 3 (List.drop (i * 3) L) = tab 3 fun c => L.getD (i * 3 + c) 0 := by
    conv => lhs; rw [tab_all hLl]
    exact tab_part (by omega)
  have hor := or_range (hL (i * 3)) (hL (i * 3 + 2))
  have han := andn_is (hL (i * 3 + 1)) (b := 7) (by omega) (c := 127) (by decide)
  have g0 : (tab 3 fun c => L.getD (i * 3 + c) 0).getD 0 0 = L.getD (i * 3) 0 := tab_get (by omega)
  have g1 : (tab 3 fun c => L.getD (i * 3 + c) 0).getD 1 0 = L.getD (i * 3 + 1) 0 := tab_get (by omega)
  have g2 : (tab 3 fun c => L.getD (i * 3 + c) 0).getD 2 0 = L.getD (i * 3 + 2) 0 := tab_get (by omega)
  have hok : ok3 (tab 3 fun c => L.getD (i * 3 + c) 0) ↔ (0 ≤ L.getD (i * 3) 0 ∧ L.getD (i * 3) 0 < 64) ∧ (0 ≤ L.getD (i * 3 + 1) 0 ∧ L.getD (i * 3 + 1) 0 < 128) ∧ (0 ≤ L.getD (i * 3 + 2) 0 ∧ L.getD (i * 3 + 2) 0 < 64) := by
    unfold ok3
    rw [g0, g1, g2]
  have n3 : L.length / 3 = 3 := by rw [hLl]
  have i3 : (i : Int) < ((3 : Nat) : Int) := by omega
  constructor
  · conv => lhs; unfold etctwo_Lay_l0 etctwo_Lay_l0S
    simp only [i1, decide_true, cond_true, Int.natCast_nonneg, Bool.and_self, Int.toNat_natCast, hrow, g0, g1, g2]
    rw [nextI (by omega)]
    by_cases hA : iandn .i64 (ior .i64 (L.getD (i * 3) 0) (L.getD (i * 3 + 2) 0)) 63 = 0
    · by_cases hB : iandn .i64 (L.getD (i * 3 + 1) 0) 127 = 0
      · rw [if_pos (hok.2 ⟨(hor.1 hA).1, han.1 hB, (hor.1 hA).2⟩), hA, hB]
        rfl
      · rw [if_neg (fun h => hB (han.2 (hok.1 h).2.1)), hA, bneT hB]
        rfl
    · rw [if_neg (fun h => hA (hor.2 ⟨(hok.1 h).1, (hok.1 h).2.2⟩)), bneT hA]
      rfl
  · conv => lhs; unfold ref11_Lay_l0 ref11_Lay_l0S
    simp only [n3, i1, i3, decide_true, cond_true, Int.natCast_nonneg, Bool.and_self, Int.toNat_natCast, In10_is, Option.bind_some]
    rw [nextI (by omega), Nat.add_comm 1 (i * 3), Nat.add_comm 2 (i * 3)]
    by_cases hA : 0 ≤ L.getD (i * 3) 0 ∧ L.getD (i * 3) 0 ≤ 63
    · by_cases hB : 0 ≤ L.getD (i * 3 + 1) 0 ∧ L.getD (i * 3 + 1) 0 ≤ 127
      · by_cases hC : 0 ≤ L.getD (i * 3 + 2) 0 ∧ L.getD (i * 3 + 2) 0 ≤ 63
        · rw [if_pos (hok.2 (by omega))]
          simp only [hA, hB, hC, and_self, decide_true, Bool.not_true, cond_false]
        · rw [if_neg (fun h => hC (by have := hok.1 h; omega))]
          simp only [hA, hB, hC, and_self, decide_true, decide_false, Bool.not_true, Bool.not_false, cond_false, cond_true]
      · rw [if_neg (fun h => hB (by have := hok.1 h; omega))]
        simp only [hA, hB, and_self, decide_true, decide_false, Bool.not_true, Bool.not_false, cond_false, cond_true]
    · rw [if_neg (fun h => hA (by have := hok.1 h; omega))]
      simp only [hA, decide_false, Bool.not_false, cond_true]

theorem lay_l0_is {o h v : List Int} (ho : o.length = 3) (hh : h.length = 3) (hv : v.length = 3) (h64 : ∀ i, I64 ((o ++ (h ++ v)).getD i 0)) (k : Nat) :
    etctwo_Lay_l0 600 (k + 4) o h v (o ++ (h ++ v)) 0 = some (if ok3 o ∧ ok3 h ∧ ok3 v then .inr (o, (h, (v, ()))) else .inl ()) ∧ ref11_Lay_l0 600 (k + 4) o h v (o ++ (h ++ v)) 0 = some (if ok3 o ∧ ok3 h ∧ ok3 v then .inr (o, (h, (v, ()))) else .inl ()) := by
  have hl : (o ++ (h ++ v)).length = 9 := by simp [ho, hh, hv]
  have ho' := tab_all ho
  have hh' := tab_all hh
  have hv' := tab_all hv
  have r0 : (tab 3 fun c => (o ++ (h ++ v)).getD (0 * 3 + c) 0) = o := by
    conv => rhs; rw [ho']
    refine tab_congr fun c hc => ?_
    rw [List.getD_eq_getElem?_getD, List.getD_eq_getElem?_getD, List.getElem?_append_left (by omega)]
    congr 2
    omega
  have r1 : (tab 3 fun c => (o ++ (h ++ v)).getD (1 * 3 + c) 0) = h := by
    conv => rhs; rw [hh']
    refine tab_congr fun c hc => ?_
    rw [List.getD_eq_getElem?_getD, List.getD_eq_getElem?_getD, List.getElem?_append_right (by omega), List.getElem?_append_left (by omega)]
    congr 2
    omega
  have r2 : (tab 3 fun c => (o ++ (h ++ v)).getD (2 * 3 + c) 0) = v := by
    conv => rhs; rw [hv']
    refine tab_congr fun c hc => ?_
    rw [List.getD_eq_getElem?_getD, List.getD_eq_getElem?_getD, List.getElem?_append_right (by omega), List.getElem?_append_right (by omega)]
    congr 2
    omega
  obtain ⟨a0, b0⟩ := l0_step o h v h64 hl (i := 0) (by omega) (k + 3)
  obtain ⟨a1, b1⟩ := l0_step o h v h64 hl (i := 1) (by omega) (k + 2)
  obtain ⟨a2, b2⟩ := l0_step o h v h64 hl (i := 2) (by omega) (k + 1)
  rw [r0] at a0 b0
  rw [r1] at a1 b1
  rw [r2] at a2 b2
  have a3 : etctwo_Lay_l0 600 (k + 1) o h v (o ++ (h ++ v)) ((2 + 1 : Nat) : Int) = some (.inr (o, (h, (v, ())))) := by
    unfold etctwo_Lay_l0 etctwo_Lay_l0S
    have : ¬ (((2 + 1 : Nat) : Int) < 3) := by omega
    simp only [this, decide_false, cond_false]
  have b3 : ref11_Lay_l0 600 (k + 1) o h v (o ++ (h ++ v)) ((2 + 1 : Nat) : Int) = some (.inr (o, (h, (v, ())))) := by
    unfold ref11_Lay_l0 ref11_Lay_l0S
    have : ¬ (((2 + 1 : Nat) : Int) < 3) := by omega
    simp only [this, decide_false, cond_false]
  constructor
  · refine a0.trans ?_
    by_cases c0 : ok3 o
    · rw [if_pos c0]
      refine a1.trans ?_
      by_cases c1 : ok3 h
      · rw [if_pos c1]
        refine a2.trans ?_
        by_cases c2 : ok3 v
        · rw [if_pos c2, if_pos ⟨c0, c1, c2⟩]
          exact a3
        · rw [if_neg c2, if_neg (fun h => c2 h.2.2)]
      · rw [if_neg c1, if_neg (fun h => c1 h.2.1)]
    · rw [if_neg c0, if_neg (fun h => c0 h.1)]
  · refine b0.trans ?_
    by_cases c0 : ok3 o
    · rw [if_pos c0]
      refine b1.trans ?_
      by_cases c1 : ok3 h
      · rw [if_pos c1]
        refine b2.trans ?_
        by_cases c2 : ok3 v
        · rw [if_pos c2, if_pos ⟨c0, c1, c2⟩]
          exact b3
        · rw [if_neg c2, if_neg (fun h => c2 h.2.2)]
      · rw [if_neg c1, if_neg (fun h => c1 h.2.1)]
    · rw [if_neg c0, if_neg (fun h => c0 h.1)]

end Go.AE.Gn
