/- Layer 12: eac. The laws are true of what the functions come to. -/
import Derived.Test.YtjmdnghdbfmijaaA12defs
import Derived.Test.YtjmdnghdbfmijaaPureBits
set_option linter.unusedSimpArgs false
set_option linter.unusedVariables false
namespace Go.AE.Gn
open Go Go.AE

def eacAt (i : Nat) : Nat := 16 + 3 * (4 * (i % 4) + i / 4)

theorem eac_at_closed : ((List.range 16).all fun i => eac_at 0 i == some ((eacAt i : Int), ())) = true := by kernel_rfl
theorem eac_at_is (F : Nat) {i : Nat} (h : i < 16) : eac_at F i = some ((eacAt i : Int), ()) := by
  have := List.all_eq_true.1 eac_at_closed i (by simpa using h)
  have e : eac_at F i = eac_at 0 i := rfl
  rw [e]
  simpa using this
theorem eacAt_lt {i : Nat} (h : i < 16) : 16 ≤ eacAt i ∧ eacAt i + 3 ≤ 64 := by unfold eacAt; omega

theorem Parts_c1_is {F : Nat} (hF : 66 ≤ F) {b : List Int} (hb : Bytes b) (hl : b.length = 8) {a n : Nat} (hn : n ≤ 16) (h : a + n ≤ 64) : eac_Parts_c1 F a n b = some (hv b a n, ()) := by
  unfold eac_Parts_c1
  have h1 := hv_bound b a n
  have h2 : (2 : Int) ^ n ≤ 2 ^ 16 := ipow_le hn
  rw [High_hv hF hb (by omega) (by omega) (by omega)]
  simp only [Option.bind_some]
  rw [w64 (by omega) (by omega)]

/-- Which number each texel has. -/
def eacW (b : List Int) : List Int := (List.range 16).map fun i => hv b (eacAt i) 3

theorem Parts_is {F : Nat} (hF : 66 ≤ F) {b : List Int} (hb : Bytes b) (hl : b.length = 8) :
    eac_Parts F b = some (hv b 0 8, (hv b 8 4, (hv b 12 4, (eacW b, (0, ()))))) := by
  have loop : ∀ T : List Int, eac_Parts_l0 F F b T eac_PartsT1 0 = some (b, (T, (eacW b, ()))) := by
    intro T
    refine fill_loop 16 (fun i => hv b (eacAt i) 3) (fun k w i => eac_Parts_l0 F k b T w i) (fun w => some (b, (T, (w, ())))) ?_ ?_ _ rfl F (by omega)
    · intro k i w hi hw
      show eac_Parts_l0S F (eac_Parts_l0 F k) b T w i = _
      unfold eac_Parts_l0S
      have := eacAt_lt hi
      have e := Parts_c1_is hF hb hl (a := eacAt i) (n := 3) (by decide) (by omega)
      simp only [Int.cast_ofNat_Int] at e
      have h1 : (i : Int) < 16 := by omega
      simp only [h1, decide_true, cond_true, eac_at_is F hi, Option.bind_some, e, Int.natCast_nonneg, Bool.and_self, nextI (show i < 1000000000000 by omega), Int.toNat_natCast]
    · intro k w hw
      show eac_Parts_l0S F (eac_Parts_l0 F k) b T w 16 = _
      unfold eac_Parts_l0S
      simp
  unfold eac_Parts
  have e1 := Parts_c1_is hF hb hl (a := 0) (n := 8) (by decide) (by decide)
  have e2 := Parts_c1_is hF hb hl (a := 8) (n := 4) (by decide) (by decide)
  have e3 := Parts_c1_is hF hb hl (a := 12) (n := 4) (by decide) (by decide)
  simp only [Int.cast_ofNat_Int, Int.natCast_zero] at e1 e2 e3
  simp only [hl, loop, Option.bind_some, e1, e2, e3]
  simp

theorem eacW_len (b : List Int) : (eacW b).length = 16 := by simp [eacW]
theorem eacW_get (b : List Int) {i : Nat} (h : i < 16) : (eacW b).getD i 0 = hv b (eacAt i) 3 := getD_range_map _ h

/-! ### Join -/

def eacA (i : Nat) : Nat := match i with | 0 => 0 | 1 => 8 | 2 => 12 | i + 3 => eacAt i
def eacN (i : Nat) : Nat := match i with | 0 => 8 | 1 => 4 | 2 => 4 | _ + 3 => 3
def eacV (base times table : Int) (w : List Int) (i : Nat) : Int := match i with | 0 => base | 1 => times | 2 => table | i + 3 => w.getD i 0

def eacF (base times table : Int) (w : List Int) (n : Nat) : List Int := [0, 8, base, 8, 4, times, 12, 4, table] ++ (List.range n).flatMap fun i => [(eacAt i : Int), 3, w.getD i 0]

theorem eacF_succ (base times table : Int) (w : List Int) (n : Nat) : eacF base times table w (n + 1) = eacF base times table w n ++ [(eacAt n : Int), 3, w.getD n 0] := by
  simp [eacF, List.range_succ]

theorem eacF_len (base times table : Int) (w : List Int) : ∀ n, (eacF base times table w n).length = 9 + 3 * n := by
  intro n
  induction n with
  | zero => rfl
  | succ n ih => rw [eacF_succ, List.length_append, ih]; simp; omega

theorem Join_l0_is {F : Nat} (base times table : Int) (w : List Int) (T : List Int) : ∀ (k i : Nat), i ≤ 16 → 16 - i < k →
    eac_Join_l0 F k T (eacF base times table w i) w i = some (T, (eacF base times table w 16, ()))
  | 0, i, _, h => by omega
  | k + 1, i, hi, hk => by
    unfold eac_Join_l0 eac_Join_l0S
    by_cases h : i < 16
    · have h1 : (i : Int) < 16 := by omega
      have ih := Join_l0_is (F := F) base times table w T k (i + 1) (by omega) (by omega)
      have h2 : (eacF base times table w i).length / 3 + 1 ≤ 1099511627776 := by rw [eacF_len]; omega
      simp only [h1, decide_true, cond_true, Int.natCast_nonneg, Bool.and_self, eac_at_is F h, Option.bind_some, h2, nextI (show i < 1000000000000 by omega), Int.toNat_natCast]
      rw [← eacF_succ]
      simpa using ih
    · have : i = 16 := by omega
      subst this
      simp

theorem eacF_get_closed : ∀ (base times table : Int) (w : List Int), ((eacF base times table w 16).length = 57) := fun base times table w => by rw [eacF_len]

theorem eacF_get (base times table : Int) (w : List Int) {i : Nat} (h : i < 19) : ((eacF base times table w 16).drop (i * 3)).take 3 = [(eacA i : Int), (eacN i : Int), eacV base times table w i] := by
  have : i = 0 ∨ i = 1 ∨ i = 2 ∨ i = 3 ∨ i = 4 ∨ i = 5 ∨ i = 6 ∨ i = 7 ∨ i = 8 ∨ i = 9 ∨ i = 10 ∨ i = 11 ∨ i = 12 ∨ i = 13 ∨ i = 14 ∨ i = 15 ∨ i = 16 ∨ i = 17 ∨ i = 18 := by omega
  rcases this with rfl | rfl | rfl | rfl | rfl | rfl | rfl | rfl | rfl | rfl | rfl | rfl | rfl | rfl | rfl | rfl | rfl | rfl | rfl <;> rfl

def eacZ : List Int := [0, 0, 0, 0, 0, 0, 0, 0]
theorem eacZ_bytes : Bytes eacZ := fun x hx => by simp [eacZ] at hx; omega

def eacJ (base times table : Int) (w : List Int) (i : Nat) : List Int := hlaid eacA eacN (eacV base times table w) eacZ i

theorem eac_pos : ∀ i, i < 19 → eacA i + eacN i ≤ 64 ∧ eacN i ≤ 8 := by decide
theorem eac_apart : ∀ i, i < 19 → ∀ j, j < 19 → i ≠ j → eacA i + eacN i ≤ eacA j ∨ eacA j + eacN j ≤ eacA i := by decide
theorem eac_cover : ∀ q, q < 64 → ∃ i, i < 19 ∧ eacA i ≤ q ∧ q < eacA i + eacN i := by decide

/-- Values that fit. -/
def EacFit (base times table : Int) (w : List Int) : Prop := (0 ≤ base ∧ base ≤ 255) ∧ (0 ≤ times ∧ times ≤ 15) ∧ (0 ≤ table ∧ table ≤ 15) ∧ w.length = 16 ∧ ∀ i, i < 16 → 0 ≤ w.getD i 0 ∧ w.getD i 0 ≤ 7

theorem EacFit.V {base times table : Int} {w : List Int} (h : EacFit base times table w) : ∀ i, i < 19 → 0 ≤ eacV base times table w i ∧ eacV base times table w i < 2 ^ eacN i := by
  obtain ⟨h1, h2, h3, h4, h5⟩ := h
  intro i hi
  match i with
  | 0 => simp only [eacV, eacN]; omega
  | 1 => simp only [eacV, eacN]; omega
  | 2 => simp only [eacV, eacN]; omega
  | i + 3 =>
    have := h5 i (by omega)
    simp only [eacV, eacN]
    omega

theorem Join_l2_is {F : Nat} (hF : 66 ≤ F) {base times table : Int} {w : List Int} (hf : EacFit base times table w) : ∀ (k i : Nat), i ≤ 19 → 19 - i < k →
    eac_Join_l2 F k (eacJ base times table w i) (eacF base times table w 16) 19 i = some (eacJ base times table w 19, (true, ()))
  | 0, i, _, h => by omega
  | k + 1, i, hi, hk => by
    unfold eac_Join_l2 eac_Join_l2S
    by_cases h : i < 19
    · have h1 : (i : Int) < 19 := by omega
      have ih := Join_l2_is hF hf k (i + 1) (by omega) (by omega)
      have hlen : (eacF base times table w 16).length / 3 = 19 := by rw [eacF_len]
      have hp := eac_pos i h
      have hV := hf.V i h
      have hl : (eacJ base times table w i).length = 8 := by unfold eacJ; rw [hlaid_len]; rfl
      have hs := SetHigh_ok hF (b := eacJ base times table w i) (hlaid_bytes _ _ _ eacZ_bytes i) (by omega) (a := eacA i) (n := eacN i) (v := eacV base times table w i) (by omega) (by omega) hV
      have hv64 := pow64 (n := eacN i) (by omega)
      simp only [h1, decide_true, cond_true, hlen, Int.natCast_nonneg, Int.cast_ofNat_Int, h1, decide_true, Bool.and_self, cond_true, Int.toNat_natCast, eacF_get base times table w h, and_self, if_true, List.getD_cons_zero, List.getD_cons_succ]
      rw [wu64 hV.1 (by omega), hs]
      simp only [Option.bind_some, bne_self_eq_false, cond_false, nextI (show i < 1000000000000 by omega)]
      exact ih
    · have : i = 19 := by omega
      subst this
      simp

theorem Join_is {F : Nat} (hF : 66 ≤ F) {base times table : Int} {w : List Int} (hf : EacFit base times table w) : eac_Join F base times table w = some (eacJ base times table w 19, (0, ())) := by
  unfold eac_Join
  have e1 := Join_l0_is (F := F) base times table w eac_JoinT0 F 0 (by omega) (by omega)
  have e2 := Join_l2_is hF hf F 0 (by omega) (by omega)
  simp only [and_self, if_true]
  have e0 : eacF base times table w 0 = [0, 8, base, 8, 4, times, 12, 4, table] := rfl
  rw [e0, Int.natCast_zero] at e1
  rw [e1]
  have hlen : (eacF base times table w 16).length / 3 = 19 := by rw [eacF_len]
  simp only [Option.bind_some, hlen]
  have e3 : eacJ base times table w 0 = eac_JoinT0 := rfl
  rw [e3, Int.natCast_zero] at e2
  simp only [Int.cast_ofNat_Int, e2, Option.bind_some]
  rfl

theorem eacJ_len (base times table : Int) (w : List Int) : (eacJ base times table w 19).length = 8 := by unfold eacJ; rw [hlaid_len]; rfl
theorem eacJ_bytes (base times table : Int) (w : List Int) : Bytes (eacJ base times table w 19) := hlaid_bytes _ _ _ eacZ_bytes 19

/-- The parts of a block of parts. -/
theorem eacJ_hv {base times table : Int} {w : List Int} (hf : EacFit base times table w) {j : Nat} (hj : j < 19) : hv (eacJ base times table w 19) (eacA j) (eacN j) = eacV base times table w j :=
  hlaid_hv eacZ_bytes (fun i hi => (eac_pos i hi).1) (fun i j hi hj => eac_apart i hi j hj) hf.V hj

theorem eacW_fit {b : List Int} : EacFit (hv b 0 8) (hv b 8 4) (hv b 12 4) (eacW b) := by
  have h1 := hv_bound b 0 8
  have h2 := hv_bound b 8 4
  have h3 := hv_bound b 12 4
  refine ⟨by omega, by omega, by omega, eacW_len b, fun i hi => ?_⟩
  rw [eacW_get b hi]
  have := hv_bound b (eacAt i) 3
  omega

theorem eacV_hv (b : List Int) {i : Nat} (hi : i < 19) : eacV (hv b 0 8) (hv b 8 4) (hv b 12 4) (eacW b) i = hv b (eacA i) (eacN i) := by
  match i with
  | 0 => rfl
  | 1 => rfl
  | 2 => rfl
  | i + 3 => exact eacW_get b (by omega)

theorem eacJ_back {b : List Int} (hb : Bytes b) (hl : b.length = 8) : eacJ (hv b 0 8) (hv b 8 4) (hv b 12 4) (eacW b) 19 = b :=
  hlaid_back hb eacZ_bytes (by rw [hl]; rfl) (fun i hi => (eac_pos i hi).1) (fun i j hi hj => eac_apart i hi j hj) (fun i hi => eacV_hv b hi) (fun q hq => eac_cover q hq)

theorem awake12 : law12_awake 600 = some (true, ()) := by kernel_rfl

theorem law12_EacBack_true (b : List Int) (hb' : ∀ x ∈ b, IntKind.u8.has x) : ∃ F, law12_EacBack F b = some (true, ()) := by
  have hb := bytes_of hb'
  refine ⟨600, ?_⟩
  unfold law12_EacBack
  rw [awake12]
  simp only [Option.bind_some]
  by_cases hl : b.length = 8
  · rw [Parts_is (by decide) hb hl]
    have e : ((b.length : Int) != 8) = false := by rw [hl]; rfl
    simp only [Option.bind_some, e, cond_false, and_self, if_true]
    rw [Join_is (by decide) eacW_fit, eacJ_back hb hl]
    simp only [Option.bind_some]
    rw [Same_is b (by omega) (by decide)]
    rfl
  · have e : ((b.length : Int) != 8) = true := bneT (by omega)
    unfold eac_Parts
    simp [e]

/-! ### numbers -/

theorem Table_closed : ((List.range 16).all fun n => match eac_Table 0 n with | some (l, ()) => l.length == 8 && l.all fun x => decide (-15 ≤ x) && decide (x ≤ 15) | none => false) = true := by kernel_rfl
theorem Table_is (F : Nat) {n : Int} (h : 0 ≤ n ∧ n ≤ 15) : ∃ l, eac_Table F n = some (l, ()) ∧ l.length = 8 ∧ ∀ i, -15 ≤ l.getD i 0 ∧ l.getD i 0 ≤ 15 := by
  obtain ⟨m, rfl⟩ := Int.eq_ofNat_of_zero_le h.1
  have := List.all_eq_true.1 Table_closed m (by simp; omega)
  have e : eac_Table F m = eac_Table 0 m := rfl
  rw [e]
  revert this
  cases eac_Table 0 m with
  | none => intro h; simp at h
  | some l =>
    obtain ⟨l, ⟨⟩⟩ := l
    intro h
    simp only [Bool.and_eq_true, beq_iff_eq, List.all_eq_true, decide_eq_true_eq] at h
    refine ⟨l, rfl, h.1, fun i => ?_⟩
    rw [List.getD_eq_getElem?_getD]
    by_cases hi : i < l.length
    · rw [List.getElem?_eq_getElem hi]
      exact h.2 _ (List.getElem_mem hi)
    · rw [List.getElem?_eq_none (by omega)]
      simp

theorem mulB {n t c d : Int} (hn : -c ≤ n ∧ n ≤ c) (ht : 0 ≤ t ∧ t ≤ d) (hc : 0 ≤ c) : -(c * d) ≤ n * t ∧ n * t ≤ c * d := by
  have h1 : n * t ≤ c * t := Int.mul_le_mul_of_nonneg_right hn.2 ht.1
  have h2 : c * t ≤ c * d := Int.mul_le_mul_of_nonneg_left ht.2 hc
  have h3 : -c * t ≤ n * t := Int.mul_le_mul_of_nonneg_right hn.1 ht.1
  have h4 : -c * t = -(c * t) := Int.neg_mul c t
  omega

def eacVal (base times number : Int) (wide : Bool) : Int :=
  if wide then (if times = 0 then max 0 (min (8 * base + 4 + number) 2047) else max 0 (min (8 * (base + number * times) + 4) 2047)) else max 0 (min (base + number * times) 255)

theorem Value_is (F : Nat) {base times number : Int} (hb : 0 ≤ base ∧ base ≤ 255) (ht : 0 ≤ times ∧ times ≤ 15) (hn : -15 ≤ number ∧ number ≤ 15) (wide : Bool) : eac_Value F base times number wide = some (eacVal base times number wide, ()) := by
  have hm := mulB (c := 15) hn ht (by decide)
  unfold eac_Value level_Clamp eacVal
  rw [w64 (x := number * times) (by omega) (by omega), w64 (x := base + number * times) (by omega) (by omega), w64 (x := 8 * base) (by omega) (by omega), w64 (x := 8 * base + 4) (by omega) (by omega),
    w64 (x := 8 * base + 4 + number) (by omega) (by omega), w64 (x := 8 * (base + number * times)) (by omega) (by omega), w64 (x := 8 * (base + number * times) + 4) (by omega) (by omega)]
  cases wide
  · rfl
  · by_cases h0 : times = 0
    · simp [h0]
    · simp [h0, beqF h0]

/-- The numbers of a block of parts. -/
def eacD (base times : Int) (tbl w : List Int) (wide : Bool) : List Int := (List.range 16).map fun i => eacVal base times (tbl.getD (w.getD i 0).toNat 0) wide

theorem Decode_is {F : Nat} (hF : 66 ≤ F) {b : List Int} (hb : Bytes b) (hl : b.length = 8) (wide : Bool) {tbl : List Int} (ht : eac_Table F (hv b 12 4) = some (tbl, ())) (hb15 : ∀ i, -15 ≤ tbl.getD i 0 ∧ tbl.getD i 0 ≤ 15) :
    eac_Decode F b wide = some (eacD (hv b 0 8) (hv b 8 4) tbl (eacW b) wide, (0, ())) := by
  obtain ⟨f1, f2, f3, f4, f5⟩ := eacW_fit (b := b)
  have loop : ∀ T : List Int, eac_Decode_l0 F F wide T (hv b 0 8) (hv b 8 4) (eacW b) tbl (eacW b) 0 = some (T, (eacD (hv b 0 8) (hv b 8 4) tbl (eacW b) wide, ())) := by
    intro T
    refine fill_loop 16 (fun i => eacVal (hv b 0 8) (hv b 8 4) (tbl.getD ((eacW b).getD i 0).toNat 0) wide) (fun k w i => eac_Decode_l0 F k wide T (hv b 0 8) (hv b 8 4) w tbl (eacW b) i) (fun w => some (T, (w, ()))) ?_ ?_ _ f4 F (by omega)
    · intro k i w hi hw
      show eac_Decode_l0S F (eac_Decode_l0 F k) wide T (hv b 0 8) (hv b 8 4) w tbl (eacW b) i = _
      unfold eac_Decode_l0S
      have h1 : (i : Int) < 16 := by omega
      have h2 := f5 i hi
      have h3 : (eacW b).getD i 0 < 8 := by omega
      simp only [h1, decide_true, cond_true, Int.natCast_nonneg, Bool.and_self, Int.toNat_natCast, h2.1, h3, Value_is F f1 f2 (hb15 _), Option.bind_some, nextI (show i < 1000000000000 by omega)]
    · intro k w hw
      show eac_Decode_l0S F (eac_Decode_l0 F k) wide T (hv b 0 8) (hv b 8 4) w tbl (eacW b) 16 = _
      unfold eac_Decode_l0S
      simp
  unfold eac_Decode
  rw [Parts_is hF hb hl]
  simp only [Option.bind_some, and_self, if_true, bne_self_eq_false, cond_false, ht, loop]

theorem eacVal_mono {base base' times number : Int} (h : base ≤ base') (wide : Bool) : eacVal base times number wide ≤ eacVal base' times number wide := by
  unfold eacVal
  split
  · split <;> omega
  · omega
theorem eacVal_bound (base times number : Int) (wide : Bool) : 0 ≤ eacVal base times number wide ∧ eacVal base times number wide ≤ (if wide then 2047 else 255) := by
  unfold eacVal
  cases wide <;> simp <;> (try split) <;> omega
theorem eacVal_still {base number : Int} (hb : 0 ≤ base ∧ base ≤ 255) : eacVal base 0 number false = base := by
  unfold eacVal
  simp
  omega

theorem Rises_l0_is {F : Nat} {base base' times : Int} (hb : 0 ≤ base ∧ base ≤ 255) (hbb : base ≤ base') (tbl w : List Int) (wide up : Bool) (e1 e2 e3 : Int) : ∀ (k i : Nat), i ≤ 16 → 16 - i < k →
    law12_EacRises_l0 F k wide up base times (eacD base times tbl w wide) e1 e2 (eacD base' times tbl w wide) e3 (if wide then 2047 else 255) i = some (.inr (up, (e1, (e2, (e3, ())))))
  | 0, i, _, h => by omega
  | k + 1, i, hi, hk => by
    unfold law12_EacRises_l0 law12_EacRises_l0S
    by_cases h : i < 16
    · have h1 : (i : Int) < 16 := by omega
      have ih := Rises_l0_is (F := F) hb hbb (times := times) tbl w wide up e1 e2 e3 k (i + 1) (by omega) (by omega)
      have b1 := eacVal_bound base times (tbl.getD (w.getD i 0).toNat 0) wide
      have b2 := eacVal_mono hbb (times := times) (number := tbl.getD (w.getD i 0).toNat 0) wide
      have g1 : (eacD base times tbl w wide).getD i 0 = eacVal base times (tbl.getD (w.getD i 0).toNat 0) wide := getD_range_map _ h
      have g2 : (eacD base' times tbl w wide).getD i 0 = eacVal base' times (tbl.getD (w.getD i 0).toNat 0) wide := getD_range_map _ h
      simp only [h1, decide_true, cond_true, Int.natCast_nonneg, Bool.and_self, Int.toNat_natCast, g1, g2, nextI (show i < 1000000000000 by omega), ih]
      have c1 : ¬ eacVal base times (tbl.getD (w.getD i 0).toNat 0) wide < 0 := by omega
      have c2 : ¬ (if wide then (2047 : Int) else 255) < eacVal base times (tbl.getD (w.getD i 0).toNat 0) wide := by omega
      have c3 : ¬ eacVal base' times (tbl.getD (w.getD i 0).toNat 0) wide < eacVal base times (tbl.getD (w.getD i 0).toNat 0) wide := by omega
      simp only [c1, c2, c3, decide_false, cond_false]
      by_cases ht : times = 0
      · subst ht
        cases wide
        · rw [eacVal_still hb]
          simp
        · simp
      · simp [beqF ht]
    · have : i = 16 := by omega
      subst this
      simp

theorem law12_EacRises_true (b : List Int) (more : Int) (wide : Bool) (hb' : ∀ x ∈ b, IntKind.u8.has x) (hm : IntKind.i64.has more) : ∃ F, law12_EacRises F b more wide = some (true, ()) := by
  have hb := bytes_of hb'
  refine ⟨600, ?_⟩
  unfold law12_EacRises
  rw [awake12]
  simp only [Option.bind_some]
  by_cases hl : b.length = 8
  · have e : ((b.length : Int) != 8) = false := by rw [hl]; rfl
    by_cases h1 : more < 0
    · simp [e, h1]
    by_cases h2 : 255 < more
    · simp [e, h1, h2]
    obtain ⟨f1, f2, f3, f4, f5⟩ := eacW_fit (b := b)
    rw [Parts_is (by decide) hb hl]
    have hbase : min (IntKind.wrap .i64 (hv b 0 8 + more)) 255 = min (hv b 0 8 + more) 255 := by rw [w64 (by omega) (by omega)]
    have hf : EacFit (min (hv b 0 8 + more) 255) (hv b 8 4) (hv b 12 4) (eacW b) := ⟨by omega, f2, f3, f4, f5⟩
    obtain ⟨tbl, ht, htl, ht15⟩ := Table_is 600 f3
    have hd := Decode_is (F := 600) (by decide) hb hl wide ht ht15
    -- the block of the greater base
    have jb := eacJ_bytes (min (hv b 0 8 + more) 255) (hv b 8 4) (hv b 12 4) (eacW b)
    have jl := eacJ_len (min (hv b 0 8 + more) 255) (hv b 8 4) (hv b 12 4) (eacW b)
    have j0 := eacJ_hv hf (j := 0) (by decide)
    have j1 := eacJ_hv hf (j := 1) (by decide)
    have j2 := eacJ_hv hf (j := 2) (by decide)
    have jw : eacW (eacJ (min (hv b 0 8 + more) 255) (hv b 8 4) (hv b 12 4) (eacW b) 19) = eacW b := by
      refine List.map_congr_left fun i hi => ?_
      have hi : i < 16 := by simpa using hi
      have := eacJ_hv hf (j := i + 3) (by omega)
      simp only [eacA, eacN, eacV] at this
      rw [this, eacW_get b hi]
    simp only [eacA, eacN, eacV] at j0 j1 j2
    have hd2 := Decode_is (F := 600) (by decide) jb jl wide (by rw [j2]; exact ht) ht15
    rw [j0, j1, jw] at hd2
    simp only [e, cond_false, h1, h2, decide_false, Option.bind_some, and_self, if_true, hbase, hd]
    rw [Join_is (by decide) hf]
    simp only [Option.bind_some, hd2]
    have loop := Rises_l0_is (F := 600) (base := hv b 0 8) (base' := min (hv b 0 8 + more) 255) (times := hv b 8 4) f1 (by omega) tbl (eacW b) wide true 0 0 0 600 0 (by decide) (by decide)
    cases wide
    · simp only [Bool.false_eq_true, if_false, Int.natCast_zero] at loop
      rw [loop]
      simp
    · simp only [if_true, Int.natCast_zero] at loop
      rw [loop]
      simp
  · have e : ((b.length : Int) != 8) = true := bneT (by omega)
    simp [e]

end Go.AE.Gn
