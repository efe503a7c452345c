/- Layer 7: bcfour. The laws are true of what the functions come to. -/
import Derived.Test.YtdhhinbhckoipaaPure03
set_option linter.unusedSimpArgs false
set_option linter.unusedVariables false
namespace Go.AE.Gn
open Go Go.AE

theorem Field_is {F : Nat} (hF : 66 ≤ F) {b : List Int} (hb : Bytes b) (hl : b.length ≤ 1099511627776) {a n : Nat} (hn : n ≤ 16) (h : a + n ≤ 8 * b.length) : ref02_Field F b a n = some (lv b a n, ()) := by
  have h1 := lv_bound b a n
  have h2 : (2 : Int) ^ n ≤ 2 ^ 16 := ipow_le hn
  unfold ref02_Field
  rw [Get_is hF hb hl false]
  simp only [Bool.false_eq_true, if_false, Option.bind_some]
  rw [lowV_lv (by omega) h, w64 (by omega) (by omega)]

def fourW (b : List Int) : List Int := (List.range 16).map fun i => lv b (16 + 3 * i) 3
theorem fourW_len (b : List Int) : (fourW b).length = 16 := by simp [fourW]
theorem fourW_get (b : List Int) {i : Nat} (h : i < 16) : (fourW b).getD i 0 = lv b (16 + 3 * i) 3 := getD_range_map _ h
theorem fourW_ok (b : List Int) : ∀ i, i < 16 → 0 ≤ (fourW b).getD i 0 ∧ (fourW b).getD i 0 < 2 ^ 3 := by
  intro i hi
  rw [fourW_get b hi]
  exact lv_bound _ _ _

theorem lv8 {b : List Int} (hb : Bytes b) (i : Nat) : lv b (8 * i) 8 = b.getD i 0 := by
  rw [byte_bits (hb.getD i)]
  unfold lv
  refine sumLo_congr fun j hj => ?_
  unfold lowBit
  rw [show (8 * i + j) / 8 = i by omega, show (8 * i + j) % 8 = j by omega]

theorem Parts7_is {F : Nat} (hF : 66 ≤ F) {b : List Int} (hb : Bytes b) (hl : b.length = 8) : bcfour_Parts F b = some (b.getD 0 0, (b.getD 1 0, (fourW b, (0, ())))) := by
  have h := Lows_lv hF hb (by omega) (a := 16) (n := 3) (m := 16) (by decide) (by decide) (by omega)
  have e : ((List.range 16).map fun i => lv b (16 + i * 3) 3) = fourW b := by
    unfold fourW
    refine List.map_congr_left fun i _ => ?_
    rw [Nat.mul_comm]
  rw [e] at h
  simp only [Int.cast_ofNat_Int] at h
  unfold bcfour_Parts
  simp only [hl, h, Option.bind_some, fourW_len]
  have e2 : (List.take 16 (fourW b)) = fourW b := List.take_of_length_le (by rw [fourW_len]; omega)
  simp [bcfour_DecodeT229, e2]

theorem rParts7_is {F : Nat} (hF : 66 ≤ F) {b : List Int} (hb : Bytes b) (hl : b.length = 8) : ref07_Parts F b = some (b.getD 0 0, (b.getD 1 0, (fourW b, (0, ())))) := by
  have loop : ∀ T : List Int, ref07_Parts_l0 F F b T bcfour_DecodeT229 0 = some (b, (T, (fourW b, ()))) := by
    intro T
    refine fill_loop 16 (fun i => lv b (16 + 3 * i) 3) (fun k w i => ref07_Parts_l0 F k b T w i) (fun w => some (b, (T, (w, ())))) ?_ ?_ _ rfl F (by omega)
    · intro k i w hi hw
      show ref07_Parts_l0S F (ref07_Parts_l0 F k) b T w i = _
      unfold ref07_Parts_l0S
      have h1 : (i : Int) < 16 := by omega
      have e := Field_is hF hb (by omega) (a := 16 + 3 * i) (n := 3) (by decide) (by omega)
      have e1 : IntKind.wrap .i64 (16 + IntKind.wrap .i64 (3 * (i : Int))) = ((16 + 3 * i : Nat) : Int) := by
        rw [w64 (x := 3 * (i : Int)) (by omega) (by omega), w64 (by omega) (by omega)]
        omega
      simp only [Int.cast_ofNat_Int] at e
      simp only [h1, decide_true, cond_true, e1, e, Option.bind_some, Int.natCast_nonneg, Bool.and_self, nextI (show i < 1000000000000 by omega), Int.toNat_natCast]
    · intro k w hw
      show ref07_Parts_l0S F (ref07_Parts_l0 F k) b T w 16 = _
      unfold ref07_Parts_l0S
      simp
  unfold ref07_Parts
  simp [hl, loop]

/-! ### ramps -/

def ramp0 (a b : Int) : List Int := if a ≤ b then [a, b, 0, 0, 0, 0, 0, 255] else [a, b, 0, 0, 0, 0, 0, 0]
def rampO (a b : Int) : Int := if a ≤ b then 5 else 7
def rampN (a b : Int) : Nat := if a ≤ b then 4 else 6
/-- so many numbers between -/
def rampL (a b o : Int) (base : List Int) : Nat → List Int
  | 0 => base
  | i + 1 => (rampL a b o base i).set (i + 2) (mixV a b ((i : Int) + 1) o 0)
theorem rampL_len (a b o : Int) (base : List Int) : ∀ i, (rampL a b o base i).length = base.length
  | 0 => rfl
  | i + 1 => by rw [rampL, List.length_set, rampL_len a b o base i]

theorem Ramp_l0_is {F : Nat} {a b : Int} (ha : 0 ≤ a ∧ a ≤ 255) (hb : 0 ≤ b ∧ b ≤ 255) (T base : List Int) {o : Int} (ho : 1 ≤ o ∧ o ≤ 8) {n : Nat} (hn : n ≤ 6) (hno : (n : Int) ≤ o) : ∀ (k i : Nat), i ≤ n → n - i < k →
    bcfour_Ramp_l0 F k a b T (rampL a b o base i) o n i = some (T, (rampL a b o base n, ()))
  | 0, i, _, h => by omega
  | k + 1, i, hi, hk => by
    unfold bcfour_Ramp_l0 bcfour_Ramp_l0S
    by_cases h : i < n
    · have h1 : (i : Int) < n := by omega
      have ih := Ramp_l0_is (F := F) ha hb T base ho hn hno k (i + 1) (by omega) (by omega)
      have m := (Mix_is F (a := a) (b := b) (k := (i : Int) + 1) (o := o) (add := 0) (by omega) (by omega) (by omega) (by omega) (by omega) (by decide)).1
      have e2 : IntKind.wrap .i64 ((i : Int) + 2) = ((i + 2 : Nat) : Int) := by rw [w64 (by omega) (by omega)]; omega
      have h2 : ((i + 2 : Nat) : Int) < 8 := by omega
      have e1 : IntKind.wrap .i64 ((i : Int) + 1) = (i : Int) + 1 := w64 (by omega) (by omega)
      simp only [h1, decide_true, cond_true, e1, m, e2, h2, Option.bind_some, Int.natCast_nonneg, Bool.and_self, Int.toNat_natCast]
      have e3 : ((i : Int) + 1) = ((i + 1 : Nat) : Int) := by omega
      rw [rampL] at ih
      rw [e3] at ih ⊢
      exact ih
    · have : i = n := by omega
      subst this
      simp

def ramp7 (a b : Int) : List Int := rampL a b (rampO a b) (ramp0 a b) (rampN a b)

theorem Ramp_is {F : Nat} (hF : 66 ≤ F) {a b : Int} (ha : 0 ≤ a ∧ a ≤ 255) (hb : 0 ≤ b ∧ b ≤ 255) : bcfour_Ramp F a b = some (ramp7 a b, ()) := by
  unfold bcfour_Ramp ramp7 rampO rampN ramp0
  by_cases h : a ≤ b
  · have e := Ramp_l0_is (F := F) ha hb bcfour_joinedT53 [a, b, 0, 0, 0, 0, 0, 255] (o := 5) (by decide) (n := 4) (by decide) (by decide) F 0 (by decide) (by omega)
    simp only [rampL, Int.cast_ofNat_Int, Int.natCast_zero] at e
    simp only [h, decide_true, cond_true, if_true, rampL, e, Option.bind_some, and_self]
    rfl
  · have e := Ramp_l0_is (F := F) ha hb bcfour_joinedT53 [a, b, 0, 0, 0, 0, 0, 0] (o := 7) (by decide) (n := 6) (by decide) (by decide) F 0 (by decide) (by omega)
    simp only [rampL, Int.cast_ofNat_Int, Int.natCast_zero] at e
    simp only [h, decide_false, cond_false, if_false, rampL, e, Option.bind_some, and_self, if_true]
    rfl

theorem rRamp_l0_is {F : Nat} {a b : Int} (ha : 0 ≤ a ∧ a ≤ 255) (hb : 0 ≤ b ∧ b ≤ 255) (T base : List Int) : ∀ (k i : Nat), i ≤ 6 → 6 - i < k →
    ref07_Ramp_l0 F k a b T (rampL a b 7 base i) ((i : Int) + 1) = some (T, (rampL a b 7 base 6, ()))
  | 0, i, _, h => by omega
  | k + 1, i, hi, hk => by
    unfold ref07_Ramp_l0 ref07_Ramp_l0S
    by_cases h : i < 6
    · have h1 : (i : Int) + 1 ≤ 6 := by omega
      have ih := rRamp_l0_is (F := F) ha hb T base k (i + 1) (by omega) (by omega)
      have m := (Mix_is F (a := a) (b := b) (k := (i : Int) + 1) (o := 7) (add := 0) (by omega) (by omega) (by omega) (by omega) (by omega) (by decide)).2.1
      have e2 : IntKind.wrap .i64 ((i : Int) + 1 + 1) = ((i + 2 : Nat) : Int) := by rw [w64 (by omega) (by omega)]; omega
      have h2 : ((i + 2 : Nat) : Int) < 8 := by omega
      simp only [h1, decide_true, cond_true, m, e2, h2, Option.bind_some, Int.natCast_nonneg, Bool.and_self, Int.toNat_natCast]
      rw [rampL] at ih
      have e3 : (((i + 1 : Nat) : Int) + 1) = ((i + 2 : Nat) : Int) := by omega
      rw [e3] at ih
      exact ih
    · have : i = 6 := by omega
      subst this
      simp

theorem rRamp_l2_is {F : Nat} {a b : Int} (ha : 0 ≤ a ∧ a ≤ 255) (hb : 0 ≤ b ∧ b ≤ 255) (T base : List Int) : ∀ (k i : Nat), i ≤ 4 → 4 - i < k →
    ref07_Ramp_l2 F k a b T (rampL a b 5 base i) ((i : Int) + 1) = some (T, (rampL a b 5 base 4, ()))
  | 0, i, _, h => by omega
  | k + 1, i, hi, hk => by
    unfold ref07_Ramp_l2 ref07_Ramp_l2S
    by_cases h : i < 4
    · have h1 : (i : Int) + 1 ≤ 4 := by omega
      have ih := rRamp_l2_is (F := F) ha hb T base k (i + 1) (by omega) (by omega)
      have m := (Mix_is F (a := a) (b := b) (k := (i : Int) + 1) (o := 5) (add := 0) (by omega) (by omega) (by omega) (by omega) (by omega) (by decide)).2.1
      have e2 : IntKind.wrap .i64 ((i : Int) + 1 + 1) = ((i + 2 : Nat) : Int) := by rw [w64 (by omega) (by omega)]; omega
      have h2 : ((i + 2 : Nat) : Int) < 8 := by omega
      simp only [h1, decide_true, cond_true, m, e2, h2, Option.bind_some, Int.natCast_nonneg, Bool.and_self, Int.toNat_natCast]
      rw [rampL] at ih
      have e3 : (((i + 1 : Nat) : Int) + 1) = ((i + 2 : Nat) : Int) := by omega
      rw [e3] at ih
      exact ih
    · have : i = 4 := by omega
      subst this
      simp

theorem rRamp_is {F : Nat} (hF : 66 ≤ F) {a b : Int} (ha : 0 ≤ a ∧ a ≤ 255) (hb : 0 ≤ b ∧ b ≤ 255) : ref07_Ramp F a b = some (ramp7 a b, ()) := by
  unfold ref07_Ramp ramp7 rampO rampN ramp0
  by_cases h : a ≤ b
  · have h' : ¬ b < a := by omega
    have e := rRamp_l2_is (F := F) ha hb bcfour_joinedT53 [a, b, 0, 0, 0, 0, 0, 0] F 0 (by decide) (by omega)
    simp only [rampL, Int.natCast_zero, Int.zero_add] at e
    simp only [h, h', decide_false, cond_false, if_true, rampL, e, Option.bind_some, and_self]
    rfl
  · have h' : b < a := by omega
    have e := rRamp_l0_is (F := F) ha hb bcfour_joinedT53 [a, b, 0, 0, 0, 0, 0, 0] F 0 (by decide) (by omega)
    simp only [rampL, Int.natCast_zero, Int.zero_add] at e
    simp only [h, h', decide_true, cond_true, if_false, rampL, e, Option.bind_some, and_self, if_true]
    rfl

theorem ramp7_lo {a b : Int} (h : a ≤ b) : ramp7 a b = [a, b, mixV a b 1 5 0, mixV a b 2 5 0, mixV a b 3 5 0, mixV a b 4 5 0, 0, 255] := by
  unfold ramp7 rampO rampN ramp0
  simp only [h, if_true]
  rfl
theorem ramp7_hi {a b : Int} (h : ¬ a ≤ b) : ramp7 a b = [a, b, mixV a b 1 7 0, mixV a b 2 7 0, mixV a b 3 7 0, mixV a b 4 7 0, mixV a b 5 7 0, mixV a b 6 7 0] := by
  unfold ramp7 rampO rampN ramp0
  simp only [h, if_false]
  rfl

/-! ### Decode -/

def fourD (b : List Int) : List Int := (List.range 16).map fun i => (ramp7 (b.getD 0 0) (b.getD 1 0)).getD ((fourW b).getD i 0).toNat 0

theorem Decode7_is {F : Nat} (hF : 66 ≤ F) {b : List Int} (hb : Bytes b) (hl : b.length = 8) : bcfour_Decode F b = some (fourD b, (0, ())) := by
  have loop : ∀ T : List Int, bcfour_Decode_l0 F F T (fourW b) (ramp7 (b.getD 0 0) (b.getD 1 0)) (fourW b) 0 = some (T, (fourD b, ())) := by
    intro T
    refine fill_loop 16 (fun i => (ramp7 (b.getD 0 0) (b.getD 1 0)).getD ((fourW b).getD i 0).toNat 0) (fun k w i => bcfour_Decode_l0 F k T w (ramp7 (b.getD 0 0) (b.getD 1 0)) (fourW b) i) (fun w => some (T, (w, ()))) ?_ ?_ _ (fourW_len b) F (by omega)
    · intro k i w hi hw
      show bcfour_Decode_l0S F (bcfour_Decode_l0 F k) T w (ramp7 (b.getD 0 0) (b.getD 1 0)) (fourW b) i = _
      unfold bcfour_Decode_l0S
      have h1 : (i : Int) < 16 := by omega
      have h2 := fourW_ok b i hi
      have h3 : (fourW b).getD i 0 < 8 := by omega
      simp only [h1, decide_true, cond_true, Int.natCast_nonneg, Bool.and_self, Int.toNat_natCast, h2.1, h3, nextI (show i < 1000000000000 by omega)]
    · intro k w hw
      show bcfour_Decode_l0S F (bcfour_Decode_l0 F k) T w (ramp7 (b.getD 0 0) (b.getD 1 0)) (fourW b) 16 = _
      unfold bcfour_Decode_l0S
      simp
  unfold bcfour_Decode
  rw [Parts7_is hF hb hl]
  simp only [Option.bind_some, and_self, if_true, bne_self_eq_false, cond_false, Ramp_is hF (hb.getD 0) (hb.getD 1), loop]

theorem rDecode7_is {F : Nat} (hF : 66 ≤ F) {b : List Int} (hb : Bytes b) (hl : b.length = 8) : ref07_Decode F b = some (fourD b, (0, ())) := by
  have loop : ∀ T : List Int, ref07_Decode_l0 F F T (fourW b) (ramp7 (b.getD 0 0) (b.getD 1 0)) 0 = some (T, (fourD b, ())) := by
    intro T
    refine fill_loop' 16 (fun i => (ramp7 (b.getD 0 0) (b.getD 1 0)).getD ((fourW b).getD i 0).toNat 0) (fourW b) (fun k w i => ref07_Decode_l0 F k T w (ramp7 (b.getD 0 0) (b.getD 1 0)) i) (fun w => some (T, (w, ()))) ?_ ?_ (fourW_len b) F (by omega)
    · intro k i w hi hw hwj
      show ref07_Decode_l0S F (ref07_Decode_l0 F k) T w (ramp7 (b.getD 0 0) (b.getD 1 0)) i = _
      unfold ref07_Decode_l0S
      have h1 : (i : Int) < 16 := by omega
      have h2 := fourW_ok b i hi
      have h3 : (fourW b).getD i 0 < 8 := by omega
      simp only [h1, decide_true, cond_true, Int.natCast_nonneg, Bool.and_self, Int.toNat_natCast, hwj i (Nat.le_refl _), h2.1, h3, nextI (show i < 1000000000000 by omega)]
    · intro k w hw
      show ref07_Decode_l0S F (ref07_Decode_l0 F k) T w (ramp7 (b.getD 0 0) (b.getD 1 0)) 16 = _
      unfold ref07_Decode_l0S
      simp
  unfold ref07_Decode
  rw [rParts7_is hF hb hl]
  simp only [Option.bind_some, and_self, if_true, bne_self_eq_false, cond_false, rRamp_is hF (hb.getD 0) (hb.getD 1), loop]

/-! ### Fours -/

def fours (b : List Int) : List Int := (List.range 16).map fun i => wideV 4 (lv b (4 * i) 4)
def nibs (b : List Int) : List Int := (List.range 16).map fun i => lv b (4 * i) 4

theorem Fours_is {F : Nat} (hF : 66 ≤ F) {b : List Int} (hb : Bytes b) (hl : b.length = 8) : bcfour_Fours F b = some (fours b, (0, ())) := by
  have h := Lows_lv hF hb (by omega) (a := 0) (n := 4) (m := 16) (by decide) (by decide) (by omega)
  have e : ((List.range 16).map fun i => lv b (0 + i * 4) 4) = nibs b := by
    unfold nibs
    refine List.map_congr_left fun i _ => ?_
    rw [Nat.mul_comm, Nat.zero_add]
  rw [e] at h
  simp only [Int.cast_ofNat_Int, Int.natCast_zero] at h
  have hnl : (nibs b).length = 16 := by simp [nibs]
  have loop : ∀ T : List Int, bcfour_Fours_l0 F F T bcfour_DecodeT229 (nibs b) 0 = some (T, (fours b, ())) := by
    intro T
    refine fill_loop 16 (fun i => wideV 4 (lv b (4 * i) 4)) (fun k w i => bcfour_Fours_l0 F k T w (nibs b) i) (fun w => some (T, (w, ()))) ?_ ?_ _ rfl F (by omega)
    · intro k i w hi hw
      show bcfour_Fours_l0S F (bcfour_Fours_l0 F k) T w (nibs b) i = _
      unfold bcfour_Fours_l0S
      have h1 : (i : Int) < 16 := by omega
      have g : (nibs b).getD i 0 = lv b (4 * i) 4 := getD_range_map _ hi
      have wd := Wide_is (F := F) (by omega) (b := 4) (by decide) (lv b (4 * i) 4)
      simp only [Int.cast_ofNat_Int] at wd
      simp only [h1, decide_true, cond_true, hnl, Int.natCast_nonneg, Int.cast_ofNat_Int, Bool.and_self, Int.toNat_natCast, g, wd, Option.bind_some, nextI (show i < 1000000000000 by omega)]
    · intro k w hw
      show bcfour_Fours_l0S F (bcfour_Fours_l0 F k) T w (nibs b) 16 = _
      unfold bcfour_Fours_l0S
      simp
  unfold bcfour_Fours
  simp [hl, h, loop]

theorem rFours_is {F : Nat} (hF : 66 ≤ F) {b : List Int} (hb : Bytes b) (hl : b.length = 8) : ref07_Fours F b = some (fours b, (0, ())) := by
  have loop : ∀ T : List Int, ref07_Fours_l0 F F b T bcfour_DecodeT229 0 = some (T, (fours b, ())) := by
    intro T
    refine fill_loop 16 (fun i => wideV 4 (lv b (4 * i) 4)) (fun k w i => ref07_Fours_l0 F k b T w i) (fun w => some (T, (w, ()))) ?_ ?_ _ rfl F (by omega)
    · intro k i w hi hw
      show ref07_Fours_l0S F (ref07_Fours_l0 F k) b T w i = _
      unfold ref07_Fours_l0S
      have h1 : (i : Int) < 16 := by omega
      have hb4 := lv_bound b (4 * i) 4
      have e := Field_is hF hb (by omega) (a := 4 * i) (n := 4) (by decide) (by omega)
      have e1 : IntKind.wrap .i64 (4 * (i : Int)) = ((4 * i : Nat) : Int) := by rw [w64 (by omega) (by omega)]; omega
      have wd := rWide_is (F := F) (by omega) (b := 4) (by decide) (x := lv b (4 * i) 4) (by omega)
      simp only [Int.cast_ofNat_Int] at wd e
      simp only [h1, decide_true, cond_true, e1, e, wd, Option.bind_some, Int.natCast_nonneg, Bool.and_self, Int.toNat_natCast, nextI (show i < 1000000000000 by omega)]
    · intro k w hw
      show ref07_Fours_l0S F (ref07_Fours_l0 F k) b T w 16 = _
      unfold ref07_Fours_l0S
      simp
  unfold ref07_Fours
  simp [hl, loop]

/-! ### Join -/

def zeros8 : List Int := [0, 0, 0, 0, 0, 0, 0, 0]
theorem zeros8_bytes : Bytes zeros8 := fun x hx => by simp [zeros8] at hx; omega

def okW (each : Nat) (w : List Int) (j : Nat) : Prop := 0 ≤ w.getD j 0 ∧ w.getD j 0 < 2 ^ each

theorem joined_step {F : Nat} {low : Int} {from_ each : Nat} {w : List Int} (hl : 0 ≤ low ∧ low < 2 ^ from_) (he : 1 ≤ each ∧ each ≤ 8) (hfe : from_ + each * 16 ≤ 64) {i : Nat} (hi : i < 16) (hw : ∀ j, j < i → okW each w j) (hi64 : ∀ j, -9223372036854775808 ≤ w.getD j 0 ∧ w.getD j 0 ≤ 9223372036854775807) (k : Nat) :
    bcfour_joined_l0 F (k + 1) (packN low from_ each w i) from_ each w i = if 0 ≤ w.getD i 0 ∧ w.getD i 0 < 2 ^ each then bcfour_joined_l0 F k (packN low from_ each w (i + 1)) from_ each w ((i + 1 : Nat) : Int) else some (.inl ()) := by
  show bcfour_joined_l0S F (bcfour_joined_l0 F k) (packN low from_ each w i) from_ each w i = _
  unfold bcfour_joined_l0S
  have h1 : (i : Int) < 16 := by omega
  have h2 : each * i ≤ each * 16 := Nat.mul_le_mul_left _ (by omega)
  have h3 : each * (i + 1) ≤ each * 16 := Nat.mul_le_mul_left _ (by omega)
  rw [Nat.mul_succ] at h3
  have hsh := ishl_one (b := each) (by omega)
  simp only [h1, decide_true, cond_true, Int.natCast_nonneg, Bool.and_self, Int.toNat_natCast, hsh]
  by_cases hc : 0 ≤ w.getD i 0 ∧ w.getD i 0 < 2 ^ each
  · rw [if_pos hc]
    have c1 : ¬ w.getD i 0 < 0 := by omega
    have c2 : ¬ 2 ^ each ≤ w.getD i 0 := by omega
    have ep : (2 : Int) ^ each ≤ 2 ^ 8 := ipow_le he.2
    have e1 : IntKind.wrap .i64 ((from_ : Int) + IntKind.wrap .i64 ((each : Int) * (i : Int))) = ((from_ + each * i : Nat) : Int) := by
      have e : ((each : Int) * (i : Int)) = ((each * i : Nat) : Int) := by simp
      rw [e, w64 (x := ((each * i : Nat) : Int)) (by omega) (by omega), w64 (by omega) (by omega)]
      omega
    have e2 : IntKind.wrap .u64 (w.getD i 0) = w.getD i 0 := wu64 hc.1 (by omega)
    have hb := packN_bound hl (m := i) hw i (Nat.le_refl _)
    have e3 := ior_field (x := packN low from_ each w i) (v := w.getD i 0) (m := from_ + each * i) (k := each) hb hc (by omega) (by omega)
    simp only [c1, c2, decide_false, cond_false, e1, e2, e3, Int.natCast_nonneg, decide_true, cond_true, nextI (show i < 1000000000000 by omega)]
    rfl
  · rw [if_neg hc]
    by_cases c1 : w.getD i 0 < 0
    · simp only [c1, decide_true, cond_true]
    · have c2 : 2 ^ each ≤ w.getD i 0 := by
        apply Classical.byContradiction
        intro h
        exact hc ⟨by omega, by omega⟩
      simp only [c1, c2, decide_false, cond_false, decide_true, cond_true]

theorem joined_ok {F : Nat} {low : Int} {from_ each : Nat} {w : List Int} (hl : 0 ≤ low ∧ low < 2 ^ from_) (he : 1 ≤ each ∧ each ≤ 8) (hfe : from_ + each * 16 ≤ 64) (hw : ∀ j, j < 16 → okW each w j) (hi64 : ∀ j, -9223372036854775808 ≤ w.getD j 0 ∧ w.getD j 0 ≤ 9223372036854775807) : ∀ (k i : Nat), i ≤ 16 → 16 - i < k →
    bcfour_joined_l0 F k (packN low from_ each w i) from_ each w i = some (.inr (packN low from_ each w 16, ()))
  | 0, i, _, h => by omega
  | k + 1, i, hi, hk => by
    by_cases h : i < 16
    · rw [joined_step hl he hfe h (fun j hj => hw j (by omega)) hi64, if_pos (show 0 ≤ w.getD i 0 ∧ w.getD i 0 < 2 ^ each from hw i h)]
      exact joined_ok hl he hfe hw hi64 k (i + 1) (by omega) (by omega)
    · have : i = 16 := by omega
      subst this
      show bcfour_joined_l0S F (bcfour_joined_l0 F k) (packN low from_ each w 16) from_ each w 16 = _
      unfold bcfour_joined_l0S
      simp

theorem joined_bad {F : Nat} {low : Int} {from_ each : Nat} {w : List Int} (hl : 0 ≤ low ∧ low < 2 ^ from_) (he : 1 ≤ each ∧ each ≤ 8) (hfe : from_ + each * 16 ≤ 64) {m : Nat} (hm : m < 16) (hw : ∀ j, j < m → okW each w j) (hb : ¬ okW each w m) (hi64 : ∀ j, -9223372036854775808 ≤ w.getD j 0 ∧ w.getD j 0 ≤ 9223372036854775807) : ∀ (k i : Nat), i ≤ m → m - i < k →
    bcfour_joined_l0 F k (packN low from_ each w i) from_ each w i = some (.inl ())
  | 0, i, _, h => by omega
  | k + 1, i, hi, hk => by
    rw [joined_step hl he hfe (by omega) (fun j hj => hw j (by omega)) hi64]
    by_cases h : i < m
    · rw [if_pos (show 0 ≤ w.getD i 0 ∧ w.getD i 0 < 2 ^ each from hw i h)]
      exact joined_bad hl he hfe hm hw hb hi64 k (i + 1) (by omega) (by omega)
    · have : i = m := by omega
      subst this
      exact if_neg (show ¬ (0 ≤ w.getD i 0 ∧ w.getD i 0 < 2 ^ each) from hb)

/-- All fit, or there is a first one that does not. -/
theorem firstBad (each : Nat) (w : List Int) : (∀ j, j < 16 → okW each w j) ∨ ∃ m, m < 16 ∧ (∀ j, j < m → okW each w j) ∧ ¬ okW each w m := by
  have key : ∀ n, (∀ j, j < n → okW each w j) ∨ ∃ m, m < n ∧ (∀ j, j < m → okW each w j) ∧ ¬ okW each w m := by
    intro n
    induction n with
    | zero => exact .inl fun j hj => by omega
    | succ n ih =>
      rcases ih with ih | ⟨m, h1, h2⟩
      · by_cases h : okW each w n
        · refine .inl fun j hj => ?_
          rcases Nat.lt_or_ge j n with h' | h'
          · exact ih j h'
          · have : j = n := by omega
            subst this
            exact h
        · exact .inr ⟨n, by omega, ih, h⟩
      · exact .inr ⟨m, by omega, h2⟩
  exact key 16

def packed (low : Int) (from_ each : Nat) (w : List Int) : List Int := lset zeros8 0 64 (packN low from_ each w 16)

theorem joined_is {F : Nat} (hF : 66 ≤ F) {low : Int} {from_ each : Nat} {w : List Int} (hl : 0 ≤ low ∧ low < 2 ^ from_) (he : 1 ≤ each ∧ each ≤ 8) (hfe : from_ + each * 16 ≤ 64) (hi64 : ∀ j, -9223372036854775808 ≤ w.getD j 0 ∧ w.getD j 0 ≤ 9223372036854775807) :
    ((∀ j, j < 16 → okW each w j) → bcfour_joined F low from_ each w = some (packed low from_ each w, (0, ()))) ∧ ((∃ m, m < 16 ∧ (∀ j, j < m → okW each w j) ∧ ¬ okW each w m) → bcfour_joined F low from_ each w = some ([], (1, ()))) := by
  constructor
  · intro hw
    have e := joined_ok (F := F) hl he hfe hw hi64 F 0 (by decide) (by omega)
    rw [show packN low from_ each w 0 = low from rfl, Int.natCast_zero] at e
    have hb := packN_bound hl (m := 16) hw 16 (Nat.le_refl _)
    have h64 : (2 : Int) ^ (from_ + each * 16) ≤ 2 ^ 64 := ipow_le hfe
    have es := SetLow_ok hF (b := zeros8) zeros8_bytes (by decide) (a := 0) (n := 64) (v := packN low from_ each w 16) (by decide) (by decide) ⟨hb.1, by omega⟩
    simp only [Int.natCast_zero, Int.cast_ofNat_Int] at es
    unfold bcfour_joined
    simp only [and_self, if_true, e, Option.bind_some]
    have ez : bcfour_joinedT53 = zeros8 := rfl
    simp only [ez, es, Option.bind_some, packed]
  · rintro ⟨m, hm, hw, hbad⟩
    have e := joined_bad (F := F) hl he hfe hm hw hbad hi64 F 0 (by omega) (by omega)
    rw [show packN low from_ each w 0 = low from rfl, Int.natCast_zero] at e
    unfold bcfour_joined
    simp only [and_self, if_true, e, Option.bind_some]

theorem packed_len (low : Int) (from_ each : Nat) (w : List Int) : (packed low from_ each w).length = 8 := by unfold packed; rw [lset_len]; rfl
theorem packed_bytes (low : Int) (from_ each : Nat) (w : List Int) : Bytes (packed low from_ each w) := lset_bytes zeros8_bytes _ _ _
theorem packed_bit {low : Int} {from_ each : Nat} {w : List Int} (hl : 0 ≤ low ∧ low < 2 ^ from_) (he : 1 ≤ each) (hfe : from_ + each * 16 = 64) (hw : ∀ j, j < 16 → okW each w j) {q : Nat} (hq : q < 64) :
    lowBit (packed low from_ each w) q = if q < from_ then low / 2 ^ q % 2 else w.getD ((q - from_) / each) 0 / 2 ^ ((q - from_) % each) % 2 := by
  unfold packed
  rw [lset_bit zeros8_bytes (by decide), if_pos ⟨by omega, by omega⟩, Nat.sub_zero]
  exact packN_digit hl he hw 16 (Nat.le_refl _) q (by omega)

/-! the document's way -/

def fourAt (from_ each : Nat) (i : Nat) : Nat := from_ + each * i

theorem rJoin_step {F : Nat} (hF : 66 ≤ F) {c : List Int} (hc : Bytes c) (hl : c.length = 8) {w : List Int} {i : Nat} (hi : i < 16) (k : Nat) (hi64 : ∀ j, -9223372036854775808 ≤ w.getD j 0 ∧ w.getD j 0 ≤ 9223372036854775807) :
    ref07_Join_l0 F (k + 1) w c i = if 0 ≤ w.getD i 0 ∧ w.getD i 0 < 2 ^ 3 then ref07_Join_l0 F k w (lset c (fourAt 16 3 i) 3 (w.getD i 0)) ((i + 1 : Nat) : Int) else some (.inl ()) := by
  show ref07_Join_l0S F (ref07_Join_l0 F k) w c i = _
  unfold ref07_Join_l0S
  have h1 : (i : Int) < 16 := by omega
  simp only [h1, decide_true, cond_true, Int.natCast_nonneg, Bool.and_self, Int.toNat_natCast]
  by_cases hc' : 0 ≤ w.getD i 0 ∧ w.getD i 0 < 2 ^ 3
  · rw [if_pos hc']
    have c1 : ¬ w.getD i 0 < 0 := by omega
    have c2 : ¬ 7 < w.getD i 0 := by omega
    have e1 : IntKind.wrap .i64 (16 + IntKind.wrap .i64 (3 * (i : Int))) = ((fourAt 16 3 i : Nat) : Int) := by
      rw [w64 (x := 3 * (i : Int)) (by omega) (by omega), w64 (by omega) (by omega)]
      unfold fourAt
      omega
    have e2 : IntKind.wrap .u64 (w.getD i 0) = w.getD i 0 := wu64 hc'.1 (by omega)
    have es := Set_ok hF hc (by omega) (a := fourAt 16 3 i) (n := 3) (by decide) (by unfold fourAt; omega) hc'
    simp only [Int.cast_ofNat_Int] at es
    simp only [c1, c2, decide_false, cond_false, e1, e2, es, Option.bind_some, nextI (show i < 1000000000000 by omega)]
  · rw [if_neg hc']
    by_cases c1 : w.getD i 0 < 0
    · simp only [c1, decide_true, cond_true]
    · have c2 : 7 < w.getD i 0 := by omega
      simp only [c1, c2, decide_false, cond_false, decide_true, cond_true]

theorem rFoursJ_step {F : Nat} (hF : 66 ≤ F) {c : List Int} (hc : Bytes c) (hl : c.length = 8) {w : List Int} {i : Nat} (hi : i < 16) (k : Nat) (hi64 : ∀ j, -9223372036854775808 ≤ w.getD j 0 ∧ w.getD j 0 ≤ 9223372036854775807) :
    ref07_JoinFours_l0 F (k + 1) w c i = if 0 ≤ w.getD i 0 ∧ w.getD i 0 < 2 ^ 4 then ref07_JoinFours_l0 F k w (lset c (fourAt 0 4 i) 4 (w.getD i 0)) ((i + 1 : Nat) : Int) else some (.inl ()) := by
  show ref07_JoinFours_l0S F (ref07_JoinFours_l0 F k) w c i = _
  unfold ref07_JoinFours_l0S
  have h1 : (i : Int) < 16 := by omega
  simp only [h1, decide_true, cond_true, Int.natCast_nonneg, Bool.and_self, Int.toNat_natCast]
  by_cases hc' : 0 ≤ w.getD i 0 ∧ w.getD i 0 < 2 ^ 4
  · rw [if_pos hc']
    have c1 : ¬ w.getD i 0 < 0 := by omega
    have c2 : ¬ 15 < w.getD i 0 := by omega
    have e1 : IntKind.wrap .i64 (4 * (i : Int)) = ((fourAt 0 4 i : Nat) : Int) := by
      rw [w64 (by omega) (by omega)]
      unfold fourAt
      omega
    have e2 : IntKind.wrap .u64 (w.getD i 0) = w.getD i 0 := wu64 hc'.1 (by omega)
    have es := Set_ok hF hc (by omega) (a := fourAt 0 4 i) (n := 4) (by decide) (by unfold fourAt; omega) hc'
    simp only [Int.cast_ofNat_Int] at es
    simp only [c1, c2, decide_false, cond_false, e1, e2, es, Option.bind_some, nextI (show i < 1000000000000 by omega)]
  · rw [if_neg hc']
    by_cases c1 : w.getD i 0 < 0
    · simp only [c1, decide_true, cond_true]
    · have c2 : 15 < w.getD i 0 := by omega
      simp only [c1, c2, decide_false, cond_false, decide_true, cond_true]

/-- Loops that set such fields. -/
theorem setLoop {from_ each : Nat} (hfe : from_ + each * 16 ≤ 64) {w c0 : List Int} (hc0 : Bytes c0) (hl0 : c0.length = 8) (L : Nat → List Int → List Int → Int → Option (Unit ⊕ (List Int × Unit)))
    (step : ∀ (c : List Int), Bytes c → c.length = 8 → ∀ (i : Nat), i < 16 → ∀ k, L (k + 1) w c i = if 0 ≤ w.getD i 0 ∧ w.getD i 0 < 2 ^ each then L k w (lset c (fourAt from_ each i) each (w.getD i 0)) ((i + 1 : Nat) : Int) else some (.inl ()))
    (stop : ∀ c k, L (k + 1) w c 16 = some (.inr (c, ()))) {F : Nat} (hF : 16 < F) :
    ((∀ j, j < 16 → okW each w j) → L F w c0 0 = some (.inr (llaid (fourAt from_ each) (fun _ => each) (fun i => w.getD i 0) c0 16, ()))) ∧
    ((∃ m, m < 16 ∧ (∀ j, j < m → okW each w j) ∧ ¬ okW each w m) → L F w c0 0 = some (.inl ())) := by
  have lb := fun i => llaid_bytes (fourAt from_ each) (fun _ => each) (fun i => w.getD i 0) hc0 i
  have ll := fun i => llaid_len (fourAt from_ each) (fun _ => each) (fun i => w.getD i 0) c0 i
  constructor
  · intro hw
    have key : ∀ (m i k : Nat), 16 - i = m → i ≤ 16 → m < k → L k w (llaid (fourAt from_ each) (fun _ => each) (fun i => w.getD i 0) c0 i) i = some (.inr (llaid (fourAt from_ each) (fun _ => each) (fun i => w.getD i 0) c0 16, ())) := by
      intro m
      induction m with
      | zero =>
        intro i k h1 h2 h3
        obtain ⟨k, rfl⟩ : ∃ k', k = k' + 1 := ⟨k - 1, by omega⟩
        have : i = 16 := by omega
        subst this
        exact stop _ _
      | succ m ih =>
        intro i k h1 h2 h3
        obtain ⟨k, rfl⟩ : ∃ k', k = k' + 1 := ⟨k - 1, by omega⟩
        rw [step _ (lb i) (by rw [ll, hl0]) i (by omega), if_pos (show 0 ≤ w.getD i 0 ∧ w.getD i 0 < 2 ^ each from hw i (by omega))]
        exact ih (i + 1) k (by omega) (by omega) (by omega)
    exact key 16 0 F (by omega) (by omega) hF
  · rintro ⟨n, hn, hw, hbad⟩
    have key : ∀ (m i k : Nat), n - i = m → i ≤ n → m < k → L k w (llaid (fourAt from_ each) (fun _ => each) (fun i => w.getD i 0) c0 i) i = some (.inl ()) := by
      intro m
      induction m with
      | zero =>
        intro i k h1 h2 h3
        obtain ⟨k, rfl⟩ : ∃ k', k = k' + 1 := ⟨k - 1, by omega⟩
        have : i = n := by omega
        subst this
        rw [step _ (lb i) (by rw [ll, hl0]) i (by omega), if_neg (show ¬ (0 ≤ w.getD i 0 ∧ w.getD i 0 < 2 ^ each) from hbad)]
      | succ m ih =>
        intro i k h1 h2 h3
        obtain ⟨k, rfl⟩ : ∃ k', k = k' + 1 := ⟨k - 1, by omega⟩
        rw [step _ (lb i) (by rw [ll, hl0]) i (by omega), if_pos (show 0 ≤ w.getD i 0 ∧ w.getD i 0 < 2 ^ each from hw i (by omega))]
        exact ih (i + 1) k (by omega) (by omega) (by omega)
    exact key n 0 F (by omega) (by omega) (by omega)

/-- The block of fields is the block of the number. -/
theorem packed_llaid {low : Int} {from_ each : Nat} {w c0 : List Int} (hl : 0 ≤ low ∧ low < 2 ^ from_) (he : 1 ≤ each) (hfe : from_ + each * 16 = 64) (hw : ∀ j, j < 16 → okW each w j) (hc0 : Bytes c0) (hl0 : c0.length = 8) (hc : ∀ q, q < from_ → lowBit c0 q = low / 2 ^ q % 2) :
    llaid (fourAt from_ each) (fun _ => each) (fun i => w.getD i 0) c0 16 = packed low from_ each w := by
  have hr : ∀ i, i < 16 → fourAt from_ each i + each ≤ 8 * c0.length := by
    intro i hi
    have : each * (i + 1) ≤ each * 16 := Nat.mul_le_mul_left _ (by omega)
    rw [Nat.mul_succ] at this
    unfold fourAt
    omega
  have hd : ∀ i j, i < 16 → j < 16 → i ≠ j → fourAt from_ each i + each ≤ fourAt from_ each j ∨ fourAt from_ each j + each ≤ fourAt from_ each i := by
    intro i j hi hj hne
    unfold fourAt
    rcases Nat.lt_or_ge i j with h | h
    · left
      have : each * (i + 1) ≤ each * j := Nat.mul_le_mul_left _ h
      rw [Nat.mul_succ] at this
      omega
    · right
      have : each * (j + 1) ≤ each * i := Nat.mul_le_mul_left _ (by omega)
      rw [Nat.mul_succ] at this
      omega
  refine bytes_ext_low (llaid_bytes _ _ _ hc0 16) (packed_bytes _ _ _ _) (by rw [llaid_len, packed_len, hl0]) fun q hq => ?_
  rw [llaid_len, hl0] at hq
  rw [packed_bit hl he hfe hw (by omega)]
  by_cases h : q < from_
  · rw [if_pos h, llaid_out hc0 hr (fun i hi hh => by unfold fourAt at hh; omega) 16 (Nat.le_refl _), hc q h]
  · rw [if_neg h]
    have hdm := Nat.div_add_mod (q - from_) each
    have hml := Nat.mod_lt (q - from_) (show each > 0 by omega)
    have hj : (q - from_) / each < 16 := by
      rw [Nat.div_lt_iff_lt_mul (by omega), Nat.mul_comm]
      omega
    have e := llaid_bit (A := fourAt from_ each) (N := fun _ => each) (V := fun i => w.getD i 0) hc0 (m := 16) hr hd hj (q := q) (by unfold fourAt; omega) (by unfold fourAt; omega) 16 hj (Nat.le_refl _)
    rw [e]
    congr 3
    unfold fourAt
    omega

theorem lowTwo {a b : Int} (ha : 0 ≤ a ∧ a ≤ 255) (hb : 0 ≤ b ∧ b ≤ 255) : ior .u64 (IntKind.wrap .u64 a) (ishl .u64 (IntKind.wrap .u64 b) 8) = a + b * 2 ^ 8 ∧ 0 ≤ a + b * 2 ^ 8 ∧ a + b * 2 ^ 8 < 2 ^ 16 ∧ ∀ q, q < 16 → lowBit [a, b, 0, 0, 0, 0, 0, 0] q = (a + b * 2 ^ 8) / 2 ^ q % 2 := by
  have e := ior_field (x := a) (v := b) (m := 8) (k := 8) (by omega) (by omega) (by decide) (by decide)
  rw [wu64 ha.1 (by omega), wu64 hb.1 (by omega)]
  refine ⟨by simpa using e, by omega, by omega, fun q hq => ?_⟩
  rw [digit_field (by omega)]
  unfold lowBit bitL
  split
  · rename_i h
    rw [show q / 8 = 0 by omega, show q % 8 = q by omega]
    rfl
  · rename_i h
    rw [show q / 8 = 1 by omega, show q % 8 = q - 8 by omega]
    rfl

theorem Join7_is {F : Nat} (hF : 66 ≤ F) {a b : Int} {w : List Int} (hi64 : ∀ j, -9223372036854775808 ≤ w.getD j 0 ∧ w.getD j 0 ≤ 9223372036854775807) : ∃ c e, bcfour_Join F a b w = some (c, (e, ())) ∧ ref07_Join F a b w = some (c, (e, ())) ∧ c.length ≤ 8 := by
  have bad : ∀ (x y : Int), ([] : List Int).length ≤ 8 := fun _ _ => by decide
  by_cases h1 : a < 0
  · exact ⟨[], 1, by simp [bcfour_Join, h1], by simp [ref07_Join, h1], by decide⟩
  by_cases h2 : 255 < a
  · refine ⟨[], 1, by simp [bcfour_Join, h1, h2], ?_, by decide⟩
    by_cases h3 : b < 0 <;> simp [ref07_Join, h1, h2, h3]
  by_cases h3 : b < 0
  · exact ⟨[], 1, by simp [bcfour_Join, h1, h2, h3], by simp [ref07_Join, h1, h3], by decide⟩
  by_cases h4 : 255 < b
  · exact ⟨[], 1, by simp [bcfour_Join, h1, h2, h3, h4], by simp [ref07_Join, h1, h2, h3, h4], by decide⟩
  obtain ⟨t1, t2, t3, t4⟩ := lowTwo (a := a) (b := b) (by omega) (by omega)
  obtain ⟨j1, j2⟩ := joined_is hF (low := a + b * 2 ^ 8) (from_ := 16) (each := 3) (w := w) ⟨t2, t3⟩ (by decide) (by decide) hi64
  have hcb : Bytes [a, b, 0, 0, 0, 0, 0, 0] := fun x hx => by simp at hx; omega
  obtain ⟨s1, s2⟩ := setLoop (from_ := 16) (each := 3) (by decide) (w := w) hcb rfl (fun k w c i => ref07_Join_l0 F k w c i) (fun c hc hl i hi k => rJoin_step hF hc hl hi k hi64) (fun c k => by show ref07_Join_l0S F (ref07_Join_l0 F k) w c 16 = _; unfold ref07_Join_l0S; simp) (F := F) (by omega)
  have e1 : bcfour_Join F a b w = (bcfour_joined F (a + b * 2 ^ 8) 16 3 w).bind fun r => some (r.1, (r.2.1, ())) := by
    unfold bcfour_Join
    simp only [h1, h2, h3, h4, decide_false, cond_false, and_self, if_true, t1]
  have e2 : ∀ x, ref07_Join_l0 F F w [a, b, 0, 0, 0, 0, 0, 0] 0 = some x → ref07_Join F a b w = match x with | .inl _ => some ([], (1, ())) | .inr r => some (r.1, (0, ())) := by
    intro x hx
    unfold ref07_Join
    simp only [h1, h2, h3, h4, decide_false, cond_false]
    rw [wu8 (x := a) (by omega) (by omega), wu8 (x := b) (by omega) (by omega), hx]
    cases x <;> rfl
  simp only [Int.cast_ofNat_Int] at j1 j2
  rcases firstBad 3 w with hw | hw
  · refine ⟨packed (a + b * 2 ^ 8) 16 3 w, 0, by rw [e1, j1 hw, Option.bind_some], ?_, by rw [packed_len]; decide⟩
    rw [e2 _ (s1 hw), packed_llaid ⟨t2, t3⟩ (by decide) (by decide) hw hcb rfl t4]
  · exact ⟨[], 1, by rw [e1, j2 hw, Option.bind_some], by rw [e2 _ (s2 hw)], by decide⟩

theorem JoinFours_is {F : Nat} (hF : 66 ≤ F) {w : List Int} (hi64 : ∀ j, -9223372036854775808 ≤ w.getD j 0 ∧ w.getD j 0 ≤ 9223372036854775807) : ∃ c e, bcfour_JoinFours F w = some (c, (e, ())) ∧ ref07_JoinFours F w = some (c, (e, ())) ∧ c.length ≤ 8 := by
  obtain ⟨j1, j2⟩ := joined_is hF (low := 0) (from_ := 0) (each := 4) (w := w) (by decide) (by decide) (by decide) hi64
  obtain ⟨s1, s2⟩ := setLoop (from_ := 0) (each := 4) (by decide) (w := w) zeros8_bytes rfl (fun k w c i => ref07_JoinFours_l0 F k w c i) (fun c hc hl i hi k => rFoursJ_step hF hc hl hi k hi64) (fun c k => by show ref07_JoinFours_l0S F (ref07_JoinFours_l0 F k) w c 16 = _; unfold ref07_JoinFours_l0S; simp) (F := F) (by omega)
  have e1 : bcfour_JoinFours F w = (bcfour_joined F 0 0 4 w).bind fun r => some (r.1, (r.2.1, ())) := by
    unfold bcfour_JoinFours
    simp only [and_self, if_true]
  have e2 : ∀ x, ref07_JoinFours_l0 F F w zeros8 0 = some x → ref07_JoinFours F w = match x with | .inl _ => some ([], (1, ())) | .inr r => some (r.1, (0, ())) := by
    intro x hx
    unfold ref07_JoinFours
    rw [show bcfour_joinedT53 = zeros8 from rfl, hx]
    cases x <;> rfl
  simp only [Int.cast_ofNat_Int, Int.natCast_zero] at j1 j2
  rcases firstBad 4 w with hw | hw
  · refine ⟨packed 0 0 4 w, 0, by rw [e1, j1 hw, Option.bind_some], ?_, by rw [packed_len]; decide⟩
    rw [e2 _ (s1 hw), packed_llaid (low := 0) (by decide) (by decide) (by decide) hw zeros8_bytes rfl (fun q hq => by omega)]
  · exact ⟨[], 1, by rw [e1, j2 hw, Option.bind_some], by rw [e2 _ (s2 hw)], by decide⟩

theorem awake07 : law07_awake 600 = some (true, ()) := by kernel_rfl

/-! ### the laws -/

theorem Tells07_l0 {F : Nat} (l : List Int) (up : Bool) (w0 : List Int) (h0 : w0.length = 16) (hF : 16 < F) : law07_BcfourTells_l0 F F l up w0 0 = some (l, (up, ((List.range 16).map (fun i => l.getD (i + 2) 0), ()))) := by
  refine fill_loop 16 (fun i => l.getD (i + 2) 0) (fun k w i => law07_BcfourTells_l0 F k l up w i) (fun w => some (l, (up, (w, ())))) ?_ ?_ _ h0 F hF
  · intro k i w hi hw
    show law07_BcfourTells_l0S F (law07_BcfourTells_l0 F k) l up w i = _
    unfold law07_BcfourTells_l0S
    have h1 : (i : Int) < 16 := by omega
    have e2 : IntKind.wrap .i64 ((i : Int) + 2) = ((i + 2 : Nat) : Int) := by rw [w64 (by omega) (by omega)]; omega
    have h2 : ((i + 2 : Nat) : Int) < 18 := by omega
    simp only [h1, decide_true, cond_true, e2, h2, Int.natCast_nonneg, Bool.and_self, Int.toNat_natCast, nextI (show i < 1000000000000 by omega)]
  · intro k w hw
    show law07_BcfourTells_l0S F (law07_BcfourTells_l0 F k) l up w 16 = _
    unfold law07_BcfourTells_l0S
    simp

theorem getD_i64 {l : List Int} (h : ∀ x ∈ l, -9223372036854775808 ≤ x ∧ x ≤ 9223372036854775807) (j : Nat) : -9223372036854775808 ≤ l.getD j 0 ∧ l.getD j 0 ≤ 9223372036854775807 := by
  rw [List.getD_eq_getElem?_getD]
  by_cases hi : j < l.length
  · rw [List.getElem?_eq_getElem hi]
    exact h _ (List.getElem_mem hi)
  · rw [List.getElem?_eq_none (by omega)]
    simp

theorem law07_BcfourTells_true (b l : List Int) (hb' : ∀ x ∈ b, IntKind.u8.has x) (hl' : l.length = 18 ∧ ∀ x ∈ l, IntKind.i64.has x) : ∃ F, law07_BcfourTells F b l = some (true, ()) := by
  have hb := bytes_of hb'
  have hl64 := i64s_of hl'
  refine ⟨600, ?_⟩
  unfold law07_BcfourTells
  rw [awake07]
  simp only [Option.bind_some]
  by_cases h40 : (40 : Int) < (b.length : Int)
  · simp [h40]
  -- the block's side
  have blk : ∃ x y w e t f v g, bcfour_Parts 600 b = some (x, (y, (w, (e, ())))) ∧ ref07_Parts 600 b = some (x, (y, (w, (e, ())))) ∧ bcfour_Decode 600 b = some (t, (f, ())) ∧ ref07_Decode 600 b = some (t, (f, ())) ∧ bcfour_Fours 600 b = some (v, (g, ())) ∧ ref07_Fours 600 b = some (v, (g, ())) := by
    by_cases hl : b.length = 8
    · exact ⟨_, _, _, _, _, _, _, _, Parts7_is (by decide) hb hl, rParts7_is (by decide) hb hl, Decode7_is (by decide) hb hl, rDecode7_is (by decide) hb hl, Fours_is (by decide) hb hl, rFours_is (by decide) hb hl⟩
    · have e : ((b.length : Int) != 8) = true := bneT (by omega)
      have p1 : bcfour_Parts 600 b = some (0, (0, (bcfour_DecodeT229, (1, ())))) := by unfold bcfour_Parts; simp [e]
      have p2 : ref07_Parts 600 b = some (0, (0, (bcfour_DecodeT229, (1, ())))) := by unfold ref07_Parts; simp [e]
      have p3 : bcfour_Fours 600 b = some (bcfour_DecodeT229, (1, ())) := by unfold bcfour_Fours; simp [e]
      have p4 : ref07_Fours 600 b = some (bcfour_DecodeT229, (1, ())) := by unfold ref07_Fours; simp [e]
      have p5 : bcfour_Decode 600 b = some (bcfour_DecodeT229, (1, ())) := by unfold bcfour_Decode; rw [p1]; rfl
      have p6 : ref07_Decode 600 b = some (bcfour_DecodeT229, (1, ())) := by unfold ref07_Decode; rw [p2]; rfl
      exact ⟨_, _, _, _, _, _, _, _, p1, p2, p5, p6, p3, p4⟩
  obtain ⟨x, y, w, e, t, f, v, g, b1, b2, b3, b4, b5, b6⟩ := blk
  simp only [h40, decide_false, cond_false, b1, b2, b3, b4, b5, b6, Option.bind_some, bne_self_eq_false, beq_self_eq_true, Bool.not_true, Tells07_l0 l true bcfour_DecodeT229 rfl (show 16 < 600 by decide), and_self, if_true]
  have hk64 : ∀ j, -9223372036854775808 ≤ ((List.range 16).map (fun i => l.getD (i + 2) 0)).getD j 0 ∧ ((List.range 16).map (fun i => l.getD (i + 2) 0)).getD j 0 ≤ 9223372036854775807 := by
    refine getD_i64 fun x hx => ?_
    obtain ⟨i, _, rfl⟩ := List.mem_map.1 hx
    exact getD_i64 hl64 _
  obtain ⟨c, e1, c1, c2, c3⟩ := Join7_is (F := 600) (by decide) (a := l.getD 0 0) (b := l.getD 1 0) hk64
  obtain ⟨d, e2, d1, d2, d3⟩ := JoinFours_is (F := 600) (by decide) hk64
  simp only [c1, c2, d1, d2, Option.bind_some, Same_is c (show c.length < 600 by omega) (by decide), Same_is d (show d.length < 600 by omega) (by decide), beq_self_eq_true, cond_true]
  by_cases h1 : l.getD 0 0 < 0
  · simp only [h1, decide_true, decide_false, cond_true, cond_false]
  by_cases h2 : l.getD 1 0 < 0
  · simp only [h1, h2, decide_true, decide_false, cond_true, cond_false]
  by_cases h3 : 255 < l.getD 0 0
  · simp only [h1, h2, h3, decide_true, decide_false, cond_true, cond_false]
  by_cases h4 : 255 < l.getD 1 0
  · simp only [h1, h2, h3, h4, decide_true, decide_false, cond_true, cond_false]
  simp only [h1, h2, h3, h4, decide_false, cond_false, Ramp_is (F := 600) (by decide) (a := l.getD 0 0) (b := l.getD 1 0) (by omega) (by omega), rRamp_is (F := 600) (by decide) (a := l.getD 0 0) (b := l.getD 1 0) (by omega) (by omega), Option.bind_some, beq_self_eq_true]

/-! a ramp -/

def rampOk (a b : Int) (r : List Int) (was : Int) (i : Nat) : Prop :=
  (b < a → r.getD i 0 ≤ was) ∧ (a ≤ b → was ≤ r.getD i 0) ∧ min a b ≤ r.getD i 0 ∧ r.getD i 0 ≤ max a b

theorem RampL_step {F : Nat} {a b : Int} (up : Bool) (r : List Int) (last was : Int) {i : Nat} (hi : i < 8) (hl : (i : Int) ≤ last) (h : rampOk a b r was i) (k : Nat) :
    law07_BcfourRamp_l0 F (k + 1) a b up r last was i = law07_BcfourRamp_l0 F k a b up r last (r.getD i 0) ((i + 1 : Nat) : Int) := by
  show law07_BcfourRamp_l0S F (law07_BcfourRamp_l0 F k) a b up r last was i = _
  unfold law07_BcfourRamp_l0S
  obtain ⟨h1, h2, h3, h4⟩ := h
  have c1 : (i : Int) < 8 := by omega
  have c3 : ¬ r.getD i 0 < min a b := by omega
  have c4 : ¬ max a b < r.getD i 0 := by omega
  by_cases hab : b < a
  · have c2 : ¬ was < r.getD i 0 := by have := h1 hab; omega
    have c5 : ¬ a ≤ b := by omega
    simp only [hl, hab, c1, c2, c3, c4, c5, decide_true, cond_true, decide_false, cond_false, Int.natCast_nonneg, Bool.and_self, Int.toNat_natCast, nextI (show i < 1000000000000 by omega)]
  · have c5 : a ≤ b := by omega
    have c2 : ¬ r.getD i 0 < was := by have := h2 c5; omega
    simp only [hl, hab, c1, c2, c3, c4, c5, decide_true, cond_true, decide_false, cond_false, Int.natCast_nonneg, Bool.and_self, Int.toNat_natCast, nextI (show i < 1000000000000 by omega)]

theorem law07_BcfourRamp_true (a b : Int) (ha' : IntKind.i64.has a) (hb' : IntKind.i64.has b) : ∃ F, law07_BcfourRamp F a b = some (true, ()) := by
  refine ⟨600, ?_⟩
  unfold law07_BcfourRamp
  rw [awake07]
  simp only [Option.bind_some]
  by_cases h1 : a < 0
  · simp [h1]
  by_cases h2 : b < 0
  · simp [h1, h2]
  by_cases h3 : 255 < a
  · simp [h1, h2, h3]
  by_cases h4 : 255 < b
  · simp [h1, h2, h3, h4]
  simp only [h1, h2, h3, h4, decide_false, cond_false, Ramp_is (F := 600) (by decide) (a := a) (b := b) (by omega) (by omega), Option.bind_some, and_self, if_true]
  by_cases hab : a ≤ b
  · rw [ramp7_lo hab]
    have s2 := RampL_step (F := 600) (a := a) (b := b) true [a, b, mixV a b 1 5 0, mixV a b 2 5 0, mixV a b 3 5 0, mixV a b 4 5 0, 0, 255] 5 a (i := 2) (by decide) (by decide) (by unfold rampOk mixV; simp; omega) 599
    have s3 := RampL_step (F := 600) (a := a) (b := b) true [a, b, mixV a b 1 5 0, mixV a b 2 5 0, mixV a b 3 5 0, mixV a b 4 5 0, 0, 255] 5 (mixV a b 1 5 0) (i := 3) (by decide) (by decide) (by unfold rampOk mixV; simp; omega) 598
    have s4 := RampL_step (F := 600) (a := a) (b := b) true [a, b, mixV a b 1 5 0, mixV a b 2 5 0, mixV a b 3 5 0, mixV a b 4 5 0, 0, 255] 5 (mixV a b 2 5 0) (i := 4) (by decide) (by decide) (by unfold rampOk mixV; simp; omega) 597
    have s5 := RampL_step (F := 600) (a := a) (b := b) true [a, b, mixV a b 1 5 0, mixV a b 2 5 0, mixV a b 3 5 0, mixV a b 4 5 0, 0, 255] 5 (mixV a b 3 5 0) (i := 5) (by decide) (by decide) (by unfold rampOk mixV; simp; omega) 596
    simp only [Int.cast_ofNat_Int, List.getD_cons_succ, List.getD_cons_zero, Nat.reduceAdd] at s2 s3 s4 s5
    simp only [hab, decide_true, cond_true, List.getD_cons_succ, List.getD_cons_zero, bne_self_eq_false, cond_false, s2, s3, s4, s5]
    have s6 : law07_BcfourRamp_l0 600 596 a b true [a, b, mixV a b 1 5 0, mixV a b 2 5 0, mixV a b 3 5 0, mixV a b 4 5 0, 0, 255] 5 (mixV a b 4 5 0) 6 = some (.inr (a, (b, (true, ([a, b, mixV a b 1 5 0, mixV a b 2 5 0, mixV a b 3 5 0, mixV a b 4 5 0, 0, 255], ()))))) := rfl
    rw [s6]
    simp
  · rw [ramp7_hi hab]
    have s2 := RampL_step (F := 600) (a := a) (b := b) true [a, b, mixV a b 1 7 0, mixV a b 2 7 0, mixV a b 3 7 0, mixV a b 4 7 0, mixV a b 5 7 0, mixV a b 6 7 0] 7 a (i := 2) (by decide) (by decide) (by unfold rampOk mixV; simp; omega) 599
    have s3 := RampL_step (F := 600) (a := a) (b := b) true [a, b, mixV a b 1 7 0, mixV a b 2 7 0, mixV a b 3 7 0, mixV a b 4 7 0, mixV a b 5 7 0, mixV a b 6 7 0] 7 (mixV a b 1 7 0) (i := 3) (by decide) (by decide) (by unfold rampOk mixV; simp; omega) 598
    have s4 := RampL_step (F := 600) (a := a) (b := b) true [a, b, mixV a b 1 7 0, mixV a b 2 7 0, mixV a b 3 7 0, mixV a b 4 7 0, mixV a b 5 7 0, mixV a b 6 7 0] 7 (mixV a b 2 7 0) (i := 4) (by decide) (by decide) (by unfold rampOk mixV; simp; omega) 597
    have s5 := RampL_step (F := 600) (a := a) (b := b) true [a, b, mixV a b 1 7 0, mixV a b 2 7 0, mixV a b 3 7 0, mixV a b 4 7 0, mixV a b 5 7 0, mixV a b 6 7 0] 7 (mixV a b 3 7 0) (i := 5) (by decide) (by decide) (by unfold rampOk mixV; simp; omega) 596
    have s6 := RampL_step (F := 600) (a := a) (b := b) true [a, b, mixV a b 1 7 0, mixV a b 2 7 0, mixV a b 3 7 0, mixV a b 4 7 0, mixV a b 5 7 0, mixV a b 6 7 0] 7 (mixV a b 4 7 0) (i := 6) (by decide) (by decide) (by unfold rampOk mixV; simp; omega) 595
    have s7 := RampL_step (F := 600) (a := a) (b := b) true [a, b, mixV a b 1 7 0, mixV a b 2 7 0, mixV a b 3 7 0, mixV a b 4 7 0, mixV a b 5 7 0, mixV a b 6 7 0] 7 (mixV a b 5 7 0) (i := 7) (by decide) (by decide) (by unfold rampOk mixV; simp; omega) 594
    simp only [Int.cast_ofNat_Int, List.getD_cons_succ, List.getD_cons_zero, Nat.reduceAdd] at s2 s3 s4 s5 s6 s7
    simp only [hab, decide_false, cond_false, s2, s3, s4, s5, s6, s7]
    have s8 : law07_BcfourRamp_l0 600 594 a b true [a, b, mixV a b 1 7 0, mixV a b 2 7 0, mixV a b 3 7 0, mixV a b 4 7 0, mixV a b 5 7 0, mixV a b 6 7 0] 7 (mixV a b 6 7 0) 8 = some (.inr (a, (b, (true, ([a, b, mixV a b 1 7 0, mixV a b 2 7 0, mixV a b 3 7 0, mixV a b 4 7 0, mixV a b 5 7 0, mixV a b 6 7 0], ()))))) := rfl
    rw [s8]
    simp

/-! back -/

theorem near_closed : ((List.range 16).all fun v => level_Near 600 (wideS 4 v) 4 == some ((v : Int), ())) = true := by kernel_rfl

theorem packed_back {b : List Int} (hb : Bytes b) (hl : b.length = 8) : packed (b.getD 0 0 + b.getD 1 0 * 2 ^ 8) 16 3 (fourW b) = b := by
  have h0 := hb.getD 0
  have h1 := hb.getD 1
  refine bytes_ext_low (packed_bytes _ _ _ _) hb (by rw [packed_len, hl]) fun q hq => ?_
  rw [packed_len] at hq
  rw [packed_bit (by omega) (by decide) (by decide) (fun j hj => fourW_ok b j hj) (by omega)]
  split
  · rename_i h
    rw [digit_field (by omega)]
    unfold lowBit bitL
    split
    · rw [show q / 8 = 0 by omega, show q % 8 = q by omega]
    · rw [show q / 8 = 1 by omega, show q % 8 = q - 8 by omega]
  · rename_i h
    rw [fourW_get b (by omega)]
    have := lv_digit b (a := 16 + 3 * ((q - 16) / 3)) (n := 3) (q := q) (by omega) (by omega)
    rw [← this]
    congr 3
    omega

theorem packed_nibs {b : List Int} (hb : Bytes b) (hl : b.length = 8) : packed 0 0 4 (nibs b) = b := by
  have hw : ∀ j, j < 16 → okW 4 (nibs b) j := by
    intro j hj
    have : (nibs b).getD j 0 = lv b (4 * j) 4 := getD_range_map _ hj
    unfold okW
    rw [this]
    exact lv_bound _ _ _
  refine bytes_ext_low (packed_bytes _ _ _ _) hb (by rw [packed_len, hl]) fun q hq => ?_
  rw [packed_len] at hq
  rw [packed_bit (by decide) (by decide) (by decide) hw (by omega), if_neg (by omega)]
  have : (nibs b).getD ((q - 0) / 4) 0 = lv b (4 * ((q - 0) / 4)) 4 := getD_range_map _ (by omega)
  rw [this]
  have := lv_digit b (a := 4 * ((q - 0) / 4)) (n := 4) (q := q) (by omega) (by omega)
  rw [← this]
  congr 3
  omega

theorem Back07_l0 (b : List Int) (up : Bool) (e1 e2 e3 : Int) (c : List Int) : law07_BcfourBack_l0 600 600 b up e1 (fours b) e2 c e3 0 = some (b, (up, (e1, (nibs b, (e2, (c, (e3, ()))))))) := by
  refine fill_loop' 16 (fun i => lv b (4 * i) 4) (fours b) (fun k w i => law07_BcfourBack_l0 600 k b up e1 w e2 c e3 i) (fun w => some (b, (up, (e1, (w, (e2, (c, (e3, ())))))))) ?_ ?_ (by simp [fours]) 600 (by decide)
  · intro k i w hi hw hwj
    show law07_BcfourBack_l0S 600 (law07_BcfourBack_l0 600 k) b up e1 w e2 c e3 i = _
    unfold law07_BcfourBack_l0S
    have h1 : (i : Int) < 16 := by omega
    have hg : w.getD i 0 = wideS 4 (lv b (4 * i) 4).toNat := by
      rw [hwj i (Nat.le_refl _)]
      have e : (fours b).getD i 0 = wideV 4 (lv b (4 * i) 4) := getD_range_map _ hi
      rw [e]
      unfold wideV
      have := lv_bound b (4 * i) 4
      rw [Int.emod_eq_of_lt this.1 this.2]
    have hb4 := lv_bound b (4 * i) 4
    have hn := List.all_eq_true.1 near_closed (lv b (4 * i) 4).toNat (by simp; omega)
    have hn' : level_Near 600 (wideS 4 (lv b (4 * i) 4).toNat) 4 = some (lv b (4 * i) 4, ()) := by
      have := eq_of_beq hn
      rw [this, Int.toNat_of_nonneg hb4.1]
    simp only [h1, decide_true, cond_true, Int.natCast_nonneg, Bool.and_self, Int.toNat_natCast, hg, hn', Option.bind_some, nextI (show i < 1000000000000 by omega)]
  · intro k w hw
    show law07_BcfourBack_l0S 600 (law07_BcfourBack_l0 600 k) b up e1 w e2 c e3 16 = _
    unfold law07_BcfourBack_l0S
    simp

theorem law07_BcfourBack_true (b : List Int) (hb' : ∀ x ∈ b, IntKind.u8.has x) : ∃ F, law07_BcfourBack F b = some (true, ()) := by
  have hb := bytes_of hb'
  refine ⟨600, ?_⟩
  unfold law07_BcfourBack
  rw [awake07]
  simp only [Option.bind_some]
  by_cases hl : b.length = 8
  · have e : ((b.length : Int) != 8) = false := by rw [hl]; rfl
    have h0 := hb.getD 0
    have h1 := hb.getD 1
    obtain ⟨t1, t2, t3, t4⟩ := lowTwo h0 h1
    have hw64 : ∀ j, -9223372036854775808 ≤ (fourW b).getD j 0 ∧ (fourW b).getD j 0 ≤ 9223372036854775807 := by
      refine getD_i64 fun x hx => ?_
      obtain ⟨i, _, rfl⟩ := List.mem_map.1 hx
      have := lv_bound b (16 + 3 * i) 3
      omega
    have hn64 : ∀ j, -9223372036854775808 ≤ (nibs b).getD j 0 ∧ (nibs b).getD j 0 ≤ 9223372036854775807 := by
      refine getD_i64 fun x hx => ?_
      obtain ⟨i, _, rfl⟩ := List.mem_map.1 hx
      have := lv_bound b (4 * i) 4
      omega
    have hnw : ∀ j, j < 16 → okW 4 (nibs b) j := by
      intro j hj
      have : (nibs b).getD j 0 = lv b (4 * j) 4 := getD_range_map _ hj
      unfold okW
      rw [this]
      exact lv_bound _ _ _
    have j1 := (joined_is (F := 600) (by decide) (low := b.getD 0 0 + b.getD 1 0 * 2 ^ 8) (from_ := 16) (each := 3) (w := fourW b) ⟨t2, t3⟩ (by decide) (by decide) hw64).1 (fun j hj => fourW_ok b j hj)
    have j2 := (joined_is (F := 600) (by decide) (low := 0) (from_ := 0) (each := 4) (w := nibs b) (by decide) (by decide) (by decide) hn64).1 hnw
    simp only [Int.cast_ofNat_Int, Int.natCast_zero] at j1 j2
    rw [packed_back hb hl] at j1
    rw [packed_nibs hb hl] at j2
    have e1 : bcfour_Join 600 (b.getD 0 0) (b.getD 1 0) (fourW b) = some (b, (0, ())) := by
      unfold bcfour_Join
      have c1 : ¬ b.getD 0 0 < 0 := by omega
      have c2 : ¬ 255 < b.getD 0 0 := by omega
      have c3 : ¬ b.getD 1 0 < 0 := by omega
      have c4 : ¬ 255 < b.getD 1 0 := by omega
      simp only [c1, c2, c3, c4, decide_false, cond_false, and_self, if_true, t1, j1, Option.bind_some]
    have e2 : bcfour_JoinFours 600 (nibs b) = some (b, (0, ())) := by
      unfold bcfour_JoinFours
      simp only [and_self, if_true, j2, Option.bind_some]
    rw [Parts7_is (by decide) hb hl, Fours_is (by decide) hb hl]
    simp only [Option.bind_some, e, cond_false, and_self, if_true, e1, Back07_l0, e2, Same_is b (show b.length < 600 by omega) (by decide)]
    rfl
  · have e : ((b.length : Int) != 8) = true := bneT (by omega)
    have p1 : bcfour_Parts 600 b = some (0, (0, (bcfour_DecodeT229, (1, ())))) := by unfold bcfour_Parts; simp [e]
    have p2 : bcfour_Fours 600 b = some (bcfour_DecodeT229, (1, ())) := by unfold bcfour_Fours; simp [e]
    simp [p1, p2, e]

end Go.AE.Gn
