/- Layer 11: etctwo. Planar blocks laid: EtctwoLays, EtctwoPlanar. -/
import Derived.Test.YtdhhinbhckoipaaPure11f
set_option linter.unusedVariables false
set_option linter.unusedSimpArgs false
namespace Go.AE.Gn
open Go Go.AE

/-! ### what is in range -/

theorem wrap_mod (n : Int) : (IntKind.wrap .i64 n) % 18446744073709551616 = n % 18446744073709551616 := by
  simp only [IntKind.wrap]
  simp [IntKind.signed, IntKind.bits]
  try omega

theorem ofInt_wrap (X : BitVec 64) : BitVec.ofInt 64 (IntKind.wrap .i64 (X.toNat : Int)) = X := by
  apply BitVec.eq_of_toNat_eq
  rw [BitVec.toNat_ofInt]
  have h := wrap_mod (X.toNat : Int)
  have hx := X.isLt
  have : ((2 ^ 64 : Nat) : Int) = 18446744073709551616 := by decide
  rw [this, h]
  omega

theorem wrap_zero (X : BitVec 64) : IntKind.wrap .i64 (X.toNat : Int) = 0 ↔ X.toNat = 0 := by
  have h := wrap_mod (X.toNat : Int)
  have hx := X.isLt
  constructor
  · intro e
    rw [e] at h
    omega
  · intro e
    rw [e]
    rfl

theorem bv_andn (X : BitVec 64) {b : Nat} (hb : b ≤ 62) : (X &&& ~~~(BitVec.ofNat 64 (2 ^ b - 1))).toNat = 0 ↔ X.toNat < 2 ^ b := by
  have hM : ∀ i, i < 64 → (BitVec.ofNat 64 (2 ^ b - 1)).getLsbD i = decide (i < b) := fun i hi => by
    rw [BitVec.getLsbD_ofNat, Nat.testBit_two_pow_sub_one]
    simp [hi]
  constructor
  · intro h
    refine Nat.lt_pow_two_of_testBit _ fun i hi => ?_
    by_cases h64 : i < 64
    · have h2 : (X &&& ~~~(BitVec.ofNat 64 (2 ^ b - 1))).getLsbD i = false := by
        show Nat.testBit (X &&& ~~~(BitVec.ofNat 64 (2 ^ b - 1))).toNat i = false
        rw [h]
        exact Nat.zero_testBit i
      rw [BitVec.getLsbD_and, BitVec.getLsbD_not, hM i h64] at h2
      have hd : decide (i < b) = false := by simp; omega
      rw [hd] at h2
      have h3 : X.getLsbD i = false := by
        cases hX : X.getLsbD i
        · rfl
        · rw [hX] at h2
          simp [h64] at h2
      exact h3
    · exact BitVec.getLsbD_of_ge X i (by omega)
  · intro h
    have : X &&& ~~~(BitVec.ofNat 64 (2 ^ b - 1)) = 0#64 := by
      apply BitVec.eq_of_getLsbD_eq
      intro i hi
      rw [BitVec.getLsbD_and, BitVec.getLsbD_not, hM i hi]
      by_cases hib : i < b
      · simp [hib]
      · have hx : X.getLsbD i = false := Nat.testBit_lt_two_pow (Nat.lt_of_lt_of_le h (Nat.pow_le_pow_right (by decide) (by omega)))
        rw [hx]
        simp
    rw [this]
    rfl

theorem ofInt_nat (x : Int) : ((BitVec.ofInt 64 x).toNat : Int) = x % 18446744073709551616 := by
  rw [BitVec.toNat_ofInt]
  have : ((2 ^ 64 : Nat) : Int) = 18446744073709551616 := by decide
  rw [this, Int.toNat_of_nonneg (by omega)]

theorem andn_is {x : Int} (hx : -9223372036854775808 ≤ x ∧ x ≤ 9223372036854775807) {b : Nat} (hb : b ≤ 62) {c : Int} (hc : c = 2 ^ b - 1) : iandn .i64 x c = 0 ↔ 0 ≤ x ∧ x < 2 ^ b := by
  have hp := powPos b
  have hpb : (2 : Int) ^ b ≤ 2 ^ 62 := ipow_le hb
  have hn : (2 : Nat) ^ b ≤ 2 ^ 62 := Nat.pow_le_pow_right (by decide) hb
  have hcn : c = ((2 ^ b - 1 : Nat) : Int) := by
    have : 1 ≤ (2 : Nat) ^ b := Nat.pow_pos (by decide : 0 < 2)
    have e : ((2 ^ b : Nat) : Int) = (2 : Int) ^ b := Int.natCast_pow 2 b
    rw [hc]
    omega
  have e : ((2 ^ b : Nat) : Int) = (2 : Int) ^ b := Int.natCast_pow 2 b
  have hx2 := ofInt_nat x
  unfold iandn
  rw [hcn, BitVec.ofInt_natCast]
  show IntKind.wrap .i64 ((BitVec.ofInt 64 x &&& ~~~(BitVec.ofNat 64 (2 ^ b - 1))).toNat : Int) = 0 ↔ _
  rw [wrap_zero, bv_andn _ hb]
  omega

theorem or_range {x z : Int} (hx : -9223372036854775808 ≤ x ∧ x ≤ 9223372036854775807) (hz : -9223372036854775808 ≤ z ∧ z ≤ 9223372036854775807) : iandn .i64 (ior .i64 x z) 63 = 0 ↔ (0 ≤ x ∧ x < 64) ∧ (0 ≤ z ∧ z < 64) := by
  have hx2 := ofInt_nat x
  have hz2 := ofInt_nat z
  have key : iandn .i64 (ior .i64 x z) 63 = IntKind.wrap .i64 ((BitVec.ofInt 64 (IntKind.wrap .i64 ((BitVec.ofInt 64 x ||| BitVec.ofInt 64 z).toNat : Int)) &&& ~~~(BitVec.ofInt 64 63)).toNat : Int) := rfl
  have e63 : BitVec.ofInt 64 63 = BitVec.ofNat 64 (2 ^ 6 - 1) := by decide
  rw [key, e63, ofInt_wrap, wrap_zero, bv_andn _ (by omega), BitVec.toNat_or]
  have h1 : (BitVec.ofInt 64 x).toNat ≤ (BitVec.ofInt 64 x).toNat ||| (BitVec.ofInt 64 z).toNat := Nat.left_le_or
  have h2 : (BitVec.ofInt 64 z).toNat ≤ (BitVec.ofInt 64 x).toNat ||| (BitVec.ofInt 64 z).toNat := Nat.right_le_or
  constructor
  · intro h
    omega
  · intro h
    exact Nat.or_lt_two_pow (by omega) (by omega)

/-! ### bits laid one by one -/

def layB (c : List Int) (L : List Nat) (n : Int) : List Int := hlaid (fun i => L.getD i 0) (fun _ => 1) (fun i => n / 2 ^ (L.length - 1 - i) % 2) c L.length

/-- Places in a block, no two of them alike. -/
def Pl (L : List Nat) : Prop := L.length ≤ 12 ∧ (∀ i, i < L.length → L.getD i 0 < 64) ∧ ∀ i j, i < L.length → j < L.length → L.getD i 0 = L.getD j 0 → i = j

theorem hlaid_out {A N : Nat → Nat} {V : Nat → Int} {c : List Int} (hc : Bytes c) {m : Nat} (hr : ∀ i, i < m → A i + N i ≤ 8 * c.length) {q : Nat} (hq : ∀ i, i < m → ¬ (A i ≤ q ∧ q < A i + N i)) :
    ∀ i, i ≤ m → highBit (hlaid A N V c i) q = highBit c q
  | 0, _ => rfl
  | i + 1, hi => by
    rw [hlaid, hset_bit (hlaid_bytes A N V hc i) (by rw [hlaid_len]; exact hr i (by omega)), if_neg (hq i (by omega))]
    exact hlaid_out hc hr hq i (by omega)

theorem layB_len (c : List Int) (L : List Nat) (n : Int) : (layB c L n).length = c.length := hlaid_len _ _ _ _ _
theorem layB_bytes {c : List Int} (hc : Bytes c) (L : List Nat) (n : Int) : Bytes (layB c L n) := hlaid_bytes _ _ _ hc _

theorem layB_in {c : List Int} (hc : Bytes c) (hl : c.length = 8) {L : List Nat} (hL : Pl L) (n : Int) {j : Nat} (hj : j < L.length) : highBit (layB c L n) (L.getD j 0) = n / 2 ^ (L.length - 1 - j) % 2 := by
  have h := hlaid_bit (A := fun i => L.getD i 0) (N := fun _ => 1) (V := fun i => n / 2 ^ (L.length - 1 - i) % 2) hc (m := L.length) (fun i hi => by have := hL.2.1 i hi; show L.getD i 0 + 1 ≤ _; omega) (fun i k hi hk hik => by
    have : L.getD i 0 ≠ L.getD k 0 := fun e => hik (hL.2.2 i k hi hk e)
    show L.getD i 0 + 1 ≤ L.getD k 0 ∨ L.getD k 0 + 1 ≤ L.getD i 0
    omega) hj (q := L.getD j 0) (Nat.le_refl _) (Nat.lt_succ_self _) L.length hj (Nat.le_refl _)
  unfold layB
  rw [h, show L.getD j 0 + 1 - 1 - L.getD j 0 = 0 by omega]
  omega
theorem layB_out {c : List Int} (hc : Bytes c) (hl : c.length = 8) {L : List Nat} (hL : Pl L) (n : Int) {q : Nat} (hq : ∀ i, i < L.length → L.getD i 0 ≠ q) : highBit (layB c L n) q = highBit c q :=
  hlaid_out hc (fun i hi => by have := hL.2.1 i hi; show L.getD i 0 + 1 ≤ _; omega) (fun i hi h => hq i hi (by
    have h1 : L.getD i 0 ≤ q := h.1
    have h2 : q < L.getD i 0 + 1 := h.2
    omega)) L.length (Nat.le_refl _)

theorem layB_eq {c d : List Int} (hc : Bytes c) (hl : c.length = 8) (hd : Bytes d) (hdl : d.length = 8) {L : List Nat} (hL : Pl L) {n : Int} (h1 : ∀ j, j < L.length → highBit d (L.getD j 0) = n / 2 ^ (L.length - 1 - j) % 2)
    (h2 : ∀ q, q < 64 → (∀ i, i < L.length → L.getD i 0 ≠ q) → highBit d q = highBit c q) : d = layB c L n := by
  refine bytes_ext_high hd (layB_bytes hc L n) (by rw [layB_len, hl, hdl]) fun q hq => ?_
  by_cases h : ∃ i, i < L.length ∧ L.getD i 0 = q
  · obtain ⟨i, hi, rfl⟩ := h
    rw [layB_in hc hl hL n hi, h1 i hi]
  · have h' : ∀ i, i < L.length → L.getD i 0 ≠ q := fun i hi e => h ⟨i, hi, e⟩
    rw [layB_out hc hl hL n h', h2 q (by omega) h']

/-- A field of bits one after the other is laid so, too. -/
theorem hset_lay {c : List Int} (hc : Bytes c) (hl : c.length = 8) {L : List Nat} (hL : Pl L) {a n : Nat} (hn : L.length = n) (hLa : ∀ i, i < n → L.getD i 0 = a + i) (h : a + n ≤ 64) (v : Int) : hset c a n v = layB c L v := by
  refine layB_eq hc hl (hset_bytes hc _ _ _) (by rw [hset_len, hl]) hL (fun j hj => ?_) fun q hq h' => ?_
  · rw [hset_bit hc (by omega), hLa j (by omega), if_pos (by omega)]
    congr 3
    omega
  · rw [hset_bit hc (by omega), if_neg]
    intro hc2
    have := hLa (q - a) (by omega)
    exact h' (q - a) (by omega) (by omega)

theorem pl_of {L : List Nat} (h : (decide (L.length ≤ 12) && ((List.range L.length).all fun i => decide (L.getD i 0 < 64) && (List.range L.length).all fun j => decide (L.getD i 0 = L.getD j 0 → i = j))) = true) : Pl L := by
  simp only [Bool.and_eq_true, decide_eq_true_eq, List.all_eq_true, List.mem_range] at h
  exact ⟨h.1, fun i hi => (h.2 i hi).1, fun i j hi hj e => (h.2 i hi).2 j hj e⟩

theorem shr_is {x : Int} {k : Nat} (hk : k ≤ 63) : iand .i64 (ishr .i64 x (k : Int)) 1 = x / 2 ^ k % 2 := by
  rw [ishr64' hk]
  exact iand_mask (b := 1) (by omega)

theorem bit_u (x : Int) : IntKind.wrap .u64 (x % 2) = x % 2 := wu64 (by omega) (by omega)

theorem c1_l0_all {c : List Int} (hc : Bytes c) (hl : c.length = 8) (n : Int) {L : List Nat} (hL : Pl L) : ∀ (d i k : Nat), i + d = L.length → d < k →
    etctwo_Lay_c1_l0 600 k n (casts L) (hlaid (fun i => L.getD i 0) (fun _ => 1) (fun i => n / 2 ^ (L.length - 1 - i) % 2) c i) (L.length : Int) (i : Int) = some (layB c L n, ()) := by
  intro d
  induction d with
  | zero =>
    intro i k h1 h2
    obtain ⟨k, rfl⟩ : ∃ k', k = k' + 1 := ⟨k - 1, by omega⟩
    obtain rfl : i = L.length := by omega
    unfold etctwo_Lay_c1_l0 etctwo_Lay_c1_l0S
    simp only [Int.lt_irrefl, decide_false, cond_false]
    rfl
  | succ d ih =>
    intro i k h1 h2
    obtain ⟨k, rfl⟩ : ∃ k', k = k' + 1 := ⟨k - 1, by omega⟩
    have hi : i < L.length := by omega
    have hlen := hL.1
    have hp := hL.2.1 i hi
    have i1 : (i : Int) < (L.length : Int) := by omega
    have e1 : IntKind.wrap .i64 (IntKind.wrap .i64 ((L.length : Int) - 1) - (i : Int)) = ((L.length - 1 - i : Nat) : Int) := by
      rw [w64 (x := (L.length : Int) - 1) (by omega) (by omega), w64 (by omega) (by omega)]
      omega
    have hs : bits_SetHigh 600 (hlaid (fun i => L.getD i 0) (fun _ => 1) (fun i => n / 2 ^ (L.length - 1 - i) % 2) c i) ((L.getD i 0 : Nat) : Int) (1 : Int) (n / 2 ^ (L.length - 1 - i) % 2) = _ := SetHigh_ok (n := 1) (by omega) (hlaid_bytes _ _ _ hc i) (by rw [hlaid_len]; omega) (by omega) (by rw [hlaid_len]; omega) (by omega)
    have fin := ih (i + 1) k (by omega) (by omega)
    unfold etctwo_Lay_c1_l0 etctwo_Lay_c1_l0S
    simp only [i1, decide_true, cond_true, Int.natCast_nonneg, Bool.and_self, Int.toNat_natCast, casts_len, casts_get, e1, shr_is (x := n) (k := L.length - 1 - i) (by omega), bit_u, hs, Option.bind_some]
    rw [nextI (by omega)]
    exact fin

theorem c1_is {c : List Int} (hc : Bytes c) (hl : c.length = 8) (n : Int) {L : List Nat} (hL : Pl L) : etctwo_Lay_c1 600 n (casts L) c = some (layB c L n, ()) := by
  unfold etctwo_Lay_c1
  have h := c1_l0_all hc hl n hL L.length 0 600 (by omega) (by have := hL.1; omega)
  rw [show ((0 : Nat) : Int) = 0 from rfl] at h
  rw [casts_len, show etctwo_Lay_c1_l0 600 600 n (casts L) c (L.length : Int) 0 = some (layB c L n, ()) from h]
  rfl

theorem c2_is {c : List Int} (hc : Bytes c) (hl : c.length = 8) {v : Int} {x y : Int} {a n : Nat} {L : List Nat} (hL : Pl L) (hx : x = a) (hy : y = (a : Int) + n - 1) (hLn : L.length = n) (hLa : ∀ i, i < n → L.getD i 0 = a + i) (h : a + n ≤ 64) (hv : 0 ≤ v ∧ v < 2 ^ n) :
    etctwo_Lay_c2 600 v x y c = some (layB c L v, ()) := by
  subst hx
  subst hy
  have hn := hL.1
  have e : IntKind.wrap .i64 (IntKind.wrap .i64 ((a : Int) + n - 1 - a) + 1) = (n : Int) := by
    rw [w64 (x := (a : Int) + n - 1 - a) (by omega) (by omega), w64 (by omega) (by omega)]
    omega
  have h2 : (2 : Int) ^ n ≤ 2 ^ 12 := ipow_le (by omega)
  unfold etctwo_Lay_c2
  rw [e, wu64 hv.1 (by omega), SetHigh_ok (by omega) hc (by omega) (by omega) (by omega) hv, hset_lay hc hl hL hLn hLa h]
  rfl

theorem put_l0_all {c : List Int} (hc : Bytes c) (hl : c.length = 8) {n : Int} (hn : 0 ≤ n ∧ n ≤ 9223372036854775807) {L : List Nat} (hL : Pl L) : ∀ (i t k : Nat), t + i = L.length → i < k →
    ref11_put_l0 600 k (hlaid (fun t => L.getD (L.length - 1 - t) 0) (fun _ => 1) (fun t => n / 2 ^ t % 2) c t) (casts L) (n / 2 ^ t) ((i : Int) - 1) = some (hlaid (fun t => L.getD (L.length - 1 - t) 0) (fun _ => 1) (fun t => n / 2 ^ t % 2) c L.length, ()) := by
  intro i
  induction i with
  | zero =>
    intro t k h1 h2
    obtain ⟨k, rfl⟩ : ∃ k', k = k' + 1 := ⟨k - 1, by omega⟩
    obtain rfl : t = L.length := by omega
    unfold ref11_put_l0 ref11_put_l0S
    have : ¬ (0 : Int) ≤ ((0 : Nat) : Int) - 1 := by omega
    simp only [this, decide_false, cond_false]
  | succ i ih =>
    intro t k h1 h2
    obtain ⟨k, rfl⟩ : ∃ k', k = k' + 1 := ⟨k - 1, by omega⟩
    have hi : i < L.length := by omega
    have hlen := hL.1
    have hp := hL.2.1 i hi
    have e0 : ((i + 1 : Nat) : Int) - 1 = (i : Int) := by omega
    have i1 : (i : Int) < (L.length : Int) := by omega
    have hq : 0 ≤ n / 2 ^ t := Int.ediv_nonneg hn.1 (Int.le_of_lt (powPos t))
    have hq2 : n / 2 ^ t ≤ n := Int.ediv_le_self _ hn.1
    have em : Int.tmod (n / 2 ^ t) 2 = n / 2 ^ t % 2 := tmod_nonneg hq
    have ed : Int.tdiv (n / 2 ^ t) 2 = n / 2 ^ (t + 1) := by rw [tdiv_nonneg hq, div_pow_succ]
    have hq3 : 0 ≤ n / 2 ^ (t + 1) := Int.ediv_nonneg hn.1 (Int.le_of_lt (powPos (t + 1)))
    have hq4 : n / 2 ^ (t + 1) ≤ n := Int.ediv_le_self _ hn.1
    have ew : IntKind.wrap .i64 (n / 2 ^ (t + 1)) = n / 2 ^ (t + 1) := w64 (by omega) (by omega)
    have ew2 : IntKind.wrap .i64 ((i : Int) - 1) = (i : Int) - 1 := w64 (by omega) (by omega)
    have ei : L.length - 1 - t = i := by omega
    have hs : ref02_Set 600 (hlaid (fun t => L.getD (L.length - 1 - t) 0) (fun _ => 1) (fun t => n / 2 ^ t % 2) c t) ((L.getD i 0 : Nat) : Int) (1 : Int) true (n / 2 ^ t % 2) = some (hlaid (fun t => L.getD (L.length - 1 - t) 0) (fun _ => 1) (fun t => n / 2 ^ t % 2) c (t + 1), (0, ())) := by
      have := SetTop_ok (F := 600) (by omega) (hlaid_bytes (fun t => L.getD (L.length - 1 - t) 0) (fun _ => 1) (fun t => n / 2 ^ t % 2) hc t) (a := L.getD i 0) (n := 1) (v := n / 2 ^ t % 2) (by rw [hlaid_len]; omega) (by omega) (by rw [hlaid_len]; omega) (by omega)
      rw [hlaid]
      simp only [ei]
      exact this
    have fin := ih (t + 1) k (by omega) (by omega)
    unfold ref11_put_l0 ref11_put_l0S
    rw [e0]
    simp only [i1, decide_true, cond_true, Int.natCast_nonneg, Bool.and_self, Int.toNat_natCast, casts_len, casts_get, em, ed, ew, ew2, bit_u, hs, Option.bind_some]
    exact fin

theorem put_is {c : List Int} (hc : Bytes c) (hl : c.length = 8) {n : Int} (hn : 0 ≤ n ∧ n ≤ 9223372036854775807) {L : List Nat} (hL : Pl L) : ref11_put 600 c (casts L) n = some (layB c L n, ()) := by
  have hlen := hL.1
  have h := put_l0_all hc hl hn hL L.length 0 600 (by omega) (by omega)
  have e : hlaid (fun t => L.getD (L.length - 1 - t) 0) (fun _ => 1) (fun t => n / 2 ^ t % 2) c L.length = layB c L n := by
    have hr : ∀ i, i < L.length → (fun t => L.getD (L.length - 1 - t) 0) i + (fun _ => 1) i ≤ 8 * c.length := fun i hi => by
      have := hL.2.1 (L.length - 1 - i) (by omega)
      show L.getD (L.length - 1 - i) 0 + 1 ≤ _
      omega
    refine layB_eq hc hl (hlaid_bytes _ _ _ hc _) (by rw [hlaid_len, hl]) hL (fun j hj => ?_) fun q hq h' => ?_
    · have := hlaid_bit (A := fun t => L.getD (L.length - 1 - t) 0) (N := fun _ => 1) (V := fun t => n / 2 ^ t % 2) hc (m := L.length) hr (fun i k hi hk hik => by
        have : L.getD (L.length - 1 - i) 0 ≠ L.getD (L.length - 1 - k) 0 := fun e => hik (by have := hL.2.2 _ _ (by omega) (by omega) e; omega)
        show L.getD (L.length - 1 - i) 0 + 1 ≤ L.getD (L.length - 1 - k) 0 ∨ L.getD (L.length - 1 - k) 0 + 1 ≤ L.getD (L.length - 1 - i) 0
        omega) (j := L.length - 1 - j) (by omega) (q := L.getD j 0) (by show L.getD (L.length - 1 - (L.length - 1 - j)) 0 ≤ _; rw [show L.length - 1 - (L.length - 1 - j) = j by omega]; exact Nat.le_refl _) (by show _ < L.getD (L.length - 1 - (L.length - 1 - j)) 0 + 1; rw [show L.length - 1 - (L.length - 1 - j) = j by omega]; exact Nat.lt_succ_self _) L.length (by omega) (Nat.le_refl _)
      rw [this]
      simp only [show L.length - 1 - (L.length - 1 - j) = j by omega, show L.getD j 0 + 1 - 1 - L.getD j 0 = 0 by omega]
      omega
    · exact hlaid_out hc hr (fun i hi hh => h' (L.length - 1 - i) (by omega) (by
        have h1 : L.getD (L.length - 1 - i) 0 ≤ q := hh.1
        have h2 : q < L.getD (L.length - 1 - i) 0 + 1 := hh.2
        omega)) L.length (Nat.le_refl _)
  rw [e] at h
  unfold ref11_put
  rw [casts_len, w64 (by omega) (by omega)]
  have h' : ref11_put_l0 600 600 c (casts L) n ((L.length : Int) - 1) = some (layB c L n, ()) := by
    have e0 : n / 2 ^ 0 = n := by simp
    rw [e0] at h
    exact h
  rw [h']
  rfl

end Go.AE.Gn
