/- Layer 9: bcseven. BcsevenDecodes, BcsevenWithin, BcsevenTurns. -/
import Derived.Test.YtdhhinbhckoipaaPure09c
set_option linter.unusedVariables false
set_option linter.unusedSimpArgs false
namespace Go.AE.Gn
open Go Go.AE

theorem awake09 : law09_awake 600 = some (true, ()) := by kernel_rfl

theorem law09_BcsevenDecodes_true (b : List Int) (hb : ∀ x ∈ b, IntKind.u8.has x) : ∃ F, law09_BcsevenDecodes F b = some (true, ()) := by
  have hb' := bytes_of hb
  refine ⟨600, ?_⟩
  unfold law09_BcsevenDecodes
  rw [awake09]
  simp only [Option.bind_some]
  by_cases h : (40 : Int) < (b.length : Int)
  · simp only [h, decide_true, cond_true]
  · simp only [h, decide_false, cond_false, cond_true]
    by_cases hl : b.length = 16
    · rw [Decode_is hb' hl, rDecode_is hb' hl, Mode_is hb' hl, rMode_is hb' hl]
      simp only [Option.bind_some, beq_self_eq_true, cond_true]
    · rw [Decode_none hl, rDecode_none hl, Mode_none hl, rMode_none hl]
      simp only [Option.bind_some, beq_self_eq_true, cond_true]

/-! ### within -/

theorem tz_closed : ((List.range 256).all fun x => decide ((math_bits_TrailingZeros8T292.getD x 0).toNat ≤ 8)) = true := by decide +kernel

theorem decAll_get (b : List Int) {j : Nat} (hj : j < 64) : 0 ≤ (decAll b).getD j 0 ∧ (decAll b).getD j 0 ≤ 255 := by
  unfold decAll
  split
  · rw [zero64, tab_get hj]
    omega
  · rename_i h
    rw [tab_get hj]
    by_cases hk : modeV (b.getD 0 0) < 8
    · exact texV_bound b (bm_ok hk) _ _
    · exfalso
      have : ∀ x : Int, modeV x ≤ 8 := fun x => by
        unfold modeV
        by_cases h2 : x.toNat < 256
        · have := List.all_eq_true.1 tz_closed x.toNat (by simpa using h2)
          simpa using this
        · have h3 : math_bits_TrailingZeros8T292.length = 256 := by decide +kernel
          rw [List.getD_eq_getElem?_getD, List.getElem?_eq_none (by omega)]
          decide
      have := this (b.getD 0 0)
      omega

theorem alpha_closed : ((List.range 4).all fun k => decide ((bmOf k).A = 0 ∧ (bmOf k).T = 0)) = true := by decide +kernel

theorem decAll_alpha (b : List Int) (hk : modeV (b.getD 0 0) < 4) {i : Nat} (hi : i < 16) : (decAll b).getD (3 + i * 4) 0 = 255 := by
  unfold decAll
  rw [if_neg (by omega), tab_get (by omega)]
  have h := List.all_eq_true.1 alpha_closed (modeV (b.getD 0 0)) (List.mem_range.2 hk)
  simp only [decide_eq_true_eq] at h
  have ok := bm_ok (show modeV (b.getD 0 0) < 8 by omega)
  generalize bmOf (modeV (b.getD 0 0)) = m at h ok
  have ht : ¬ 0 < tN b m := by
    have := lv_bound b (m.base + m.W) m.T
    unfold tN
    rw [h.2] at this ⊢
    omega
  unfold decF texV turnV
  rw [if_neg ht, show (3 + i * 4) % 4 = 3 by omega, show (3 + i * 4) / 4 = i by omega]
  have ha : ∀ q, endF b m (q * 4 + 3) = 255 := fun q => by
    unfold endF eF
    rw [if_pos (by omega), if_pos h.1]
  obtain ⟨h3, h4⟩ := alpP_ok b ok i
  unfold preV aF zF
  rw [if_pos rfl, ha, ha]
  unfold mx mixV
  omega

theorem Within_l2_all (b : List Int) (x0 : Bool) (x2 x3 : Int) {i : Nat} (hi : i < 16) : ∀ (d c k : Nat), c + d = 4 → d < k → law09_BcsevenWithin_l2 600 k x0 (decAll b) x2 x3 (i : Int) (c : Int) = some (.inr (x0, (decAll b, (x2, (x3, ((i : Int), ())))))) := by
  intro d
  induction d with
  | zero =>
    intro c k h1 h2
    obtain ⟨k, rfl⟩ : ∃ k', k = k' + 1 := ⟨k - 1, by omega⟩
    obtain rfl : c = 4 := by omega
    unfold law09_BcsevenWithin_l2 law09_BcsevenWithin_l2S
    have : ¬ (((4 : Nat) : Int) < 4) := by omega
    simp only [this, decide_false, cond_false]
  | succ d ih =>
    intro c k h1 h2
    obtain ⟨k, rfl⟩ : ∃ k', k = k' + 1 := ⟨k - 1, by omega⟩
    have i1 : (c : Int) < 4 := by omega
    have i2 : (i : Int) < 16 := by omega
    have hg := decAll_get b (show i * 4 + c < 64 by omega)
    have j1 : ¬ (decAll b).getD (i * 4 + c) 0 < 0 := by omega
    have j2 : ¬ 255 < (decAll b).getD (i * 4 + c) 0 := by omega
    unfold law09_BcsevenWithin_l2 law09_BcsevenWithin_l2S
    simp only [i1, i2, j1, j2, decide_true, decide_false, cond_true, cond_false, Int.natCast_nonneg, Bool.and_self, Int.toNat_natCast]
    rw [nextI (by omega)]
    exact ih (c + 1) k (by omega) (by omega)

theorem Within_l0_all (b : List Int) (x0 : Bool) (x2 : Int) : ∀ (d i k : Nat), i + d = 16 → d < k → law09_BcsevenWithin_l0 600 k x0 (decAll b) x2 (modeV (b.getD 0 0) : Int) (i : Int) = some (.inr (x0, (decAll b, (x2, ((modeV (b.getD 0 0) : Int), ()))))) := by
  intro d
  induction d with
  | zero =>
    intro i k h1 h2
    obtain ⟨k, rfl⟩ : ∃ k', k = k' + 1 := ⟨k - 1, by omega⟩
    obtain rfl : i = 16 := by omega
    unfold law09_BcsevenWithin_l0 law09_BcsevenWithin_l0S
    have : ¬ (((16 : Nat) : Int) < 16) := by omega
    simp only [this, decide_false, cond_false]
  | succ d ih =>
    intro i k h1 h2
    obtain ⟨k, rfl⟩ : ∃ k', k = k' + 1 := ⟨k - 1, by omega⟩
    have i2 : (i : Int) < 16 := by omega
    have l2 : law09_BcsevenWithin_l2 600 600 x0 (decAll b) x2 (modeV (b.getD 0 0) : Int) (i : Int) (0 : Int) = _ := Within_l2_all b x0 x2 (modeV (b.getD 0 0) : Int) (show i < 16 by omega) 4 0 600 (by omega) (by omega)
    unfold law09_BcsevenWithin_l0 law09_BcsevenWithin_l0S
    simp only [i2, decide_true, cond_true, l2, Option.bind_some]
    by_cases h4 : modeV (b.getD 0 0) < 4
    · have h4' : (modeV (b.getD 0 0) : Int) < 4 := by omega
      have ha : ((decAll b).getD (3 + i * 4) 0 != 255) = false := by rw [decAll_alpha b h4 (by omega)]; rfl
      simp only [h4', decide_true, cond_true, i2, Int.natCast_nonneg, Bool.and_self, Int.toNat_natCast, ha, cond_false]
      rw [nextI (by omega)]
      exact ih (i + 1) k (by omega) (by omega)
    · have h4' : ¬ (modeV (b.getD 0 0) : Int) < 4 := by omega
      simp only [h4', decide_false, cond_false]
      rw [nextI (by omega)]
      exact ih (i + 1) k (by omega) (by omega)

theorem law09_BcsevenWithin_true (b : List Int) (hb : ∀ x ∈ b, IntKind.u8.has x) : ∃ F, law09_BcsevenWithin F b = some (true, ()) := by
  have hb' := bytes_of hb
  refine ⟨600, ?_⟩
  unfold law09_BcsevenWithin
  rw [awake09]
  simp only [Option.bind_some]
  by_cases hl : b.length = 16
  · have hn : (((b.length : Nat) : Int) != 16) = false := by rw [hl]; rfl
    obtain ⟨_, h8, _, _⟩ := mode_fact (hb'.getD 0)
    have l0 : law09_BcsevenWithin_l0 600 600 true (decAll b) 0 (modeV (b.getD 0 0) : Int) (0 : Int) = _ := Within_l0_all b true 0 16 0 600 (by omega) (by omega)
    have i1 : (0 : Int) ≤ (modeV (b.getD 0 0) : Int) := by omega
    have i2 : (modeV (b.getD 0 0) : Int) ≤ 8 := by omega
    have hg := decAll_get b (show 0 < 64 by omega)
    have j1 : (-(1048576 : Int)) ≤ (decAll b).getD 0 0 := by omega
    have j2 : (decAll b).getD 0 0 ≤ 1048576 := by omega
    rw [hn, Decode_is hb' hl, Mode_is hb' hl]
    simp only [cond_false, Option.bind_some, l0, cond_true, beq_self_eq_true, i1, i2, decide_true, ref03_Small, j1, j2]
  · rw [bneT (by omega)]
    rfl

/-! ### turns -/

theorem mode_same {b c : List Int} (hb : Bytes b) (hc : Bytes c) (hl : b.length = 16) (hcl : c.length = 16) {k : Nat} (hk : modeV (b.getD 0 0) = k) (h8 : k < 8) (h : ∀ q, q ≤ k → lowBit c q = lowBit b q) : modeV (c.getD 0 0) = k := by
  obtain ⟨_, b8, bz, b1⟩ := mode_fact (hb.getD 0)
  obtain ⟨_, c8, cz, c1⟩ := mode_fact (hc.getD 0)
  rw [hk] at b8 bz b1
  generalize modeV (c.getD 0 0) = q at c8 cz c1
  have g : ∀ q, q ≤ k → bitL (c.getD 0 0) q = bitL (b.getD 0 0) q := fun q hq => by
    have := h q hq
    rw [low_first c (by omega), low_first b (by omega)] at this
    exact this
  by_cases h1 : q < k
  · have e1 := c1 (by omega)
    rw [g q (by omega), bz q h1] at e1
    omega
  · by_cases h2 : k < q
    · have e1 := cz k h2
      rw [g k (by omega), b1 h8] at e1
      omega
    · omega

theorem lv_same {b c : List Int} {a n : Nat} (h : ∀ q, a ≤ q → lowBit c q = lowBit b q) : lv c a n = lv b a n :=
  sumLo_congr fun i hi => h _ (by omega)

theorem fields_same {b c : List Int} {m : BM} (ok : m.Ok) (hW : m.W = 0) (h : ∀ q, m.base + m.W + m.T ≤ q → lowBit c q = lowBit b q) (i j : Nat) : preV c m i j = preV b m i j := by
  have hw : wN c m = wN b m := by
    unfold wN
    rw [hW]
    rfl
  have l : ∀ a n, m.base + m.W + m.T ≤ a → lv c a n = lv b a n := fun a n ha => lv_same fun q hq => h q (by omega)
  have hc : cN c m = cN b m := l _ _ (Nat.le_refl _)
  have he0 : ∀ j, e0 c m (bp0 m) j = e0 b m (bp0 m) j := fun j => by
    unfold e0 bp0
    rw [l _ _ (by omega), l _ _ (by omega)]
  have hbv : ∀ i, bitV c m (bp1 m) i = bitV b m (bp1 m) i := fun i => by
    unfold bitV bp1 bp0
    rw [l _ _ (by omega), l _ _ (by omega)]
  have hend : ∀ j, endF c m j = endF b m j := fun j => by
    unfold endF eF
    rw [he0, hbv]
  have hfir : ∀ j, firF c m j = firF b m j := fun j => by
    unfold firF firstV
    rw [hw]
    refine l _ _ ?_
    have h2 : bp2 m ≤ posF m.P (wN b m) m.f (bp2 m) j := posF_mono m.P (wN b m) m.f (bp2 m) (Nat.zero_le j)
    refine Nat.le_trans ?_ h2
    unfold bp2 bp1 bp0
    omega
  have hsec : ∀ j, secF c m j = secF b m j := fun j => by
    have h3 : bp3 c m = bp3 b m := by
      unfold bp3
      rw [hw]
    unfold secF secV
    rw [h3, l _ _ (by
      have := (bp3_le b ok).1
      unfold posS
      rw [this]
      unfold bp2 bp1 bp0
      omega)]
  unfold preV aF zF colP alpP
  simp only [hw, hc, hend, hfir, hsec]

def turnG (b : List Int) (m : BM) (t : Int) (i j : Nat) : Int := if j / 4 < i then turnV t (preV b m (j / 4)) (j % 4) else preV b m (j / 4) (j % 4)

theorem Turns_l0_all (b : List Int) (m : BM) {t : Int} (ht : 0 ≤ t ∧ t < 4) (h : 0 < t) (x1 : Bool) (x3 : List Int) : ∀ (d i k : Nat), i + d = 16 → d < k →
    law09_BcsevenTurns_l0 600 k t x1 (tab 64 (turnG b m t i)) x3 (i : Int) = some (x1, (tab 64 (turnG b m t 16), (x3, ()))) := by
  intro d
  induction d with
  | zero =>
    intro i k h1 h2
    obtain ⟨k, rfl⟩ : ∃ k', k = k' + 1 := ⟨k - 1, by omega⟩
    obtain rfl : i = 16 := by omega
    unfold law09_BcsevenTurns_l0 law09_BcsevenTurns_l0S
    have : ¬ (((16 : Nat) : Int) < 16) := by omega
    simp only [this, decide_false, cond_false]
  | succ d ih =>
    intro i k h1 h2
    obtain ⟨k, rfl⟩ : ∃ k', k = k' + 1 := ⟨k - 1, by omega⟩
    have hi : i < 16 := by omega
    have i2 : (i : Int) < 16 := by omega
    have ew : IntKind.wrap .i64 (t - 1) = t - 1 := w64 (by omega) (by omega)
    have j1 : (0 : Int) ≤ t - 1 := by omega
    have j2 : t - 1 < 4 := by omega
    unfold law09_BcsevenTurns_l0 law09_BcsevenTurns_l0S
    simp only [i2, ew, j1, j2, decide_true, cond_true, Int.natCast_nonneg, Bool.and_self, Int.toNat_natCast]
    have e : tab 64 (turnG b m t i) = tab 64 fun j => if j / 4 = i then preV b m i (j % 4) else turnG b m t i j := tab_congr fun j hj => by
      by_cases h3 : j / 4 = i
      · rw [if_pos h3]
        unfold turnG
        rw [if_neg (by omega), h3]
      · rw [if_neg h3]
    rw [nextI (by omega), e, out_turn (preV b m i) hi ht h, tab_congr fun j hj => show (if j / 4 = i then turnV t (preV b m i) (j % 4) else turnG b m t i j) = turnG b m t (i + 1) j by
      unfold turnG
      by_cases h3 : j / 4 = i
      · rw [if_pos h3, if_pos (by omega), h3]
      · rw [if_neg h3]
        by_cases h4 : j / 4 < i
        · rw [if_pos h4, if_pos (by omega)]
        · rw [if_neg h4, if_neg (by omega)]]
    exact ih (i + 1) k (by omega) (by omega)

theorem turnB_closed9 : ((List.range 8).all fun k => decide (k = 4 ∨ k = 5 → (bmOf k).W = 0 ∧ (bmOf k).T = 2)) = true := by decide +kernel

theorem turned {b : List Int} (hb : Bytes b) (hl : b.length = 16) {k : Nat} (hk : modeV (b.getD 0 0) = k) (h45 : k = 4 ∨ k = 5) {v : Int} (hv : 0 ≤ v ∧ v < 4) :
    bcseven_Decode 600 (lset b (k + 1) 2 v) = some (tab 64 fun j => turnV v (preV b (bmOf k) (j / 4)) (j % 4), (0, ())) := by
  have hk8 : k < 8 := by omega
  have h := List.all_eq_true.1 turnB_closed9 k (by simpa using hk8)
  simp only [decide_eq_true_eq] at h
  obtain ⟨hW, hT⟩ := h h45
  have hbase : (bmOf k).base = k + 1 := rfl
  have ok := bm_ok hk8
  have hcl : (lset b (k + 1) 2 v).length = 16 := by rw [lset_len, hl]
  have hc := lset_bytes hb (k + 1) 2 v
  have hbit := fun q => lset_bit hb (a := k + 1) (n := 2) (by omega) v q
  have hm : modeV ((lset b (k + 1) 2 v).getD 0 0) = k := mode_same hb hc hl hcl hk hk8 fun q hq => by rw [hbit q, if_neg (by omega)]
  rw [Decode_is hc hcl]
  unfold decAll
  rw [hm, if_neg (by omega), tab_congr fun j hj => show decF (lset b (k + 1) 2 v) (bmOf k) j = turnV v (preV b (bmOf k) (j / 4)) (j % 4) by
    have ht : tN (lset b (k + 1) 2 v) (bmOf k) = v := by
      unfold tN
      rw [hW, hT, hbase, Nat.add_zero]
      refine lv_of_bits (by omega) fun q h1 h2 => ?_
      rw [hbit q, if_pos ⟨h1, h2⟩]
    have hp : preV (lset b (k + 1) 2 v) (bmOf k) (j / 4) = preV b (bmOf k) (j / 4) := funext fun c => fields_same ok hW (fun q hq => by
      rw [hW, hT, hbase] at hq
      rw [hbit q, if_neg (by omega)]) _ _
    unfold decF texV
    rw [ht, hp]]

theorem law09_BcsevenTurns_true (b : List Int) (t : Int) (hb : ∀ x ∈ b, IntKind.u8.has x) (ht : IntKind.i64.has t) : ∃ F, law09_BcsevenTurns F b t = some (true, ()) := by
  have hb' := bytes_of hb
  refine ⟨600, ?_⟩
  unfold law09_BcsevenTurns
  rw [awake09]
  simp only [Option.bind_some]
  by_cases hl : b.length = 16
  · have hn : (((b.length : Nat) : Int) != 16) = false := by rw [hl]; rfl
    rw [hn]
    simp only [cond_false]
    by_cases h1 : t < 1
    · simp only [h1, decide_true, cond_true]
    · by_cases h3 : 3 < t
      · simp only [h1, h3, decide_true, decide_false, cond_true, cond_false]
      · simp only [h1, h3, decide_false, cond_false]
        rw [Mode_is hb' hl]
        simp only [Option.bind_some]
        have ht4 : 0 ≤ t ∧ t < 4 := by omega
        have key : ∀ k, modeV (b.getD 0 0) = k → (k = 4 ∨ k = 5) →
            bits_SetLow 600 b ((k + 1 : Nat) : Int) 2 0 = some (lset b (k + 1) 2 0, (0, ())) ∧ bits_SetLow 600 b ((k + 1 : Nat) : Int) 2 (IntKind.wrap .u64 t) = some (lset b (k + 1) 2 t, (0, ())) ∧
            bcseven_Decode 600 (lset b (k + 1) 2 0) = some (tab 64 (turnG b (bmOf k) t 0), (0, ())) ∧ bcseven_Decode 600 (lset b (k + 1) 2 t) = some (tab 64 (turnG b (bmOf k) t 16), (0, ())) := by
          intro k hk h45
          refine ⟨SetLow_ok (n := 2) (by omega) hb' (by omega) (by omega) (by omega) (by omega), ?_, ?_, ?_⟩
          · rw [wu64 (by omega) (by omega)]
            exact SetLow_ok (n := 2) (by omega) hb' (by omega) (by omega) (by omega) (by omega)
          · rw [turned hb' hl hk h45 (by omega), tab_congr fun j hj => show turnV 0 (preV b (bmOf k) (j / 4)) (j % 4) = turnG b (bmOf k) t 0 j by
              unfold turnG turnV
              rw [if_neg (by omega), if_neg (by omega)]]
          · rw [turned hb' hl hk h45 ht4, tab_congr fun j hj => show turnV t (preV b (bmOf k) (j / 4)) (j % 4) = turnG b (bmOf k) t 16 j by
              unfold turnG
              rw [if_pos (by omega)]]
        have loop : ∀ k, law09_BcsevenTurns_l0 600 600 t true (tab 64 (turnG b (bmOf k) t 0)) (tab 64 (turnG b (bmOf k) t 16)) (0 : Int) = _ := fun k => Turns_l0_all b (bmOf k) ht4 (by omega) true (tab 64 (turnG b (bmOf k) t 16)) 16 0 600 (by omega) (by omega)
        have z0 : ((0 : Int) != 0) = false := rfl
        by_cases h4 : modeV (b.getD 0 0) = 4
        · obtain ⟨k1, k2, k3, k4⟩ := key 4 h4 (Or.inl rfl)
          have e5 : IntKind.wrap .i64 (((4 : Nat) : Int) + 1) = ((4 + 1 : Nat) : Int) := nextI (by omega)
          rw [h4]
          simp only [show (((4 : Nat) : Int) != 4) = false from rfl, cond_false, e5, k1, k2, k3, k4, Option.bind_some, z0, loop, cond_true, beq_self_eq_true]
        · by_cases h5 : modeV (b.getD 0 0) = 5
          · obtain ⟨k1, k2, k3, k4⟩ := key 5 h5 (Or.inr rfl)
            have e5 : IntKind.wrap .i64 (((5 : Nat) : Int) + 1) = ((5 + 1 : Nat) : Int) := nextI (by omega)
            rw [h5]
            simp only [show (((5 : Nat) : Int) != 4) = true from rfl, show (((5 : Nat) : Int) != 5) = false from rfl, cond_true, cond_false, e5, k1, k2, k3, k4, Option.bind_some, z0, loop, beq_self_eq_true]
          · rw [bneT (show ((modeV (b.getD 0 0) : Nat) : Int) ≠ 4 by omega), bneT (show ((modeV (b.getD 0 0) : Nat) : Int) ≠ 5 by omega)]
            rfl
  · rw [bneT (by omega)]
    rfl

end Go.AE.Gn
