/- Layer 11: etctwo. EtctwoOlder. -/
import Derived.Test.YtdhhinbhckoipaaPure11e
set_option linter.unusedVariables false
set_option linter.unusedSimpArgs false
namespace Go.AE.Gn
open Go Go.AE

theorem bases_alpha (d : Bool) (A B : List Int) {h : Nat} (hh : h < 2) : (bases10 d A B).getD (h * 4 + 3) 0 = 255 := by
  rcases (by omega : h = 0 ∨ h = 1) with rfl | rfl <;> rfl

theorem paint_get (d f : Bool) (A B T W : List Int) {i c : Nat} (hi : i < 16) (hc : c < 4) : (paint10 d f A B T W).getD (i * 4 + c) 0 = (tex10 (bases10 d A B) T W f i).getD c 0 := by
  have h1 := tab_row_of (paint10_len d f A B T W) (show i * 4 + 4 ≤ 64 by omega)
  have h2 : List.take 4 (List.drop (i * 4) (paint10 d f A B T W)) = tex10 (bases10 d A B) T W f i := flatMap_part _ (fun _ _ => rfl) hi
  rw [← h2, h1, tab_get hc]

theorem base_alpha (b : List Int) (p : Bool) {i : Nat} (hi : i < 16) : baseF b p (i * 4 + 3) = 255 := by
  obtain ⟨m1, m2⟩ := mul4 i 3 (by omega)
  have four : ∀ l : List Int, l.getD 3 0 = 255 → l.getD 7 0 = 255 → l.getD 11 0 = 255 → l.getD 15 0 = 255 → fourF l (xW b p) (i * 4 + 3) = 255 := fun l h0 h1 h2 h3 => by
    have hw := xW_bound b p i
    unfold fourF
    rw [m1, m2]
    rcases (by omega : (xW b p).getD i 0 = 0 ∨ (xW b p).getD i 0 = 1 ∨ (xW b p).getD i 0 = 2 ∨ (xW b p).getD i 0 = 3) with h | h | h | h <;> rw [h]
    · exact h0
    · exact h1
    · exact h2
    · exact h3
  unfold baseF
  rcases kind4 b p with h | h | h | h
  · rw [if_pos h]
    unfold halvesF halfF
    rw [m1, m2]
    split
    · exact bases_alpha _ _ _ (half10_lt _ _)
    · unfold paintF
      rw [paint_get _ _ _ _ _ _ hi (by omega)]
      exact bases_alpha _ _ _ (half10_lt _ _)
  · rw [if_neg (by omega), if_pos h]
    exact four _ rfl rfl rfl rfl
  · rw [if_neg (by omega), if_neg (by omega), if_pos h]
    exact four _ rfl rfl rfl rfl
  · rw [if_neg (by omega), if_neg (by omega), if_neg (by omega)]
    unfold planarF planeF
    rw [if_pos m2]

theorem dec_row (b : List Int) (p : Bool) {i : Nat} (hi : i < 16) : (∀ c, c < 4 → dec11 b p (i * 4 + c) = 0) ∨ dec11 b p (i * 4 + 3) = 255 := by
  by_cases h : solidV b p = false ∧ kindV b p ≠ 3 ∧ (xW b p).getD i 0 = 2
  · left
    intro c hc
    unfold dec11 zF
    rw [(mul4 i c hc).1, if_pos h]
  · right
    unfold dec11 zF
    rw [(mul4 i 3 (by omega)).1, if_neg h]
    exact base_alpha b p hi

theorem dec_solid {b : List Int} {p : Bool} (h : solidV b p = true) : dec11 b p = baseF b p := by
  funext j
  unfold dec11 zF
  rw [if_neg (fun hh => by rw [h] at hh; cases hh.1)]

theorem dec_alpha (b : List Int) {i : Nat} (hi : i < 16) : dec11 b false (i * 4 + 3) = 255 := by
  rw [dec_solid rfl]
  exact base_alpha b false hi

theorem Older_l0_all (b : List Int) (x0 : List Int) (x1 : Bool) (x4 : Bool) (x5 : Bool) (x6 : List Int) (x7 : List Int) (x8 : List Int) (x9 : List Int) : ∀ (d i k : Nat), i + d = 16 → d < k →
    law11_EtctwoOlder_l0 600 k x0 x1 (tab 64 (dec11 b false)) (tab 64 (dec11 b true)) x4 x5 x6 x7 x8 x9 ((i : Int)) = some (.inr (x0, (x1, (x4, (x5, (x6, (x7, (x8, (x9, ()))))))))) := by
  intro d
  induction d with
  | zero =>
    intro i k h1 h2
    obtain ⟨k, rfl⟩ : ∃ k', k = k' + 1 := ⟨k - 1, by omega⟩
    obtain rfl : i = 16 := by omega
    unfold law11_EtctwoOlder_l0 law11_EtctwoOlder_l0S
    have : ¬ (((16 : Nat) : Int) < 16) := by omega
    simp only [this, decide_false, cond_false]
  | succ d ih =>
    intro i k h1 h2
    obtain ⟨k, rfl⟩ : ∃ k', k = k' + 1 := ⟨k - 1, by omega⟩
    have hi : i < 16 := by omega
    have i1 : (i : Int) < 16 := by omega
    have fin := ih (i + 1) k (by omega) (by omega)
    have a1 : (tab 64 (dec11 b false)).getD (3 + i * 4) 0 = 255 := by
      rw [tab_get (by omega), Nat.add_comm]
      exact dec_alpha b hi
    have a2 : (tab 64 (dec11 b true)).getD (3 + i * 4) 0 = dec11 b true (i * 4 + 3) := by
      rw [tab_get (by omega), Nat.add_comm]
    have z : ((255 : Int) != 255) = false := rfl
    unfold law11_EtctwoOlder_l0 law11_EtctwoOlder_l0S
    simp only [i1, decide_true, cond_true, Int.natCast_nonneg, Bool.and_self, Int.toNat_natCast, a1, a2, z, cond_false, tab_part (N := 64) (m := 4) (show i * 4 + 4 ≤ 64 by omega)]
    rw [nextI (by omega)]
    rcases dec_row b true hi with h | h
    · rw [show (tab 4 fun c => dec11 b true (i * 4 + c)) = [0, 0, 0, 0] from tab_congr (f := fun _ => 0) fun c hc => h c hc]
      simp only [beq_self_eq_true, Bool.not_true, cond_false]
      exact fin
    · rw [h]
      simp only [z, cond_false, fin]
      cases (!((tab 4 fun c => dec11 b true (i * 4 + c)) == [0, 0, 0, 0])) <;> rfl

theorem hset_same {b : List Int} (hb : Bytes b) (hl : b.length = 8) (h : hv b 30 1 = 1) : hset b 30 1 1 = b := by
  refine bytes_ext_high (hset_bytes hb 30 1 1) hb (hset_len _ _ _ _) fun q hq => ?_
  rw [hset_bit hb (by omega)]
  by_cases hc : 30 ≤ q ∧ q < 30 + 1
  · rw [if_pos hc]
    have := hv_digit b (a := 30) (n := 1) hc.1 hc.2
    rw [h] at this
    exact this
  · rw [if_neg hc]

theorem dec_old {b : List Int} (h : far10 (eDiff b) (eAs (eDiff b) b) (eBs (eDiff b) b) = 3) : tab 64 (dec11 b false) = dec10 b := by
  have hk : kindV b false = 0 := by
    unfold kindV
    exact if_pos h
  rw [dec_solid rfl]
  unfold baseF
  rw [if_pos hk]
  have : halvesF b false = paintF b false := by
    funext j
    unfold halvesF halfF
    rw [if_neg (fun hh => by cases hh.1)]
  rw [this]
  exact (paint_tab b false).symm

theorem dec_diff {b : List Int} (hb : Bytes b) (hl : b.length = 8) (h : eDiff b = true) : dec11 b true = dec11 b false := by
  have h1 : hv b 30 1 = 1 := by simpa [eDiff] using h
  have hbb : bb b true = bb b false := hset_same hb hl h1
  have hs : solidV b true = solidV b false := by
    unfold solidV
    rw [h1]
    rfl
  unfold dec11 baseF halvesF paintF basesV kindV xD xF xA xB xT xW
  rw [hbb, hs]

theorem law11_EtctwoOlder_true (b : List Int) (hb' : ∀ x ∈ b, IntKind.u8.has x) : ∃ F, law11_EtctwoOlder F b = some (true, ()) := by
  have hb := bytes_of hb'
  refine ⟨600, ?_⟩
  unfold law11_EtctwoOlder
  rw [awake11]
  simp only [Option.bind_some]
  by_cases hl : b.length = 8
  · have hn : (((b.length : Nat) : Int) != 8) = false := by rw [hl]; rfl
    have hB := Bases10_is (F := 600) (by omega) (eDiff b) (eFlip b) (eFair (eDiff b) b) [hv b 24 3, hv b 27 3] (eWs b)
    have hk : kindV b false = if far10 (eDiff b) (eAs (eDiff b) b) (eBs (eDiff b) b) = 3 then 0 else 1 + far10 (eDiff b) (eAs (eDiff b) b) (eBs (eDiff b) b) := rfl
    have hfb := far10_bound (eDiff b) (eAs (eDiff b) b) (eBs (eDiff b) b)
    have l0 := fun x5 x6 x7 x8 x9 => Older_l0_all b b true (eDiff b) x5 x6 x7 x8 x9 16 0 600 (by omega) (by omega)
    simp only [show ((0 : Nat) : Int) = 0 from rfl] at l0
    have z : ((0 : Int) != 0) = false := rfl
    rw [hn, Decode11_is hb hl, Decode11_is hb hl, (Decode10_is (by omega) hb hl).1, Parts10_is (by omega) hb hl, (Kind_is hb hl false).1]
    unfold eP
    simp only [cond_false, Option.bind_some, hB, z, l0]
    by_cases h3 : far10 (eDiff b) (eAs (eDiff b) b) (eBs (eDiff b) b) = 3
    · rw [if_pos h3] at hk
      rw [hk, beqT h3, dec_old h3]
      cases hd : eDiff b
      · simp only [beq_self_eq_true, Bool.not_true, cond_false, cond_true, (Kind_is hb hl false).1, Option.bind_some, hk]
      · have := dec_diff hb hl hd
        rw [this, dec_old h3]
        simp only [beq_self_eq_true, Bool.not_true, cond_false, cond_true]
    · rw [if_neg h3] at hk
      have hd : eDiff b = true := by
        cases hd : eDiff b
        · rw [hd] at h3
          exact absurd rfl h3
        · rfl
      rw [hk, beqF h3, beqF (show 1 + far10 (eDiff b) (eAs (eDiff b) b) (eBs (eDiff b) b) ≠ 0 by omega), dec_diff hb hl hd, hd]
      simp only [beq_self_eq_true, Bool.not_true, cond_false, cond_true]
  · rw [bneT (by omega)]
    rfl

end Go.AE.Gn
