/- Layer 11: etctwo. Blocks; EtctwoDecodes. -/
import Derived.Test.YtdhhinbhckoipaaPure11c
set_option linter.unusedVariables false
set_option linter.unusedSimpArgs false
namespace Go.AE.Gn
open Go Go.AE

def bb (b : List Int) (p : Bool) : List Int := if p then hset b 30 1 1 else b
def solidV (b : List Int) (p : Bool) : Bool := !p || (hv b 30 1 == 1)
def xD (b : List Int) (p : Bool) : Bool := eDiff (bb b p)
def xF (b : List Int) (p : Bool) : Bool := eFlip (bb b p)
def xA (b : List Int) (p : Bool) : List Int := eAs (eDiff (bb b p)) (bb b p)
def xB (b : List Int) (p : Bool) : List Int := eBs (eDiff (bb b p)) (bb b p)
def xT (b : List Int) (p : Bool) : List Int := [hv (bb b p) 24 3, hv (bb b p) 27 3]
def xW (b : List Int) (p : Bool) : List Int := eWs (bb b p)
def kindV (b : List Int) (p : Bool) : Int := if far10 (xD b p) (xA b p) (xB b p) = 3 then 0 else 1 + far10 (xD b p) (xA b p) (xB b p)

theorem bb_ok {b : List Int} (hb : Bytes b) (hl : b.length = 8) (p : Bool) : Bytes (bb b p) ∧ (bb b p).length = 8 := by
  unfold bb
  cases p
  · exact ⟨hb, hl⟩
  · exact ⟨hset_bytes hb 30 1 1, by rw [if_pos rfl, hset_len, hl]⟩

theorem far10_bound (d : Bool) (A B : List Int) : 0 ≤ far10 d A B ∧ far10 d A B ≤ 3 := by
  unfold far10
  cases d
  · simp
  · simp only [if_true]
    split
    · omega
    · split
      · omega
      · split <;> omega

theorem read_is {b : List Int} (hb : Bytes b) (hl : b.length = 8) (p : Bool) : etctwo_read 600 b p = some (b, (xD b p, (xF b p, (xA b p, (xB b p, (xT b p, (xW b p, (solidV b p, ())))))))) := by
  have hP := Parts10_is (F := 600) (by omega) (bb_ok hb hl p).1 (bb_ok hb hl p).2
  unfold etctwo_read
  cases p
  · have hP' : etcone_Parts 600 b = some (eP b, (0, ())) := hP
    simp only [Bool.not_false, cond_true, cond_false, hP', Option.bind_some]
    rfl
  · have hP' : etcone_Parts 600 (hset b 30 1 1) = some (eP (hset b 30 1 1), (0, ())) := hP
    have g : etctwo_block_get 600 b false false [0, 0, 0] [0, 0, 0] [0, 0] etctwo_LayT520 false [(30 : Int)] = some (pk b [30] 1, ()) := get_is hb hl false false [0, 0, 0] [0, 0, 0] [0, 0] etctwo_LayT520 false (posn_of (L := [30]) (by decide))
    have hs : bits_SetHigh 600 b (30 : Int) (1 : Int) (1 : Int) = some (hset b 30 1 1, (0, ())) := SetHigh_ok (a := 30) (n := 1) (by omega) hb (by omega) (by omega) (by omega) (by omega)
    have hk : pk b [30] 1 = hv b 30 1 := by
      simp only [pk, List.getD_cons_zero]
      omega
    simp only [Bool.not_true, cond_true, cond_false, g, hs, hP', Option.bind_some, hk]
    rfl

theorem rparts_is {b : List Int} (hb : Bytes b) (hl : b.length = 8) (p : Bool) : ref11_parts 600 b p = some ((xD b p, (xF b p, (xA b p, (xB b p, (xT b p, (xW b p, ())))))), ()) := by
  have hP := rParts10_is (F := 600) (by omega) (bb_ok hb hl p).1 (bb_ok hb hl p).2
  unfold ref11_parts
  cases p
  · have hP' : ref10_Parts 600 b = some (eP b, (0, ())) := hP
    simp only [cond_false, hP', Option.bind_some]
    rfl
  · have hP' : ref10_Parts 600 (hset b 30 1 1) = some (eP (hset b 30 1 1), (0, ())) := hP
    have hs : ref02_Set 600 b (30 : Int) (1 : Int) true (1 : Int) = some (hset b 30 1 1, (0, ())) := SetTop_ok (a := 30) (n := 1) (by omega) hb (by omega) (by omega) (by omega) (by omega)
    simp only [cond_true, hs, hP', Option.bind_some]
    rfl

theorem xFair (b : List Int) (p : Bool) : Fair10 (xA b p) (xB b p) := eFair _ _
theorem xW_bound (b : List Int) (p : Bool) : ∀ i, 0 ≤ (xW b p).getD i 0 ∧ (xW b p).getD i 0 ≤ 3 := eWs_bound _

theorem kind_is (b : List Int) (p : Bool) (a0 : List Int) (a7 : Bool) : etctwo_block_kind 600 a0 (xD b p) (xF b p) (xA b p) (xB b p) (xT b p) (xW b p) a7 = some (kindV b p, ()) := by
  unfold etctwo_block_kind kindV
  rw [Bases10_is (by omega) _ _ (xFair b p)]
  have hf := far10_bound (xD b p) (xA b p) (xB b p)
  simp only [Option.bind_some]
  by_cases h : far10 (xD b p) (xA b p) (xB b p) = 3
  · rw [if_pos h, beqT h]
    rfl
  · rw [if_neg h, beqF h, w64 (by omega) (by omega)]
    rfl

theorem Kind_is {b : List Int} (hb : Bytes b) (hl : b.length = 8) (p : Bool) : etctwo_Kind 600 b p = some (kindV b p, ()) ∧ ref11_Kind 600 b p = some (kindV b p, ()) := by
  have hn : (((b.length : Nat) : Int) != 8) = false := by rw [hl]; rfl
  unfold etctwo_Kind ref11_Kind
  rw [hn, read_is hb hl p, rparts_is hb hl p]
  simp only [cond_false, Option.bind_some, kind_is, true_and]
  unfold kindV
  rw [rBases10_is (by omega) _ _ (xFair b p)]
  have hf := far10_bound (xD b p) (xA b p) (xB b p)
  simp only [Option.bind_some]
  by_cases h : far10 (xD b p) (xA b p) (xB b p) = 3
  · rw [if_pos h, beqT h]
    rfl
  · rw [if_neg h, beqF h, w64 (by omega) (by omega), Int.add_comm]
    rfl
theorem Kind_none {b : List Int} (hl : b.length ≠ 8) (p : Bool) : etctwo_Kind 600 b p = some (0, ()) ∧ ref11_Kind 600 b p = some (0, ()) := by
  unfold etctwo_Kind ref11_Kind
  rw [bneT (by omega)]
  exact ⟨rfl, rfl⟩

/-! ### halves -/

def halfF (s f : Bool) (W bs : List Int) (q : Nat → Int) (j : Nat) : Int := if s = false ∧ W.getD (j / 4) 0 = 0 then bs.getD (half10 f (j / 4 : Nat) * 4 + j % 4) 0 else q j
def upTo (i : Nat) (g q : Nat → Int) (j : Nat) : Int := if j / 4 < i then g j else q j

theorem upTo_row {i : Nat} {g q h : Nat → Int} (hh : ∀ c, c < 4 → h c = g (i * 4 + c)) : (tab 64 fun j => if j / 4 = i then h (j % 4) else upTo i g q j) = tab 64 (upTo (i + 1) g q) := tab_congr fun j hj => by
  unfold upTo
  by_cases h3 : j / 4 = i
  · rw [if_pos h3, if_pos (by omega), hh _ (Nat.mod_lt _ (by decide)), ← h3]
    congr 1
    omega
  · rw [if_neg h3]
    by_cases h4 : j / 4 < i
    · rw [if_pos h4, if_pos (by omega)]
    · rw [if_neg h4, if_neg (by omega)]
theorem upTo_keep {i : Nat} {g q : Nat → Int} (hh : ∀ j, j / 4 = i → q j = g j) : tab 64 (upTo i g q) = tab 64 (upTo (i + 1) g q) := tab_congr fun j hj => by
  unfold upTo
  by_cases h4 : j / 4 < i
  · rw [if_pos h4, if_pos (by omega)]
  · rw [if_neg h4]
    by_cases h3 : j / 4 = i
    · rw [if_pos (by omega), hh j h3]
    · rw [if_neg (by omega)]
theorem upTo_zero (g q : Nat → Int) : tab 64 (upTo 0 g q) = tab 64 q := tab_congr fun j hj => if_neg (by omega)
theorem upTo_all (g q : Nat → Int) : tab 64 (upTo 16 g q) = tab 64 g := tab_congr fun j hj => if_pos (by omega)

theorem halves_l0_all (x0 : List Int) (x1 : Bool) (x3 : List Int) (x4 : List Int) (x5 : List Int) (x6 : List Int) (x8 : List Int) (s f : Bool) {W bs : List Int} (hbs : bs.length = 8) (q : Nat → Int) : ∀ (d i k : Nat), i + d = 16 → d < k →
    etctwo_block_halves_l0 600 k x0 x1 f x3 x4 x5 x6 s x8 (tab 64 (upTo i (halfF s f W bs q) q)) bs W ((i : Int)) = some (x8, (tab 64 (halfF s f W bs q), ())) := by
  intro d
  induction d with
  | zero =>
    intro i k h1 h2
    obtain ⟨k, rfl⟩ : ∃ k', k = k' + 1 := ⟨k - 1, by omega⟩
    obtain rfl : i = 16 := by omega
    unfold etctwo_block_halves_l0 etctwo_block_halves_l0S
    have : ¬ (((16 : Nat) : Int) < 16) := by omega
    simp only [this, decide_false, cond_false, upTo_all]
  | succ d ih =>
    intro i k h1 h2
    obtain ⟨k, rfl⟩ : ∃ k', k = k' + 1 := ⟨k - 1, by omega⟩
    have hi : i < 16 := by omega
    have i1 : (i : Int) < 16 := by omega
    have fin := ih (i + 1) k (by omega) (by omega)
    unfold etctwo_block_halves_l0 etctwo_block_halves_l0S
    cases s
    · by_cases hw : W.getD i 0 = 0
      · have hh := half10_lt f i
        have j2 : ((half10 f (i : Nat) : Nat) : Int) < 2 := by omega
        simp only [i1, decide_true, cond_true, Int.natCast_nonneg, Bool.and_self, Int.toNat_natCast, Bool.not_false, beqT hw, (Half10_is 600 f i).1, Option.bind_some, j2, tab_row_of hbs (show half10 f (i : Nat) * 4 + 4 ≤ 8 by omega), tab_row (show i * 4 + 4 ≤ 64 by omega)]
        rw [nextI (by omega), show (tab 64 fun j => if j / 4 = i then bs.getD (half10 f (i : Int) * 4 + j % 4) 0 else upTo i (halfF false f W bs q) q j) = tab 64 (upTo (i + 1) (halfF false f W bs q) q) from upTo_row (h := fun c => bs.getD (half10 f (i : Int) * 4 + c) 0) (fun c hc => by
          unfold halfF
          rw [(mul4 i c hc).1, (mul4 i c hc).2, if_pos ⟨rfl, hw⟩])]
        exact fin
      · simp only [i1, decide_true, cond_true, Int.natCast_nonneg, Bool.and_self, Int.toNat_natCast, Bool.not_false, beqF hw, cond_false]
        rw [nextI (by omega), upTo_keep (i := i) (fun j hj => by
          unfold halfF
          rw [hj, if_neg (fun h => hw h.2)])]
        exact fin
    · simp only [i1, decide_true, cond_true, Int.natCast_nonneg, Bool.and_self, Int.toNat_natCast, Bool.not_true, cond_false]
      rw [nextI (by omega), upTo_keep (i := i) (fun j hj => by
        unfold halfF
        rw [if_neg (fun h => by cases h.1)])]
      exact fin

theorem paint10_len (d f : Bool) (A B T W : List Int) : (paint10 d f A B T W).length = 64 := flatMap_len (m := 4) _ (fun _ _ => rfl)

def paintF (b : List Int) (p : Bool) (j : Nat) : Int := (paint10 (xD b p) (xF b p) (xA b p) (xB b p) (xT b p) (xW b p)).getD j 0
def basesV (b : List Int) (p : Bool) : List Int := bases10 (xD b p) (xA b p) (xB b p)
theorem paint_tab (b : List Int) (p : Bool) : paint10 (xD b p) (xF b p) (xA b p) (xB b p) (xT b p) (xW b p) = tab 64 (paintF b p) := tab_all (paint10_len _ _ _ _ _ _)

def halvesF (b : List Int) (p : Bool) : Nat → Int := halfF (solidV b p) (xF b p) (xW b p) (basesV b p) (paintF b p)

theorem halves_is (b : List Int) (p : Bool) (a0 : List Int) : etctwo_block_halves 600 a0 (xD b p) (xF b p) (xA b p) (xB b p) (xT b p) (xW b p) (solidV b p) = some (tab 64 (halvesF b p), ()) := by
  unfold etctwo_block_halves
  rw [Paint10_is (by omega) _ _ (xFair b p) (xW_bound b p), Bases10_is (by omega) _ _ (xFair b p), paint_tab]
  have h := halves_l0_all a0 (xD b p) (xA b p) (xB b p) (xT b p) (xW b p) etctwo_DecodeT711 (solidV b p) (xF b p) (W := xW b p) (bs := basesV b p) (bases10_len _ _ _) (paintF b p) 16 0 600 (by omega) (by omega)
  rw [upTo_zero, show ((0 : Nat) : Int) = 0 from rfl] at h
  simp only [Option.bind_some]
  rw [show bases10 (xD b p) (xA b p) (xB b p) = basesV b p from rfl, h]
  rfl

/-! ### blocks -/

def zF (s : Bool) (kind : Int) (W : List Int) (g : Nat → Int) (j : Nat) : Int := if s = false ∧ kind ≠ 3 ∧ W.getD (j / 4) 0 = 2 then 0 else g j

theorem zero_row : [(0 : Int), 0, 0, 0] = tab 4 fun _ => 0 := rfl

theorem dec_l0_all (x0 : List Int) (x1 : List Int) (x2 : Bool) (x3 : Bool) (x4 : List Int) (x5 : List Int) (x6 : List Int) (x7 : List Int) (s : Bool) (kind : Int) (W : List Int) (g : Nat → Int) : ∀ (d i k : Nat), i + d = 16 → d < k →
    etctwo_Decode_l0 600 k x0 x1 x2 x3 x4 x5 x6 x7 s kind (tab 64 (upTo i (zF s kind W g) g)) W ((i : Int)) = some (x0, (tab 64 (zF s kind W g), ())) := by
  intro d
  induction d with
  | zero =>
    intro i k h1 h2
    obtain ⟨k, rfl⟩ : ∃ k', k = k' + 1 := ⟨k - 1, by omega⟩
    obtain rfl : i = 16 := by omega
    unfold etctwo_Decode_l0 etctwo_Decode_l0S
    have : ¬ (((16 : Nat) : Int) < 16) := by omega
    simp only [this, decide_false, cond_false, upTo_all]
  | succ d ih =>
    intro i k h1 h2
    obtain ⟨k, rfl⟩ : ∃ k', k = k' + 1 := ⟨k - 1, by omega⟩
    have i1 : (i : Int) < 16 := by omega
    have fin := ih (i + 1) k (by omega) (by omega)
    have keep : (¬ (s = false ∧ kind ≠ 3 ∧ W.getD i 0 = 2)) → tab 64 (upTo i (zF s kind W g) g) = tab 64 (upTo (i + 1) (zF s kind W g) g) := fun h => upTo_keep fun j hj => by
      unfold zF
      rw [hj, if_neg h]
    unfold etctwo_Decode_l0 etctwo_Decode_l0S
    cases s
    · by_cases hk : kind = 3
      · simp only [i1, decide_true, cond_true, Int.natCast_nonneg, Bool.and_self, Int.toNat_natCast, Bool.not_false, hk, show ((3 : Int) != 3) = false from rfl, cond_false]
        rw [hk] at keep fin
        rw [nextI (by omega), keep (fun h => h.2.1 rfl)]
        exact fin
      · by_cases hw : W.getD i 0 = 2
        · simp only [i1, decide_true, cond_true, Int.natCast_nonneg, Bool.and_self, Int.toNat_natCast, Bool.not_false, bneT hk, beqT hw, zero_row, tab_row (show i * 4 + 4 ≤ 64 by omega)]
          rw [nextI (by omega), show (tab 64 fun j => if j / 4 = i then 0 else upTo i (zF false kind W g) g j) = tab 64 (upTo (i + 1) (zF false kind W g) g) from upTo_row (h := fun _ => 0) (fun c hc => by
            unfold zF
            rw [(mul4 i c hc).1, if_pos ⟨rfl, hk, hw⟩])]
          exact fin
        · simp only [i1, decide_true, cond_true, Int.natCast_nonneg, Bool.and_self, Int.toNat_natCast, Bool.not_false, bneT hk, beqF hw, cond_false]
          rw [nextI (by omega), keep (fun h => hw h.2.2)]
          exact fin
    · simp only [i1, decide_true, cond_true, Int.natCast_nonneg, Bool.and_self, Int.toNat_natCast, Bool.not_true, cond_false]
      rw [nextI (by omega), keep (fun h => by cases h.1)]
      exact fin

def baseF (b : List Int) (p : Bool) : Nat → Int := if kindV b p = 0 then halvesF b p else if kindV b p = 1 then fourF (fourT b) (xW b p) else if kindV b p = 2 then fourF (fourH b) (xW b p) else planarF b
/-- A block's texels. -/
def dec11 (b : List Int) (p : Bool) : Nat → Int := zF (solidV b p) (kindV b p) (xW b p) (baseF b p)

theorem kind4 (b : List Int) (p : Bool) : kindV b p = 0 ∨ kindV b p = 1 ∨ kindV b p = 2 ∨ kindV b p = 3 := by
  have := far10_bound (xD b p) (xA b p) (xB b p)
  unfold kindV
  split <;> omega

theorem Decode11_is {b : List Int} (hb : Bytes b) (hl : b.length = 8) (p : Bool) : etctwo_Decode 600 b p = some (tab 64 (dec11 b p), (0, ())) := by
  have hn : (((b.length : Nat) : Int) != 8) = false := by rw [hl]; rfl
  unfold etctwo_Decode
  rw [hn, read_is hb hl p]
  simp only [cond_false, Option.bind_some, kind_is]
  have l0 := fun g => dec_l0_all etctwo_DecodeT711 b (xD b p) (xF b p) (xA b p) (xB b p) (xT b p) (xW b p) (solidV b p) (kindV b p) (xW b p) g 16 0 600 (by omega) (by omega)
  simp only [upTo_zero, show ((0 : Nat) : Int) = 0 from rfl] at l0
  have hT := (ofT_is hb hl (xD b p) (xF b p) (xA b p) (xB b p) (xT b p) (xW_bound b p) (solidV b p)).1
  have hH := (ofH_is hb hl (xD b p) (xF b p) (xA b p) (xB b p) (xT b p) (xW_bound b p) (solidV b p)).1
  have hp := (planar_is hb hl (xD b p) (xF b p) (xA b p) (xB b p) (xT b p) (xW b p) (solidV b p)).1
  have hd := halves_is b p b
  unfold dec11 baseF
  rcases kind4 b p with h | h | h | h
  · rw [h] at l0 ⊢
    simp only [beq_self_eq_true, cond_true, hd, Option.bind_some, l0, if_true]
  · rw [h] at l0 ⊢
    simp only [show ((1 : Int) == 0) = false from rfl, beq_self_eq_true, cond_true, cond_false, hT, Option.bind_some, l0, show ¬ (1 : Int) = 0 by decide, if_false, if_true]
  · rw [h] at l0 ⊢
    simp only [show ((2 : Int) == 0) = false from rfl, show ((2 : Int) == 1) = false from rfl, beq_self_eq_true, cond_true, cond_false, hH, Option.bind_some, l0, show ¬ (2 : Int) = 0 by decide, show ¬ (2 : Int) = 1 by decide, if_false, if_true]
  · rw [h] at l0 ⊢
    simp only [show ((3 : Int) == 0) = false from rfl, show ((3 : Int) == 1) = false from rfl, show ((3 : Int) == 2) = false from rfl, beq_self_eq_true, cond_true, cond_false, hp, Option.bind_some, l0, show ¬ (3 : Int) = 0 by decide, show ¬ (3 : Int) = 1 by decide, show ¬ (3 : Int) = 2 by decide, if_false]

theorem Decode11_none {b : List Int} (hl : b.length ≠ 8) (p : Bool) : etctwo_Decode 600 b p = some (etctwo_DecodeT711, (1, ())) ∧ ref11_Decode 600 b p = some (etctwo_DecodeT711, (1, ())) := by
  unfold etctwo_Decode ref11_Decode
  rw [bneT (by omega)]
  exact ⟨rfl, rfl⟩

end Go.AE.Gn
