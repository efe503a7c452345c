/- Layer 11: etctwo. Blocks, by the document; EtctwoDecodes. -/
import Derived.Test.YtdhhinbhckoipaaPure11d
set_option linter.unusedVariables false
set_option linter.unusedSimpArgs false
namespace Go.AE.Gn
open Go Go.AE

theorem rdec_T {b : List Int} (hb : Bytes b) (hl : b.length = 8) (s d f : Bool) {A B T W bs : List Int} (hW : ∀ i, 0 ≤ W.getD i 0 ∧ W.getD i 0 ≤ 3) (x1 : List Int) (q : Nat → Int) : ∀ (dd i k : Nat), i + dd = 16 → dd < k →
    ref11_Decode_l0 600 k b x1 ((1 : Int)) s d f A B T W (tab 64 (upTo i (zF s 1 W (fourF (fourT b) W)) q)) bs ((i : Int)) = some (x1, (tab 64 (zF s 1 W (fourF (fourT b) W)), ())) := by
  intro dd
  induction dd with
  | zero =>
    intro i k h1 h2
    obtain ⟨k, rfl⟩ : ∃ k', k = k' + 1 := ⟨k - 1, by omega⟩
    obtain rfl : i = 16 := by omega
    unfold ref11_Decode_l0 ref11_Decode_l0S
    have : ¬ (((16 : Nat) : Int) < 16) := by omega
    simp only [this, decide_false, cond_false, upTo_all]
  | succ dd ih =>
    intro i k h1 h2
    obtain ⟨k, rfl⟩ : ∃ k', k = k' + 1 := ⟨k - 1, by omega⟩
    have i1 : (i : Int) < 16 := by omega
    have h4 := (ofT_is hb hl d f A B T hW s).2
    have hw := hW i
    have j2 : W.getD i 0 < 4 := by omega
    have fin := ih (i + 1) k (by omega) (by omega)
    have row : ∀ c, c < 4 → ¬ (s = false ∧ W.getD i 0 = 2) → (fourT b).getD ((W.getD i 0).toNat * 4 + c) 0 = zF s 1 W (fourF (fourT b) W) (i * 4 + c) := fun c hc h => by
      unfold zF fourF
      rw [(mul4 i c hc).1, (mul4 i c hc).2, if_neg (fun hh => h ⟨hh.1, hh.2.2⟩)]
    unfold ref11_Decode_l0 ref11_Decode_l0S
    cases s
    · by_cases h2' : W.getD i 0 = 2
      · simp only [i1, decide_true, cond_true, beq_self_eq_true, h4, Option.bind_some, Int.natCast_nonneg, Bool.and_self, Int.toNat_natCast, hw.1, j2, tab_row_of (show (fourT b).length = 16 from rfl) (show (W.getD i 0).toNat * 4 + 4 ≤ 16 by omega), tab_row (show i * 4 + 4 ≤ 64 by omega), Bool.not_false, beqT h2', zero_row]
        rw [nextI (by omega), tab_congr fun j hj => show (if j / 4 = i then 0 else if j / 4 = i then (fourT b).getD ((W.getD i 0).toNat * 4 + j % 4) 0 else upTo i (zF false 1 W (fourF (fourT b) W)) q j) = upTo (i + 1) (zF false 1 W (fourF (fourT b) W)) q j by
          unfold upTo
          by_cases h3 : j / 4 = i
          · rw [if_pos h3, if_pos (by omega)]
            unfold zF
            rw [h3, if_pos ⟨rfl, by decide, h2'⟩]
          · rw [if_neg h3, if_neg h3]
            by_cases h5 : j / 4 < i
            · rw [if_pos h5, if_pos (by omega)]
            · rw [if_neg h5, if_neg (by omega)]]
        exact fin
      · simp only [i1, decide_true, cond_true, beq_self_eq_true, h4, Option.bind_some, Int.natCast_nonneg, Bool.and_self, Int.toNat_natCast, hw.1, j2, tab_row_of (show (fourT b).length = 16 from rfl) (show (W.getD i 0).toNat * 4 + 4 ≤ 16 by omega), tab_row (show i * 4 + 4 ≤ 64 by omega), Bool.not_false, beqF h2', cond_false]
        rw [nextI (by omega), show (tab 64 fun j => if j / 4 = i then (fourT b).getD ((W.getD i 0).toNat * 4 + j % 4) 0 else upTo i (zF false 1 W (fourF (fourT b) W)) q j) = tab 64 (upTo (i + 1) (zF false 1 W (fourF (fourT b) W)) q) from upTo_row (h := fun c => (fourT b).getD ((W.getD i 0).toNat * 4 + c) 0) (fun c hc => row c hc (fun h => h2' h.2))]
        exact fin
    · simp only [i1, decide_true, cond_true, beq_self_eq_true, h4, Option.bind_some, Int.natCast_nonneg, Bool.and_self, Int.toNat_natCast, hw.1, j2, tab_row_of (show (fourT b).length = 16 from rfl) (show (W.getD i 0).toNat * 4 + 4 ≤ 16 by omega), tab_row (show i * 4 + 4 ≤ 64 by omega), Bool.not_true, cond_false]
      rw [nextI (by omega), show (tab 64 fun j => if j / 4 = i then (fourT b).getD ((W.getD i 0).toNat * 4 + j % 4) 0 else upTo i (zF true 1 W (fourF (fourT b) W)) q j) = tab 64 (upTo (i + 1) (zF true 1 W (fourF (fourT b) W)) q) from upTo_row (h := fun c => (fourT b).getD ((W.getD i 0).toNat * 4 + c) 0) (fun c hc => row c hc (fun h => by cases h.1))]
      exact fin

theorem rdec_H {b : List Int} (hb : Bytes b) (hl : b.length = 8) (s d f : Bool) {A B T W bs : List Int} (hW : ∀ i, 0 ≤ W.getD i 0 ∧ W.getD i 0 ≤ 3) (x1 : List Int) (q : Nat → Int) : ∀ (dd i k : Nat), i + dd = 16 → dd < k →
    ref11_Decode_l0 600 k b x1 ((2 : Int)) s d f A B T W (tab 64 (upTo i (zF s 2 W (fourF (fourH b) W)) q)) bs ((i : Int)) = some (x1, (tab 64 (zF s 2 W (fourF (fourH b) W)), ())) := by
  intro dd
  induction dd with
  | zero =>
    intro i k h1 h2
    obtain ⟨k, rfl⟩ : ∃ k', k = k' + 1 := ⟨k - 1, by omega⟩
    obtain rfl : i = 16 := by omega
    unfold ref11_Decode_l0 ref11_Decode_l0S
    have : ¬ (((16 : Nat) : Int) < 16) := by omega
    simp only [this, decide_false, cond_false, upTo_all]
  | succ dd ih =>
    intro i k h1 h2
    obtain ⟨k, rfl⟩ : ∃ k', k = k' + 1 := ⟨k - 1, by omega⟩
    have i1 : (i : Int) < 16 := by omega
    have h4 := (ofH_is hb hl d f A B T hW s).2
    have hw := hW i
    have j2 : W.getD i 0 < 4 := by omega
    have fin := ih (i + 1) k (by omega) (by omega)
    have row : ∀ c, c < 4 → ¬ (s = false ∧ W.getD i 0 = 2) → (fourH b).getD ((W.getD i 0).toNat * 4 + c) 0 = zF s 2 W (fourF (fourH b) W) (i * 4 + c) := fun c hc h => by
      unfold zF fourF
      rw [(mul4 i c hc).1, (mul4 i c hc).2, if_neg (fun hh => h ⟨hh.1, hh.2.2⟩)]
    unfold ref11_Decode_l0 ref11_Decode_l0S
    cases s
    · by_cases h2' : W.getD i 0 = 2
      · simp only [i1, decide_true, cond_true, show ((2 : Int) == 1) = false from rfl, beq_self_eq_true, cond_false, h4, Option.bind_some, Int.natCast_nonneg, Bool.and_self, Int.toNat_natCast, hw.1, j2, tab_row_of (show (fourH b).length = 16 from rfl) (show (W.getD i 0).toNat * 4 + 4 ≤ 16 by omega), tab_row (show i * 4 + 4 ≤ 64 by omega), Bool.not_false, beqT h2', zero_row]
        rw [nextI (by omega), tab_congr fun j hj => show (if j / 4 = i then 0 else if j / 4 = i then (fourH b).getD ((W.getD i 0).toNat * 4 + j % 4) 0 else upTo i (zF false 2 W (fourF (fourH b) W)) q j) = upTo (i + 1) (zF false 2 W (fourF (fourH b) W)) q j by
          unfold upTo
          by_cases h3 : j / 4 = i
          · rw [if_pos h3, if_pos (by omega)]
            unfold zF
            rw [h3, if_pos ⟨rfl, by decide, h2'⟩]
          · rw [if_neg h3, if_neg h3]
            by_cases h5 : j / 4 < i
            · rw [if_pos h5, if_pos (by omega)]
            · rw [if_neg h5, if_neg (by omega)]]
        exact fin
      · simp only [i1, decide_true, cond_true, show ((2 : Int) == 1) = false from rfl, beq_self_eq_true, cond_false, h4, Option.bind_some, Int.natCast_nonneg, Bool.and_self, Int.toNat_natCast, hw.1, j2, tab_row_of (show (fourH b).length = 16 from rfl) (show (W.getD i 0).toNat * 4 + 4 ≤ 16 by omega), tab_row (show i * 4 + 4 ≤ 64 by omega), Bool.not_false, beqF h2', cond_false]
        rw [nextI (by omega), show (tab 64 fun j => if j / 4 = i then (fourH b).getD ((W.getD i 0).toNat * 4 + j % 4) 0 else upTo i (zF false 2 W (fourF (fourH b) W)) q j) = tab 64 (upTo (i + 1) (zF false 2 W (fourF (fourH b) W)) q) from upTo_row (h := fun c => (fourH b).getD ((W.getD i 0).toNat * 4 + c) 0) (fun c hc => row c hc (fun h => h2' h.2))]
        exact fin
    · simp only [i1, decide_true, cond_true, show ((2 : Int) == 1) = false from rfl, beq_self_eq_true, cond_false, h4, Option.bind_some, Int.natCast_nonneg, Bool.and_self, Int.toNat_natCast, hw.1, j2, tab_row_of (show (fourH b).length = 16 from rfl) (show (W.getD i 0).toNat * 4 + 4 ≤ 16 by omega), tab_row (show i * 4 + 4 ≤ 64 by omega), Bool.not_true, cond_false]
      rw [nextI (by omega), show (tab 64 fun j => if j / 4 = i then (fourH b).getD ((W.getD i 0).toNat * 4 + j % 4) 0 else upTo i (zF true 2 W (fourF (fourH b) W)) q j) = tab 64 (upTo (i + 1) (zF true 2 W (fourF (fourH b) W)) q) from upTo_row (h := fun c => (fourH b).getD ((W.getD i 0).toNat * 4 + c) 0) (fun c hc => row c hc (fun h => by cases h.1))]
      exact fin

theorem rdec_0 (x0 : List Int) (x1 : List Int) (x4 : Bool) (x6 : List Int) (x7 : List Int) (x8 : List Int) (s f : Bool) {W bs : List Int} (hbs : bs.length = 8) (q : Nat → Int) : ∀ (dd i k : Nat), i + dd = 16 → dd < k →
    ref11_Decode_l0 600 k x0 x1 0 s x4 f x6 x7 x8 W (tab 64 (upTo i (zF s 0 W (halfF s f W bs q)) q)) bs ((i : Int)) = some (x1, (tab 64 (zF s 0 W (halfF s f W bs q)), ())) := by
  intro dd
  induction dd with
  | zero =>
    intro i k h1 h2
    obtain ⟨k, rfl⟩ : ∃ k', k = k' + 1 := ⟨k - 1, by omega⟩
    obtain rfl : i = 16 := by omega
    unfold ref11_Decode_l0 ref11_Decode_l0S
    have : ¬ (((16 : Nat) : Int) < 16) := by omega
    simp only [this, decide_false, cond_false, upTo_all]
  | succ dd ih =>
    intro i k h1 h2
    obtain ⟨k, rfl⟩ : ∃ k', k = k' + 1 := ⟨k - 1, by omega⟩
    have i1 : (i : Int) < 16 := by omega
    have fin := ih (i + 1) k (by omega) (by omega)
    have z1 : ((0 : Int) == 1) = false := rfl
    have z2 : ((0 : Int) == 2) = false := rfl
    unfold ref11_Decode_l0 ref11_Decode_l0S
    cases s
    · by_cases hw : W.getD i 0 = 0
      · have hh := half10_lt f i
        have j2 : ((half10 f (i : Nat) : Nat) : Int) < 2 := by omega
        have h20 : (W.getD i 0 == 2) = false := beqF (by omega)
        simp only [i1, decide_true, cond_true, z1, z2, cond_false, Int.natCast_nonneg, Bool.and_self, Int.toNat_natCast, Bool.not_false, beqT hw, (Half10_is 600 f i).2, Option.bind_some, j2, tab_row_of hbs (show half10 f (i : Nat) * 4 + 4 ≤ 8 by omega), tab_row (show i * 4 + 4 ≤ 64 by omega), h20]
        rw [nextI (by omega), show (tab 64 fun j => if j / 4 = i then bs.getD (half10 f (i : Int) * 4 + j % 4) 0 else upTo i (zF false 0 W (halfF false f W bs q)) q j) = tab 64 (upTo (i + 1) (zF false 0 W (halfF false f W bs q)) q) from upTo_row (h := fun c => bs.getD (half10 f (i : Int) * 4 + c) 0) (fun c hc => by
          unfold zF halfF
          rw [(mul4 i c hc).1, (mul4 i c hc).2, if_neg (by omega), if_pos ⟨rfl, hw⟩])]
        exact fin
      · by_cases h2' : W.getD i 0 = 2
        · simp only [i1, decide_true, cond_true, z1, z2, cond_false, Int.natCast_nonneg, Bool.and_self, Int.toNat_natCast, Bool.not_false, beqF hw, beqT h2', zero_row, tab_row (show i * 4 + 4 ≤ 64 by omega)]
          rw [nextI (by omega), show (tab 64 fun j => if j / 4 = i then 0 else upTo i (zF false 0 W (halfF false f W bs q)) q j) = tab 64 (upTo (i + 1) (zF false 0 W (halfF false f W bs q)) q) from upTo_row (h := fun _ => 0) (fun c hc => by
            unfold zF
            rw [(mul4 i c hc).1, if_pos ⟨rfl, by decide, h2'⟩])]
          exact fin
        · simp only [i1, decide_true, cond_true, z1, z2, cond_false, Int.natCast_nonneg, Bool.and_self, Int.toNat_natCast, Bool.not_false, beqF hw, beqF h2']
          rw [nextI (by omega), upTo_keep (i := i) (fun j hj => by
            unfold zF halfF
            rw [hj, if_neg (fun h => h2' h.2.2), if_neg (fun h => hw h.2)])]
          exact fin
    · simp only [i1, decide_true, cond_true, z1, z2, cond_false, Int.natCast_nonneg, Bool.and_self, Int.toNat_natCast, Bool.not_true]
      rw [nextI (by omega), upTo_keep (i := i) (fun j hj => by
        unfold zF halfF
        rw [if_neg (fun h => by cases h.1), if_neg (fun h => by cases h.1)])]
      exact fin

theorem rDecode11_is {b : List Int} (hb : Bytes b) (hl : b.length = 8) (p : Bool) : ref11_Decode 600 b p = some (tab 64 (dec11 b p), (0, ())) := by
  have hn : (((b.length : Nat) : Int) != 8) = false := by rw [hl]; rfl
  have key : kindV b p ≠ 3 → ref11_Decode_l0 600 600 b etctwo_DecodeT711 (kindV b p) (solidV b p) (xD b p) (xF b p) (xA b p) (xB b p) (xT b p) (xW b p) (tab 64 (paintF b p)) (basesV b p) 0 = some (etctwo_DecodeT711, (tab 64 (dec11 b p), ())) := fun h3 => by
    unfold dec11 baseF
    rcases kind4 b p with h | h | h | h
    · rw [h]
      have l := rdec_0 b etctwo_DecodeT711 (xD b p) (xA b p) (xB b p) (xT b p) (solidV b p) (xF b p) (W := xW b p) (bs := basesV b p) (bases10_len _ _ _) (paintF b p) 16 0 600 (by omega) (by omega)
      rw [upTo_zero, show ((0 : Nat) : Int) = 0 from rfl] at l
      rw [l]
      rfl
    · rw [h]
      have l := rdec_T hb hl (solidV b p) (xD b p) (xF b p) (A := xA b p) (B := xB b p) (T := xT b p) (bs := basesV b p) (xW_bound b p) etctwo_DecodeT711 (paintF b p) 16 0 600 (by omega) (by omega)
      rw [upTo_zero, show ((0 : Nat) : Int) = 0 from rfl] at l
      rw [l]
      rfl
    · rw [h]
      have l := rdec_H hb hl (solidV b p) (xD b p) (xF b p) (A := xA b p) (B := xB b p) (T := xT b p) (bs := basesV b p) (xW_bound b p) etctwo_DecodeT711 (paintF b p) 16 0 600 (by omega) (by omega)
      rw [upTo_zero, show ((0 : Nat) : Int) = 0 from rfl] at l
      rw [l]
      rfl
    · exact absurd h h3
  unfold ref11_Decode
  rw [hn, (Kind_is hb hl p).2]
  simp only [cond_false, Option.bind_some]
  by_cases h3 : kindV b p = 3
  · have hz : dec11 b p = planarF b := by
      funext j
      unfold dec11 zF baseF
      rw [h3, if_neg (fun h => h.2.1 rfl), if_neg (by decide), if_neg (by decide), if_neg (by decide)]
    rw [beqT h3, (planar_is hb hl false false [] [] [] [] false).2, hz]
    rfl
  · rw [beqF h3]
    have k := key h3
    have hb1 : ref10_Bases 600 (xD b p, (xF b p, (xA b p, (xB b p, (xT b p, (xW b p, ())))))) = some (basesV b p, (far10 (xD b p) (xA b p) (xB b p), ())) := rBases10_is (by omega) _ _ (xFair b p) _ _
    have hp1 : ref10_Paint 600 (xD b p, (xF b p, (xA b p, (xB b p, (xT b p, (xW b p, ())))))) = some (tab 64 (paintF b p), ()) := (rPaint10_is (by omega) _ _ (xFair b p) (xW_bound b p)).trans (by rw [paint_tab])
    cases p
    · simp only [cond_false, cond_true, Bool.not_false, rparts_is hb hl false, Option.bind_some, hp1, hb1]
      have k' : ref11_Decode_l0 600 600 b etctwo_DecodeT711 (kindV b false) true (xD b false) (xF b false) (xA b false) (xB b false) (xT b false) (xW b false) (tab 64 (paintF b false)) (basesV b false) 0 = some (etctwo_DecodeT711, (tab 64 (dec11 b false), ())) := k
      rw [k']
      rfl
    · have t : ref02_Top 600 b (30 : Int) (1 : Int) = _ := rget10 (a := 30) (n := 1) (by omega) hb hl (by omega) (by omega)
      simp only [cond_false, Bool.not_true, t, rparts_is hb hl true, Option.bind_some, hp1, hb1]
      have k' : ref11_Decode_l0 600 600 b etctwo_DecodeT711 (kindV b true) (hv b 30 1 == 1) (xD b true) (xF b true) (xA b true) (xB b true) (xT b true) (xW b true) (tab 64 (paintF b true)) (basesV b true) 0 = some (etctwo_DecodeT711, (tab 64 (dec11 b true), ())) := k
      rw [k']
      rfl

theorem awake11 : law11_awake 600 = some (true, ()) := by kernel_rfl

theorem law11_EtctwoDecodes_true (b : List Int) (p : Bool) (n : Int) (hb' : ∀ x ∈ b, IntKind.u8.has x) (hn : IntKind.i64.has n) : ∃ F, law11_EtctwoDecodes F b p n = some (true, ()) := by
  have hb := bytes_of hb'
  refine ⟨600, ?_⟩
  unfold law11_EtctwoDecodes
  rw [awake11]
  simp only [Option.bind_some]
  by_cases h : (40 : Int) < (b.length : Int)
  · simp only [h, decide_true, cond_true]
  · simp only [h, decide_false, cond_false, cond_true]
    have d1 := Distance_is n
    have d2 := rDistance_is (n := n) (has_iff.1 hn)
    by_cases hl : b.length = 8
    · rw [Decode11_is hb hl, rDecode11_is hb hl, (Kind_is hb hl p).1, (Kind_is hb hl p).2, d1, d2]
      simp only [Option.bind_some, beq_self_eq_true, cond_true]
    · rw [(Decode11_none hl p).1, (Decode11_none hl p).2, (Kind_none hl p).1, (Kind_none hl p).2, d1, d2]
      simp only [Option.bind_some, beq_self_eq_true, cond_true]

end Go.AE.Gn
