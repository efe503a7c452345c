/- Layer 10: etcone. A block is its parts; columns as rows. -/
import Derived.Test.YtpipmhfkdeaebaaPure10b
set_option linter.unusedSimpArgs false
set_option linter.unusedVariables false
namespace Go.AE.Gn
open Go Go.AE

theorem list3 {l : List Int} (h : l.length = 3) : [l.getD 0 0, l.getD 1 0, l.getD 2 0] = l := by
  match l, h with
  | [a, b, c], _ => rfl
theorem list2 {l : List Int} (h : l.length = 2) : [l.getD 0 0, l.getD 1 0] = l := by
  match l, h with
  | [a, b], _ => rfl
theorem list_range {l : List Int} {n : Nat} (h : l.length = n) : (List.range n).map (fun i => l.getD i 0) = l := by
  subst h
  apply List.ext_getElem (by simp)
  intro i h1 h2
  simp [List.getD_eq_getElem?_getD, h2]

theorem join10_hv {d f : Bool} {A B T W : List Int} (h : Ok10 d A B T W) {j : Nat} (hj : j < 42) {a n : Nat} {v : Int} (ha : jA d j = a) (hn : jN d j = n) (hv' : jV d f A B T W j = v) : hv (join10 d f A B T W) a n = v := by
  subst ha hn hv'
  exact hlaid_hv jz_bytes (fun i hi => (j_pos d i hi).1) (fun i j hi hj => j_apart d i hi j hj) ((ok10_fits d f A B T W).1 h) hj

theorem eP_join {d f : Bool} {A B T W : List Int} (h : Ok10 d A B T W) (lA : A.length = 3) (lB : B.length = 3) (lT : T.length = 2) (lW : W.length = 16) : eP (join10 d f A B T W) = (d, (f, (A, (B, (T, (W, ())))))) := by
  have hd : eDiff (join10 d f A B T W) = d := by
    unfold eDiff
    rw [join10_hv h (j := 8) (by decide) (a := 30) (n := 1) (v := truth10 d) rfl rfl rfl]
    cases d <;> rfl
  have hf : eFlip (join10 d f A B T W) = f := by
    unfold eFlip
    rw [join10_hv h (j := 9) (by decide) (a := 31) (n := 1) (v := truth10 f) rfl rfl rfl]
    cases f <;> rfl
  have hA : eAs d (join10 d f A B T W) = A := by
    have key : ∀ c, c < 3 → eA d (join10 d f A B T W) c = A.getD c 0 := by
      intro c hc
      unfold eA
      cases d
      · rw [if_neg (by decide)]
        exact join10_hv h (j := 2 * c) (by omega) (by simp [jA, show 2 * c < 6 by omega]; omega) (by simp [jN, show 2 * c < 6 by omega]) (by simp [jV, show 2 * c < 6 by omega])
      · rw [if_pos rfl]
        exact join10_hv h (j := 2 * c) (by omega) (by simp [jA, show 2 * c < 6 by omega]) (by simp [jN, show 2 * c < 6 by omega]) (by simp [jV, show 2 * c < 6 by omega])
    unfold eAs
    rw [key 0 (by decide), key 1 (by decide), key 2 (by decide)]
    exact list3 lA
  have hB : eBs d (join10 d f A B T W) = B := by
    have key : ∀ c, c < 3 → eB d (join10 d f A B T W) c = B.getD c 0 := by
      intro c hc
      unfold eB
      cases d
      · rw [if_neg (by decide)]
        exact join10_hv h (j := 2 * c + 1) (by omega) (by simp [jA, show 2 * c + 1 < 6 by omega]; omega) (by simp [jN, show 2 * c + 1 < 6 by omega])
          (by simp [jV, show 2 * c + 1 < 6 by omega, show (2 * c + 1) % 2 = 1 by omega, show (2 * c + 1) / 2 = c by omega])
      · have hc2 := h.1 c hc
        simp only [if_true] at hc2
        rw [if_pos rfl, join10_hv h (j := 2 * c + 1) (by omega) (a := 8 * c + 5) (n := 3) (v := B.getD c 0 % 8) (by simp [jA, show 2 * c + 1 < 6 by omega, show (2 * c + 1) % 2 = 1 by omega, show (2 * c + 1) / 2 = c by omega])
          (by simp [jN, show 2 * c + 1 < 6 by omega, show (2 * c + 1) % 2 = 1 by omega])
          (by
            unfold jV
            rw [if_pos (by omega), if_neg (by omega), show (2 * c + 1) / 2 = c by omega, if_pos rfl, if_pos (by omega)])]
        unfold sg3
        split <;> omega
    unfold eBs
    rw [key 0 (by decide), key 1 (by decide), key 2 (by decide)]
    exact list3 lB
  have hW : eWs (join10 d f A B T W) = W := by
    unfold eWs
    conv => rhs; rw [← list_range lW]
    refine List.map_congr_left fun i hi => ?_
    have hi : i < 16 := by simpa using hi
    have hg := h.2.1 i hi
    rw [join10_hv h (j := 10 + 2 * i) (by omega) (a := 47 - col10 i) (n := 1) (v := W.getD i 0 / 2)
        (by unfold jA; rw [if_neg (by omega), if_neg (by omega), if_neg (by omega), if_neg (by omega), if_neg (by omega), if_pos (by omega), show (10 + 2 * i - 10) / 2 = i by omega])
        (by unfold jN; rw [if_neg (by omega), if_neg (by omega)])
        (by unfold jV; rw [if_neg (by omega), if_neg (by omega), if_neg (by omega), if_neg (by omega), if_neg (by omega), show (10 + 2 * i - 10) / 2 = i by omega, if_pos hg, if_pos (show (10 + 2 * i) % 2 = 0 by omega)]),
      join10_hv h (j := 10 + 2 * i + 1) (by omega) (a := 63 - col10 i) (n := 1) (v := W.getD i 0 % 2)
        (by unfold jA; rw [if_neg (by omega), if_neg (by omega), if_neg (by omega), if_neg (by omega), if_neg (by omega), if_neg (by omega), show (10 + 2 * i + 1 - 10) / 2 = i by omega])
        (by unfold jN; rw [if_neg (by omega), if_neg (by omega)])
        (by unfold jV; rw [if_neg (by omega), if_neg (by omega), if_neg (by omega), if_neg (by omega), if_neg (by omega), show (10 + 2 * i + 1 - 10) / 2 = i by omega, if_pos hg, if_neg (show ¬ (10 + 2 * i + 1) % 2 = 0 by omega)])]
    omega
  unfold eP
  rw [hd, hf, hA, hB, hW, join10_hv h (j := 6) (by decide) (a := 24) (n := 3) rfl rfl rfl, join10_hv h (j := 7) (by decide) (a := 27) (n := 3) rfl rfl rfl]
  show (d, (f, (A, (B, ([T.getD 0 0, T.getD 1 0], (W, ())))))) = _
  rw [list2 lT]

theorem dec10_eP (b : List Int) : dec10 b = paint10 (eP b).1 (eP b).2.1 (eP b).2.2.1 (eP b).2.2.2.1 (eP b).2.2.2.2.1 (eP b).2.2.2.2.2.1 := rfl

theorem join10_len (d f : Bool) (A B T W : List Int) : (join10 d f A B T W).length = 8 := jl_len d f A B T W 42
theorem join10_bytes (d f : Bool) (A B T W : List Int) : Bytes (join10 d f A B T W) := jl_bytes d f A B T W 42

theorem ok10_parts (b : List Int) : Ok10 (eDiff b) (eAs (eDiff b) b) (eBs (eDiff b) b) [hv b 24 3, hv b 27 3] (eWs b) := by
  refine ⟨fun c hc => ?_, fun i _ => eWs_bound b i, by have := hv_bound b 24 3; exact ⟨this.1, by show hv b 24 3 ≤ 7; omega⟩, by have := hv_bound b 27 3; exact ⟨this.1, by show hv b 27 3 ≤ 7; omega⟩⟩
  have ha : (eAs (eDiff b) b).getD c 0 = eA (eDiff b) b c := by
    rcases (show c = 0 ∨ c = 1 ∨ c = 2 by omega) with rfl | rfl | rfl <;> rfl
  have hb : (eBs (eDiff b) b).getD c 0 = eB (eDiff b) b c := by
    rcases (show c = 0 ∨ c = 1 ∨ c = 2 by omega) with rfl | rfl | rfl <;> rfl
  rw [ha, hb]
  have h1 := hv_bound b (8 * c) 5
  have h2 := hv_bound b (8 * c) 4
  have h3 := hv_bound b (8 * c + 5) 3
  have h4 := hv_bound b (8 * c + 4) 4
  cases eDiff b
  · simp only [Bool.false_eq_true, if_false, eA, eB]
    omega
  · simp only [if_true, eA, eB, sg3]
    split <;> omega

theorem eDiff_truth (b : List Int) : truth10 (eDiff b) = hv b 30 1 := by
  have h := hv_bound b 30 1
  unfold eDiff truth10
  rcases (show hv b 30 1 = 0 ∨ hv b 30 1 = 1 by omega) with e | e <;> rw [e] <;> rfl
theorem eFlip_truth (b : List Int) : truth10 (eFlip b) = hv b 31 1 := by
  have h := hv_bound b 31 1
  unfold eFlip truth10
  rcases (show hv b 31 1 = 0 ∨ hv b 31 1 = 1 by omega) with e | e <;> rw [e] <;> rfl

/-- A block's own fields. -/
theorem jV_hv (b : List Int) {j : Nat} (hj : j < 42) : jV (eDiff b) (eFlip b) (eAs (eDiff b) b) (eBs (eDiff b) b) [hv b 24 3, hv b 27 3] (eWs b) j = hv b (jA (eDiff b) j) (jN (eDiff b) j) := by
  by_cases c6 : j < 6
  · have hc : j / 2 < 3 := by omega
    have ha : (eAs (eDiff b) b).getD (j / 2) 0 = eA (eDiff b) b (j / 2) := by
      rcases (show j / 2 = 0 ∨ j / 2 = 1 ∨ j / 2 = 2 by omega) with e | e | e <;> rw [e] <;> rfl
    have hb : (eBs (eDiff b) b).getD (j / 2) 0 = eB (eDiff b) b (j / 2) := by
      rcases (show j / 2 = 0 ∨ j / 2 = 1 ∨ j / 2 = 2 by omega) with e | e | e <;> rw [e] <;> rfl
    unfold jV jA jN
    rw [if_pos c6, if_pos c6, if_pos c6, ha, hb]
    cases eDiff b
    · simp only [Bool.false_eq_true, if_false, eA, eB]
      split
      · rw [show 8 * (j / 2) = 4 * j by omega]
      · rw [show 8 * (j / 2) + 4 = 4 * j by omega]
    · simp only [if_true, eA, eB]
      split
      · rfl
      · have h3 := hv_bound b (8 * (j / 2) + 5) 3
        unfold sg3
        split
        · rw [if_pos (by omega)]; omega
        · rw [if_pos (by omega)]; omega
  · by_cases c6' : j = 6
    · subst c6'; rfl
    by_cases c7 : j = 7
    · subst c7; rfl
    by_cases c8 : j = 8
    · subst c8; exact eDiff_truth b
    by_cases c9 : j = 9
    · subst c9; exact eFlip_truth b
    have hi : (j - 10) / 2 < 16 := by omega
    have hw : (eWs b).getD ((j - 10) / 2) 0 = 2 * hv b (47 - col10 ((j - 10) / 2)) 1 + hv b (63 - col10 ((j - 10) / 2)) 1 := getD_range_map _ hi
    have h1 := hv_bound b (47 - col10 ((j - 10) / 2)) 1
    have h2 := hv_bound b (63 - col10 ((j - 10) / 2)) 1
    unfold jV jA jN
    rw [if_neg c6, if_neg c6', if_neg c7, if_neg c8, if_neg c9, if_neg c6, if_neg c6', if_neg c7, if_neg c8, if_neg c9, if_neg c6, if_neg (show ¬ j < 8 by omega), hw, if_pos (by omega)]
    split <;> omega

theorem join10_back {b : List Int} (hb : Bytes b) (hl : b.length = 8) : join10 (eDiff b) (eFlip b) (eAs (eDiff b) b) (eBs (eDiff b) b) [hv b 24 3, hv b 27 3] (eWs b) = b :=
  hlaid_back hb jz_bytes (by rw [hl]; rfl) (fun i hi => (j_pos _ i hi).1) (fun i j hi hj => j_apart _ i hi j hj) (fun i hi => jV_hv b hi) (fun q hq => j_cover _ q hq)

theorem eP_64 (b : List Int) : Is64 (eAs (eDiff b) b) ∧ Is64 (eBs (eDiff b) b) ∧ Is64 [hv b 24 3, hv b 27 3] ∧ Is64 (eWs b) := by
  have hf := eFair (eDiff b) b
  refine ⟨fun i => has_iff.2 ?_, fun i => has_iff.2 ?_, fun i => ?_, fun i => has_iff.2 ?_⟩
  · have := hf.2.2.1 i; simp only [loB, hiB]; omega
  · have := hf.2.2.2 i; simp only [loB, hiB]; omega
  · refine getD_all (p := fun x => IntKind.i64.has x) (has_iff.2 (by decide)) (fun x hx => ?_) i
    have h1 := hv_bound b 24 3
    have h2 := hv_bound b 27 3
    simp only [List.mem_cons, List.not_mem_nil, or_false] at hx
    rcases hx with rfl | rfl <;> refine has_iff.2 ?_ <;> simp only [loB, hiB] <;> omega
  · have := eWs_bound b i; simp only [loB, hiB]; omega

theorem law10_EtconeBack_true (b : List Int) (x : Blk10) (hb' : ∀ y ∈ b, IntKind.u8.has y) (hx : wfC [.bool, .bool, .is .i64 3, .is .i64 3, .is .i64 2, .is .i64 16] x) : ∃ F, law10_EtconeBack F b x = some (true, ()) := by
  have hb := bytes_of hb'
  obtain ⟨d, f, A, B, T, W, ⟨⟩⟩ := x
  obtain ⟨⟨lA, hA⟩, ⟨lB, hB⟩, ⟨lT, hT⟩, ⟨lW, hW⟩, _⟩ := hx
  refine ⟨600, ?_⟩
  unfold law10_EtconeBack
  rw [awake10]
  simp only [Option.bind_some]
  rw [Join10_is (by decide) d f (Is64.of hA) (Is64.of hB) (Is64.of hT) (Is64.of hW)]
  -- the second half
  have half : (cond ((b.length : Int) != 8) (some (true, ())) ((etcone_Parts 600 b).bind fun r2638 =>
              (etcone_Join 600 (r2638.1.1, (r2638.1.2.1, (r2638.1.2.2.1, (r2638.1.2.2.2.1, (r2638.1.2.2.2.2.1, (r2638.1.2.2.2.2.2.1, ()))))))).bind fun r2639 =>
              (ref01_Same 600 b r2639.1).bind fun r2641 =>
              cond true (cond (r2638.2.1 == (0 : Int)) (cond (r2639.2.1 == (0 : Int)) (some (r2641.1, ())) (some (false, ()))) (some (false, ()))) (some (false, ())))) = some (true, ()) := by
    by_cases hl : b.length = 8
    · have e : ((b.length : Int) != 8) = false := by rw [hl]; rfl
      obtain ⟨q1, q2, q3, q4⟩ := eP_64 b
      rw [e]
      simp only [cond_false]
      rw [Parts10_is (by decide) hb hl]
      simp only [Option.bind_some, eP]
      rw [Join10_is (by decide) _ _ q1 q2 q3 q4, if_pos (ok10_parts b), join10_back hb hl]
      simp only [Option.bind_some]
      rw [Same_is b (by omega) (by decide)]
      rfl
    · rw [bneT (show (b.length : Int) ≠ 8 by omega)]
      rfl
  by_cases hok : Ok10 d A B T W
  · have jb := join10_bytes d f A B T W
    have jlen := join10_len d f A B T W
    have hp := Parts10_is (F := 600) (by decide) jb jlen
    have hd := (Decode10_is (F := 600) (by decide) jb jlen).1
    rw [dec10_eP] at hd
    rw [eP_join hok lA lB lT lW] at hp hd
    simp only [hok, if_true, Option.bind_some, beq_self_eq_true, cond_true, hp, hd, bne_self_eq_false, cond_false, Bool.and_self, Bool.not_true]
    rw [Paint10_is (by decide) d f (hok.fair lA lB) (hok.which lW)]
    simp only [Option.bind_some, beq_self_eq_true, Bool.not_true, cond_false]
    exact half
  · simp only [hok, if_false, Option.bind_some]
    exact half

/-! ### columns as rows -/

theorem col10_twice {i : Nat} (h : i < 16) : col10 (col10 i) = i := by unfold col10; omega
theorem half10_turn_closed : ∀ f : Bool, ∀ i, i < 16 → half10 (!f) (col10 i : Nat) = half10 f i := by decide +kernel
theorem half10_turn (f : Bool) {i : Nat} (h : i < 16) : half10 (!f) (col10 i : Nat) = half10 f i := half10_turn_closed f i h

theorem tcol_is {i : Nat} (h : i < 16) : IntKind.wrap .i64 (IntKind.wrap .i64 (Int.tmod (i : Int) 4 * 4) + IntKind.wrap .i64 (Int.tdiv (i : Int) 4)) = (col10 i : Int) := by
  have := rcol_is h
  rwa [Int.mul_comm] at this

/-- Columns as rows. -/
def turn10 (W : List Int) : List Int := (List.range 16).map fun i => W.getD (col10 i) 0

theorem tex10_turn (bs T W : List Int) (f : Bool) {i : Nat} (h : i < 16) : tex10 bs T (turn10 W) (!f) (col10 i) = tex10 bs T W f i := by
  have hc := col10_lt h
  have hw : (turn10 W).getD (col10 i) 0 = W.getD i 0 := by
    unfold turn10
    rw [getD_range_map _ (by omega), col10_twice h]
  unfold tex10 add10
  rw [half10_turn f h, hw]

theorem paint10_get (d f : Bool) (A B T W : List Int) {i : Nat} (h : i < 16) : ((paint10 d f A B T W).drop (i * 4)).take 4 = tex10 (bases10 d A B) T W f i := flatMap_part _ (fun _ _ => rfl) h

theorem Turns10_l2_is {F : Nat} (d f : Bool) (A B T W : List Int) (up : Bool) : ∀ (k i : Nat), i ≤ 16 → 16 - i < k → law10_EtconeTurns_l2 F k up (paint10 d f A B T W) (paint10 d (!f) A B T (turn10 W)) i = some (.inr (up, ()))
  | 0, i, _, h => by omega
  | k + 1, i, hi, hk => by
    by_cases h16 : i < 16
    · have ih := Turns10_l2_is (F := F) d f A B T W up k (i + 1) (by omega) (by omega)
      have h0 : law10_EtconeTurns_l2 F (k + 1) up (paint10 d f A B T W) (paint10 d (!f) A B T (turn10 W)) i = law10_EtconeTurns_l2S F (law10_EtconeTurns_l2 F k) up (paint10 d f A B T W) (paint10 d (!f) A B T (turn10 W)) i := rfl
      rw [h0]
      unfold law10_EtconeTurns_l2S
      have h1 : (i : Int) < 16 := by omega
      have hc := col10_lt h16
      have h2 : (col10 i : Int) < 16 := by omega
      simp only [h1, h2, decide_true, cond_true, Int.natCast_nonneg, Bool.and_self, Int.toNat_natCast, tcol_is h16, paint10_get d f A B T W h16, paint10_get d (!f) A B T (turn10 W) (show col10 i < 16 by omega), tex10_turn (bases10 d A B) T W f h16,
        beq_self_eq_true, Bool.not_true, cond_false, nextI (show i < 1000000000000 by omega)]
      exact ih
    · have : i = 16 := by omega
      subst this
      rfl

theorem law10_EtconeTurns_true (x : Blk10) (hx : wfC [.bool, .bool, .is .i64 3, .is .i64 3, .is .i64 2, .is .i64 16] x) : ∃ F, law10_EtconeTurns F x = some (true, ()) := by
  obtain ⟨d, f, A, B, T, W, ⟨⟩⟩ := x
  obtain ⟨⟨lA, hA⟩, ⟨lB, hB⟩, ⟨lT, hT⟩, ⟨lW, hW⟩, _⟩ := hx
  refine ⟨600, ?_⟩
  unfold law10_EtconeTurns
  rw [awake10]
  simp only [Option.bind_some]
  rw [Join10_is (by decide) d f (Is64.of hA) (Is64.of hB) (Is64.of hT) (Is64.of hW)]
  by_cases hok : Ok10 d A B T W
  · have hf := hok.fair lA lB
    have hw := hok.which lW
    have hw2 : ∀ i, 0 ≤ (turn10 W).getD i 0 ∧ (turn10 W).getD i 0 ≤ 3 := fun i => getD_all (p := fun x => 0 ≤ x ∧ x ≤ 3) (by decide) (fun x hx => by
      obtain ⟨j, _, rfl⟩ := List.mem_map.1 hx
      exact hw _) i
    have loop : ∀ y : List Int, y.length = 16 → law10_EtconeTurns_l0 600 600 d f A B T W true d (!f) A B T y 0 = some (d, (f, (A, (B, (T, (W, (true, (d, (!f, (A, (B, (T, (turn10 W, ()))))))))))))) := by
      intro y hy
      refine fill_loop 16 (fun i => W.getD (col10 i) 0) (fun k w i => law10_EtconeTurns_l0 600 k d f A B T W true d (!f) A B T w i) (fun w => some (d, (f, (A, (B, (T, (W, (true, (d, (!f, (A, (B, (T, (w, ())))))))))))))) ?_ ?_ _ hy 600 (by decide)
      · intro k i w hi hwl
        show law10_EtconeTurns_l0S 600 (law10_EtconeTurns_l0 600 k) d f A B T W true d (!f) A B T w i = _
        unfold law10_EtconeTurns_l0S
        have h1 : (i : Int) < 16 := by omega
        have hc := col10_lt hi
        have h2 : (col10 i : Int) < 16 := by omega
        simp only [h1, h2, decide_true, cond_true, Int.natCast_nonneg, Bool.and_self, Int.toNat_natCast, tcol_is hi, nextI (show i < 1000000000000 by omega)]
      · intro k w hwl
        show law10_EtconeTurns_l0S 600 (law10_EtconeTurns_l0 600 k) d f A B T W true d (!f) A B T w 16 = _
        unfold law10_EtconeTurns_l0S
        simp
    simp only [hok, if_true, Option.bind_some, bne_self_eq_false, cond_false, loop W lW]
    rw [Paint10_is (by decide) d f hf hw, Paint10_is (by decide) d (!f) hf hw2]
    simp only [Option.bind_some]
    have l2 := Turns10_l2_is (F := 600) d f A B T W true 600 0 (by decide) (by decide)
    rw [Int.natCast_zero] at l2
    rw [l2]
    rfl
  · simp only [hok, if_false, Option.bind_some]
    rfl

end Go.AE.Gn
