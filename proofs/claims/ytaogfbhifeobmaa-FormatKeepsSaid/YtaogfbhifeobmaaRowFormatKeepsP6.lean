/- A part of the proof, put together of my texts: Pure13c, Pure13d, Pure13e. -/
import Derived.Test.YtaogfbhifeobmaaRowFormatKeepsP5
set_option linter.unusedSimpArgs false
set_option linter.unusedVariables false
namespace Go.AE.Gn
open Go Go.AE
def bytes13 (k : Nat) : Nat := match k with | 1 | 4 | 7 | 8 | 9 | 11 => 8 | _ => 16
def mask13 (k : Nat) : Int := match k with | 1 | 7 | 8 => 7 | 2 | 3 | 6 | 9 | 10 => 15 | 4 | 11 => 1 | _ => 3
def wide13 (k : Nat) : Bool := match k with | 11 | 12 => true | _ => false
def most13 (k : Nat) : Int := if wide13 k then 2047 else 255
def Fmt (k : Nat) : Prop := 1 ≤ k ∧ k ≤ 12
theorem fmt_cases {p : Nat → Prop} (h1 : p 1) (h2 : p 2) (h3 : p 3) (h4 : p 4) (h5 : p 5) (h6 : p 6) (h7 : p 7) (h8 : p 8) (h9 : p 9) (h10 : p 10) (h11 : p 11) (h12 : p 12) {k : Nat} (h : Fmt k) : p k := by
  obtain ⟨a, b⟩ := h
  have : k = 1 ∨ k = 2 ∨ k = 3 ∨ k = 4 ∨ k = 5 ∨ k = 6 ∨ k = 7 ∨ k = 8 ∨ k = 9 ∨ k = 10 ∨ k = 11 ∨ k = 12 := by omega
  rcases this with rfl | rfl | rfl | rfl | rfl | rfl | rfl | rfl | rfl | rfl | rfl | rfl <;> assumption
theorem Of_is (F : Nat) {k : Nat} (h : Fmt k) : format_Of F (k : Int) = some (((bytes13 k : Int), (mask13 k, (wide13 k, ()))), (0, ())) := by
  refine fmt_cases (p := fun k => format_Of F (k : Int) = some (((bytes13 k : Int), (mask13 k, (wide13 k, ()))), (0, ()))) ?_ ?_ ?_ ?_ ?_ ?_ ?_ ?_ ?_ ?_ ?_ ?_ h <;> rfl
theorem Of_bad (F : Nat) {f : Int} (h : ¬ (1 ≤ f ∧ f ≤ 12)) : format_Of F f = some ((0, (0, (false, ()))), (5, ())) := by
  have hn : ∀ c : Int, 1 ≤ c → c ≤ 12 → (f == c) = false := fun c h1 h2 => beqF (by omega)
  unfold format_Of
  rw [hn 1 (by decide) (by decide), hn 7 (by decide) (by decide), hn 8 (by decide) (by decide), hn 2 (by decide) (by decide), hn 3 (by decide) (by decide), hn 6 (by decide) (by decide), hn 10 (by decide) (by decide), hn 9 (by decide) (by decide), hn 4 (by decide) (by decide), hn 11 (by decide) (by decide), hn 5 (by decide) (by decide), hn 12 (by decide) (by decide)]
  rfl
theorem fmt_of {f : Int} (h : 1 ≤ f ∧ f ≤ 12) : ∃ k, Fmt k ∧ f = (k : Int) := ⟨f.toNat, ⟨by omega, by omega⟩, by omega⟩
def lo13 (b : List Int) : List Int := b.take 8
def hi13 (b : List Int) : List Int := (b.drop (b.length - 8)).take 8
theorem lo13_bytes {b : List Int} (hb : Bytes b) : Bytes (lo13 b) := fun x hx => hb x (List.mem_of_mem_take hx)
theorem hi13_bytes {b : List Int} (hb : Bytes b) : Bytes (hi13 b) := fun x hx => hb x (List.mem_of_mem_drop (List.mem_of_mem_take hx))
theorem lo13_len {b : List Int} (h : 8 ≤ b.length) : (lo13 b).length = 8 := by simp [lo13]; omega
theorem hi13_len {b : List Int} (h : 8 ≤ b.length) : (hi13 b).length = 8 := by simp [hi13]; omega
theorem bytes13_ge (k : Nat) : 8 ≤ bytes13 k ∧ bytes13 k ≤ 16 := by
  unfold bytes13
  split <;> decide
def tile6 (b : List Int) (four : Bool) : List Int := tileV (palV (lv b 0 16) (lv b 16 16) four) (oneW b)
theorem tile6_len (b : List Int) (four : Bool) : (tile6 b four).length = 64 := tileV_len (palV_len _ _ _) (oneW_ok b)
theorem rg_tile6 (b : List Int) (four : Bool) : Rg 255 (tile6 b four) := rg_tileV (palV_len _ _ _) (oneW_ok b) (rg_palV _ _ _)
def dec13 (k : Nat) (b : List Int) : List Int := match k with
  | 1 => tile6 b false
  | 2 => wT 3 (fours (lo13 b)) (tile6 (hi13 b) true)
  | 3 => wT 3 (fourD (lo13 b)) (tile6 (hi13 b) true)
  | 4 => wT 0 (fourD (lo13 b)) (blankT 255)
  | 5 => wT 1 (fourD (hi13 b)) (wT 0 (fourD (lo13 b)) (blankT 255))
  | 6 => decAll b
  | 7 => dec10 b
  | 8 => tab 64 (dec11 b false)
  | 9 => tab 64 (dec11 b true)
  | 10 => wT 3 (eacL (lo13 b) false) (tab 64 (dec11 (hi13 b) false))
  | 11 => wT 0 (eacL (lo13 b) true) (blankT 2047)
  | _ => wT 1 (eacL (hi13 b) true) (wT 0 (eacL (lo13 b) true) (blankT 2047))
theorem rg_dec13 {b : List Int} (hb : Bytes b) {k : Nat} (h : Fmt k) : Rg (most13 k) (dec13 k b) := by
  have hlo := lo13_bytes hb
  have hhi := hi13_bytes hb
  refine fmt_cases (p := fun k => Rg (most13 k) (dec13 k b)) ?_ ?_ ?_ ?_ ?_ ?_ ?_ ?_ ?_ ?_ ?_ ?_ h
  · exact rg_tile6 _ _
  · exact rg_wT (by decide) (rg_fours _) (rg_tile6 _ _)
  · exact rg_wT (by decide) (rg_fourD hlo) (rg_tile6 _ _)
  · exact rg_wT (by decide) (rg_fourD hlo) (rg_blankT (by decide))
  · exact rg_wT (by decide) (rg_fourD hhi) (rg_wT (by decide) (rg_fourD hlo) (rg_blankT (by decide)))
  · exact rg_decAll b
  · exact rg_paint10 _ _ _ _ _ _
  · exact rg_tab (by decide) fun j _ => dec11_bound _ _ _
  · exact rg_tab (by decide) fun j _ => dec11_bound _ _ _
  · exact rg_wT (by decide) (rg_eacL _ false) (rg_tab (by decide) fun j _ => dec11_bound _ _ _)
  · exact rg_wT (by decide) (rg_eacL _ true) (rg_blankT (by decide))
  · exact rg_wT (by decide) (rg_eacL _ true) (rg_wT (by decide) (rg_eacL _ true) (rg_blankT (by decide)))
theorem decode_c2_four {b t : List Int} (hb : Bytes b) (hl : b.length = 8) (ht : t.length = 64) {c : Nat} (hc : c < 4) (x y : Int) : format_decode_c2 600 t c b x y false = some (wT c (fourD b) t, ()) := by
  unfold format_decode_c2 format_decode_c1
  simp only [cond_false, Decode7_is (F := 600) (by decide) hb hl, Option.bind_some, with_is hc ht]
theorem decode_c2_wide {b t : List Int} (hb : Bytes b) (hl : b.length = 8) (ht : t.length = 64) {c : Nat} (hc : c < 4) (x y : Int) : format_decode_c2 600 t c b x y true = some (wT c (eacL b true) t, ()) := by
  unfold format_decode_c2 format_decode_c1
  simp only [cond_true, eacL_is hb hl, Option.bind_some, with_is hc ht]
section
variable {b : List Int}
theorem d13_1 (hb : Bytes b) (hl : b.length = 8) (x) : format_decode 600 1 x (lo13 b) (hi13 b) b = some (dec13 1 b, (0, ())) := by
  have h := Decode6_is (F := 600) (by decide) hb hl false
  unfold format_decode
  simp only [Int.reduceBEq, cond_true, cond_false, h, Option.bind_some]
  rfl
theorem d13_2 (hb : Bytes b) (hl : b.length = 16) (x) : format_decode 600 2 x (lo13 b) (hi13 b) b = some (dec13 2 b, (0, ())) := by
  have h1 := Fours_is (F := 600) (by decide) (lo13_bytes hb) (lo13_len (b := b) (by omega))
  have h2 : bcone_Decode 600 (hi13 b) true = some (tile6 (hi13 b) true, (0, ())) := Decode6_is (F := 600) (by decide) (hi13_bytes hb) (hi13_len (by omega)) true
  have h3 := fun e => with_is (c := 3) (by decide) (l := fours (lo13 b)) (tile6_len (hi13 b) true) e
  simp only [Int.cast_ofNat_Int] at h3
  unfold format_decode
  simp only [Int.reduceBEq, cond_true, cond_false, h1, h2, h3, format_plain, Option.bind_some]
  rfl
theorem d13_3 (hb : Bytes b) (hl : b.length = 16) : format_decode 600 3 (16, (15, (false, ()))) (lo13 b) (hi13 b) b = some (dec13 3 b, (0, ())) := by
  have h2 : bcone_Decode 600 (hi13 b) true = some (tile6 (hi13 b) true, (0, ())) := Decode6_is (F := 600) (by decide) (hi13_bytes hb) (hi13_len (by omega)) true
  have h3 := fun x y => decode_c2_four (lo13_bytes hb) (lo13_len (by omega)) (tile6_len (hi13 b) true) (c := 3) (by decide) x y
  simp only [Int.cast_ofNat_Int] at h3
  unfold format_decode
  simp only [Int.reduceBEq, cond_true, cond_false, h2, h3, format_plain, Option.bind_some]
  rfl
theorem d13_4 (hb : Bytes b) (hl : b.length = 8) : format_decode 600 4 (8, (1, (false, ()))) (lo13 b) (hi13 b) b = some (dec13 4 b, (0, ())) := by
  have h3 := fun x y => decode_c2_four (lo13_bytes hb) (lo13_len (by omega)) (blankT_len 255) (c := 0) (by decide) x y
  simp only [Int.natCast_zero] at h3
  unfold format_decode
  simp only [Int.reduceBEq, cond_true, cond_false, blank_is.1, h3, Option.bind_some]
  rfl
theorem d13_5 (hb : Bytes b) (hl : b.length = 16) : format_decode 600 5 (16, (3, (false, ()))) (lo13 b) (hi13 b) b = some (dec13 5 b, (0, ())) := by
  have h3 := fun x y => decode_c2_four (lo13_bytes hb) (lo13_len (by omega)) (blankT_len 255) (c := 0) (by decide) x y
  have h4 := fun x y => decode_c2_four (hi13_bytes hb) (hi13_len (by omega)) (wT_len 0 (fourD (lo13 b)) (blankT 255)) (c := 1) (by decide) x y
  simp only [Int.natCast_zero, Int.cast_ofNat_Int] at h3 h4
  unfold format_decode
  simp only [Int.reduceBEq, cond_true, cond_false, blank_is.1, h3, h4, Option.bind_some]
  rfl
theorem d13_6 (hb : Bytes b) (hl : b.length = 16) (x) : format_decode 600 6 x (lo13 b) (hi13 b) b = some (dec13 6 b, (0, ())) := by
  have h := Decode9_is hb hl
  unfold format_decode
  simp only [Int.reduceBEq, cond_true, cond_false, h, Option.bind_some]
  rfl
theorem d13_7 (hb : Bytes b) (hl : b.length = 8) (x) : format_decode 600 7 x (lo13 b) (hi13 b) b = some (dec13 7 b, (0, ())) := by
  have h := (Decode10_is (F := 600) (by decide) hb hl).1
  unfold format_decode
  simp only [Int.reduceBEq, cond_true, cond_false, h, Option.bind_some]
  rfl
theorem d13_8 (hb : Bytes b) (hl : b.length = 8) (x) : format_decode 600 8 x (lo13 b) (hi13 b) b = some (dec13 8 b, (0, ())) := by
  have h := Decode11_is hb hl false
  unfold format_decode
  simp only [Int.reduceBEq, cond_true, cond_false, h, Option.bind_some]
  rfl
theorem d13_9 (hb : Bytes b) (hl : b.length = 8) (x) : format_decode 600 9 x (lo13 b) (hi13 b) b = some (dec13 9 b, (0, ())) := by
  have h := Decode11_is hb hl true
  unfold format_decode
  simp only [Int.reduceBEq, cond_true, cond_false, h, Option.bind_some]
  rfl
theorem d13_10 (hb : Bytes b) (hl : b.length = 16) (x) : format_decode 600 10 x (lo13 b) (hi13 b) b = some (dec13 10 b, (0, ())) := by
  have h1 := eacL_is (lo13_bytes hb) (lo13_len (b := b) (by omega)) false
  have h2 := Decode11_is (hi13_bytes hb) (hi13_len (b := b) (by omega)) false
  have h3 := fun e => with_is (c := 3) (by decide) (l := eacL (lo13 b) false) (tab_len 64 (dec11 (hi13 b) false)) e
  simp only [Int.cast_ofNat_Int] at h3
  unfold format_decode
  simp only [Int.reduceBEq, cond_true, cond_false, h1, h2, h3, format_plain, Option.bind_some]
  rfl
theorem d13_11 (hb : Bytes b) (hl : b.length = 8) : format_decode 600 11 (8, (1, (true, ()))) (lo13 b) (hi13 b) b = some (dec13 11 b, (0, ())) := by
  have h3 := fun x y => decode_c2_wide (lo13_bytes hb) (lo13_len (by omega)) (blankT_len 2047) (c := 0) (by decide) x y
  simp only [Int.natCast_zero] at h3
  unfold format_decode
  simp only [Int.reduceBEq, cond_true, cond_false, blank_is.2, h3, Option.bind_some]
  rfl
theorem d13_12 (hb : Bytes b) (hl : b.length = 16) : format_decode 600 12 (16, (3, (true, ()))) (lo13 b) (hi13 b) b = some (dec13 12 b, (0, ())) := by
  have h3 := fun x y => decode_c2_wide (lo13_bytes hb) (lo13_len (by omega)) (blankT_len 2047) (c := 0) (by decide) x y
  have h4 := fun x y => decode_c2_wide (hi13_bytes hb) (hi13_len (by omega)) (wT_len 0 (eacL (lo13 b) true) (blankT 2047)) (c := 1) (by decide) x y
  simp only [Int.natCast_zero, Int.cast_ofNat_Int] at h3 h4
  unfold format_decode
  simp only [Int.reduceBEq, cond_true, cond_false, blank_is.2, h3, h4, Option.bind_some]
  rfl
theorem decode13 (hb : Bytes b) {k : Nat} (h : Fmt k) : b.length = bytes13 k → format_decode 600 (k : Int) ((bytes13 k : Int), (mask13 k, (wide13 k, ()))) (lo13 b) (hi13 b) b = some (dec13 k b, (0, ())) :=
  fmt_cases (p := fun k => b.length = bytes13 k → format_decode 600 (k : Int) ((bytes13 k : Int), (mask13 k, (wide13 k, ()))) (lo13 b) (hi13 b) b = some (dec13 k b, (0, ())))
    (fun hl => d13_1 hb hl _) (fun hl => d13_2 hb hl _) (fun hl => d13_3 hb hl) (fun hl => d13_4 hb hl) (fun hl => d13_5 hb hl) (fun hl => d13_6 hb hl _) (fun hl => d13_7 hb hl _) (fun hl => d13_8 hb hl _) (fun hl => d13_9 hb hl _) (fun hl => d13_10 hb hl _) (fun hl => d13_11 hb hl) (fun hl => d13_12 hb hl) h
theorem Decode13_is (hb : Bytes b) {k : Nat} (h : Fmt k) (hl : b.length = bytes13 k) : format_Decode 600 (k : Int) b = some (dec13 k b, (0, ())) := by
  have g := bytes13_ge k
  unfold format_Decode
  rw [Of_is 600 h]
  have e1 : IntKind.wrap .i64 ((b.length : Int) - 8) = ((b.length - 8 : Nat) : Int) := by rw [w64 (by omega) (by omega)]; omega
  have e2 : (((b.length : Nat) : Int) != (bytes13 k : Int)) = false := by rw [hl]; simp
  have e3 : psub b.length (b.length - 8) = 8 := by rw [psub_eq]; omega
  simp only [Option.bind_some, bne_self_eq_false, cond_false, e2, show 8 ≤ b.length by omega, decide_true, cond_true, e1, Int.natCast_nonneg, Int.toNat_natCast, show b.length - 8 ≤ b.length by omega, Bool.and_self, e3]
  have h3 := decode13 hb h hl
  unfold lo13 hi13 at h3
  rw [h3]
  rfl
end
end Go.AE.Gn
set_option linter.unusedSimpArgs false
set_option linter.unusedVariables false
namespace Go.AE.Gn
open Go Go.AE
def scV (x : Int) : Int := 8 * x + x / 32
def upS (n : Nat) (t : List Int) (j : Nat) : Int := if j < n then scV (t.getD j 0) else t.getD j 0
theorem upS_set {t : List Int} {n : Nat} (hn : n < 64) : (tab 64 (upS n t)).set n (scV (t.getD n 0)) = tab 64 (upS (n + 1) t) := by
  rw [tab_set]
  refine tab_congr fun j hj => ?_
  unfold upS
  by_cases h : j = n
  · subst h; rw [if_pos rfl, if_pos (by omega)]
  · rw [if_neg h]
    by_cases h2 : j < n
    · rw [if_pos h2, if_pos (by omega)]
    · rw [if_neg h2, if_neg (by omega)]
theorem Scale_l2_all {t : List Int} (ht : Rg 255 t) (T : List Int) {i : Nat} (hi : i < 16) (y : Int) : ∀ (d c k : Nat), c + d = 4 → d < k →
    format_Scale_l2 600 k (tab 64 (upS (i * 4 + c) t)) T (i : Int) y (tab 4 fun c => t.getD (i * 4 + c) 0) (c : Int) = some (tab 64 (upS (i * 4 + 4) t), (T, (y, ()))) := by
  intro d
  induction d with
  | zero =>
    intro c k h1 h2
    obtain ⟨k, rfl⟩ : ∃ k', k = k' + 1 := ⟨k - 1, by omega⟩
    obtain rfl : c = 4 := by omega
    rfl
  | succ d ih =>
    intro c k h1 h2
    obtain ⟨k, rfl⟩ : ∃ k', k = k' + 1 := ⟨k - 1, by omega⟩
    show format_Scale_l2S 600 (format_Scale_l2 600 k) (tab 64 (upS (i * 4 + c) t)) T i y (tab 4 fun c => t.getD (i * 4 + c) 0) c = _
    unfold format_Scale_l2S
    have h3 : (i : Int) < 16 := by omega
    have h4 : (c : Int) < 4 := by omega
    have hv := ht (i * 4 + c)
    have e : IntKind.wrap .i64 (IntKind.wrap .i64 (8 * t.getD (i * 4 + c) 0) + IntKind.wrap .i64 (Int.tdiv (t.getD (i * 4 + c) 0) 32)) = scV (t.getD (i * 4 + c) 0) := by
      rw [tdiv_nonneg hv.1, w64 (x := 8 * t.getD (i * 4 + c) 0) (by omega) (by omega), w64 (x := t.getD (i * 4 + c) 0 / 32) (by omega) (by omega), w64 (by omega) (by omega)]
      rfl
    simp only [h3, h4, decide_true, cond_true, Int.natCast_nonneg, Bool.and_self, Int.toNat_natCast, tab_get (show c < 4 by omega), e, upS_set (t := t) (show i * 4 + c < 64 by omega), nextI (show c < 1000000000000 by omega)]
    exact ih (c + 1) k (by omega) (by omega)
theorem Scale_l0_all {t : List Int} (ht : Rg 255 t) (T : List Int) : ∀ (d i k : Nat), i + d = 16 → d < k → format_Scale_l0 600 k (tab 64 (upS (i * 4) t)) T (i : Int) = some (tab 64 (upS 64 t), (T, ())) := by
  intro d
  induction d with
  | zero =>
    intro i k h1 h2
    obtain ⟨k, rfl⟩ : ∃ k', k = k' + 1 := ⟨k - 1, by omega⟩
    obtain rfl : i = 16 := by omega
    rfl
  | succ d ih =>
    intro i k h1 h2
    obtain ⟨k, rfl⟩ : ∃ k', k = k' + 1 := ⟨k - 1, by omega⟩
    show format_Scale_l0S 600 (format_Scale_l0 600 k) (tab 64 (upS (i * 4) t)) T i = _
    unfold format_Scale_l0S
    have h3 : (i : Int) < 16 := by omega
    have e : List.take 4 (List.drop (i * 4) (tab 64 (upS (i * 4) t))) = tab 4 fun c => t.getD (i * 4 + c) 0 := by
      rw [tab_part (by omega)]
      exact tab_congr fun c hc => by unfold upS; rw [if_neg (by omega)]
    have h := Scale_l2_all ht T (i := i) (by omega) i 4 0 600 (by omega) (by omega)
    simp only [Nat.add_zero, Int.natCast_zero] at h
    simp only [h3, decide_true, cond_true, Int.natCast_nonneg, Bool.and_self, Int.toNat_natCast, e, h, Option.bind_some, nextI (show i < 1000000000000 by omega)]
    rw [show i * 4 + 4 = (i + 1) * 4 by omega]
    exact ih (i + 1) k (by omega) (by omega)
def scT (k : Nat) (t : List Int) : List Int := if wide13 k then tab 64 fun j => scV (t.getD j 0) else t
theorem rg_scT {k : Nat} {t : List Int} (ht : Rg 255 t) : Rg (most13 k) (scT k t) := by
  unfold scT most13
  cases wide13 k
  · exact ht
  · exact rg_tab (by decide) fun j _ => by
      have := ht j
      unfold scV
      simp only [if_true]
      omega
theorem Scale_is {k : Nat} (h : Fmt k) {t : List Int} (hl : t.length = 64) (ht : Rg 255 t) : format_Scale 600 (k : Int) t = some (scT k t, ()) := by
  unfold format_Scale scT
  rw [Of_is 600 h]
  simp only [Option.bind_some]
  cases wide13 k
  · rfl
  · have h := Scale_l0_all ht format_DecodeT19 16 0 600 (by omega) (by omega)
    have e0 : tab 64 (upS (0 * 4) t) = t := by
      conv => rhs; rw [tab_all hl]
      exact tab_congr fun j hj => by unfold upS; rw [if_neg (by omega)]
    have e1 : tab 64 (upS 64 t) = tab 64 fun j => scV (t.getD j 0) := tab_congr fun j hj => by unfold upS; rw [if_pos hj]
    rw [e0, e1, show ((0 : Nat) : Int) = 0 from rfl] at h
    simp only [Bool.not_true, cond_false, h, Option.bind_some, if_true]
def bitM (mask : Int) (c : Nat) : Bool := mask / 2 ^ c % 2 == 1
def errT (mask : Int) (s u : List Int) (j : Nat) : Int := if bitM mask (j % 4) then (s.getD j 0 - u.getD j 0) * (s.getD j 0 - u.getD j 0) else 0
def sumN (f : Nat → Int) : Nat → Int
  | 0 => 0
  | n + 1 => sumN f n + f n
theorem sumN_bound {f : Nat → Int} {m : Int} : ∀ {n : Nat}, (∀ i, i < n → 0 ≤ f i ∧ f i ≤ m) → 0 ≤ sumN f n ∧ sumN f n ≤ m * n
  | 0, _ => by simp [sumN]
  | n + 1, h => by
    have h1 := sumN_bound (n := n) fun i hi => h i (by omega)
    have h2 := h n (by omega)
    have e : m * ((n + 1 : Nat) : Int) = m * (n : Int) + m := by
      rw [show ((n + 1 : Nat) : Int) = (n : Int) + 1 by omega, Int.mul_add, Int.mul_one]
    unfold sumN
    rw [e]
    omega
theorem sumN_zero {f : Nat → Int} : ∀ {n : Nat}, (∀ i, i < n → 0 ≤ f i) → (sumN f n = 0 ↔ ∀ i, i < n → f i = 0)
  | 0, _ => by simp [sumN]
  | n + 1, h => by
    have h1 := sumN_zero (n := n) fun i hi => h i (by omega)
    have h0 : 0 ≤ sumN f n := by
      have : ∀ m, m ≤ n → 0 ≤ sumN f m := by
        intro m
        induction m with
        | zero => intro _; exact Int.le_refl 0
        | succ m ih => intro hm; unfold sumN; have := ih (by omega); have := h m (by omega); omega
      exact this n (Nat.le_refl _)
    have h2 := h n (by omega)
    unfold sumN
    constructor
    · intro e i hi
      by_cases hin : i = n
      · subst hin; omega
      · exact h1.1 (by omega) i (by omega)
    · intro e
      have := h1.2 fun i hi => e i (by omega)
      have := e n (by omega)
      omega
theorem sq_bound {x m : Int} (h : -m ≤ x ∧ x ≤ m) : 0 ≤ x * x ∧ x * x ≤ m * m := by
  have hm : 0 ≤ m := by omega
  constructor
  · rcases Int.le_total 0 x with h1 | h1
    · exact Int.mul_nonneg h1 h1
    · have := Int.mul_nonneg (a := -x) (b := -x) (by omega) (by omega)
      rwa [Int.neg_mul_neg] at this
  · rcases Int.le_total 0 x with h1 | h1
    · exact Int.mul_le_mul h.2 h.2 h1 hm
    · have := Int.mul_le_mul (a := -x) (b := -x) (c := m) (d := m) (by omega) (by omega) (by omega) hm
      rwa [Int.neg_mul_neg] at this
theorem sq_zero {x : Int} : x * x = 0 ↔ x = 0 := by
  rw [Int.mul_eq_zero]
  simp
theorem errT_bound {mask : Int} {s u : List Int} (hs : Rg 2047 s) (hu : Rg 2047 u) (j : Nat) : 0 ≤ errT mask s u j ∧ errT mask s u j ≤ 2047 * 2047 := by
  unfold errT
  split
  · have h1 := hs j
    have h2 := hu j
    exact sq_bound (m := 2047) (by omega)
  · decide
def errS (mask : Int) (s u : List Int) : Int := sumN (errT mask s u) 64
theorem errS_nonneg {mask : Int} {s u : List Int} (hs : Rg 2047 s) (hu : Rg 2047 u) : 0 ≤ errS mask s u := (sumN_bound (n := 64) fun i _ => errT_bound hs hu i).1
theorem errS_zero {mask : Int} {s u : List Int} (hs : Rg 2047 s) (hu : Rg 2047 u) : errS mask s u = 0 ↔ ∀ j, j < 64 → bitM mask (j % 4) = true → s.getD j 0 = u.getD j 0 := by
  unfold errS
  rw [sumN_zero fun i _ => (errT_bound hs hu i).1]
  constructor
  · intro h j hj hb
    have := h j hj
    unfold errT at this
    rw [if_pos hb, sq_zero] at this
    omega
  · intro h j hj
    unfold errT
    split
    · rename_i hb
      rw [sq_zero, h j hj hb]
      omega
    · rfl
theorem bit13_is {mask : Int} {c : Nat} (hc : c ≤ 62) : (iand .i64 (ishr .i64 mask (c : Int)) 1 == 1) = bitM mask c := by
  have h := iand_mask (b := 1) (by decide) (x := ishr .i64 mask (c : Int))
  rw [show ((2 : Int) ^ 1 - 1) = 1 from rfl] at h
  rw [h, ishr64' (by omega)]
  rfl
theorem Error_l2_all {mask : Int} {s u : List Int} (hs : Rg 2047 s) (hu : Rg 2047 u) {i : Nat} (hi : i < 16) (y : Int) : ∀ (d c k : Nat), c + d = 4 → d < k →
    level_Error_l2 600 k mask s u (sumN (errT mask s u) (i * 4 + c)) (i : Int) y (c : Int) = some (mask, (s, (u, (sumN (errT mask s u) (i * 4 + 4), (y, ()))))) := by
  intro d
  induction d with
  | zero =>
    intro c k h1 h2
    obtain ⟨k, rfl⟩ : ∃ k', k = k' + 1 := ⟨k - 1, by omega⟩
    obtain rfl : c = 4 := by omega
    rfl
  | succ d ih =>
    intro c k h1 h2
    obtain ⟨k, rfl⟩ : ∃ k', k = k' + 1 := ⟨k - 1, by omega⟩
    show level_Error_l2S 600 (level_Error_l2 600 k) mask s u (sumN (errT mask s u) (i * 4 + c)) i y c = _
    unfold level_Error_l2S
    have h3 : (i : Int) < 16 := by omega
    have h4 : (c : Int) < 4 := by omega
    have b1 := hs (i * 4 + c)
    have b2 := hu (i * 4 + c)
    have b3 := sumN_bound (n := i * 4 + c) (f := errT mask s u) fun j _ => errT_bound hs hu j
    have b5 : (2047 * 2047 : Int) * ((i * 4 + c : Nat) : Int) ≤ 2047 * 2047 * 64 := Int.mul_le_mul_of_nonneg_left (by omega) (by decide)
    have nx := ih (c + 1) k (by omega) (by omega)
    rw [show i * 4 + (c + 1) = (i * 4 + c) + 1 by omega] at nx
    rw [show sumN (errT mask s u) (i * 4 + c + 1) = sumN (errT mask s u) (i * 4 + c) + errT mask s u (i * 4 + c) from rfl] at nx
    cases hb : bitM mask c with
    | true =>
      have e : errT mask s u (i * 4 + c) = (s.getD (i * 4 + c) 0 - u.getD (i * 4 + c) 0) * (s.getD (i * 4 + c) 0 - u.getD (i * 4 + c) 0) := by
        unfold errT
        rw [if_pos (by rw [show (i * 4 + c) % 4 = c by omega]; exact hb)]
      have b4 := sq_bound (x := s.getD (i * 4 + c) 0 - u.getD (i * 4 + c) 0) (m := 2047) (by omega)
      have sq : level_square 600 (IntKind.wrap .i64 (s.getD (i * 4 + c) 0 - u.getD (i * 4 + c) 0)) = some ((s.getD (i * 4 + c) 0 - u.getD (i * 4 + c) 0) * (s.getD (i * 4 + c) 0 - u.getD (i * 4 + c) 0), ()) := by
        unfold level_square
        rw [w64 (x := s.getD (i * 4 + c) 0 - u.getD (i * 4 + c) 0) (by omega) (by omega), w64 (by omega) (by omega)]
      rw [e] at nx
      simp only [h3, h4, decide_true, cond_true, Int.natCast_nonneg, Bool.and_self, Int.toNat_natCast, bit13_is (mask := mask) (show c ≤ 62 by omega), hb, sq, Option.bind_some, nextI (show c < 1000000000000 by omega)]
      rw [w64 (by omega) (by omega)]
      exact nx
    | false =>
      have e : errT mask s u (i * 4 + c) = 0 := by
        unfold errT
        rw [if_neg (by rw [show (i * 4 + c) % 4 = c by omega, hb]; simp)]
      rw [e, Int.add_zero] at nx
      simp only [h3, h4, decide_true, cond_true, cond_false, Int.natCast_nonneg, Bool.and_self, Int.toNat_natCast, bit13_is (mask := mask) (show c ≤ 62 by omega), hb, nextI (show c < 1000000000000 by omega)]
      exact nx
theorem Error_l0_all {mask : Int} {s u : List Int} (hs : Rg 2047 s) (hu : Rg 2047 u) : ∀ (d i k : Nat), i + d = 16 → d < k → level_Error_l0 600 k mask s u (sumN (errT mask s u) (i * 4)) (i : Int) = some (errS mask s u, ()) := by
  intro d
  induction d with
  | zero =>
    intro i k h1 h2
    obtain ⟨k, rfl⟩ : ∃ k', k = k' + 1 := ⟨k - 1, by omega⟩
    obtain rfl : i = 16 := by omega
    rfl
  | succ d ih =>
    intro i k h1 h2
    obtain ⟨k, rfl⟩ : ∃ k', k = k' + 1 := ⟨k - 1, by omega⟩
    show level_Error_l0S 600 (level_Error_l0 600 k) mask s u (sumN (errT mask s u) (i * 4)) i = _
    unfold level_Error_l0S
    have h3 : (i : Int) < 16 := by omega
    have h := Error_l2_all hs hu (i := i) (by omega) (i : Int) 4 0 600 (by omega) (by omega) (mask := mask)
    simp only [Nat.add_zero, Int.natCast_zero] at h
    simp only [h3, decide_true, cond_true, h, Option.bind_some, nextI (show i < 1000000000000 by omega)]
    rw [show i * 4 + 4 = (i + 1) * 4 by omega]
    exact ih (i + 1) k (by omega) (by omega)
theorem lError_is (mask : Int) {s u : List Int} (hs : Rg 2047 s) (hu : Rg 2047 u) : level_Error 600 s u mask = some (errS mask s u, ()) := by
  have h := Error_l0_all hs hu 16 0 600 (by omega) (by omega) (mask := mask)
  unfold level_Error
  simp only [Nat.zero_mul, Int.natCast_zero, sumN] at h
  rw [h]
  rfl
theorem most13_le (k : Nat) : most13 k ≤ 2047 := by
  unfold most13
  split <;> decide
def err13 (k : Nat) (b t : List Int) : Int := errS (mask13 k) (scT k t) (dec13 k b)
theorem Error13_is {b t : List Int} (hb : Bytes b) {k : Nat} (h : Fmt k) (hl : b.length = bytes13 k) (htl : t.length = 64) (ht : Rg 255 t) : format_Error 600 (k : Int) b t = some (err13 k b t, (0, ())) := by
  unfold format_Error
  rw [Decode13_is hb h hl, Of_is 600 h, Scale_is h htl ht]
  simp only [Option.bind_some, bne_self_eq_false, cond_false, lError_is (mask13 k) (rg_mono (rg_scT (k := k) ht) (most13_le k)) (rg_mono (rg_dec13 hb h) (most13_le k))]
  rfl
end Go.AE.Gn
set_option linter.unusedSimpArgs false
set_option linter.unusedVariables false
namespace Go.AE.Gn
open Go Go.AE
theorem Bytewise_l2_all (t : List Int) {i : Nat} (hi : i < 16) : ∀ (d c k : Nat), c + d = 4 → d < k →
    ref13_Bytewise_l2 600 k t (i : Int) (c : Int) = some (.inl ()) ∨ (ref13_Bytewise_l2 600 k t (i : Int) (c : Int) = some (.inr (t, ((i : Int), ()))) ∧ ∀ c', c ≤ c' → c' < 4 → 0 ≤ t.getD (i * 4 + c') 0 ∧ t.getD (i * 4 + c') 0 ≤ 255) := by
  intro d
  induction d with
  | zero =>
    intro c k h1 h2
    obtain ⟨k, rfl⟩ : ∃ k', k = k' + 1 := ⟨k - 1, by omega⟩
    obtain rfl : c = 4 := by omega
    exact .inr ⟨rfl, fun c' h h' => by omega⟩
  | succ d ih =>
    intro c k h1 h2
    obtain ⟨k, rfl⟩ : ∃ k', k = k' + 1 := ⟨k - 1, by omega⟩
    have e : ref13_Bytewise_l2 600 (k + 1) t (i : Int) (c : Int) = ref13_Bytewise_l2S 600 (ref13_Bytewise_l2 600 k) t i c := rfl
    rw [e]
    unfold ref13_Bytewise_l2S
    have h3 : (i : Int) < 16 := by omega
    have h4 : (c : Int) < 4 := by omega
    simp only [h3, h4, decide_true, cond_true, Int.natCast_nonneg, Bool.and_self, Int.toNat_natCast, nextI (show c < 1000000000000 by omega)]
    by_cases v1 : t.getD (i * 4 + c) 0 < 0
    · left
      simp only [v1, decide_true, cond_true]
    · simp only [v1, decide_false, cond_false]
      by_cases v2 : 255 < t.getD (i * 4 + c) 0
      · left
        simp only [v2, decide_true, cond_true]
      · simp only [v2, decide_false, cond_false]
        rcases ih (c + 1) k (by omega) (by omega) with h | ⟨h, h'⟩
        · exact .inl h
        · refine .inr ⟨h, fun c' g1 g2 => ?_⟩
          by_cases hc : c' = c
          · subst hc; omega
          · exact h' c' (by omega) g2
theorem Bytewise_l0_all (t : List Int) : ∀ (d i k : Nat), i + d = 16 → d < k →
    ref13_Bytewise_l0 600 k t (i : Int) = some (.inl ()) ∨ (ref13_Bytewise_l0 600 k t (i : Int) = some (.inr ()) ∧ ∀ j, i * 4 ≤ j → j < 64 → 0 ≤ t.getD j 0 ∧ t.getD j 0 ≤ 255) := by
  intro d
  induction d with
  | zero =>
    intro i k h1 h2
    obtain ⟨k, rfl⟩ : ∃ k', k = k' + 1 := ⟨k - 1, by omega⟩
    obtain rfl : i = 16 := by omega
    exact .inr ⟨rfl, fun j h h' => by omega⟩
  | succ d ih =>
    intro i k h1 h2
    obtain ⟨k, rfl⟩ : ∃ k', k = k' + 1 := ⟨k - 1, by omega⟩
    have e : ref13_Bytewise_l0 600 (k + 1) t (i : Int) = ref13_Bytewise_l0S 600 (ref13_Bytewise_l0 600 k) t i := rfl
    rw [e]
    unfold ref13_Bytewise_l0S
    have h3 : (i : Int) < 16 := by omega
    simp only [h3, decide_true, cond_true]
    rcases Bytewise_l2_all t (i := i) (by omega) 4 0 600 (by omega) (by omega) with h | ⟨h, h'⟩
    · left
      simp only [Int.natCast_zero] at h
      simp only [h, Option.bind_some]
    · simp only [Int.natCast_zero] at h
      simp only [h, Option.bind_some, nextI (show i < 1000000000000 by omega)]
      rcases ih (i + 1) k (by omega) (by omega) with g | ⟨g, g'⟩
      · exact .inl g
      · refine .inr ⟨g, fun j h5 h6 => ?_⟩
        by_cases hj : j < i * 4 + 4
        · have := h' (j - i * 4) (by omega) (by omega)
          rwa [show i * 4 + (j - i * 4) = j by omega] at this
        · exact g' j (by omega) h6
theorem Bytewise_cases {t : List Int} (hl : t.length = 64) : (ref13_Bytewise 600 t = some (true, ()) ∧ Rg 255 t) ∨ ref13_Bytewise 600 t = some (false, ()) := by
  unfold ref13_Bytewise
  rcases Bytewise_l0_all t 16 0 600 (by omega) (by omega) with h | ⟨h, h'⟩
  · right
    simp only [Int.natCast_zero] at h
    rw [h]
    rfl
  · left
    simp only [Int.natCast_zero] at h
    refine ⟨by rw [h]; rfl, fun j => ?_⟩
    by_cases hj : j < 64
    · exact h' j (by omega) hj
    · rw [rg_out (by omega)]
      decide
def SameTo (mask : Int) (u w : List Int) (c i : Nat) : Prop := ∀ j, j < 64 → bitM mask (j % 4) = true → (j % 4 < c ∨ (j % 4 = c ∧ j / 4 < i)) → u.getD j 0 = w.getD j 0
theorem mbit_is {mask : Int} (hm : 0 ≤ mask ∧ mask ≤ 15) {c : Nat} (hc : c < 4) : (Int.tmod (IntKind.wrap .i64 (Int.tdiv mask (2 ^ c))) 2 == 1) = bitM mask c := by
  have hp : (0 : Int) < 2 ^ c := powPos c
  have h1 : 0 ≤ mask / 2 ^ c := Int.ediv_nonneg hm.1 (by omega)
  have h2 : mask / 2 ^ c ≤ mask := Int.ediv_le_self _ hm.1
  rw [tdiv_nonneg hm.1, w64 (by omega) (by omega), tmod_nonneg h1]
  rfl
theorem Keeps_l2_all {mask m : Int} (hm : 0 ≤ mask ∧ mask ≤ 15) {u w : List Int} (hu : Rg m u) (hw : Rg m w) (x0 : Bool) (x1 : Int) (x3 : Bool) (x5 x7 x8 : Int) {c : Nat} (hc : c < 4) : ∀ (d i k : Nat) (s : Bool), i + d = 16 → d < k → (s = true ↔ SameTo mask u w c i) →
    ∃ s', (s' = true ↔ SameTo mask u w c 16) ∧ law13_FormatKeeps_l2 600 k x0 x1 mask x3 u x5 w x7 x8 m s (2 ^ c) (c : Int) (i : Int) = some (.inr (x0, (x1, (mask, (x3, (u, (x5, (w, (x7, (x8, (m, (s', ((2 ^ c), ((c : Int), ())))))))))))))) := by
  intro d
  induction d with
  | zero =>
    intro i k s h1 h2 hs
    obtain ⟨k, rfl⟩ : ∃ k', k = k' + 1 := ⟨k - 1, by omega⟩
    obtain rfl : i = 16 := by omega
    exact ⟨s, hs, rfl⟩
  | succ d ih =>
    intro i k s h1 h2 hs
    obtain ⟨k, rfl⟩ : ∃ k', k = k' + 1 := ⟨k - 1, by omega⟩
    have e : law13_FormatKeeps_l2 600 (k + 1) x0 x1 mask x3 u x5 w x7 x8 m s (2 ^ c) (c : Int) (i : Int) = law13_FormatKeeps_l2S 600 (law13_FormatKeeps_l2 600 k) x0 x1 mask x3 u x5 w x7 x8 m s (2 ^ c) c i := rfl
    rw [e]
    unfold law13_FormatKeeps_l2S
    have h3 : (i : Int) < 16 := by omega
    have h4 : (c : Int) < 4 := by omega
    have b1 := hu (i * 4 + c)
    have b2 := hw (i * 4 + c)
    have hp : (0 : Int) < 2 ^ c := powPos c
    have hp0 : ((2 : Int) ^ c == 0) = false := beqF (by omega)
    have n1 : ¬ u.getD (i * 4 + c) 0 < 0 := by omega
    have n2 : ¬ m < u.getD (i * 4 + c) 0 := by omega
    have n3 : ¬ w.getD (i * 4 + c) 0 < 0 := by omega
    have n4 : ¬ m < w.getD (i * 4 + c) 0 := by omega
    simp only [h3, h4, decide_true, cond_true, Int.natCast_nonneg, Bool.and_self, Int.toNat_natCast, n1, n2, n3, n4, decide_false, cond_false, hp0, Bool.not_false, mbit_is hm hc, nextI (show i < 1000000000000 by omega)]
    have jm : (i * 4 + c) % 4 = c := by omega
    have jd : (i * 4 + c) / 4 = i := by omega
    cases hb : bitM mask c with
    | false =>
      simp only [cond_false]
      refine ih (i + 1) k s (by omega) (by omega) (hs.trans ⟨fun h j g1 g2 g3 => h j g1 g2 ?_, fun h j g1 g2 g3 => h j g1 g2 (by omega)⟩)
      rcases g3 with g3 | ⟨g3, g4⟩
      · exact .inl g3
      · rw [g3, hb] at g2; cases g2
    | true =>
      cases s with
      | false =>
        simp only [cond_true, cond_false]
        refine ih (i + 1) k false (by omega) (by omega) ⟨fun h => (by cases h), fun h => hs.2 fun j g1 g2 g3 => h j g1 g2 (by omega)⟩
      | true =>
        simp only [cond_true]
        have h0 := hs.1 rfl
        refine ih (i + 1) k _ (by omega) (by omega) ⟨fun h j g1 g2 g3 => ?_, fun h => ?_⟩
        · by_cases hj : j = i * 4 + c
          · subst hj
            simpa using h
          · exact h0 j g1 g2 (by omega)
        · have := h (i * 4 + c) (by omega) (by rw [jm]; exact hb) (.inr ⟨jm, by omega⟩)
          simpa using this
theorem Keeps_l0_all {mask m : Int} (hm : 0 ≤ mask ∧ mask ≤ 15) {u w : List Int} (hu : Rg m u) (hw : Rg m w) (x0 : Bool) (x1 : Int) (x3 : Bool) (x5 x7 x8 : Int) : ∀ (d c k : Nat) (s : Bool), c + d = 4 → d < k → (s = true ↔ SameTo mask u w c 0) →
    ∃ s', (s' = true ↔ SameTo mask u w 4 0) ∧ law13_FormatKeeps_l0 600 k x0 x1 mask x3 u x5 w x7 x8 m s (2 ^ c) (c : Int) = some (.inr (x0, (x5, (x7, (x8, (s', ())))))) := by
  intro d
  induction d with
  | zero =>
    intro c k s h1 h2 hs
    obtain ⟨k, rfl⟩ : ∃ k', k = k' + 1 := ⟨k - 1, by omega⟩
    obtain rfl : c = 4 := by omega
    exact ⟨s, hs, rfl⟩
  | succ d ih =>
    intro c k s h1 h2 hs
    obtain ⟨k, rfl⟩ : ∃ k', k = k' + 1 := ⟨k - 1, by omega⟩
    have e : law13_FormatKeeps_l0 600 (k + 1) x0 x1 mask x3 u x5 w x7 x8 m s (2 ^ c) (c : Int) = law13_FormatKeeps_l0S 600 (law13_FormatKeeps_l0 600 k) x0 x1 mask x3 u x5 w x7 x8 m s (2 ^ c) c := rfl
    rw [e]
    unfold law13_FormatKeeps_l0S
    have h4 : (c : Int) < 4 := by omega
    obtain ⟨s1, g1, g2⟩ := Keeps_l2_all hm hu hw x0 x1 x3 x5 x7 x8 (c := c) (by omega) 16 0 600 s (by omega) (by omega) hs
    simp only [Int.natCast_zero] at g2
    have hp : (0 : Int) < 2 ^ c := powPos c
    have hp8 : (2 : Int) ^ c ≤ 2 ^ 4 := ipow_le (by omega)
    have e2 : IntKind.wrap .i64 (2 * 2 ^ c) = 2 ^ (c + 1) := by rw [w64 (by omega) (by omega), Int.pow_succ]; omega
    simp only [h4, decide_true, cond_true, g2, Option.bind_some, e2, nextI (show c < 1000000000000 by omega)]
    exact ih (c + 1) k s1 (by omega) (by omega) (g1.trans ⟨fun h j q1 q2 q3 => h j q1 q2 (by omega), fun h j q1 q2 q3 => h j q1 q2 (by omega)⟩)
theorem mask13_bound (k : Nat) : 0 ≤ mask13 k ∧ mask13 k ≤ 15 := by
  unfold mask13
  split <;> decide
theorem law13_FormatKeeps_true (a0 : Int) (a1 a2 : List Int) (h0 : IntKind.i64.has a0) (h1 : ∀ x ∈ a1, IntKind.u8.has x) (h2 : a2.length = 64 ∧ ∀ x ∈ a2, IntKind.i64.has x) : ∃ F, law13_FormatKeeps F a0 a1 a2 = some (true, ()) := by
  refine ⟨600, ?_⟩
  have hb : Bytes a1 := bytes_of h1
  unfold law13_FormatKeeps
  rw [awake13]
  rcases Bytewise_cases h2.1 with ⟨hB, ht⟩ | hB
  · rw [hB]
    by_cases hf : 1 ≤ a0 ∧ a0 ≤ 12
    · obtain ⟨k, hk, rfl⟩ := fmt_of hf
      rw [Of_is 600 hk]
      by_cases hl : a1.length = bytes13 k
      · have e1 : ((a1.length : Int) != (bytes13 k : Int)) = false := by rw [hl]; simp
        have eD := Decode13_is hb hk hl
        have eS := Scale_is hk h2.1 ht
        have eE := Error13_is hb hk hl h2.1 ht
        have ru := rg_dec13 hb hk
        have rw' := rg_scT (k := k) ht
        have h0' : (true = true ↔ SameTo (mask13 k) (dec13 k a1) (scT k a2) 0 0) := ⟨fun _ j q1 q2 q3 => by omega, fun _ => rfl⟩
        have z : errS (mask13 k) (scT k a2) (dec13 k a1) = 0 ↔ SameTo (mask13 k) (dec13 k a1) (scT k a2) 4 0 := by
          rw [errS_zero (rg_mono rw' (most13_le k)) (rg_mono ru (most13_le k))]
          exact ⟨fun h j q1 q2 _ => (h j q1 q2).symm, fun h j q1 q2 => (h j q1 q2 (by omega)).symm⟩
        have nn : 0 ≤ err13 k a1 a2 := errS_nonneg (rg_mono rw' (most13_le k)) (rg_mono ru (most13_le k))
        have key : ∀ m, m = most13 k → ∀ y : Int, ∃ s', law13_FormatKeeps_l0 600 600 true y (mask13 k) (wide13 k) (dec13 k a1) 0 (scT k a2) (err13 k a1 a2) 0 m true 1 0 = some (.inr (true, (0, (err13 k a1 a2, (0, (s', ())))))) ∧ ((err13 k a1 a2 == 0) == s') = true := by
          intro m hm y
          subst hm
          obtain ⟨s', g1, g2⟩ := Keeps_l0_all (mask13_bound k) ru rw' true y (wide13 k) 0 (err13 k a1 a2) 0 4 0 600 true (by omega) (by omega) h0'
          refine ⟨s', by simpa using g2, ?_⟩
          have : (err13 k a1 a2 = 0) ↔ s' = true := z.trans g1.symm
          cases s' with
          | true => simpa using this
          | false =>
            have h9 : ¬ err13 k a1 a2 = 0 := fun q => by simpa using this.1 q
            simp [h9]
        simp only [Option.bind_some, Bool.not_true, cond_false, bne_self_eq_false, e1, eD, eS, eE]
        cases hw : wide13 k with
        | true =>
          rw [hw] at key
          obtain ⟨s', g1, g2⟩ := key 2047 (by simp [most13, hw]) (bytes13 k)
          simp only [cond_true, g1, Option.bind_some, beq_self_eq_true, nn, decide_true, g2]
        | false =>
          rw [hw] at key
          obtain ⟨s', g1, g2⟩ := key 255 (by simp [most13, hw]) (bytes13 k)
          simp only [cond_false, g1, Option.bind_some, beq_self_eq_true, nn, decide_true, g2, cond_true]
      · have e1 : ((a1.length : Int) != (bytes13 k : Int)) = true := bneT (by omega)
        simp only [Option.bind_some, Bool.not_true, cond_false, bne_self_eq_false, e1, cond_true]
    · rw [Of_bad 600 hf]
      rfl
  · rw [hB]
    by_cases hf : 1 ≤ a0 ∧ a0 ≤ 12
    · obtain ⟨k, hk, rfl⟩ := fmt_of hf
      rw [Of_is 600 hk]
      rfl
    · rw [Of_bad 600 hf]
      rfl
end Go.AE.Gn
