/- Layer 10: etcone. Parts of blocks, tables, halves. -/
import Derived.Test.YtdhhinbhckoipaaB10defs
import Derived.Test.YtdhhinbhckoipaaPure07
import Derived.Test.YtdhhinbhckoipaaPureLib2
set_option linter.unusedSimpArgs false
set_option linter.unusedVariables false
namespace Go.AE.Gn
open Go Go.AE

abbrev Blk10 := Bool × (Bool × (List Int × (List Int × (List Int × (List Int × Unit)))))

def col10 (i : Nat) : Nat := 4 * (i % 4) + i / 4

theorem column_closed : ((List.range 16).all fun i => etcone_column 0 i == some ((col10 i : Int), ())) = true := by kernel_rfl
theorem column_is (F : Nat) {i : Nat} (h : i < 16) : etcone_column F i = some ((col10 i : Int), ()) := by
  have := List.all_eq_true.1 column_closed i (by simpa using h)
  have e : etcone_column F i = etcone_column 0 i := rfl
  rw [e]
  simpa using this
theorem rcol_is {i : Nat} (h : i < 16) : IntKind.wrap .i64 (IntKind.wrap .i64 (4 * Int.tmod (i : Int) 4) + IntKind.wrap .i64 (Int.tdiv (i : Int) 4)) = (col10 i : Int) := by
  have := column_is 0 h
  unfold etcone_column at this
  simpa using this
theorem col10_lt {i : Nat} (h : i < 16) : col10 i ≤ 15 := by unfold col10; omega

theorem get10 {F : Nat} (hF : 66 ≤ F) {b : List Int} (hb : Bytes b) (hl : b.length = 8) {a n : Nat} (hn : n ≤ 16) (h : a + n ≤ 64) : etcone_Parts_c1 F a n b = some (hv b a n, ()) := by
  unfold etcone_Parts_c1
  have h1 := hv_bound b a n
  have h2 : (2 : Int) ^ n ≤ 2 ^ 16 := ipow_le hn
  rw [High_hv hF hb (by omega) (by omega) (by omega)]
  simp only [Option.bind_some]
  rw [w64 (by omega) (by omega)]
theorem rget10 {F : Nat} (hF : 66 ≤ F) {b : List Int} (hb : Bytes b) (hl : b.length = 8) {a n : Nat} (hn : n ≤ 16) (h : a + n ≤ 64) : ref02_Top F b a n = some (hv b a n, ()) := by
  unfold ref02_Top
  have h1 := hv_bound b a n
  have h2 : (2 : Int) ^ n ≤ 2 ^ 16 := ipow_le hn
  rw [Get_is hF hb (by omega)]
  simp only [Option.bind_some, if_true]
  rw [highV_hv (by omega) (by omega), w64 (by omega) (by omega)]

/-- Three bits as a difference. -/
def sg3 (x : Int) : Int := if 4 ≤ x then x - 8 else x

def eA (d : Bool) (b : List Int) (c : Nat) : Int := if d then hv b (8 * c) 5 else hv b (8 * c) 4
def eB (d : Bool) (b : List Int) (c : Nat) : Int := if d then sg3 (hv b (8 * c + 5) 3) else hv b (8 * c + 4) 4
def eAs (d : Bool) (b : List Int) : List Int := [eA d b 0, eA d b 1, eA d b 2]
def eBs (d : Bool) (b : List Int) : List Int := [eB d b 0, eB d b 1, eB d b 2]
def eWs (b : List Int) : List Int := (List.range 16).map fun i => 2 * hv b (47 - col10 i) 1 + hv b (63 - col10 i) 1
def eDiff (b : List Int) : Bool := hv b 30 1 == 1
def eFlip (b : List Int) : Bool := hv b 31 1 == 1
def eP (b : List Int) : Blk10 := (eDiff b, (eFlip b, (eAs (eDiff b) b, (eBs (eDiff b) b, ([hv b 24 3, hv b 27 3], (eWs b, ()))))))

theorem three_fill {N : Nat} (hN : N = 3) {x : List Int} (hx : x.length = 3) (a b c : Int) : ((x.set 0 a).set 1 b).set 2 c = [a, b, c] := by
  match x, hx with
  | [p, q, r], _ => rfl

theorem at10 (a : Nat) : IntKind.wrap .i64 ((8 : Int) * ((a : Nat) : Int)) = IntKind.wrap .i64 (((8 * a : Nat) : Int)) := by simp

theorem Parts10_l0_step {F : Nat} (hF : 66 ≤ F) {b : List Int} (hb : Bytes b) (hl : b.length = 8) (k : Nat) (x0 x1 x2 x3 : List Int) (d f : Bool) (A B : List Int) (hA : A.length = 3) (hB : B.length = 3) (x8 x9 : List Int) {i : Nat} (hi : i < 3) :
    etcone_Parts_l0 F (k + 1) x0 x1 x2 x3 d f A B x8 x9 b i = etcone_Parts_l0 F k x0 x1 x2 x3 d f (A.set i (eA d b i)) (B.set i (eB d b i)) x8 x9 b ((i + 1 : Nat) : Int) := by
  have h0 : etcone_Parts_l0 F (k + 1) x0 x1 x2 x3 d f A B x8 x9 b i = etcone_Parts_l0S F (etcone_Parts_l0 F k) x0 x1 x2 x3 d f A B x8 x9 b i := rfl
  rw [h0]
  unfold etcone_Parts_l0S
  have h1 : (i : Int) < 3 := by omega
  have e8 : IntKind.wrap .i64 ((8 : Int) * (i : Int)) = ((8 * i : Nat) : Int) := by rw [w64 (by omega) (by omega)]; omega
  have e4 : IntKind.wrap .i64 (((8 * i : Nat) : Int) + 4) = ((8 * i + 4 : Nat) : Int) := by rw [w64 (by omega) (by omega)]; omega
  have e5 : IntKind.wrap .i64 (((8 * i : Nat) : Int) + 5) = ((8 * i + 5 : Nat) : Int) := by rw [w64 (by omega) (by omega)]; omega
  have g1 := get10 hF hb hl (a := 8 * i) (n := 4) (by decide) (by omega)
  have g2 := get10 hF hb hl (a := 8 * i + 4) (n := 4) (by decide) (by omega)
  have g3 := get10 hF hb hl (a := 8 * i) (n := 5) (by decide) (by omega)
  have g4 := get10 hF hb hl (a := 8 * i + 5) (n := 3) (by decide) (by omega)
  have q4 := hv_bound b (8 * i + 5) 3
  simp only [Int.cast_ofNat_Int] at g1 g2 g3 g4
  have hget : ∀ v, (B.set i v).getD i 0 = v := fun v => by rw [getD_set _ _ _ _ (by omega), if_pos rfl]
  have hset : ∀ v w, (B.set i v).set i w = B.set i w := fun v w => List.set_set ..
  simp only [h1, decide_true, cond_true, e8, e4, e5, Int.natCast_nonneg, Bool.and_self, g1, g2, g3, g4, Option.bind_some, Int.toNat_natCast, hget, hset, nextI (show i < 1000000000000 by omega)]
  cases d
  · rfl
  · simp only [Bool.not_true, cond_false]
    unfold eA eB sg3
    by_cases h : 4 ≤ hv b (8 * i + 5) 3
    · simp only [h, decide_true, cond_true, if_true]
      rw [w64 (by omega) (by omega)]
      rfl
    · simp only [h, decide_false, cond_false, if_true, if_false]

theorem Parts10_l0_is {F : Nat} (hF : 66 ≤ F) {b : List Int} (hb : Bytes b) (hl : b.length = 8) (x0 x1 x2 x3 : List Int) (d f : Bool) {A B : List Int} (hA : A.length = 3) (hB : B.length = 3) (x8 x9 : List Int) :
    etcone_Parts_l0 F F x0 x1 x2 x3 d f A B x8 x9 b 0 = some (x0, (x1, (x2, (x3, (d, (f, (eAs d b, (eBs d b, (x8, (x9, (b, ()))))))))))) := by
  obtain ⟨n, rfl⟩ : ∃ n, F = n + 4 := ⟨F - 4, by omega⟩
  have s0 := Parts10_l0_step hF hb hl (n + 3) x0 x1 x2 x3 d f A B hA hB x8 x9 (i := 0) (by decide)
  have s1 := Parts10_l0_step hF hb hl (n + 2) x0 x1 x2 x3 d f (A.set 0 (eA d b 0)) (B.set 0 (eB d b 0)) (by simp [hA]) (by simp [hB]) x8 x9 (i := 1) (by decide)
  have s2 := Parts10_l0_step hF hb hl (n + 1) x0 x1 x2 x3 d f ((A.set 0 (eA d b 0)).set 1 (eA d b 1)) ((B.set 0 (eB d b 0)).set 1 (eB d b 1)) (by simp [hA]) (by simp [hB]) x8 x9 (i := 2) (by decide)
  simp only [Nat.zero_add, Nat.reduceAdd, Int.natCast_zero] at s0 s1 s2
  rw [s0, s1, s2, three_fill rfl hA, three_fill rfl hB]
  rfl

theorem Parts10_l2_is {F : Nat} (hF : 66 ≤ F) {b : List Int} (hb : Bytes b) (hl : b.length = 8) (x0 x1 x2 x3 : List Int) (d f : Bool) (A B T : List Int) {W : List Int} (hW : W.length = 16) :
    etcone_Parts_l2 F F x0 x1 x2 x3 d f A B T W b 0 = some (x0, (x1, (x2, (x3, (d, (f, (A, (B, (T, (eWs b, ())))))))))) := by
  refine fill_loop 16 (fun i => 2 * hv b (47 - col10 i) 1 + hv b (63 - col10 i) 1) (fun k w i => etcone_Parts_l2 F k x0 x1 x2 x3 d f A B T w b i) (fun w => some (x0, (x1, (x2, (x3, (d, (f, (A, (B, (T, (w, ()))))))))))) ?_ ?_ _ hW F (by omega)
  · intro k i w hi hw
    show etcone_Parts_l2S F (etcone_Parts_l2 F k) x0 x1 x2 x3 d f A B T w b i = _
    unfold etcone_Parts_l2S
    have hc := col10_lt hi
    have g1 := get10 hF hb hl (a := 47 - col10 i) (n := 1) (by decide) (by omega)
    have g2 := get10 hF hb hl (a := 63 - col10 i) (n := 1) (by decide) (by omega)
    have e1 : IntKind.wrap .i64 ((47 : Int) - (col10 i : Int)) = ((47 - col10 i : Nat) : Int) := by rw [w64 (by omega) (by omega)]; omega
    have e2 : IntKind.wrap .i64 ((63 : Int) - (col10 i : Int)) = ((63 - col10 i : Nat) : Int) := by rw [w64 (by omega) (by omega)]; omega
    have b1 := hv_bound b (47 - col10 i) 1
    have b2 := hv_bound b (63 - col10 i) 1
    simp only [Int.cast_ofNat_Int] at g1 g2
    have h1 : (i : Int) < 16 := by omega
    simp only [h1, decide_true, cond_true, column_is F hi, Option.bind_some, e1, e2, g1, g2, Int.natCast_nonneg, Bool.and_self, Int.toNat_natCast, nextI (show i < 1000000000000 by omega)]
    rw [w64 (x := 2 * _) (by omega) (by omega), w64 (by omega) (by omega)]
  · intro k w hw
    show etcone_Parts_l2S F (etcone_Parts_l2 F k) x0 x1 x2 x3 d f A B T w b 16 = _
    unfold etcone_Parts_l2S
    simp

theorem Parts10_is {F : Nat} (hF : 66 ≤ F) {b : List Int} (hb : Bytes b) (hl : b.length = 8) : etcone_Parts F b = some (eP b, (0, ())) := by
  unfold etcone_Parts
  have e : ((b.length : Int) != 8) = false := by rw [hl]; rfl
  have g1 := get10 hF hb hl (a := 30) (n := 1) (by decide) (by decide)
  have g2 := get10 hF hb hl (a := 31) (n := 1) (by decide) (by decide)
  have g3 := get10 hF hb hl (a := 24) (n := 3) (by decide) (by decide)
  have g4 := get10 hF hb hl (a := 27) (n := 3) (by decide) (by decide)
  simp only [Int.cast_ofNat_Int] at g1 g2 g3 g4
  simp only [e, cond_false, g1, g2, Option.bind_some]
  rw [Parts10_l0_is hF hb hl _ _ _ _ _ _ rfl rfl]
  simp only [Option.bind_some, g3, g4]
  rw [Parts10_l2_is hF hb hl _ _ _ _ _ _ _ _ _ rfl]
  rfl

/-! ### the document's -/

theorem Which10_is {F : Nat} (hF : 66 ≤ F) {b : List Int} (hb : Bytes b) (hl : b.length = 8) : ref10_Which F b = some (eWs b, ()) := by
  have loop : ∀ T W : List Int, W.length = 16 → ref10_Which_l0 F F b T W 0 = some (T, (eWs b, ())) := by
    intro T W hW
    refine fill_loop 16 (fun i => 2 * hv b (47 - col10 i) 1 + hv b (63 - col10 i) 1) (fun k w i => ref10_Which_l0 F k b T w i) (fun w => some (T, (w, ()))) ?_ ?_ _ hW F (by omega)
    · intro k i w hi hw
      show ref10_Which_l0S F (ref10_Which_l0 F k) b T w i = _
      unfold ref10_Which_l0S
      have hc := col10_lt hi
      have g1 := rget10 hF hb hl (a := 47 - col10 i) (n := 1) (by decide) (by omega)
      have g2 := rget10 hF hb hl (a := 63 - col10 i) (n := 1) (by decide) (by omega)
      have e1 : IntKind.wrap .i64 ((47 : Int) - (col10 i : Int)) = ((47 - col10 i : Nat) : Int) := by rw [w64 (by omega) (by omega)]; omega
      have e2 : IntKind.wrap .i64 ((63 : Int) - (col10 i : Int)) = ((63 - col10 i : Nat) : Int) := by rw [w64 (by omega) (by omega)]; omega
      have b1 := hv_bound b (47 - col10 i) 1
      have b2 := hv_bound b (63 - col10 i) 1
      simp only [Int.cast_ofNat_Int] at g1 g2
      have h1 : (i : Int) < 16 := by omega
      simp only [h1, decide_true, cond_true, rcol_is hi, Option.bind_some, e1, e2, g1, g2, Int.natCast_nonneg, Bool.and_self, Int.toNat_natCast, nextI (show i < 1000000000000 by omega)]
      rw [w64 (x := 2 * _) (by omega) (by omega), w64 (by omega) (by omega)]
    · intro k w hw
      show ref10_Which_l0S F (ref10_Which_l0 F k) b T w 16 = _
      unfold ref10_Which_l0S
      simp
  unfold ref10_Which
  rw [loop _ _ rfl]
  rfl

theorem rParts10_l0_step {F : Nat} (hF : 66 ≤ F) {b : List Int} (hb : Bytes b) (hl : b.length = 8) (k : Nat) (x1 x2 x3 x4 : List Int) (d f : Bool) (A B : List Int) (hA : A.length = 3) (hB : B.length = 3) (x8 x9 : List Int) {i : Nat} (hi : i < 3) :
    ref10_Parts_l0 F (k + 1) b x1 x2 x3 x4 d f A B x8 x9 i = ref10_Parts_l0 F k b x1 x2 x3 x4 d f (A.set i (eA d b i)) (B.set i (eB d b i)) x8 x9 ((i + 1 : Nat) : Int) := by
  have h0 : ref10_Parts_l0 F (k + 1) b x1 x2 x3 x4 d f A B x8 x9 i = ref10_Parts_l0S F (ref10_Parts_l0 F k) b x1 x2 x3 x4 d f A B x8 x9 i := rfl
  rw [h0]
  unfold ref10_Parts_l0S
  have h1 : (i : Int) < 3 := by omega
  have e8 : IntKind.wrap .i64 ((8 : Int) * (i : Int)) = ((8 * i : Nat) : Int) := by rw [w64 (by omega) (by omega)]; omega
  have e4 : IntKind.wrap .i64 (((8 * i : Nat) : Int) + 4) = ((8 * i + 4 : Nat) : Int) := by rw [w64 (by omega) (by omega)]; omega
  have e5 : IntKind.wrap .i64 (((8 * i : Nat) : Int) + 5) = ((8 * i + 5 : Nat) : Int) := by rw [w64 (by omega) (by omega)]; omega
  have g1 := rget10 hF hb hl (a := 8 * i) (n := 4) (by decide) (by omega)
  have g2 := rget10 hF hb hl (a := 8 * i + 4) (n := 4) (by decide) (by omega)
  have g3 := rget10 hF hb hl (a := 8 * i) (n := 5) (by decide) (by omega)
  have g4 := rget10 hF hb hl (a := 8 * i + 5) (n := 3) (by decide) (by omega)
  have q4 := hv_bound b (8 * i + 5) 3
  simp only [Int.cast_ofNat_Int] at g1 g2 g3 g4
  have hget : ∀ v, (B.set i v).getD i 0 = v := fun v => by rw [getD_set _ _ _ _ (by omega), if_pos rfl]
  have hset : ∀ v w, (B.set i v).set i w = B.set i w := fun v w => List.set_set ..
  simp only [h1, decide_true, cond_true, e8, e4, e5, Int.natCast_nonneg, Bool.and_self, g1, g2, g3, g4, Option.bind_some, Int.toNat_natCast, hget, hset, nextI (show i < 1000000000000 by omega)]
  cases d
  · rfl
  · simp only [cond_true]
    unfold eA eB sg3
    by_cases h : 4 ≤ hv b (8 * i + 5) 3
    · have h' : 3 < hv b (8 * i + 5) 3 := by omega
      simp only [h, h', decide_true, cond_true, if_true]
      rw [w64 (by omega) (by omega)]
    · have h' : ¬ 3 < hv b (8 * i + 5) 3 := by omega
      simp only [h, h', decide_false, cond_false, if_true, if_false]

theorem rParts10_is {F : Nat} (hF : 66 ≤ F) {b : List Int} (hb : Bytes b) (hl : b.length = 8) : ref10_Parts F b = some (eP b, (0, ())) := by
  unfold ref10_Parts
  have e : ((b.length : Int) != 8) = false := by rw [hl]; rfl
  have g1 := rget10 hF hb hl (a := 30) (n := 1) (by decide) (by decide)
  have g2 := rget10 hF hb hl (a := 31) (n := 1) (by decide) (by decide)
  have g3 := rget10 hF hb hl (a := 24) (n := 3) (by decide) (by decide)
  have g4 := rget10 hF hb hl (a := 27) (n := 3) (by decide) (by decide)
  have loop : ∀ (x1 x2 x3 x4 : List Int) (d f : Bool) (A B : List Int) (hA : A.length = 3) (hB : B.length = 3) (x8 x9 : List Int), ref10_Parts_l0 F F b x1 x2 x3 x4 d f A B x8 x9 0 = some (b, (x1, (x2, (x3, (x4, (d, (f, (eAs d b, (eBs d b, (x8, (x9, ()))))))))))) := by
    intro x1 x2 x3 x4 d f A B hA hB x8 x9
    clear g1 g2 g3 g4
    obtain ⟨n, rfl⟩ : ∃ n, F = n + 4 := ⟨F - 4, by omega⟩
    have s0 := rParts10_l0_step hF hb hl (n + 3) x1 x2 x3 x4 d f A B hA hB x8 x9 (i := 0) (by decide)
    have s1 := rParts10_l0_step hF hb hl (n + 2) x1 x2 x3 x4 d f (A.set 0 (eA d b 0)) (B.set 0 (eB d b 0)) (by simp [hA]) (by simp [hB]) x8 x9 (i := 1) (by decide)
    have s2 := rParts10_l0_step hF hb hl (n + 1) x1 x2 x3 x4 d f ((A.set 0 (eA d b 0)).set 1 (eA d b 1)) ((B.set 0 (eB d b 0)).set 1 (eB d b 1)) (by simp [hA]) (by simp [hB]) x8 x9 (i := 2) (by decide)
    simp only [Nat.zero_add, Nat.reduceAdd, Int.natCast_zero] at s0 s1 s2
    rw [s0, s1, s2, three_fill rfl hA, three_fill rfl hB]
    rfl
  simp only [Int.cast_ofNat_Int] at g1 g2 g3 g4
  simp only [e, cond_false, g1, g2, Option.bind_some]
  rw [loop _ _ _ _ _ _ _ _ rfl rfl]
  simp only [Option.bind_some, g3, g4, Which10_is hF hb hl]
  rfl

/-! ### tables and halves -/

theorem iand15 (x : Int) : iand .i64 x 15 = x % 16 := iand_mask (x := x) (b := 4) (by decide)
theorem iand7 (x : Int) : iand .i64 x 7 = x % 8 := iand_mask (x := x) (b := 3) (by decide)
theorem iand3 (x : Int) : iand .i64 x 3 = x % 4 := iand_mask (x := x) (b := 2) (by decide)

theorem mod10_is (F : Nat) {x m : Int} (hm : 0 < m ∧ m ≤ 1000000000) : ref10_mod F x m = some (x % m, ()) := by
  unfold ref10_mod
  have h0 : (!(m == (0 : Int))) = true := by simp; omega
  have hf := tmod_fix (x := x) hm.1
  have h1 := Int.emod_nonneg x (show m ≠ 0 by omega)
  have h2 := Int.emod_lt_of_pos x hm.1
  rw [h0]
  simp only [cond_true]
  by_cases hn : x.tmod m < 0
  · rw [if_pos hn] at hf
    simp only [hn, decide_true, cond_true]
    rw [hf, w64 (by omega) (by omega)]
  · rw [if_neg hn] at hf
    simp only [hn, decide_false, cond_false]
    rw [hf]

def tab10 : Nat → List Int
  | 0 => [2, 8, -2, -8]
  | 1 => [5, 17, -5, -17]
  | 2 => [9, 29, -9, -29]
  | 3 => [13, 42, -13, -42]
  | 4 => [18, 60, -18, -60]
  | 5 => [24, 80, -24, -80]
  | 6 => [33, 106, -33, -106]
  | _ => [47, 183, -47, -183]

theorem tab10_len (n : Nat) : (tab10 n).length = 4 := by unfold tab10; split <;> rfl
theorem getD_all {p : Int → Prop} (h0 : p 0) {l : List Int} (h : ∀ x ∈ l, p x) (i : Nat) : p (l.getD i 0) := by
  rw [List.getD_eq_getElem?_getD]
  by_cases hi : i < l.length
  · rw [List.getElem?_eq_getElem hi]
    exact h _ (List.getElem_mem hi)
  · rw [List.getElem?_eq_none (by omega)]
    exact h0
theorem tab10_bound (n i : Nat) : -183 ≤ (tab10 n).getD i 0 ∧ (tab10 n).getD i 0 ≤ 183 := by
  apply getD_all (p := fun x => -183 ≤ x ∧ x ≤ 183) (by decide)
  unfold tab10
  split <;> decide

theorem eight {v : Int} (h : 0 ≤ v ∧ v < 8) : v = 0 ∨ v = 1 ∨ v = 2 ∨ v = 3 ∨ v = 4 ∨ v = 5 ∨ v = 6 ∨ v = 7 := by omega

theorem Table10_is (F : Nat) (n : Int) : etcone_Table F n = some (tab10 (n % 8).toNat, ()) := by
  unfold etcone_Table
  rw [iand7]
  have h : 0 ≤ n % 8 ∧ n % 8 < 8 := by omega
  generalize n % 8 = v at *
  rcases eight h with rfl | rfl | rfl | rfl | rfl | rfl | rfl | rfl <;> rfl
theorem rTable10_is (F : Nat) (n : Int) : ref10_Table F n = some (tab10 (n % 8).toNat, ()) := by
  unfold ref10_Table
  rw [mod10_is F (by decide)]
  have h : 0 ≤ n % 8 ∧ n % 8 < 8 := by omega
  simp only [Option.bind_some]
  generalize n % 8 = v at *
  rcases eight h with rfl | rfl | rfl | rfl | rfl | rfl | rfl | rfl <;> rfl

def half10 (f : Bool) (m : Int) : Nat := if f then (m % 16).toNat / 8 else (m % 16).toNat % 4 / 2
theorem half10_lt (f : Bool) (m : Int) : half10 f m < 2 := by
  unfold half10
  split <;> omega

theorem Half10_is (F : Nat) (f : Bool) (m : Int) : etcone_Half F f m = some ((half10 f m : Int), ()) ∧ ref10_Half F f m = some ((half10 f m : Int), ()) := by
  unfold etcone_Half ref10_Half half10
  rw [mod10_is F (by decide), iand15]
  have h : 0 ≤ m % 16 ∧ m % 16 < 16 := by omega
  simp only [Option.bind_some]
  generalize m % 16 = v at *
  obtain ⟨n, rfl⟩ := Int.eq_ofNat_of_zero_le h.1
  have e1 : Int.tdiv (n : Int) 8 = ((n / 8 : Nat) : Int) := rfl
  have e2 : Int.tdiv (Int.tmod (n : Int) 4) 2 = ((n % 4 / 2 : Nat) : Int) := rfl
  rw [e1, e2, w64 (x := ((n / 8 : Nat) : Int)) (by omega) (by omega), w64 (by omega) (by omega)]
  cases f
  · exact ⟨rfl, rfl⟩
  · exact ⟨rfl, rfl⟩

/-! ### bases -/

/-- The second colour's part, and how many bits one has. -/
def n10 (d : Bool) (A B : List Int) (c : Nat) : Int := if d then A.getD c 0 + B.getD c 0 else B.getD c 0
def w10 (d : Bool) : Nat := if d then 5 else 4
def bases10 (d : Bool) (A B : List Int) : List Int :=
  [wideV (w10 d) (A.getD 0 0), wideV (w10 d) (A.getD 1 0), wideV (w10 d) (A.getD 2 0), 255, wideV (w10 d) (n10 d A B 0), wideV (w10 d) (n10 d A B 1), wideV (w10 d) (n10 d A B 2), 255]
def bad10 (A B : List Int) (c : Nat) : Prop := n10 true A B c < 0 ∨ 31 < n10 true A B c
instance (A B : List Int) (c : Nat) : Decidable (bad10 A B c) := by unfold bad10; exact inferInstance
def far10 (d : Bool) (A B : List Int) : Int := if d then (if bad10 A B 0 then 0 else if bad10 A B 1 then 1 else if bad10 A B 2 then 2 else 3) else 3

/-- Parts that are as a block's may be. -/
def Fair10 (A B : List Int) : Prop := A.length = 3 ∧ B.length = 3 ∧ (∀ c, 0 ≤ A.getD c 0 ∧ A.getD c 0 ≤ 31) ∧ (∀ c, -4 ≤ B.getD c 0 ∧ B.getD c 0 ≤ 15)

theorem Bases10_step {F : Nat} (hF : 10 ≤ F) (k : Nat) (d f : Bool) {A B : List Int} (hf : Fair10 A B) (T W x6 x7 : List Int) (far : Int) {i : Nat} (hi : i < 3) :
    etcone_Bases_l0 F (k + 1) d f A B T W x6 x7 far i = etcone_Bases_l0 F k d f A B T W x6 ((x7.set i (wideV (w10 d) (A.getD i 0))).set (4 + i) (wideV (w10 d) (n10 d A B i))) (if d = true ∧ far = 3 ∧ bad10 A B i then (i : Int) else far) ((i + 1 : Nat) : Int) := by
  have h0 : etcone_Bases_l0 F (k + 1) d f A B T W x6 x7 far i = etcone_Bases_l0S F (etcone_Bases_l0 F k) d f A B T W x6 x7 far i := rfl
  rw [h0]
  unfold etcone_Bases_l0S
  have h1 : (i : Int) < 3 := by omega
  have h2 : (i : Int) < 4 := by omega
  have a1 := hf.2.2.1 i
  have a2 := hf.2.2.2 i
  have e1 : IntKind.wrap .i64 (A.getD i 0 + B.getD i 0) = A.getD i 0 + B.getD i 0 := w64 (by omega) (by omega)
  have w5 := fun x => Wide_is (F := F) hF (b := 5) (by decide) x
  have w4 := fun x => Wide_is (F := F) hF (b := 4) (by decide) x
  have s5 := ishr64' (x := A.getD i 0 + B.getD i 0) (k := 5) (by decide)
  simp only [Int.cast_ofNat_Int] at w5 w4 s5
  simp only [h1, h2, decide_true, cond_true, Int.natCast_nonneg, Bool.and_self, Int.toNat_natCast, e1, w5, w4, s5, Option.bind_some, nextI (show i < 1000000000000 by omega)]
  cases d
  · simp only [cond_false, w10, n10, Bool.false_eq_true, if_false, false_and]
  · simp only [cond_true, w10, n10, if_true, true_and, bad10]
    by_cases hfar : far = 3
    · subst hfar
      simp only [beq_self_eq_true, cond_true, true_and]
      by_cases hn : A.getD i 0 + B.getD i 0 < 0
      · simp only [hn, decide_true, cond_true, true_or, if_true]
      · simp only [hn, decide_false, cond_false, false_or]
        by_cases hg : 31 < A.getD i 0 + B.getD i 0
        · have : ((A.getD i 0 + B.getD i 0) / 2 ^ 5 != 0) = true := bneT (by omega)
          simp only [this, cond_true, hg, if_true]
        · have : ((A.getD i 0 + B.getD i 0) / 2 ^ 5 != 0) = false := by
            have : (A.getD i 0 + B.getD i 0) / 2 ^ 5 = 0 := by omega
            rw [this]; rfl
          simp only [this, cond_false, hg, if_false]
    · simp only [beqF hfar, cond_false, hfar, false_and, if_false]

theorem far10_steps (d : Bool) (A B : List Int) : (if d = true ∧ (if d = true ∧ (if d = true ∧ (3 : Int) = 3 ∧ bad10 A B 0 then ((0 : Nat) : Int) else 3) = 3 ∧ bad10 A B 1 then ((1 : Nat) : Int) else (if d = true ∧ (3 : Int) = 3 ∧ bad10 A B 0 then ((0 : Nat) : Int) else 3)) = 3 ∧ bad10 A B 2 then ((2 : Nat) : Int) else
    (if d = true ∧ (if d = true ∧ (3 : Int) = 3 ∧ bad10 A B 0 then ((0 : Nat) : Int) else 3) = 3 ∧ bad10 A B 1 then ((1 : Nat) : Int) else (if d = true ∧ (3 : Int) = 3 ∧ bad10 A B 0 then ((0 : Nat) : Int) else 3))) = far10 d A B := by
  unfold far10
  cases d
  · simp
  · by_cases h0 : bad10 A B 0 <;> by_cases h1 : bad10 A B 1 <;> by_cases h2 : bad10 A B 2 <;> simp [h0, h1, h2]

theorem Bases10_is {F : Nat} (hF : 10 ≤ F) (d f : Bool) {A B : List Int} (hf : Fair10 A B) (T W : List Int) : etcone_Bases F (d, (f, (A, (B, (T, (W, ())))))) = some (bases10 d A B, (far10 d A B, ())) := by
  unfold etcone_Bases
  have s0 : ∀ n far x6 x7, etcone_Bases_l0 F (n + 1) d f A B T W x6 x7 far 0 = _ := fun n far x6 x7 => Bases10_step hF n d f hf T W x6 x7 far (i := 0) (by decide)
  have s1 : ∀ n far x6 x7, etcone_Bases_l0 F (n + 1) d f A B T W x6 x7 far 1 = _ := fun n far x6 x7 => Bases10_step hF n d f hf T W x6 x7 far (i := 1) (by decide)
  have s2 : ∀ n far x6 x7, etcone_Bases_l0 F (n + 1) d f A B T W x6 x7 far 2 = _ := fun n far x6 x7 => Bases10_step hF n d f hf T W x6 x7 far (i := 2) (by decide)
  have s3 : ∀ n far x6 x7, etcone_Bases_l0 F (n + 1) d f A B T W x6 x7 far 3 = some (x6, (x7, (far, ()))) := fun n far x6 x7 => rfl
  obtain ⟨n, hn⟩ : ∃ n, F = n + 4 := ⟨F - 4, by omega⟩
  have key : ∀ (m : Nat), m = n + 4 → ∀ x6 x7 : List Int, etcone_Bases_l0 F m d f A B T W x6 x7 3 0 = some (x6, (((((((x7.set 0 (wideV (w10 d) (A.getD 0 0))).set 4 (wideV (w10 d) (n10 d A B 0))).set 1 (wideV (w10 d) (A.getD 1 0))).set 5 (wideV (w10 d) (n10 d A B 1))).set 2 (wideV (w10 d) (A.getD 2 0))).set 6 (wideV (w10 d) (n10 d A B 2)), (far10 d A B, ())))) := by
    intro m hm x6 x7
    subst hm
    rw [← far10_steps d A B]
    refine (s0 _ _ _ _).trans ((s1 _ _ _ _).trans ((s2 _ _ _ _).trans (s3 _ _ _ _)))
  simp only [key F hn, Option.bind_some]
  rfl

/-! ### what a block paints -/

theorem take4 {l : List Int} {n : Nat} (h : n + 4 ≤ l.length) : (l.drop n).take 4 = [l.getD n 0, l.getD (n + 1) 0, l.getD (n + 2) 0, l.getD (n + 3) 0] := by
  have e : ∀ j, j < l.length → l.drop j = l.getD j 0 :: l.drop (j + 1) := fun j hj => by
    rw [List.drop_eq_getElem_cons hj, List.getD_eq_getElem?_getD, List.getElem?_eq_getElem hj]
    rfl
  rw [e n (by omega), e (n + 1) (by omega), e (n + 2) (by omega), e (n + 3) (by omega)]
  rfl

theorem Clamp10_is (F : Nat) (x : Int) : level_Clamp F x 255 = some (clampV x, ()) := rfl
theorem rClamp10_is (F : Nat) (x : Int) : ref03_Clamp F x 255 = some (clampV x, ()) := by
  unfold ref03_Clamp clampV
  by_cases h1 : 255 < x
  · have : max 0 (min x 255) = 255 := by omega
    simp [h1, this]
  · by_cases h2 : x < 0
    · have : max 0 (min x 255) = 0 := by omega
      simp [h1, h2, this]
    · have : max 0 (min x 255) = x := by omega
      simp [h1, h2, this]

/-- The number that a texel adds. -/
def add10 (T W : List Int) (f : Bool) (i : Nat) : Int := (tab10 ((T.getD (half10 f i) 0) % 8).toNat).getD ((W.getD i 0) % 4).toNat 0
def tex10 (bs T W : List Int) (f : Bool) (i : Nat) : List Int :=
  [clampV (bs.getD (half10 f i * 4) 0 + add10 T W f i), clampV (bs.getD (half10 f i * 4 + 1) 0 + add10 T W f i), clampV (bs.getD (half10 f i * 4 + 2) 0 + add10 T W f i), bs.getD (half10 f i * 4 + 3) 0]
def paint10 (d f : Bool) (A B T W : List Int) : List Int := (List.range 16).flatMap (tex10 (bases10 d A B) T W f)

theorem w10_b (d : Bool) : 1 ≤ w10 d ∧ w10 d ≤ 8 := by cases d <;> decide
theorem bases10_len (d : Bool) (A B : List Int) : (bases10 d A B).length = 8 := rfl
theorem bases10_bound (d : Bool) (A B : List Int) (j : Nat) : 0 ≤ (bases10 d A B).getD j 0 ∧ (bases10 d A B).getD j 0 ≤ 255 := by
  apply getD_all (p := fun x => 0 ≤ x ∧ x ≤ 255) (by decide)
  intro x hx
  have hw := fun y => wideV_bound (w10_b d) y
  simp only [bases10, List.mem_cons, List.not_mem_nil, or_false] at hx
  rcases hx with rfl | rfl | rfl | rfl | rfl | rfl | rfl | rfl <;> first | exact hw _ | decide

theorem Paint10_l2_step {F k : Nat} (d f : Bool) (A B T W x6 bs P l Q x12 : List Int) (x13 : Int) {i : Nat} (hi : i < 16) (hP : P.length = i * 4) (hl : l.length = 4) (hb : ∀ c, 0 ≤ l.getD c 0 ∧ l.getD c 0 ≤ 255) (w : Int) {h : Nat} (hh : h < 2) {c : Nat} (hc : c < 3) :
    etcone_Paint_l2 F (k + 1) d f A B T W x6 bs (P ++ l ++ Q) i w h x12 x13 c = etcone_Paint_l2 F k d f A B T W x6 bs (P ++ l.set c (clampV (l.getD c 0 + (tab10 ((T.getD h 0) % 8).toNat).getD (w % 4).toNat 0)) ++ Q) i w h x12 x13 ((c + 1 : Nat) : Int) := by
  have h0 : etcone_Paint_l2 F (k + 1) d f A B T W x6 bs (P ++ l ++ Q) i w h x12 x13 c = etcone_Paint_l2S F (etcone_Paint_l2 F k) d f A B T W x6 bs (P ++ l ++ Q) i w h x12 x13 c := rfl
  rw [h0]
  unfold etcone_Paint_l2S
  have h1 : (c : Int) < 3 := by omega
  have h2 : (c : Int) < 4 := by omega
  have h3 : (i : Int) < 16 := by omega
  have h4 : (h : Int) < 2 := by omega
  have hw : 0 ≤ w % 4 ∧ w % 4 < 4 := by omega
  have g1 := chunk_get P l Q hP (show c < l.length by omega)
  have g2 := chunk_set P l Q hP (show c < l.length by omega)
  have tb := tab10_bound ((T.getD h 0) % 8).toNat (w % 4).toNat
  have lb := hb c
  simp only [h1, h2, h3, h4, decide_true, cond_true, Int.natCast_nonneg, Bool.and_self, Int.toNat_natCast, Table10_is, Option.bind_some, iand3, hw.1, hw.2, Clamp10_is, g1, g2, nextI (show c < 1000000000000 by omega)]
  rw [w64 (by omega) (by omega)]

theorem set_bound {l : List Int} (hb : ∀ c, 0 ≤ l.getD c 0 ∧ l.getD c 0 ≤ 255) (i : Nat) {v : Int} (hv : 0 ≤ v ∧ v ≤ 255) : ∀ c, 0 ≤ (l.set i v).getD c 0 ∧ (l.set i v).getD c 0 ≤ 255 := by
  intro c
  by_cases h : i < l.length
  · rw [getD_set _ _ _ _ h]
    split
    · exact hv
    · exact hb c
  · rw [List.set_eq_of_length_le (by omega)]
    exact hb c

theorem Paint10_l2_is {F : Nat} (hF : 10 ≤ F) (d f : Bool) (A B T W x6 bs P l Q x12 : List Int) (x13 : Int) {i : Nat} (hi : i < 16) (hP : P.length = i * 4) (hl : l.length = 4) (hb : ∀ c, 0 ≤ l.getD c 0 ∧ l.getD c 0 ≤ 255) (w : Int) {h : Nat} (hh : h < 2) {n : Int} (hn : n = (tab10 ((T.getD h 0) % 8).toNat).getD (w % 4).toNat 0) :
    etcone_Paint_l2 F F d f A B T W x6 bs (P ++ l ++ Q) i w h x12 x13 0 = some (d, (f, (A, (B, (T, (W, (x6, (bs, (P ++ [clampV (l.getD 0 0 + n), clampV (l.getD 1 0 + n), clampV (l.getD 2 0 + n), l.getD 3 0] ++ Q, (x12, (x13, ()))))))))))) := by
  obtain ⟨a, b, c, e, rfl⟩ : ∃ a b c e, l = [a, b, c, e] := by
    match l, hl with
    | [a, b, c, e], _ => exact ⟨a, b, c, e, rfl⟩
  subst hn
  have key : ∀ m, m = F → ∀ k, m = k + 4 → etcone_Paint_l2 F m d f A B T W x6 bs (P ++ [a, b, c, e] ++ Q) i w h x12 x13 0 = _ := fun m _ k hk => by
    subst hk
    refine (Paint10_l2_step (k := k + 3) d f A B T W x6 bs P [a, b, c, e] Q x12 x13 hi hP rfl hb w hh (c := 0) (by decide)).trans ?_
    refine (Paint10_l2_step (k := k + 2) d f A B T W x6 bs P _ Q x12 x13 hi hP rfl (set_bound hb 0 (clampV_bound _)) w hh (c := 1) (by decide)).trans ?_
    exact (Paint10_l2_step (k := k + 1) d f A B T W x6 bs P _ Q x12 x13 hi hP rfl (set_bound (set_bound hb 0 (clampV_bound _)) 1 (clampV_bound _)) w hh (c := 2) (by decide)).trans rfl
  rw [key F rfl (F - 4) (by omega)]
  rfl

theorem Paint10_is {F : Nat} (hF : 17 ≤ F) (d f : Bool) {A B T W : List Int} (hf : Fair10 A B) (hW : ∀ i, 0 ≤ W.getD i 0 ∧ W.getD i 0 ≤ 3) : etcone_Paint F (d, (f, (A, (B, (T, (W, ())))))) = some (paint10 d f A B T W, ()) := by
  unfold etcone_Paint
  have loop : ∀ x6 x8 : List Int, x8.length = 64 → etcone_Paint_l0 F F d f A B T W x6 (bases10 d A B) x8 W 0 = some (x6, (paint10 d f A B T W, ())) := by
    intro x6 x8 h8
    refine fill_parts 16 4 (tex10 (bases10 d A B) T W f) (fun i hi => rfl) (fun k w i => etcone_Paint_l0 F k d f A B T W x6 (bases10 d A B) w W i) (fun w => some (x6, (w, ()))) ?_ ?_ _ h8 F (by omega)
    · intro k i w hi hw
      show etcone_Paint_l0S F (etcone_Paint_l0 F k) d f A B T W x6 (bases10 d A B) w W i = _
      unfold etcone_Paint_l0S
      have h1 : (i : Int) < 16 := by omega
      have hh := half10_lt f i
      have h2 : (half10 f i : Int) < 2 := by omega
      have t4 := take4 (l := bases10 d A B) (n := half10 f i * 4) (by rw [bases10_len]; omega)
      have hP : (w.take (i * 4)).length = i * 4 := by rw [List.length_take]; omega
      have l2 := Paint10_l2_is (by omega) d f A B T W x6 (bases10 d A B) (w.take (i * 4)) [(bases10 d A B).getD (half10 f i * 4) 0, (bases10 d A B).getD (half10 f i * 4 + 1) 0, (bases10 d A B).getD (half10 f i * 4 + 2) 0, (bases10 d A B).getD (half10 f i * 4 + 3) 0] (w.drop (i * 4 + 4)) W i hi hP rfl
        (fun c => getD_all (p := fun x => 0 ≤ x ∧ x ≤ 255) (by decide) (fun x hx => by
            simp only [List.mem_cons, List.not_mem_nil, or_false] at hx
            rcases hx with rfl | rfl | rfl | rfl <;> exact bases10_bound d A B _) c) (W.getD i 0) hh (n := add10 T W f i) rfl (F := F)
      simp only [h1, decide_true, cond_true, Int.natCast_nonneg, Bool.and_self, Int.toNat_natCast, (Half10_is F f i).1, Option.bind_some, h2, t4, l2, nextI (show i < 1000000000000 by omega)]
      rfl
    · intro k w hw
      show etcone_Paint_l0S F (etcone_Paint_l0 F k) d f A B T W x6 (bases10 d A B) w W 16 = _
      unfold etcone_Paint_l0S
      simp
  rw [Bases10_is (by omega) d f hf]
  simp only [Option.bind_some]
  rw [loop _ _ rfl]
  rfl

/-! ### the document's bases, and what it paints -/

theorem In10_is (F : Nat) (n a b : Int) : ref10_In F n a b = some (decide (a ≤ n ∧ n ≤ b), ()) := by
  unfold ref10_In
  by_cases h : a ≤ n
  · simp [h]
  · simp [h]

theorem rBases10_step {F : Nat} (hF : 10 ≤ F) (k : Nat) (d f : Bool) {A B : List Int} (hf : Fair10 A B) (T W x6 x7 : List Int) (far : Int) {i : Nat} (hi : i < 3) :
    ref10_Bases_l0 F (k + 1) d f A B T W x6 x7 far i = ref10_Bases_l0 F k d f A B T W x6 ((x7.set i (wideV (w10 d) (A.getD i 0))).set (4 + i) (wideV (w10 d) (n10 d A B i))) (if d = true ∧ bad10 A B i then (i : Int) else far) ((i : Int) - 1) := by
  have h0 : ref10_Bases_l0 F (k + 1) d f A B T W x6 x7 far i = ref10_Bases_l0S F (ref10_Bases_l0 F k) d f A B T W x6 x7 far i := rfl
  rw [h0]
  unfold ref10_Bases_l0S
  have h1 : (i : Int) < 3 := by omega
  have h2 : (i : Int) < 4 := by omega
  have a1 := hf.2.2.1 i
  have a2 := hf.2.2.2 i
  have e1 : IntKind.wrap .i64 (A.getD i 0 + B.getD i 0) = A.getD i 0 + B.getD i 0 := w64 (by omega) (by omega)
  have e2 : IntKind.wrap .i64 ((i : Int) - 1) = (i : Int) - 1 := w64 (by omega) (by omega)
  have w5 := fun x hx => rWide_is (F := F) hF (b := 5) (by decide) (x := x) hx
  have w4 := fun x hx => rWide_is (F := F) hF (b := 4) (by decide) (x := x) hx
  have g1 := w5 (A.getD i 0) (by omega)
  have g2 := w5 ((A.getD i 0 + B.getD i 0) % 32) (by omega)
  have g3 := w4 (A.getD i 0) (by omega)
  have g4 := w4 (B.getD i 0) (by omega)
  have g5 : wideV 5 ((A.getD i 0 + B.getD i 0) % 32) = wideV 5 (A.getD i 0 + B.getD i 0) := by unfold wideV; congr 2; omega
  simp only [Int.cast_ofNat_Int] at g1 g2 g3 g4
  simp only [h1, h2, decide_true, cond_true, Int.natCast_nonneg, Bool.and_self, Int.toNat_natCast, e1, e2, In10_is, mod10_is F (show (0 : Int) < 32 ∧ (32 : Int) ≤ 1000000000 by decide), g1, g2, g3, g4, g5, Option.bind_some]
  cases d
  · simp only [cond_false, w10, n10, Bool.false_eq_true, if_false, false_and]
  · simp only [cond_true, w10, n10, if_true, true_and, bad10]
    by_cases hn : 0 ≤ A.getD i 0 + B.getD i 0 ∧ A.getD i 0 + B.getD i 0 ≤ 31
    · have hb : ¬ (A.getD i 0 + B.getD i 0 < 0 ∨ 31 < A.getD i 0 + B.getD i 0) := by omega
      simp only [hn, and_self, decide_true, Bool.not_true, cond_false, hb, if_false]
    · have hb : (A.getD i 0 + B.getD i 0 < 0 ∨ 31 < A.getD i 0 + B.getD i 0) := by omega
      simp only [hn, decide_false, Bool.not_false, cond_true, hb, if_true]

theorem rfar10_steps (d : Bool) (A B : List Int) : (if d = true ∧ bad10 A B 0 then ((0 : Nat) : Int) else (if d = true ∧ bad10 A B 1 then ((1 : Nat) : Int) else (if d = true ∧ bad10 A B 2 then ((2 : Nat) : Int) else 3))) = far10 d A B := by
  unfold far10
  cases d
  · simp
  · by_cases h0 : bad10 A B 0 <;> by_cases h1 : bad10 A B 1 <;> by_cases h2 : bad10 A B 2 <;> simp [h0, h1, h2]

theorem rBases10_is {F : Nat} (hF : 10 ≤ F) (d f : Bool) {A B : List Int} (hf : Fair10 A B) (T W : List Int) : ref10_Bases F (d, (f, (A, (B, (T, (W, ())))))) = some (bases10 d A B, (far10 d A B, ())) := by
  unfold ref10_Bases
  have s0 : ∀ n far x6 x7, ref10_Bases_l0 F (n + 1) d f A B T W x6 x7 far 0 = _ := fun n far x6 x7 => rBases10_step hF n d f hf T W x6 x7 far (i := 0) (by decide)
  have s1 : ∀ n far x6 x7, ref10_Bases_l0 F (n + 1) d f A B T W x6 x7 far 1 = _ := fun n far x6 x7 => rBases10_step hF n d f hf T W x6 x7 far (i := 1) (by decide)
  have s2 : ∀ n far x6 x7, ref10_Bases_l0 F (n + 1) d f A B T W x6 x7 far 2 = _ := fun n far x6 x7 => rBases10_step hF n d f hf T W x6 x7 far (i := 2) (by decide)
  have s3 : ∀ n far x6 x7, ref10_Bases_l0 F (n + 1) d f A B T W x6 x7 far (-1) = some (x6, (x7, (far, ()))) := fun n far x6 x7 => rfl
  obtain ⟨n, hn⟩ : ∃ n, F = n + 4 := ⟨F - 4, by omega⟩
  have key : ∀ (m : Nat), m = n + 4 → ∀ x6 x7 : List Int, ref10_Bases_l0 F m d f A B T W x6 x7 3 2 = some (x6, ((((((x7.set 2 (wideV (w10 d) (A.getD 2 0))).set 6 (wideV (w10 d) (n10 d A B 2))).set 1 (wideV (w10 d) (A.getD 1 0))).set 5 (wideV (w10 d) (n10 d A B 1))).set 0 (wideV (w10 d) (A.getD 0 0))).set 4 (wideV (w10 d) (n10 d A B 0)), (far10 d A B, ()))) := by
    intro m hm x6 x7
    subst hm
    rw [← rfar10_steps d A B]
    refine (s2 _ _ _ _).trans ((s1 _ _ _ _).trans ((s0 _ _ _ _).trans (s3 _ _ _ _)))
  simp only [key F hn, Option.bind_some]
  rfl

theorem Add10_step {F k : Nat} (n : Int) (hn : -183 ≤ n ∧ n ≤ 183) (l x2 : List Int) (hb : ∀ c, 0 ≤ l.getD c 0 ∧ l.getD c 0 ≤ 255) {c : Nat} (hc : c < 3) :
    ref10_Add_l0 F (k + 1) n l x2 c = ref10_Add_l0 F k n (l.set c (clampV (l.getD c 0 + n))) x2 ((c + 1 : Nat) : Int) := by
  have h0 : ref10_Add_l0 F (k + 1) n l x2 c = ref10_Add_l0S F (ref10_Add_l0 F k) n l x2 c := rfl
  rw [h0]
  unfold ref10_Add_l0S
  have h1 : (c : Int) < 3 := by omega
  have h2 : (c : Int) < 4 := by omega
  have lb := hb c
  simp only [h1, h2, decide_true, cond_true, Int.natCast_nonneg, Bool.and_self, Int.toNat_natCast, Option.bind_some, rClamp10_is, nextI (show c < 1000000000000 by omega)]
  rw [w64 (by omega) (by omega)]

theorem Add10_is {F : Nat} (hF : 10 ≤ F) {n : Int} (hn : -183 ≤ n ∧ n ≤ 183) {a b c e : Int} (hb : ∀ i, 0 ≤ ([a, b, c, e] : List Int).getD i 0 ∧ ([a, b, c, e] : List Int).getD i 0 ≤ 255) : ref10_Add F [a, b, c, e] n = some ([clampV (a + n), clampV (b + n), clampV (c + n), e], ()) := by
  unfold ref10_Add
  have key : ∀ m, m = F → ∀ k, m = k + 4 → ∀ x2 : List Int, ref10_Add_l0 F m n [a, b, c, e] x2 0 = some ([clampV (a + n), clampV (b + n), clampV (c + n), e], (x2, ())) := fun m _ k hk x2 => by
    subst hk
    refine (Add10_step (k := k + 3) n hn [a, b, c, e] x2 hb (c := 0) (by decide)).trans ?_
    refine (Add10_step (k := k + 2) n hn _ x2 (set_bound hb 0 (clampV_bound _)) (c := 1) (by decide)).trans ?_
    exact (Add10_step (k := k + 1) n hn _ x2 (set_bound (set_bound hb 0 (clampV_bound _)) 1 (clampV_bound _)) (c := 2) (by decide)).trans rfl
  rw [key F rfl (F - 4) (by omega)]
  rfl

theorem rPaint10_is {F : Nat} (hF : 17 ≤ F) (d f : Bool) {A B T W : List Int} (hf : Fair10 A B) (hW : ∀ i, 0 ≤ W.getD i 0 ∧ W.getD i 0 ≤ 3) : ref10_Paint F (d, (f, (A, (B, (T, (W, ())))))) = some (paint10 d f A B T W, ()) := by
  unfold ref10_Paint
  have loop : ∀ x6 x8 : List Int, x8.length = 64 → ref10_Paint_l0 F F d f A B T W x6 (bases10 d A B) x8 0 = some (x6, (paint10 d f A B T W, ())) := by
    intro x6 x8 h8
    refine fill_parts 16 4 (tex10 (bases10 d A B) T W f) (fun i hi => rfl) (fun k w i => ref10_Paint_l0 F k d f A B T W x6 (bases10 d A B) w i) (fun w => some (x6, (w, ()))) ?_ ?_ _ h8 F (by omega)
    · intro k i w hi hw
      show ref10_Paint_l0S F (ref10_Paint_l0 F k) d f A B T W x6 (bases10 d A B) w i = _
      unfold ref10_Paint_l0S
      have h1 : (i : Int) < 16 := by omega
      have hh := half10_lt f i
      have h2 : (half10 f i : Int) < 2 := by omega
      have t4 := take4 (l := bases10 d A B) (n := half10 f i * 4) (by rw [bases10_len]; omega)
      have hw3 := hW i
      have h3 : W.getD i 0 < 4 := by omega
      have em : W.getD i 0 % 4 = W.getD i 0 := Int.emod_eq_of_lt hw3.1 (by omega)
      have tb := tab10_bound ((T.getD (half10 f i) 0) % 8).toNat (W.getD i 0).toNat
      have hadd := Add10_is (F := F) (by omega) tb (a := (bases10 d A B).getD (half10 f i * 4) 0) (b := (bases10 d A B).getD (half10 f i * 4 + 1) 0) (c := (bases10 d A B).getD (half10 f i * 4 + 2) 0) (e := (bases10 d A B).getD (half10 f i * 4 + 3) 0)
        (fun c => getD_all (p := fun x => 0 ≤ x ∧ x ≤ 255) (by decide) (fun x hx => by
            simp only [List.mem_cons, List.not_mem_nil, or_false] at hx
            rcases hx with rfl | rfl | rfl | rfl <;> exact bases10_bound d A B _) c)
      simp only [h1, decide_true, cond_true, Int.natCast_nonneg, Bool.and_self, Int.toNat_natCast, (Half10_is F f i).2, Option.bind_some, h2, rTable10_is, hw3.1, h3, t4, hadd, nextI (show i < 1000000000000 by omega)]
      unfold tex10 add10
      rw [em]
    · intro k w hw
      show ref10_Paint_l0S F (ref10_Paint_l0 F k) d f A B T W x6 (bases10 d A B) w 16 = _
      unfold ref10_Paint_l0S
      simp
  rw [rBases10_is (by omega) d f hf]
  simp only [Option.bind_some]
  rw [loop _ _ rfl]
  rfl

/-! ### a block decoded -/

theorem eWs_bound (b : List Int) : ∀ i, 0 ≤ (eWs b).getD i 0 ∧ (eWs b).getD i 0 ≤ 3 := fun i => getD_all (p := fun x => 0 ≤ x ∧ x ≤ 3) (by decide) (fun x hx => by
  obtain ⟨j, _, rfl⟩ := List.mem_map.1 hx
  have h1 := hv_bound b (47 - col10 j) 1
  have h2 := hv_bound b (63 - col10 j) 1
  omega) i

theorem eFair (d : Bool) (b : List Int) : Fair10 (eAs d b) (eBs d b) := by
  have ha : ∀ c, 0 ≤ eA d b c ∧ eA d b c ≤ 31 := fun c => by
    have h1 := hv_bound b (8 * c) 5
    have h2 := hv_bound b (8 * c) 4
    unfold eA
    split <;> omega
  have hb : ∀ c, -4 ≤ eB d b c ∧ eB d b c ≤ 15 := fun c => by
    have h1 := hv_bound b (8 * c + 5) 3
    have h2 := hv_bound b (8 * c + 4) 4
    unfold eB sg3
    split
    · split <;> omega
    · omega
  refine ⟨rfl, rfl, fun i => getD_all (p := fun x => 0 ≤ x ∧ x ≤ 31) (by decide) (fun x hx => ?_) i, fun i => getD_all (p := fun x => -4 ≤ x ∧ x ≤ 15) (by decide) (fun x hx => ?_) i⟩
  · simp only [eAs, List.mem_cons, List.not_mem_nil, or_false] at hx
    rcases hx with rfl | rfl | rfl <;> exact ha _
  · simp only [eBs, List.mem_cons, List.not_mem_nil, or_false] at hx
    rcases hx with rfl | rfl | rfl <;> exact hb _

/-- The texels of a block. -/
def dec10 (b : List Int) : List Int := paint10 (eDiff b) (eFlip b) (eAs (eDiff b) b) (eBs (eDiff b) b) [hv b 24 3, hv b 27 3] (eWs b)

theorem Decode10_is {F : Nat} (hF : 66 ≤ F) {b : List Int} (hb : Bytes b) (hl : b.length = 8) : etcone_Decode F b = some (dec10 b, (0, ())) ∧ ref10_Decode F b = some (dec10 b, (0, ())) := by
  unfold etcone_Decode ref10_Decode
  rw [Parts10_is hF hb hl, rParts10_is hF hb hl]
  simp only [Option.bind_some, eP, bne_self_eq_false, cond_false]
  rw [Paint10_is (by omega) _ _ (eFair _ b) (eWs_bound b), rPaint10_is (by omega) _ _ (eFair _ b) (eWs_bound b)]
  exact ⟨rfl, rfl⟩

theorem bad10_len {F : Nat} {b : List Int} (hl : b.length ≠ 8) : ∃ x t, etcone_Parts F b = some (x, (1, ())) ∧ ref10_Parts F b = some (x, (1, ())) ∧ etcone_Decode F b = some (t, (1, ())) ∧ ref10_Decode F b = some (t, (1, ())) := by
  have e : ((b.length : Int) != 8) = true := bneT (by omega)
  have p1 : etcone_Parts F b = some ((false, (false, ([0, 0, 0], ([0, 0, 0], ([0, 0], (List.replicate 16 0, ())))))), (1, ())) := by unfold etcone_Parts; rw [e]; rfl
  have p2 : ref10_Parts F b = some ((false, (false, ([0, 0, 0], ([0, 0, 0], ([0, 0], (List.replicate 16 0, ())))))), (1, ())) := by unfold ref10_Parts; rw [e]; rfl
  refine ⟨_, List.replicate 64 0, p1, p2, ?_, ?_⟩
  · unfold etcone_Decode; rw [p1]; rfl
  · unfold ref10_Decode; rw [p2]; rfl

theorem awake10 : law10_awake 600 = some (true, ()) := by kernel_rfl

theorem law10_EtconeTells_true (b : List Int) (n : Int) (flip : Bool) (hb' : ∀ x ∈ b, IntKind.u8.has x) (hn : IntKind.i64.has n) : ∃ F, law10_EtconeTells F b n flip = some (true, ()) := by
  have hb := bytes_of hb'
  refine ⟨600, ?_⟩
  unfold law10_EtconeTells
  rw [awake10]
  simp only [Option.bind_some, cond_true]
  by_cases h40 : (40 : Int) < (b.length : Int)
  · simp [h40]
  have blk : ∃ x t e, etcone_Parts 600 b = some (x, (e, ())) ∧ ref10_Parts 600 b = some (x, (e, ())) ∧ etcone_Decode 600 b = some (t, (e, ())) ∧ ref10_Decode 600 b = some (t, (e, ())) := by
    by_cases hl : b.length = 8
    · obtain ⟨d1, d2⟩ := Decode10_is (F := 600) (by decide) hb hl
      exact ⟨_, _, _, Parts10_is (by decide) hb hl, rParts10_is (by decide) hb hl, d1, d2⟩
    · obtain ⟨x, t, h⟩ := bad10_len (F := 600) hl
      exact ⟨x, t, 1, h⟩
  obtain ⟨x, t, e, b1, b2, b3, b4⟩ := blk
  obtain ⟨g1, g2⟩ := Half10_is 600 flip n
  simp only [h40, decide_false, cond_false, b1, b2, b3, b4, Option.bind_some, law10_to, beq_self_eq_true, Bool.and_self, cond_true, Table10_is, rTable10_is, g1, g2]

end Go.AE.Gn
