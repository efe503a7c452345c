/- Layer 11: etctwo. Blocks of four colours, halves; blocks; EtctwoDecodes. -/
import Derived.Test.YtdhhinbhckoipaaPure11b
set_option linter.unusedVariables false
set_option linter.unusedSimpArgs false
namespace Go.AE.Gn
open Go Go.AE

/-! ### four colours -/

def tA (b : List Int) : List Int := plainV (pk b [3, 4, 6, 7] 4) (hv b 8 4) (hv b 12 4)
def tZ (b : List Int) : List Int := plainV (hv b 16 4) (hv b 20 4) (hv b 24 4)
def tD (b : List Int) : Int := distV (pk b [28, 29, 31] 3)
def fourT (b : List Int) : List Int := tA b ++ (addV (tZ b) (tD b) ++ (tZ b ++ addV (tZ b) (0 - tD b)))
def hL (b : List Int) : List Int := plainV (hv b 1 4) (pk b [5, 6, 7, 11] 4) (pk b [12, 14, 15, 16] 4)
def hM (b : List Int) : List Int := plainV (hv b 17 4) (hv b 21 4) (hv b 25 4)
def hX (b : List Int) : Int := 256 * hv b 1 4 + 16 * pk b [5, 6, 7, 11] 4 + pk b [12, 14, 15, 16] 4
def hY (b : List Int) : Int := 256 * hv b 17 4 + 16 * hv b 21 4 + hv b 25 4
def hD (b : List Int) : Int := distV (if hY b ≤ hX b then 2 * pk b [29, 31] 2 + 1 else 2 * pk b [29, 31] 2)
def fourH (b : List Int) : List Int := addV (hL b) (hD b) ++ (addV (hL b) (0 - hD b) ++ (addV (hM b) (hD b) ++ addV (hM b) (0 - hD b)))

theorem hv_succ (b : List Int) (a n : Nat) : hv b a (n + 1) = 2 * hv b a n + hv b (a + n) 1 := by
  simp only [hv, sumHi, Nat.add_zero]
  omega
theorem hv_zero (b : List Int) (a : Nat) : hv b a 0 = 0 := rfl

theorem hX_is (b : List Int) : pk b [1, 2, 3, 4, 5, 6, 7, 11, 12, 14, 15, 16] 12 = hX b := by
  unfold hX
  rw [hv_succ b 1 3, hv_succ b 1 2, hv_succ b 1 1]
  simp only [pk, List.getD_cons_zero, List.getD_cons_succ, Nat.reduceAdd]
  omega
theorem hY_is (b : List Int) : hv b 17 12 = hY b := by
  unfold hY
  rw [hv_succ b 17 11, hv_succ b 17 10, hv_succ b 17 9, hv_succ b 17 8, hv_succ b 17 7, hv_succ b 17 6, hv_succ b 17 5, hv_succ b 17 4, hv_succ b 21 3, hv_succ b 21 2, hv_succ b 21 1, hv_succ b 25 3, hv_succ b 25 2, hv_succ b 25 1]
  simp only [Nat.reduceAdd]
  omega

/-- The texels of four colours. -/
def fourF (l W : List Int) (j : Nat) : Int := l.getD ((W.getD (j / 4) 0).toNat * 4 + j % 4) 0

theorem four_l0_all {l W : List Int} (hl : l.length = 16) (hW : ∀ i, 0 ≤ W.getD i 0 ∧ W.getD i 0 ≤ 3) (x1 : List Int) : ∀ (d i k : Nat), i + d = 16 → d < k →
    etctwo_block_four_l0 600 k l x1 (tab 64 (upR i 0 (fourF l W))) W (i : Int) = some (x1, (tab 64 (fourF l W), ())) := by
  intro d
  induction d with
  | zero =>
    intro i k h1 h2
    obtain ⟨k, rfl⟩ : ∃ k', k = k' + 1 := ⟨k - 1, by omega⟩
    obtain rfl : i = 16 := by omega
    unfold etctwo_block_four_l0 etctwo_block_four_l0S
    have : ¬ (((16 : Nat) : Int) < 16) := by omega
    simp only [this, decide_false, cond_false, upR_all (i := 16) (fourF l W) (show 64 ≤ 16 * 4 by omega)]
  | succ d ih =>
    intro i k h1 h2
    obtain ⟨k, rfl⟩ : ∃ k', k = k' + 1 := ⟨k - 1, by omega⟩
    have i1 : (i : Int) < 16 := by omega
    have hw := hW i
    have j1 : (0 : Int) ≤ W.getD i 0 := hw.1
    have j2 : W.getD i 0 < 4 := by omega
    unfold etctwo_block_four_l0 etctwo_block_four_l0S
    simp only [i1, j1, j2, decide_true, cond_true, Int.natCast_nonneg, Bool.and_self, Int.toNat_natCast, tab_row_of hl (show (W.getD i 0).toNat * 4 + 4 ≤ 16 by omega), tab_row (show i * 4 + 4 ≤ 64 by omega)]
    rw [nextI (by omega), tab_congr fun j hj => show (if j / 4 = i then l.getD ((W.getD i 0).toNat * 4 + j % 4) 0 else upR i 0 (fourF l W) j) = upR (i + 1) 0 (fourF l W) j by
      unfold upR
      by_cases h3 : j / 4 = i
      · rw [if_pos h3, if_pos (by omega)]
        unfold fourF
        rw [h3]
      · rw [if_neg h3]
        by_cases h4 : j < i * 4 + 0
        · rw [if_pos h4, if_pos (by omega)]
        · rw [if_neg h4, if_neg (by omega)]]
    exact ih (i + 1) k (by omega) (by omega)

theorem four_is {l W : List Int} (hl : l.length = 16) (hW : ∀ i, 0 ≤ W.getD i 0 ∧ W.getD i 0 ≤ 3) (a0 : List Int) (a1 a2 : Bool) (a3 a4 a5 : List Int) (a7 : Bool) :
    etctwo_block_four 600 a0 a1 a2 a3 a4 a5 W a7 l = some (tab 64 (fourF l W), ()) := by
  unfold etctwo_block_four
  have h := four_l0_all hl hW etctwo_DecodeT711 16 0 600 (by omega) (by omega)
  rw [upR_zero, ← zero64b, show ((0 : Nat) : Int) = 0 from rfl] at h
  rw [h]
  rfl

theorem neg_w {d : Int} (h : 0 ≤ d ∧ d ≤ 64) : IntKind.wrap .i64 (0 - d) = 0 - d := w64 (by omega) (by omega)

theorem ofT_is {b : List Int} (hb : Bytes b) (hl : b.length = 8) (a1 a2 : Bool) (a3 a4 a5 : List Int) {W : List Int} (hW : ∀ i, 0 ≤ W.getD i 0 ∧ W.getD i 0 ≤ 3) (a7 : Bool) :
    etctwo_block_ofT 600 b a1 a2 a3 a4 a5 W a7 = some (tab 64 (fourF (fourT b) W), ()) ∧ ref11_four 600 b 1 = some (fourT b, ()) := by
  have t1 : [(3 : Int), 4, 6, 7] = casts [3, 4, 6, 7] := rfl
  have t2 : [(28 : Int), 29, 31] = casts [28, 29, 31] := rfl
  have p1 := posn_of (L := [3, 4, 6, 7]) (by decide)
  have p2 := posn_of (L := [28, 29, 31]) (by decide)
  have g1 : etctwo_block_get 600 b a1 a2 a3 a4 a5 W a7 (casts [3, 4, 6, 7]) = some (pk b [3, 4, 6, 7] 4, ()) := get_is hb hl a1 a2 a3 a4 a5 W a7 p1
  have g2 : etctwo_block_get 600 b a1 a2 a3 a4 a5 W a7 (casts [28, 29, 31]) = some (pk b [28, 29, 31] 3, ()) := get_is hb hl a1 a2 a3 a4 a5 W a7 p2
  have k1 : ref11_pick 600 b (casts [3, 4, 6, 7]) = some (pk b [3, 4, 6, 7] 4, ()) := pick_is hb hl p1
  have k2 : ref11_pick 600 b (casts [28, 29, 31]) = some (pk b [28, 29, 31] 3, ()) := pick_is hb hl p2
  obtain ⟨r1, s1⟩ := run_is hb hl a1 a2 a3 a4 a5 W a7 (x := 8) (y := 11) (a := 8) (n := 4) rfl rfl (by omega) (by omega)
  obtain ⟨r2, s2⟩ := run_is hb hl a1 a2 a3 a4 a5 W a7 (x := 12) (y := 15) (a := 12) (n := 4) rfl rfl (by omega) (by omega)
  obtain ⟨r3, s3⟩ := run_is hb hl a1 a2 a3 a4 a5 W a7 (x := 16) (y := 19) (a := 16) (n := 4) rfl rfl (by omega) (by omega)
  obtain ⟨r4, s4⟩ := run_is hb hl a1 a2 a3 a4 a5 W a7 (x := 20) (y := 23) (a := 20) (n := 4) rfl rfl (by omega) (by omega)
  obtain ⟨r5, s5⟩ := run_is hb hl a1 a2 a3 a4 a5 W a7 (x := 24) (y := 27) (a := 24) (n := 4) rfl rfl (by omega) (by omega)
  have c1 := rcolour_is (pkw b [3, 4, 6, 7] 4 (by omega)) (hvw b 8 4 (by omega)) (hvw b 12 4 (by omega))
  have c2 := rcolour_is (hvw b 16 4 (by omega)) (hvw b 20 4 (by omega)) (hvw b 24 4 (by omega))
  have d1 := Distance_is (pk b [28, 29, 31] 3)
  have d2 := rDistance_is (n := pk b [28, 29, 31] 3) (by have := pkw b [28, 29, 31] 3 (by omega); unfold Small at this; omega)
  have db := distV_bound (pk b [28, 29, 31] 3)
  obtain ⟨m1, n1⟩ := moved_is (hv b 16 4) (hv b 20 4) (hv b 24 4) (n := distV (pk b [28, 29, 31] 3)) (by omega)
  obtain ⟨m2, n2⟩ := moved_is (hv b 16 4) (hv b 20 4) (hv b 24 4) (n := 0 - distV (pk b [28, 29, 31] 3)) (by omega)
  have f := four_is (l := fourT b) rfl hW b a1 a2 a3 a4 a5 a7
  unfold fourT tA tZ tD at f
  unfold etctwo_block_ofT ref11_four fourT tA tZ tD
  rw [t1, t2]
  simp only [g1, g2, k1, k2, r1, r2, r3, r4, r5, s1, s2, s3, s4, s5, c1, c2, d1, d2, m1, m2, n1, n2, neg_w db, plain_is, Option.bind_some, f, beq_self_eq_true, cond_true]
  refine ⟨?_, ?_⟩ <;> first | trivial | rfl

theorem number_is {x y z : Int} (hx : Small x) (hy : Small y) (hz : Small z) : ref11_number 600 [x, y, z] = some (256 * x + 16 * y + z, ()) := by
  unfold Small at hx hy hz
  unfold ref11_number
  simp only [List.getD_cons_zero, List.getD_cons_succ]
  rw [w64 (x := 256 * x) (by omega) (by omega), w64 (x := 16 * y) (by omega) (by omega), w64 (x := 256 * x + 16 * y) (by omega) (by omega), w64 (by omega) (by omega)]

theorem ofH_is {b : List Int} (hb : Bytes b) (hl : b.length = 8) (a1 a2 : Bool) (a3 a4 a5 : List Int) {W : List Int} (hW : ∀ i, 0 ≤ W.getD i 0 ∧ W.getD i 0 ≤ 3) (a7 : Bool) :
    etctwo_block_ofH 600 b a1 a2 a3 a4 a5 W a7 = some (tab 64 (fourF (fourH b) W), ()) ∧ ref11_four 600 b 2 = some (fourH b, ()) := by
  have t1 : [(5 : Int), 6, 7, 11] = casts [5, 6, 7, 11] := rfl
  have t2 : [(12 : Int), 14, 15, 16] = casts [12, 14, 15, 16] := rfl
  have t3 : [(29 : Int), 31] = casts [29, 31] := rfl
  have t4 : etctwo_block_ofHT1383 = casts [1, 2, 3, 4, 5, 6, 7, 11, 12, 14, 15, 16] := rfl
  have p1 := posn_of (L := [5, 6, 7, 11]) (by decide)
  have p2 := posn_of (L := [12, 14, 15, 16]) (by decide)
  have p3 := posn_of (L := [29, 31]) (by decide)
  have p4 := posn_of (L := [1, 2, 3, 4, 5, 6, 7, 11, 12, 14, 15, 16]) (by decide)
  have g1 : etctwo_block_get 600 b a1 a2 a3 a4 a5 W a7 (casts [5, 6, 7, 11]) = some (pk b [5, 6, 7, 11] 4, ()) := get_is hb hl a1 a2 a3 a4 a5 W a7 p1
  have g2 : etctwo_block_get 600 b a1 a2 a3 a4 a5 W a7 (casts [12, 14, 15, 16]) = some (pk b [12, 14, 15, 16] 4, ()) := get_is hb hl a1 a2 a3 a4 a5 W a7 p2
  have g3 : etctwo_block_get 600 b a1 a2 a3 a4 a5 W a7 (casts [29, 31]) = some (pk b [29, 31] 2, ()) := get_is hb hl a1 a2 a3 a4 a5 W a7 p3
  have g4 : etctwo_block_get 600 b a1 a2 a3 a4 a5 W a7 (casts [1, 2, 3, 4, 5, 6, 7, 11, 12, 14, 15, 16]) = some (hX b, ()) := (get_is hb hl a1 a2 a3 a4 a5 W a7 p4).trans (by rw [show ([1, 2, 3, 4, 5, 6, 7, 11, 12, 14, 15, 16] : List Nat).length = 12 from rfl, hX_is])
  have k1 : ref11_pick 600 b (casts [5, 6, 7, 11]) = some (pk b [5, 6, 7, 11] 4, ()) := pick_is hb hl p1
  have k2 : ref11_pick 600 b (casts [12, 14, 15, 16]) = some (pk b [12, 14, 15, 16] 4, ()) := pick_is hb hl p2
  have k3 : ref11_pick 600 b (casts [29, 31]) = some (pk b [29, 31] 2, ()) := pick_is hb hl p3
  obtain ⟨r1, s1⟩ := run_is hb hl a1 a2 a3 a4 a5 W a7 (x := 1) (y := 4) (a := 1) (n := 4) rfl rfl (by omega) (by omega)
  obtain ⟨r2, s2⟩ := run_is hb hl a1 a2 a3 a4 a5 W a7 (x := 17) (y := 20) (a := 17) (n := 4) rfl rfl (by omega) (by omega)
  obtain ⟨r3, s3⟩ := run_is hb hl a1 a2 a3 a4 a5 W a7 (x := 21) (y := 24) (a := 21) (n := 4) rfl rfl (by omega) (by omega)
  obtain ⟨r4, s4⟩ := run_is hb hl a1 a2 a3 a4 a5 W a7 (x := 25) (y := 28) (a := 25) (n := 4) rfl rfl (by omega) (by omega)
  obtain ⟨r5, _⟩ := run_is hb hl a1 a2 a3 a4 a5 W a7 (x := 17) (y := 28) (a := 17) (n := 12) rfl rfl (by omega) (by omega)
  rw [hY_is] at r5
  have c1 := rcolour_is (hvw b 1 4 (by omega)) (pkw b [5, 6, 7, 11] 4 (by omega)) (pkw b [12, 14, 15, 16] 4 (by omega))
  have c2 := rcolour_is (hvw b 17 4 (by omega)) (hvw b 21 4 (by omega)) (hvw b 25 4 (by omega))
  have u1 := number_is (hvw b 1 4 (by omega)) (pkw b [5, 6, 7, 11] 4 (by omega)) (pkw b [12, 14, 15, 16] 4 (by omega))
  have u2 := number_is (hvw b 17 4 (by omega)) (hvw b 21 4 (by omega)) (hvw b 25 4 (by omega))
  have hpk := pk_bound b [29, 31] 2
  have e1 := shl_one (n := pk b [29, 31] 2) (by omega)
  have e2 : IntKind.wrap .i64 (2 * pk b [29, 31] 2) = 2 * pk b [29, 31] 2 := w64 (by omega) (by omega)
  have e3 : IntKind.wrap .i64 (2 * pk b [29, 31] 2 + 1) = 2 * pk b [29, 31] 2 + 1 := w64 (by omega) (by omega)
  have dR := fun n (hn : 0 ≤ n ∧ n ≤ 100) => rDistance_is (n := n) (by omega)
  have f := four_is (l := fourH b) rfl hW b a1 a2 a3 a4 a5 a7
  have db := distV_bound (2 * pk b [29, 31] 2 + 1)
  have db' := distV_bound (2 * pk b [29, 31] 2)
  have z21 : ((2 : Int) == 1) = false := rfl
  rw [show 256 * hv b 1 4 + 16 * pk b [5, 6, 7, 11] 4 + pk b [12, 14, 15, 16] 4 = hX b from rfl] at u1
  rw [show 256 * hv b 17 4 + 16 * hv b 21 4 + hv b 25 4 = hY b from rfl] at u2
  unfold etctwo_block_ofH ref11_four
  rw [t1, t2, t3, t4]
  simp only [z21, cond_false, g1, g2, g3, g4, k1, k2, k3, r1, r2, r3, r4, r5, s1, s2, s3, s4, c1, c2, u1, u2, e1, e2, e3, plain_is, Option.bind_some]
  rw [show plainV (hv b 1 4) (pk b [5, 6, 7, 11] 4) (pk b [12, 14, 15, 16] 4) = hL b from rfl, show plainV (hv b 17 4) (hv b 21 4) (hv b 25 4) = hM b from rfl]
  by_cases h : hY b ≤ hX b
  · have hd : hD b = distV (2 * pk b [29, 31] 2 + 1) := by
      unfold hD
      rw [if_pos h]
    unfold fourH at f
    rw [hd] at f
    have d2 := dR (2 * pk b [29, 31] 2 + 1) (by omega)
    obtain ⟨m1, n1⟩ : etctwo_moved 600 (hL b) (distV (2 * pk b [29, 31] 2 + 1)) = _ ∧ ref10_Add 600 (hL b) (distV (2 * pk b [29, 31] 2 + 1)) = _ := moved_is _ _ _ (by omega)
    obtain ⟨m2, n2⟩ : etctwo_moved 600 (hL b) (0 - distV (2 * pk b [29, 31] 2 + 1)) = _ ∧ ref10_Add 600 (hL b) (0 - distV (2 * pk b [29, 31] 2 + 1)) = _ := moved_is _ _ _ (by omega)
    obtain ⟨m3, n3⟩ : etctwo_moved 600 (hM b) (distV (2 * pk b [29, 31] 2 + 1)) = _ ∧ ref10_Add 600 (hM b) (distV (2 * pk b [29, 31] 2 + 1)) = _ := moved_is _ _ _ (by omega)
    obtain ⟨m4, n4⟩ : etctwo_moved 600 (hM b) (0 - distV (2 * pk b [29, 31] 2 + 1)) = _ ∧ ref10_Add 600 (hM b) (0 - distV (2 * pk b [29, 31] 2 + 1)) = _ := moved_is _ _ _ (by omega)
    simp only [h, decide_true, cond_true, Distance_is, d2, neg_w db, m1, m2, m3, m4, n1, n2, n3, n4, Option.bind_some]
    unfold fourH
    rw [hd]
    exact ⟨by
      rw [show plainV (hv b 1 4) (pk b [5, 6, 7, 11] 4) (pk b [12, 14, 15, 16] 4) = hL b from rfl, show plainV (hv b 17 4) (hv b 21 4) (hv b 25 4) = hM b from rfl, f]
      rfl, rfl⟩
  · have hd : hD b = distV (2 * pk b [29, 31] 2) := by
      unfold hD
      rw [if_neg h]
    unfold fourH at f
    rw [hd] at f
    have d2 := dR (2 * pk b [29, 31] 2) (by omega)
    obtain ⟨m1, n1⟩ : etctwo_moved 600 (hL b) (distV (2 * pk b [29, 31] 2)) = _ ∧ ref10_Add 600 (hL b) (distV (2 * pk b [29, 31] 2)) = _ := moved_is _ _ _ (by omega)
    obtain ⟨m2, n2⟩ : etctwo_moved 600 (hL b) (0 - distV (2 * pk b [29, 31] 2)) = _ ∧ ref10_Add 600 (hL b) (0 - distV (2 * pk b [29, 31] 2)) = _ := moved_is _ _ _ (by omega)
    obtain ⟨m3, n3⟩ : etctwo_moved 600 (hM b) (distV (2 * pk b [29, 31] 2)) = _ ∧ ref10_Add 600 (hM b) (distV (2 * pk b [29, 31] 2)) = _ := moved_is _ _ _ (by omega)
    obtain ⟨m4, n4⟩ : etctwo_moved 600 (hM b) (0 - distV (2 * pk b [29, 31] 2)) = _ ∧ ref10_Add 600 (hM b) (0 - distV (2 * pk b [29, 31] 2)) = _ := moved_is _ _ _ (by omega)
    simp only [h, decide_false, cond_false, Distance_is, d2, neg_w db', m1, m2, m3, m4, n1, n2, n3, n4, Option.bind_some]
    unfold fourH
    rw [hd]
    exact ⟨by
      rw [show plainV (hv b 1 4) (pk b [5, 6, 7, 11] 4) (pk b [12, 14, 15, 16] 4) = hL b from rfl, show plainV (hv b 17 4) (hv b 21 4) (hv b 25 4) = hM b from rfl, f]
      rfl, rfl⟩

end Go.AE.Gn
