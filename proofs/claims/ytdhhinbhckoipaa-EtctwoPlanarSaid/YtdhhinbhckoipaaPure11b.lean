/- Layer 11: etctwo. Planes, blocks of four colours, halves; blocks. -/
import Derived.Test.YtdhhinbhckoipaaPure11
set_option linter.unusedVariables false
set_option linter.unusedSimpArgs false
namespace Go.AE.Gn
open Go Go.AE

/-! ### planes -/

def planeE (o h v : Int) (i : Nat) : Int := ((i % 4 : Nat) : Int) * (h - o) + ((i / 4 : Nat) : Int) * (v - o) + 4 * o + 2
def planeF (o h v : List Int) (j : Nat) : Int := if j % 4 = 3 then 255 else clampV (planeE (o.getD (j % 4) 0) (h.getD (j % 4) 0) (v.getD (j % 4) 0) (j / 4) / 4)

def Colour (l : List Int) : Prop := ∀ i, 0 ≤ l.getD i 0 ∧ l.getD i 0 ≤ 255

theorem plane_expr {o h v : Int} (ho : 0 ≤ o ∧ o ≤ 255) (hh : 0 ≤ h ∧ h ≤ 255) (hv : 0 ≤ v ∧ v ≤ 255) {i : Nat} (hi : i < 16) :
    IntKind.wrap .i64 (IntKind.wrap .i64 (IntKind.wrap .i64 (IntKind.wrap .i64 (Int.tmod (i : Int) 4 * IntKind.wrap .i64 (h - o)) + IntKind.wrap .i64 (IntKind.wrap .i64 (Int.tdiv (i : Int) 4) * IntKind.wrap .i64 (v - o))) + IntKind.wrap .i64 (4 * o)) + 2) = planeE o h v i ∧ -4000 ≤ planeE o h v i ∧ planeE o h v i ≤ 4000 := by
  have em : Int.tmod (i : Int) 4 = ((i % 4 : Nat) : Int) := by rw [tmod_nonneg (by omega)]; omega
  have ed : Int.tdiv (i : Int) 4 = ((i / 4 : Nat) : Int) := by rw [tdiv_nonneg (by omega)]; omega
  have m1 := mulB' (n := h - o) (t := ((i % 4 : Nat) : Int)) (c := 255) (d := 3) (by omega) (by omega) (by decide)
  have m2 := mulB' (n := v - o) (t := ((i / 4 : Nat) : Int)) (c := 255) (d := 3) (by omega) (by omega) (by decide)
  rw [Int.mul_comm (h - o)] at m1
  rw [Int.mul_comm (v - o)] at m2
  rw [em, ed, w64 (x := h - o) (by omega) (by omega), w64 (x := v - o) (by omega) (by omega), w64 (x := ((i / 4 : Nat) : Int)) (by omega) (by omega), w64 (x := 4 * o) (by omega) (by omega)]
  unfold planeE
  rw [w64 (x := ((i % 4 : Nat) : Int) * (h - o)) (by omega) (by omega), w64 (x := ((i / 4 : Nat) : Int) * (v - o)) (by omega) (by omega), w64 (x := ((i % 4 : Nat) : Int) * (h - o) + ((i / 4 : Nat) : Int) * (v - o)) (by omega) (by omega),
    w64 (x := ((i % 4 : Nat) : Int) * (h - o) + ((i / 4 : Nat) : Int) * (v - o) + 4 * o) (by omega) (by omega), w64 (by omega) (by omega)]
  omega

theorem Plane_l2_all {o h v : List Int} (ho : Colour o) (hh : Colour h) (hv : Colour v) (q : Nat → Int) (x3 : List Int) (x6 : Int) {i : Nat} (hi : i < 16) : ∀ (d c k : Nat), c + d = 3 → d < k →
    etctwo_Plane_l2 600 k o h v x3 (tab 64 fun j => if j / 4 = i ∧ (j % 4 < c ∨ j % 4 = 3) then planeF o h v j else q j) (i : Int) x6 (c : Int) = some (o, (h, (v, (x3, (tab 64 (fun j => if j / 4 = i then planeF o h v j else q j), (x6, ())))))) ∧
    ref11_Plane_l2 600 k o h v x3 (tab 64 fun j => if j / 4 = i ∧ (j % 4 < c ∨ j % 4 = 3) then planeF o h v j else q j) (i : Int) (c : Int) = some (o, (h, (v, (x3, (tab 64 (fun j => if j / 4 = i then planeF o h v j else q j), ((i : Int), ())))))) := by
  intro d
  induction d with
  | zero =>
    intro c k h1 h2
    obtain ⟨k, rfl⟩ : ∃ k', k = k' + 1 := ⟨k - 1, by omega⟩
    obtain rfl : c = 3 := by omega
    unfold etctwo_Plane_l2 etctwo_Plane_l2S ref11_Plane_l2 ref11_Plane_l2S
    have : ¬ (((3 : Nat) : Int) < 3) := by omega
    simp only [this, decide_false, cond_false]
    rw [tab_congr fun j hj => show (if j / 4 = i ∧ (j % 4 < 3 ∨ j % 4 = 3) then planeF o h v j else q j) = if j / 4 = i then planeF o h v j else q j by
      have : j % 4 < 3 ∨ j % 4 = 3 := by omega
      simp only [this, and_true]]
    exact ⟨rfl, rfl⟩
  | succ d ih =>
    intro c k h1 h2
    obtain ⟨k, rfl⟩ : ∃ k', k = k' + 1 := ⟨k - 1, by omega⟩
    have hc : c < 4 := by omega
    have i1 : (c : Int) < 3 := by omega
    have i1' : (c : Int) < 4 := by omega
    have i2 : (i : Int) < 16 := by omega
    obtain ⟨e, b1, b2⟩ := plane_expr (ho c) (hh c) (hv c) hi
    have es : ishr .i64 (planeE (o.getD c 0) (h.getD c 0) (v.getD c 0) i) 2 = planeE (o.getD c 0) (h.getD c 0) (v.getD c 0) i / 4 := ishr64' (k := 2) (by omega)
    have em := (Mix_is 600 (a := 0) (b := planeE (o.getD c 0) (h.getD c 0) (v.getD c 0) i) (k := 1) (o := 4) (add := 0) (by omega) (by omega) (by omega) (by omega) (by omega) (by omega)).2.1
    have emv : mixV 0 (planeE (o.getD c 0) (h.getD c 0) (v.getD c 0) i) 1 4 0 = planeE (o.getD c 0) (h.getD c 0) (v.getD c 0) i / 4 := by
      unfold mixV
      congr 1
      omega
    rw [emv] at em
    have ef : clampV (planeE (o.getD c 0) (h.getD c 0) (v.getD c 0) i / 4) = planeF o h v (i * 4 + c) := by
      unfold planeF
      rw [(mul4 i c hc).1, (mul4 i c hc).2, if_neg (by omega)]
    unfold etctwo_Plane_l2 etctwo_Plane_l2S ref11_Plane_l2 ref11_Plane_l2S
    simp only [i1, i1', i2, decide_true, cond_true, Int.natCast_nonneg, Bool.and_self, Int.toNat_natCast, e, es, em, Clamp10_is, rClamp10_is, Option.bind_some, ef, tab_set]
    rw [nextI (by omega), tab_congr fun j hj => show (if j = i * 4 + c then planeF o h v (i * 4 + c) else if j / 4 = i ∧ (j % 4 < c ∨ j % 4 = 3) then planeF o h v j else q j) = if j / 4 = i ∧ (j % 4 < c + 1 ∨ j % 4 = 3) then planeF o h v j else q j by
      by_cases h3 : j = i * 4 + c
      · rw [if_pos h3, if_pos (by omega), h3]
      · rw [if_neg h3]
        by_cases h5 : j / 4 = i ∧ (j % 4 < c ∨ j % 4 = 3)
        · rw [if_pos h5, if_pos (by omega)]
        · rw [if_neg h5, if_neg (by omega)]]
    exact ih (c + 1) k (by omega) (by omega)

theorem Plane_l0_all {o h v : List Int} (ho : Colour o) (hh : Colour h) (hv : Colour v) (x3 : List Int) : ∀ (d i k : Nat), i + d = 16 → d < k →
    etctwo_Plane_l0 600 k o h v x3 (tab 64 (upR i 0 (planeF o h v))) (i : Int) = some (x3, (tab 64 (planeF o h v), ())) ∧ ref11_Plane_l0 600 k o h v x3 (tab 64 (upR i 0 (planeF o h v))) (i : Int) = some (x3, (tab 64 (planeF o h v), ())) := by
  intro d
  induction d with
  | zero =>
    intro i k h1 h2
    obtain ⟨k, rfl⟩ : ∃ k', k = k' + 1 := ⟨k - 1, by omega⟩
    obtain rfl : i = 16 := by omega
    unfold etctwo_Plane_l0 etctwo_Plane_l0S ref11_Plane_l0 ref11_Plane_l0S
    have : ¬ (((16 : Nat) : Int) < 16) := by omega
    simp only [this, decide_false, cond_false, upR_all (i := 16) (planeF o h v) (show 64 ≤ 16 * 4 by omega), and_self]
  | succ d ih =>
    intro i k h1 h2
    obtain ⟨k, rfl⟩ : ∃ k', k = k' + 1 := ⟨k - 1, by omega⟩
    have hi : i < 16 := by omega
    have i2 : (i : Int) < 16 := by omega
    obtain ⟨l1, l2⟩ := Plane_l2_all ho hh hv (upR i 0 (planeF o h v)) x3 (i : Int) hi 3 0 600 (by omega) (by omega)
    rw [show ((0 : Nat) : Int) = 0 from rfl] at l1 l2
    have es : (tab 64 (upR i 0 (planeF o h v))).set (3 + i * 4) 255 = tab 64 fun j => if j / 4 = i ∧ (j % 4 < 0 ∨ j % 4 = 3) then planeF o h v j else upR i 0 (planeF o h v) j := by
      rw [tab_set]
      refine tab_congr fun j hj => ?_
      by_cases h3 : j = 3 + i * 4
      · rw [if_pos h3, if_pos (by omega)]
        unfold planeF
        rw [if_pos (by omega)]
      · rw [if_neg h3, if_neg (by omega)]
    have en : (tab 64 fun j => if j / 4 = i then planeF o h v j else upR i 0 (planeF o h v) j) = tab 64 (upR (i + 1) 0 (planeF o h v)) := tab_congr fun j hj => by
      unfold upR
      by_cases h3 : j / 4 = i
      · rw [if_pos h3, if_pos (by omega)]
      · rw [if_neg h3]
        by_cases h4 : j < i * 4 + 0
        · rw [if_pos h4, if_pos (by omega)]
        · rw [if_neg h4, if_neg (by omega)]
    rw [en] at l1 l2
    unfold etctwo_Plane_l0 etctwo_Plane_l0S ref11_Plane_l0 ref11_Plane_l0S
    simp only [i2, decide_true, cond_true, Int.natCast_nonneg, Bool.and_self, Int.toNat_natCast, es, l1, l2, Option.bind_some]
    rw [nextI (by omega)]
    exact ih (i + 1) k (by omega) (by omega)

theorem zero64b : etctwo_DecodeT711 = tab 64 fun _ => 0 := by decide +kernel

theorem Plane_is {o h v : List Int} (ho : Colour o) (hh : Colour h) (hv : Colour v) : etctwo_Plane 600 o h v = some (tab 64 (planeF o h v), ()) ∧ ref11_Plane 600 o h v = some (tab 64 (planeF o h v), ()) := by
  obtain ⟨h1, h2⟩ := Plane_l0_all ho hh hv etctwo_DecodeT711 16 0 600 (by omega) (by omega)
  rw [upR_zero, ← zero64b, show ((0 : Nat) : Int) = 0 from rfl] at h1 h2
  unfold etctwo_Plane ref11_Plane
  rw [h1, h2]
  exact ⟨rfl, rfl⟩

/-! ### planar blocks -/

def plO (b : List Int) : List Int := planeV (hv b 1 6) (pk b [7, 9, 10, 11, 12, 13, 14] 7) (pk b [15, 19, 20, 22, 23, 24] 6)
def plH (b : List Int) : List Int := planeV (pk b [25, 26, 27, 28, 29, 31] 6) (hv b 32 7) (hv b 39 6)
def plV (b : List Int) : List Int := planeV (hv b 45 6) (hv b 51 7) (hv b 58 6)
def planarF (b : List Int) (j : Nat) : Int := planeF (plO b) (plH b) (plV b) j

theorem posn_of {L : List Nat} (h : (decide (L.length ≤ 12) && L.all fun a => decide (a < 64)) = true) : Posn L := by
  simp only [Bool.and_eq_true, decide_eq_true_eq, List.all_eq_true] at h
  refine ⟨h.1, fun i => ?_⟩
  rw [List.getD_eq_getElem?_getD]
  by_cases hi : i < L.length
  · rw [List.getElem?_eq_getElem hi]
    exact h.2 _ (List.getElem_mem hi)
  · rw [List.getElem?_eq_none (by omega)]
    decide

theorem hvw (b : List Int) (a n : Nat) (hn : n ≤ 16) : Small (hv b a n) := by
  have h1 := hv_bound b a n
  have h2 : (2 : Int) ^ n ≤ 2 ^ 16 := ipow_le hn
  unfold Small
  omega
theorem pkw (b : List Int) (L : List Nat) (n : Nat) (hn : n ≤ 16) : Small (pk b L n) := by
  have h1 := pk_bound b L n
  have h2 : (2 : Int) ^ n ≤ 2 ^ 16 := ipow_le hn
  unfold Small
  omega

theorem rplane_is {x y z : Int} (hx : Small x) (hy : Small y) (hz : Small z) : ref11_Wide 600 [x, y, z] = some (planeV x y z, ()) :=
  rWide11_is fun i => getD_all (p := fun x => -9000000000000000000 ≤ x ∧ x ≤ 9000000000000000000) (by decide) (fun v hv => by
    simp only [List.mem_cons, List.not_mem_nil, or_false] at hv
    rcases hv with rfl | rfl | rfl
    · exact hx.w
    · exact hy.w
    · exact hz.w) i

theorem planar_is {b : List Int} (hb : Bytes b) (hl : b.length = 8) (a1 a2 : Bool) (a3 a4 a5 a6 : List Int) (a7 : Bool) :
    etctwo_block_planar 600 b a1 a2 a3 a4 a5 a6 a7 = some (tab 64 (planarF b), ()) ∧ ref11_planar 600 b = some (tab 64 (planarF b), ()) := by
  have t1 : etctwo_LayT192 = casts [7, 9, 10, 11, 12, 13, 14] := rfl
  have t2 : etctwo_LayT315 = casts [15, 19, 20, 22, 23, 24] := rfl
  have t3 : etctwo_LayT319 = casts [25, 26, 27, 28, 29, 31] := rfl
  have p1 := posn_of (L := [7, 9, 10, 11, 12, 13, 14]) (by decide)
  have p2 := posn_of (L := [15, 19, 20, 22, 23, 24]) (by decide)
  have p3 := posn_of (L := [25, 26, 27, 28, 29, 31]) (by decide)
  have g1 := get_is hb hl a1 a2 a3 a4 a5 a6 a7 p1
  have g2 := get_is hb hl a1 a2 a3 a4 a5 a6 a7 p2
  have g3 := get_is hb hl a1 a2 a3 a4 a5 a6 a7 p3
  have k1 := pick_is hb hl p1
  have k2 := pick_is hb hl p2
  have k3 := pick_is hb hl p3
  obtain ⟨r1, s1⟩ := run_is hb hl a1 a2 a3 a4 a5 a6 a7 (x := 1) (y := 6) (a := 1) (n := 6) rfl rfl (by omega) (by omega)
  obtain ⟨r2, s2⟩ := run_is hb hl a1 a2 a3 a4 a5 a6 a7 (x := 32) (y := 38) (a := 32) (n := 7) rfl rfl (by omega) (by omega)
  obtain ⟨r3, s3⟩ := run_is hb hl a1 a2 a3 a4 a5 a6 a7 (x := 39) (y := 44) (a := 39) (n := 6) rfl rfl (by omega) (by omega)
  obtain ⟨r4, s4⟩ := run_is hb hl a1 a2 a3 a4 a5 a6 a7 (x := 45) (y := 50) (a := 45) (n := 6) rfl rfl (by omega) (by omega)
  obtain ⟨r5, s5⟩ := run_is hb hl a1 a2 a3 a4 a5 a6 a7 (x := 51) (y := 57) (a := 51) (n := 7) rfl rfl (by omega) (by omega)
  obtain ⟨r6, s6⟩ := run_is hb hl a1 a2 a3 a4 a5 a6 a7 (x := 58) (y := 63) (a := 58) (n := 6) rfl rfl (by omega) (by omega)
  obtain ⟨q1, q2⟩ := Plane_is (o := plO b) (h := plH b) (v := plV b) (planeV_bound _ _ _) (planeV_bound _ _ _) (planeV_bound _ _ _)
  have w1 := rplane_is (hvw b 1 6 (by omega)) (pkw b [7, 9, 10, 11, 12, 13, 14] 7 (by omega)) (pkw b [15, 19, 20, 22, 23, 24] 6 (by omega))
  have w2 := rplane_is (pkw b [25, 26, 27, 28, 29, 31] 6 (by omega)) (hvw b 32 7 (by omega)) (hvw b 39 6 (by omega))
  have w3 := rplane_is (hvw b 45 6 (by omega)) (hvw b 51 7 (by omega)) (hvw b 58 6 (by omega))
  unfold etctwo_block_planar ref11_planar
  rw [t1, t2, t3]
  simp only [g1, g2, g3, k1, k2, k3, r1, r2, r3, r4, r5, r6, s1, s2, s3, s4, s5, s6, Option.bind_some, plane_is, List.length_cons, List.length_nil, Nat.zero_add, Nat.reduceAdd, w1, w2, w3]
  rw [show planeV (hv b 1 6) (pk b [7, 9, 10, 11, 12, 13, 14] 7) (pk b [15, 19, 20, 22, 23, 24] 6) = plO b from rfl, show planeV (pk b [25, 26, 27, 28, 29, 31] 6) (hv b 32 7) (hv b 39 6) = plH b from rfl, show planeV (hv b 45 6) (hv b 51 7) (hv b 58 6) = plV b from rfl, q1, q2]
  exact ⟨rfl, rfl⟩

end Go.AE.Gn
