/- Layer 11: etctwo. Numbers of bits, colours, planes. -/
import Derived.Test.YtdhhinbhckoipaaC11defs
import Derived.Test.YtdhhinbhckoipaaPure10
import Derived.Test.YtdhhinbhckoipaaPureTab
set_option linter.unusedVariables false
set_option linter.unusedSimpArgs false
namespace Go.AE.Gn
open Go Go.AE

/-! ### bits one by one -/

def pk (b : List Int) (L : List Nat) : Nat → Int
  | 0 => 0
  | i + 1 => 2 * pk b L i + hv b (L.getD i 0) 1

theorem pk_bound (b : List Int) (L : List Nat) : ∀ i, 0 ≤ pk b L i ∧ pk b L i < 2 ^ i
  | 0 => by simp [pk]
  | i + 1 => by
    have h := pk_bound b L i
    have h1 := hv_bound b (L.getD i 0) 1
    simp only [pk, Int.pow_succ]
    omega

theorem or_closed : ((List.range 2048).all fun n => (List.range 2).all fun v => ior .i64 (ishl .i64 (n : Int) 1) v == 2 * (n : Int) + v) = true := by kernel_rfl
theorem or_bit {n v : Int} (hn : 0 ≤ n ∧ n < 2048) (hv : 0 ≤ v ∧ v ≤ 1) : ior .i64 (ishl .i64 n 1) v = 2 * n + v := by
  obtain ⟨n, rfl⟩ := Int.eq_ofNat_of_zero_le hn.1
  obtain ⟨v, rfl⟩ := Int.eq_ofNat_of_zero_le hv.1
  have := List.all_eq_true.1 (List.all_eq_true.1 or_closed n (List.mem_range.2 (by omega))) v (List.mem_range.2 (by omega))
  simpa using this
theorem shl_closed : ((List.range 2048).all fun n => ishl .i64 (n : Int) 1 == 2 * (n : Int)) = true := by kernel_rfl
theorem shl_one {n : Int} (hn : 0 ≤ n ∧ n < 2048) : ishl .i64 n 1 = 2 * n := by
  obtain ⟨n, rfl⟩ := Int.eq_ofNat_of_zero_le hn.1
  have := List.all_eq_true.1 shl_closed n (List.mem_range.2 (by omega))
  simpa using this

def casts (L : List Nat) : List Int := List.map (fun a : Nat => Int.ofNat a) L
theorem casts_get (L : List Nat) (i : Nat) : (casts L).getD i 0 = ((L.getD i 0 : Nat) : Int) := by
  unfold casts
  rw [List.getD_eq_getElem?_getD, List.getD_eq_getElem?_getD, List.getElem?_map]
  cases L[i]? <;> rfl
theorem casts_len (L : List Nat) : (casts L).length = L.length := by simp [casts]

def Posn (L : List Nat) : Prop := L.length ≤ 12 ∧ ∀ i, L.getD i 0 < 64

theorem hvT (b : List Int) (a n : Nat) (hn : n ≤ 16) : IntKind.wrap .i64 (hv b a n) = hv b a n := by
  have h1 := hv_bound b a n
  have h2 : (2 : Int) ^ n ≤ 2 ^ 16 := ipow_le hn
  exact w64 (by omega) (by omega)

theorem get_l0_all {b : List Int} (hb : Bytes b) (hl : b.length = 8) (x1 : Bool) (x2 : Bool) (x3 : List Int) (x4 : List Int) (x5 : List Int) (x6 : List Int) (x7 : Bool) {L : List Nat} (hL : Posn L) :
    ∀ (d i k : Nat), i + d = L.length → d < k → etctwo_block_get_l0 600 k b x1 x2 x3 x4 x5 x6 x7 (pk b L i) (casts L) ((L.length : Int)) ((i : Int)) = some (pk b L L.length, ()) := by
  intro d
  induction d with
  | zero =>
    intro i k h1 h2
    obtain ⟨k, rfl⟩ : ∃ k', k = k' + 1 := ⟨k - 1, by omega⟩
    obtain rfl : i = L.length := by omega
    unfold etctwo_block_get_l0 etctwo_block_get_l0S
    simp only [Int.lt_irrefl, decide_false, cond_false]
  | succ d ih =>
    intro i k h1 h2
    obtain ⟨k, rfl⟩ : ∃ k', k = k' + 1 := ⟨k - 1, by omega⟩
    have hlen := hL.1
    have i1 : (i : Int) < (L.length : Int) := by omega
    have hp := pk_bound b L i
    have hp2 : (2 : Int) ^ i ≤ 2 ^ 11 := ipow_le (by omega)
    have hv1 := hv_bound b (L.getD i 0) 1
    have ha := hL.2 i
    have r : bits_High 600 b ((L.getD i 0 : Nat) : Int) (1 : Int) = _ := High_hv (n := 1) (by omega) hb (by omega) (by omega) (by omega)
    unfold etctwo_block_get_l0 etctwo_block_get_l0S
    simp only [i1, decide_true, cond_true, Int.natCast_nonneg, Bool.and_self, Int.toNat_natCast, casts_len, casts_get, r, Option.bind_some, hvT b _ 1 (by omega)]
    rw [nextI (by omega), or_bit (by omega) (by omega), show 2 * pk b L i + hv b (L.getD i 0) 1 = pk b L (i + 1) from rfl]
    exact ih (i + 1) k (by omega) (by omega)

theorem get_is {b : List Int} (hb : Bytes b) (hl : b.length = 8) (a1 a2 : Bool) (a3 a4 a5 a6 : List Int) (a7 : Bool) {L : List Nat} (hL : Posn L) : etctwo_block_get 600 b a1 a2 a3 a4 a5 a6 a7 (casts L) = some (pk b L L.length, ()) := by
  unfold etctwo_block_get
  have h := get_l0_all hb hl a1 a2 a3 a4 a5 a6 a7 hL L.length 0 600 (by omega) (by have := hL.1; omega)
  rw [show pk b L 0 = 0 from rfl, show ((0 : Nat) : Int) = 0 from rfl] at h
  rw [casts_len, h]
  rfl

theorem pick_l0_all {b : List Int} (hb : Bytes b) (hl : b.length = 8) {L : List Nat} (hL : Posn L) :
    ∀ (d i k : Nat), i + d = L.length → d < k → ref11_pick_l0 600 k b (casts L) (pk b L i) (i : Int) = some (pk b L L.length, ()) := by
  intro d
  induction d with
  | zero =>
    intro i k h1 h2
    obtain ⟨k, rfl⟩ : ∃ k', k = k' + 1 := ⟨k - 1, by omega⟩
    obtain rfl : i = L.length := by omega
    unfold ref11_pick_l0 ref11_pick_l0S
    simp only [casts_len, Int.lt_irrefl, decide_false, cond_false]
  | succ d ih =>
    intro i k h1 h2
    obtain ⟨k, rfl⟩ : ∃ k', k = k' + 1 := ⟨k - 1, by omega⟩
    have hlen := hL.1
    have i1 : (i : Int) < (L.length : Int) := by omega
    have hp := pk_bound b L i
    have hp2 : (2 : Int) ^ i ≤ 2 ^ 11 := ipow_le (by omega)
    have hv1 := hv_bound b (L.getD i 0) 1
    have ha := hL.2 i
    have r : ref02_Top 600 b ((L.getD i 0 : Nat) : Int) (1 : Int) = _ := rget10 (n := 1) (by omega) hb hl (by omega) (by omega)
    unfold ref11_pick_l0 ref11_pick_l0S
    simp only [casts_len, i1, decide_true, cond_true, Int.natCast_nonneg, Bool.and_self, Int.toNat_natCast, casts_get, r, Option.bind_some]
    rw [nextI (by omega), w64 (x := 2 * pk b L i) (by omega) (by omega), w64 (by omega) (by omega), show 2 * pk b L i + hv b (L.getD i 0) 1 = pk b L (i + 1) from rfl]
    exact ih (i + 1) k (by omega) (by omega)

theorem pick_is {b : List Int} (hb : Bytes b) (hl : b.length = 8) {L : List Nat} (hL : Posn L) : ref11_pick 600 b (casts L) = some (pk b L L.length, ()) := by
  unfold ref11_pick
  have h := pick_l0_all hb hl hL L.length 0 600 (by omega) (by have := hL.1; omega)
  rw [show pk b L 0 = 0 from rfl, show ((0 : Nat) : Int) = 0 from rfl] at h
  rw [h]
  rfl

theorem run_is {b : List Int} (hb : Bytes b) (hl : b.length = 8) (a1 a2 : Bool) (a3 a4 a5 a6 : List Int) (a7 : Bool) {x y : Int} {a n : Nat} (hx : x = a) (hy : y = (a : Int) + n - 1) (hn : n ≤ 16) (h : a + n ≤ 64) :
    etctwo_block_run 600 b a1 a2 a3 a4 a5 a6 a7 x y = some (hv b a n, ()) ∧ ref11_run 600 b x y = some (hv b a n, ()) := by
  subst hx
  subst hy
  have e : IntKind.wrap .i64 (IntKind.wrap .i64 ((a : Int) + n - 1 - a) + 1) = (n : Int) := by
    rw [w64 (x := (a : Int) + n - 1 - a) (by omega) (by omega), w64 (by omega) (by omega)]
    omega
  unfold etctwo_block_run ref11_run
  rw [e, High_hv (by omega) hb (by omega) (by omega) (by omega), rget10 (by omega) hb hl hn h]
  simp only [Option.bind_some, hvT b a n hn, and_self]

/-! ### colours -/

theorem three_loop (x y z : Int) {p q r : Nat} (hp : 1 ≤ p ∧ p ≤ 8) (hq : 1 ≤ q ∧ q ≤ 8) (hr : 1 ≤ r ∧ r ≤ 8) (k : Nat) (x1 : List Int) :
    etctwo_wide_l0 600 (k + 4) [(p : Int), (q : Int), (r : Int)] x1 [0, 0, 0, 255] [x, y, z] 0 = some (x1, ([wideV p x, wideV q y, wideV r z, 255], ())) := by
  have e0 := Wide_is (F := 600) (by omega) hp x
  have e1 := Wide_is (F := 600) (by omega) hq y
  have e2 := Wide_is (F := 600) (by omega) hr z
  unfold etctwo_wide_l0 etctwo_wide_l0S
  simp only [show (0 : Int) < 3 by decide, show (0 : Int) < 4 by decide, decide_true, cond_true, Int.le_refl, Bool.and_self, show Int.toNat 0 = 0 from rfl, List.getD_cons_zero, e0, Option.bind_some, List.set_cons_zero, show IntKind.wrap .i64 (0 + 1) = 1 from rfl]
  unfold etctwo_wide_l0 etctwo_wide_l0S
  simp only [show (1 : Int) < 3 by decide, show (1 : Int) < 4 by decide, show (0 : Int) ≤ 1 by decide, decide_true, cond_true, Bool.and_self, show Int.toNat 1 = 1 from rfl, List.getD_cons_zero, List.getD_cons_succ, e1, Option.bind_some, List.set_cons_zero, List.set_cons_succ, show IntKind.wrap .i64 (1 + 1) = 2 from rfl]
  unfold etctwo_wide_l0 etctwo_wide_l0S
  simp only [show (2 : Int) < 3 by decide, show (2 : Int) < 4 by decide, show (0 : Int) ≤ 2 by decide, decide_true, cond_true, Bool.and_self, show Int.toNat 2 = 2 from rfl, List.getD_cons_zero, List.getD_cons_succ, e2, Option.bind_some, List.set_cons_zero, List.set_cons_succ, show IntKind.wrap .i64 (2 + 1) = 3 from rfl]
  unfold etctwo_wide_l0 etctwo_wide_l0S
  simp only [Int.lt_irrefl, decide_false, cond_false]

def plainV (x y z : Int) : List Int := [wideV 4 x, wideV 4 y, wideV 4 z, 255]
def planeV (x y z : Int) : List Int := [wideV 6 x, wideV 7 y, wideV 6 z, 255]

theorem plain_is (x y z : Int) : etctwo_plain 600 [x, y, z] = some (plainV x y z, ()) := by
  unfold etctwo_plain etctwo_wide
  have h := three_loop x y z (p := 4) (q := 4) (r := 4) (by omega) (by omega) (by omega) 596 [0, 0, 0, 0]
  rw [show (596 + 4 : Nat) = 600 from rfl] at h
  simp only [show ((4 : Nat) : Int) = 4 from rfl] at h
  rw [h]
  rfl
theorem plane_is (x y z : Int) : etctwo_plane 600 [x, y, z] = some (planeV x y z, ()) := by
  unfold etctwo_plane etctwo_wide
  have h := three_loop x y z (p := 6) (q := 7) (r := 6) (by omega) (by omega) (by omega) 596 [0, 0, 0, 0]
  rw [show (596 + 4 : Nat) = 600 from rfl] at h
  simp only [show ((6 : Nat) : Int) = 6 from rfl, show ((7 : Nat) : Int) = 7 from rfl] at h
  rw [h]
  rfl

def Small (x : Int) : Prop := 0 ≤ x ∧ x < 100000
theorem Small.w {x : Int} (h : Small x) : -9000000000000000000 ≤ x ∧ x ≤ 9000000000000000000 := by unfold Small at h; omega

theorem rcolour_is {x y z : Int} (hx : Small x) (hy : Small y) (hz : Small z) : ref11_colour 600 [x, y, z] = some (plainV x y z, ()) := by
  unfold ref11_colour
  have e0 : ref03_Wide 600 x 4 = _ := rWide_is (b := 4) (by omega) (by omega) hx.w
  have e1 : ref03_Wide 600 y 4 = _ := rWide_is (b := 4) (by omega) (by omega) hy.w
  have e2 : ref03_Wide 600 z 4 = _ := rWide_is (b := 4) (by omega) (by omega) hz.w
  simp only [List.getD_cons_zero, List.getD_cons_succ, e0, e1, e2, Option.bind_some]
  rfl
theorem rWide11_is {l : List Int} (h : ∀ i, -9000000000000000000 ≤ l.getD i 0 ∧ l.getD i 0 ≤ 9000000000000000000) : ref11_Wide 600 l = some (planeV (l.getD 0 0) (l.getD 1 0) (l.getD 2 0), ()) := by
  unfold ref11_Wide
  have e0 : ref03_Wide 600 (l.getD 0 0) 6 = _ := rWide_is (b := 6) (by omega) (by omega) (h 0)
  have e1 : ref03_Wide 600 (l.getD 1 0) 7 = _ := rWide_is (b := 7) (by omega) (by omega) (h 1)
  have e2 : ref03_Wide 600 (l.getD 2 0) 6 = _ := rWide_is (b := 6) (by omega) (by omega) (h 2)
  simp only [e0, e1, e2, Option.bind_some]
  rfl

def distV (n : Int) : Int := etctwo_DistanceT1261.getD (n % 8).toNat 0
theorem Distance_is (n : Int) : etctwo_Distance 600 n = some (distV n, ()) := by
  unfold etctwo_Distance distV
  rw [iand7]
  have h1 : (0 : Int) ≤ n % 8 := by omega
  have h2 : n % 8 < 8 := by omega
  simp only [h1, h2, decide_true, Bool.and_self, cond_true]
theorem rDistance_is {n : Int} (hn : -9223372036854775808 ≤ n ∧ n ≤ 9223372036854775807) : ref11_Distance 600 n = some (distV n, ()) := by
  unfold ref11_Distance distV
  have hf := tmod_fix (x := n) (m := 8) (by decide)
  by_cases h : Int.tmod n 8 < 0
  · rw [if_pos h] at hf
    have hlo : -8 < Int.tmod n 8 := Int.lt_tmod_of_pos n (by decide)
    have e : IntKind.wrap .i64 (Int.tmod n 8 + 8) = n % 8 := by
      rw [w64 (by omega) (by omega), hf]
    have h1 : (0 : Int) ≤ n % 8 := by omega
    have h2 : n % 8 < 8 := by omega
    simp only [h, decide_true, cond_true, e, h1, h2, Bool.and_self]
  · rw [if_neg h] at hf
    have h1 : (0 : Int) ≤ n % 8 := by omega
    have h2 : n % 8 < 8 := by omega
    have h3 : ¬ n % 8 < 0 := by omega
    simp only [hf, h3, decide_false, cond_false, h1, h2, decide_true, Bool.and_self, cond_true]
theorem distV_bound (n : Int) : 0 ≤ distV n ∧ distV n ≤ 64 := by
  unfold distV
  exact getD_all (p := fun x => 0 ≤ x ∧ x ≤ 64) (by decide) (by decide) _

def addV (l : List Int) (n : Int) : List Int := [clampV (l.getD 0 0 + n), clampV (l.getD 1 0 + n), clampV (l.getD 2 0 + n), l.getD 3 0]

theorem moved_loop {a b c e n : Int} (ha : 0 ≤ a ∧ a ≤ 255) (hb : 0 ≤ b ∧ b ≤ 255) (hc : 0 ≤ c ∧ c ≤ 255) (hn : -64 ≤ n ∧ n ≤ 64) (k : Nat) (x2 : List Int) :
    etctwo_moved_l0 600 (k + 4) n [a, b, c, e] x2 0 = some ([clampV (a + n), clampV (b + n), clampV (c + n), e], (x2, ())) := by
  have ea : IntKind.wrap .i64 (a + n) = a + n := w64 (by omega) (by omega)
  have eb : IntKind.wrap .i64 (b + n) = b + n := w64 (by omega) (by omega)
  have ec : IntKind.wrap .i64 (c + n) = c + n := w64 (by omega) (by omega)
  unfold etctwo_moved_l0 etctwo_moved_l0S
  simp only [show (0 : Int) < 3 by decide, show (0 : Int) < 4 by decide, decide_true, cond_true, Int.le_refl, Bool.and_self, show Int.toNat 0 = 0 from rfl, List.getD_cons_zero, ea, Clamp10_is, Option.bind_some, List.set_cons_zero, show IntKind.wrap .i64 (0 + 1) = 1 from rfl]
  unfold etctwo_moved_l0 etctwo_moved_l0S
  simp only [show (1 : Int) < 3 by decide, show (1 : Int) < 4 by decide, show (0 : Int) ≤ 1 by decide, decide_true, cond_true, Bool.and_self, show Int.toNat 1 = 1 from rfl, List.getD_cons_zero, List.getD_cons_succ, eb, Clamp10_is, Option.bind_some, List.set_cons_zero, List.set_cons_succ, show IntKind.wrap .i64 (1 + 1) = 2 from rfl]
  unfold etctwo_moved_l0 etctwo_moved_l0S
  simp only [show (2 : Int) < 3 by decide, show (2 : Int) < 4 by decide, show (0 : Int) ≤ 2 by decide, decide_true, cond_true, Bool.and_self, show Int.toNat 2 = 2 from rfl, List.getD_cons_zero, List.getD_cons_succ, ec, Clamp10_is, Option.bind_some, List.set_cons_zero, List.set_cons_succ, show IntKind.wrap .i64 (2 + 1) = 3 from rfl]
  unfold etctwo_moved_l0 etctwo_moved_l0S
  simp only [Int.lt_irrefl, decide_false, cond_false]

theorem plainV_bound (x y z : Int) (i : Nat) : 0 ≤ (plainV x y z).getD i 0 ∧ (plainV x y z).getD i 0 ≤ 255 := by
  have h1 := wideV_bound (b := 4) (by omega) x
  have h2 := wideV_bound (b := 4) (by omega) y
  have h3 := wideV_bound (b := 4) (by omega) z
  exact getD_all (p := fun x => 0 ≤ x ∧ x ≤ 255) (by decide) (fun v hv => by
    simp only [plainV, List.mem_cons, List.not_mem_nil, or_false] at hv
    rcases hv with rfl | rfl | rfl | rfl <;> omega) i
theorem planeV_bound (x y z : Int) (i : Nat) : 0 ≤ (planeV x y z).getD i 0 ∧ (planeV x y z).getD i 0 ≤ 255 := by
  have h1 := wideV_bound (b := 6) (by omega) x
  have h2 := wideV_bound (b := 7) (by omega) y
  have h3 := wideV_bound (b := 6) (by omega) z
  exact getD_all (p := fun x => 0 ≤ x ∧ x ≤ 255) (by decide) (fun v hv => by
    simp only [planeV, List.mem_cons, List.not_mem_nil, or_false] at hv
    rcases hv with rfl | rfl | rfl | rfl <;> omega) i

theorem moved_is (x y z : Int) {n : Int} (hn : -64 ≤ n ∧ n ≤ 64) : etctwo_moved 600 (plainV x y z) n = some (addV (plainV x y z) n, ()) ∧ ref10_Add 600 (plainV x y z) n = some (addV (plainV x y z) n, ()) := by
  have hb := plainV_bound x y z
  have h := moved_loop (a := wideV 4 x) (b := wideV 4 y) (c := wideV 4 z) (e := 255) (n := n) (hb 0) (hb 1) (hb 2) hn 596 [0, 0, 0, 0]
  rw [show (596 + 4 : Nat) = 600 from rfl] at h
  refine ⟨?_, Add10_is (by omega) (by omega) hb⟩
  unfold etctwo_moved plainV
  rw [h]
  rfl

end Go.AE.Gn
