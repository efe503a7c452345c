/- Layer 11: etctwo. Planar blocks that were laid are decoded: EtctwoPlanar. -/
import Derived.Test.YtdhhinbhckoipaaPure11i
set_option linter.unusedVariables false
set_option linter.unusedSimpArgs false
namespace Go.AE.Gn
open Go Go.AE

/-! ### bits of what was laid -/

def Apart (K L : List Nat) : Prop := ∀ i, i < K.length → ∀ j, j < L.length → K.getD i 0 ≠ L.getD j 0
instance : DecidableRel Apart := fun K L => by unfold Apart; exact inferInstance

theorem seqB_out {q : Nat} : ∀ (fs : List (List Nat × Int)) {c : List Int}, Bytes c → c.length = 8 → (∀ f ∈ fs, Pl f.1 ∧ ∀ i, i < f.1.length → f.1.getD i 0 ≠ q) → highBit (seqB c fs) q = highBit c q
  | [], c, _, _, _ => rfl
  | f :: fs, c, hc, hl, h => by
    have h1 := h f (List.mem_cons_self ..)
    exact (seqB_out fs (layB_bytes hc f.1 f.2) (by rw [layB_len, hl]) fun g hg => h g (List.mem_cons_of_mem _ hg)).trans (layB_out hc hl h1.1 f.2 h1.2)

theorem seqB_at : ∀ (fs : List (List Nat × Int)) {c : List Int}, Bytes c → c.length = 8 → (∀ f ∈ fs, Pl f.1) → (fs.map (·.1)).Pairwise Apart → ∀ f ∈ fs, ∀ j, j < f.1.length → highBit (seqB c fs) (f.1.getD j 0) = f.2 / 2 ^ (f.1.length - 1 - j) % 2
  | [], _, _, _, _, _, f, hf, _, _ => by cases hf
  | g :: fs, c, hc, hl, hp, hd, f, hf, j, hj => by
    rw [List.map_cons, List.pairwise_cons] at hd
    have hg := hp g (List.mem_cons_self ..)
    rcases List.mem_cons.1 hf with rfl | hf
    · refine (seqB_out fs (layB_bytes hc _ _) (by rw [layB_len, hl]) fun k hk => ⟨hp k (List.mem_cons_of_mem _ hk), fun i hi he => ?_⟩).trans (layB_in hc hl hg _ hj)
      exact hd.1 k.1 (List.mem_map_of_mem hk) j hj i hi he.symm
    · exact seqB_at fs (layB_bytes hc _ _) (by rw [layB_len, hl]) (fun k hk => hp k (List.mem_cons_of_mem _ hk)) hd.2 f hf j hj

def FL : List (List Nat) := [F1, F2, F3, F4, F5, F6, F7, F8, F9, [30]]
theorem FL_pl : ∀ L ∈ FL, Pl L := by
  intro L hL
  simp only [FL, List.mem_cons, List.not_mem_nil, or_false] at hL
  rcases hL with rfl | rfl | rfl | rfl | rfl | rfl | rfl | rfl | rfl | rfl
  · exact P1
  · exact P2
  · exact P3
  · exact P4
  · exact P5
  · exact P6
  · exact P7
  · exact P8
  · exact P9
  · exact P30
theorem FL_apart : FL.Pairwise Apart := by decide +kernel
theorem FL_of (o h v : List Int) : (fieldsOf o h v).map (·.1) = FL := rfl
theorem fieldsOf_pl (o h v : List Int) : ∀ f ∈ fieldsOf o h v, Pl f.1 := fun f hf => FL_pl f.1 (by rw [← FL_of o h v]; exact List.mem_map_of_mem hf)

theorem zAll_at (o h v : List Int) {L : List Nat} {n : Int} (hf : (L, n) ∈ fieldsOf o h v) {j : Nat} (hj : j < L.length) : highBit (zAll o h v) (L.getD j 0) = n / 2 ^ (L.length - 1 - j) % 2 :=
  seqB_at _ z8_bytes rfl (fieldsOf_pl o h v) (by rw [FL_of]; exact FL_apart) (L, n) hf j hj

theorem zAll_out (o h v : List Int) {q : Nat} (hq : FL.all (fun L => (List.range L.length).all fun i => L.getD i 0 != q) = true) : highBit (zAll o h v) q = highBit z8 q := by
  refine seqB_out _ z8_bytes rfl fun f hf => ⟨fieldsOf_pl o h v f hf, fun i hi he => ?_⟩
  have h1 := List.all_eq_true.1 hq f.1 (by rw [← FL_of o h v]; exact List.mem_map_of_mem hf)
  have h2 := List.all_eq_true.1 h1 i (List.mem_range.2 hi)
  rw [he] at h2
  simp at h2

def touched : List Nat := [0, 8, 16, 17, 18, 21]

theorem fix_out {b : List Int} (hb : Bytes b) (hl : b.length = 8) {q : Nat} (hq : q ∉ touched) : highBit (fix2 b) q = highBit b q := by
  simp only [touched, List.mem_cons, List.not_mem_nil, or_false, not_or] at hq
  obtain ⟨g0, g8, g16, g17, g18, g21⟩ := hq
  obtain ⟨a1, a2⟩ := fix0_ok hb hl
  obtain ⟨b1, b2⟩ := fix1_ok hb hl
  have one : ∀ {a : Nat}, q ≠ a → ∀ i, i < [a].length → [a].getD i 0 ≠ q := fun {a} hqa i hi => by
    have : i = 0 := by
      have : i < 1 := hi
      omega
    subst this
    exact fun h => hqa h.symm
  have e0 : highBit (fix0 b) q = highBit b q := by
    unfold fix0
    split
    · exact layB_out hb hl P00 1 (one g0)
    · rfl
  have e1 : highBit (fix1 b) q = highBit (fix0 b) q := by
    unfold fix1
    split
    · exact layB_out a1 a2 P08 1 (one g8)
    · rfl
  have e2 : highBit (fix2 b) q = highBit (fix1 b) q := by
    unfold fix2
    split
    · refine layB_out b1 b2 P16 7 fun i hi => ?_
      have : i < 3 := hi
      rcases (by omega : i = 0 ∨ i = 1 ∨ i = 2) with rfl | rfl | rfl
      · exact fun h => g16 h.symm
      · exact fun h => g17 h.symm
      · exact fun h => g18 h.symm
    · exact layB_out b1 b2 P21 1 (one g21)
  rw [e2, e1, e0]

theorem layV_at (o h v : List Int) {L : List Nat} {n : Int} (hf : (L, n) ∈ fieldsOf o h v) (hL : L.all (fun q => !touched.contains q) = true) {j : Nat} (hj : j < L.length) : highBit (layV o h v) (L.getD j 0) = n / 2 ^ (L.length - 1 - j) % 2 := by
  rw [← zAll_at o h v hf hj]
  refine fix_out (zAll_ok o h v).1 (zAll_ok o h v).2 fun hm => ?_
  have h1 := List.all_eq_true.1 hL (L.getD j 0) (by rw [List.getD_eq_getElem?_getD, List.getElem?_eq_getElem hj]; exact List.getElem_mem hj)
  rw [List.contains_iff_mem.2 hm] at h1
  cases h1

theorem hv_one (b : List Int) (q : Nat) : hv b q 1 = highBit b q := by
  have h := hv_digit b (a := q) (n := 1) (q := q) (Nat.le_refl _) (by omega)
  have h1 := hv_bound b q 1
  rw [show q + 1 - 1 - q = 0 by omega] at h
  omega

theorem pk_val {b : List Int} {L : List Nat} {v : Int} (hv' : 0 ≤ v ∧ v < 2 ^ L.length) (h : ∀ j, j < L.length → highBit b (L.getD j 0) = v / 2 ^ (L.length - 1 - j) % 2) : pk b L L.length = v := by
  have key : ∀ i, i ≤ L.length → pk b L i = v / 2 ^ (L.length - i) := by
    intro i
    induction i with
    | zero =>
      intro _
      rw [Nat.sub_zero]
      exact (Int.ediv_eq_zero_of_lt hv'.1 hv'.2).symm
    | succ i ih =>
      intro hi
      show 2 * pk b L i + hv b (L.getD i 0) 1 = _
      rw [ih (by omega), hv_one, h i (by omega), show L.length - i = (L.length - 1 - i) + 1 by omega, Int.pow_succ, ← Int.ediv_ediv_of_nonneg (by have := powPos (L.length - 1 - i); omega), show L.length - (i + 1) = L.length - 1 - i by omega]
      omega
  rw [key _ (Nat.le_refl _), Nat.sub_self]
  simp

theorem hv_pk (b : List Int) (a : Nat) (L : List Nat) : ∀ n, (∀ i, i < n → L.getD i 0 = a + i) → hv b a n = pk b L n
  | 0, _ => hv_zero b a
  | n + 1, h => by
    rw [hv_succ, hv_pk b a L n fun i hi => h i (by omega)]
    show _ = 2 * pk b L n + hv b (L.getD n 0) 1
    rw [h n (by omega)]

theorem hv_add (b : List Int) (a m : Nat) : ∀ n, hv b a (m + n) = 2 ^ n * hv b a m + hv b (a + m) n
  | 0 => by
    rw [hv_zero]
    simp
  | n + 1 => by
    rw [← Nat.add_assoc, hv_succ, hv_add b a m n, hv_succ b (a + m) n, Int.pow_succ, Nat.add_assoc, Int.mul_add, ← Int.mul_assoc, Int.mul_comm 2 (2 ^ n)]
    omega

/-! ### colours of what was laid -/

theorem lay_colours {o h v : List Int} (hok : ok3 o ∧ ok3 h ∧ ok3 v) : plO (layV o h v) = planeV (o.getD 0 0) (o.getD 1 0) (o.getD 2 0) ∧ plH (layV o h v) = planeV (h.getD 0 0) (h.getD 1 0) (h.getD 2 0) ∧ plV (layV o h v) = planeV (v.getD 0 0) (v.getD 1 0) (v.getD 2 0) := by
  obtain ⟨⟨o0, o1, o2⟩, ⟨h0, h1, h2⟩, ⟨v0, v1, v2⟩⟩ := hok
  have m : ∀ {L : List Nat} {n : Int}, (L, n) ∈ fieldsOf o h v → L.all (fun q => !touched.contains q) = true → 0 ≤ n ∧ n < 2 ^ L.length → pk (layV o h v) L L.length = n := fun hf ht hn => pk_val hn fun j hj => layV_at o h v hf ht hj
  have a1 : pk (layV o h v) F1 6 = o.getD 0 0 := m (L := F1) (by simp [fieldsOf]) (by decide) o0
  have a2 : pk (layV o h v) F2 7 = o.getD 1 0 := m (L := F2) (by simp [fieldsOf]) (by decide) o1
  have a3 : pk (layV o h v) F3 6 = o.getD 2 0 := m (L := F3) (by simp [fieldsOf]) (by decide) o2
  have a4 : pk (layV o h v) F4 6 = h.getD 0 0 := m (L := F4) (by simp [fieldsOf]) (by decide) h0
  have a5 : pk (layV o h v) F5 7 = h.getD 1 0 := m (L := F5) (by simp [fieldsOf]) (by decide) h1
  have a6 : pk (layV o h v) F6 6 = h.getD 2 0 := m (L := F6) (by simp [fieldsOf]) (by decide) h2
  have a7 : pk (layV o h v) F7 6 = v.getD 0 0 := m (L := F7) (by simp [fieldsOf]) (by decide) v0
  have a8 : pk (layV o h v) F8 7 = v.getD 1 0 := m (L := F8) (by simp [fieldsOf]) (by decide) v1
  have a9 : pk (layV o h v) F9 6 = v.getD 2 0 := m (L := F9) (by simp [fieldsOf]) (by decide) v2
  have b1 := hv_pk (layV o h v) 1 F1 6 (by decide)
  have b5 := hv_pk (layV o h v) 32 F5 7 (by decide)
  have b6 := hv_pk (layV o h v) 39 F6 6 (by decide)
  have b7 := hv_pk (layV o h v) 45 F7 6 (by decide)
  have b8 := hv_pk (layV o h v) 51 F8 7 (by decide)
  have b9 := hv_pk (layV o h v) 58 F9 6 (by decide)
  unfold plO plH plV
  rw [show [7, 9, 10, 11, 12, 13, 14] = F2 from rfl, show [15, 19, 20, 22, 23, 24] = F3 from rfl, show [25, 26, 27, 28, 29, 31] = F4 from rfl, b1, b5, b6, b7, b8, b9, a1, a2, a3, a4, a5, a6, a7, a8, a9]
  exact ⟨rfl, rfl, rfl⟩

/-! ### such a block is planar -/

def nn (b : List Int) (c : Nat) : Int := hv b (8 * c) 5 + sg3 (hv b (8 * c + 5) 3)

theorem wV_nn {b : List Int} (h : eDiff b = true) {c : Nat} (hc : c < 3) : wV b c = nn b c := by
  unfold wV nn eAs eBs
  rw [h]
  rcases (by omega : c = 0 ∨ c = 1 ∨ c = 2) with rfl | rfl | rfl <;> rfl

theorem sg3_bound {x : Int} (h : 0 ≤ x ∧ x < 8) : -4 ≤ sg3 x ∧ sg3 x ≤ 3 := by
  unfold sg3
  split <;> omega

theorem zBit (o h v : List Int) {q : Nat} (hq : FL.all (fun L => (List.range L.length).all fun i => L.getD i 0 != q) = true) (hz : highBit z8 q = 0) : hv (zAll o h v) q 1 = 0 := by
  rw [hv_one, zAll_out o h v hq, hz]

theorem hi_bit (b : List Int) (a : Nat) : hv b a 5 = 16 * hv b a 1 + hv b (a + 1) 4 := hv_add b a 1 4

/-- The highest bit of a part mends it. -/
theorem mend {z : List Int} (hz : Bytes z) (hl : z.length = 8) {c : Nat} {L : List Nat} (hL : Pl L) (hLc : L = [8 * c]) (h0 : hv z (8 * c) 1 = 0) (hc : c < 3) :
    ¬ badW (nn (if badW (nn z c) then layB z L 1 else z) c) := by
  have s := sg3_bound (hv_bound z (8 * c + 5) 3)
  have g := hv_bound z (8 * c + 1) 4
  have e := hi_bit z (8 * c)
  have p4 : (2 : Int) ^ 4 = 16 := by decide
  have n0 : nn z c = hv z (8 * c + 1) 4 + sg3 (hv z (8 * c + 5) 3) := by
    unfold nn
    omega
  by_cases hb : badW (nn z c)
  · rw [if_pos hb]
    have out : ∀ {q : Nat}, q ≠ 8 * c → ∀ i, i < L.length → L.getD i 0 ≠ q := fun hq i hi => by
      subst hLc
      have : i = 0 := by
        have : i < 1 := hi
        omega
      subst this
      exact fun h => hq h.symm
    have f1 : hv (layB z L 1) (8 * c + 1) 4 = hv z (8 * c + 1) 4 := hv_lay hz hl hL 1 fun q h1 h2 => out (by omega)
    have f2 : hv (layB z L 1) (8 * c + 5) 3 = hv z (8 * c + 5) 3 := hv_lay hz hl hL 1 fun q h1 h2 => out (by omega)
    have f3 : hv (layB z L 1) (8 * c) 1 = 1 := by
      rw [hv_one]
      have := layB_in hz hl hL 1 (j := 0) (by subst hLc; exact Nat.zero_lt_one)
      subst hLc
      simpa using this
    have e1 := hi_bit (layB z L 1) (8 * c)
    have n1 : nn (layB z L 1) c = 16 + nn z c := by
      unfold nn
      rw [f2]
      omega
    unfold badW at hb ⊢
    omega
  · rw [if_neg hb]
    exact hb

theorem eDiff_z (o h v : List Int) : eDiff (zAll o h v) = true := by
  have := zAll_at o h v (L := [30]) (n := 1) (by simp [fieldsOf]) (j := 0) (by decide)
  unfold eDiff
  rw [hv_one]
  rw [show [30].getD 0 0 = 30 from rfl] at this
  rw [this]
  rfl
theorem bit30 (o h v : List Int) : hv (layV o h v) 30 1 = 1 := by
  have := layV_at o h v (L := [30]) (n := 1) (by simp [fieldsOf]) (by decide) (j := 0) (by decide)
  rw [hv_one]
  exact this

theorem nn_congr {b c : List Int} {k : Nat} (h : ∀ q, 8 * k ≤ q → q < 8 * k + 8 → highBit b q = highBit c q) : nn b k = nn c k := by
  unfold nn
  rw [show hv b (8 * k) 5 = hv c (8 * k) 5 from sumHi_congr fun i hi => h _ (by omega) (by omega), show hv b (8 * k + 5) 3 = hv c (8 * k + 5) 3 from sumHi_congr fun i hi => h _ (by omega) (by omega)]

theorem lay_planar (o h v : List Int) : ¬ badW (nn (layV o h v) 0) ∧ ¬ badW (nn (layV o h v) 1) ∧ badW (nn (layV o h v) 2) := by
  obtain ⟨z1, z2⟩ := zAll_ok o h v
  obtain ⟨a1, a2⟩ := fix0_ok z1 z2
  obtain ⟨b1, b2⟩ := fix1_ok z1 z2
  have hd := eDiff_z o h v
  have hw0 := wV_nn hd (c := 0) (by omega)
  have hw1 := wV_nn hd (c := 1) (by omega)
  have one : ∀ {a q : Nat}, q ≠ a → ∀ i, i < [a].length → [a].getD i 0 ≠ q := fun {a q} hqa i hi => by
    have : i = 0 := by
      have : i < 1 := hi
      omega
    subst this
    exact fun h => hqa h.symm
  have s16 : ∀ {q : Nat}, (q < 16 ∨ 18 < q) → ∀ i, i < [16, 17, 18].length → [16, 17, 18].getD i 0 ≠ q := fun {q} hq i hi => by
    have : i < 3 := hi
    rcases (by omega : i = 0 ∨ i = 1 ∨ i = 2) with rfl | rfl | rfl
    · show 16 ≠ q
      omega
    · show 17 ≠ q
      omega
    · show 18 ≠ q
      omega
  have e2 : ∀ q, q < 16 → highBit (layV o h v) q = highBit (fix1 (zAll o h v)) q := fun q hq => by
    unfold layV fix2
    split
    · exact layB_out b1 b2 P16 7 (s16 (Or.inl hq))
    · exact layB_out b1 b2 P21 1 (one (by omega))
  have e1 : ∀ q, (q < 8 ∨ 8 < q) → highBit (fix1 (zAll o h v)) q = highBit (fix0 (zAll o h v)) q := fun q hq => by
    unfold fix1
    split
    · exact layB_out a1 a2 P08 1 (one (by omega))
    · rfl
  have e0 : ∀ q, 0 < q → highBit (fix0 (zAll o h v)) q = highBit (zAll o h v) q := fun q hq => by
    unfold fix0
    split
    · exact layB_out z1 z2 P00 1 (one (by omega))
    · rfl
  refine ⟨?_, ?_, ?_⟩
  · rw [nn_congr (c := fix0 (zAll o h v)) fun q h1 h2 => (e2 q (by omega)).trans (e1 q (by omega))]
    unfold fix0
    rw [hw0]
    exact mend z1 z2 P00 rfl (zBit o h v (by decide +kernel) (by decide +kernel)) (by omega)
  · rw [nn_congr (c := fix1 (zAll o h v)) fun q h1 h2 => e2 q (by omega)]
    unfold fix1
    rw [hw1, ← nn_congr (b := fix0 (zAll o h v)) (c := zAll o h v) (k := 1) fun q h1 h2 => e0 q (by omega)]
    exact mend a1 a2 P08 rfl (by rw [hv_one, e0 _ (by omega), ← hv_one]; exact zBit o h v (by decide +kernel) (by decide +kernel)) (by omega)
  · have keep : ∀ q, 15 < q → highBit (fix1 (zAll o h v)) q = highBit (zAll o h v) q := fun q hq => (e1 q (by omega)).trans (e0 q (by omega))
    have n16 : hv (fix1 (zAll o h v)) 16 1 = 0 := by rw [hv_one, keep _ (by omega), ← hv_one]; exact zBit o h v (by decide +kernel) (by decide +kernel)
    have n17 : hv (fix1 (zAll o h v)) 17 1 = 0 := by rw [hv_one, keep _ (by omega), ← hv_one]; exact zBit o h v (by decide +kernel) (by decide +kernel)
    have n18 : hv (fix1 (zAll o h v)) 18 1 = 0 := by rw [hv_one, keep _ (by omega), ← hv_one]; exact zBit o h v (by decide +kernel) (by decide +kernel)
    have n21 : hv (fix1 (zAll o h v)) 21 1 = 0 := by rw [hv_one, keep _ (by omega), ← hv_one]; exact zBit o h v (by decide +kernel) (by decide +kernel)
    have cut : ∀ b : List Int, hv b 16 5 = 16 * hv b 16 1 + 8 * hv b 17 1 + 4 * hv b 18 1 + hv b 19 2 ∧ hv b 21 3 = 4 * hv b 21 1 + hv b 22 2 := fun b => by
      have c1 := hv_add b 16 3 2
      have c2 := hv_add b 16 2 1
      have c3 := hv_add b 16 1 1
      have c4 := hv_add b 21 1 2
      simp only [Nat.reduceAdd] at c1 c2 c3 c4
      have : (2 : Int) ^ 1 = 2 := by decide
      have : (2 : Int) ^ 2 = 4 := by decide
      omega
    have g1 := hv_bound (fix1 (zAll o h v)) 19 2
    have g2 := hv_bound (fix1 (zAll o h v)) 22 2
    have : (2 : Int) ^ 2 = 4 := by decide
    have b16 : (8 * 2 : Nat) = 16 := rfl
    unfold layV fix2
    split
    · rename_i hc
      have k1 : hv (layB (fix1 (zAll o h v)) [16, 17, 18] 7) 19 2 = hv (fix1 (zAll o h v)) 19 2 := hv_lay b1 b2 P16 7 fun q h1 h2 => s16 (by omega)
      have k2 : hv (layB (fix1 (zAll o h v)) [16, 17, 18] 7) 22 2 = hv (fix1 (zAll o h v)) 22 2 := hv_lay b1 b2 P16 7 fun q h1 h2 => s16 (by omega)
      have k3 : hv (layB (fix1 (zAll o h v)) [16, 17, 18] 7) 21 1 = hv (fix1 (zAll o h v)) 21 1 := hv_lay b1 b2 P16 7 fun q h1 h2 => s16 (by omega)
      have k4 : hv (layB (fix1 (zAll o h v)) [16, 17, 18] 7) 16 1 = 1 := by rw [hv_one]; exact layB_in b1 b2 P16 7 (j := 0) (by decide)
      have k5 : hv (layB (fix1 (zAll o h v)) [16, 17, 18] 7) 17 1 = 1 := by rw [hv_one]; exact layB_in b1 b2 P16 7 (j := 1) (by decide)
      have k6 : hv (layB (fix1 (zAll o h v)) [16, 17, 18] 7) 18 1 = 1 := by rw [hv_one]; exact layB_in b1 b2 P16 7 (j := 2) (by decide)
      obtain ⟨c1, c2⟩ := cut (layB (fix1 (zAll o h v)) [16, 17, 18] 7)
      unfold badW nn sg3
      rw [b16]
      simp only [Nat.reduceAdd]
      rw [c2, if_neg (by omega)]
      omega
    · rename_i hc
      have k1 : hv (layB (fix1 (zAll o h v)) [21] 1) 19 2 = hv (fix1 (zAll o h v)) 19 2 := hv_lay b1 b2 P21 1 fun q h1 h2 => one (by omega)
      have k2 : hv (layB (fix1 (zAll o h v)) [21] 1) 22 2 = hv (fix1 (zAll o h v)) 22 2 := hv_lay b1 b2 P21 1 fun q h1 h2 => one (by omega)
      have k3 : hv (layB (fix1 (zAll o h v)) [21] 1) 21 1 = 1 := by rw [hv_one]; exact layB_in b1 b2 P21 1 (j := 0) (by decide)
      have k4 : hv (layB (fix1 (zAll o h v)) [21] 1) 16 1 = hv (fix1 (zAll o h v)) 16 1 := hv_lay b1 b2 P21 1 fun q h1 h2 => one (by omega)
      have k5 : hv (layB (fix1 (zAll o h v)) [21] 1) 17 1 = hv (fix1 (zAll o h v)) 17 1 := hv_lay b1 b2 P21 1 fun q h1 h2 => one (by omega)
      have k6 : hv (layB (fix1 (zAll o h v)) [21] 1) 18 1 = hv (fix1 (zAll o h v)) 18 1 := hv_lay b1 b2 P21 1 fun q h1 h2 => one (by omega)
      obtain ⟨c1, c2⟩ := cut (layB (fix1 (zAll o h v)) [21] 1)
      unfold badW nn sg3
      rw [b16]
      simp only [Nat.reduceAdd]
      rw [c2, if_pos (by omega)]
      omega

theorem lay_bb (o h v : List Int) (p : Bool) : bb (layV o h v) p = layV o h v := by
  cases p
  · unfold bb
    exact if_neg (by decide)
  · unfold bb
    rw [if_pos rfl]
    exact hset_same (layV_ok o h v).1 (layV_ok o h v).2 (bit30 o h v)

theorem lay_kind (o h v : List Int) (p : Bool) : kindV (layV o h v) p = 3 := by
  have hd : eDiff (layV o h v) = true := by
    unfold eDiff
    rw [bit30]
    rfl
  obtain ⟨n0, n1, n2⟩ := lay_planar o h v
  have hbb := lay_bb o h v p
  have e : ∀ (b : List Int) (c : Nat), c < 3 → n10 true (eAs true b) (eBs true b) c = nn b c := fun b c hc => by
    unfold n10 nn eAs eBs
    rcases (by omega : c = 0 ∨ c = 1 ∨ c = 2) with rfl | rfl | rfl <;> rfl
  generalize layV o h v = b at *
  have hf : far10 (xD b p) (xA b p) (xB b p) = 2 := by
    unfold xD xA xB
    rw [hbb, hd]
    have m0 : ¬ bad10 (eAs true b) (eBs true b) 0 := by
      unfold bad10
      rw [e b 0 (by omega)]
      exact n0
    have m1 : ¬ bad10 (eAs true b) (eBs true b) 1 := by
      unfold bad10
      rw [e b 1 (by omega)]
      exact n1
    have m2 : bad10 (eAs true b) (eBs true b) 2 := by
      unfold bad10
      rw [e b 2 (by omega)]
      exact n2
    unfold far10
    rw [if_pos (show true = true from rfl), if_neg m0, if_neg m1, if_pos m2]
  unfold kindV
  rw [hf]
  rfl

theorem lay_dec (o h v : List Int) (p : Bool) : dec11 (layV o h v) p = planarF (layV o h v) := by
  have hk := lay_kind o h v p
  funext j
  unfold dec11 zF baseF
  rw [hk, if_neg (fun h => h.2.1 rfl), if_neg (by omega), if_neg (by omega), if_neg (by omega)]

/-! ### the law -/

theorem wideV_clamp {n : Nat} {x : Int} : clampV ((4 * wideV n x + 2) / 4) = clampV (wideV n x) := by
  congr 1
  omega

theorem flat_row {o h v : List Int} (ho : Colour o) (hl : o.length = 4) (h3 : o.getD 3 0 = 255) {i : Nat} (hi : i = 0 ∨ (h = o ∧ v = o)) (h16 : i < 16) : (tab 4 fun c => planeF o h v (i * 4 + c)) = o := by
  conv => rhs; rw [tab_all hl]
  refine tab_congr fun c hc => ?_
  obtain ⟨m1, m2⟩ := mul4 i c hc
  unfold planeF
  rw [m1, m2]
  have hcl := ho c
  have e : c ≠ 3 → planeE (o.getD c 0) (h.getD c 0) (v.getD c 0) i = 4 * o.getD c 0 + 2 := fun _ => by
    unfold planeE
    rcases hi with rfl | ⟨rfl, rfl⟩
    · simp
    · simp
  by_cases hc3 : c = 3
  · rw [if_pos hc3]
    subst hc3
    exact h3.symm
  · rw [if_neg hc3, e hc3]
    unfold clampV
    omega

theorem Planar_l0_all {o : List Int} (u : Bool) (e : Int) {T : List Int} (hT : ∀ i, i < 16 → List.take 4 (List.drop (i * 4) T) = o) : ∀ (d i k : Nat), i + d = 16 → d < k →
    law11_EtctwoPlanar_l0 600 k u o T e (i : Int) = some (.inr (u, (e, ()))) := by
  intro d
  induction d with
  | zero =>
    intro i k h1 h2
    obtain ⟨k, rfl⟩ : ∃ k', k = k' + 1 := ⟨k - 1, by omega⟩
    obtain rfl : i = 16 := by omega
    unfold law11_EtctwoPlanar_l0 law11_EtctwoPlanar_l0S
    have : ¬ (((16 : Nat) : Int) < 16) := by omega
    simp only [this, decide_false, cond_false]
  | succ d ih =>
    intro i k h1 h2
    obtain ⟨k, rfl⟩ : ∃ k', k = k' + 1 := ⟨k - 1, by omega⟩
    have hi : i < 16 := by omega
    have i1 : (i : Int) < 16 := by omega
    have fin := ih (i + 1) k (by omega) (by omega)
    unfold law11_EtctwoPlanar_l0 law11_EtctwoPlanar_l0S
    simp only [i1, decide_true, cond_true, Int.natCast_nonneg, Bool.and_self, Int.toNat_natCast, hT i hi, beq_self_eq_true, Bool.not_true, cond_false]
    rw [nextI (by omega)]
    exact fin

theorem ok3_wide {l : List Int} (h : ok3 l) (hl : l.length = 3) : ref11_Wide 600 l = some (planeV (l.getD 0 0) (l.getD 1 0) (l.getD 2 0), ()) := by
  obtain ⟨h0, h1, h2⟩ := h
  refine rWide11_is fun i => ?_
  rcases (by omega : i = 0 ∨ i = 1 ∨ i = 2 ∨ 3 ≤ i) with rfl | rfl | rfl | hi
  · omega
  · omega
  · omega
  · rw [List.getD_eq_getElem?_getD, List.getElem?_eq_none (by omega)]
    exact ⟨by decide, by decide⟩

/-- No law by definition: so that nothing is compared by unfolding. -/
theorem obind {α β : Type} (a : α) (f : α → Option β) : (some a).bind f = f a := by
  cases h : f a <;> rw [Option.bind_some, h]

theorem law11_EtctwoPlanar_true (l : List Int) (hl : l.length = 9 ∧ ∀ x ∈ l, IntKind.i64.has x) : ∃ F, law11_EtctwoPlanar F l = some (true, ()) := by
  obtain ⟨hl, hl'⟩ := hl
  refine ⟨600, ?_⟩
  unfold law11_EtctwoPlanar
  rw [awake11]
  simp only [Option.bind_some]
  have la := (lay_is (o := List.take 3 l) (h := List.take 3 (List.drop 3 l)) (v := List.take 3 (List.drop 6 l)) (by simp [hl]) (by simp [hl]) (by simp [hl]) (by rw [three_parts hl]; exact i64_of hl')).1
  have hi : ∀ x ∈ List.take 3 l ++ (List.take 3 l ++ List.take 3 l), IntKind.i64.has x := by
    intro x hx
    rcases List.mem_append.1 hx with hx | hx
    · exact hl' x (List.mem_of_mem_take hx)
    · rcases List.mem_append.1 hx with hx | hx <;> exact hl' x (List.mem_of_mem_take hx)
  have lc := (lay_is (o := List.take 3 l) (h := List.take 3 l) (v := List.take 3 l) (by simp [hl]) (by simp [hl]) (by simp [hl]) (i64_of hi)).1
  have k0 : (List.take 3 l).length = 3 := by simp [hl]
  have k1 : (List.take 3 (List.drop 3 l)).length = 3 := by simp [hl]
  have k2 : (List.take 3 (List.drop 6 l)).length = 3 := by simp [hl]
  rw [la]
  generalize List.take 3 l = o at *
  generalize List.take 3 (List.drop 3 l) = h at *
  generalize List.take 3 (List.drop 6 l) = v at *
  by_cases hok : ok3 o ∧ ok3 h ∧ ok3 v
  · rw [if_pos hok]
    have hoo : ok3 o ∧ ok3 o ∧ ok3 o := ⟨hok.1, hok.1, hok.1⟩
    rw [if_pos hoo] at lc
    obtain ⟨q1, q2⟩ := layV_ok o h v
    obtain ⟨r1, r2⟩ := layV_ok o o o
    obtain ⟨co, ch, cv⟩ := lay_colours hok
    obtain ⟨do', dh, dv⟩ := lay_colours hoo
    have d1 := Decode11_is q1 q2 false
    have d2 := Decode11_is q1 q2 true
    have d3 := Decode11_is r1 r2 false
    rw [lay_dec] at d1 d2 d3
    have w0 := ok3_wide hok.1 k0
    have w1 := ok3_wide hok.2.1 k1
    have w2 := ok3_wide hok.2.2 k2
    have pl := (Plane_is (o := planeV (o.getD 0 0) (o.getD 1 0) (o.getD 2 0)) (h := planeV (h.getD 0 0) (h.getD 1 0) (h.getD 2 0)) (v := planeV (v.getD 0 0) (v.getD 1 0) (v.getD 2 0)) (planeV_bound _ _ _) (planeV_bound _ _ _) (planeV_bound _ _ _)).1
    have t1 : tab 64 (planarF (layV o h v)) = tab 64 (planeF (planeV (o.getD 0 0) (o.getD 1 0) (o.getD 2 0)) (planeV (h.getD 0 0) (h.getD 1 0) (h.getD 2 0)) (planeV (v.getD 0 0) (v.getD 1 0) (v.getD 2 0))) := by
      refine tab_congr fun j hj => ?_
      unfold planarF
      rw [co, ch, cv]
    have t2 : tab 64 (planarF (layV o o o)) = tab 64 (planeF (planeV (o.getD 0 0) (o.getD 1 0) (o.getD 2 0)) (planeV (o.getD 0 0) (o.getD 1 0) (o.getD 2 0)) (planeV (o.getD 0 0) (o.getD 1 0) (o.getD 2 0))) := by
      refine tab_congr fun j hj => ?_
      unfold planarF
      rw [do', dh, dv]
    rw [t1] at d1 d2
    rw [t2] at d3
    have K1 := (Kind_is q1 q2 false).1
    have K2 := (Kind_is q1 q2 true).1
    rw [lay_kind] at K1 K2
    have z : ((0 : Int) != 0) = false := rfl
    have z3 : ((3 : Int) != 3) = false := rfl
    have row0 : List.take 4 (tab 64 (planeF (planeV (o.getD 0 0) (o.getD 1 0) (o.getD 2 0)) (planeV (h.getD 0 0) (h.getD 1 0) (h.getD 2 0)) (planeV (v.getD 0 0) (v.getD 1 0) (v.getD 2 0)))) = planeV (o.getD 0 0) (o.getD 1 0) (o.getD 2 0) := by
      have := tab_part (N := 64) (i := 0) (m := 4) (g := planeF (planeV (o.getD 0 0) (o.getD 1 0) (o.getD 2 0)) (planeV (h.getD 0 0) (h.getD 1 0) (h.getD 2 0)) (planeV (v.getD 0 0) (v.getD 1 0) (v.getD 2 0))) (by omega)
      rw [Nat.zero_mul, List.drop_zero] at this
      rw [this]
      have := flat_row (o := planeV (o.getD 0 0) (o.getD 1 0) (o.getD 2 0)) (h := planeV (h.getD 0 0) (h.getD 1 0) (h.getD 2 0)) (v := planeV (v.getD 0 0) (v.getD 1 0) (v.getD 2 0)) (planeV_bound _ _ _) rfl rfl (i := 0) (Or.inl rfl) (by omega)
      rw [Nat.zero_mul] at this
      exact this
    have rows : ∀ i, i < 16 → List.take 4 (List.drop (i * 4) (tab 64 (planeF (planeV (o.getD 0 0) (o.getD 1 0) (o.getD 2 0)) (planeV (o.getD 0 0) (o.getD 1 0) (o.getD 2 0)) (planeV (o.getD 0 0) (o.getD 1 0) (o.getD 2 0))))) = planeV (o.getD 0 0) (o.getD 1 0) (o.getD 2 0) := fun i hi => by
      rw [tab_part (by omega)]
      exact flat_row (planeV_bound _ _ _) rfl rfl (Or.inr ⟨rfl, rfl⟩) hi
    have l0 := Planar_l0_all true 0 rows 16 0 600 (by omega) (by omega)
    simp only [show ((0 : Nat) : Int) = 0 from rfl] at l0
    clear t1 t2 q1 q2 r1 r2 co ch cv do' dh dv rows
    generalize layV o h v = b1 at *
    generalize layV o o o = b2 at *
    generalize tab 64 (planeF (planeV (o.getD 0 0) (o.getD 1 0) (o.getD 2 0)) (planeV (h.getD 0 0) (h.getD 1 0) (h.getD 2 0)) (planeV (v.getD 0 0) (v.getD 1 0) (v.getD 2 0))) = T1 at *
    generalize tab 64 (planeF (planeV (o.getD 0 0) (o.getD 1 0) (o.getD 2 0)) (planeV (o.getD 0 0) (o.getD 1 0) (o.getD 2 0)) (planeV (o.getD 0 0) (o.getD 1 0) (o.getD 2 0))) = T2 at *
    generalize planeV (o.getD 0 0) (o.getD 1 0) (o.getD 2 0) = O at *
    generalize planeV (h.getD 0 0) (h.getD 1 0) (h.getD 2 0) = H at *
    generalize planeV (v.getD 0 0) (v.getD 1 0) (v.getD 2 0) = V at *
    simp only [Option.bind_some, z, cond_false]
    rw [d1, d2]
    simp only [Option.bind_some]
    rw [w0, w1, w2]
    simp only [obind]
    rw [pl]
    simp only [obind, z, cond_false, beq_self_eq_true, Bool.not_true]
    rw [K1, K2]
    simp only [obind, z3, cond_false]
    rw [row0, lc]
    simp only [obind, beq_self_eq_true, Bool.not_true, cond_false]
    rw [d3]
    simp only [obind]
    rw [l0]
    rfl
  · rw [if_neg hok]
    have z1 : ((1 : Int) != 0) = true := rfl
    have z2 : ((1 : Int) == 1) = true := rfl
    have z3 : ((((List.length ([] : List Int)) : Nat) : Int) == 0) = true := rfl
    simp only [Option.bind_some, cond_true, z1, z2, z3]

end Go.AE.Gn
