/- Layer 11: etctwo. Planar blocks laid, by the program and by the document: EtctwoLays. -/
import Derived.Test.YtdhhinbhckoipaaPure11h
set_option linter.unusedVariables false
set_option linter.unusedSimpArgs false
namespace Go.AE.Gn
open Go Go.AE

def layV (o h v : List Int) : List Int := fix2 (zAll o h v)
theorem zAll_ok (o h v : List Int) : Bytes (zAll o h v) ∧ (zAll o h v).length = 8 := seqB_ok z8_bytes rfl _
theorem layV_ok (o h v : List Int) : Bytes (layV o h v) ∧ (layV o h v).length = 8 := fix2_ok (zAll_ok o h v).1 (zAll_ok o h v).2

theorem span_is : ref11_span 600 1 6 = some (casts F1, ()) ∧ ref11_span 600 32 38 = some (casts F5, ()) ∧ ref11_span 600 39 44 = some (casts F6, ()) ∧ ref11_span 600 45 50 = some (casts F7, ()) ∧ ref11_span 600 51 57 = some (casts F8, ()) ∧ ref11_span 600 58 63 = some (casts F9, ()) := by
  decide +kernel

theorem lay_is {o h v : List Int} (ho : o.length = 3) (hh : h.length = 3) (hv' : v.length = 3) (h64 : ∀ i, I64 ((o ++ (h ++ v)).getD i 0)) :
    etctwo_Lay 600 o h v = some (if ok3 o ∧ ok3 h ∧ ok3 v then (layV o h v, (0, ())) else ([], (1, ()))) ∧ ref11_Lay 600 o h v = some (if ok3 o ∧ ok3 h ∧ ok3 v then (layV o h v, (0, ())) else ([], (1, ()))) := by
  obtain ⟨la, lb⟩ := lay_l0_is ho hh hv' h64 596
  unfold etctwo_Lay ref11_Lay
  rw [la, lb]
  simp only [Option.bind_some]
  by_cases hok : ok3 o ∧ ok3 h ∧ ok3 v
  · rw [if_pos hok, if_pos hok]
    simp only []
    obtain ⟨⟨o0, o1, o2⟩, ⟨h0, h1, h2⟩, ⟨v0, v1, v2⟩⟩ := hok
    have t0 : etctwo_LayT37 = z8 := rfl
    have t1 : etctwo_LayT192 = casts F2 := rfl
    have t2 : etctwo_LayT315 = casts F3 := rfl
    have t3 : etctwo_LayT319 = casts F4 := rfl
    have t30 : [(30 : Int)] = casts [30] := rfl
    have t16 : [(16 : Int), 17, 18] = casts [16, 17, 18] := rfl
    have t21 : [(21 : Int)] = casts [21] := rfl
    obtain ⟨p1, p5, p6, p7, p8, p9⟩ := span_is
    have step : ∀ {c : List Int} (hc : Bytes c ∧ c.length = 8) (L : List Nat) (n : Int), Bytes (layB c L n) ∧ (layB c L n).length = 8 := fun hc L n => ⟨layB_bytes hc.1 L n, by rw [layB_len, hc.2]⟩
    have z0 : Bytes z8 ∧ z8.length = 8 := ⟨z8_bytes, rfl⟩
    have z1 := step z0 F1 (o.getD 0 0)
    have e1 := c2_is z0.1 z0.2 (v := o.getD 0 0) (x := 1) (y := 6) (a := 1) (n := 6) P1 rfl rfl rfl (by decide) (by omega) o0
    have f1 := put_is z0.1 z0.2 (n := o.getD 0 0) (by omega) P1
    obtain ⟨s1, hs1⟩ : ∃ s, layB z8 F1 (o.getD 0 0) = s := ⟨_, rfl⟩
    rw [hs1] at z1 e1 f1
    have z2 := step z1 F2 (o.getD 1 0)
    have e2 := c1_is z1.1 z1.2 (o.getD 1 0) P2
    have f2 := put_is z1.1 z1.2 (n := o.getD 1 0) (by omega) P2
    obtain ⟨s2, hs2⟩ : ∃ s, layB s1 F2 (o.getD 1 0) = s := ⟨_, rfl⟩
    rw [hs2] at z2 e2 f2
    have z3 := step z2 F3 (o.getD 2 0)
    have e3 := c1_is z2.1 z2.2 (o.getD 2 0) P3
    have f3 := put_is z2.1 z2.2 (n := o.getD 2 0) (by omega) P3
    obtain ⟨s3, hs3⟩ : ∃ s, layB s2 F3 (o.getD 2 0) = s := ⟨_, rfl⟩
    rw [hs3] at z3 e3 f3
    have z4 := step z3 F4 (h.getD 0 0)
    have e4 := c1_is z3.1 z3.2 (h.getD 0 0) P4
    have f4 := put_is z3.1 z3.2 (n := h.getD 0 0) (by omega) P4
    obtain ⟨s4, hs4⟩ : ∃ s, layB s3 F4 (h.getD 0 0) = s := ⟨_, rfl⟩
    rw [hs4] at z4 e4 f4
    have z5 := step z4 F5 (h.getD 1 0)
    have e5 := c2_is z4.1 z4.2 (v := h.getD 1 0) (x := 32) (y := 38) (a := 32) (n := 7) P5 rfl rfl rfl (by decide) (by omega) h1
    have f5 := put_is z4.1 z4.2 (n := h.getD 1 0) (by omega) P5
    obtain ⟨s5, hs5⟩ : ∃ s, layB s4 F5 (h.getD 1 0) = s := ⟨_, rfl⟩
    rw [hs5] at z5 e5 f5
    have z6 := step z5 F6 (h.getD 2 0)
    have e6 := c2_is z5.1 z5.2 (v := h.getD 2 0) (x := 39) (y := 44) (a := 39) (n := 6) P6 rfl rfl rfl (by decide) (by omega) h2
    have f6 := put_is z5.1 z5.2 (n := h.getD 2 0) (by omega) P6
    obtain ⟨s6, hs6⟩ : ∃ s, layB s5 F6 (h.getD 2 0) = s := ⟨_, rfl⟩
    rw [hs6] at z6 e6 f6
    have z7 := step z6 F7 (v.getD 0 0)
    have e7 := c2_is z6.1 z6.2 (v := v.getD 0 0) (x := 45) (y := 50) (a := 45) (n := 6) P7 rfl rfl rfl (by decide) (by omega) v0
    have f7 := put_is z6.1 z6.2 (n := v.getD 0 0) (by omega) P7
    obtain ⟨s7, hs7⟩ : ∃ s, layB s6 F7 (v.getD 0 0) = s := ⟨_, rfl⟩
    rw [hs7] at z7 e7 f7
    have z8' := step z7 F8 (v.getD 1 0)
    have e8 := c2_is z7.1 z7.2 (v := v.getD 1 0) (x := 51) (y := 57) (a := 51) (n := 7) P8 rfl rfl rfl (by decide) (by omega) v1
    have f8 := put_is z7.1 z7.2 (n := v.getD 1 0) (by omega) P8
    obtain ⟨s8, hs8⟩ : ∃ s, layB s7 F8 (v.getD 1 0) = s := ⟨_, rfl⟩
    rw [hs8] at z8' e8 f8
    have z9 := step z8' F9 (v.getD 2 0)
    have e9 := c2_is z8'.1 z8'.2 (v := v.getD 2 0) (x := 58) (y := 63) (a := 58) (n := 6) P9 rfl rfl rfl (by decide) (by omega) v2
    have f9 := put_is z8'.1 z8'.2 (n := v.getD 2 0) (by omega) P9
    obtain ⟨s9, hs9⟩ : ∃ s, layB s8 F9 (v.getD 2 0) = s := ⟨_, rfl⟩
    rw [hs9] at z9 e9 f9
    have z10 := step z9 [30] 1
    have e10 := c1_is z9.1 z9.2 1 P30
    have f10 := put_is z9.1 z9.2 (n := 1) (by omega) P30
    have hz : layB s9 [30] 1 = zAll o h v := by
      unfold zAll seqB fieldsOf
      simp only [List.foldl_cons, List.foldl_nil, hs1, hs2, hs3, hs4, hs5, hs6, hs7, hs8, hs9]
    rw [hz] at z10 e10 f10
    have hP := Parts10_is (F := 600) (by omega) z10.1 z10.2
    have e11 := l2_is z10.1 z10.2 (eDiff (zAll o h v)) (eFlip (zAll o h v)) [hv (zAll o h v) 24 3, hv (zAll o h v) 27 3] (eWs (zAll o h v)) 597
    have f11 := rl2_is z10.1 z10.2 597
    obtain ⟨q1, q2⟩ := fix1_ok z10.1 z10.2
    obtain ⟨r1, t1'⟩ := run_is q1 q2 false false [0, 0, 0] [0, 0, 0] [0, 0] etctwo_LayT520 false (x := 19) (y := 20) (a := 19) (n := 2) rfl rfl (by omega) (by omega)
    obtain ⟨r2, t2'⟩ := run_is q1 q2 false false [0, 0, 0] [0, 0, 0] [0, 0] etctwo_LayT520 false (x := 22) (y := 23) (a := 22) (n := 2) rfl rfl (by omega) (by omega)
    have g1 := hv_bound (fix1 (zAll o h v)) 19 2
    have g2 := hv_bound (fix1 (zAll o h v)) 22 2
    have ew : IntKind.wrap .i64 (hv (fix1 (zAll o h v)) 19 2 + hv (fix1 (zAll o h v)) 22 2) = hv (fix1 (zAll o h v)) 19 2 + hv (fix1 (zAll o h v)) 22 2 := w64 (by omega) (by omega)
    have e12 := c2_is q1 q2 (v := 7) (x := 16) (y := 18) (a := 16) (n := 3) P16 rfl rfl rfl (by decide) (by omega) (by decide)
    have f12 := put_is q1 q2 (n := 7) (by omega) P16
    have e13 := c1_is q1 q2 1 P21
    have f13 := put_is q1 q2 (n := 1) (by omega) P21
    rw [t0, t1, t2, t3, t30, t16, t21]
    rw [eP] at hP
    simp only [p1, p5, p6, p7, p8, p9, Option.bind_some, e1, e2, e3, e4, e5, e6, e7, e8, e9, e10, f1, f2, f3, f4, f5, f6, f7, f8, f9, f10, hP, e11, f11, r1, r2, t1', t2', ew, e12, e13, f12, f13]
    by_cases hc : 4 ≤ hv (fix1 (zAll o h v)) 19 2 + hv (fix1 (zAll o h v)) 22 2
    · have : layV o h v = layB (fix1 (zAll o h v)) [16, 17, 18] 7 := by
        unfold layV fix2
        rw [if_pos hc]
      rw [this]
      simp only [hc, decide_true, cond_true, and_self, ok3, o0, o1, o2, h0, h1, h2, v0, v1, v2, if_true]
    · have : layV o h v = layB (fix1 (zAll o h v)) [21] 1 := by
        unfold layV fix2
        rw [if_neg hc]
      rw [this]
      simp only [hc, decide_false, cond_false, and_self, ok3, o0, o1, o2, h0, h1, h2, v0, v1, v2, if_true]
  · rw [if_neg hok, if_neg hok]
    exact ⟨rfl, rfl⟩

/-! ### the law -/

def C255 (x : Int) : Prop := 0 ≤ x ∧ x ≤ 255

theorem Lays_l2_all (m : List Int) (u : Bool) {i : Nat} (hi : i < 3) : ∀ (d c k : Nat), c + d = 4 → d < k →
    law11_EtctwoLays_l2 600 k m u (i : Int) (c : Int) = some (.inl (u, ())) ∨ (law11_EtctwoLays_l2 600 k m u (i : Int) (c : Int) = some (.inr (m, (u, ((i : Int), ())))) ∧ ∀ e, c ≤ e → e < 4 → C255 (m.getD (i * 4 + e) 0)) := by
  intro d
  induction d with
  | zero =>
    intro c k h1 h2
    obtain ⟨k, rfl⟩ : ∃ k', k = k' + 1 := ⟨k - 1, by omega⟩
    obtain rfl : c = 4 := by omega
    right
    refine ⟨?_, fun e h1 h2 => by omega⟩
    unfold law11_EtctwoLays_l2 law11_EtctwoLays_l2S
    have : ¬ (((4 : Nat) : Int) < 4) := by omega
    simp only [this, decide_false, cond_false]
  | succ d ih =>
    intro c k h1 h2
    obtain ⟨k, rfl⟩ : ∃ k', k = k' + 1 := ⟨k - 1, by omega⟩
    have hc : c < 4 := by omega
    have i1 : (c : Int) < 4 := by omega
    have i3 : (i : Int) < 3 := by omega
    have fin := ih (c + 1) k (by omega) (by omega)
    unfold law11_EtctwoLays_l2 law11_EtctwoLays_l2S
    simp only [i1, i3, decide_true, cond_true, Int.natCast_nonneg, Bool.and_self, Int.toNat_natCast]
    rw [nextI (by omega)]
    by_cases g1 : m.getD (i * 4 + c) 0 < 0
    · left
      simp only [g1, decide_true, cond_true]
    · by_cases g2 : 255 < m.getD (i * 4 + c) 0
      · left
        simp only [g1, g2, decide_true, decide_false, cond_true, cond_false]
      · simp only [g1, g2, decide_false, cond_false]
        rcases fin with fin | ⟨fin, hf⟩
        · exact .inl fin
        · refine .inr ⟨fin, fun e he1 he2 => ?_⟩
          rcases (by omega : e = c ∨ c + 1 ≤ e) with rfl | he
          · unfold C255
            omega
          · exact hf e he he2

theorem Lays_l0_all (m : List Int) (u : Bool) : ∀ (d i k : Nat), i + d = 3 → d < k →
    law11_EtctwoLays_l0 600 k m u (i : Int) = some (.inl (u, ())) ∨ (law11_EtctwoLays_l0 600 k m u (i : Int) = some (.inr (m, (u, ()))) ∧ ∀ e, i * 4 ≤ e → e < 12 → C255 (m.getD e 0)) := by
  intro d
  induction d with
  | zero =>
    intro i k h1 h2
    obtain ⟨k, rfl⟩ : ∃ k', k = k' + 1 := ⟨k - 1, by omega⟩
    obtain rfl : i = 3 := by omega
    right
    refine ⟨?_, fun e h1 h2 => by omega⟩
    unfold law11_EtctwoLays_l0 law11_EtctwoLays_l0S
    have : ¬ (((3 : Nat) : Int) < 3) := by omega
    simp only [this, decide_false, cond_false]
  | succ d ih =>
    intro i k h1 h2
    obtain ⟨k, rfl⟩ : ∃ k', k = k' + 1 := ⟨k - 1, by omega⟩
    have hi : i < 3 := by omega
    have i1 : (i : Int) < 3 := by omega
    have fin := ih (i + 1) k (by omega) (by omega)
    have row := Lays_l2_all m u hi 4 0 600 (by omega) (by omega)
    simp only [show ((0 : Nat) : Int) = 0 from rfl] at row
    unfold law11_EtctwoLays_l0 law11_EtctwoLays_l0S
    simp only [i1, decide_true, cond_true]
    rcases row with row | ⟨row, hr⟩
    · left
      rw [row]
      rfl
    · rw [row]
      simp only [Option.bind_some]
      rw [nextI (by omega)]
      rcases fin with fin | ⟨fin, hf⟩
      · exact .inl fin
      · refine .inr ⟨fin, fun e he1 he2 => ?_⟩
        rcases (by omega : (i * 4 ≤ e ∧ e < i * 4 + 4) ∨ (i + 1) * 4 ≤ e) with he | he
        · have := hr (e - i * 4) (by omega) (by omega)
          rwa [show i * 4 + (e - i * 4) = e by omega] at this
        · exact hf e he he2

theorem colour_of {l : List Int} {N : Nat} (hl : l.length = N) (h : ∀ e, e < N → C255 (l.getD e 0)) : Colour l := by
  intro i
  by_cases hi : i < N
  · exact h i hi
  · rw [List.getD_eq_getElem?_getD, List.getElem?_eq_none (by omega)]
    exact ⟨by decide, by decide⟩

theorem part_get (l : List Int) (a n i : Nat) (hi : i < n) : (List.take n (List.drop a l)).getD i 0 = l.getD (a + i) 0 := by
  rw [List.getD_eq_getElem?_getD, List.getD_eq_getElem?_getD, List.getElem?_take, if_pos hi, List.getElem?_drop]

theorem i64_of {l : List Int} (h : ∀ x ∈ l, IntKind.i64.has x) (i : Nat) : I64 (l.getD i 0) := by
  by_cases hi : i < l.length
  · rw [List.getD_eq_getElem?_getD, List.getElem?_eq_getElem hi]
    have := has_iff.1 (h _ (List.getElem_mem hi))
    exact this
  · rw [List.getD_eq_getElem?_getD, List.getElem?_eq_none (by omega)]
    exact ⟨by decide, by decide⟩

theorem three_parts {l : List Int} (hl : l.length = 9) : List.take 3 l ++ (List.take 3 (List.drop 3 l) ++ List.take 3 (List.drop 6 l)) = l := by
  match l, hl with
  | [a, b, c, d, e, f, g, h, i], _ => rfl

theorem part_i64 {l : List Int} (h : ∀ x ∈ l, IntKind.i64.has x) (a n : Nat) : ∀ x ∈ List.take n (List.drop a l), IntKind.i64.has x := fun x hx => h x (List.mem_of_mem_drop (List.mem_of_mem_take hx))

theorem law11_EtctwoLays_true (l m : List Int) (hl : l.length = 9 ∧ ∀ x ∈ l, IntKind.i64.has x) (hm : m.length = 12 ∧ ∀ x ∈ m, IntKind.i64.has x) : ∃ F, law11_EtctwoLays F l m = some (true, ()) := by
  obtain ⟨hl, hl'⟩ := hl
  obtain ⟨hm, -⟩ := hm
  refine ⟨600, ?_⟩
  unfold law11_EtctwoLays
  rw [awake11]
  simp only [Option.bind_some]
  obtain ⟨la, lb⟩ := lay_is (o := List.take 3 l) (h := List.take 3 (List.drop 3 l)) (v := List.take 3 (List.drop 6 l)) (by simp [hl]) (by simp [hl]) (by simp [hl]) (by rw [three_parts hl]; exact i64_of hl')
  rw [la, lb]
  simp only [Option.bind_some]
  have hs : ∀ r : List Int × (Int × Unit), r = (if ok3 (List.take 3 l) ∧ ok3 (List.take 3 (List.drop 3 l)) ∧ ok3 (List.take 3 (List.drop 6 l)) then (layV (List.take 3 l) (List.take 3 (List.drop 3 l)) (List.take 3 (List.drop 6 l)), (0, ())) else ([], (1, ()))) → ref01_Same 600 r.1 r.1 = some (true, ()) := by
    intro r hr
    rw [hr]
    refine Same_is _ ?_ (by omega)
    split
    · rw [(layV_ok _ _ _).2]
      omega
    · exact Nat.zero_lt_succ _
  rw [hs _ rfl]
  simp only [Option.bind_some, Bool.not_true, cond_false, bne_self_eq_false]
  have l0 := Lays_l0_all m true 3 0 600 (by omega) (by omega)
  simp only [show ((0 : Nat) : Int) = 0 from rfl] at l0
  rcases l0 with l0 | ⟨l0, hc⟩
  · rw [l0]
    rfl
  · rw [l0]
    have c1 : Colour (List.take 4 m) := colour_of (N := 4) (by simp [hm]) fun e he => by
      have := part_get m 0 4 e he
      rw [List.drop_zero] at this
      rw [this]
      exact hc _ (by omega) (by omega)
    have c2 : Colour (List.take 4 (List.drop 4 m)) := colour_of (N := 4) (by simp [hm]) fun e he => by
      rw [part_get m 4 4 e he]
      exact hc _ (by omega) (by omega)
    have c3 : Colour (List.take 4 (List.drop 8 m)) := colour_of (N := 4) (by simp [hm]) fun e he => by
      rw [part_get m 8 4 e he]
      exact hc _ (by omega) (by omega)
    obtain ⟨pa, pb⟩ := Plane_is c1 c2 c3
    simp only [Option.bind_some, cond_true, pa, pb, beq_self_eq_true]

end Go.AE.Gn
