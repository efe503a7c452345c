/- The framework AE, part 2: numbers and truths; what plain operations come to. -/
import Derived.Test.YtaogfbhifeobmaaFw1
set_option linter.unusedVariables false
set_option linter.unusedSimpArgs false
namespace Go.AE
open Go Go.RowKit

def loB : IntKind → Int
  | .i8 => -128 | .i16 => -32768 | .i32 => -2147483648 | .i64 => -9223372036854775808 | .u8 | .u16 | .u32 | .u64 => 0
def hiB : IntKind → Int
  | .i8 => 127 | .i16 => 32767 | .i32 => 2147483647 | .i64 => 9223372036854775807 | .u8 => 255 | .u16 => 65535 | .u32 => 4294967295 | .u64 => 18446744073709551615

theorem has_iff {k : IntKind} {n : Int} : k.has n ↔ loB k ≤ n ∧ n ≤ hiB k := by
  have h1 : k.min = loB k := by cases k <;> rfl
  have h2 : k.max = hiB k := by cases k <;> rfl
  unfold IntKind.has
  rw [h1, h2]

def inB (k : IntKind) (n : Int) : Bool := decide (loB k ≤ n) && decide (n ≤ hiB k)
theorem has_of_inB {k : IntKind} {n : Int} (h : inB k n = true) : k.has n := by
  simp only [inB, Bool.and_eq_true, decide_eq_true_eq] at h
  exact has_iff.2 h

theorem wrap_has (k : IntKind) (n : Int) : k.has (k.wrap n) := by
  rw [has_iff]
  cases k <;> simp only [IntKind.wrap, IntKind.bits, IntKind.signed, loB, hiB] <;> simp <;> (try split) <;> omega

theorem wrap_id {k : IntKind} {n : Int} (h : k.has n) : k.wrap n = n := by
  rw [has_iff] at h
  cases k <;> simp only [IntKind.wrap, IntKind.bits, IntKind.signed, loB, hiB] at h ⊢ <;> simp <;> (try split) <;> omega

/-- A wrap that costs little where nothing is wrapped. -/
def fw (k : IntKind) (n : Int) : Int := cond (inB k n) n (k.wrap n)
theorem fw_eq (k : IntKind) (n : Int) : fw k n = k.wrap n := by
  unfold fw
  cases h : inB k n
  · rfl
  · exact (wrap_id (has_of_inB h)).symm

def iand (k : IntKind) (x y : Int) : Int := k.wrap (BitVec.ofInt k.bits x &&& BitVec.ofInt k.bits y).toNat
def ior (k : IntKind) (x y : Int) : Int := k.wrap (BitVec.ofInt k.bits x ||| BitVec.ofInt k.bits y).toNat
def ixor (k : IntKind) (x y : Int) : Int := k.wrap (BitVec.ofInt k.bits x ^^^ BitVec.ofInt k.bits y).toNat
def iandn (k : IntKind) (x y : Int) : Int := k.wrap (BitVec.ofInt k.bits x &&& ~~~(BitVec.ofInt k.bits y)).toNat
def ishl (k : IntKind) (x y : Int) : Int := k.wrap (x * 2 ^ (min y.toNat k.bits))
def ishr (k : IntKind) (x y : Int) : Int := x.fdiv (2 ^ (min y.toNat k.bits))

theorem tmod_has {k : IntKind} {x y : Int} (h : k.has x) : k.has (x.tmod y) := by
  rw [has_iff] at *
  have h0 : loB k ≤ 0 ∧ 0 ≤ hiB k := by cases k <;> simp [loB, hiB]
  rcases Int.lt_or_le x 0 with hx | hx
  · have h1 : x.tmod y = -((-x).tmod y) := by rw [Int.neg_tmod, Int.neg_neg]
    have h2 : 0 ≤ (-x).tmod y := Int.tmod_nonneg y (by omega)
    have h3 : (-x).tmod y ≤ -x := by
      obtain ⟨m, hm⟩ := Int.eq_ofNat_of_zero_le (show 0 ≤ -x by omega)
      rw [hm]
      rcases Int.natAbs_eq y with e | e
      · rw [e]; exact Int.ofNat_le.2 (Nat.mod_le m _)
      · rw [e, Int.tmod_neg]; exact Int.ofNat_le.2 (Nat.mod_le m _)
    omega
  · have h2 : 0 ≤ x.tmod y := Int.tmod_nonneg y hx
    have h3 : x.tmod y ≤ x := by
      obtain ⟨m, hm⟩ := Int.eq_ofNat_of_zero_le hx
      rw [hm]
      rcases Int.natAbs_eq y with e | e
      · rw [e]; exact Int.ofNat_le.2 (Nat.mod_le m _)
      · rw [e, Int.tmod_neg]; exact Int.ofNat_le.2 (Nat.mod_le m _)
    omega

theorem ishr_has {k : IntKind} {x y : Int} (h : k.has x) : k.has (ishr k x y) := by
  rw [has_iff] at *
  have h0 : loB k ≤ 0 ∧ 0 ≤ hiB k := by cases k <;> simp [loB, hiB]
  unfold ishr
  generalize min y.toNat k.bits = m
  have hp : (0 : Int) < 2 ^ m := Int.pow_pos (by omega)
  rw [Int.fdiv_eq_ediv_of_nonneg _ (by omega)]
  have h1 : x / 2 ^ m * 2 ^ m ≤ x := Int.ediv_mul_le x (by omega)
  have h2 : x < (x / 2 ^ m + 1) * 2 ^ m := Int.lt_ediv_add_one_mul_self x hp
  rcases Int.lt_or_le x 0 with hx | hx
  · have h3 : x / 2 ^ m < 0 := Int.ediv_neg_of_neg_of_pos hx hp
    have h4 : x ≤ x / 2 ^ m := by
      rcases Int.lt_or_le (x / 2 ^ m) x with h5 | h5
      · have h6 : (x / 2 ^ m + 1) * 2 ^ m ≤ (x / 2 ^ m + 1) * 1 := Int.mul_le_mul_of_nonpos_left (by omega) (by omega)
        omega
      · exact h5
    omega
  · have h3 : 0 ≤ x / 2 ^ m := Int.ediv_nonneg hx (by omega)
    have h4 : x / 2 ^ m ≤ x := Int.ediv_le_self _ hx
    omega

def lift2 {α β : Type} (f : α → α → β) : Option α → Option α → Option β
  | some a, some b => some (f a b)
  | _, _ => none

def unsignedK : IntKind → Bool
  | .u8 | .u16 | .u32 | .u64 => true
  | _ => false

/-- Is it known, or asked, that a number is not below 0? -/
def reqGe0 (k : IntKind) (l : Option Int) (y : Int) : Bool :=
  match unsignedK k, l with
  | true, _ => true
  | false, some m => decide (0 ≤ m)
  | false, none => decide (0 ≤ y)
def reqNe0 (l : Option Int) (y : Int) : Bool :=
  match l with
  | some m => !(m == 0)
  | none => !(y == 0)

def litI (k : IntKind) (l : Option Int) (x : Int) : AV :=
  match l with
  | some m => .int k (some m) m
  | none => .int k none x
def litB (l : Option Bool) (x : Bool) : AV :=
  match l with
  | some m => .bool (some m) m
  | none => .bool none x

theorem relV_litI {M : List Place} {k : IntKind} {l : Option Int} {x : Int} (h : k.has x) (hl : ∀ m, l = some m → x = m) : RelV M (litI k l x) (.int k x) := by
  cases l with
  | none => simp [litI, RelV, RelX, h]
  | some m => have := hl m rfl; subst this; simp [litI, RelV, RelX, h]
theorem relV_litB {M : List Place} {l : Option Bool} {x : Bool} (hl : ∀ m, l = some m → x = m) : RelV M (litB l x) (.bool x) := by
  cases l with
  | none => simp [litB, RelV, RelX]
  | some m => have := hl m rfl; subst this; simp [litB, RelV, RelX]

/-- Two integers of one kind. -/
def abinI (op : BinOp) (k : IntKind) (lx : Option Int) (x : Int) (ly : Option Int) (y : Int) : Option (Bool × AV) :=
  match op with
  | .add => some (true, litI k (lift2 (fun m n => fw k (m + n)) lx ly) (k.wrap (x + y)))
  | .sub => some (true, litI k (lift2 (fun m n => fw k (m - n)) lx ly) (k.wrap (x - y)))
  | .mul => some (true, litI k (lift2 (fun m n => fw k (m * n)) lx ly) (k.wrap (x * y)))
  | .quo => some (reqNe0 ly y, litI k (lift2 (fun m n => fw k (m.tdiv n)) lx ly) (k.wrap (x.tdiv y)))
  | .rem => some (reqNe0 ly y, litI k (lift2 (fun m n => m.tmod n) lx ly) (x.tmod y))
  | .and => some (true, litI k (lift2 (iand k) lx ly) (iand k x y))
  | .or => some (true, litI k (lift2 (ior k) lx ly) (ior k x y))
  | .xor => some (true, litI k (lift2 (ixor k) lx ly) (ixor k x y))
  | .andNot => some (true, litI k (lift2 (iandn k) lx ly) (iandn k x y))
  | .eql => some (true, litB (lift2 (· == ·) lx ly) (x == y))
  | .neq => some (true, litB (lift2 (· != ·) lx ly) (x != y))
  | .lss => some (true, litB (lift2 (fun m n => decide (m < n)) lx ly) (decide (x < y)))
  | .leq => some (true, litB (lift2 (fun m n => decide (m ≤ n)) lx ly) (decide (x ≤ y)))
  | .gtr => some (true, litB (lift2 (fun m n => decide (n < m)) lx ly) (decide (y < x)))
  | .geq => some (true, litB (lift2 (fun m n => decide (n ≤ m)) lx ly) (decide (y ≤ x)))
  | _ => none

theorem lift2_spec {α β : Type} {f : α → α → β} {lx ly : Option α} {z : β} (h : lift2 f lx ly = some z) : ∃ m n, lx = some m ∧ ly = some n ∧ z = f m n := by
  cases lx <;> cases ly <;> simp [lift2] at h
  exact ⟨_, _, rfl, rfl, h.symm⟩

theorem req_ne0 {l : Option Int} {y : Int} (hl : ∀ m, l = some m → y = m) (h : reqNe0 l y = true) : y ≠ 0 := by
  cases l with
  | none => simpa [reqNe0] using h
  | some m => have := hl m rfl; subst this; simpa [reqNe0] using h
theorem req_ge0 {k : IntKind} {l : Option Int} {y : Int} (hk : k.has y) (hl : ∀ m, l = some m → y = m) (h : reqGe0 k l y = true) : 0 ≤ y := by
  rw [has_iff] at hk
  cases hu : unsignedK k
  · cases l with
    | none => simpa [reqGe0, hu] using h
    | some m => have := hl m rfl; subst this; simpa [reqGe0, hu] using h
  · cases k <;> simp [unsignedK, loB] at hu hk <;> exact hk.1

theorem abinI_sound {P : Program} {M : List Place} {ρ : Operand → Value} {o : Oper} {op : BinOp} {t t' : TypeId} {x y : Operand} (ho : o.op = .binOp op t x y t') {k : IntKind} {m n : Int}
    (hx : ρ x = .int k m) (hy : ρ y = .int k n) (hm : k.has m) {lx ly : Option Int} (hlx : ∀ z, lx = some z → m = z) (hly : ∀ z, ly = some z → n = z)
    {req : Bool} {r : AV} (h : abinI op k lx m ly n = some (req, r)) (hreq : req = true) :
    ∃ v, RelV M r v ∧ ∀ w, (execOp ρ o).run P w = .ok (.value v) w := by
  subst hreq
  have hI : ∀ (f : Int → Int → Int) (z : Int), (∀ a b, lx = some a → ly = some b → z = f a b) → ∀ q, lift2 f lx ly = some q → z = q := by
    intro f z hz q hq
    obtain ⟨a, b, ha, hb, e⟩ := lift2_spec hq
    rw [e]; exact hz a b ha hb
  have hB : ∀ (f : Int → Int → Bool) (z : Bool), (∀ a b, lx = some a → ly = some b → z = f a b) → ∀ q, lift2 f lx ly = some q → z = q := by
    intro f z hz q hq
    obtain ⟨a, b, ha, hb, e⟩ := lift2_spec hq
    rw [e]; exact hz a b ha hb
  cases op <;> simp only [abinI, Option.some.injEq, Prod.mk.injEq, reduceCtorEq] at h <;> obtain ⟨h1, rfl⟩ := h
  case quo =>
    have hn := req_ne0 hly h1
    refine ⟨_, relV_litI (wrap_has _ _) (hI _ _ fun a b ha hb => ?_), fun w => ?_⟩
    · rw [fw_eq, hlx a ha, hly b hb]
    · simp [execOp, ho, hx, hy, binOp, eqGuard, Op.intDiv, hn, bind, pure, Sem.bind]
  case rem =>
    have hn := req_ne0 hly h1
    refine ⟨_, relV_litI (tmod_has hm) (hI _ _ fun a b ha hb => ?_), fun w => ?_⟩
    · rw [hlx a ha, hly b hb]
    · simp [execOp, ho, hx, hy, binOp, eqGuard, Op.intDiv, hn, bind, pure, Sem.bind]
  case add | sub | mul =>
    refine ⟨_, relV_litI (wrap_has _ _) (hI _ _ fun a b ha hb => ?_), fun w => ?_⟩
    · rw [fw_eq, hlx a ha, hly b hb]
    · simp [execOp, ho, hx, hy, binOp, eqGuard, Op.intArith, bind, pure, Sem.bind]
  case and | or | xor | andNot =>
    refine ⟨_, relV_litI (wrap_has _ _) (hI _ _ fun a b ha hb => ?_), fun w => ?_⟩
    · rw [hlx a ha, hly b hb]
    · simp [execOp, ho, hx, hy, binOp, eqGuard, Op.intBits, bind, pure, Sem.bind, iand, ior, ixor, iandn]
  case eql | neq | lss | leq | gtr | geq =>
    refine ⟨_, relV_litB (hB _ _ fun a b ha hb => ?_), fun w => ?_⟩
    · rw [hlx a ha, hly b hb]
    · simp [execOp, ho, hx, hy, binOp, eqGuard, Op.intCmp, bind, pure, Sem.bind]

/-- Shifts. -/
def ashift (op : BinOp) (k : IntKind) (lx : Option Int) (x : Int) (k' : IntKind) (ly : Option Int) (y : Int) : Option (Bool × AV) :=
  match op with
  | .shl => some (reqGe0 k' ly y, litI k (lift2 (ishl k) lx ly) (ishl k x y))
  | .shr => some (reqGe0 k' ly y, litI k (lift2 (ishr k) lx ly) (ishr k x y))
  | _ => none

theorem ashift_sound {P : Program} {M : List Place} {ρ : Operand → Value} {o : Oper} {op : BinOp} {t t' : TypeId} {x y : Operand} (ho : o.op = .binOp op t x y t') {k k' : IntKind} {m n : Int}
    (hx : ρ x = .int k m) (hy : ρ y = .int k' n) (hm : k.has m) (hn : k'.has n) {lx ly : Option Int} (hlx : ∀ z, lx = some z → m = z) (hly : ∀ z, ly = some z → n = z)
    {req : Bool} {r : AV} (h : ashift op k lx m k' ly n = some (req, r)) (hreq : req = true) :
    ∃ v, RelV M r v ∧ ∀ w, (execOp ρ o).run P w = .ok (.value v) w := by
  subst hreq
  cases op <;> simp only [ashift, Option.some.injEq, Prod.mk.injEq, reduceCtorEq] at h <;> obtain ⟨h1, rfl⟩ := h
  all_goals
    have h0 := req_ge0 hn hly h1
    have h0' : ¬ n < 0 := by omega
  · refine ⟨_, relV_litI (wrap_has _ _) (fun q hq => ?_), fun w => ?_⟩
    · obtain ⟨a, b, ha, hb, e⟩ := lift2_spec hq
      rw [e, ← hlx a ha, ← hly b hb]
    · simp [execOp, ho, hx, hy, binOp, eqGuard, Op.shift, h0', bind, pure, Sem.bind, ishl]
  · refine ⟨_, relV_litI (ishr_has (y := n) hm) (fun q hq => ?_), fun w => ?_⟩
    · obtain ⟨a, b, ha, hb, e⟩ := lift2_spec hq
      rw [e, ← hlx a ha, ← hly b hb]
    · simp [execOp, ho, hx, hy, binOp, eqGuard, Op.shift, h0', bind, pure, Sem.bind, ishr]

end Go.AE
