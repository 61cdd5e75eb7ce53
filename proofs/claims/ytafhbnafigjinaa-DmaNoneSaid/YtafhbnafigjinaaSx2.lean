/-
  Operations that only compute or read: their abstract values, and that the model's own run agrees.
-/
import Derived.Test.YtafhbnafigjinaaSx1
set_option linter.unusedSimpArgs false
set_option linter.unusedVariables false
namespace Go.Sx

theorem V_int {β : Places} {k : IntKind} {n : Int} (h : has k n) : V β (.int k n) (.int k n) := by simp only [V]; exact ⟨trivial, h⟩
theorem V_bool {β : Places} {b : Bool} : V β (.bool b) (.bool b) := by simp only [V]

theorem run_bind {α β : Type} (P : Program) (s : Sem α) (f : α → Sem β) (w : World) :
    (s >>= f).run P w = match s.run P w with | .ok a w' => (f a).run P w' | .halt h w' => .halt h w' := by
  show (Sem.bind s f).run P w = _
  induction s generalizing w with
  | pure a => simp [Sem.bind, Sem.run]
  | load m a k ih =>
    simp only [Sem.bind, Sem.run]
    split
    · exact ih _ _
    · split
      · exact ih _ _
      · rfl
  | store m a v k ih =>
    cases v <;> simp only [Sem.bind, Sem.run] <;> first
      | rfl
      | (split
         · split
           · rfl
           · exact ih _
         · split
           · exact ih _
           · rfl)
  | new o k ih => simp only [Sem.bind, Sem.run]; exact ih _ _
  | shape r k ih => simp only [Sem.bind, Sem.run]; exact ih _ _
  | freeze a n k ih => simp only [Sem.bind, Sem.run]; exact ih _
  | frozen a k ih => simp only [Sem.bind, Sem.run]; exact ih _ _
  | getObj r k ih =>
    simp only [Sem.bind, Sem.run]
    split
    · rfl
    · exact ih _ _
    · rfl
  | setObj r o k ih =>
    simp only [Sem.bind, Sem.run]
    split
    · rfl
    · exact ih _
    · rfl
  | choose q k ih =>
    simp only [Sem.bind, Sem.run]
    split
    · exact ih _ _
    · exact ih _ _
  | sys c k ih => simp only [Sem.bind, Sem.run]; exact ih _ _
  | program k ih => simp only [Sem.bind, Sem.run]; exact ih _ _
  | mark m k ih => simp only [Sem.bind, Sem.run]; exact ih _
  | halt h => simp [Sem.bind, Sem.run]

theorem run_pure {α : Type} (P : Program) (a : α) (w : World) : (pure a : Sem α).run P w = .ok a w := rfl
theorem run_underlying {P : Program} {t : TypeId} {d : TypeDesc} (h : P.underlying t = some d) (w : World) : (underlying t).run P w = .ok d w := by
  simp [underlying, run_bind, program, Sem.run, h, run_pure]
theorem run_sizeOf {P : Program} {t : TypeId} {i : TypeInfo} (h : P.info? t = some i) (w : World) : (sizeOf t).run P w = .ok i.size w := by
  simp [sizeOf, typeInfo, run_bind, program, Sem.run, h, run_pure]
def isAggD : TypeDesc → Bool
  | .struct _ | .array _ _ => true
  | _ => false
theorem run_isAgg {P : Program} {t : TypeId} {d : TypeDesc} (h : P.underlying t = some d) (w : World) :
    (isAgg t).run P w = .ok (isAggD d) w := by
  simp only [isAgg, run_bind, run_underlying h]
  cases d <;> rfl

/-- The tree tells what the operation yields. -/
def Ok (P : Program) (w : World) (β : Places) (t : Tree AV) (s : Sem Value) : Prop :=
  ∀ K : AV → Prop, t.sem K → ∃ a v, K a ∧ s.run P w = .ok v w ∧ V β a v
section
variable {P : Program} {w : World} {β : Places} {s : Sem Value}
theorem Ok.leaf {a : AV} {v : Value} (h : s.run P w = .ok v w) (hv : V β a v) : Ok P w β (.leaf a) s := fun _ hk => ⟨a, v, hk, h, hv⟩
theorem Ok.stop : Ok P w β .stop s := fun _ hk => hk.elim
theorem Ok.req {p : Prop} {t : Tree AV} (h : p → Ok P w β t s) : Ok P w β (.req p t) s := fun K hk => h hk.1 K hk.2
theorem Ok.ask {r : Rq} {t : Tree AV} (h : r.holds → Ok P w β t s) : Ok P w β (.ask r t) s := fun K hk => h hk.1 K hk.2
theorem Ok.ite {b : Bool} {t e : Tree AV} (h1 : b = true → Ok P w β t s) (h2 : b = false → Ok P w β e s) : Ok P w β (.ite b t e) s := by
  intro K hk
  cases b
  · exact h2 rfl K (hk.2 rfl)
  · exact h1 rfl K (hk.1 rfl)
theorem Ok.ex {ι : Type} {p : ι → Prop} {f : ι → Tree AV} (h : ∀ x, p x → Ok P w β (f x) s) : Ok P w β (.ex p f) s := by
  rintro K ⟨x, hx, hk⟩
  exact h x hx K hk
end

/-- The value where its guard holds. -/
def force : AV → Tree AV
  | .opt g v => .ask (.n g) (force v)
  | v => .leaf v
theorem force_ang : ∀ a, (force a).Ang
  | .opt g v => by simp only [force, Tree.Ang]; exact force_ang v
  | .junk | .raw _ | .int .. | .bool _ | .ptr .. | .slice .. | .gsl .. | .agg _ | .tup _ | .fn .. | .iface .. => by simp [force, Tree.Ang]
theorem force_sem {β : Places} {K : AV → Prop} : ∀ {a : AV} {v : Value}, V β a v → (force a).sem K → ∃ a', K a' ∧ V β a' v
  | .opt g x, v, hv, hk => by
    simp only [force, Tree.sem] at hk
    simp only [V] at hv
    exact force_sem (hv.1 hk.1) hk.2
  | .junk, _, hv, hk | .raw _, _, hv, hk | .int .., _, hv, hk | .bool _, _, hv, hk | .ptr .., _, hv, hk | .slice .., _, hv, hk | .gsl .., _, hv, hk
  | .agg _, _, hv, hk | .tup _, _, hv, hk | .fn .., _, hv, hk | .iface .., _, hv, hk => ⟨_, hk, hv⟩

/-! ### Arithmetic -/
def ishl (k : IntKind) (a b : Int) : Int := wr k (a * 2 ^ (min b.toNat k.bits))
def ishr (k : IntKind) (a b : Int) : Int := a.fdiv (2 ^ (min b.toNat k.bits))
def iand (k : IntKind) (a b : Int) : Int := wr k ((BitVec.ofInt k.bits a &&& BitVec.ofInt k.bits b).toNat : Int)
def ior (k : IntKind) (a b : Int) : Int := wr k ((BitVec.ofInt k.bits a ||| BitVec.ofInt k.bits b).toNat : Int)
def ixor (k : IntKind) (a b : Int) : Int := wr k ((BitVec.ofInt k.bits a ^^^ BitVec.ofInt k.bits b).toNat : Int)
def iandn (k : IntKind) (a b : Int) : Int := wr k ((BitVec.ofInt k.bits a &&& ~~~ BitVec.ofInt k.bits b).toNat : Int)

theorem fdiv_has {k : IntKind} {a : Int} (n : Nat) (h : has k a) : has k (a.fdiv (2 ^ n)) := by
  have hp : (0 : Int) < 2 ^ n := Int.pow_pos (by decide)
  rw [Int.fdiv_eq_ediv_of_nonneg _ (Int.le_of_lt hp)]
  rcases Int.lt_or_le a 0 with ha | ha
  · have h1 : a ≤ a / 2 ^ n := by
      have := Int.ediv_mul_le a (Int.ne_of_gt hp)
      have h2 : a / 2 ^ n < 0 := Int.ediv_neg_of_neg_of_pos ha hp
      have h3 : a / 2 ^ n * 2 ^ n ≤ a / 2 ^ n := by
        have : a / 2 ^ n * 2 ^ n ≤ a / 2 ^ n * 1 := Int.mul_le_mul_of_nonpos_left (by omega) (by omega)
        omega
      have h4 : a < (a / 2 ^ n + 1) * 2 ^ n := Int.lt_ediv_add_one_mul_self a hp
      rcases Int.lt_or_le (a / 2 ^ n) a with h5 | h5
      · exfalso
        have h6 : (a / 2 ^ n + 1) * 2 ^ n ≤ (a / 2 ^ n + 1) * 1 := Int.mul_le_mul_of_nonpos_left (by omega) (by omega)
        omega
      · exact h5
    have h2 : a / 2 ^ n < 0 := Int.ediv_neg_of_neg_of_pos ha hp
    cases k <;> simp only [has, lo, hi] at * <;> omega
  · have h1 : a / 2 ^ n ≤ a := Int.ediv_le_self _ ha
    have h2 : 0 ≤ a / 2 ^ n := Int.ediv_nonneg ha (Int.le_of_lt hp)
    cases k <;> simp only [has, lo, hi] at * <;> omega
theorem tmod_has {k : IntKind} {a b : Int} (h : has k a) : has k (a.tmod b) := by
  rcases Int.lt_or_le a 0 with ha | ha
  · have h1 : (-a).tmod b = -(a.tmod b) := Int.neg_tmod ..
    have h2 : 0 ≤ (-a).tmod b := Int.tmod_nonneg _ (by omega)
    have h3 : (-a).tmod b ≤ -a := by
      have := Int.tmod_add_mul_tdiv (-a) b
      have h5 : 0 ≤ b * (-a).tdiv b := by
        rcases Int.lt_or_le b 0 with hb | hb
        · have : (-a).tdiv b ≤ 0 := Int.tdiv_nonpos_of_nonneg_of_nonpos (by omega) (by omega)
          exact Int.mul_nonneg_of_nonpos_of_nonpos (by omega) this
        · exact Int.mul_nonneg hb (Int.tdiv_nonneg (by omega) hb)
      omega
    cases k <;> simp only [has, lo, hi] at * <;> omega
  · have h2 : 0 ≤ a.tmod b := Int.tmod_nonneg _ ha
    have h3 : a.tmod b ≤ a := by
      have := Int.tmod_add_mul_tdiv a b
      have h5 : 0 ≤ b * a.tdiv b := by
        rcases Int.lt_or_le b 0 with hb | hb
        · have : a.tdiv b ≤ 0 := Int.tdiv_nonpos_of_nonneg_of_nonpos ha (by omega)
          exact Int.mul_nonneg_of_nonpos_of_nonpos (by omega) this
        · exact Int.mul_nonneg hb (Int.tdiv_nonneg ha hb)
      omega
    cases k <;> simp only [has, lo, hi] at * <;> omega
theorem tdiv_has {k : IntKind} {a b : Int} (h : has k a) (hb : 0 < b) : has k (a.tdiv b) := by
  rcases Int.lt_or_le a 0 with ha | ha
  · have e : (-a).tdiv b = -(a.tdiv b) := Int.neg_tdiv ..
    have h1 : 0 ≤ (-a).tdiv b := Int.tdiv_nonneg (by omega) (by omega)
    have h2 : (-a).tdiv b ≤ -a := by
      rw [Int.tdiv_eq_ediv_of_nonneg (by omega)]; exact Int.ediv_le_self _ (by omega)
    cases k <;> simp only [has, lo, hi] at * <;> omega
  · have h1 : 0 ≤ a.tdiv b := Int.tdiv_nonneg ha (by omega)
    have h2 : a.tdiv b ≤ a := by
      rw [Int.tdiv_eq_ediv_of_nonneg ha]; exact Int.ediv_le_self _ ha
    cases k <;> simp only [has, lo, hi] at * <;> omega

/-- A number that must fit. -/
def fit (k : IntKind) (n : Int) : Tree AV :=
  match k with
  | .i64 => .ask (.d (has .i64 n)) (.leaf (.int .i64 n))
  | k => .leaf (.int k (wr k n))
def unsigned : IntKind → Bool
  | .u8 | .u16 | .u32 | .u64 => true
  | _ => false
/-- 'yc': the second operand is a constant. -/
def aint (op : BinOp) (k : IntKind) (a b : Int) (yc : Bool) : Tree AV :=
  match op with
  | .add => fit k (a + b)
  | .sub => fit k (a - b)
  | .mul => fit k (a * b)
  | .quo =>
    if yc then
      if 0 < b then .leaf (if unsigned k then .int k (a / b) else .int k (a.tdiv b)) else .stop
    else .ask (.d (0 < b)) (.leaf (if unsigned k then .int k (a / b) else .int k (a.tdiv b)))
  | .rem =>
    if yc then
      if 0 < b then .leaf (if unsigned k then .int k (a % b) else .int k (a.tmod b)) else .stop
    else .ask (.d (0 < b)) (.leaf (if unsigned k then .int k (a % b) else .int k (a.tmod b)))
  | .and => .leaf (.int k (iand k a b))
  | .or => .leaf (.int k (ior k a b))
  | .xor => .leaf (.int k (ixor k a b))
  | .andNot => .leaf (.int k (iandn k a b))
  | .eql => .leaf (.bool (a == b))
  | .neq => .leaf (.bool (a != b))
  | .lss => .leaf (.bool (decide (a < b)))
  | .leq => .leaf (.bool (decide (a ≤ b)))
  | .gtr => .leaf (.bool (decide (a > b)))
  | .geq => .leaf (.bool (decide (a ≥ b)))
  | .shl => if yc then (if 0 ≤ b then .leaf (.int k (ishl k a b)) else .stop) else .ask (.d (0 ≤ b)) (.leaf (.int k (ishl k a b)))
  | .shr => if yc then (if 0 ≤ b then .leaf (.int k (ishr k a b)) else .stop) else .ask (.d (0 ≤ b)) (.leaf (.int k (ishr k a b)))

def isShift : BinOp → Bool
  | .shl | .shr => true
  | _ => false

section
variable {P : Program} {w : World} {β : Places}
theorem fit_ok {k : IntKind} {n : Int} {s : Sem Value} (h : s.run P w = .ok (.int k (k.wrap n)) w) : Ok P w β (fit k n) s := by
  rw [wrap_eq] at h
  cases k <;> simp only [fit] <;> first
    | exact .leaf h (V_int (wr_has _ _))
    | exact .ask fun hn : has .i64 n => .leaf (by rw [h, wr_of_has hn]) (V_int hn)
theorem shift_ok {op : BinOp} (hop : isShift op = true) {k k' : IntKind} {a b : Int} (ha : has k a) (yc : Bool) (xT : TypeId) :
    Ok P w β (aint op k a b yc) (binOp op xT (.int k a) (.int k' b)) := by
  have e1 : ∀ b : Int, 0 ≤ b → (Op.shift .shl k a k' b).run P w = .ok (.int k (ishl k a b)) w := fun b hb => by
    simp only [Op.shift]; rw [if_neg (by omega), run_pure, wrap_eq]; rfl
  have e2 : ∀ b : Int, 0 ≤ b → (Op.shift .shr k a k' b).run P w = .ok (.int k (ishr k a b)) w := fun b hb => by
    simp only [Op.shift]; rw [if_neg (by omega), run_pure]; rfl
  cases op <;> simp only [isShift, Bool.false_eq_true] at hop
  · have h1 : ∀ hb : 0 ≤ b, Ok P w β (.leaf (.int k (ishl k a b))) (binOp .shl xT (.int k a) (.int k' b)) := fun hb =>
      .leaf (e1 b hb) (V_int (wr_has _ _))
    simp only [aint]
    split
    · split
      · exact h1 ‹_›
      · exact .stop
    · exact .ask h1
  · have h1 : ∀ hb : 0 ≤ b, Ok P w β (.leaf (.int k (ishr k a b))) (binOp .shr xT (.int k a) (.int k' b)) := fun hb =>
      .leaf (e2 b hb) (V_int (fdiv_has _ ha))
    simp only [aint]
    split
    · split
      · exact h1 ‹_›
      · exact .stop
    · exact .ask h1
theorem unsigned_nonneg {k : IntKind} {a : Int} (hu : unsigned k = true) (h : has k a) : 0 ≤ a := by
  cases k <;> simp only [unsigned, Bool.false_eq_true] at hu <;> simp only [has, lo] at h <;> exact h.1
theorem aint_ok {op : BinOp} (hop : isShift op = false) {k : IntKind} {a b : Int} (ha : has k a) (hb : has k b) (yc : Bool) (xT : TypeId) :
    Ok P w β (aint op k a b yc) (binOp op xT (.int k a) (.int k b)) := by
  cases op <;> simp only [isShift, Bool.true_eq_false] at hop
  case add => exact fit_ok (by simp [binOp, Op.intArith, run_pure])
  case sub => exact fit_ok (by simp [binOp, Op.intArith, run_pure])
  case mul => exact fit_ok (by simp [binOp, Op.intArith, run_pure])
  case quo =>
    have h1 : ∀ h : 0 < b, Ok P w β (.leaf (if unsigned k then .int k (a / b) else .int k (a.tdiv b))) (binOp .quo xT (.int k a) (.int k b)) := fun h => by
      have e : (if unsigned k then AV.int k (a / b) else .int k (a.tdiv b)) = .int k (a.tdiv b) := by
        split
        · rename_i hu; rw [Int.tdiv_eq_ediv_of_nonneg (unsigned_nonneg hu ha)]
        · rfl
      rw [e]
      refine .leaf ?_ (V_int (tdiv_has ha h))
      have : b ≠ 0 := by omega
      simp [binOp, Op.intDiv, run_pure, this, wrap_eq, wr_of_has (tdiv_has ha h)]
    simp only [aint]
    split
    · split
      · exact h1 ‹_›
      · exact .stop
    · exact .ask h1
  case rem =>
    have h1 : ∀ h : 0 < b, Ok P w β (.leaf (if unsigned k then .int k (a % b) else .int k (a.tmod b))) (binOp .rem xT (.int k a) (.int k b)) := fun h => by
      have e : (if unsigned k then AV.int k (a % b) else .int k (a.tmod b)) = .int k (a.tmod b) := by
        split
        · rename_i hu; rw [Int.tmod_eq_emod_of_nonneg (unsigned_nonneg hu ha)]
        · rfl
      rw [e]
      refine .leaf ?_ (V_int (tmod_has ha))
      have : b ≠ 0 := by omega
      simp [binOp, Op.intDiv, run_pure, this]
    simp only [aint]
    split
    · split
      · exact h1 ‹_›
      · exact .stop
    · exact .ask h1
  case and => exact .leaf (v := .int k (iand k a b)) (by rw [iand, ← wrap_eq]; simp only [binOp, Op.intBits, ne_eq, not_true, if_false]; rfl) (V_int (wr_has _ _))
  case or => exact .leaf (v := .int k (ior k a b)) (by rw [ior, ← wrap_eq]; simp only [binOp, Op.intBits, ne_eq, not_true, if_false]; rfl) (V_int (wr_has _ _))
  case xor => exact .leaf (v := .int k (ixor k a b)) (by rw [ixor, ← wrap_eq]; simp only [binOp, Op.intBits, ne_eq, not_true, if_false]; rfl) (V_int (wr_has _ _))
  case andNot => exact .leaf (v := .int k (iandn k a b)) (by rw [iandn, ← wrap_eq]; simp only [binOp, Op.intBits, ne_eq, not_true, if_false]; rfl) (V_int (wr_has _ _))
  all_goals exact .leaf (by simp only [binOp, Op.intCmp, ne_eq, not_true, if_false]; rfl) V_bool
end
end Go.Sx
