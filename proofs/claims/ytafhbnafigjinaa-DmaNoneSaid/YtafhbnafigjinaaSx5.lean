/-
  All operations that only compute or read, under one name ('opVal'), and that the model's own run agrees ('opVal_ok').
-/
import Derived.Test.YtafhbnafigjinaaSx4
import Derived.Laws.StructEq
set_option linter.unusedSimpArgs false
set_option linter.unusedVariables false
namespace Go.Sx

/-! ### Slices of slices -/
/-- A bound of a slice expression. -/
def boundT (x : Option AV) (dflt top : Nat) (k : Nat → Tree AV) : Tree AV :=
  match x with
  | none => k dflt
  | some (.int _ i) => .ask (.d (0 ≤ i ∧ i ≤ (top : Int))) (k i.toNat)
  | _ => .stop
def sliceT (P : Program) (T : TypeId) (x : AV) (lo hi : Option AV) : Tree AV :=
  match P.underlying T with
  | some (.slice e) =>
    match P.info? e with
    | some ei =>
      match x with
      | .slice id off len cap => boundT hi len cap fun h => boundT lo 0 h fun l => .leaf (.slice id (if cap = l then off else off + l * ei.size) (h - l) (cap - l))
      | .raw (.slice (some ⟨b, off, none⟩) len cap) => boundT hi len cap fun h => boundT lo 0 h fun l => .leaf (.raw (.slice (some ⟨b, if cap = l then off else off + l * ei.size, none⟩) (h - l) (cap - l)))
      | .gsl id len =>
        match lo with
        | none => boundT hi len len fun h => .ask (.d (h ≤ len)) (.leaf (.gsl id h))
        | _ => .stop
      | _ => .stop
    | none => .stop
  | _ => .stop
theorem boundT_ang {x : Option AV} {dflt top : Nat} {k : Nat → Tree AV} (h : ∀ n, (k n).Ang) : (boundT x dflt top k).Ang := by
  unfold boundT
  split <;> first | exact h _ | trivial
theorem sliceT_ang {P : Program} {T : TypeId} {x : AV} {lo hi : Option AV} : (sliceT P T x lo hi).Ang := by
  unfold sliceT
  repeat' split
  all_goals first | trivial | exact boundT_ang fun _ => trivial | exact boundT_ang fun _ => boundT_ang fun _ => trivial
/-- The two options go together. -/
def VO (β : Places) : Option AV → Option Value → Prop
  | none, v => v = none
  | some a, v => ∃ u, v = some u ∧ V β a u
theorem sliceT_ok {P : Program} {w : World} {β : Places} {T : TypeId} {x : AV} {v : Value} {lo hi : Option AV} {lov hiv : Option Value} (hv : V β x v) (hlo : VO β lo lov) (hhi : VO β hi hiv) :
    Ok P w β (sliceT P T x lo hi) (Instr.sliceAt T v lov hiv none) := by
  unfold sliceT
  split
  · rename_i e hT
    split
    · rename_i ei hei
      have run0 : ∀ (n off len cap h l : Nat), (Instr.sliceBounds true len cap lov hiv none).run P w = .ok (l, h, cap) w →
          (Instr.sliceAt T (.slice (some ⟨n, off, none⟩) len cap) lov hiv none).run P w = .ok (.slice (some ⟨n, if cap = l then off else off + l * ei.size, none⟩) (h - l) (cap - l)) w := fun n off len cap h l hb => by
        simp only [Instr.sliceAt, run_bind, run_underlying hT, Instr.slice, hb, run_sizeOf hei, run_pure]
        split <;> simp [addr_add]
      have bhi : ∀ (len cap : Nat) (k : Nat → Tree AV) (K : AV → Prop), (boundT hi len cap k).sem K → ∃ h : Nat, (k h).sem K ∧
          (match hiv with | some v => (Instr.sliceBound v cap .sliceAcap).run P w | none => .ok len w) = .ok h w := fun len cap k K hk => by
        unfold boundT at hk
        split at hk
        · simp only [VO] at hhi; subst hhi; exact ⟨len, hk, rfl⟩
        · rename_i kk i
          simp only [VO, V] at hhi
          obtain ⟨u, rfl, rfl, _⟩ := hhi
          refine ⟨i.toNat, hk.2, ?_⟩
          simp [Instr.sliceBound, run_bind, asIntOf, run_pure, hk.1.1, hk.1.2]
        · exact hk.elim
      have blo : ∀ (h : Nat) (k : Nat → Tree AV) (K : AV → Prop), (boundT lo 0 h k).sem K → ∃ l : Nat, (k l).sem K ∧
          (match lov with | some v => (Instr.sliceBound v h .sliceB).run P w | none => .ok 0 w) = .ok l w := fun h k K hk => by
        unfold boundT at hk
        split at hk
        · simp only [VO] at hlo; subst hlo; exact ⟨0, hk, rfl⟩
        · rename_i kk i
          simp only [VO, V] at hlo
          obtain ⟨u, rfl, rfl, _⟩ := hlo
          refine ⟨i.toNat, hk.2, ?_⟩
          simp [Instr.sliceBound, run_bind, asIntOf, run_pure, hk.1.1, hk.1.2]
        · exact hk.elim
      have both : ∀ (len cap h l : Nat), (match hiv with | some v => (Instr.sliceBound v cap .sliceAcap).run P w | none => .ok len w) = .ok h w →
          (match lov with | some v => (Instr.sliceBound v h .sliceB).run P w | none => .ok 0 w) = .ok l w →
          (Instr.sliceBounds true len cap lov hiv none).run P w = .ok (l, h, cap) w := fun len cap h l h1 h2 => by
        simp only [Instr.sliceBounds, run_bind, run_pure]
        cases hiv with
        | none =>
          simp only [Result.ok.injEq, and_true] at h1
          subst h1
          simp only [run_pure]
          cases lov with
          | none => simp only [Result.ok.injEq, and_true] at h2; subst h2; simp [run_pure]
          | some v => simp only at h2; simp [h2, run_pure]
        | some u =>
          simp only at h1
          cases lov with
          | none => simp only [Result.ok.injEq, and_true] at h2; subst h2; simp [h1, run_pure, Result.andThen]
          | some v => simp only at h2; simp [h1, h2, run_pure, Result.andThen]
      split
      · rename_i id off len cap
        simp only [V] at hv
        obtain ⟨n, c, hβ, rfl⟩ := hv
        intro K hk
        obtain ⟨h, hk, h1⟩ := bhi _ _ _ _ hk
        obtain ⟨l, hk, h2⟩ := blo _ _ _ hk
        exact ⟨_, _, hk, run0 n off len cap h l (both len cap h l h1 h2), by simp only [V]; exact ⟨n, c, hβ, rfl⟩⟩
      · rename_i b off len cap
        simp only [V] at hv
        subst hv
        intro K hk
        obtain ⟨h, hk, h1⟩ := bhi _ _ _ _ hk
        obtain ⟨l, hk, h2⟩ := blo _ _ _ hk
        exact ⟨_, _, hk, run0 b off len cap h l (both len cap h l h1 h2), by simp [V]⟩
      · rename_i id len
        simp only [V] at hv
        obtain ⟨n, c, hβ, rfl, hlc⟩ := hv
        split
        · intro K hk
          simp only [VO] at hlo
          subst hlo
          have hk' := hk
          unfold boundT at hk
          split at hk
          · simp only [VO] at hhi
            subst hhi
            have := run0 n 0 len c len 0 (both len c len 0 rfl rfl)
            refine ⟨_, _, hk.2, this, ?_⟩
            simp only [V]
            exact ⟨n, c, hβ, by simp, hlc⟩
          · rename_i kk i
            simp only [VO, V] at hhi
            obtain ⟨u, rfl, rfl, _⟩ := hhi
            obtain ⟨h1, h2, h3⟩ := hk
            replace h1 : 0 ≤ i ∧ i ≤ _ := h1
            replace h2 : i.toNat ≤ len := h2
            have hb : (Instr.sliceBound (.int kk i) c .sliceAcap).run P w = .ok i.toNat w := by
              have : i ≤ (c : Int) := by omega
              simp [Instr.sliceBound, run_bind, asIntOf, run_pure, h1.1, this]
            have := run0 n 0 len c i.toNat 0 (both len c i.toNat 0 hb rfl)
            refine ⟨_, _, h3, this, ?_⟩
            simp only [V]
            exact ⟨n, c, hβ, by simp, by omega⟩
          · exact hk.elim
        · exact .stop
      · exact .stop
    · exact .stop
  · exact .stop

/-! ### Interfaces, conversions, tests -/
def typeAssertT (P : Program) (x : AV) (asserted : TypeId) (ok : Bool) : Tree AV :=
  match P.underlying asserted with
  | some (.interface _) => .stop
  | some _ =>
    match x with
    | .iface t a => if t = asserted then .leaf (if ok then .tup [a, .bool true] else a) else .stop
    | _ => .stop
  | none => .stop
theorem typeAssertT_ang {P : Program} {x : AV} {t : TypeId} {ok : Bool} : (typeAssertT P x t ok).Ang := by
  unfold typeAssertT
  repeat' split
  all_goals trivial
theorem typeAssertT_ok {P : Program} {w : World} {β : Places} {x : AV} {v : Value} {xT t : TypeId} {ok : Bool} (hv : V β x v) : Ok P w β (typeAssertT P x t ok) (Instr.typeAssert v xT t ok) := by
  unfold typeAssertT
  split
  · exact .stop
  · rename_i d hd ht
    split
    · rename_i t' a
      split
      · rename_i e
        subst e
        simp only [V] at hv
        obtain ⟨u, rfl, hu⟩ := hv
        refine .leaf (v := if ok then .tuple #[u, .bool true] else u) ?_ ?_
        · simp only [Instr.typeAssert, run_bind, run_underlying ht]
          cases d <;> first | exact absurd rfl (hd _) | (simp [run_pure])
        · cases ok
          · simpa using hu
          · simp only [if_true, V, VL]; exact ⟨[u, .bool true], rfl, u, _, rfl, hu, _, _, rfl, rfl, rfl⟩
      · exact .stop
    · exact .stop
  · exact .stop
def within (k k' : IntKind) : Bool := decide (lo k' ≤ lo k) && decide (hi k ≤ hi k')
def convertT (P : Program) (src dst : TypeId) (x : AV) : Tree AV :=
  match P.underlying src, P.underlying dst with
  | some _, some (.int k) =>
    match x with
    | .int k' n => .leaf (if within k' k then .int k n else .int k (wr k n))
    | _ => .stop
  | _, _ => .stop
theorem convertT_ang {P : Program} {x : AV} {t s : TypeId} : (convertT P s t x).Ang := by
  unfold convertT
  repeat' split
  all_goals trivial
theorem convertT_ok {P : Program} {w : World} {β : Places} {x : AV} {v : Value} {s t : TypeId} (hv : V β x v) : Ok P w β (convertT P s t x) (convert s t v) := by
  unfold convertT
  split
  · rename_i d k hs ht
    split
    · rename_i k' n
      simp only [V] at hv
      obtain ⟨rfl, hn⟩ := hv
      have e : (if within k' k then AV.int k n else .int k (wr k n)) = .int k (wr k n) := by
        split
        · rename_i h
          simp only [within, Bool.and_eq_true, decide_eq_true_eq] at h
          rw [wr_of_has]
          exact ⟨by have := hn.1; omega, by have := hn.2; omega⟩
        · rfl
      rw [e]
      refine .leaf ?_ (V_int (wr_has _ _))
      simp only [convert, run_bind, run_underlying hs, run_underlying ht]
      cases d <;> simp [Conv.intToInt, run_pure, wrap_eq]
    · exact .stop
  · exact .stop
def unT (op : UnOp) (x : AV) : Tree AV :=
  match op, x with
  | .not, .bool b => .leaf (.bool !b)
  | .neg, .int k n => fit k (0 - n)
  | .xor, .int k n => .leaf (if k.signed then .int k (ixor k (-1) n) else .int k (ixor k (hi k) n))
  | _, _ => .stop
theorem fit_ang {k : IntKind} {n : Int} : (fit k n).Ang := by cases k <;> trivial
theorem unT_ang {op : UnOp} {x : AV} : (unT op x).Ang := by
  unfold unT
  split <;> first | trivial | exact fit_ang
theorem unT_ok {P : Program} {w : World} {β : Places} {op : UnOp} {x : AV} {v : Value} (hv : V β x v) : Ok P w β (unT op x) (Op.unary op v) := by
  unfold unT
  split
  · simp only [V] at hv; subst hv; exact .leaf rfl V_bool
  · simp only [V] at hv; obtain ⟨rfl, hn⟩ := hv; exact fit_ok rfl
  · rename_i k n
    simp only [V] at hv; obtain ⟨rfl, hn⟩ := hv
    have e : (if k.signed then AV.int k (ixor k (-1) n) else .int k (ixor k (hi k) n)) = .int k (ixor k (if k.signed then -1 else k.max) n) := by
      cases k <;> rfl
    rw [e]
    exact .leaf (v := .int k (ixor k (if k.signed then -1 else k.max) n)) (by rw [ixor, ← wrap_eq]; rfl) (V_int (wr_has _ _))
  · exact .stop
def nilT (P : Program) (x : AV) : Tree AV :=
  match x with
  | .ptr id off => .leaf (.ptr id off)
  | .raw (.pointer (some a)) => .leaf (.raw (.pointer (some a)))
  | .fn (.func f) x y => .leaf (.fn (.func f) x y)
  | .iface t v => .leaf (.iface t v)
  | .fn (.method name) (.iface t v :: xs) ys => match P.info? t with
    | some i => match i.methods.find? (·.name == name) with
      | some m => match m.path.toList, m.func with
        | [], some (_, true) => .leaf (.fn (.method name) (.iface t v :: xs) ys)
        | _, _ => .stop
      | none => .stop
    | none => .stop
  | _ => .stop
theorem nilT_ang {P : Program} {x : AV} : (nilT P x).Ang := by
  unfold nilT
  repeat' split
  all_goals trivial

/-! ### Equality of structs and arrays, cell by cell -/
def partA (P : Program) (T : TypeId) (cs : List AV) (off : Nat) : Option AV :=
  match P.info? T, P.underlying T with
  | some i, some d =>
    if isAggD d then (if off + i.size ≤ cs.length then some (.agg ((cs.drop off).take i.size)) else none) else cs[off]?
  | _, _ => none
theorem partA_ok {P : Program} {w : World} {β : Places} {T : TypeId} {cs : List AV} {vs : List Value} {off : Nat} {a : AV} (h : VL β cs vs) (ha : partA P T cs off = some a) :
    ∃ v, (part T vs.toArray off).run P w = .ok v w ∧ V β a v := by
  unfold partA at ha
  split at ha
  · rename_i i d hi hd
    split at ha
    · rename_i hagg
      split at ha
      · obtain rfl := by simpa using ha
        refine ⟨.agg ((vs.drop off).take i.size).toArray, ?_, by simp only [V]; exact ⟨_, rfl, (h.drop off).take _⟩⟩
        simp only [part, run_bind, run_isAgg hd, hagg, if_true, run_sizeOf hi, run_pure, toList_take]
      · simp at ha
    · rename_i hagg
      obtain ⟨v, hv, hV⟩ := h.get off a ha
      refine ⟨v, ?_, hV⟩
      simp only [part, run_bind, run_isAgg hd, hagg, Bool.false_eq_true, if_false]
      simp [hv, run_pure]
  · simp at ha
def eqFs (P : Program) (rec : TypeId → AV → AV → Option Bool) (xs ys : List AV) : List Field → Option Bool
  | [] => some true
  | f :: fs =>
    match partA P f.type xs f.offset, partA P f.type ys f.offset with
    | some a, some b =>
      match rec f.type a b with
      | some r => match fs with
        | [] => some r
        | f' :: fs' => match eqFs P rec xs ys (f' :: fs') with
          | some s => some (r && s)
          | none => none
      | none => none
    | _, _ => none
/-- Struct types of scalars (and of such structs): which types are compared on the way. -/
def eqA (P : Program) : Nat → TypeId → AV → AV → Option Bool
  | 0, _, _, _ => none
  | d + 1, t, x, y =>
    match P.underlying t with
    | some .bool => match x, y with
      | .bool a, .bool b => some (a == b)
      | _, _ => none
    | some (.int _) => match x, y with
      | .int k a, .int k' b => if k = k' then some (a == b) else none
      | _, _ => none
    | some (.struct fs) => match x, y with
      | .agg xs, .agg ys => eqFs P (eqA P d) xs ys fs.toList
      | _, _ => none
    | _ => none
/-- What must hold of a type so that its values are compared plainly. -/
def eqFine (P : Program) : Nat → TypeId → Prop
  | 0, _ => True
  | d + 1, t => match P.underlying t with
    | some (.struct fs) => P.stoodInHeld t = false ∧ ∀ f ∈ fs.toList, f.name ≠ "_" ∧ eqFine P d f.type
    | _ => True
/-- Values of a type may be compared plainly. -/
structure CanEq (P : Program) (t : TypeId) : Prop where
  fine : eqFine P 6 t
  guard : P.eqGuardType P.depth t = false
def eqFineB (P : Program) : Nat → TypeId → Bool
  | 0, _ => true
  | d + 1, t => match P.underlying t with
    | some (.struct fs) => !P.stoodInHeld t && fs.toList.all fun f => f.name != "_" && eqFineB P d f.type
    | _ => true
theorem eqFine_of {P : Program} : ∀ {d : Nat} {t : TypeId}, eqFineB P d t = true → eqFine P d t
  | 0, _, _ => trivial
  | d + 1, t, h => by
    unfold eqFineB at h
    unfold eqFine
    split
    · rename_i fs hu
      rw [hu] at h
      simp only [Bool.and_eq_true, Bool.not_eq_true', List.all_eq_true, bne_iff_ne] at h
      exact ⟨h.1, fun f hf => ⟨(h.2 f hf).1, eqFine_of (h.2 f hf).2⟩⟩
    · trivial
def canEqB (P : Program) (t : TypeId) : Bool := eqFineB P 6 t && !P.eqGuardType P.depth t
theorem canEq_of {P : Program} {t : TypeId} (h : canEqB P t = true) : CanEq P t := by
  simp only [canEqB, Bool.and_eq_true, Bool.not_eq_true'] at h
  exact ⟨eqFine_of h.1, h.2⟩
theorem eqFs_ok {P : Program} {w : World} {β : Places} {rec : TypeId → AV → AV → Option Bool} {D : Nat} {xs ys : List AV} {us vs : List Value} (hx : VL β xs us) (hy : VL β ys vs) :
    ∀ (fs : List Field) (r : Bool), (∀ f ∈ fs, f.name ≠ "_" ∧ ∀ a b r u v, rec f.type a b = some r → V β a u → V β b v → (Op.equalIn D f.type u v).run P w = .ok r w) →
      eqFs P rec xs ys fs = some r → (Op.eqFields D us.toArray vs.toArray fs).run P w = .ok r w
  | [], r, _, h => by simp [eqFs] at h; subst h; rfl
  | f :: fs, r, hf, h => by
    unfold eqFs at h
    split at h
    · rename_i a b ha hb
      split at h
      · rename_i r0 hr0
        obtain ⟨u, hu, hu2⟩ := partA_ok (w := w) hx ha
        obtain ⟨v, hv, hv2⟩ := partA_ok (w := w) hy hb
        have h0 := hf f (by simp)
        have he := h0.2 a b r0 u v hr0 hu2 hv2
        simp only [Op.eqFields, ne_eq, h0.1, not_false_eq_true, if_true, run_bind, hu, hv, he]
        split at h
        · obtain rfl := by simpa using h
          cases r0 <;> simp [Op.eqFields, run_pure]
        · rename_i f' fs'
          split at h
          · rename_i s hs
            obtain rfl := by simpa using h
            have ih := eqFs_ok hx hy (f' :: fs') s (fun g hg => hf g (List.mem_cons_of_mem _ hg)) hs
            cases r0
            · simp [run_pure]
            · simpa using ih
          · simp at h
      · simp at h
    · simp at h
theorem eqA_ok {P : Program} {w : World} {β : Places} : ∀ (d D : Nat), D ≥ d → ∀ (t : TypeId) (a b : AV) (r : Bool) (u v : Value), eqFine P d t → eqA P d t a b = some r → V β a u → V β b v → (Op.equalIn D t u v).run P w = .ok r w
  | 0, _, _, _, _, _, _, _, _, _, h, _, _ => by simp [eqA] at h
  | d + 1, 0, hD, _, _, _, _, _, _, _, _, _, _ => by omega
  | d + 1, D + 1, hD, t, a, b, r, u, v, hf, h, hu, hv => by
    unfold eqA at h
    split at h
    · rename_i ht
      split at h
      · obtain rfl := by simpa using h
        simp only [V] at hu hv
        subst hu; subst hv
        exact run_equalIn_bool' w D t _ _ ht
      · simp at h
    · rename_i k ht
      split at h
      · split at h
        · rename_i k1 n1 k2 n2 e
          subst e
          obtain rfl := by simpa using h
          simp only [V] at hu hv
          rw [hu.1, hv.1]
          exact run_equalIn_int w D t _ _ _ _ ht
        · simp at h
      · simp at h
    · rename_i fs ht
      split at h
      · rename_i xs ys
        simp only [V] at hu hv
        obtain ⟨us, rfl, hu⟩ := hu
        obtain ⟨vs, rfl, hv⟩ := hv
        have hfo : P.fieldsOf t = fs := by simp [Program.fieldsOf, ht]
        simp only [eqFine, ht] at hf
        rw [run_equalIn_struct w D t _ _ (by rw [hfo]; exact ht) hf.1, hfo]
        exact eqFs_ok hu hv fs.toList r (fun f hf' => ⟨(hf.2 f hf').1, fun a b r u v h1 h2 h3 => eqA_ok d D (by omega) f.type a b r u v (hf.2 f hf').2 h1 h2 h3⟩) h
      · simp at h
    · simp at h

/-! ### Binary operations -/
def binT (P : Program) (op : BinOp) (xT : TypeId) (x y : AV) (yc : Bool) : Tree AV :=
  match x with
  | .int k a => match y with
    | .int k' b => if isShift op then aint op k a b yc else if k = k' then aint op k a b yc else .stop
    | _ => .stop
  | .bool a => match y, P.underlying xT with
    | .bool b, some .bool => match op with
      | .eql => .leaf (.bool (a == b))
      | .neq => .leaf (.bool (!(a == b)))
      | _ => .stop
    | _, _ => .stop
  | .agg xs => match y with
    | .agg ys => match eqA P 6 xT (.agg xs) (.agg ys) with
      | some r => match op with
        | .eql => if canEqB P xT then .leaf (.bool r) else .stop
        | .neq => if canEqB P xT then .leaf (.bool (!r)) else .stop
        | _ => .stop
      | none => .stop
    | _ => .stop
  | .ptr _ _ => match y, P.underlying xT with
    | .raw (.pointer none), some (.pointer _) => match op with
      | .eql => .leaf (.bool false)
      | .neq => .leaf (.bool true)
      | _ => .stop
    | _, _ => .stop
  | .raw (.pointer none) => match y, P.underlying xT with
    | .raw (.pointer none), some (.pointer _) => match op with
      | .eql => .leaf (.bool true)
      | .neq => .leaf (.bool false)
      | _ => .stop
    | _, _ => .stop
  | .iface _ _ => match y, P.underlying xT with
    | .raw .nilIface, some (.interface _) => match op with
      | .eql => .leaf (.bool false)
      | .neq => .leaf (.bool true)
      | _ => .stop
    | _, _ => .stop
  | .raw .nilIface => match y, P.underlying xT with
    | .raw .nilIface, some (.interface _) => if yc then match op with
      | .eql => .leaf (.bool true)
      | .neq => .leaf (.bool false)
      | _ => .stop
      else .stop
    | _, _ => .stop
  | _ => .stop
theorem aint_ang {op : BinOp} {k : IntKind} {a b : Int} {yc : Bool} : (aint op k a b yc).Ang := by
  unfold aint
  cases op <;> first
    | trivial
    | exact fit_ang
    | (repeat' split) <;> trivial
theorem binT_ang {P : Program} {op : BinOp} {t : TypeId} {x y : AV} {yc : Bool} : (binT P op t x y yc).Ang := by
  unfold binT
  repeat' split
  all_goals first | trivial | exact aint_ang
def isC : Operand → Bool
  | .const _ => true
  | _ => false
theorem guard_bin {P : Program} {w : World} {β : Places} {t : Tree AV} {g : Sem Unit} {s : Sem Value} (hg : g.run P w = .ok () w) (h : Ok P w β t s) : Ok P w β t (do g; s) := fun K hk => by
  obtain ⟨a, r, h1, h2, h3⟩ := h K hk
  exact ⟨a, r, h1, by rw [run_bind, hg]; exact h2, h3⟩
theorem run_eqGuard_plain {P : Program} {w : World} {op : BinOp} {t : TypeId} {xo yo : Operand} {u v : Value}
    (h1 : ¬ (u = .nilIface ∧ v = .nilIface)) (h2 : ∀ xs, u ≠ .agg xs) : (eqGuard op t xo yo u v).run P w = .ok () w := by
  unfold eqGuard
  cases op <;> first
    | rfl
    | (cases u <;> cases v <;> first | rfl | exact absurd ⟨rfl, rfl⟩ h1 | exact absurd rfl (h2 _))
theorem equalIn_ptr_nil {P : Program} {w : World} (d : Nat) {t e : TypeId} (ht : P.underlying t = some (.pointer e)) (a : Addr) : (Op.equalIn (d + 1) t (.pointer (some a)) (.pointer none)).run P w = .ok false w := by
  simp only [Op.equalIn, run_bind, run_underlying ht, run_pure]
theorem equalIn_nil_nil {P : Program} {w : World} (d : Nat) {t e : TypeId} (ht : P.underlying t = some (.pointer e)) : (Op.equalIn (d + 1) t (.pointer none) (.pointer none)).run P w = .ok true w := by
  simp only [Op.equalIn, run_bind, run_underlying ht, run_pure, Option.isNone]
theorem equalIn_iface_nil {P : Program} {w : World} (d : Nat) {t : TypeId} {e : Array (String × TypeId)} (ht : P.underlying t = some (.interface e)) (t' : TypeId) (a : Value) : (Op.equalIn (d + 1) t (.iface t' a) .nilIface).run P w = .ok false w := by
  simp only [Op.equalIn, run_bind, run_underlying ht, run_pure]
theorem equalIn_nilIface {P : Program} {w : World} (d : Nat) {t : TypeId} {e : Array (String × TypeId)} (ht : P.underlying t = some (.interface e)) : (Op.equalIn (d + 1) t .nilIface .nilIface).run P w = .ok true w := by
  simp only [Op.equalIn, run_bind, run_underlying ht, run_pure]
theorem binT_ok {P : Program} {w : World} {β : Places} {op : BinOp} {xT : TypeId} {x y : AV} {xo yo : Operand} {u v : Value} (hu : V β x u) (hv : V β y v) :
    Ok P w β (binT P op xT x y (isC yo)) (do eqGuard op xT xo yo u v; binOp op xT u v) := by
  unfold binT
  split
  · rename_i k a
    simp only [V] at hu
    obtain ⟨rfl, ha⟩ := hu
    refine guard_bin (run_eqGuard_plain (by simp) (by simp)) ?_
    split
    · rename_i k' b
      simp only [V] at hv
      obtain ⟨rfl, hb⟩ := hv
      split
      · rename_i h; exact shift_ok h ha _ _
      · rename_i h
        split
        · rename_i e; subst e; exact aint_ok (by simpa using h) ha hb _ _
        · exact .stop
    · exact .stop
  · rename_i a
    simp only [V] at hu
    subst hu
    refine guard_bin (run_eqGuard_plain (by simp) (by simp)) ?_
    split
    · rename_i b ht
      simp only [V] at hv
      subst hv
      have e : (Op.equal xT (.bool a) (.bool b)).run P w = .ok (a == b) w := run_equalIn_bool' w 9999 xT a b ht
      split
      · exact .leaf (by simp only [binOp, run_bind, e, run_pure, Bool.not_true, Bool.not_false]) V_bool
      · exact .leaf (by simp only [binOp, run_bind, e, run_pure, Bool.not_true, Bool.not_false]) V_bool
      · exact .stop
    · exact .stop
  · rename_i xs
    split
    · rename_i ys
      split
      · rename_i r hr
        have h1 := hu
        have h2 := hv
        simp only [V] at h1 h2
        obtain ⟨us, rfl, _⟩ := h1
        obtain ⟨vs, rfl, _⟩ := h2
        have key : CanEq P xT → (Op.equalIn 10000 xT (.agg us.toArray) (.agg vs.toArray)).run P w = .ok r w := fun hf =>
          eqA_ok 6 10000 (by omega) xT _ _ r _ _ hf.1 hr hu hv
        split
        · split
          · rename_i hc
            have hf := canEq_of hc
            refine guard_bin (run_eqGuard_agg w _ _ _ _ _ _ hf.2) (.leaf (v := .bool r) ?_ V_bool)
            rw [run_eql_struct, key hf]; rfl
          · exact .stop
        · split
          · rename_i hc
            have hf := canEq_of hc
            refine guard_bin (run_eqGuard_agg w _ _ _ _ _ _ hf.2) (.leaf (v := .bool !r) ?_ V_bool)
            rw [run_neq_struct, key hf]; rfl
          · exact .stop
        · exact .stop
      · exact .stop
    · exact .stop
  · simp only [V] at hu
    obtain ⟨n, c, _, rfl⟩ := hu
    refine guard_bin (run_eqGuard_plain (by simp) (by simp)) ?_
    split
    · rename_i e ht
      simp only [V] at hv
      subst hv
      have e : ∀ a, (Op.equal xT (.pointer (some a)) (.pointer none)).run P w = .ok false w := fun a => equalIn_ptr_nil 9999 ht a
      split
      · exact .leaf (by simp only [binOp, run_bind, e, run_pure, Bool.not_true, Bool.not_false]) V_bool
      · exact .leaf (by simp only [binOp, run_bind, e, run_pure, Bool.not_true, Bool.not_false]) V_bool
      · exact .stop
    · exact .stop
  · simp only [V] at hu
    subst hu
    refine guard_bin (run_eqGuard_plain (by simp) (by simp)) ?_
    split
    · rename_i e ht
      simp only [V] at hv
      subst hv
      have e : (Op.equal xT (.pointer none) (.pointer none)).run P w = .ok true w := equalIn_nil_nil 9999 ht
      split
      · exact .leaf (by simp only [binOp, run_bind, e, run_pure, Bool.not_true, Bool.not_false]) V_bool
      · exact .leaf (by simp only [binOp, run_bind, e, run_pure, Bool.not_true, Bool.not_false]) V_bool
      · exact .stop
    · exact .stop
  · simp only [V] at hu
    obtain ⟨n, rfl, _⟩ := hu
    refine guard_bin (run_eqGuard_plain (by simp) (by simp)) ?_
    split
    · rename_i e ht
      simp only [V] at hv
      subst hv
      have e : ∀ t a, (Op.equal xT (.iface t a) .nilIface).run P w = .ok false w := fun t a => equalIn_iface_nil 9999 ht t a
      split
      · exact .leaf (by simp only [binOp, run_bind, e, run_pure, Bool.not_true, Bool.not_false]) V_bool
      · exact .leaf (by simp only [binOp, run_bind, e, run_pure, Bool.not_true, Bool.not_false]) V_bool
      · exact .stop
    · exact .stop
  · simp only [V] at hu
    subst hu
    split
    · rename_i e ht
      simp only [V] at hv
      subst hv
      split
      · rename_i hy
        have hg : ∀ op, (eqGuard op xT xo yo .nilIface .nilIface).run P w = .ok () w := fun op => by
          unfold eqGuard
          cases yo <;> simp [isC] at hy
          cases op <;> first | rfl | (cases xo <;> rfl)
        have e : (Op.equal xT .nilIface .nilIface).run P w = .ok true w := equalIn_nilIface 9999 ht
        split
        · exact guard_bin (hg _) (.leaf (by simp only [binOp, run_bind, e, run_pure, Bool.not_true, Bool.not_false]) V_bool)
        · exact guard_bin (hg _) (.leaf (by simp only [binOp, run_bind, e, run_pure, Bool.not_true, Bool.not_false]) V_bool)
        · exact .stop
      · exact .stop
    · exact .stop
  · exact .stop

/-! ### All of them -/
def pickT (bc : Bool) (a b : AV) (aT bF : Bool) : Tree AV :=
  match a, b with
  | .bool x, .bool y => .leaf (.bool (if aT then bc || y else if bF then bc && x else bif bc then x else y))
  | .opt g (.bool x), .bool y => .ask (.i true bc g) (.leaf (.bool (if bF then bc && x else bif bc then x else y)))
  | .bool x, .opt g (.bool y) => .ask (.i true (!bc) g) (.leaf (.bool (if aT then bc || y else bif bc then x else y)))
  | .opt g (.bool x), .opt g' (.bool y) => .ask (.i true bc g) (.ask (.i true (!bc) g') (.leaf (.bool (bif bc then x else y))))
  | .int k x, .int k' y => if k = k' then .leaf (.int k (bif bc then x else y)) else .stop
  | a, b => .ite bc (.leaf a) (.leaf b)
theorem pickT_ang {bc : Bool} {a b : AV} {p q : Bool} : (pickT bc a b p q).Ang := by
  unfold pickT
  repeat' split
  all_goals first | trivial | exact ⟨trivial, trivial⟩
def constTrue : Operand → Bool
  | .const (.bool b) => b
  | _ => false
def constFalse : Operand → Bool
  | .const (.bool b) => !b
  | _ => false
theorem pickT_sem {β : Places} {bc : Bool} {a b : AV} {u v : Value} {p q : Bool} {K : AV → Prop} (ha : V β a u) (hb : V β b v)
    (hp : p = true → u = .bool true) (hq : q = true → v = .bool false) (h : (pickT bc a b p q).sem K) : ∃ r, K r ∧ V β r (if bc then u else v) := by
  unfold pickT at h
  split at h
  · rename_i x y
    simp only [V] at ha hb
    subst ha; subst hb
    refine ⟨_, h, ?_⟩
    simp only [V]
    cases p <;> cases q <;> cases bc <;> simp_all
  · rename_i g x y
    simp only [V] at ha hb
    subst hb
    refine ⟨_, h.2, ?_⟩
    simp only [V]
    cases q <;> cases bc <;> simp_all
    all_goals exact ha.1 (h.1 rfl rfl)
  · rename_i x g y
    simp only [V] at ha hb
    subst ha
    refine ⟨_, h.2, ?_⟩
    simp only [V]
    cases p <;> cases bc <;> simp_all
    all_goals exact hb.1 (h.1 rfl rfl)
  · rename_i g x g' y
    simp only [V] at ha hb
    refine ⟨_, h.2.2, ?_⟩
    simp only [V]
    cases bc
    · simpa using hb.1 (h.2.1 rfl rfl)
    · simpa using ha.1 (h.1 rfl rfl)
  · rename_i k x k' y
    simp only [V] at ha hb
    split at h
    · rename_i e
      subst e
      refine ⟨_, h, ?_⟩
      obtain ⟨rfl, h1⟩ := ha
      obtain ⟨rfl, h2⟩ := hb
      cases bc
      · exact V_int h2
      · exact V_int h1
    · exact h.elim
  · cases bc
    · exact ⟨_, h.2 rfl, hb⟩
    · exact ⟨_, h.1 rfl, ha⟩

def lenT (P : Program) (t : TypeId) (x : AV) : Tree AV :=
  match P.underlying t with
  | some (.slice _) => match x with
    | .slice _ _ len _ => .ask (.d ((len : Int) ≤ 9223372036854775807)) (.leaf (.int .i64 len))
    | .gsl _ len => .ask (.d ((len : Int) ≤ 9223372036854775807)) (.leaf (.int .i64 len))
    | .raw (.slice _ len _) => .ask (.d ((len : Int) ≤ 9223372036854775807)) (.leaf (.int .i64 len))
    | _ => .stop
  | some (.array n _) => if n ≤ 4611686018427387904 then .leaf (.int .i64 n) else .stop
  | _ => .stop
theorem lenT_ang {P : Program} {t : TypeId} {x : AV} : (lenT P t x).Ang := by
  unfold lenT
  repeat' split
  all_goals trivial
theorem lenT_ok {P : Program} {w : World} {β : Places} {t r : TypeId} {x : AV} {v : Value} (hv : V β x v) : Ok P w β (lenT P t x) (Builtin.len_ #[t] r #[v]) := by
  have hh : ∀ n : Nat, (n : Int) ≤ 9223372036854775807 → has .i64 (n : Int) := fun n h => ⟨by simp only [lo]; omega, by simpa [hi] using h⟩
  unfold lenT
  split
  · rename_i e ht
    have key : ∀ a (len cap : Nat), (Builtin.len_ #[t] r #[.slice a len cap]).run P w = .ok (.int .i64 len) w := fun a len cap => by
      simp [Builtin.len_, run_bind, run_underlying ht, goInt, run_pure]
    split
    · simp only [V] at hv; obtain ⟨n, c, _, rfl⟩ := hv; exact .ask fun h => .leaf (key ..) (V_int (hh _ h))
    · simp only [V] at hv; obtain ⟨n, c, _, rfl, _⟩ := hv; exact .ask fun h => .leaf (key ..) (V_int (hh _ h))
    · simp only [V] at hv; subst hv; exact .ask fun h => .leaf (key ..) (V_int (hh _ h))
    · exact .stop
  · rename_i n e ht
    split
    · refine .leaf (v := .int .i64 n) ?_ (V_int (hh _ (by omega)))
      simp [Builtin.len_, run_bind, run_underlying ht, goInt, run_pure]
    · exact .stop
  · exact .stop
def minmaxT (mx : Bool) (x y : AV) : Tree AV :=
  match x, y with
  | .int k a, .int k' b => if k = k' then .leaf (.int k (if mx then max a b else min a b)) else .stop
  | _, _ => .stop
theorem minmaxT_ang {mx : Bool} {x y : AV} : (minmaxT mx x y).Ang := by
  unfold minmaxT
  repeat' split
  all_goals trivial
theorem minmaxT_ok {P : Program} {w : World} {β : Places} {mx : Bool} {ts : Array TypeId} {r : TypeId} {x y : AV} {u v : Value} (hu : V β x u) (hv : V β y v) :
    Ok P w β (minmaxT mx x y) (if mx then Builtin.max_ ts r #[u, v] else Builtin.min_ ts r #[u, v]) := by
  unfold minmaxT
  split
  · rename_i k a k' b
    simp only [V] at hu hv
    obtain ⟨rfl, h1⟩ := hu
    obtain ⟨rfl, h2⟩ := hv
    split
    · rename_i e
      subst e
      have hm : has k (max a b) ∧ has k (min a b) := by
        constructor
        · rcases Int.le_total a b with h | h
          · rw [Int.max_eq_right h]; exact h2
          · rw [Int.max_eq_left h]; exact h1
        · rcases Int.le_total a b with h | h
          · rw [Int.min_eq_left h]; exact h1
          · rw [Int.min_eq_right h]; exact h2
      cases mx
      · refine .leaf (v := .int k (min a b)) ?_ (V_int hm.2)
        have e : (if b < a then b else a) = min a b := by split <;> omega
        simp [Builtin.min_, Builtin.min2, run_bind, run_pure, e]
      · refine .leaf (v := .int k (max a b)) ?_ (V_int hm.1)
        have e : (if a < b then b else a) = max a b := by split <;> omega
        simp [Builtin.max_, Builtin.max2, run_bind, run_pure, e]
    · exact .stop
  · exact .stop

def opVal (P : Program) (W0 : World) (get : Nat → Option Blk) (op : Op) (ρ : Operand → AV) : Tree AV :=
  match op with
  | .move x => force (ρ x)
  | .assign x => force (ρ x)
  | .pick c a b => (force (ρ c)).bind fun c => match c with
    | .bool bc => pickT bc (ρ a) (ρ b) (constTrue a) (constFalse b)
    | _ => .stop
  | .load t a => (force (ρ a)).bind (loadT P W0 get t)
  | .nilCheck x => (force (ρ x)).bind (nilT P)
  | .binOp op t x y _ => (force (ρ x)).bind fun a => (force (ρ y)).bind fun b => binT P op t a b (isC y)
  | .unOp op _ x => (force (ρ x)).bind (unT op)
  | .convert s d x => (force (ρ x)).bind (convertT P s d)
  | .makeInterface t x => (force (ρ x)).bind fun a => match P.underlying t with
    | some (.interface _) => .stop
    | some _ => .leaf (.iface t a)
    | none => .stop
  | .makeFunc f xs ys => .leaf (.fn f (xs.toList.map ρ) (ys.toList.map ρ))
  | .fieldAddr s x f => (force (ρ x)).bind fun a => fieldAddrT P s a f
  | .field t x f => (force (ρ x)).bind fun a => fieldT P t a f
  | .indexAddr t x i => (force (ρ x)).bind fun a => (force (ρ i)).bind fun b => indexAddrT P t a b (isC i)
  | .index t x i => (force (ρ x)).bind fun a => (force (ρ i)).bind fun b => indexT P t a b (isC i)
  | .extract x i => (force (ρ x)).bind fun a => extractT a i
  | .build t ps => buildT P t (ps.toList.map fun p => (p.1, ρ p.2))
  | .slice t x lo hi none => (force (ρ x)).bind fun a => sliceT P t a (lo.map ρ) (hi.map ρ)
  | .typeAssert x _ t ok => (force (ρ x)).bind fun a => typeAssertT P a t ok
  | .call { callee := .builtin .len, args := ⟨[x]⟩, argTypes := ⟨[t]⟩ } => (force (ρ x)).bind (lenT P t)
  | .call { callee := .builtin .min, args := ⟨[x, y]⟩, argTypes := _ } => (force (ρ x)).bind fun a => (force (ρ y)).bind fun b => minmaxT false a b
  | .call { callee := .builtin .max, args := ⟨[x, y]⟩, argTypes := _ } => (force (ρ x)).bind fun a => (force (ρ y)).bind fun b => minmaxT true a b
  | _ => .stop
theorem opVal_ang {P : Program} {W0 : World} {get : Nat → Option Blk} {op : Op} {ρ : Operand → AV} : (opVal P W0 get op ρ).Ang := by
  unfold opVal
  split
  · exact force_ang _
  · exact force_ang _
  · exact Tree.ang_bind (force_ang _) fun c => by
      split
      · exact pickT_ang
      · trivial
  · exact Tree.ang_bind (force_ang _) fun _ => loadT_ang
  · exact Tree.ang_bind (force_ang _) fun _ => nilT_ang
  · exact Tree.ang_bind (force_ang _) fun _ => Tree.ang_bind (force_ang _) fun _ => binT_ang
  · exact Tree.ang_bind (force_ang _) fun _ => unT_ang
  · exact Tree.ang_bind (force_ang _) fun _ => convertT_ang
  · exact Tree.ang_bind (force_ang _) fun _ => by split <;> trivial
  · trivial
  · exact Tree.ang_bind (force_ang _) fun _ => fieldAddrT_ang
  · exact Tree.ang_bind (force_ang _) fun _ => fieldT_ang
  · exact Tree.ang_bind (force_ang _) fun _ => Tree.ang_bind (force_ang _) fun _ => indexAddrT_ang
  · exact Tree.ang_bind (force_ang _) fun _ => Tree.ang_bind (force_ang _) fun _ => indexT_ang
  · exact Tree.ang_bind (force_ang _) fun _ => extractT_ang
  · exact buildT_ang
  · exact Tree.ang_bind (force_ang _) fun _ => sliceT_ang
  · exact Tree.ang_bind (force_ang _) fun _ => typeAssertT_ang
  · exact Tree.ang_bind (force_ang _) fun _ => lenT_ang
  · exact Tree.ang_bind (force_ang _) fun _ => Tree.ang_bind (force_ang _) fun _ => minmaxT_ang
  · exact Tree.ang_bind (force_ang _) fun _ => Tree.ang_bind (force_ang _) fun _ => minmaxT_ang
  · trivial

/-- The tree tells what the step yields. -/
def OkN (P : Program) (w : World) (β : Places) (t : Tree AV) (s : Sem Next) : Prop :=
  ∀ K : AV → Prop, t.sem K → ∃ a v, K a ∧ s.run P w = .ok (.value v) w ∧ V β a v
theorem OkN.of {P : Program} {w : World} {β : Places} {t : Tree AV} {s : Sem Value} (h : Ok P w β t s) : OkN P w β t (do pure (.value (← s))) := fun K hk => by
  obtain ⟨a, v, h1, h2, h3⟩ := h K hk
  exact ⟨a, v, h1, by simp only [run_bind, h2, run_pure], h3⟩
theorem OkN.force {P : Program} {w : World} {β : Places} {x : AV} {v : Value} {f : AV → Tree AV} {s : Sem Next} (hv : V β x v) (h : ∀ a, V β a v → OkN P w β (f a) s) :
    OkN P w β ((force x).bind f) s := fun K hk => by
  rw [Tree.sem_bind] at hk
  obtain ⟨a, h1, h2⟩ := force_sem hv hk
  exact h a h2 K h1
theorem VL_map {β : Places} {ρ : Operand → AV} {ρv : Operand → Value} (h : ∀ x, V β (ρ x) (ρv x)) : ∀ xs : List Operand, VL β (xs.map ρ) (xs.map ρv)
  | [] => by simp [VL]
  | x :: xs => by simp only [List.map_cons, VL]; exact ⟨_, _, rfl, h x, VL_map h xs⟩
theorem PL_map {β : Places} {ρ : Operand → AV} {ρv : Operand → Value} (h : ∀ x, V β (ρ x) (ρv x)) : ∀ xs : List (Nat × Operand), PL β (xs.map fun p => (p.1, ρ p.2)) (xs.map fun p => (p.1, ρv p.2))
  | [] => by simp [PL]
  | x :: xs => by simp only [List.map_cons, PL]; exact ⟨_, _, rfl, h _, PL_map h xs⟩
theorem VO_map {β : Places} {ρ : Operand → AV} {ρv : Operand → Value} (h : ∀ x, V β (ρ x) (ρv x)) (x : Option Operand) : VO β (x.map ρ) (x.map ρv) := by
  cases x with
  | none => simp [VO]
  | some x => simp only [Option.map_some, VO]; exact ⟨_, rfl, h x⟩

theorem opVal_ok {P : Program} {W0 : World} {T : Frz} {β : Places} {hp : Heap} {w : World} (h : HRel W0 T β hp w) {get : Nat → Option Blk} (hget' : ∀ id b, get id = some b → hget hp id = some b)
    {o : Oper} {ρ : Operand → AV} {ρv : Operand → Value} (hρ : ∀ x, V β (ρ x) (ρv x)) (hcst : ∀ v, ρv (.const v) = v) : OkN P w β (opVal P W0 get o.op ρ) (execOp ρv o) := by
  obtain ⟨dst, op, type, pos, after, guard⟩ := o
  unfold opVal
  dsimp only
  split
  · rename_i x
    intro K hk
    obtain ⟨a, h1, h2⟩ := force_sem (hρ x) hk
    exact ⟨a, _, h1, rfl, h2⟩
  · rename_i x
    intro K hk
    obtain ⟨a, h1, h2⟩ := force_sem (hρ x) hk
    exact ⟨a, _, h1, rfl, h2⟩
  · rename_i c a b
    refine OkN.force (hρ c) fun c' hc => ?_
    split
    · rename_i bc
      simp only [V] at hc
      intro K hk
      obtain ⟨r, h1, h2⟩ := pickT_sem (hρ a) (hρ b) (fun hp => by
          cases a with
          | const v => cases v <;> simp [constTrue] at hp; subst hp; exact hcst _
          | _ => simp [constTrue] at hp) (fun hq => by
          cases b with
          | const v => cases v <;> simp [constFalse] at hq; subst hq; exact hcst _
          | _ => simp [constFalse] at hq) hk
      refine ⟨r, _, h1, ?_, h2⟩
      simp only [execOp, run_bind, hc, asBool, run_pure]
    · exact fun K hk => hk.elim
  · rename_i t a
    exact OkN.force (hρ a) fun a' ha => OkN.of (loadT_ok h hget' ha)
  · rename_i x
    refine OkN.force (hρ x) fun a' ha => ?_
    intro K hk
    unfold nilT at hk
    split at hk
    · have ha' := ha
      simp only [V] at ha
      obtain ⟨n, c, _, e⟩ := ha
      exact ⟨_, ρv x, hk, by simp only [execOp, e, run_pure], ha'⟩
    · simp only [V] at ha
      exact ⟨_, ρv x, hk, by simp only [execOp, ha, run_pure], by simp [V, ha]⟩
    · have ha' := ha
      simp only [V] at ha
      obtain ⟨xs, ys, e, _⟩ := ha
      exact ⟨_, ρv x, hk, by simp only [execOp, e, run_pure], ha'⟩
    · have ha' := ha
      simp only [V] at ha
      obtain ⟨u, e, _⟩ := ha
      exact ⟨_, ρv x, hk, by simp only [execOp, e, run_pure], ha'⟩
    · rename_i name t v xs ys
      have ha' := ha
      simp only [V] at ha
      obtain ⟨us, ws, e, hus, _⟩ := ha
      simp only [VL] at hus
      obtain ⟨u, us', rfl, hu, _⟩ := hus
      simp only [V] at hu
      obtain ⟨u', rfl, _⟩ := hu
      split at hk
      · rename_i i hi
        split at hk
        · rename_i m hm
          split at hk
          · rename_i f hp hf
            refine ⟨_, ρv x, hk, ?_, ha'⟩
            have hn : (nilAhead (P.types.size + Made.depth) t u' name).run P w = .ok (some false) w := by
              rw [show P.types.size + Made.depth = (P.types.size + Made.depth - 1) + 1 from by have : 0 < Made.depth := by decide
                                                                                               omega]
              simp [nilAhead, run_bind, typeInfo, program, Sem.run, hi, hm, hp, followBlind, run_pure, hf]
            simp only [execOp, e, run_bind, program, Sem.run, hn, run_pure]
            simp [hn, run_bind, run_pure, Sem.run]
          · exact hk.elim
        · exact hk.elim
      · exact hk.elim
    · exact hk.elim
  · rename_i op t x y yt
    exact OkN.force (hρ x) fun a ha => OkN.force (hρ y) fun b hb => OkN.of (binT_ok ha hb)
  · rename_i op t x
    exact OkN.force (hρ x) fun a ha => OkN.of (unT_ok ha)
  · rename_i s d x
    exact OkN.force (hρ x) fun a ha => OkN.of (convertT_ok ha)
  · rename_i t x
    refine OkN.force (hρ x) fun a ha => ?_
    intro K hk
    split at hk
    · exact hk.elim
    · rename_i d hd ht
      refine ⟨_, .iface t (ρv x), hk, ?_, by simp only [V]; exact ⟨_, rfl, ha⟩⟩
      simp only [execOp, Instr.makeInterface, run_bind, run_underlying ht]
      cases d <;> first | exact absurd ht (hd _) | rfl
    · exact hk.elim
  · rename_i f xs ys
    intro K hk
    refine ⟨_, .func f (xs.map ρv) (ys.map ρv), hk, rfl, ?_⟩
    simp only [V]
    exact ⟨xs.toList.map ρv, ys.toList.map ρv, by rw [← Array.toList_map, ← Array.toList_map, Array.toArray_toList, Array.toArray_toList], VL_map hρ _, VL_map hρ _⟩
  · rename_i s x f
    exact OkN.force (hρ x) fun a ha => OkN.of (fieldAddrT_ok ha)
  · rename_i t x f
    exact OkN.force (hρ x) fun a ha => OkN.of (fieldT_ok ha)
  · rename_i t x i
    exact OkN.force (hρ x) fun a ha => OkN.force (hρ i) fun b hb => OkN.of (indexAddrT_ok ha hb)
  · rename_i t x i
    exact OkN.force (hρ x) fun a ha => OkN.force (hρ i) fun b hb => OkN.of (indexT_ok ha hb)
  · rename_i x i
    exact OkN.force (hρ x) fun a ha => OkN.of (extractT_ok ha)
  · rename_i t ps
    have := OkN.of (buildT_ok (P := P) (w := w) (T := t) (PL_map hρ ps.toList))
    refine fun K hk => ?_
    obtain ⟨a, v, h1, h2, h3⟩ := this K hk
    refine ⟨a, v, h1, ?_, h3⟩
    rw [← h2]
    simp only [execOp]
    congr 3
    rw [← Array.toList_map, Array.toArray_toList]
  · rename_i t x lo hi
    exact OkN.force (hρ x) fun a ha => OkN.of (sliceT_ok ha (VO_map hρ lo) (VO_map hρ hi))
  · rename_i x xt t ok
    exact OkN.force (hρ x) fun a ha => OkN.of (typeAssertT_ok ha)
  · rename_i x t
    refine OkN.force (hρ x) fun a ha K hk => ?_
    obtain ⟨r, v, h1, h2, h3⟩ := lenT_ok (P := P) (w := w) (r := type) ha K hk
    exact ⟨r, v, h1, by simp [execOp, resolve, invoke, builtin, run_bind, run_pure, h2], h3⟩
  · rename_i x y ts
    refine OkN.force (hρ x) fun a ha => OkN.force (hρ y) fun b hb K hk => ?_
    obtain ⟨r, v, h1, h2, h3⟩ := minmaxT_ok (P := P) (w := w) (mx := false) (ts := ts) (r := type) ha hb K hk
    simp only [Bool.false_eq_true, if_false] at h2
    exact ⟨r, v, h1, by simp [execOp, resolve, invoke, builtin, run_bind, run_pure, h2], h3⟩
  · rename_i x y ts
    refine OkN.force (hρ x) fun a ha => OkN.force (hρ y) fun b hb K hk => ?_
    obtain ⟨r, v, h1, h2, h3⟩ := minmaxT_ok (P := P) (w := w) (mx := true) (ts := ts) (r := type) ha hb K hk
    simp only [if_true] at h2
    exact ⟨r, v, h1, by simp [execOp, resolve, invoke, builtin, run_bind, run_pure, h2], h3⟩
  · exact fun K hk => hk.elim
end Go.Sx
