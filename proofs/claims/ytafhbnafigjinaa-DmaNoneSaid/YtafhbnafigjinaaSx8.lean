/-
  States; one operation; regions in the order of the text.
-/
import Derived.Test.YtafhbnafigjinaaSx7a
set_option linter.unusedSimpArgs false
set_option linter.unusedVariables false
namespace Go.Sx

structure St where
  fr : List AV
  hp : Heap
structure Env where
  P : Program
  W0 : World
  spec : FuncId → Option Spec
structure EnvOk (E : Env) : Prop where
  mixed : E.P.follows .mixedOrders = true
  ok : ∀ f S, E.spec f = some S → SpecOk E.P E.W0 f S
/-- What a function is handed: blocks that are nobody's here, where its own lie, and how many. -/
structure Fx where
  T : Frz
  β0 : Places
  N0 : Nat
structure Rel (W0 : World) (T : Fx) (β : Places) (st : St) (a : Act) (w : World) : Prop where
  fr : VL β st.fr a.tmps.toList
  df : a.defers = []
  hp : HRel W0 T.T β st.hp w
  len : T.N0 ≤ st.hp.length
  keep : ∀ id p, id < T.N0 → T.β0 id = some p → (hget st.hp id).isSome → β id = some p

def ev (fr : List AV) : Operand → AV
  | .tmp t => fr.getD t .junk
  | .const v => ofVal v
  | .global g => .raw (.pointer (some ⟨g, 0, none⟩))
  | .func f => .raw (.func (.func f) #[] #[])
theorem ev_V {β : Places} {fr : List AV} {a : Act} (h : VL β fr a.tmps.toList) : ∀ x, V β (ev fr x) (a.eval x)
  | .tmp t => by
    simp only [ev, Act.eval]
    cases hf : fr[t]? with
    | none => simp [List.getD, hf, V]
    | some c =>
      obtain ⟨v, hv, hV⟩ := h.get t c hf
      simp only [Array.getElem?_toList] at hv
      simp only [List.getD_eq_getElem?_getD, hf, Option.getD_some]
      rw [show a.tmps.getD t undef = v by simp [Array.getD_eq_getD_getElem?, hv]]
      exact hV
  | .const v => ofVal_V β v
  | .global g => by simp [ev, V, Act.eval]
  | .func f => by simp [ev, V, Act.eval]
def St.put (st : St) (d : Option Tmp) (v : AV) : St := match d with
  | some d => { st with fr := st.fr.set d v }
  | none => st
theorem put_VL {β : Places} {fr : List AV} {a : Act} (h : VL β fr a.tmps.toList) {v : AV} {u : Value} (hv : V β v u) {st : St} (he : st.fr = fr) (d : Option Tmp) :
    VL β (st.put d v).fr (a.put d u).tmps.toList := by
  subst he
  cases d with
  | none => exact h
  | some d =>
    simp only [St.put, Act.put, Array.toList_setIfInBounds]
    exact h.set hv d
theorem put_df {a : Act} {u : Value} (d : Option Tmp) (h : a.defers = []) : (a.put d u).defers = [] := by cases d <;> exact h
theorem put_hp (st : St) (d : Option Tmp) (v : AV) : (st.put d v).hp = st.hp := by cases d <;> rfl

/-! ### Calls -/
def forceL : List AV → Tree (List AV)
  | [] => .leaf []
  | a :: as => (force a).bind fun a => (forceL as).bind fun as => .leaf (a :: as)
theorem forceL_ang : ∀ as, (forceL as).Ang
  | [] => trivial
  | a :: as => Tree.ang_bind (force_ang a) fun _ => Tree.ang_bind (forceL_ang as) fun _ => trivial
theorem forceL_sem {β : Places} : ∀ {as : List AV} {vs : List Value} {K : List AV → Prop}, VL β as vs → (forceL as).sem K → ∃ as', K as' ∧ VL β as' vs
  | [], vs, K, hv, hk => ⟨[], hk, hv⟩
  | a :: as, vs, K, hv, hk => by
    simp only [VL] at hv
    obtain ⟨v, vs', rfl, h1, h2⟩ := hv
    simp only [forceL, Tree.sem_bind] at hk
    obtain ⟨a', hk, h3⟩ := force_sem h1 hk
    obtain ⟨as', hk, h4⟩ := forceL_sem h2 hk
    exact ⟨a' :: as', hk, by simp only [VL]; exact ⟨_, _, rfl, h3, h4⟩⟩
/-- Which function, and what stands ahead of its arguments, and behind them. -/
def calleeT (P : Program) (W0 : World) (get : Nat → Option Blk) (c : Callee) (ρ : Operand → AV) : Tree (FuncId × List AV × List AV) :=
  match c with
  | .value (.func f) => .leaf (f, [], [])
  | .value x => (force (ρ x)).bind fun a => match a with
    | .fn (.func f) xs ys => .leaf (f, xs, ys)
    | _ => .stop
  | .invoke x name => (force (ρ x)).bind fun a => match a with
    | .iface t v => match P.info? t, P.underlying t with
      | some i, some (.pointer e) => match i.methods.find? (·.name == name) with
        | some m => match m.path.toList, m.func with
          | [], some (f, true) => .leaf (f, [v], [])
          | _, _ => .stop
        | none => .stop
      | _, _ => .stop
    | _ => .stop
  | .builtin _ => .stop
theorem calleeT_ang {P : Program} {W0 : World} {get : Nat → Option Blk} {c : Callee} {ρ : Operand → AV} : (calleeT P W0 get c ρ).Ang := by
  unfold calleeT
  split
  · trivial
  · exact Tree.ang_bind (force_ang _) fun a => by split <;> trivial
  · exact Tree.ang_bind (force_ang _) fun a => by
      split
      · split
        · split
          · split <;> trivial
          · trivial
        · trivial
      · trivial
  · trivial
def callArgs (E : Env) (get : Nat → Option Blk) (c : Call) (ρ : Operand → AV) : Tree (FuncId × List AV) :=
  (calleeT E.P E.W0 get c.callee ρ).bind fun r => (forceL (c.args.toList.map ρ)).bind fun as => .leaf (r.1, r.2.1 ++ as ++ r.2.2)
theorem callArgs_ang {E : Env} {get : Nat → Option Blk} {c : Call} {ρ : Operand → AV} : (callArgs E get c ρ).Ang :=
  Tree.ang_bind calleeT_ang fun _ => Tree.ang_bind (forceL_ang _) fun _ => trivial
theorem run_callFunc {P : Program} {f : FuncId} {args : Array Value} {w : World} (h : ∃ fn, P.funcs[f]? = some fn ∧ (fn.name == "runtime.NumGoroutine") = false ∧ fn.body.isNone = false) :
    (callFunc f args).run P w = .ok (.enter f args) w := by
  obtain ⟨fn, h1, h2, h3⟩ := h
  simp only [callFunc, run_bind, program, Sem.run, h1, h2, h3, Bool.false_eq_true, if_false, run_pure]
theorem callArgs_sem {E : Env} {β : Places} {get : Nat → Option Blk} {w : World} {c : Call} {ρ : Operand → AV} {ρv : Operand → Value} (hρ : ∀ x, V β (ρ x) (ρv x)) (hfn : ∀ f, ρv (.func f) = .func (.func f) #[] #[])
    {K : FuncId × List AV → Prop} (hk : (callArgs E get c ρ).sem K) (type : TypeId) : ∃ f as vs, K (f, as) ∧ VL β as vs ∧
      ((∃ fn, E.P.funcs[f]? = some fn ∧ (fn.name == "runtime.NumGoroutine") = false ∧ fn.body.isNone = false) →
        (do let d ← resolve ρv c type; invoke d.target d.args : Sem Next).run E.P w = .ok (.enter f vs.toArray) w) := by
  unfold callArgs at hk
  rw [Tree.sem_bind] at hk
  obtain ⟨callee, args, ats⟩ := c
  have hargs : ∀ {K : List AV → Prop}, (forceL (args.toList.map ρ)).sem K → ∃ as, K as ∧ VL β as (args.toList.map ρv) := fun hk => forceL_sem (VL_map hρ _) hk
  have hmap : args.map ρv = (args.toList.map ρv).toArray := by rw [← Array.toList_map, Array.toArray_toList]
  unfold calleeT at hk
  dsimp only at hk
  split at hk
  · rename_i f
    simp only [Tree.sem, Tree.sem_bind] at hk
    obtain ⟨as, hk, ha⟩ := hargs hk
    refine ⟨f, as, args.toList.map ρv, by simpa using hk, ha, fun h => ?_⟩
    simp only [resolve, hfn, Deferred.ofValue, run_bind, run_pure, invoke, Array.empty_append, Array.append_empty]
    rw [run_callFunc h, hmap]
  · rename_i x hx
    rw [Tree.sem_bind] at hk
    obtain ⟨a, hk, h1⟩ := force_sem (hρ x) hk
    split at hk
    · rename_i f xs ys
      simp only [Tree.sem, Tree.sem_bind] at hk
      obtain ⟨as, hk, ha⟩ := hargs hk
      simp only [V] at h1
      obtain ⟨us, ws, e, h2, h3⟩ := h1
      refine ⟨f, xs ++ as ++ ys, us ++ args.toList.map ρv ++ ws, hk, (h2.append ha).append h3, fun h => ?_⟩
      simp only [resolve, e, Deferred.ofValue, run_bind, run_pure, invoke]
      rw [run_callFunc h, hmap]
      simp
    · exact hk.elim
  · rename_i x name
    rw [Tree.sem_bind] at hk
    obtain ⟨a, hk, h1⟩ := force_sem (hρ x) hk
    split at hk
    · rename_i t v
      simp only [V] at h1
      obtain ⟨u, e, hu⟩ := h1
      split at hk
      · rename_i i el hi ht
        split at hk
        · rename_i m hm
          split at hk
          · rename_i f hpath hfunc
            simp only [Tree.sem, Tree.sem_bind] at hk
            obtain ⟨as, hk, ha⟩ := hargs hk
            have hu1 : VL β [v] [u] := by simp only [VL]; exact ⟨u, [], rfl, hu, rfl⟩
            refine ⟨f, [v] ++ as, [u] ++ args.toList.map ρv, by simpa using hk, hu1.append ha, fun h => ?_⟩
            have hmeth : ∀ n, (method (n + 1) t u name).run E.P w = .ok (f, u) w := fun n => by
              simp only [method, run_bind, typeInfo, program, Sem.run, hi, run_pure, hm, hpath, follow, hfunc, receiverAt, run_underlying ht, Place.get]
            have hfuel : E.P.types.size + Made.depth = (E.P.types.size + Made.depth - 1) + 1 := by
              have : 0 < Made.depth := by decide
              omega
            have e0 : (#[Value.iface t u] ++ args.map ρv)[0]? = some (.iface t u) := by
              rw [Array.getElem?_append_left (show 0 < (#[Value.iface t u]).size from Nat.zero_lt_one)]; rfl
            have e1 : (#[Value.iface t u] ++ args.map ρv).extract 1 (#[Value.iface t u] ++ args.map ρv).size = args.map ρv := by
              apply Array.ext'; simp; rw [List.take_of_length_le (by simp)]
            simp only [resolve, e, run_bind, run_pure, invoke, e0, e1, callMethod, program, Sem.run]
            rw [hfuel, hmeth]
            simp only
            rw [run_callFunc h, hmap]
            simp
          · exact hk.elim
        · exact hk.elim
      · exact hk.elim
    · exact hk.elim
  · exact hk.elim

/-! ### One operation -/
inductive Kind where
  | val | new | store | call | append
def kindO : Op → Kind
  | .alloc _ | .box .. | .buildSlice .. | .makeSlice .. => .new
  | .store .. => .store
  | .call { callee := .builtin .append, .. } => .append
  | .call { callee := .builtin _, .. } => .val
  | .call _ => .call
  | _ => .val
def deadIn (hp hp' : Heap) : Bool := match hp, hp' with
  | [], _ => false
  | none :: hp, _ :: hp' => deadIn hp hp'
  | some _ :: hp, some _ :: hp' => deadIn hp hp'
  | some _ :: _, none :: _ => true
  | some _ :: _, [] => true
  | none :: hp, [] => deadIn hp []
theorem deadIn_spec : ∀ {hp hp' : Heap}, deadIn hp hp' = false → ∀ id, (hget hp id).isSome → (hget hp' id).isSome
  | [], _, _, id, h => by simp [hget] at h
  | none :: hp, _ :: hp', hd, 0, h => by simp [hget] at h
  | none :: hp, x :: hp', hd, id + 1, h => by simp only [deadIn] at hd; simp only [hget] at *; exact deadIn_spec hd id h
  | some _ :: hp, some _ :: hp', hd, 0, h => by simp [hget]
  | some _ :: hp, some _ :: hp', hd, id + 1, h => by simp only [deadIn] at hd; simp only [hget] at *; exact deadIn_spec hd id h
  | some _ :: _, none :: _, hd, _, _ => by simp [deadIn] at hd
  | some _ :: _, [], hd, _, _ => by simp [deadIn] at hd
  | none :: hp, [], hd, 0, h => by simp [hget] at h
  | none :: hp, [], hd, id + 1, h => by
    simp only [deadIn] at hd
    simp only [hget] at h
    have := deadIn_spec hd id h
    simp [hget] at this
/-- What an operation may see of memory, and where a new block goes. -/
structure Ctx where
  get : Nat → Option Blk
  hpc : Heap
  slot : Option Nat
  eff : Bool
structure CtxOk (N0 : Nat) (C : Ctx) (hp : Heap) : Prop where
  get : ∀ id b, C.get id = some b → hget hp id = some b
  hpc : ∀ id b, hget C.hpc id = some b → hget hp id = some b
  len : C.hpc.length = hp.length
  eff : C.eff = true → C.hpc = hp
  slot : ∀ id, C.slot = some id → hget hp id = none ∧ id < hp.length ∧ N0 ≤ id
/-- What an operation comes to. -/
inductive Kr where
  | put (v : AV)
  | set (v : AV) (id : Nat) (b : Blk)
  | app (nv : NV) (b : Blk)
  | mem (v : AV) (hp : Heap)
def appl (st : St) (d : Option Tmp) : Kr → St
  | .put v => st.put d v
  | .set v id b => ({ st with hp := st.hp.set id (some b) } : St).put d v
  | .app nv b => ({ st with hp := st.hp ++ [some b] } : St).put d (nv.av st.hp.length)
  | .mem v hp' => ({ fr := if deadIn st.hp hp' then scrubL (fun id => (hget hp' id).isSome) st.fr else st.fr, hp := hp' } : St).put d v
def storeK (E : Env) (C : Ctx) (ρ : Operand → AV) (op : Op) : Tree Kr :=
  match op with
  | .store T a v => (force (ρ a)).bind fun x => (force (ρ v)).bind fun y => (storeT E.P T C.get x y).bind fun r => .leaf (.set (.raw undef) r.1 r.2)
  | _ => .stop
def callK (E : Env) (C : Ctx) (ρ : Operand → AV) (op : Op) : Tree Kr :=
  match op with
  | .call c => (callArgs E C.get c ρ).bind fun r => match E.spec r.1 with
    | some S => match callT S C.hpc r.2 with
      | .pure t => t.bind fun v => .leaf (.put v)
      | .eff t => if C.eff then t.bind fun q => .leaf (.mem q.1 q.2) else .stop
    | none => .stop
  | _ => .stop
def appendK (E : Env) (C : Ctx) (ρ : Operand → AV) (op : Op) : Tree Kr :=
  match op with
  | .call { callee := .builtin .append, args := ⟨[s, x]⟩, argTypes := ⟨[t, t']⟩ } =>
    if C.eff = true ∧ t = t' then (force (ρ s)).bind fun a => (force (ρ x)).bind fun b => (appendT E.P t C.hpc a b).bind fun q => .leaf (.mem q.1 q.2)
    else .stop
  | _ => .stop
def kern (E : Env) (C : Ctx) (ρ : Operand → AV) (op : Op) : Tree Kr :=
  match kindO op with
  | .val => (opVal E.P E.W0 C.get op ρ).bind fun v => .leaf (.put v)
  | .new => (opNew E.P op ρ).bind fun r => match C.slot with
    | none => .leaf (.app r.2 r.1)
    | some id => .leaf (.set (r.2.av id) id r.1)
  | .store => storeK E C ρ op
  | .call => callK E C ρ op
  | .append => appendK E C ρ op
def gcond (ops : Array Oper) (fr : List AV) (g : Nat × Bool) : Option Bool :=
  match (ops[g.1]?).bind (·.dst) with
  | some d => match fr.getD d .junk with
    | .bool b => some (if g.2 then b else !b)
    | .opt g' (.bool b) => some (g' && (if g.2 then b else !b))
    | _ => none
  | none => none
def kernG (E : Env) (ops : Array Oper) (C : Ctx) (o : Oper) (fr : List AV) : Tree Kr :=
  match o.guard with
  | none => kern E C (ev fr) o.op
  | some g => match gcond ops fr g with
    | none => .stop
    | some c => match kindO o.op with
      | .val => ((opVal E.P E.W0 C.get o.op (ev fr)).under c).bind fun v => .leaf (.put (.opt c v))
      | .call => match o.op with
        | .call cl => ((callArgs E C.get cl (ev fr)).under c).bind fun r => match E.spec r.1 with
          | some S => match callT S C.hpc r.2 with
            | .pure t => (t.under c).bind fun v => .leaf (.put (.opt c v))
            | .eff _ => .ite c (kern E C (ev fr) o.op) (.leaf (.put (.raw undef)))
          | none => .stop
        | _ => .stop
      | _ => .ite c (kern E C (ev fr) o.op) (.leaf (.put (.raw undef)))
def nstep (E : Env) (ops : Array Oper) (C : Ctx) (o : Oper) (st : St) : Tree St := (kernG E ops C o st.fr).bind fun r => .leaf (appl st o.dst r)

section
variable {E : Env} {T : Fx}
/-- What one operation comes to, in a world that fits. -/
def Next1 (E : Env) (T : Fx) (K : St → Prop) (a : Act) (w : World) : Prop := ∃ st β, K st ∧ Rel E.W0 T β st a w

theorem upon_val {o : Oper} {a : Act} {w : World} {next : Act → World → Prop} {Q : Exit → Act → World → Prop} {v : Value} {w' : World} (h : (execOp a.eval o).run E.P w = .ok (.value v) w') (hn : next (a.put o.dst v) w') :
    o.wp E.P a w next Q := by
  unfold Oper.wp; rw [h]; exact hn
theorem upon_skip {o : Oper} {a : Act} {w : World} {next : Act → World → Prop} {Q : Exit → Act → World → Prop} {w' : World} (h : (execOp a.eval o).run E.P w = .ok .skip w') (hn : next (a.put o.dst undef) w') :
    o.wp E.P a w next Q := by
  unfold Oper.wp; rw [h]; exact hn
theorem upon_enter {o : Oper} {a : Act} {w : World} {next : Act → World → Prop} {Q : Exit → Act → World → Prop} {w' : World} {f : FuncId} {args : Array Value} (h : (execOp a.eval o).run E.P w = .ok (.enter f args) w')
    (hn : Calls E.P f args w' fun e w'' => ∃ v, e = .returned v ∧ next (a.put o.dst v) w'') : o.wp E.P a w next Q := by
  unfold Oper.wp; rw [h]
  refine hn.mono ?_
  rintro e w'' ⟨v, rfl, hv⟩
  exact hv

/-- What an operation comes to fits the world behind it. -/
theorem put_rel {β' : Places} {a : Act} {w' : World} {d : Option Tmp} {v : AV} {x : Value} {hp' : Heap} {fr' : List AV} (hf : VL β' fr' a.tmps.toList) (hd : a.defers = []) (hv : V β' v x) (hh : HRel E.W0 T.T β' hp' w')
    (hl : T.N0 ≤ hp'.length) (hkp : ∀ id p, id < T.N0 → T.β0 id = some p → (hget hp' id).isSome → β' id = some p) : Rel E.W0 T β' (({ fr := fr', hp := hp' } : St).put d v) (a.put d x) w' :=
  ⟨put_VL (st := { fr := fr', hp := hp' }) hf hv rfl d, put_df d hd, by rw [put_hp]; exact hh, by rw [put_hp]; exact hl, by rw [put_hp]; exact hkp⟩
theorem storeK_ok {C : Ctx} {st : St} (hC : CtxOk T.N0 C st.hp) {K : Kr → Prop} {o : Oper} (hk : (storeK E C (ev st.fr) o.op).sem K) {β : Places} {a : Act} {w : World} (h : Rel E.W0 T β st a w) (Q : Exit → Act → World → Prop) :
    o.wp E.P a w (Next1 E T fun s => ∃ r, K r ∧ s = appl st o.dst r) Q := by
  obtain ⟨dst, op, type, pos, aft, guard⟩ := o
  unfold storeK at hk
  dsimp only at hk
  split at hk
  · rename_i t x y
    rw [Tree.sem_bind] at hk
    obtain ⟨x', hk, hx⟩ := force_sem (ev_V h.fr x) hk
    rw [Tree.sem_bind] at hk
    obtain ⟨y', hk, hy⟩ := force_sem (ev_V h.fr y) hk
    rw [Tree.sem_bind] at hk
    obtain ⟨id, b, w', hk, hrun, hr, hlive⟩ := storeT_ok h.hp hx hy hC.get hk
    refine upon_skip (w' := w') (by simp only [execOp, run_bind, hrun, run_pure]) ⟨_, β, ⟨_, hk, rfl⟩, put_rel h.fr h.df (by simp only [V]) hr (by rw [List.length_set]; exact h.len) fun i p hi hp hs => h.keep i p hi hp ?_⟩
    rw [hget_set] at hs
    split at hs
    · rename_i e
      have hl := hlive
      have e1 : id = i := e.1
      rw [e1] at hl
      exact hl
    · exact hs
  · exact hk.elim
theorem callK_ok (hE : EnvOk E) {C : Ctx} {st : St} (hC : CtxOk T.N0 C st.hp) {K : Kr → Prop} {o : Oper} (hk : (callK E C (ev st.fr) o.op).sem K) {β : Places} {a : Act} {w : World} (h : Rel E.W0 T β st a w) (Q : Exit → Act → World → Prop) :
    o.wp E.P a w (Next1 E T fun s => ∃ r, K r ∧ s = appl st o.dst r) Q := by
  obtain ⟨dst, op, type, pos, aft, guard⟩ := o
  unfold callK at hk
  dsimp only at hk
  split at hk
  · rename_i c
    rw [Tree.sem_bind] at hk
    obtain ⟨f, as, vs, hk, hv, hrun⟩ := callArgs_sem (w := w) (ev_V h.fr) (fun _ => rfl) hk type
    dsimp only at hk
    split at hk
    · rename_i S hS
      have hSo := hE.ok f S hS
      have hrun := hrun hSo.there
      refine upon_enter (w' := w) (f := f) (args := vs.toArray) (by simpa only [execOp] using hrun) ?_
      split at hk
      · rename_i t ht
        have hok := callT_part hSo hC.hpc hC.len ht
        rw [Tree.sem_bind] at hk
        refine (hok.2 _ hk T.T β vs w hv h.hp).mono ?_
        rintro e w' ⟨v, x, h1, rfl, h2, h3⟩
        exact ⟨x, rfl, _, β, ⟨_, h1, rfl⟩, put_rel h.fr h.df h2 h3 h.len h.keep⟩
      · rename_i t ht
        split at hk
        · rename_i heff
          have hok := callT_ok hSo st.hp as
          rw [hC.eff heff] at ht
          rw [ht] at hok
          rw [Tree.sem_bind] at hk
          refine (hok _ hk T.T β vs w hv h.hp).mono ?_
          rintro e w' ⟨v, x, hp', β', h1, rfl, h2, h3, h4, h5, h6⟩
          refine ⟨x, rfl, _, β', ⟨_, h1, rfl⟩, put_rel (fr' := if deadIn st.hp hp' then scrubL (fun id => (hget hp' id).isSome) st.fr else st.fr) ?_ h.df h2 h3 (Nat.le_trans h.len h5) fun i p hi hp hs => h4 i p (h.keep i p hi hp (h6 i (Nat.lt_of_lt_of_le hi h.len) hs)) hs⟩
          split
          · exact VL_scrub (fun id hl p hid => h4 id p hid hl) _ _ h.fr
          · rename_i hd
            refine VL.ext (fun id p hid => ?_) _ _ h.fr
            obtain ⟨b, hb⟩ := h.hp.live _ _ hid
            exact h4 id p hid (deadIn_spec (by simpa using hd) id (by simp [hb]))
        · exact hk.elim
    · exact hk.elim
  · exact hk.elim
theorem appendK_ok {C : Ctx} {st : St} (hC : CtxOk T.N0 C st.hp) {K : Kr → Prop} {o : Oper} (hk : (appendK E C (ev st.fr) o.op).sem K) {β : Places} {a : Act} {w : World} (h : Rel E.W0 T β st a w) (Q : Exit → Act → World → Prop) :
    o.wp E.P a w (Next1 E T fun s => ∃ r, K r ∧ s = appl st o.dst r) Q := by
  obtain ⟨dst, op, type, pos, aft, guard⟩ := o
  unfold appendK at hk
  dsimp only at hk
  split at hk
  · rename_i s x t t'
    split at hk
    · rename_i hce
      obtain ⟨heff, rfl⟩ := hce
      rw [Tree.sem_bind] at hk
      obtain ⟨x', hk, hx⟩ := force_sem (ev_V h.fr s) hk
      rw [Tree.sem_bind] at hk
      obtain ⟨y', hk, hy⟩ := force_sem (ev_V h.fr x) hk
      rw [Tree.sem_bind, hC.eff heff] at hk
      obtain ⟨r, v', w', β', hk, hrun, h2, h3, h5, h4, h6⟩ := appendT_ok (ty := type) h.hp hx hy hk
      refine upon_val (w' := w') (v := v') ?_ ⟨_, β', ⟨_, hk, rfl⟩, put_rel (fr' := if deadIn st.hp r.2 then scrubL (fun id => (hget r.2 id).isSome) st.fr else st.fr) ?_ h.df h2 h3 (Nat.le_trans h.len h5) fun i p hi hp hs => ?_⟩
      · simp only [execOp, resolve, invoke, builtin, run_bind, List.map_toArray, List.map_cons, List.map_nil, hrun, run_pure]
      · split
        · exact VL_scrub (fun id hl p hid => h4 id p hid hl) _ _ h.fr
        · rename_i hd
          refine VL.ext (fun id p hid => ?_) _ _ h.fr
          obtain ⟨b, hb⟩ := h.hp.live _ _ hid
          exact h4 id p hid (deadIn_spec (by simpa using hd) id (by simp [hb]))
      · exact h4 i p (h.keep i p hi hp (h6 i (Nat.lt_of_lt_of_le hi h.len) hs)) hs
    · exact hk.elim
  · exact hk.elim
theorem kern_ok (hE : EnvOk E) {C : Ctx} {st : St} (hC : CtxOk T.N0 C st.hp) {K : Kr → Prop} {o : Oper} (hk : (kern E C (ev st.fr) o.op).sem K) {β : Places} {a : Act} {w : World} (h : Rel E.W0 T β st a w) (Q : Exit → Act → World → Prop) :
    o.wp E.P a w (Next1 E T fun s => ∃ r, K r ∧ s = appl st o.dst r) Q := by
  unfold kern at hk
  split at hk
  · rw [Tree.sem_bind] at hk
    obtain ⟨v, x, h1, h2, h3⟩ := opVal_ok h.hp hC.get (ev_V h.fr) (fun _ => rfl) _ hk
    exact upon_val h2 ⟨_, β, ⟨_, h1, rfl⟩, put_rel h.fr h.df h3 h.hp h.len h.keep⟩
  · rw [Tree.sem_bind] at hk
    obtain ⟨blk, nv, obj, h1, h2, h3, hg⟩ := opNew_ok (w := w) (ev_V h.fr) hk
    have main : ∀ (id : Nat) (hp' : Heap), T.N0 ≤ id → T.N0 ≤ hp'.length → hget st.hp id = none → (∀ j, hget hp' j = if j = id then some blk else hget st.hp j) →
        ∃ β', Rel E.W0 T β' (({ fr := st.fr, hp := hp' } : St).put o.dst (nv.av id)) (a.put o.dst (nv.val w.heap.size 0)) { w with heap := w.heap.push obj } := fun id hp' hN hN' hn hs => by
      have hext := Places.put_ext (p := (w.heap.size, 0)) (h.hp.none_of hn)
      refine ⟨_, put_rel (VL.ext hext _ _ h.fr) h.df ?_ (h.hp.new hn hs (B.ext hext h3)) hN' fun i p hi hp hs' => hext _ _ (h.keep i p hi hp (by rw [hs, if_neg (by omega)] at hs'; exact hs'))⟩
      cases nv with
      | p => simp only [NV.av, NV.val, V]; exact ⟨w.heap.size, 0, by simp [Places.put], rfl⟩
      | s l c => simp only [NV.av, NV.val, V]; exact ⟨w.heap.size, 0, by simp [Places.put], rfl⟩
      | g l => exact absurd rfl (hg l)
    split at h1
    · have hn : hget st.hp st.hp.length = none := by
        cases hh : hget st.hp st.hp.length with
        | none => rfl
        | some b => exact absurd (hget_lt hh) (Nat.lt_irrefl _)
      obtain ⟨β', hr⟩ := main st.hp.length (st.hp ++ [some blk]) h.len (by rw [List.length_append]; have := h.len; omega) hn fun j => by
        rw [hget_append]
        split
        · rename_i hl; rw [if_neg (by omega)]
        · rename_i hl
          split
          · rename_i e; subst e; simp [hget]
          · rename_i e
            have : j - st.hp.length = (j - st.hp.length - 1) + 1 := by omega
            rw [this]
            simp only [hget]
            cases hh : hget st.hp j with
            | none => rfl
            | some b => exact absurd (hget_lt hh) (by omega)
      exact upon_val h2 ⟨_, β', ⟨_, h1, rfl⟩, hr⟩
    · rename_i id hid
      obtain ⟨hn, hl, hN⟩ := hC.slot id hid
      obtain ⟨β', hr⟩ := main id (st.hp.set id (some blk)) hN (by rw [List.length_set]; exact h.len) hn fun j => by
        rw [hget_set]
        by_cases e : id = j
        · subst e; simp [hl]
        · rw [if_neg (by simp [e]), if_neg (by omega)]
      exact upon_val h2 ⟨_, β', ⟨_, h1, rfl⟩, hr⟩
  · exact storeK_ok hC hk h Q
  · exact callK_ok hE hC hk h Q
  · exact appendK_ok hC hk h Q
theorem gcond_ok {β : Places} {fr : List AV} {a : Act} (h : VL β fr a.tmps.toList) {ops : Array Oper} {o : Oper} {g : Nat × Bool} (hg : o.guard = some g) {c : Bool} (hc : gcond ops fr g = some c) :
    Region.wanted o (yielded ops a.tmps) = c := by
  unfold gcond at hc
  unfold Region.wanted
  rw [hg]
  simp only [yielded]
  split at hc
  · rename_i d hd
    rw [hd]
    simp only [Option.bind_some]
    have hget : ∀ x, fr.getD d .junk = x → x ≠ .junk → ∃ v, a.tmps[d]? = some v ∧ V β x v := fun x hx hne => by
      cases hf : fr[d]? with
      | none => simp [List.getD, hf] at hx; exact absurd hx.symm hne
      | some y =>
        obtain ⟨v, hv, hV⟩ := h.get d y hf
        simp only [List.getD_eq_getElem?_getD, hf, Option.getD_some] at hx
        subst hx
        exact ⟨v, by simpa using hv, hV⟩
    split at hc
    · rename_i b hb
      obtain ⟨v, hv, hV⟩ := hget _ hb (by simp)
      simp only [V] at hV
      subst hV
      rw [hv]
      obtain rfl := by simpa using hc
      cases b <;> cases g.2 <;> rfl
    · rename_i g' b hb
      obtain ⟨v, hv, hV⟩ := hget _ hb (by simp)
      simp only [V] at hV
      rw [hv]
      obtain rfl := by simpa using hc
      cases g'
      · rw [hV.2 rfl]; rfl
      · rw [hV.1 rfl]; cases b <;> cases g.2 <;> rfl
    · simp at hc
  · simp at hc
theorem under_leaf {α : Type} [Inhabited α] {t : Tree α} (ht : t.Ang) {g : Bool} {K : α → Prop} (h : (t.under g).sem K) : ∃ a, K a := by
  obtain ⟨a, _, hk⟩ := (Tree.sem_ang (Tree.ang_under ht) K).1 h
  exact ⟨a, hk⟩
theorem V_opt {β : Places} {v : AV} {x : Value} (h : V β v x) : V β (.opt true v) x := by simp only [V]; exact ⟨fun _ => h, fun h => by simp at h⟩
theorem V_opt_no {β : Places} {v : AV} : V β (.opt false v) undef := by simp [V]
/-- One operation of a region, its guard asked. -/
theorem nstep_ok (hE : EnvOk E) {ops : Array Oper} {C : Ctx} {K : St → Prop} {st : St} (hC : CtxOk T.N0 C st.hp) {i : Nat} {o : Oper} (hi : ops[i]? = some o) (hk : (nstep E ops C o st).sem K) {β : Places} {a : Act} {w : World} (h : Rel E.W0 T β st a w) (Q : Exit → Act → World → Prop) :
    wpOp E.P ops Q i (Next1 E T K) a w := by
  unfold nstep at hk
  rw [Tree.sem_bind] at hk
  have conv : ∀ {a w}, Next1 E T (fun s => ∃ r, (Tree.leaf (appl st o.dst r)).sem K ∧ s = appl st o.dst r) a w → Next1 E T K a w := fun ⟨s, β, ⟨r, h1, h2⟩, h3⟩ => ⟨s, β, by rw [h2]; exact h1, h3⟩
  unfold kernG at hk
  unfold wpOp
  simp only [hi]
  split at hk
  · rename_i hg
    have : Region.wanted o (yielded ops a.tmps) = true := by simp [Region.wanted, hg]
    rw [if_pos this]
    exact .inl (Oper.wp_mono (fun _ _ => conv) (kern_ok hE hC hk h Q))
  · rename_i g hg
    split at hk
    · exact hk.elim
    · rename_i c hc
      rw [gcond_ok h.fr hg hc]
      have no : ∀ v, K (appl st o.dst (.put v)) → V β v undef → Next1 E T K (a.put o.dst undef) w := fun v hv hV =>
        ⟨_, β, hv, put_rel h.fr h.df hV h.hp h.len h.keep⟩
      have both : (Tree.ite c (kern E C (ev st.fr) o.op) (.leaf (.put (.raw undef)))).sem (fun r => (Tree.leaf (appl st o.dst r)).sem K) →
          if c = true then o.wp E.P a w (Next1 E T K) Q ∨ (o.asks E.P a w ∧ LetsOut Q) else Next1 E T K (a.put o.dst undef) w := fun hk => by
        cases c
        · simp only [Bool.false_eq_true, if_false]; exact no _ (hk.2 rfl) (by simp only [V])
        · simp only [if_true]; exact .inl (Oper.wp_mono (fun _ _ => conv) (kern_ok hE hC (hk.1 rfl) h Q))
      split at hk
      · rw [Tree.sem_bind] at hk
        cases c
        · obtain ⟨v, hv⟩ := under_leaf opVal_ang hk
          simp only [Bool.false_eq_true, if_false]
          exact no _ hv V_opt_no
        · obtain ⟨v, x, h1, h2, h3⟩ := opVal_ok h.hp hC.get (ev_V h.fr) (fun _ => rfl) _ (Tree.under_true hk)
          simp only [if_true]
          exact .inl (upon_val h2 ⟨_, β, h1, put_rel h.fr h.df (V_opt h3) h.hp h.len h.keep⟩)
      · split at hk
        · rename_i cl hop
          rw [Tree.sem_bind] at hk
          cases c
          · obtain ⟨r, hk⟩ := under_leaf callArgs_ang hk
            split at hk
            · rename_i S hS
              split at hk
              · rename_i t ht
                have hok := callT_part (hE.ok _ S hS) hC.hpc hC.len ht
                rw [Tree.sem_bind] at hk
                obtain ⟨v, hv⟩ := under_leaf hok.1 hk
                simp only [Bool.false_eq_true, if_false]
                exact no _ hv V_opt_no
              · exact both hk
            · exact hk.elim
          · obtain ⟨f, as, vs, hk, hv, hrun⟩ := callArgs_sem (w := w) (ev_V h.fr) (fun _ => rfl) (Tree.under_true hk) o.type
            dsimp only at hk
            split at hk
            · rename_i S hS
              have hSo := hE.ok f S hS
              have hrun := hrun hSo.there
              split at hk
              · rename_i t ht
                have hok := callT_part hSo hC.hpc hC.len ht
                rw [Tree.sem_bind] at hk
                simp only [if_true]
                refine .inl (upon_enter (w' := w) (f := f) (args := vs.toArray) (by simp only [execOp, hop]; exact hrun) ?_)
                refine (hok.2 _ (Tree.under_true hk) T.T β vs w hv h.hp).mono ?_
                rintro e w' ⟨v, x, h1, rfl, h2, h3⟩
                exact ⟨x, rfl, _, β, h1, put_rel h.fr h.df (V_opt h2) h3 h.len h.keep⟩
              · exact both hk
            · exact hk.elim
        · exact hk.elim
      · exact both hk

/-! ### A region in the order of the text -/
def nctx (st : St) : Ctx := ⟨hget st.hp, st.hp, none, true⟩
theorem nctx_ok {N0 : Nat} (st : St) : CtxOk N0 (nctx st) st.hp := ⟨fun _ _ h => h, fun _ _ h => h, rfl, fun _ => rfl, fun _ h => by simp [nctx] at h⟩
def nrun (E : Env) (ops : Array Oper) : List Oper → St → Tree St
  | [], st => .leaf st
  | o :: os, st => (nstep E ops (nctx st) o st).bind fun st' => nrun E ops os st'
theorem wpOps_mono {P : Program} {ops : Array Oper} {Q Q' : Exit → Act → World → Prop} (h : ∀ e a w, Q e a w → Q' e a w) : ∀ (l : List Nat) (a : Act) (w : World), wpOps P ops Q l a w → wpOps P ops Q' l a w := by
  intro l
  induction l with
  | nil => intro a w hh; exact h _ _ _ hh
  | cons i l ih =>
    intro a w hh
    rw [wpOps_cons] at *
    unfold wpOp at *
    split
    · rename_i ho; simp only [ho] at hh; exact ih _ _ hh
    · rename_i o ho
      simp only [ho] at hh
      split
      · rename_i hw
        simp only [hw, if_true] at hh
        rcases hh with hh | ⟨h1, a', w', h2⟩
        · refine .inl ?_
          unfold Oper.wp at *
          generalize (execOp a.eval o).run P w = r at *
          cases r with
          | ok n w' =>
            cases n <;> simp only [Oper.upon] at hh ⊢ <;>
              first
                | exact ih _ _ hh
                | exact Calls.mono hh (fun e w'' he => by cases e <;> first | exact ih _ _ he | exact h _ _ _ he | (obtain ⟨a1, w1, h1⟩ := he; exact ⟨a1, w1, h _ _ _ h1⟩))
                | exact Rows.mono hh (fun _ _ he => ih _ _ he)
          | halt x w' => cases x <;> simp only [Oper.upon] at hh ⊢ <;> first | exact h _ _ _ hh | exact hh
        · exact .inr ⟨h1, a', w', h _ _ _ h2⟩
      · rename_i hw
        simp only [hw] at hh
        exact ih _ _ hh
theorem nrun_ok (hE : EnvOk E) {ops : Array Oper} {K : St → Prop} {Q : Exit → Act → World → Prop} (hQ : ∀ st β a w, K st → Rel E.W0 T β st a w → Q .normal a w) :
    ∀ (l : List Oper) (k : Nat) (st : St) (β : Places) (a : Act) (w : World), (∀ j, l[j]? = ops[k + j]?) → (nrun E ops l st).sem K → Rel E.W0 T β st a w →
      wpOps E.P ops Q ((List.range l.length).map (k + ·)) a w
  | [], _, st, β, a, w, _, hk, h => hQ st β a w hk h
  | o :: l, k, st, β, a, w, hl, hk, h => by
    have h0 : ops[k]? = some o := by simpa using (hl 0).symm
    simp only [nrun, Tree.sem_bind] at hk
    rw [show (List.range (o :: l).length).map (k + ·) = k :: (List.range l.length).map (k + 1 + ·) by
      simp [List.range_succ_eq_map, Function.comp_def, Nat.add_comm, Nat.add_left_comm]]
    rw [wpOps_cons]
    refine wpOp_mono (fun a' w' hn => ?_) (nstep_ok hE (nctx_ok st) h0 hk h Q)
    obtain ⟨st', β', hk', h'⟩ := hn
    exact nrun_ok hE hQ l (k + 1) st' β' a' w' (fun j => by have := hl (j + 1); simpa [Nat.add_assoc, Nat.add_comm 1 j] using this) hk' h'
theorem region_ok (hE : EnvOk E) {ops : Array Oper} {id : Nat} {K : St → Prop} {st : St} (hk : (nrun E ops ops.toList st).sem K) {β : Places} {a : Act} {w : World} (h : Rel E.W0 T β st a w) {Q : Exit → Act → World → Prop}
    (hQ : ∀ st β a w, K st → Rel E.W0 T β st a w → Q .normal a w) : (Code.region id ops false).wp E.P Q a w := by
  refine wp_region ?_
  have := nrun_ok hE hQ ops.toList 0 st β a w (by simp) hk h
  simpa using this
end
end Go.Sx
