/-
  Contracts whose answer is one value, joined over all ways through the code; functions that read memory only.
-/
import Derived.Test.YtafhbnafigjinaaSx15
set_option linter.unusedSimpArgs false
set_option linter.unusedVariables false
namespace Go.Sx
mutual
/-- One value for both ways. -/
def mergeA (b : Bool) : AV → AV → Option AV
  | .int k n, .int k' m => if k = k' then some (.int k (bif b then n else m)) else none
  | .bool x, .bool y => some (.bool (bif b then x else y))
  | .agg xs, .agg ys => (mergeAL b xs ys).map .agg
  | .tup xs, .tup ys => (mergeAL b xs ys).map .tup
  | _, _ => none
def mergeAL (b : Bool) : List AV → List AV → Option (List AV)
  | [], [] => some []
  | x :: xs, y :: ys => match mergeA b x y with
    | some z => (mergeAL b xs ys).map (z :: ·)
    | none => none
  | _, _ => none
end
mutual
theorem mergeA_eq {b : Bool} : ∀ (x y z : AV), mergeA b x y = some z → z = if b then x else y
  | .int k n, .int k' m, z, h => by
    simp only [mergeA] at h
    split at h
    · rename_i e; subst e; cases b <;> simpa using h.symm
    · simp at h
  | .bool x, .bool y, z, h => by simp only [mergeA, Option.some.injEq] at h; cases b <;> simpa using h.symm
  | .agg xs, .agg ys, z, h => by
    simp only [mergeA, Option.map_eq_some_iff] at h
    obtain ⟨zs, h1, rfl⟩ := h
    rw [mergeAL_eq xs ys zs h1]; cases b <;> rfl
  | .tup xs, .tup ys, z, h => by
    simp only [mergeA, Option.map_eq_some_iff] at h
    obtain ⟨zs, h1, rfl⟩ := h
    rw [mergeAL_eq xs ys zs h1]; cases b <;> rfl
  | .junk, _, _, h | .raw _, _, _, h | .ptr .., _, _, h | .slice .., _, _, h | .gsl .., _, _, h | .fn .., _, _, h | .iface .., _, _, h | .opt .., _, _, h => by simp [mergeA] at h
  | .int .., .junk, _, h | .int .., .raw _, _, h | .int .., .bool _, _, h | .int .., .ptr .., _, h | .int .., .slice .., _, h | .int .., .gsl .., _, h | .int .., .agg _, _, h | .int .., .tup _, _, h | .int .., .fn .., _, h | .int .., .iface .., _, h | .int .., .opt .., _, h => by simp [mergeA] at h
  | .bool .., .junk, _, h | .bool .., .raw _, _, h | .bool .., .int .., _, h | .bool .., .ptr .., _, h | .bool .., .slice .., _, h | .bool .., .gsl .., _, h | .bool .., .agg _, _, h | .bool .., .tup _, _, h | .bool .., .fn .., _, h | .bool .., .iface .., _, h | .bool .., .opt .., _, h => by simp [mergeA] at h
  | .agg .., .junk, _, h | .agg .., .raw _, _, h | .agg .., .int .., _, h | .agg .., .ptr .., _, h | .agg .., .slice .., _, h | .agg .., .gsl .., _, h | .agg .., .bool _, _, h | .agg .., .tup _, _, h | .agg .., .fn .., _, h | .agg .., .iface .., _, h | .agg .., .opt .., _, h => by simp [mergeA] at h
  | .tup .., .junk, _, h | .tup .., .raw _, _, h | .tup .., .int .., _, h | .tup .., .ptr .., _, h | .tup .., .slice .., _, h | .tup .., .gsl .., _, h | .tup .., .bool _, _, h | .tup .., .agg _, _, h | .tup .., .fn .., _, h | .tup .., .iface .., _, h | .tup .., .opt .., _, h => by simp [mergeA] at h
theorem mergeAL_eq {b : Bool} : ∀ (xs ys zs : List AV), mergeAL b xs ys = some zs → zs = if b then xs else ys
  | [], [], zs, h => by simp only [mergeAL, Option.some.injEq] at h; subst h; cases b <;> rfl
  | x :: xs, y :: ys, zs, h => by
    simp only [mergeAL] at h
    split at h
    · rename_i z hz
      simp only [Option.map_eq_some_iff] at h
      obtain ⟨zs', h1, rfl⟩ := h
      rw [mergeA_eq x y z hz, mergeAL_eq xs ys zs' h1]; cases b <;> rfl
    · simp at h
  | [], _ :: _, _, h => by simp [mergeAL] at h
  | _ :: _, [], _, h => by simp [mergeAL] at h
end
def mergeO (b : Bool) : Option AV → Option AV → Option (Option AV)
  | some x, some y => (mergeA b x y).map some
  | some x, none => some (some x)
  | none, y => some y
def guards (b w : Bool) : List Rq → List Rq → List Rq
  | [], l => l
  | p :: ps, l => p.under (wb b w) :: guards b w ps l
/-- What a tree asks, and its one value (none: no way leads to an end). -/
def flatJ : Tree AV → Option (List Rq × Option AV)
  | .leaf a => some ([], some a)
  | .stop => some ([.n false], none)
  | .req p t => match flatJ t with
    | some (ps, a) => some (.p p :: ps, a)
    | none => none
  | .ask p t => match flatJ t with
    | some (ps, a) => some (p :: ps, a)
    | none => none
  | .ite b t e => match flatJ t with
    | some (ps, x) => match flatJ e with
      | some (qs, y) => match mergeO b x y with
        | some z => some (guards b true ps (guards b false qs []), z)
        | none => none
      | none => none
    | none => none
  | .ex _ _ => none
  | .all _ _ => none
theorem guards_spec {b w : Bool} : ∀ {ps l : List Rq}, (∀ p ∈ guards b w ps l, p.holds) → (b = w → ∀ p ∈ ps, p.holds) ∧ ∀ p ∈ l, p.holds
  | [], l, h => ⟨fun _ p hp => by simp at hp, h⟩
  | p :: ps, l, h => by
    simp only [guards] at h
    have h1 := h _ (List.mem_cons_self ..)
    obtain ⟨h2, h3⟩ := guards_spec (fun q hq => h q (List.mem_cons_of_mem _ hq))
    refine ⟨fun hb q hq => ?_, h3⟩
    rcases List.mem_cons.1 hq with rfl | hq
    · exact Rq.under_spec h1 (wb_eq.2 hb)
    · exact h2 hb q hq
theorem flatJ_sem : ∀ {t : Tree AV} {ps : List Rq} {o : Option AV}, flatJ t = some (ps, o) → (∀ p ∈ ps, p.holds) → ∃ a, o = some a ∧ ∀ K : AV → Prop, K a → t.sem K
  | .leaf a, ps, o, h, _ => by simp only [flatJ, Option.some.injEq, Prod.mk.injEq] at h; exact ⟨a, h.2.symm, fun K hk => hk⟩
  | .stop, ps, o, h, hp => by
    simp only [flatJ, Option.some.injEq, Prod.mk.injEq] at h
    have := hp (.n false) (by rw [← h.1]; simp)
    simp [Rq.holds] at this
  | .req p t, ps, o, h, hp => by
    simp only [flatJ] at h
    split at h
    · rename_i ps' a' h'
      obtain ⟨rfl, rfl⟩ := by simpa using h
      obtain ⟨a, h1, h2⟩ := flatJ_sem h' fun q hq => hp q (List.mem_cons_of_mem _ hq)
      exact ⟨a, h1, fun K hk => ⟨hp (.p p) (List.mem_cons_self ..), h2 K hk⟩⟩
    · simp at h
  | .ask p t, ps, o, h, hp => by
    simp only [flatJ] at h
    split at h
    · rename_i ps' a' h'
      obtain ⟨rfl, rfl⟩ := by simpa using h
      obtain ⟨a, h1, h2⟩ := flatJ_sem h' fun q hq => hp q (List.mem_cons_of_mem _ hq)
      exact ⟨a, h1, fun K hk => ⟨hp p (List.mem_cons_self ..), h2 K hk⟩⟩
    · simp at h
  | .ite b t e, ps, o, h, hp => by
    simp only [flatJ] at h
    split at h
    · rename_i ps1 x hx
      split at h
      · rename_i qs y hy
        split at h
        · rename_i z hz
          obtain ⟨rfl, rfl⟩ := by simpa using h
          obtain ⟨g1, g2⟩ := guards_spec hp
          obtain ⟨g2, _⟩ := guards_spec g2
          cases b with
          | true =>
            obtain ⟨a, rfl, h2⟩ := flatJ_sem hx (g1 rfl)
            refine ⟨a, ?_, fun K hk => ⟨fun _ => h2 K hk, fun hb => by simp at hb⟩⟩
            cases y with
            | none => simpa [mergeO] using hz.symm
            | some y =>
              simp only [mergeO, Option.map_eq_some_iff] at hz
              obtain ⟨z', h3, rfl⟩ := hz
              rw [mergeA_eq _ _ _ h3]; rfl
          | false =>
            obtain ⟨a, rfl, h2⟩ := flatJ_sem hy (g2 rfl)
            refine ⟨a, ?_, fun K hk => ⟨fun hb => by simp at hb, fun _ => h2 K hk⟩⟩
            cases x with
            | none => simpa [mergeO] using hz.symm
            | some x =>
              simp only [mergeO, Option.map_eq_some_iff] at hz
              obtain ⟨z', h3, rfl⟩ := hz
              rw [mergeA_eq _ _ _ h3]; rfl
        · simp at h
      · simp at h
    · simp at h
  | .ex _ _, _, _, h, _ => by simp [flatJ] at h
  | .all _ _, _, _, h, _ => by simp [flatJ] at h
def reqL {α : Type} : List Rq → Tree α → Tree α
  | [], t => t
  | p :: ps, t => p.emit (reqL ps t)
theorem reqL_sem {α : Type} {K : α → Prop} : ∀ {ps : List Rq} {t : Tree α}, (reqL ps t).sem K → (∀ p ∈ ps, p.holds) ∧ t.sem K
  | [], t, h => ⟨by simp, h⟩
  | p :: ps, t, h => by
    obtain ⟨h0, h⟩ := emit_sem.1 h
    obtain ⟨h1, h2⟩ := reqL_sem h
    refine ⟨fun q hq => ?_, h2⟩
    rcases List.mem_cons.1 hq with rfl | hq
    · exact h0
    · exact h1 q hq
theorem emit_ang {α : Type} {r : Rq} {t : Tree α} (h : t.Ang) : (r.emit t).Ang := by cases r <;> exact h
theorem reqL_ang {α : Type} {t : Tree α} (h : t.Ang) : ∀ ps : List Rq, (reqL ps t).Ang
  | [] => h
  | _ :: ps => emit_ang (reqL_ang h ps)
/-- All ways in one. -/
def joinT (t : Tree AV) : Tree AV := match flatJ t with
  | some (ps, some a) => reqL ps (.leaf a)
  | _ => angelic t
theorem joinT_ang (t : Tree AV) : (joinT t).Ang := by
  unfold joinT
  split
  · rename_i ps a _
    exact reqL_ang (t := .leaf a) trivial _
  · exact angelic_ang _
theorem joinT_sem {t : Tree AV} {K : AV → Prop} (h : (joinT t).sem K) : t.sem K := by
  unfold joinT at h
  split at h
  · rename_i ps a hf
    obtain ⟨h1, h2⟩ := reqL_sem h
    obtain ⟨a', e, h3⟩ := flatJ_sem hf h1
    obtain rfl := by simpa using e
    exact h3 K h2
  · exact angelic_sem h

/-- A function that is handed no memory: one value. -/
def inlJ (P : Program) (W0 : World) (L : List (FuncId × Con)) (fn : Func) (c : Code) (n d : Nat) : Con :=
  .pure fun args hp => match hp with
    | [] => if args.length ≤ fn.ntmps then joinT (val (runAuto P W0 L fn c n d args [])) else .stop
    | _ => .stop
theorem inlJ_ok {P : Program} {W0 : World} {L : List (FuncId × Con)} (hE : EnvOk (mkE P W0 L)) {f : FuncId} {fn : Func} {c : Code} (hf : P.funcs[f]? = some fn) (hb : fn.body = some c) (h1 : once (loopsOf c) = true) (h2 : (fn.name == "runtime.NumGoroutine") = false) (n d : Nat) :
    SpecOk P W0 f (inlJ P W0 L fn c n d).spec := by
  refine ⟨⟨fn, hf, h2, by rw [hb]; rfl⟩, fun args hp => ?_⟩
  show CallOk _ _ _ _ _ (.pure _)
  dsimp only
  split
  · split
    · rename_i hn
      exact auto_pureOk hE hf hb h1 n d (joinT_ang _) (decide_eq_true hn) fun K hk => val_sem (joinT_sem hk)
    · exact noSpec
  · exact noSpec
/-! ### Functions that only read -/
def quietR (pureF : FuncId → Bool) : Code → Bool
  | .skip => true
  | .region _ ops _ => ops.toList.all (quietOp pureF)
  | .seq a b => quietR pureF a && quietR pureF b
  | .cond _ t e => quietR pureF t && quietR pureF e
  | .block _ b => quietR pureF b
  | .scope b => quietR pureF b
  | .ret => true
  | .exit _ => true
  | _ => false
section
variable {E : Env} {F : Fn}
theorem quietR_exec (hP : PureOk E F) : ∀ (c : Code) (st : St), quietR F.pureF c = true → Leaves (fun r : Res1 => r.2.hp = st.hp) (exec E F c st)
  | .skip, st, _ => rfl
  | .region _ ops draw, st, hq => Leaves.mono (fun r hr => hr.1) (quiet_exec hP (.region _ ops draw) st hq)
  | .seq a b, st, hq => by
    simp only [quietR, Bool.and_eq_true] at hq
    unfold exec
    refine Leaves.bind' (fun r hr => ?_) _ (quietR_exec hP a st hq.1)
    split
    · exact Leaves.mono (fun r' hr' => hr'.trans hr) (quietR_exec hP b r.2 hq.2)
    · exact hr
  | .cond c t e, st, hq => by
    simp only [quietR, Bool.and_eq_true] at hq
    have h1 := quietR_exec hP t st hq.1
    have h2 := quietR_exec hP e st hq.2
    unfold exec
    refine Leaves.bind (fun x => ?_) _
    split
    · rename_i b
      split
      · split
        · rename_i ps s1 qs s2 _ _
          split
          · exact leaves_reqs _ _ (leaves_reqs _ _ rfl)
          · exact ⟨h1, h2⟩
        · exact ⟨h1, h2⟩
      · exact ⟨h1, h2⟩
    · trivial
  | .block id b, st, hq => by
    simp only [quietR] at hq
    unfold exec
    refine Leaves.bind' (fun r hr => ?_) _ (quietR_exec hP b st hq)
    split
    · split
      · exact hr
      · exact hr
    · exact hr
  | .scope b, st, hq => by
    simp only [quietR] at hq
    unfold exec
    exact quietR_exec hP b st hq
  | .ret, st, _ => rfl
  | .exit _, st, _ => rfl
  | .loop _, _, hq => by simp [quietR] at hq
  | .rangeFunc .., _, hq => by simp [quietR] at hq
  | .label _, _, hq => by simp [quietR] at hq
  | .goto _, _, hq => by simp [quietR] at hq
  | .refuse _, _, hq => by simp [quietR] at hq
theorem quietR_run (hP : PureOk E F) {fn : Func} {c : Code} {args : List AV} {hp : Heap} (hq : quietR F.pureF c = true) : Leaves (fun q : AV × Heap => q.2 = hp) (runF E F fn c args hp) := by
  unfold runF
  refine Leaves.bind' (fun r hr => ?_) _ (quietR_exec hP c _ hq)
  split
  · trivial
  · exact Leaves.bind (φ := fun q : AV × Heap => q.2 = hp) (g := fun v => .leaf (v, r.2.hp)) (fun v => hr) _
end
/-- Values of results that name no memory but what was handed over. -/
def valIn (hp : Heap) (t : Tree (AV × Heap)) : Tree AV := t.bind fun q => if idsIn hp q.1 then .leaf q.1 else .stop
/-- A function that only reads: one value. -/
def inlQ (P : Program) (W0 : World) (L : List (FuncId × Con)) (fn : Func) (c : Code) : Con :=
  .pure fun args hp => if (decide (args.length ≤ fn.ntmps) && quietR (pureL L) c && heapIn hp hp) = true then joinT (valIn hp (runAuto P W0 L fn c 0 0 args hp)) else .stop
theorem inlQ_ok {P : Program} {W0 : World} {L : List (FuncId × Con)} (hE : EnvOk (mkE P W0 L)) {f : FuncId} {fn : Func} {c : Code} (hf : P.funcs[f]? = some fn) (hb : fn.body = some c) (h1 : once (loopsOf c) = true) (h2 : (fn.name == "runtime.NumGoroutine") = false) :
    SpecOk P W0 f (inlQ P W0 L fn c).spec := by
  refine ⟨⟨fn, hf, h2, by rw [hb]; rfl⟩, fun args hp => ?_⟩
  show CallOk _ _ _ _ _ (.pure _)
  dsimp only
  split
  · rename_i hn
    simp only [Bool.and_eq_true, decide_eq_true_eq] at hn
    refine auto_pureOk hE hf hb h1 0 0 (joinT_ang _) (decide_eq_true hn.1.1) fun K hk => ?_
    have h3 := joinT_sem hk
    unfold valIn at h3
    rw [Tree.sem_bind] at h3
    have hL : Leaves (fun q : AV × Heap => q.2 = hp) (runAuto P W0 L fn c 0 0 args hp) := by
      unfold runAuto
      exact quietR_run (F := fnAuto P W0 L hp.length c 0 0) (pureL_ok L) hn.1.2
    refine Tree.sem_mono (fun q hq => ?_) (hL.sem h3)
    obtain ⟨hq1, hq2⟩ := hq
    split at hq1
    · rename_i hid
      exact ⟨q.1, hq1, rfl, by rw [hq2]; exact subH_refl _, by simp [hid, hn.2]⟩
    · exact hq1.elim
  · exact noSpec
/-! ### Contracts out of cut runs -/
theorem subH_take : ∀ (n : Nat) (h : Heap), subH (h.take n) h
  | 0, h => by simp [subH]
  | n + 1, [] => by simp [subH]
  | n + 1, none :: h => subH_take n h
  | n + 1, some b :: h => ⟨rfl, subH_take n h⟩
/-- Results of a function that leaves what it was handed as it was. -/
def chkP (hp : Heap) (t : Tree (AV × Heap)) : Tree AV := t.bind fun q => if (idsIn hp q.1 && heapIn hp hp) = true then .ask (.e (q.2.take hp.length) hp) (.leaf q.1) else .stop
theorem chkP_sem {hp : Heap} {t : Tree (AV × Heap)} {K : AV → Prop} (h : (chkP hp t).sem K) : t.sem fun q => ∃ v, K v ∧ Fits hp v q := by
  rw [chkP, Tree.sem_bind] at h
  refine Tree.sem_mono (fun q hq => ?_) h
  split at hq
  · rename_i hc
    obtain ⟨h1, h2⟩ := hq
    refine ⟨q.1, h2, rfl, ?_, hc⟩
    have h3 : q.2.take hp.length = hp := h1
    have h4 := subH_take hp.length q.2
    rwa [h3] at h4
  · exact hq.elim
def runE (P : Program) (W0 : World) (L : List (FuncId × Con)) (fn : Func) (c : Code) (n d : Nat) (args : List AV) (hp : Heap) : Tree (AV × Heap) :=
  if args.length ≤ fn.ntmps then chkT hp (runAuto P W0 L fn c n d args hp) else .stop
def runP (P : Program) (W0 : World) (L : List (FuncId × Con)) (fn : Func) (c : Code) (n d : Nat) (args : List AV) (hp : Heap) : Tree AV :=
  if args.length ≤ fn.ntmps then chkP hp (runAuto P W0 L fn c n d args hp) else .stop
mutual
/-- What an abstract value says of its own numbers. -/
def factA : AV → Prop
  | .int k n => has k n
  | .agg cs => factL cs
  | .tup cs => factL cs
  | .opt g a => g = true → factA a
  | _ => True
def factL : List AV → Prop
  | [] => True
  | a :: as => factA a ∧ factL as
end
def factH : Heap → Prop
  | [] => True
  | some (.lit _ cs) :: h => factL cs ∧ factH h
  | _ :: h => factH h
mutual
theorem V_fact {β : Places} : ∀ (a : AV) (v : Value), V β a v → factA a
  | .int .., _, h => by simp only [V] at h; exact h.2
  | .agg cs, _, h => by simp only [V] at h; obtain ⟨vs, _, hl⟩ := h; exact VL_fact cs vs hl
  | .tup cs, _, h => by simp only [V] at h; obtain ⟨vs, _, hl⟩ := h; exact VL_fact cs vs hl
  | .opt g a, _, h => by simp only [V] at h; exact fun hg => V_fact a _ (h.1 hg)
  | .junk, _, _ | .raw _, _, _ | .bool _, _, _ | .ptr .., _, _ | .slice .., _, _ | .gsl .., _, _ | .fn .., _, _ | .iface .., _, _ => trivial
theorem VL_fact {β : Places} : ∀ (cs : List AV) (vs : List Value), VL β cs vs → factL cs
  | [], _, _ => trivial
  | c :: cs, _, h => by simp only [VL] at h; obtain ⟨v, vs', _, h1, h2⟩ := h; exact ⟨V_fact c v h1, VL_fact cs vs' h2⟩
end
theorem heap_fact {β : Places} : ∀ (h : Heap), (∀ (i : Nat) (b : Blk), hget h i = some b → ∃ c o, B β c b o) → factH h
  | [], _ => trivial
  | none :: h, hh => heap_fact h fun i b hi => hh (i + 1) b hi
  | some (.lit e cs) :: h, hh => by
    refine ⟨?_, heap_fact h fun i b hi => hh (i + 1) b hi⟩
    obtain ⟨c, o, ho⟩ := hh 0 _ rfl
    simp only [B] at ho
    obtain ⟨vs, _, hl⟩ := ho
    exact VL_fact cs vs hl
  | some (.sym ..) :: h, hh => heap_fact h fun i b hi => hh (i + 1) b hi
  | some (.row ..) :: h, hh => heap_fact h fun i b hi => hh (i + 1) b hi
theorem HRel.fact {W0 : World} {T : Frz} {β : Places} {hp : Heap} {w : World} (h : HRel W0 T β hp w) : factH hp :=
  heap_fact hp fun i b hi => by obtain ⟨n, c, o, _, _, _, _, h5⟩ := h.hp i b hi; exact ⟨c, o, h5⟩
/-- A contract may take for granted what its arguments say of their own numbers. -/
theorem CallOk.fact {P : Program} {W0 : World} {f : FuncId} {args : List AV} {hp : Heap} {t : CallT} (ht : ∀ u, t = .pure u → u.Ang) (h : factL args → factH hp → CallOk P W0 f args hp t) : CallOk P W0 f args hp t := by
  cases t with
  | pure t => exact ⟨ht t rfl, fun K hk T β argv w hv hr => (h (VL_fact _ _ hv) hr.fact).2 K hk T β argv w hv hr⟩
  | eff t => exact fun K hk T β argv w hv hr => h (VL_fact _ _ hv) hr.fact K hk T β argv w hv hr
theorem runE_ok {P : Program} {W0 : World} {L : List (FuncId × Con)} (hE : EnvOk (mkE P W0 L)) {f : FuncId} {fn : Func} {c : Code} (hf : P.funcs[f]? = some fn) (hb : fn.body = some c) (h1 : once (loopsOf c) = true) (n d : Nat) {args : List AV} {hp : Heap} {t : Tree (AV × Heap)}
    (h : factL args → factH hp → ∀ K : AV × Heap → Prop, t.sem K → Holds (runE P W0 L fn c n d args hp) K) : CallOk P W0 f args hp (.eff t) := by
  refine CallOk.fact (fun u hu => by simp at hu) fun ha hh => ?_
  by_cases hn : args.length ≤ fn.ntmps
  · refine auto_effOk hE hf hb h1 n d (decide_eq_true hn) fun K hk => chkT_sem ?_
    have := (h ha hh K hk).is
    unfold runE at this
    rwa [if_pos hn] at this
  · refine fun K hk => ?_
    have := (h ha hh K hk).is
    unfold runE at this
    rw [if_neg hn] at this
    exact this.elim
theorem runP_ok {P : Program} {W0 : World} {L : List (FuncId × Con)} (hE : EnvOk (mkE P W0 L)) {f : FuncId} {fn : Func} {c : Code} (hf : P.funcs[f]? = some fn) (hb : fn.body = some c) (h1 : once (loopsOf c) = true) (n d : Nat) {args : List AV} {hp : Heap} {t : Tree AV} (ht : t.Ang)
    (h : factL args → factH hp → ∀ K : AV → Prop, t.sem K → Holds (runP P W0 L fn c n d args hp) K) : CallOk P W0 f args hp (.pure t) := by
  refine CallOk.fact (fun u hu => by cases hu; exact ht) fun ha hh => ?_
  by_cases hn : args.length ≤ fn.ntmps
  · refine auto_pureOk hE hf hb h1 n d ht (decide_eq_true hn) fun K hk => chkP_sem ?_
    have := (h ha hh K hk).is
    unfold runP at this
    rwa [if_pos hn] at this
  · refine ⟨ht, fun K hk => ?_⟩
    have := (h ha hh K hk).is
    unfold runP at this
    rw [if_neg hn] at this
    exact this.elim
/-! ### The same for functions with loops that have summaries -/
def runEL (P : Program) (W0 : World) (L : List (FuncId × Con)) (loops : Nat → Option (St → Tree Res1)) (fn : Func) (c : Code) (n d : Nat) (args : List AV) (hp : Heap) : Tree (AV × Heap) :=
  if args.length ≤ fn.ntmps then chkT hp (runL P W0 L loops fn c n d args hp) else .stop
def runPL (P : Program) (W0 : World) (L : List (FuncId × Con)) (loops : Nat → Option (St → Tree Res1)) (fn : Func) (c : Code) (n d : Nat) (args : List AV) (hp : Heap) : Tree AV :=
  if args.length ≤ fn.ntmps then chkP hp (runL P W0 L loops fn c n d args hp) else .stop
theorem runEL_ok {P : Program} {W0 : World} {L : List (FuncId × Con)} (hE : EnvOk (mkE P W0 L)) {f : FuncId} {fn : Func} {c : Code} (hf : P.funcs[f]? = some fn) (hb : fn.body = some c) (h1 : once (loopsOf c) = true) (n d : Nat) {args : List AV} {hp : Heap} {t : Tree (AV × Heap)}
    (h : factL args → factH hp → ∀ K : AV × Heap → Prop, t.sem K → ∃ loops, SumsOk P W0 L hp.length c loops ∧ Holds (runEL P W0 L loops fn c n d args hp) K) : CallOk P W0 f args hp (.eff t) := by
  refine CallOk.fact (fun u hu => by simp at hu) fun ha hh => fun K hk => ?_
  obtain ⟨loops, hs, this⟩ := h ha hh K hk
  have this := this.is
  unfold runEL at this
  by_cases hn : args.length ≤ fn.ntmps
  · rw [if_pos hn] at this
    exact eff_ok (E := mkE P W0 L) (F := fnL P W0 L loops hp.length c n d) (t := chkT hp (runL P W0 L loops fn c n d args hp)) (FunOk.sums hE hf hb h1 hs n d) hn (by rw [fnL_n0]; exact Nat.le_refl _) (fun K hk => chkT_sem hk) K this
  · rw [if_neg hn] at this
    exact this.elim
theorem runPL_ok {P : Program} {W0 : World} {L : List (FuncId × Con)} (hE : EnvOk (mkE P W0 L)) {f : FuncId} {fn : Func} {c : Code} (hf : P.funcs[f]? = some fn) (hb : fn.body = some c) (h1 : once (loopsOf c) = true) (n d : Nat) {args : List AV} {hp : Heap} {t : Tree AV} (ht : t.Ang)
    (h : factL args → factH hp → ∃ loops, SumsOk P W0 L hp.length c loops ∧ ∀ K : AV → Prop, t.sem K → Holds (runPL P W0 L loops fn c n d args hp) K) : CallOk P W0 f args hp (.pure t) := by
  refine CallOk.fact (fun u hu => by cases hu; exact ht) fun ha hh => ?_
  obtain ⟨loops, hs, h⟩ := h ha hh
  by_cases hn : args.length ≤ fn.ntmps
  · refine pure_ok (E := mkE P W0 L) (F := fnL P W0 L loops hp.length c n d) (FunOk.sums hE hf hb h1 hs n d) ht hn (by rw [fnL_n0]; exact Nat.le_refl _) fun K hk => chkP_sem ?_
    have := (h K hk).is
    unfold runPL at this
    rwa [if_pos hn] at this
  · refine ⟨ht, fun K hk => ?_⟩
    have := (h K hk).is
    unfold runPL at this
    rw [if_neg hn] at this
    exact this.elim
end Go.Sx
