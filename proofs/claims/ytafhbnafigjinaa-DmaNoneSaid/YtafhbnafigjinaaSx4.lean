/-
  Structs, slices, tests, conversions; all operations that only compute or read, under one name.
-/
import Derived.Test.YtafhbnafigjinaaSx3
set_option linter.unusedSimpArgs false
set_option linter.unusedVariables false
namespace Go.Sx

/-! ### Structs and arrays by value -/
theorem toList_take {vs : List Value} {off n : Nat} : (vs.toArray.extract off (off + n)) = ((vs.drop off).take n).toArray := by
  simp [List.extract_toArray, List.extract_eq_take_drop]
def partT (P : Program) (T : TypeId) (cs : List AV) (off : Nat) : Tree AV :=
  match P.info? T, P.underlying T with
  | some i, some d =>
    if isAggD d then (if off + i.size ≤ cs.length then .leaf (.agg ((cs.drop off).take i.size)) else .stop)
    else match cs[off]? with
      | some c => force c
      | none => .stop
  | _, _ => .stop
theorem partT_ang {P : Program} {T : TypeId} {cs : List AV} {off : Nat} : (partT P T cs off).Ang := by
  unfold partT
  repeat' split
  all_goals first | trivial | exact force_ang _
theorem partT_ok {P : Program} {w : World} {β : Places} {T : TypeId} {cs : List AV} {vs : List Value} {off : Nat} (h : VL β cs vs) :
    Ok P w β (partT P T cs off) (part T vs.toArray off) := by
  unfold partT
  split
  · rename_i i d hi hd
    split
    · rename_i ha
      split
      · refine .leaf (v := .agg ((vs.drop off).take i.size).toArray) ?_ (by simp only [V]; exact ⟨_, rfl, (h.drop off).take _⟩)
        simp only [part, run_bind, run_isAgg hd, ha, if_true, run_sizeOf hi, run_pure, toList_take]
      · exact .stop
    · rename_i ha
      split
      · rename_i c hc
        obtain ⟨v, hv, hV⟩ := h.get off c hc
        intro K hk
        obtain ⟨a', h1, h2⟩ := force_sem hV hk
        refine ⟨a', v, h1, ?_, h2⟩
        simp only [part, run_bind, run_isAgg hd, ha, Bool.false_eq_true, if_false]
        simp [hv, run_pure]
      · exact .stop
  · exact .stop
def fieldT (P : Program) (T : TypeId) (x : AV) (f : Nat) : Tree AV :=
  match P.underlying T with
  | some (.struct fs) =>
    match fs[f]? with
    | some fd =>
      match x with
      | .agg cs => partT P fd.type cs fd.offset
      | _ => .stop
    | none => .stop
  | _ => .stop
theorem fieldT_ang {P : Program} {T : TypeId} {x : AV} {f : Nat} : (fieldT P T x f).Ang := by
  unfold fieldT
  repeat' split
  all_goals first | trivial | exact partT_ang
theorem fieldT_ok {P : Program} {w : World} {β : Places} {T : TypeId} {x : AV} {v : Value} {f : Nat} (hv : V β x v) :
    Ok P w β (fieldT P T x f) (Instr.field T v f) := by
  unfold fieldT
  split
  · rename_i fs hs
    split
    · rename_i fd hf
      split
      · rename_i cs
        simp only [V] at hv
        obtain ⟨vs, rfl, hl⟩ := hv
        intro K hk
        obtain ⟨a, u, h1, h2, h3⟩ := partT_ok (P := P) (w := w) hl K hk
        refine ⟨a, u, h1, ?_, h3⟩
        simp only [Instr.field, run_bind, run_underlying hs, hf, asAgg, run_pure, h2]
      · exact .stop
    · exact .stop
  · exact .stop
/-- The i-th of some numbers of one kind. -/
def selI (l : List Int) (i : Int) : Int := l.getD i.toNat 0
def ints (k : IntKind) : List AV → Option (List Int)
  | [] => some []
  | .int k' n :: cs => if k = k' then (ints k cs).map (n :: ·) else none
  | _ :: _ => none
theorem ints_spec {β : Places} {k : IntKind} : ∀ {cs : List AV} {vs : List Value} {l : List Int}, VL β cs vs → ints k cs = some l → ∀ i, i < cs.length → vs[i]? = some (.int k (l.getD i 0)) ∧ has k (l.getD i 0)
  | [], _, _, _, _, i, hi => by simp at hi
  | c :: cs, _, l, h, hl, i, hi => by
    simp only [VL] at h
    obtain ⟨v, vs', rfl, h1, h2⟩ := h
    cases c with
    | int k' n =>
      simp only [ints] at hl
      split at hl
      · rename_i e
        subst e
        cases hl' : ints k cs with
        | none => simp [hl'] at hl
        | some l' =>
          simp only [hl', Option.map_some, Option.some.injEq] at hl
          subst hl
          simp only [V] at h1
          cases i with
          | zero => simp [h1.1, h1.2]
          | succ i => simpa using ints_spec h2 hl' i (by simpa using hi)
      · simp at hl
    | _ => simp [ints] at hl
def indexT (P : Program) (T : TypeId) (x ix : AV) (ic : Bool) : Tree AV :=
  match ix with
  | .int _ i =>
    match P.underlying T with
    | some (.array len e) =>
      match P.info? e, P.underlying e with
      | some ei, some d =>
        match x with
        | .agg cs =>
          if ic then ixT true i len (partT P e cs (i.toNat * ei.size))
          else if isAggD d || ei.size != 1 || cs.length != len then .stop
          else match cs with
            | .int k n :: cs' =>
              match ints k (.int k n :: cs') with
              | some l => ixT false i len (.leaf (.int k (selI l i)))
              | none => .stop
            | _ => .stop
        | .raw (.agg arr) =>
          if isAggD d || ei.size != 1 then .stop else ixT ic i len (cellT (some d) arr[i.toNat]?)
        | _ => .stop
      | _, _ => .stop
    | _ => .stop
  | _ => .stop
theorem indexT_ang {P : Program} {T : TypeId} {x ix : AV} {ic : Bool} : (indexT P T x ix ic).Ang := by
  unfold indexT
  repeat' split
  all_goals first | trivial | exact ixT_ang partT_ang | exact ixT_ang (cellT_ang _ _) | exact ixT_ang trivial
theorem indexT_ok {P : Program} {w : World} {β : Places} {T : TypeId} {x ix : AV} {ic : Bool} {v u : Value} (hv : V β x v) (hu : V β ix u) :
    Ok P w β (indexT P T x ix ic) (Instr.index T v u) := by
  unfold indexT
  split
  · rename_i k i
    simp only [V] at hu
    obtain ⟨rfl, _⟩ := hu
    split
    · rename_i len e hT
      split
      · rename_i ei d hei hd
        have key : ∀ arr : Array Value, 0 ≤ i ∧ i < (len : Int) → (Instr.index T (.agg arr) (.int k i)).run P w = (part e arr (i.toNat * ei.size)).run P w := fun arr hi => by
          simp only [Instr.index, run_bind, asIntOf, run_pure, run_underlying hT, run_sizeOf hei, hi.1, hi.2, and_self, if_true]
        split
        · rename_i cs
          simp only [V] at hv
          obtain ⟨vs, rfl, hl⟩ := hv
          split
          · refine ixT_ok fun hi K hk => ?_
            obtain ⟨a, u, h1, h2, h3⟩ := partT_ok (P := P) (w := w) hl K hk
            exact ⟨a, u, h1, by rw [key _ hi, h2], h3⟩
          · split
            · exact .stop
            · rename_i hsz
              simp only [Bool.or_eq_true, bne_iff_ne, ne_eq, not_or, Bool.not_eq_true, Decidable.not_not] at hsz
              split
              · rename_i k' n cs'
                split
                · rename_i l hil
                  refine ixT_ok fun hi => ?_
                  obtain ⟨h1, h2⟩ := ints_spec hl hil i.toNat (by rw [hsz.2]; omega)
                  refine .leaf (v := .int k' (selI l i)) ?_ (V_int h2)
                  rw [key _ hi]
                  simp only [part, run_bind, run_isAgg hd, hsz.1.1, Bool.false_eq_true, if_false, hsz.1.2, Nat.mul_one]
                  simp [h1, run_pure, selI]
                · exact .stop
              · exact .stop
        · rename_i arr
          simp only [V] at hv
          subst hv
          split
          · exact .stop
          · rename_i hsz
            simp only [Bool.or_eq_true, bne_iff_ne, ne_eq, not_or, Bool.not_eq_true, Decidable.not_not] at hsz
            refine ixT_ok fun hi K hk => ?_
            obtain ⟨a, u, h1, h2, h3⟩ := cellT_sem (β := β) hk
            refine ⟨a, u, h1, ?_, h3⟩
            rw [key _ hi]
            simp only [part, run_bind, run_isAgg hd, hsz.1, Bool.false_eq_true, if_false, hsz.2, Nat.mul_one]
            simp [h2, run_pure]
        · exact .stop
      · exact .stop
    · exact .stop
  · exact .stop
def extractT (x : AV) (i : Nat) : Tree AV :=
  match x with
  | .tup vs => match vs[i]? with
    | some v => .leaf v
    | none => .stop
  | _ => .stop
theorem extractT_ang {x : AV} {i : Nat} : (extractT x i).Ang := by
  unfold extractT
  repeat' split
  all_goals trivial
theorem extractT_ok {P : Program} {w : World} {β : Places} {x : AV} {v : Value} {i : Nat} (hv : V β x v) : Ok P w β (extractT x i) (Instr.extract v i) := by
  unfold extractT
  split
  · rename_i cs
    simp only [V] at hv
    obtain ⟨vs, rfl, hl⟩ := hv
    split
    · rename_i c hc
      obtain ⟨u, hu, hV⟩ := hl.get i c hc
      refine .leaf (v := u) ?_ hV
      simp [Instr.extract, hu, run_pure]
    · exact .stop
  · exact .stop

/-- The cells of a value. -/
def cellsA : AV → Option (List AV)
  | .agg cs => some cs
  | .raw (.agg _) | .junk | .opt .. => none
  | x => some [x]
theorem cellsA_spec {β : Places} {x : AV} {v : Value} {cs : List AV} (hv : V β x v) (h : cellsA x = some cs) : VL β cs v.cells.toList := by
  have one : v.cells = #[v] → cs = [x] → VL β cs v.cells.toList := fun e e' => by
    subst e'; rw [e]; simp only [VL]; exact ⟨v, [], rfl, hv, rfl⟩
  cases x with
  | junk => simp [cellsA] at h
  | raw u =>
    simp only [V] at hv
    subst hv
    cases v <;> simp [cellsA] at h <;> exact one rfl h.symm
  | int k n => simp [cellsA] at h; simp only [V] at hv; exact one (by rw [hv.1]; rfl) h.symm
  | bool b => simp [cellsA] at h; simp only [V] at hv; exact one (by rw [hv]; rfl) h.symm
  | ptr id off => simp [cellsA] at h; have hv' := hv; simp only [V] at hv'; obtain ⟨n, c, _, e⟩ := hv'; exact one (by rw [e]; rfl) h.symm
  | slice id off len cap => simp [cellsA] at h; have hv' := hv; simp only [V] at hv'; obtain ⟨n, c, _, e⟩ := hv'; exact one (by rw [e]; rfl) h.symm
  | gsl id len => simp [cellsA] at h; have hv' := hv; simp only [V] at hv'; obtain ⟨n, c, _, e, _⟩ := hv'; exact one (by rw [e]; rfl) h.symm
  | agg cs' => simp [cellsA] at h; subst h; simp only [V] at hv; obtain ⟨vs, rfl, hl⟩ := hv; simpa [Value.cells] using hl
  | tup cs' => simp [cellsA] at h; have hv' := hv; simp only [V] at hv'; obtain ⟨vs, e, _⟩ := hv'; exact one (by rw [e]; rfl) h.symm
  | fn f a b => simp [cellsA] at h; have hv' := hv; simp only [V] at hv'; obtain ⟨xs, ys, e, _⟩ := hv'; exact one (by rw [e]; rfl) h.symm
  | iface t a => simp [cellsA] at h; have hv' := hv; simp only [V] at hv'; obtain ⟨u, e, _⟩ := hv'; exact one (by rw [e]; rfl) h.symm
  | opt g a => simp [cellsA] at h

def setMany : List AV → Nat → List AV → List AV
  | cs, _, [] => cs
  | cs, off, x :: xs => setMany (cs.set off x) (off + 1) xs
def setManyV : List Value → Nat → List Value → List Value
  | cs, _, [] => cs
  | cs, off, x :: xs => setManyV (cs.set off x) (off + 1) xs
theorem setMany_VL {β : Places} : ∀ {xs : List AV} {us : List Value} {cs : List AV} {vs : List Value} (off : Nat), VL β xs us → VL β cs vs → VL β (setMany cs off xs) (setManyV vs off us)
  | [], _, _, _, off, h, h' => by simp only [VL] at h; subst h; simpa [setMany, setManyV] using h'
  | x :: xs, _, _, _, off, h, h' => by
    simp only [VL] at h
    obtain ⟨v, vs', rfl, h1, h2⟩ := h
    exact setMany_VL (off + 1) h2 (h'.set h1 off)
theorem setManyV_length : ∀ (us : List Value) (vs : List Value) (off : Nat), (setManyV vs off us).length = vs.length
  | [], _, _ => rfl
  | u :: us, vs, off => by simp [setManyV, setManyV_length us]
theorem setMany_length : ∀ (us : List AV) (vs : List AV) (off : Nat), (setMany vs off us).length = vs.length
  | [], _, _ => rfl
  | u :: us, vs, off => by simp [setMany, setMany_length us]
theorem foldl_fill (off : Nat) : ∀ (us : List Value) (k : Nat) (vs : List Value),
    (us.zipIdx k).foldl (fun (cs : Array Value) (x : Value × Nat) => cs.setIfInBounds (off + x.2) x.1) vs.toArray = (setManyV vs (off + k) us).toArray
  | [], _, _ => rfl
  | u :: us, k, vs => by
    simp only [List.zipIdx_cons, List.foldl_cons, setManyV]
    rw [show vs.toArray.setIfInBounds (off + k) u = (vs.set (off + k) u).toArray by simp]
    rw [foldl_fill off us (k + 1)]
    rfl
def fillT (place : Nat → Option (Nat × Nat)) : List AV → List (Nat × AV) → Tree (List AV)
  | cs, [] => .leaf cs
  | cs, (i, x) :: rest => (force x).bind fun x =>
    match place i, cellsA x with
    | some (off, size), some xs => if xs.length = size ∧ off + xs.length ≤ cs.length then fillT place (setMany cs off xs) rest else .stop
    | _, _ => .stop
theorem fillT_ang (place : Nat → Option (Nat × Nat)) : ∀ (ps : List (Nat × AV)) (cs : List AV), (fillT place cs ps).Ang
  | [], cs => trivial
  | (i, x) :: rest, cs => Tree.ang_bind (force_ang _) fun a => by
    split
    · split
      · exact fillT_ang place rest _
      · trivial
    · trivial
/-- The parts, one by one. -/
def PL (β : Places) : List (Nat × AV) → List (Nat × Value) → Prop
  | [], us => us = []
  | (i, x) :: ps, us => ∃ v us', us = (i, v) :: us' ∧ V β x v ∧ PL β ps us'
theorem fillT_sem {β : Places} {place : Nat → Option (Nat × Nat)} {K : List AV → Prop} : ∀ {ps : List (Nat × AV)} {us : List (Nat × Value)} {cs : List AV} {vs : List Value},
    PL β ps us → VL β cs vs → (fillT place cs ps).sem K → ∃ as ws, K as ∧ VL β as ws ∧ Instr.fill place vs.toArray us = some ws.toArray ∧ ws.length = vs.length
  | [], us, cs, vs, hp, hc, hk => by simp only [PL] at hp; subst hp; exact ⟨cs, vs, hk, hc, rfl, rfl⟩
  | (i, x) :: ps, us, cs, vs, hp, hc, hk => by
    simp only [PL] at hp
    obtain ⟨v, us', rfl, h1, h2⟩ := hp
    simp only [fillT, Tree.sem_bind] at hk
    obtain ⟨a, hk, ha⟩ := force_sem h1 hk
    split at hk
    · rename_i off size xs hpl hcs
      split at hk
      · rename_i hsz
        have hxs := cellsA_spec ha hcs
        have hl1 := hxs.length
        have hl2 := hc.length
        simp only [Array.length_toList] at hl1
        obtain ⟨as, ws, h3, h4, h5, h6⟩ := fillT_sem h2 (setMany_VL off hxs hc) hk
        refine ⟨as, ws, h3, h4, ?_, by rw [h6, setManyV_length]⟩
        simp only [Instr.fill, hpl]
        rw [if_neg (by simp; omega)]
        rw [← h5]
        congr 1
        have := foldl_fill off v.cells.toList 0 vs
        simp only [Nat.add_zero] at this
        rw [← this, ← Array.toList_zipIdx, Array.foldl_toList]
      · exact hk.elim
    · exact hk.elim
def placesOf (P : Program) (fs : Array Field) : Nat → Option (Nat × Nat) := fun j =>
  match fs[j]? with
  | some fd => (P.info? fd.type).map fun i => (fd.offset, i.size)
  | none => none
def buildT (P : Program) (T : TypeId) (ps : List (Nat × AV)) : Tree AV :=
  match P.info? T, P.underlying T with
  | some i, some (.struct fs) =>
    match i.zero with
    | some z =>
      if fs.all fun fd => (P.info? fd.type).isSome then (fillT (placesOf P fs) (ofVals z.cells.toList) ps).bind fun cs => .leaf (.agg cs) else .stop
    | none => .stop
  | some i, some (.array _ e) =>
    match i.zero, P.info? e with
    | some z, some ei => (fillT (fun i => some (i * ei.size, ei.size)) (ofVals z.cells.toList) ps).bind fun cs => .leaf (.agg cs)
    | _, _ => .stop
  | _, _ => .stop
theorem buildT_ang {P : Program} {T : TypeId} {ps : List (Nat × AV)} : (buildT P T ps).Ang := by
  unfold buildT
  repeat' split
  all_goals first | trivial | exact Tree.ang_bind (fillT_ang _ _ _) fun _ => trivial
theorem run_zero {P : Program} {T : TypeId} {i : TypeInfo} {z : Value} (hi : P.info? T = some i) (hz : i.zero = some z) (w : World) : (zeroValue T).run P w = .ok z w := by
  simp [zeroValue, typeInfo, run_bind, program, Sem.run, hi, hz, run_pure]
theorem run_places {P : Program} {w : World} : ∀ (fs : List Field), (∀ fd ∈ fs, (P.info? fd.type).isSome) →
    (List.mapM (fun (f : Field) => (do pure (f.offset, ← sizeOf f.type) : Sem (Nat × Nat))) fs).run P w = .ok (fs.map fun fd => (fd.offset, ((P.info? fd.type).map (·.size)).getD 0)) w
  | [], _ => rfl
  | fd :: fs, h => by
    obtain ⟨i, hi⟩ := Option.isSome_iff_exists.1 (h fd (by simp))
    rw [List.mapM_cons]
    simp only [run_bind, run_sizeOf hi, run_pure, run_places fs (fun fd' h' => h fd' (by simp [h']))]
    simp [hi]
theorem buildT_ok {P : Program} {w : World} {β : Places} {T : TypeId} {ps : List (Nat × AV)} {us : List (Nat × Value)} (h : PL β ps us) :
    Ok P w β (buildT P T ps) (Instr.build T us.toArray) := by
  unfold buildT
  split
  · rename_i i fs hi hT
    split
    · rename_i z hz
      split
      · rename_i hall
        intro K hk
        rw [Tree.sem_bind] at hk
        obtain ⟨as, ws, h1, h2, h3, _⟩ := fillT_sem h (ofVals_VL β z.cells.toList) hk
        refine ⟨_, .agg ws.toArray, h1, ?_, by simp only [V]; exact ⟨ws, rfl, h2⟩⟩
        have hm := run_places (P := P) (w := w) fs.toList (fun fd hfd => by
          have := Array.all_eq_true'.1 hall fd (Array.mem_toList_iff.1 hfd); exact this)
        have hm' : (fs.mapM fun f => (do pure (f.offset, ← sizeOf f.type) : Sem (Nat × Nat))).run P w = .ok (fs.toList.map fun fd => (fd.offset, ((P.info? fd.type).map (·.size)).getD 0)).toArray w := by
          have e := Array.toList_mapM (m := Sem) (xs := fs) (f := fun f => (do pure (f.offset, ← sizeOf f.type) : Sem (Nat × Nat)))
          have e2 : (fs.mapM fun f => (do pure (f.offset, ← sizeOf f.type) : Sem (Nat × Nat))) = (List.toArray <$> List.mapM (fun f => (do pure (f.offset, ← sizeOf f.type) : Sem (Nat × Nat))) fs.toList) := by
            rw [Array.mapM_eq_mapM_toList]
          rw [e2, map_eq_pure_bind, run_bind, hm]
          rfl
        simp only [Instr.build, run_bind, run_zero hi hz, run_underlying hT, hm']
        have hpl : (fun x => (fs.toList.map fun fd => (fd.offset, ((P.info? fd.type).map (·.size)).getD 0)).toArray[x]?) = placesOf P fs := by
          funext j
          simp only [List.getElem?_toArray, List.getElem?_map, Array.getElem?_toList, placesOf]
          cases hfj : fs[j]? with
          | none => rfl
          | some fd =>
            have := Array.all_eq_true'.1 hall fd (Array.mem_of_getElem? hfj)
            obtain ⟨i', hi'⟩ := Option.isSome_iff_exists.1 this
            simp [hi']
        have h3' : Instr.fill (placesOf P fs) z.cells us = some ws.toArray := by simpa using h3
        rw [hpl]
        simp only [List.toList_toArray, h3', run_pure]
      · exact .stop
    · exact .stop
  · rename_i i n e hi hT
    split
    · rename_i z ei hz hei
      intro K hk
      rw [Tree.sem_bind] at hk
      obtain ⟨as, ws, h1, h2, h3, _⟩ := fillT_sem h (ofVals_VL β z.cells.toList) hk
      refine ⟨_, .agg ws.toArray, h1, ?_, by simp only [V]; exact ⟨ws, rfl, h2⟩⟩
      have h3' : Instr.fill (fun i => some (i * ei.size, ei.size)) z.cells us = some ws.toArray := by simpa using h3
      simp only [Instr.build, run_bind, run_zero hi hz, run_underlying hT, run_sizeOf hei, h3', run_pure]
    · exact .stop
  · exact .stop
end Go.Sx
