/-
  Contracts of functions over a small abstract memory, and a call in a larger one.
-/
import Derived.Test.YtafhbnafigjinaaSx6
set_option linter.unusedSimpArgs false
set_option linter.unusedVariables false
namespace Go.Sx

/-! ### Other names for the blocks -/
mutual
def ren (r : Nat → Nat) : AV → AV
  | .junk => .junk
  | .raw v => .raw v
  | .int k n => .int k n
  | .bool b => .bool b
  | .ptr id off => .ptr (r id) off
  | .slice id off len cap => .slice (r id) off len cap
  | .gsl id len => .gsl (r id) len
  | .agg cs => .agg (renL r cs)
  | .tup cs => .tup (renL r cs)
  | .fn f x y => .fn f (renL r x) (renL r y)
  | .iface t a => .iface t (ren r a)
  | .opt g a => .opt g (ren r a)
def renL (r : Nat → Nat) : List AV → List AV
  | [] => []
  | a :: as => ren r a :: renL r as
end
mutual
def ids : AV → List Nat
  | .ptr id _ => [id]
  | .slice id _ _ _ => [id]
  | .gsl id _ => [id]
  | .agg cs => idsL cs
  | .tup cs => idsL cs
  | .fn _ x y => idsL x ++ idsL y
  | .iface _ a => ids a
  | .opt _ a => ids a
  | _ => []
def idsL : List AV → List Nat
  | [] => []
  | a :: as => ids a ++ idsL as
end
mutual
theorem V_ren {β β' : Places} {r : Nat → Nat} : ∀ (a : AV) (v : Value), (∀ id ∈ ids a, ∀ p, β id = some p → β' (r id) = some p) → V β a v → V β' (ren r a) v
  | .junk, _, _, _ => by simp [V, ren]
  | .raw _, _, _, hv => by simpa [V, ren] using hv
  | .int .., _, _, hv => by simpa [V, ren] using hv
  | .bool _, _, _, hv => by simpa [V, ren] using hv
  | .ptr id _, _, h, hv => by simp only [V, ren] at *; obtain ⟨b, c, hb, rfl⟩ := hv; exact ⟨b, c, h id (by simp [ids]) _ hb, rfl⟩
  | .slice id .., _, h, hv => by simp only [V, ren] at *; obtain ⟨b, c, hb, rfl⟩ := hv; exact ⟨b, c, h id (by simp [ids]) _ hb, rfl⟩
  | .gsl id _, _, h, hv => by simp only [V, ren] at *; obtain ⟨b, c, hb, rfl, hl⟩ := hv; exact ⟨b, c, h id (by simp [ids]) _ hb, rfl, hl⟩
  | .agg cs, _, h, hv => by simp only [V, ren] at *; obtain ⟨vs, rfl, hl⟩ := hv; exact ⟨vs, rfl, VL_ren cs vs (by simpa [ids] using h) hl⟩
  | .tup cs, _, h, hv => by simp only [V, ren] at *; obtain ⟨vs, rfl, hl⟩ := hv; exact ⟨vs, rfl, VL_ren cs vs (by simpa [ids] using h) hl⟩
  | .fn _ x y, _, h, hv => by
    simp only [V, ren, ids, List.mem_append] at *
    obtain ⟨xs, ys, rfl, hx, hy⟩ := hv
    exact ⟨xs, ys, rfl, VL_ren x xs (fun id hi => h id (.inl hi)) hx, VL_ren y ys (fun id hi => h id (.inr hi)) hy⟩
  | .iface _ a, _, h, hv => by simp only [V, ren, ids] at *; obtain ⟨u, rfl, hu⟩ := hv; exact ⟨u, rfl, V_ren a u h hu⟩
  | .opt _ a, v, h, hv => by simp only [V, ren, ids] at *; exact ⟨fun hg => V_ren a v h (hv.1 hg), hv.2⟩
theorem VL_ren {β β' : Places} {r : Nat → Nat} : ∀ (cs : List AV) (vs : List Value), (∀ id ∈ idsL cs, ∀ p, β id = some p → β' (r id) = some p) → VL β cs vs → VL β' (renL r cs) vs
  | [], _, _, hv => by simpa [VL, renL] using hv
  | c :: cs, _, h, hv => by
    simp only [VL, renL, idsL, List.mem_append] at *
    obtain ⟨v, vs', rfl, h1, h2⟩ := hv
    exact ⟨v, vs', rfl, V_ren c v (fun id hi => h id (.inl hi)) h1, VL_ren cs vs' (fun id hi => h id (.inr hi)) h2⟩
end
mutual
theorem V_unren {β β' : Places} {r : Nat → Nat} : ∀ (a : AV) (v : Value), (∀ id ∈ ids a, ∀ p, β' (r id) = some p → β id = some p) → V β' (ren r a) v → V β a v
  | .junk, _, _, _ => by simp [V, ren]
  | .raw _, _, _, hv => by simpa [V, ren] using hv
  | .int .., _, _, hv => by simpa [V, ren] using hv
  | .bool _, _, _, hv => by simpa [V, ren] using hv
  | .ptr id _, _, h, hv => by simp only [V, ren] at *; obtain ⟨b, c, hb, rfl⟩ := hv; exact ⟨b, c, h id (by simp [ids]) _ hb, rfl⟩
  | .slice id .., _, h, hv => by simp only [V, ren] at *; obtain ⟨b, c, hb, rfl⟩ := hv; exact ⟨b, c, h id (by simp [ids]) _ hb, rfl⟩
  | .gsl id _, _, h, hv => by simp only [V, ren] at *; obtain ⟨b, c, hb, rfl, hl⟩ := hv; exact ⟨b, c, h id (by simp [ids]) _ hb, rfl, hl⟩
  | .agg cs, _, h, hv => by simp only [V, ren] at *; obtain ⟨vs, rfl, hl⟩ := hv; exact ⟨vs, rfl, VL_unren cs vs (by simpa [ids] using h) hl⟩
  | .tup cs, _, h, hv => by simp only [V, ren] at *; obtain ⟨vs, rfl, hl⟩ := hv; exact ⟨vs, rfl, VL_unren cs vs (by simpa [ids] using h) hl⟩
  | .fn _ x y, _, h, hv => by
    simp only [V, ren, ids, List.mem_append] at *
    obtain ⟨xs, ys, rfl, hx, hy⟩ := hv
    exact ⟨xs, ys, rfl, VL_unren x xs (fun id hi => h id (.inl hi)) hx, VL_unren y ys (fun id hi => h id (.inr hi)) hy⟩
  | .iface _ a, _, h, hv => by simp only [V, ren, ids] at *; obtain ⟨u, rfl, hu⟩ := hv; exact ⟨u, rfl, V_unren a u h hu⟩
  | .opt _ a, v, h, hv => by simp only [V, ren, ids] at *; exact ⟨fun hg => V_unren a v h (hv.1 hg), hv.2⟩
theorem VL_unren {β β' : Places} {r : Nat → Nat} : ∀ (cs : List AV) (vs : List Value), (∀ id ∈ idsL cs, ∀ p, β' (r id) = some p → β id = some p) → VL β' (renL r cs) vs → VL β cs vs
  | [], _, _, hv => by simpa [VL, renL] using hv
  | c :: cs, _, h, hv => by
    simp only [VL, renL, idsL, List.mem_append] at *
    obtain ⟨v, vs', rfl, h1, h2⟩ := hv
    exact ⟨v, vs', rfl, V_unren c v (fun id hi => h id (.inl hi)) h1, VL_unren cs vs' (fun id hi => h id (.inr hi)) h2⟩
end
mutual
/-- What names a block that is gone is known no more. -/
def scrub (live : Nat → Bool) : AV → AV
  | .ptr id off => if live id then .ptr id off else .junk
  | .slice id off len cap => if live id then .slice id off len cap else .junk
  | .gsl id len => if live id then .gsl id len else .junk
  | .agg cs => .agg (scrubL live cs)
  | .tup cs => .tup (scrubL live cs)
  | .fn f x y => .fn f (scrubL live x) (scrubL live y)
  | .iface t a => .iface t (scrub live a)
  | .opt g a => .opt g (scrub live a)
  | .junk => .junk
  | .raw v => .raw v
  | .int k n => .int k n
  | .bool b => .bool b
def scrubL (live : Nat → Bool) : List AV → List AV
  | [] => []
  | a :: as => scrub live a :: scrubL live as
end
mutual
theorem V_scrub {β β' : Places} {live : Nat → Bool} (h : ∀ id, live id = true → ∀ p, β id = some p → β' id = some p) : ∀ (a : AV) (v : Value), V β a v → V β' (scrub live a) v
  | .junk, _, _ => by simp [V, scrub]
  | .raw _, _, hv => by simpa [V, scrub] using hv
  | .int .., _, hv => by simpa [V, scrub] using hv
  | .bool _, _, hv => by simpa [V, scrub] using hv
  | .ptr id _, _, hv => by
    simp only [scrub]; split
    · rename_i hl; simp only [V] at *; obtain ⟨b, c, hb, rfl⟩ := hv; exact ⟨b, c, h id hl _ hb, rfl⟩
    · simp [V]
  | .slice id .., _, hv => by
    simp only [scrub]; split
    · rename_i hl; simp only [V] at *; obtain ⟨b, c, hb, rfl⟩ := hv; exact ⟨b, c, h id hl _ hb, rfl⟩
    · simp [V]
  | .gsl id _, _, hv => by
    simp only [scrub]; split
    · rename_i hl; simp only [V] at *; obtain ⟨b, c, hb, rfl, hl'⟩ := hv; exact ⟨b, c, h id hl _ hb, rfl, hl'⟩
    · simp [V]
  | .agg cs, _, hv => by simp only [V, scrub] at *; obtain ⟨vs, rfl, hl⟩ := hv; exact ⟨vs, rfl, VL_scrub h cs vs hl⟩
  | .tup cs, _, hv => by simp only [V, scrub] at *; obtain ⟨vs, rfl, hl⟩ := hv; exact ⟨vs, rfl, VL_scrub h cs vs hl⟩
  | .fn _ x y, _, hv => by
    simp only [V, scrub] at *
    obtain ⟨xs, ys, rfl, hx, hy⟩ := hv
    exact ⟨xs, ys, rfl, VL_scrub h x xs hx, VL_scrub h y ys hy⟩
  | .iface _ a, _, hv => by simp only [V, scrub] at *; obtain ⟨u, rfl, hu⟩ := hv; exact ⟨u, rfl, V_scrub h a u hu⟩
  | .opt _ a, v, hv => by simp only [V, scrub] at *; exact ⟨fun hg => V_scrub h a v (hv.1 hg), hv.2⟩
theorem VL_scrub {β β' : Places} {live : Nat → Bool} (h : ∀ id, live id = true → ∀ p, β id = some p → β' id = some p) : ∀ (cs : List AV) (vs : List Value), VL β cs vs → VL β' (scrubL live cs) vs
  | [], _, hv => by simpa [VL, scrubL] using hv
  | c :: cs, _, hv => by
    simp only [VL, scrubL] at *
    obtain ⟨v, vs', rfl, h1, h2⟩ := hv
    exact ⟨v, vs', rfl, V_scrub h c v h1, VL_scrub h cs vs' h2⟩
end
def scrubB (live : Nat → Bool) : Blk → Blk
  | .lit e cs => .lit e (scrubL live cs)
  | b => b
theorem B_scrub {β β' : Places} {live : Nat → Bool} (h : ∀ id, live id = true → ∀ p, β id = some p → β' id = some p) {c : Nat} {b : Blk} {o : Obj} (hb : B β c b o) : B β' c (scrubB live b) o := by
  cases b with
  | lit e cs => simp only [B, scrubB] at *; obtain ⟨vs, rfl, hl⟩ := hb; exact ⟨vs, rfl, VL_scrub h cs vs hl⟩
  | sym e cs => simpa [B, scrubB] using hb
  | row e sz kn cs => simpa [B, scrubB] using hb
def renB (r : Nat → Nat) : Blk → Blk
  | .lit e cs => .lit e (renL r cs)
  | b => b
def idsB : Blk → List Nat
  | .lit _ cs => idsL cs
  | _ => []
theorem B_ren {β β' : Places} {r : Nat → Nat} {c : Nat} {b : Blk} {o : Obj} (h : ∀ id ∈ idsB b, ∀ p, β id = some p → β' (r id) = some p) (hb : B β c b o) : B β' c (renB r b) o := by
  cases b with
  | lit e cs => simp only [B, renB] at *; obtain ⟨vs, rfl, hl⟩ := hb; exact ⟨vs, rfl, VL_ren cs vs h hl⟩
  | sym e cs => simpa [B, renB] using hb
  | row e sz kn cs => simpa [B, renB] using hb
theorem B_unren {β β' : Places} {r : Nat → Nat} {c : Nat} {b : Blk} {o : Obj} (h : ∀ id ∈ idsB b, ∀ p, β' (r id) = some p → β id = some p) (hb : B β' c (renB r b) o) : B β c b o := by
  cases b with
  | lit e cs => simp only [B, renB] at *; obtain ⟨vs, rfl, hl⟩ := hb; exact ⟨vs, rfl, VL_unren cs vs h hl⟩
  | sym e cs => simpa [B, renB] using hb
  | row e sz kn cs => simpa [B, renB] using hb

/-! ### What a call can reach -/
def addNew (seen : List Nat) : List Nat → List Nat
  | [] => seen
  | i :: is => if seen.contains i then addNew seen is else addNew (seen ++ [i]) is
def reach (hp : Heap) : Nat → List Nat → Nat → List Nat
  | 0, seen, _ => seen
  | f + 1, seen, pos => match seen[pos]? with
    | none => seen
    | some id => reach hp f (addNew seen (match hget hp id with | some b => idsB b | none => [])) (pos + 1)
def idx : List Nat → Nat → Nat
  | [], _ => 0
  | x :: xs, i => if x = i then 0 else idx xs i + 1
theorem idx_get : ∀ {σ : List Nat} {i : Nat}, i ∈ σ → σ[idx σ i]? = some i
  | x :: xs, i, h => by
    unfold idx
    split
    · rename_i e; simp [e]
    · rename_i e
      rcases List.mem_cons.1 h with rfl | h
      · exact absurd rfl e
      · simpa using idx_get h
theorem get_idx : ∀ {σ : List Nat} {k i : Nat}, σ.Nodup → σ[k]? = some i → idx σ i = k
  | [], _, _, _, h => by simp at h
  | x :: xs, 0, i, _, h => by simp at h; subst h; simp [idx]
  | x :: xs, k + 1, i, hn, h => by
    simp only [List.getElem?_cons_succ] at h
    have hm : i ∈ xs := List.mem_of_getElem? h
    have hne : x ≠ i := by rintro rfl; exact (List.nodup_cons.1 hn).1 hm
    unfold idx
    rw [if_neg hne, get_idx (List.nodup_cons.1 hn).2 h]
def nodupB : List Nat → Bool
  | [] => true
  | x :: xs => !xs.contains x && nodupB xs
theorem nodupB_spec : ∀ {σ : List Nat}, nodupB σ = true → σ.Nodup
  | [], _ => List.nodup_nil
  | x :: xs, h => by
    simp only [nodupB, Bool.and_eq_true, Bool.not_eq_true', List.contains_eq_mem, decide_eq_false_iff_not] at h
    exact List.nodup_cons.2 ⟨h.1, nodupB_spec h.2⟩
/-- All that is named is there, and all that it leads to. -/
def closedB (hp : Heap) (σ : List Nat) : Bool :=
  σ.all fun id => match hget hp id with
    | some b => (idsB b).all fun j => σ.contains j
    | none => false
theorem closedB_spec {hp : Heap} {σ : List Nat} (h : closedB hp σ = true) {id : Nat} (hi : id ∈ σ) : ∃ b, hget hp id = some b ∧ ∀ j ∈ idsB b, j ∈ σ := by
  have := List.all_eq_true.1 h id hi
  split at this
  · rename_i b hb
    exact ⟨b, hb, fun j hj => by simpa using List.all_eq_true.1 this j hj⟩
  · simp at this
def small (hp : Heap) (σ : List Nat) : Heap := σ.map fun id => (hget hp id).map (renB (idx σ))
theorem hget_eq : ∀ (h : Heap) (i : Nat), hget h i = (h[i]?).join
  | [], i => by simp [hget]
  | x :: h, 0 => by cases x <;> simp [hget]
  | x :: h, i + 1 => by simp [hget, hget_eq h i]
theorem hget_small {hp : Heap} {σ : List Nat} {k : Nat} : hget (small hp σ) k = match σ[k]? with | some id => (hget hp id).map (renB (idx σ)) | none => none := by
  rw [hget_eq, small, List.getElem?_map]
  cases σ[k]? <;> simp
def places (β : Places) (σ : List Nat) : Places := fun k => match σ[k]? with | some id => β id | none => none
open Classical in
noncomputable def frozen (T : Frz) (β : Places) (w : World) : Frz := fun i => if ∃ id p, β id = some p ∧ p.1 = i then none else w.heap[i]?

section
variable {W0 : World} {T : Frz} {β : Places} {hp : Heap} {w : World} {σ : List Nat}
theorem small_rel (h : HRel W0 T β hp w) (hn : nodupB σ = true) (hc : closedB hp σ = true) : HRel W0 (frozen T (places β σ) w) (places β σ) (small hp σ) w := by
  have hnd := nodupB_spec hn
  refine ⟨h.ro, h.sz, ?_, ?_, ?_, ?_, h.os, h.out, h.tape, h.nofz⟩
  · intro i o hi
    unfold frozen at hi
    split at hi
    · simp at hi
    · exact hi
  · intro k p hk
    unfold places at hk
    rw [hget_small]
    split at hk
    · rename_i id hid
      obtain ⟨b, hb, _⟩ := closedB_spec hc (List.mem_of_getElem? hid)
      exact ⟨renB (idx σ) b, by simp [hb]⟩
    · simp at hk
  · intro k b' hb'
    rw [hget_small] at hb'
    split at hb'
    · rename_i id hid
      obtain ⟨b, hb, hbs⟩ := closedB_spec hc (List.mem_of_getElem? hid)
      simp only [hb, Option.map_some, Option.some.injEq] at hb'
      subst hb'
      obtain ⟨n, c, o, h1, h2, h3, h4, h5⟩ := h.hp id b hb
      have hpk : places β σ k = some (n, c) := by simp [places, hid, h1]
      refine ⟨n, c, o, hpk, h2, ?_, h4, ?_⟩
      · unfold frozen
        rw [if_pos ⟨k, _, hpk, rfl⟩]
      · refine B_ren (fun j hj p hp' => ?_) h5
        simp [places, idx_get (hbs j hj), hp']
    · simp at hb'
  · intro k k' n c c' hk hk'
    unfold places at hk hk'
    split at hk
    · rename_i id hid
      split at hk'
      · rename_i id' hid'
        have := h.inj _ _ _ _ _ hk hk'
        subst this
        rw [← get_idx hnd hid, ← get_idx hnd hid']
      · simp at hk'
    · simp at hk
/-- A block of ours that is not handed on is among the frozen. -/
theorem frozen_other (h : HRel W0 T β hp w) {id n c : Nat} (hid : β id = some (n, c)) (hno : id ∉ σ) : ∃ o, w.heap[n]? = some o ∧ frozen T (places β σ) w n = some o := by
  obtain ⟨b, hb⟩ := h.live _ _ hid
  obtain ⟨n', c', o, h1, h2, h3, h4, h5⟩ := h.hp _ _ hb
  rw [hid] at h1
  obtain ⟨rfl, rfl⟩ := by simpa using h1
  refine ⟨o, h4, ?_⟩
  unfold frozen
  rw [if_neg]
  · exact h4
  · rintro ⟨k, p, hk, rfl⟩
    unfold places at hk
    split at hk
    · rename_i id' hid'
      have := h.inj id id' p.1 c p.2 hid (by simpa using hk)
      subst this
      exact hno (List.mem_of_getElem? hid')
    · simp at hk
theorem frozen_T (h : HRel W0 T β hp w) {i : Nat} {o : Obj} (hi : T i = some o) : frozen T (places β σ) w i = some o := by
  unfold frozen
  rw [if_neg]
  · exact h.fz i o hi
  · rintro ⟨k, p, hk, rfl⟩
    unfold places at hk
    split at hk
    · rename_i id hid
      obtain ⟨b, hb⟩ := h.live _ _ hk
      obtain ⟨n', c', o', h1, h2, h3, h4, h5⟩ := h.hp _ _ hb
      rw [hk] at h1
      obtain ⟨rfl⟩ := by simpa using h1
      simp [h3] at hi
    · simp at hk
/-- Behind a call that has changed nothing of ours. -/
theorem small_back (h : HRel W0 T β hp w) (hn : nodupB σ = true) (hc : closedB hp σ = true) {w' : World} (h' : HRel W0 (frozen T (places β σ) w) (places β σ) (small hp σ) w') : HRel W0 T β hp w' := by
  refine ⟨h'.ro, h'.sz, fun i o hi => h'.fz i o (frozen_T h hi), h.live, ?_, h.inj, h'.os, h'.out, h'.tape, h'.nofz⟩
  intro id b hb
  obtain ⟨n, c, o, h1, h2, h3, h4, h5⟩ := h.hp id b hb
  by_cases hm : id ∈ σ
  · have hk := idx_get hm
    have hs : hget (small hp σ) (idx σ id) = some (renB (idx σ) b) := by rw [hget_small]; simp [hk, hb]
    obtain ⟨n', c', o', g1, g2, g3, g4, g5⟩ := h'.hp _ _ hs
    have : places β σ (idx σ id) = some (n, c) := by simp [places, hk, h1]
    rw [this] at g1
    obtain ⟨rfl, rfl⟩ := by simpa using g1
    refine ⟨n, c, o', h1, h2, h3, g4, B_unren (fun j hj p hp' => ?_) g5⟩
    obtain ⟨b', hb', hbs⟩ := closedB_spec hc hm
    rw [hb] at hb'
    obtain rfl := by simpa using hb'
    simpa [places, idx_get (hbs j hj)] using hp'
  · obtain ⟨o', f1, f2⟩ := frozen_other h h1 hm
    refine ⟨n, c, o', h1, h2, h3, h'.fz _ _ f2, ?_⟩
    rw [f1] at h4
    obtain rfl := by simpa using h4
    exact h5
end
/-! ### Contracts -/
inductive CallT where
  | pure (t : Tree AV)
  | eff (t : Tree (AV × Heap))
abbrev Spec := List AV → Heap → CallT
def CallOk (P : Program) (W0 : World) (f : FuncId) (args : List AV) (hp : Heap) : CallT → Prop
  | .pure t => t.Ang ∧ ∀ (K : AV → Prop), t.sem K → ∀ (T : Frz) (β : Places) (argv : List Value) (w : World), VL β args argv → HRel W0 T β hp w →
      Calls P f argv.toArray w fun e w' => ∃ v x, K v ∧ e = .returned x ∧ V β v x ∧ HRel W0 T β hp w'
  | .eff t => ∀ (K : AV × Heap → Prop), t.sem K → ∀ (T : Frz) (β : Places) (argv : List Value) (w : World), VL β args argv → HRel W0 T β hp w →
      Calls P f argv.toArray w fun e w' => ∃ v x hp' β', K (v, hp') ∧ e = .returned x ∧ V β' v x ∧ HRel W0 T β' hp' w' ∧ (∀ id p, β id = some p → (hget hp' id).isSome → β' id = some p) ∧ hp.length ≤ hp'.length ∧ ∀ id, id < hp.length → (hget hp' id).isSome → (hget hp id).isSome
structure SpecOk (P : Program) (W0 : World) (f : FuncId) (S : Spec) : Prop where
  there : ∃ fn, P.funcs[f]? = some fn ∧ (fn.name == "runtime.NumGoroutine") = false ∧ fn.body.isNone = false
  ok : ∀ args hp, CallOk P W0 f args hp (S args hp)

def back (n : Nat) (σ : List Nat) (k : Nat) : Nat := match σ[k]? with | some id => id | none => n + (k - σ.length)
/-- Which blocks are there behind a call. -/
def liveB (σ : List Nat) (hp' : Heap) (id : Nat) : Bool := if σ.contains id then (hget hp' (idx σ id)).isSome else true
def allLive (σ : List Nat) (hp' : Heap) : Bool := σ.all fun id => (hget hp' (idx σ id)).isSome
def mergeH (bk : Nat → Nat) (sc : Blk → Blk) (σ : List Nat) (hp' : Heap) : Nat → Heap → Heap
  | _, [] => []
  | i, b :: hp => (if σ.contains i then (hget hp' (idx σ i)).map (renB bk) else b.map sc) :: mergeH bk sc σ hp' (i + 1) hp
theorem hget_mergeH {bk : Nat → Nat} {sc : Blk → Blk} {σ : List Nat} {hp' : Heap} : ∀ (hp : Heap) (i j : Nat), hget (mergeH bk sc σ hp' i hp) j = if j < hp.length then (if (i + j) ∈ σ then (hget hp' (idx σ (i + j))).map (renB bk) else (hget hp j).map sc) else none
  | [], i, j => by simp [mergeH, hget]
  | b :: hp, i, 0 => by
    simp only [mergeH, hget, List.length_cons, Nat.zero_lt_succ, if_true, Nat.add_zero, List.contains_eq_mem, decide_eq_true_eq]
  | b :: hp, i, j + 1 => by
    have ih := hget_mergeH (bk := bk) (sc := sc) (σ := σ) (hp' := hp') hp (i + 1) j
    rw [show i + 1 + j = i + (j + 1) by omega] at ih
    simp only [mergeH, hget, List.length_cons, ih, Nat.add_lt_add_iff_right]
theorem length_mergeH {bk : Nat → Nat} {sc : Blk → Blk} {σ : List Nat} {hp' : Heap} : ∀ (hp : Heap) (i : Nat), (mergeH bk sc σ hp' i hp).length = hp.length
  | [], _ => rfl
  | b :: hp, i => by simp [mergeH, length_mergeH hp]
def callT (S : Spec) (hp : Heap) (args : List AV) : CallT :=
  let σ := reach hp 60 (addNew [] (idsL args)) 0
  if nodupB σ && closedB hp σ && (idsL args).all fun j => σ.contains j then
    match S (renL (idx σ) args) (small hp σ) with
    | .pure t => .pure (t.bind fun v => .leaf (ren (back hp.length σ) v))
    | .eff t => .eff (t.bind fun r => .leaf (ren (back hp.length σ) r.1,
        mergeH (back hp.length σ) (if allLive σ r.2 then id else scrubB (liveB σ r.2)) σ r.2 0 hp ++ (r.2.drop σ.length).map (Option.map (renB (back hp.length σ)))))
  else .pure .stop
theorem hget_map (f : Blk → Blk) : ∀ (h : Heap) (i : Nat), hget (h.map (Option.map f)) i = (hget h i).map f
  | [], i => by simp [hget]
  | x :: h, 0 => by simp [hget]
  | x :: h, i + 1 => by simp [hget, hget_map f h i]
theorem hget_drop : ∀ (h : Heap) (n i : Nat), hget (h.drop n) i = hget h (n + i)
  | [], n, i => by simp [hget]
  | x :: h, 0, i => by simp
  | x :: h, n + 1, i => by rw [show n + 1 + i = (n + i) + 1 by omega]; simp [hget, hget_drop h n i]
theorem callT_ok {P : Program} {W0 : World} {f : FuncId} {S : Spec} (hS : SpecOk P W0 f S) (hp : Heap) (args : List AV) : CallOk P W0 f args hp (callT S hp args) := by
  unfold callT
  dsimp only
  generalize reach hp 60 (addNew [] (idsL args)) 0 = σ
  split
  · rename_i hchk
    simp only [Bool.and_eq_true, List.all_eq_true, List.contains_eq_mem, decide_eq_true_eq] at hchk
    obtain ⟨⟨hn, hc⟩, ha⟩ := hchk
    have hnd := nodupB_spec hn
    have hok := hS.ok (renL (idx σ) args) (small hp σ)
    have hargs : ∀ {β : Places} {argv : List Value}, VL β args argv → VL (places β σ) (renL (idx σ) args) argv := fun hv =>
      VL_ren args _ (fun j hj p hp' => by simp [places, idx_get (ha j hj), hp']) hv
    split
    · rename_i t ht
      rw [ht] at hok
      refine ⟨Tree.ang_bind hok.1 fun _ => trivial, ?_⟩
      intro K hk T β argv w hv h
      rw [Tree.sem_bind] at hk
      refine (hok.2 _ hk _ _ argv w (hargs hv) (small_rel h hn hc)).mono ?_
      rintro e w' ⟨v, x, h1, rfl, h2, h3⟩
      refine ⟨_, x, h1, rfl, V_ren v x (fun k _ p hk' => ?_) h2, small_back h hn hc h3⟩
      unfold places at hk'
      split at hk'
      · rename_i id hid
        simp [back, hid, hk']
      · simp at hk'
    · rename_i t ht
      rw [ht] at hok
      intro K hk T β argv w hv h
      rw [Tree.sem_bind] at hk
      refine (hok _ hk _ _ argv w (hargs hv) (small_rel h hn hc)).mono ?_
      rintro e w' ⟨v, x, hp', β', h1, rfl, h2, h3, h4, _, _⟩
      generalize hsc : (if allLive σ hp' then id else scrubB (liveB σ hp')) = sc at h1
      let bk := back hp.length σ
      let β2 : Places := fun id => if id ∈ σ then β' (idx σ id) else if id < hp.length then β id else β' (σ.length + (id - hp.length))
      let hp2 : Heap := mergeH bk sc σ hp' 0 hp ++ (hp'.drop σ.length).map (Option.map (renB bk))
      have hσlt : ∀ id ∈ σ, id < hp.length := fun id hi => by
        obtain ⟨b, hb, _⟩ := closedB_spec hc hi
        exact hget_lt hb
      have hget2 : ∀ id, hget hp2 id = if id ∈ σ then (hget hp' (idx σ id)).map (renB bk) else if id < hp.length then (hget hp id).map sc else (hget hp' (σ.length + (id - hp.length))).map (renB bk) := fun id => by
        show hget (mergeH bk sc σ hp' 0 hp ++ _) id = _
        rw [hget_append, length_mergeH, hget_mergeH, hget_map, hget_drop]
        simp only [Nat.zero_add]
        by_cases h1 : id ∈ σ
        · simp [h1, hσlt id h1]
        · by_cases h2 : id < hp.length <;> simp [h1, h2]
      have b1 : ∀ {id}, id ∈ σ → β2 id = β' (idx σ id) := fun hm => by simp only [β2, hm, if_true]
      have b2 : ∀ {id}, id ∉ σ → id < hp.length → β2 id = β id := fun hm hl => by simp only [β2, hm, if_false, hl, if_true]
      have b3 : ∀ {id}, id ∉ σ → ¬ id < hp.length → β2 id = β' (σ.length + (id - hp.length)) := fun hm hl => by simp only [β2, hm, if_false, hl]
      have hbk : ∀ k p, β' k = some p → β2 (bk k) = some p := fun k p hk' => by
        cases hσk : σ[k]? with
        | some id =>
          have e : bk k = id := by simp [bk, back, hσk]
          have hm := List.mem_of_getElem? hσk
          rw [e, b1 hm, get_idx hnd hσk]; exact hk'
        | none =>
          have e : bk k = hp.length + (k - σ.length) := by simp [bk, back, hσk]
          have hle : σ.length ≤ k := List.getElem?_eq_none_iff.1 hσk
          have hno : hp.length + (k - σ.length) ∉ σ := fun hm => by have := hσlt _ hm; omega
          rw [e, b3 hno (by omega), show σ.length + (hp.length + (k - σ.length) - hp.length) = k by omega]
          exact hk'
      -- what of ours is still there, is where it was
      have keep : ∀ id p, β id = some p → (hget hp2 id).isSome → β2 id = some p := fun id p hid hl => by
        by_cases hm : id ∈ σ
        · rw [b1 hm]
          refine h4 _ _ (by simp [places, idx_get hm, hid]) ?_
          rw [hget2, if_pos hm] at hl
          simpa using hl
        · obtain ⟨b, hb⟩ := h.live _ _ hid
          rw [b2 hm (hget_lt hb)]; exact hid
      have lives : ∀ id, liveB σ hp' id = true → ∀ p, β id = some p → β2 id = some p := fun id hl p hid => by
        refine keep id p hid ?_
        obtain ⟨b, hb⟩ := h.live _ _ hid
        rw [hget2]
        unfold liveB at hl
        by_cases hm : id ∈ σ
        · simp only [List.contains_eq_mem, hm, decide_true, if_true] at hl
          rw [if_pos hm]; simpa using hl
        · rw [if_neg hm, if_pos (hget_lt hb), hb]; rfl
      have hsc2 : ∀ {c b o}, B β c b o → B β2 c (sc b) o := fun hB => by
        rw [← hsc]
        split
        · rename_i hall
          refine B.ext (fun id p hid => lives id ?_ p hid) hB
          unfold liveB
          split
          · rename_i hm
            exact List.all_eq_true.1 hall id (by simpa using hm)
          · rfl
        · exact B_scrub lives hB
      have hlen2 : hp.length ≤ hp2.length := by
        show _ ≤ (mergeH bk sc σ hp' 0 hp ++ _).length
        rw [List.length_append, length_mergeH]; omega
      have hrev : ∀ id, id < hp.length → (hget hp2 id).isSome → (hget hp id).isSome := fun id hl hs => by
        rw [hget2] at hs
        by_cases hm : id ∈ σ
        · obtain ⟨b, hb, _⟩ := closedB_spec hc hm
          rw [hb]; rfl
        · rw [if_neg hm, if_pos hl] at hs
          simpa using hs
      refine ⟨_, x, hp2, β2, h1, rfl, V_ren v x (fun k _ p hk' => hbk k p hk') h2, ?_, keep, hlen2, hrev⟩
      have fromCallee : ∀ id b k b0, hget hp' k = some b0 → renB bk b0 = b → β2 id = β' k → ∃ n c o, β2 id = some (n, c) ∧ W0.heap.size ≤ n ∧ T n = none ∧ w'.heap[n]? = some o ∧ B β2 c b o := fun id b k b0 hb0 he hβ => by
        obtain ⟨n, c, o, g1, g2, g3, g4, g5⟩ := h3.hp k b0 hb0
        refine ⟨n, c, o, by rw [hβ, g1], g2, ?_, g4, ?_⟩
        · cases hT : T n with
          | none => rfl
          | some o' => rw [frozen_T h hT] at g3; simp at g3
        · rw [← he]; exact B_ren (fun j _ p hj => hbk j p hj) g5
      -- a block of the callee's is none of the others
      have apart : ∀ k id n c c', β' k = some (n, c) → β id = some (n, c') → id ∉ σ → False := fun k id n c c' hk' hid hno => by
        obtain ⟨o, f1, f2⟩ := frozen_other h hid hno
        obtain ⟨b, hb⟩ := h3.live _ _ hk'
        obtain ⟨n', c'', o', g1, g2, g3, g4, g5⟩ := h3.hp _ _ hb
        rw [hk'] at g1
        obtain ⟨rfl, rfl⟩ := by simpa using g1
        rw [f2] at g3; simp at g3
      refine ⟨h3.ro, h3.sz, fun i o hi => h3.fz i o (frozen_T h hi), ?_, ?_, ?_, h3.os, h3.out, h3.tape, h3.nofz⟩
      · intro id p hid
        rw [hget2]
        by_cases hm : id ∈ σ
        · rw [b1 hm] at hid
          obtain ⟨b, hb⟩ := h3.live _ _ hid
          rw [if_pos hm, hb]; exact ⟨_, rfl⟩
        · by_cases hl : id < hp.length
          · rw [b2 hm hl] at hid
            obtain ⟨b, hb⟩ := h.live _ _ hid
            rw [if_neg hm, if_pos hl, hb]; exact ⟨_, rfl⟩
          · rw [b3 hm hl] at hid
            obtain ⟨b, hb⟩ := h3.live _ _ hid
            rw [if_neg hm, if_neg hl, hb]; exact ⟨_, rfl⟩
      · intro id b hb
        rw [hget2] at hb
        by_cases hm : id ∈ σ
        · rw [if_pos hm] at hb
          cases hb0 : hget hp' (idx σ id) with
          | none => simp [hb0] at hb
          | some b0 =>
            simp only [hb0, Option.map_some, Option.some.injEq] at hb
            exact fromCallee id b _ b0 hb0 hb (b1 hm)
        · rw [if_neg hm] at hb
          by_cases hl : id < hp.length
          · rw [if_pos hl] at hb
            cases hb0 : hget hp id with
            | none => simp [hb0] at hb
            | some b0 =>
              simp only [hb0, Option.map_some, Option.some.injEq] at hb
              subst hb
              obtain ⟨n, c, o, g1, g2, g3, g4, g5⟩ := h.hp id b0 hb0
              obtain ⟨o', f1, f2⟩ := frozen_other h g1 hm
              rw [g4] at f1
              obtain rfl := by simpa using f1
              exact ⟨n, c, o, by rw [b2 hm hl, g1], g2, g3, h3.fz _ _ f2, hsc2 g5⟩
          · rw [if_neg hl] at hb
            cases hb0 : hget hp' (σ.length + (id - hp.length)) with
            | none => simp [hb0] at hb
            | some b0 =>
              simp only [hb0, Option.map_some, Option.some.injEq] at hb
              exact fromCallee id b _ b0 hb0 hb (b3 hm hl)
      · intro i j n c c' hi hj
        by_cases hmi : i ∈ σ
        · rw [b1 hmi] at hi
          by_cases hmj : j ∈ σ
          · rw [b1 hmj] at hj
            have e := h3.inj _ _ _ _ _ hi hj
            have h5 := idx_get hmi
            have h6 := idx_get hmj
            rw [e] at h5
            simpa using h5.symm.trans h6
          · by_cases hlj : j < hp.length
            · rw [b2 hmj hlj] at hj; exact (apart _ _ _ _ _ hi hj hmj).elim
            · rw [b3 hmj hlj] at hj
              have e := h3.inj _ _ _ _ _ hi hj
              have : idx σ i < σ.length := by
                have h5 := idx_get hmi
                exact (List.getElem?_eq_some_iff.1 h5).1
              omega
        · by_cases hli : i < hp.length
          · rw [b2 hmi hli] at hi
            by_cases hmj : j ∈ σ
            · rw [b1 hmj] at hj; exact (apart _ _ _ _ _ hj hi hmi).elim
            · by_cases hlj : j < hp.length
              · rw [b2 hmj hlj] at hj; exact h.inj _ _ _ _ _ hi hj
              · rw [b3 hmj hlj] at hj; exact (apart _ _ _ _ _ hj hi hmi).elim
          · rw [b3 hmi hli] at hi
            by_cases hmj : j ∈ σ
            · rw [b1 hmj] at hj
              have e := h3.inj _ _ _ _ _ hi hj
              have : idx σ j < σ.length := by
                have h5 := idx_get hmj
                exact (List.getElem?_eq_some_iff.1 h5).1
              omega
            · by_cases hlj : j < hp.length
              · rw [b2 hmj hlj] at hj; exact (apart _ _ _ _ _ hi hj hmj).elim
              · rw [b3 hmj hlj] at hj
                have e := h3.inj _ _ _ _ _ hi hj
                omega
  · exact ⟨trivial, fun K hk => hk.elim⟩
/-- A contract that leaves memory alone may be asked of a part of it. -/
theorem callT_part {P : Program} {W0 : World} {f : FuncId} {S : Spec} (hS : SpecOk P W0 f S) {hpc hp : Heap} {args : List AV} (hsub : ∀ id b, hget hpc id = some b → hget hp id = some b)
    (hlen : hpc.length = hp.length) {t : Tree AV} (ht : callT S hpc args = .pure t) : CallOk P W0 f args hp (.pure t) := by
  have hok := callT_ok hS hpc args
  unfold callT at ht hok
  dsimp only at ht hok
  generalize reach hpc 60 (addNew [] (idsL args)) 0 = σ at ht hok
  split at ht
  · rename_i hchk
    simp only [Bool.and_eq_true, List.all_eq_true, List.contains_eq_mem, decide_eq_true_eq] at hchk
    obtain ⟨⟨hn, hc⟩, ha⟩ := hchk
    have hc' : closedB hp σ = true := by
      refine List.all_eq_true.2 fun id hi => ?_
      obtain ⟨b, hb, hbs⟩ := closedB_spec hc hi
      rw [hsub _ _ hb]
      exact List.all_eq_true.2 fun j hj => by simpa using hbs j hj
    have hsm : small hpc σ = small hp σ := by
      unfold small
      refine List.map_congr_left fun id hi => ?_
      obtain ⟨b, hb, _⟩ := closedB_spec hc hi
      rw [hb, hsub _ _ hb]
    have hok' := hS.ok (renL (idx σ) args) (small hp σ)
    rw [hsm] at ht
    split at ht
    · rename_i t0 ht0
      rw [ht0] at hok'
      obtain rfl := by simpa using ht
      refine ⟨Tree.ang_bind hok'.1 fun _ => trivial, ?_⟩
      intro K hk T β argv w hv h
      rw [Tree.sem_bind] at hk
      refine (hok'.2 _ hk _ _ argv w (VL_ren args _ (fun j hj p hp' => by simp [places, idx_get (ha j hj), hp']) hv) (small_rel h hn hc')).mono ?_
      rintro e w' ⟨v, x, h1, rfl, h2, h3⟩
      refine ⟨_, x, h1, rfl, V_ren v x (fun k _ p hk' => ?_) h2, small_back h hn hc' h3⟩
      unfold places at hk'
      split at hk'
      · rename_i id hid
        simp [back, hid, hk']
      · simp at hk'
    · simp at ht
  · obtain rfl := by simpa using ht
    exact ⟨trivial, fun K hk => hk.elim⟩
end Go.Sx
