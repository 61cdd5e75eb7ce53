/-
  Append: the slice's block is left, a new one is known by its first cells.
-/
import Derived.Laws.AppendOwn
import Derived.Test.YtafhbnafigjinaaSx7
set_option linter.unusedSimpArgs false
set_option linter.unusedVariables false
namespace Go.Sx
theorem hget_mapO (f : Blk → Blk) : ∀ (h : Heap) (j : Nat), hget (h.map (Option.map f)) j = (hget h j).map f
  | [], _ => rfl
  | _ :: _, 0 => rfl
  | _ :: h, j + 1 => hget_mapO f h j
def killH (id : Nat) (hp : Heap) : Heap := (hp.set id none).map (Option.map (scrubB (fun j => j != id)))
def Places.del (β : Places) (id : Nat) : Places := fun j => if j = id then none else β j
theorem hget_kill (id : Nat) (hp : Heap) (j : Nat) : hget (killH id hp) j = if j = id then none else (hget hp j).map (scrubB (fun j => j != id)) := by
  unfold killH
  rw [hget_mapO, hget_set]
  by_cases e : j = id
  · subst e
    by_cases hl : j < hp.length
    · simp [hl]
    · have : hget hp j = none := by
        cases hh : hget hp j with
        | none => rfl
        | some b => exact absurd (hget_lt hh) hl
      simp [hl, this]
  · have : ¬ (id = j ∧ id < hp.length) := fun h => e h.1.symm
    simp [this, e]
theorem HRel.kill {W0 : World} {T : Frz} {β : Places} {hp : Heap} {w : World} (h : HRel W0 T β hp w) (id : Nat) : HRel W0 T (β.del id) (killH id hp) w := by
  refine ⟨h.ro, h.sz, h.fz, ?_, ?_, ?_, h.os, h.out, h.tape, h.nofz⟩
  · intro j p hj
    unfold Places.del at hj
    split at hj
    · simp at hj
    · rename_i e
      obtain ⟨b, hb⟩ := h.live j p hj
      exact ⟨_, by rw [hget_kill, if_neg e, hb]; rfl⟩
  · intro j b hj
    rw [hget_kill] at hj
    split at hj
    · simp at hj
    · rename_i e
      cases hb : hget hp j with
      | none => simp [hb] at hj
      | some b0 =>
        rw [hb] at hj
        obtain rfl : scrubB (fun j => j != id) b0 = b := by simpa using hj
        obtain ⟨n, c, o, h1, h2, h3, h4, h5⟩ := h.hp j b0 hb
        refine ⟨n, c, o, by simp [Places.del, e, h1], h2, h3, h4, B_scrub (fun i hi p hp => ?_) h5⟩
        simp only [bne_iff_ne] at hi
        simp [Places.del, hi, hp]
  · intro i j n c c' hi hj
    unfold Places.del at hi hj
    split at hi
    · simp at hi
    · split at hj
      · simp at hj
      · exact h.inj _ _ _ _ _ hi hj
theorem HRel.adopt {W0 : World} {T : Frz} {β : Places} {hp hp' : Heap} {w : World} (h : HRel W0 T β hp w) {id n c : Nat} {o : Obj} {b : Blk} (hn : hget hp id = none) (hs : ∀ j, hget hp' j = if j = id then some b else hget hp j)
    (h1 : W0.heap.size ≤ n) (h2 : T n = none) (h3 : w.heap[n]? = some o) (h4 : ∀ i c', β i ≠ some (n, c')) (hb : B (β.put id (n, c)) c b o) : HRel W0 T (β.put id (n, c)) hp' w := by
  have hβ := h.none_of hn
  have hext := Places.put_ext (p := (n, c)) hβ
  refine ⟨h.ro, h.sz, h.fz, ?_, ?_, ?_, h.os, h.out, h.tape, h.nofz⟩
  · intro i p hp
    unfold Places.put at hp
    rw [hs]
    split at hp
    · rename_i e; simp [e]
    · rename_i e; simp only [e, if_false]; exact h.live i p hp
  · intro i b' hb'
    rw [hs] at hb'
    split at hb'
    · rename_i e
      subst e
      obtain rfl := by simpa using hb'
      exact ⟨n, c, o, by simp [Places.put], h1, h2, h3, hb⟩
    · obtain ⟨n', c', o', g1, g2, g3, g4, g5⟩ := h.hp i b' hb'
      exact ⟨n', c', o', hext _ _ g1, g2, g3, g4, B.ext hext g5⟩
  · intro i j n' c1 c2 hi hj
    unfold Places.put at hi hj
    split at hi <;> split at hj
    · rename_i e1 e2; rw [e1, e2]
    · obtain ⟨rfl, _⟩ := by simpa using hi
      exact absurd hj (h4 _ _)
    · obtain ⟨rfl, _⟩ := by simpa using hj
      exact absurd hi (h4 _ _)
    · exact h.inj _ _ _ _ _ hi hj
/-- What is appended, off a block. -/
def newsB (size off m : Nat) : Blk → Tree (List Value × Bool × Nat)
  | .lit _ cs => if off + m * size ≤ cs.length then match valsA ((cs.drop off).take (m * size)) with
      | some us => onesT ((cs.drop off).take (m * size)) (.leaf (us, true, m))
      | none => .stop
    else .stop
  | .sym _ cs => .req (off + m * size ≤ cs.size ∧ ∀ v ∈ (cs.toList.drop off).take (m * size), oneV v = true) (.leaf ((cs.toList.drop off).take (m * size), false, m))
  | .row _ _ kn cs => .req (off + m * size ≤ cs.length ∧ ∀ v ∈ (cs.drop off).take (m * size), oneV v = true) (.leaf ((cs.drop off).take (m * size), kn, m))
def newsT (hp : Heap) (size : Nat) (y : AV) : Tree (List Value × Bool × Nat) :=
  match y with
  | .slice id off m _ => match hget hp id with
    | some b => newsB size off m b
    | none => .stop
  | .gsl id m => match hget hp id with
    | some b => newsB size 0 m b
    | none => .stop
  | _ => .stop
theorem cells_part {w : World} {n off k : Nat} {vs rest : List Value} {e : TypeId} (ho : w.heap[n]? = some (.cells (vs ++ rest).toArray e (0, 0))) (hl : off + k ≤ vs.length) :
    ((vs.drop off).take k).length = k ∧ ∀ j u, ((vs.drop off).take k)[j]? = some u → w.cell? ⟨n, off + j, none⟩ = some u := by
  refine ⟨by simp; omega, fun j u hu => ?_⟩
  rw [cell_of ho]
  simp only [List.getElem?_toArray]
  rw [List.getElem?_take] at hu
  split at hu
  · rw [List.getElem?_drop] at hu
    rw [List.getElem?_append_left (by omega)]
    exact hu
  · simp at hu
theorem newsB_sem {w : World} {β : Places} {size off m n c : Nat} {b : Blk} {o : Obj} (ho : w.heap[n]? = some o) (hB : B β c b o) {K : List Value × Bool × Nat → Prop} (hk : (newsB size off m b).sem K) :
    ∃ us kn, K (us, kn, m) ∧ us.length = m * size ∧ (∀ j u, us[j]? = some u → w.cell? ⟨n, off + j, none⟩ = some u) ∧ ∀ u ∈ us, oneV u = true := by
  cases b with
  | lit e cs =>
    simp only [newsB] at hk
    simp only [B] at hB
    obtain ⟨vs, rfl, hvl⟩ := hB
    split at hk
    · rename_i hle
      split at hk
      · rename_i us hus
        obtain ⟨h1, hk⟩ := onesT_sem hk
        have hv := (hvl.drop off).take (m * size)
        have e := valsA_spec hus hv
        have hlen := hvl.length
        obtain ⟨p1, p2⟩ := cells_part (rest := []) (by simpa using ho) (show off + m * size ≤ vs.length by omega)
        rw [e] at p1 p2 hv
        exact ⟨us, true, hk, p1, p2, onesA_spec h1 hv⟩
      · exact hk.elim
    · exact hk.elim
  | sym e cs =>
    simp only [newsB] at hk
    simp only [B] at hB
    subst hB
    obtain ⟨⟨h1, h2⟩, hk⟩ := hk
    obtain ⟨p1, p2⟩ := cells_part (vs := cs.toList) (rest := []) (by simpa using ho) (show off + m * size ≤ cs.toList.length by simpa using h1)
    exact ⟨_, _, hk, p1, p2, h2⟩
  | row e sz kn cs =>
    simp only [newsB] at hk
    simp only [B] at hB
    obtain ⟨rest, rfl, _⟩ := hB
    obtain ⟨⟨h1, h2⟩, hk⟩ := hk
    obtain ⟨p1, p2⟩ := cells_part ho h1
    exact ⟨_, _, hk, p1, p2, h2⟩
theorem newsT_sem {W0 : World} {T : Frz} {β : Places} {hp : Heap} {w : World} (h : HRel W0 T β hp w) {size : Nat} {y : AV} {v : Value} (hv : V β y v) {K : List Value × Bool × Nat → Prop} (hk : (newsT hp size y).sem K) :
    ∃ us kn m a c, K (us, kn, m) ∧ v = .slice (some a) m c ∧ us.length = m * size ∧ (∀ j u, us[j]? = some u → w.cell? (a.add j) = some u) ∧ ∀ u ∈ us, oneV u = true := by
  unfold newsT at hk
  split at hk
  · rename_i id off m cap
    simp only [V] at hv
    obtain ⟨n, c, hβ, rfl⟩ := hv
    split at hk
    · rename_i b hb
      obtain ⟨n', c', o, h1, _, _, h4, h5⟩ := h.hp id b hb
      rw [hβ] at h1; obtain ⟨rfl, rfl⟩ := by simpa using h1
      obtain ⟨us, kn, g1, g2, g3, g4⟩ := newsB_sem h4 h5 hk
      exact ⟨us, kn, m, _, _, g1, rfl, g2, fun j u hu => by rw [addr_add]; exact g3 j u hu, g4⟩
    · exact hk.elim
  · rename_i id m
    simp only [V] at hv
    obtain ⟨n, c, hβ, rfl, _⟩ := hv
    split at hk
    · rename_i b hb
      obtain ⟨n', c', o, h1, _, _, h4, h5⟩ := h.hp id b hb
      rw [hβ] at h1; obtain ⟨rfl, rfl⟩ := by simpa using h1
      obtain ⟨us, kn, g1, g2, g3, g4⟩ := newsB_sem h4 h5 hk
      exact ⟨us, kn, m, _, _, g1, rfl, g2, fun j u hu => by rw [addr_add]; exact g3 j u hu, g4⟩
    · exact hk.elim
  · exact hk.elim
/-- The slice and the memory behind an append. -/
def grownT (i : TypeInfo) (e : TypeId) (hp' : Heap) (olds : List Value) (kn0 : Bool) (n : Nat) (id : Nat) (r : List Value × Bool × Nat) : Tree (AV × Heap) :=
  .ask (.d ((n + r.2.2) * i.bytes ≤ 140737488355328 ∧ n + r.2.2 ≤ 9223372036854775807 ∧ 0 < r.2.2)) (.leaf (.gsl id (n + r.2.2), hp' ++ [some (.row e i.size (kn0 && r.2.1) (olds ++ r.1))]))
def appendT (P : Program) (t : TypeId) (hp : Heap) (x y : AV) : Tree (AV × Heap) :=
  match P.underlying t with
  | some (.slice e) => match P.info? e with
    | some i => match i.zero with
      | some z => if z.cells.size = i.size then
          match x with
          | .raw (.slice none 0 0) => (newsT hp i.size y).bind fun r => grownT i e hp [] true 0 hp.length r
          | .gsl id n => match hget hp id with
            | some (.row e' sz kn cs) => if e' = e ∧ sz = i.size then
                .ask (.d (n * i.size ≤ cs.length)) ((newsT hp i.size y).bind fun r => grownT i e (killH id hp) (cs.take (n * i.size)) kn n hp.length r)
              else .stop
            | _ => .stop
          | _ => .stop
        else .stop
      | none => .stop
    | none => .stop
  | _ => .stop
theorem hget_at_end (hp : Heap) (b : Blk) (j : Nat) : hget (hp ++ [some b]) j = if j = hp.length then some b else hget hp j := by
  rw [hget_append]
  by_cases hl : j < hp.length
  · rw [if_pos hl, if_neg (by omega)]
  · rw [if_neg hl]
    by_cases e : j = hp.length
    · subst e; simp [hget]
    · rw [if_neg e]
      have : j - hp.length = (j - hp.length - 1) + 1 := by omega
      rw [this]
      simp only [hget]
      cases hh : hget hp j with
      | none => rfl
      | some b => exact absurd (hget_lt hh) (by omega)
theorem hget_end (hp : Heap) : hget hp hp.length = none := by
  cases hh : hget hp hp.length with
  | none => rfl
  | some b => exact absurd (hget_lt hh) (Nat.lt_irrefl _)
theorem killH_length (id : Nat) (hp : Heap) : (killH id hp).length = hp.length := by simp [killH]
theorem oneCell_of {u : Value} (h : oneV u = true) : u.oneCell' = true := by cases u <;> simp_all [oneV, Value.oneCell']
theorem appendT_ok {P : Program} {W0 : World} {T : Frz} {β : Places} {hp : Heap} {w : World} (h : HRel W0 T β hp w) {t ty : TypeId} {x y : AV} {u v : Value} (hu : V β x u) (hv : V β y v) {K : AV × Heap → Prop} (hk : (appendT P t hp x y).sem K) :
    ∃ r v' w' β', K r ∧ (Builtin.append_ #[t, t] ty #[u, v]).run P w = .ok v' w' ∧ V β' r.1 v' ∧ HRel W0 T β' r.2 w' ∧ hp.length ≤ r.2.length ∧ (∀ id p, β id = some p → (hget r.2 id).isSome → β' id = some p) ∧ ∀ id, id < hp.length → (hget r.2 id).isSome → (hget hp id).isSome := by
  unfold appendT at hk
  split at hk
  · rename_i e ht
    split at hk
    · rename_i i hi
      split at hk
      · rename_i z hz
        split at hk
        · rename_i hzs
          split at hk
          · simp only [V] at hu
            subst hu
            rw [Tree.sem_bind] at hk
            obtain ⟨us, kn, m, a, c, hk, rfl, hl, hcell, hone⟩ := newsT_sem h hv hk
            obtain ⟨⟨hb, h63, h0⟩, hk⟩ := hk
            simp only [Nat.zero_add] at hb h63 h0
            have hrun := run_append_nil (P := P) w t ty e i z ht hi hz a m c us hl hcell h0 (by omega) (by omega)
            have hge := grownCap_ge w m 0 e
            have hn := h.drew.new (hp' := hp ++ [some (.row e i.size (true && kn) ([] ++ us))]) (id := hp.length) (c := grownCap w m 0 e)
              (o := .cells (us.toArray ++ Builtin.zeroCells z.cells (grownCap w m 0 e - m)) e) (b := .row e i.size (true && kn) ([] ++ us)) (hget_end hp) (hget_at_end hp _) (by
                simp only [B]
                refine ⟨(Builtin.zeroCells z.cells (grownCap w m 0 e - m)).toList, by simp, ?_⟩
                simp only [List.nil_append, Array.length_toList, size_zeroCells, hzs, hl, ← Nat.add_mul]
                congr 1; omega)
            refine ⟨_, _, _, _, hk, hrun, ?_, hn, by simp, ?_, fun id hid hs => by rw [hget_at_end, if_neg (by omega)] at hs; exact hs⟩
            · simp only [V, Nat.zero_add]
              exact ⟨w.heap.size, _, by simp [Places.put], rfl, hge⟩
            · intro id p hp _
              unfold Places.put
              split
              · rename_i e; subst e; rw [h.none_of (hget_end _)] at hp; simp at hp
              · exact hp
          · rename_i id n
            split at hk
            · rename_i e' sz kn cs hb
              split at hk
              · rename_i hes
                obtain ⟨he, rfl⟩ := hes
                rw [he] at hb
                obtain ⟨hcs, hk⟩ := hk
                replace hcs : n * i.size ≤ cs.length := hcs
                simp only [V] at hu
                obtain ⟨g, cap, hβ, rfl, hncap⟩ := hu
                rw [Tree.sem_bind] at hk
                obtain ⟨us, kn', m, a, c, hk, rfl, hl, hcell, hone⟩ := newsT_sem h hv hk
                obtain ⟨⟨hbb, h63, h0⟩, hk⟩ := hk
                simp only at hbb h63 h0
                obtain ⟨g', cap', o, h1, h2, h3, h4, h5⟩ := h.hp id _ hb
                rw [hβ] at h1
                obtain ⟨rfl, rfl⟩ := by simpa using h1
                simp only [B] at h5
                obtain ⟨rest, rfl, htot⟩ := h5
                have hlo : (cs.take (n * i.size)).length = n * i.size := by simp; omega
                have hkeep : ∀ (pl : Nat × Nat) (b' : Blk) (id' : Nat) (p : Nat × Nat), β id' = some p → (hget (killH id hp ++ [some b']) id').isSome → ((β.del id).put hp.length pl) id' = some p := fun pl b' id' p hp' hs => by
                  have hne : id' ≠ hp.length := fun e => by rw [e, h.none_of (hget_end _)] at hp'; simp at hp'
                  have hnd : id' ≠ id := fun e => by
                    rw [hget_at_end, killH_length, if_neg hne, hget_kill, if_pos e] at hs
                    simp at hs
                  simp [Places.put, Places.del, hne, hnd, hp']
                have hback : ∀ (b' : Blk) (id' : Nat), id' < hp.length → (hget (killH id hp ++ [some b']) id').isSome → (hget hp id').isSome := fun b' id' hl hs => by
                  rw [hget_at_end, killH_length, if_neg (by omega), hget_kill] at hs
                  split at hs
                  · simp at hs
                  · simpa using hs
                by_cases hroom : n + m ≤ cap
                · have hcursz : n * i.size + us.length ≤ (cs ++ rest).toArray.size := by
                    simp only [List.size_toArray, List.length_append, htot, hl, ← Nat.add_mul]
                    exact Nat.mul_le_mul_right _ hroom
                  have hrun := run_append_room (P := P) w t ty e i ht hi g n cap (cs ++ rest).toArray h4 a m c us hl hcell (fun u hu => oneCell_of (hone u hu)) hroom hcursz
                  let new := ((cs ++ rest).toArray.toList.take (n * i.size) ++ us ++ (cs ++ rest).toArray.toList.drop (n * i.size + us.length))
                  have hnew : new = cs.take (n * i.size) ++ us ++ (cs ++ rest).drop (n * i.size + us.length) := by
                    show ((cs ++ rest).take _ ++ us ++ (cs ++ rest).drop _) = _
                    rw [List.take_append_of_le_length hcs]
                  have hlen : (cs.take (n * i.size) ++ us).length + ((cs ++ rest).drop (n * i.size + us.length)).length = cap * i.size := by
                    simp only [List.size_toArray, List.length_append] at hcursz
                    simp only [List.length_append, List.length_drop, hlo]
                    omega
                  have hobj : B β cap (.row e i.size (kn && kn') (cs.take (n * i.size) ++ us)) (.cells new.toArray e (0, 0)) := by
                    simp only [B]
                    exact ⟨_, by rw [hnew], hlen⟩
                  have hw := h.write (hp' := hp.set id (some (.row e i.size (kn && kn') (cs.take (n * i.size) ++ us)))) (id := id) (n := g) (c := cap) (heap' := (w.setRow g new.toArray).heap) hb hβ hobj (fun j => by
                      rw [hget_set]
                      by_cases e : id = j
                      · subst e; simp [hget_lt hb]
                      · rw [if_neg (fun hh => e hh.1), if_neg (fun hh => e hh.symm)]) (by simp [World.setRow]) (setRow_heap w g _ _ e _ h4) (fun k hk' => setRow_other w g k _ hk')
                  have hkl := hw.kill id
                  have hks : killH id (hp.set id (some (.row e i.size (kn && kn') (cs.take (n * i.size) ++ us)))) = killH id hp := by
                    unfold killH
                    rw [List.set_set]
                  rw [hks] at hkl
                  have had := hkl.adopt (id := hp.length) (n := g) (c := cap) (b := .row e i.size (kn && kn') (cs.take (n * i.size) ++ us)) (hp' := killH id hp ++ [some (.row e i.size (kn && kn') (cs.take (n * i.size) ++ us))])
                    (by rw [hget_kill]; split <;> simp [hget_end]) (fun j => by rw [hget_at_end, killH_length]) h2 h3 (setRow_heap w g _ _ e _ h4) (fun j c' hj => by
                      unfold Places.del at hj
                      split at hj
                      · simp at hj
                      · rename_i hne; exact hne (h.inj _ _ _ _ _ hj hβ)) (by simpa [B] using hobj)
                  refine ⟨_, _, _, _, hk, hrun, ?_, had, by simp [killH_length], hkeep _ _, hback _⟩
                  simp only [V]
                  exact ⟨g, cap, by simp [Places.put], rfl, hroom⟩
                · have hold : ∀ j v, (cs.take (n * i.size))[j]? = some v → w.cell? ((⟨g, 0, none⟩ : Addr).add j) = some v := fun j v hj => by
                    rw [addr_add]
                    have := (cells_part (off := 0) (k := n * i.size) h4 (by omega)).2 j v (by simpa using hj)
                    simpa using this
                  have hrun := run_append_grow (P := P) w t ty e i z ht hi hz ⟨g, 0, none⟩ n cap _ hlo hold a m c us hl hcell (by omega) (by omega) (growslice_fits (by omega) hbb)
                  have hge := grownCap_ge w (n + m) cap e
                  have hkl := (h.drew.kill id)
                  have hn := hkl.new (hp' := killH id hp ++ [some (.row e i.size (kn && kn') (cs.take (n * i.size) ++ us))]) (id := hp.length) (c := grownCap w (n + m) cap e)
                    (o := .cells ((cs.take (n * i.size)).toArray ++ us.toArray ++ Builtin.zeroCells z.cells (grownCap w (n + m) cap e - (n + m))) e) (b := .row e i.size (kn && kn') (cs.take (n * i.size) ++ us))
                    (by rw [hget_kill]; split <;> simp [hget_end]) (fun j => by rw [hget_at_end, killH_length]) (by
                      simp only [B]
                      refine ⟨(Builtin.zeroCells z.cells (grownCap w (n + m) cap e - (n + m))).toList, by simp, ?_⟩
                      simp only [List.length_append, hlo, Array.length_toList, size_zeroCells, hzs, hl, ← Nat.add_mul]
                      congr 1; omega)
                  refine ⟨_, _, _, _, hk, hrun, ?_, hn, by simp [killH_length], hkeep _ _, hback _⟩
                  simp only [V]
                  exact ⟨w.heap.size, _, by simp [Places.put], rfl, hge⟩
              · exact hk.elim
            · exact hk.elim
          · exact hk.elim
        · exact hk.elim
      · exact hk.elim
    · exact hk.elim
  · exact hk.elim
theorem appendT_ang {P : Program} {t : TypeId} {hp : Heap} {x y : AV} : (appendT P t hp x y).Ang := by
  have hb : ∀ {size off m : Nat} {b : Blk}, (newsB size off m b).Ang := fun {size off m b} => by
    cases b with
    | lit e cs =>
      simp only [newsB, onesT]
      repeat' split
      all_goals trivial
    | sym e cs => trivial
    | row e sz kn cs => trivial
  have hn : ∀ {size : Nat}, (newsT hp size y).Ang := fun {size} => by
    unfold newsT
    split
    · split
      · exact hb
      · trivial
    · split
      · exact hb
      · trivial
    · trivial
  unfold appendT
  repeat' split
  all_goals first | trivial | exact Tree.ang_bind hn fun _ => trivial
end Go.Sx
