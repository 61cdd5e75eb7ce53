/-
  Abstract values, abstract memory and trees of questions: the ground of a symbolic run of the model's code.
-/
import Derived.Orders
import Derived.Scope
namespace Go.Sx

/-! ### Integers -/
def lo : IntKind → Int
  | .i8 => -128 | .i16 => -32768 | .i32 => -2147483648 | .i64 => -9223372036854775808 | _ => 0
def hi : IntKind → Int
  | .i8 => 127 | .i16 => 32767 | .i32 => 2147483647 | .i64 => 9223372036854775807
  | .u8 => 255 | .u16 => 65535 | .u32 => 4294967295 | .u64 => 18446744073709551615
/-- A number of a kind. -/
def has (k : IntKind) (n : Int) : Prop := lo k ≤ n ∧ n ≤ hi k
instance (k : IntKind) (n : Int) : Decidable (has k n) := inferInstanceAs (Decidable (_ ∧ _))
/-- The model's wrap, by plain numerals. -/
def wr : IntKind → Int → Int
  | .u8, n => n % 256
  | .u16, n => n % 65536
  | .u32, n => n % 4294967296
  | .u64, n => n % 18446744073709551616
  | .i8, n => (n + 128) % 256 - 128
  | .i16, n => (n + 32768) % 65536 - 32768
  | .i32, n => (n + 2147483648) % 4294967296 - 2147483648
  | .i64, n => (n + 9223372036854775808) % 18446744073709551616 - 9223372036854775808
theorem wrap_eq (k : IntKind) (n : Int) : k.wrap n = wr k n := by
  cases k <;> simp only [IntKind.wrap, wr, IntKind.bits, IntKind.signed, Nat.reduceSub, Int.reducePow, Bool.true_and, Bool.false_and, Bool.false_eq_true, if_false] <;> first | rfl | (split <;> rename_i h <;> simp only [decide_eq_true_eq, ge_iff_le] at h <;> omega)
theorem wr_has (k : IntKind) (n : Int) : has k (wr k n) := by
  cases k <;> simp only [has, lo, hi, wr] <;> omega
theorem wr_of_has {k : IntKind} {n : Int} (h : has k n) : wr k n = n := by
  cases k <;> simp only [has, lo, hi, wr] at * <;> omega

/-! ### Abstract values -/
inductive AV where
  | junk
  | raw (v : Value)
  | int (k : IntKind) (n : Int)
  | bool (b : Bool)
  | ptr (id off : Nat)
  | slice (id off len cap : Nat)
  | gsl (id len : Nat)
  | agg (cs : List AV)
  | tup (vs : List AV)
  | fn (f : Fn) (first captured : List AV)
  | iface (t : TypeId) (v : AV)
  | opt (g : Bool) (v : AV)
  deriving Inhabited

/-- Where the blocks lie: a block's number, and its capacity. -/
abbrev Places := Nat → Option (Nat × Nat)

mutual
/-- An abstract value says this of a value. -/
def V (β : Places) : AV → Value → Prop
  | .junk, _ => True
  | .raw u, v => v = u
  | .int k n, v => v = .int k n ∧ has k n
  | .bool b, v => v = .bool b
  | .ptr id off, v => ∃ b c, β id = some (b, c) ∧ v = .pointer (some ⟨b, off, none⟩)
  | .slice id off len cap, v => ∃ b c, β id = some (b, c) ∧ v = .slice (some ⟨b, off, none⟩) len cap
  | .gsl id len, v => ∃ b c, β id = some (b, c) ∧ v = .slice (some ⟨b, 0, none⟩) len c ∧ len ≤ c
  | .agg cs, v => ∃ vs : List Value, v = .agg vs.toArray ∧ VL β cs vs
  | .tup cs, v => ∃ vs : List Value, v = .tuple vs.toArray ∧ VL β cs vs
  | .fn f x y, v => ∃ xs ys : List Value, v = .func f xs.toArray ys.toArray ∧ VL β x xs ∧ VL β y ys
  | .iface t a, v => ∃ u, v = .iface t u ∧ V β a u
  | .opt g a, v => (g = true → V β a v) ∧ (g = false → v = undef)
def VL (β : Places) : List AV → List Value → Prop
  | [], vs => vs = []
  | c :: cs, vs => ∃ v vs', vs = v :: vs' ∧ V β c v ∧ VL β cs vs'
end

/-- More is known of the places. -/
def Ext (β β' : Places) : Prop := ∀ id p, β id = some p → β' id = some p
theorem Ext.refl (β : Places) : Ext β β := fun _ _ h => h

mutual
theorem V.ext {β β' : Places} (h : Ext β β') : ∀ (a : AV) (v : Value), V β a v → V β' a v
  | .junk, _, _ => by simp [V]
  | .raw _, _, hv => by simpa [V] using hv
  | .int .., _, hv => by simpa [V] using hv
  | .bool _, _, hv => by simpa [V] using hv
  | .ptr .., _, hv => by simp only [V] at *; obtain ⟨b, c, hb, rfl⟩ := hv; exact ⟨b, c, h _ _ hb, rfl⟩
  | .slice .., _, hv => by simp only [V] at *; obtain ⟨b, c, hb, rfl⟩ := hv; exact ⟨b, c, h _ _ hb, rfl⟩
  | .gsl .., _, hv => by simp only [V] at *; obtain ⟨b, c, hb, rfl, hl⟩ := hv; exact ⟨b, c, h _ _ hb, rfl, hl⟩
  | .agg cs, _, hv => by simp only [V] at *; obtain ⟨vs, rfl, hl⟩ := hv; exact ⟨vs, rfl, VL.ext h cs vs hl⟩
  | .tup cs, _, hv => by simp only [V] at *; obtain ⟨vs, rfl, hl⟩ := hv; exact ⟨vs, rfl, VL.ext h cs vs hl⟩
  | .fn _ x y, _, hv => by simp only [V] at *; obtain ⟨xs, ys, rfl, hx, hy⟩ := hv; exact ⟨xs, ys, rfl, VL.ext h x xs hx, VL.ext h y ys hy⟩
  | .iface _ a, _, hv => by simp only [V] at *; obtain ⟨u, rfl, hu⟩ := hv; exact ⟨u, rfl, V.ext h a u hu⟩
  | .opt _ a, _, hv => by simp only [V] at *; exact ⟨fun hg => V.ext h a _ (hv.1 hg), hv.2⟩
theorem VL.ext {β β' : Places} (h : Ext β β') : ∀ (cs : List AV) (vs : List Value), VL β cs vs → VL β' cs vs
  | [], _, hv => by simpa [VL] using hv
  | c :: cs, _, hv => by simp only [VL] at *; obtain ⟨v, vs', rfl, h1, h2⟩ := hv; exact ⟨v, vs', rfl, V.ext h c v h1, VL.ext h cs vs' h2⟩
end

theorem VL.length {β : Places} : ∀ {cs : List AV} {vs : List Value}, VL β cs vs → vs.length = cs.length
  | [], _, h => by simp only [VL] at h; simp [h]
  | _ :: _, _, h => by simp only [VL] at h; obtain ⟨v, vs', rfl, _, h2⟩ := h; simp [h2.length]
theorem VL.get {β : Places} : ∀ {cs : List AV} {vs : List Value}, VL β cs vs → ∀ (i : Nat) (c : AV), cs[i]? = some c → ∃ v, vs[i]? = some v ∧ V β c v
  | [], _, _, _, _, hc => by simp at hc
  | c0 :: cs, _, h, i, c, hc => by
    simp only [VL] at h
    obtain ⟨v, vs', rfl, h1, h2⟩ := h
    cases i with
    | zero => simp at hc; subst hc; exact ⟨v, by simp, h1⟩
    | succ i => simp at hc; simpa using h2.get i c hc
theorem VL.set {β : Places} {x : AV} {u : Value} (hx : V β x u) : ∀ {cs : List AV} {vs : List Value}, VL β cs vs → ∀ i, VL β (cs.set i x) (vs.set i u)
  | [], _, h, i => by simp only [VL] at h; subst h; simp [VL]
  | c0 :: cs, _, h, i => by
    simp only [VL] at h
    obtain ⟨v, vs', rfl, h1, h2⟩ := h
    cases i with
    | zero => simp only [List.set_cons_zero, VL]; exact ⟨_, _, rfl, hx, h2⟩
    | succ i => simp only [List.set_cons_succ, VL]; exact ⟨_, _, rfl, h1, h2.set hx i⟩
theorem VL.append {β : Places} : ∀ {cs : List AV} {vs : List Value} {ds : List AV} {us : List Value}, VL β cs vs → VL β ds us → VL β (cs ++ ds) (vs ++ us)
  | [], _, _, _, h, h' => by simp only [VL] at h; subst h; simpa using h'
  | c0 :: cs, _, _, _, h, h' => by
    simp only [VL] at h
    obtain ⟨v, vs', rfl, h1, h2⟩ := h
    simp only [List.cons_append, VL]
    exact ⟨_, _, rfl, h1, h2.append h'⟩
theorem VL.take {β : Places} : ∀ {cs : List AV} {vs : List Value}, VL β cs vs → ∀ n, VL β (cs.take n) (vs.take n)
  | [], _, h, n => by simp only [VL] at h; subst h; simp [VL]
  | c0 :: cs, _, h, n => by
    simp only [VL] at h
    obtain ⟨v, vs', rfl, h1, h2⟩ := h
    cases n with
    | zero => simp [VL]
    | succ n => simp only [List.take_succ_cons, VL]; exact ⟨_, _, rfl, h1, h2.take n⟩
theorem VL.drop {β : Places} : ∀ {cs : List AV} {vs : List Value}, VL β cs vs → ∀ n, VL β (cs.drop n) (vs.drop n)
  | [], _, h, n => by simp only [VL] at h; subst h; simp [VL]
  | c0 :: cs, _, h, n => by
    have h0 := h
    simp only [VL] at h
    obtain ⟨v, vs', rfl, h1, h2⟩ := h
    cases n with
    | zero => exact h0
    | succ n => simpa using h2.drop n
theorem VL.junks (β : Places) : ∀ (vs : List Value), VL β (List.replicate vs.length .junk) vs
  | [] => by simp [VL]
  | v :: vs => by simp only [List.length_cons, List.replicate_succ, VL]; exact ⟨_, _, rfl, by simp [V], VL.junks β vs⟩

/-- A constant. -/
def ofVal : Value → AV
  | .int k n => if has k n then .int k n else .raw (.int k n)
  | .bool b => .bool b
  | v => .raw v
theorem ofVal_V (β : Places) (v : Value) : V β (ofVal v) v := by
  unfold ofVal
  split
  · split
    · rename_i h; simp [V, h]
    · simp [V]
  · simp [V]
  · simp [V]
def ofVals : List Value → List AV
  | [] => []
  | v :: vs => ofVal v :: ofVals vs
theorem ofVals_VL (β : Places) : ∀ vs : List Value, VL β (ofVals vs) vs
  | [] => by simp [ofVals, VL]
  | v :: vs => by simp only [ofVals, VL]; exact ⟨_, _, rfl, ofVal_V β v, ofVals_VL β vs⟩

instance : Inhabited AV := ⟨.junk⟩
/-! ### Abstract memory -/
inductive Blk where
  /-- cells that are known one by one -/
  | lit (e : TypeId) (cs : List AV)
  /-- these very cells -/
  | sym (e : TypeId) (cs : Array Value)
  /-- the first cells; as many more as the capacity says, elements of 'sz' cells; 'kn': they stand there one by one -/
  | row (e : TypeId) (sz : Nat) (kn : Bool) (cs : List Value)
abbrev Heap := List (Option Blk)
def hget : Heap → Nat → Option Blk
  | [], _ => none
  | x :: _, 0 => x
  | _ :: h, i + 1 => hget h i
theorem hget_lt : ∀ {h : Heap} {i : Nat} {b : Blk}, hget h i = some b → i < h.length
  | [], _, _, hh => by simp [hget] at hh
  | _ :: h, 0, _, _ => by simp
  | _ :: h, i + 1, _, hh => by simp only [hget] at hh; have := hget_lt hh; simp; omega
theorem hget_set : ∀ (h : Heap) (i j : Nat) (x : Option Blk), hget (h.set i x) j = if i = j ∧ i < h.length then x else hget h j
  | [], i, j, x => by simp [hget]
  | y :: h, 0, 0, x => by simp [hget]
  | y :: h, 0, j + 1, x => by simp [hget]
  | y :: h, i + 1, 0, x => by simp [hget]
  | y :: h, i + 1, j + 1, x => by simp [hget, hget_set h i j x]
theorem hget_append : ∀ (h g : Heap) (j : Nat), hget (h ++ g) j = if j < h.length then hget h j else hget g (j - h.length)
  | [], g, j => by simp
  | y :: h, g, 0 => by simp [hget]
  | y :: h, g, j + 1 => by simp [hget, hget_append h g j]

def B (β : Places) (c : Nat) : Blk → Obj → Prop
  | .lit e cs, o => ∃ vs : List Value, o = .cells vs.toArray e (0, 0) ∧ VL β cs vs
  | .sym e cs, o => o = .cells cs e (0, 0)
  | .row e sz _ cs, o => ∃ rest : List Value, o = .cells (cs ++ rest).toArray e (0, 0) ∧ cs.length + rest.length = c * sz
theorem B.ext {β β' : Places} (h : Ext β β') {c : Nat} : ∀ {b : Blk} {o : Obj}, B β c b o → B β' c b o
  | .lit .., _, hb => by simp only [B] at *; obtain ⟨vs, rfl, hl⟩ := hb; exact ⟨vs, rfl, VL.ext h _ _ hl⟩
  | .sym .., _, hb => by simpa [B] using hb
  | .row .., _, hb => by simpa [B] using hb

/-- What is promised of blocks that are nobody's here. -/
abbrev Frz := Nat → Option Obj

/-- The abstract memory says this of a world: 'W0': the world whose blocks only are read. -/
structure HRel (W0 : World) (T : Frz) (β : Places) (hp : Heap) (w : World) : Prop where
  ro : ∀ i, i < W0.heap.size → w.heap[i]? = W0.heap[i]?
  sz : W0.heap.size ≤ w.heap.size
  fz : ∀ i o, T i = some o → w.heap[i]? = some o
  live : ∀ id p, β id = some p → ∃ b, hget hp id = some b
  hp : ∀ id b, hget hp id = some b → ∃ n c o, β id = some (n, c) ∧ W0.heap.size ≤ n ∧ T n = none ∧ w.heap[n]? = some o ∧ B β c b o
  inj : ∀ id id' n c c', β id = some (n, c) → β id' = some (n, c') → id = id'
  os : w.os = W0.os
  out : w.output = W0.output
  tape : w.tape = W0.tape
  nofz : ∀ a : Addr, W0.heap.size ≤ a.block → w.frozen? a = false

theorem HRel.drew {W0 : World} {T : Frz} {β : Places} {hp : Heap} {w : World} (h : HRel W0 T β hp w) : HRel W0 T β hp { w with drawn := w.drawn + 1 } :=
  ⟨h.ro, h.sz, h.fz, h.live, h.hp, h.inj, h.os, h.out, h.tape, h.nofz⟩

/-- A new block. -/
def Places.put (β : Places) (id : Nat) (p : Nat × Nat) : Places := fun i => if i = id then some p else β i
theorem Places.put_ext {β : Places} {id : Nat} {p : Nat × Nat} (h : β id = none) : Ext β (β.put id p) := by
  intro i q hq
  unfold Places.put
  split
  · rename_i e; subst e; simp [h] at hq
  · exact hq
theorem HRel.none_of {W0 : World} {T : Frz} {β : Places} {hp : Heap} {w : World} (h : HRel W0 T β hp w) {id : Nat} (hn : hget hp id = none) : β id = none := by
  cases hb : β id with
  | none => rfl
  | some p => obtain ⟨b, hb'⟩ := h.live id p hb; simp [hn] at hb'
theorem getElem?_push_lt {α : Type} (xs : Array α) (x y : α) (i : Nat) (h : xs[i]? = some y) : (xs.push x)[i]? = some y := by
  have hi : i < xs.size := by
    rcases Nat.lt_or_ge i xs.size with h' | h'
    · exact h'
    · simp [Array.getElem?_eq_none h'] at h
  rw [Array.getElem?_push_lt hi]; simpa [hi] using h

theorem B.plain {β : Places} {c : Nat} : ∀ {b : Blk} {o : Obj}, B β c b o → ∃ cs e, o = .cells cs e (0, 0)
  | .lit .., _, hb => by simp only [B] at hb; obtain ⟨vs, rfl, _⟩ := hb; exact ⟨_, _, rfl⟩
  | .sym .., _, hb => by simp only [B] at hb; exact ⟨_, _, hb⟩
  | .row .., _, hb => by simp only [B] at hb; obtain ⟨r, rfl, _⟩ := hb; exact ⟨_, _, rfl⟩
theorem frozen_of_plain {w : World} {a : Addr} {cs : Array Value} {e : TypeId} (h : w.heap[a.block]? = some (.cells cs e (0, 0))) : w.frozen? a = false := by
  simp [World.frozen?, h]
theorem frozen_same {w w' : World} {a : Addr} (h : w'.heap[a.block]? = w.heap[a.block]?) : w'.frozen? a = w.frozen? a := by
  simp [World.frozen?, h]
theorem HRel.new {W0 : World} {T : Frz} {β : Places} {hp hp' : Heap} {w : World} (h : HRel W0 T β hp w) {id : Nat} {b : Blk} {o : Obj} {c : Nat}
    (hn : hget hp id = none) (hs : ∀ j, hget hp' j = if j = id then some b else hget hp j) (hb : B (β.put id (w.heap.size, c)) c b o) :
    HRel W0 T (β.put id (w.heap.size, c)) hp' { w with heap := w.heap.push o } := by
  have hβ := h.none_of hn
  have hext := Places.put_ext (p := (w.heap.size, c)) hβ
  have hlt : ∀ {i n c'}, β i = some (n, c') → n < w.heap.size := by
    intro i n c' hi
    obtain ⟨b', hb'⟩ := h.live _ _ hi
    obtain ⟨n', c'', o', h1, h2, h3, h4, h5⟩ := h.hp _ _ hb'
    rw [hi] at h1
    obtain ⟨rfl, rfl⟩ := by simpa using h1
    rcases Nat.lt_or_ge n w.heap.size with h' | h'
    · exact h'
    · simp [Array.getElem?_eq_none h'] at h4
  refine ⟨?_, ?_, ?_, ?_, ?_, ?_, h.os, h.out, h.tape, ?_⟩
  rotate_left 6
  · intro a ha
    rcases Nat.lt_or_ge a.block w.heap.size with hl | hl
    · rw [frozen_same (w := w)]
      · exact h.nofz a ha
      · show (w.heap.push o)[a.block]? = _
        rw [Array.getElem?_push_lt hl]; simp [hl]
    · rcases Nat.lt_or_ge w.heap.size a.block with hl' | hl'
      · simp only [World.frozen?]
        rw [Array.getElem?_eq_none (by simp; omega)]
      · have e : a.block = w.heap.size := by omega
        obtain ⟨cs, el, rfl⟩ := hb.plain
        exact frozen_of_plain (cs := cs) (e := el) (by rw [e]; simp)
  · intro i hi
    have : i < w.heap.size := Nat.lt_of_lt_of_le hi h.sz
    show (w.heap.push o)[i]? = _
    rw [← h.ro i hi, Array.getElem?_push_lt this]; simp [this]
  · simp; have := h.sz; omega
  · intro i o' hi
    exact getElem?_push_lt _ _ _ _ (h.fz i o' hi)
  · intro i p hp
    unfold Places.put at hp
    rw [hs]
    split at hp
    · rename_i e; simp [e]
    · rename_i e; simp only [e, if_false]; exact h.live i p hp
  · intro i b' hb'
    rw [hs] at hb'
    split at hb'
    · rename_i e
      subst e
      obtain rfl := by simpa using hb'
      refine ⟨w.heap.size, c, o, by simp [Places.put], h.sz, ?_, by simp, hb⟩
      cases hT : T w.heap.size with
      | none => rfl
      | some o' => have := h.fz _ _ hT; simp at this
    · obtain ⟨n, c', o', h1, h2, h3, h4, h5⟩ := h.hp i b' hb'
      exact ⟨n, c', o', hext _ _ h1, h2, h3, getElem?_push_lt _ _ _ _ h4, B.ext hext h5⟩
  · intro i j n c1 c2 hi hj
    unfold Places.put at hi hj
    split at hi <;> split at hj
    · rename_i e1 e2; rw [e1, e2]
    · have := hlt hj; simp at hi; omega
    · have := hlt hi; simp at hj; omega
    · exact h.inj _ _ _ _ _ hi hj

/-- A block is written. -/
theorem HRel.write {W0 : World} {T : Frz} {β : Places} {hp hp' : Heap} {w : World} (h : HRel W0 T β hp w) {id n c : Nat} {b b' : Blk} {o' : Obj} {heap' : Array Obj}
    (hb : hget hp id = some b) (hβ : β id = some (n, c)) (hB : B β c b' o')
    (hs : ∀ j, hget hp' j = if j = id then some b' else hget hp j)
    (hsz : heap'.size = w.heap.size) (h1 : heap'[n]? = some o') (h2 : ∀ i, i ≠ n → heap'[i]? = w.heap[i]?) :
    HRel W0 T β hp' { w with heap := heap' } := by
  obtain ⟨n', c', o, e1, e2, e3, e4, e5⟩ := h.hp id b hb
  rw [hβ] at e1
  obtain ⟨rfl, rfl⟩ := by simpa using e1
  refine ⟨?_, ?_, ?_, ?_, ?_, h.inj, h.os, h.out, h.tape, ?_⟩
  rotate_left 5
  · intro a ha
    by_cases e : a.block = n
    · obtain ⟨cs, el, rfl⟩ := hB.plain
      exact frozen_of_plain (cs := cs) (e := el) (by rw [e]; exact h1)
    · rw [frozen_same (w := w) (h2 _ e)]
      exact h.nofz a ha
  · intro i hi
    rw [← h.ro i hi]
    exact h2 i (by omega)
  · show _ ≤ heap'.size
    rw [hsz]; exact h.sz
  · intro i o'' hi
    show heap'[i]? = _
    rw [h2 i (by intro e; subst e; simp [e3] at hi)]
    exact h.fz i o'' hi
  · intro i p hp
    rw [hs]
    split
    · exact ⟨_, rfl⟩
    · exact h.live i p hp
  · intro i b'' hb''
    rw [hs] at hb''
    split at hb''
    · rename_i e
      subst e
      obtain rfl := by simpa using hb''
      exact ⟨n, c, o', hβ, e2, e3, h1, hB⟩
    · rename_i e
      obtain ⟨m, c'', o'', f1, f2, f3, f4, f5⟩ := h.hp i b'' hb''
      refine ⟨m, c'', o'', f1, f2, f3, ?_, f5⟩
      show heap'[m]? = _
      rw [h2 m (by intro e'; subst e'; exact e (h.inj _ _ _ _ _ f1 hβ))]
      exact f4

/-! ### Trees -/
/-- What is asked of the values of guards. -/
inductive Rq : Type 1 where
  | p (q : Prop)
  | n (g : Bool)
  | i (b c g : Bool)
  | d (q : Prop) [h : Decidable q]
  | e {α : Type} (x y : α)
def Rq.holds : Rq → Prop
  | .p q => q
  | @Rq.d q _ => q
  | .e x y => x = y
  | .n g => g = true
  | .i b c g => b = true → c = true → g = true
/-- (Decided at once where q is.) -/
def impDec (b : Bool) (q : Prop) (h : Decidable q) : Decidable (b = true → q) := match h with
  | .isTrue hq => .isTrue fun _ => hq
  | .isFalse hq => match b with
    | true => .isFalse fun h => hq (h rfl)
    | false => .isTrue fun h => by simp at h
/-- Asked only where b holds. -/
def Rq.under (b : Bool) : Rq → Rq
  | .p q => .p (b = true → q)
  | @Rq.d q h => @Rq.d (b = true → q) (impDec b q h)
  | .e x y => .e x y
  | .n g => .i true b g
  | .i b' c g => .i (b' && b) c g
theorem Rq.under_true {r : Rq} (h : (r.under true).holds) : r.holds := by
  cases r with
  | p q => exact h rfl
  | d q => exact h rfl
  | e x y => exact h
  | n g => exact h rfl rfl
  | i b c g => simp only [Rq.under, Rq.holds, Bool.and_true] at *; exact h
theorem Rq.under_spec {r : Rq} {b : Bool} (h : (r.under b).holds) (hb : b = true) : r.holds := by
  subst hb; exact Rq.under_true h
inductive Tree (α : Type) : Type 1 where
  | leaf (a : α)
  | stop
  | req (p : Prop) (t : Tree α)
  | ask (r : Rq) (t : Tree α)
  | ite (b : Bool) (t e : Tree α)
  | ex {ι : Type} (p : ι → Prop) (f : ι → Tree α)
  | all {ι : Type} (p : ι → Prop) (f : ι → Tree α)
namespace Tree
def sem {α : Type} : Tree α → (α → Prop) → Prop
  | .leaf a, K => K a
  | .stop, _ => False
  | .req p t, K => p ∧ t.sem K
  | .ask r t, K => r.holds ∧ t.sem K
  | .ite b t e, K => (b = true → t.sem K) ∧ (b = false → e.sem K)
  | .ex p f, K => ∃ x, p x ∧ (f x).sem K
  | .all p f, K => ∀ x, p x → (f x).sem K
def bind {α β : Type} : Tree α → (α → Tree β) → Tree β
  | .leaf a, g => g a
  | .stop, _ => .stop
  | .req p t, g => .req p (t.bind g)
  | .ask r t, g => .ask r (t.bind g)
  | .ite b t e, g => .ite b (t.bind g) (e.bind g)
  | .ex p f, g => .ex p fun x => (f x).bind g
  | .all p f, g => .all p fun x => (f x).bind g
theorem sem_bind {α β : Type} (t : Tree α) (g : α → Tree β) (K : β → Prop) : (t.bind g).sem K ↔ t.sem fun a => (g a).sem K := by
  induction t with
  | leaf a => simp [bind, sem]
  | stop => simp [bind, sem]
  | req p t ih => simp [bind, sem, ih]
  | ask r t ih => simp [bind, sem, ih]
  | ite b t e ih1 ih2 => simp [bind, sem, ih1, ih2]
  | ex p f ih => simp [bind, sem, ih]
  | all p f ih => simp [bind, sem, ih]
theorem sem_mono {α : Type} {t : Tree α} {K K' : α → Prop} (h : ∀ a, K a → K' a) (hs : t.sem K) : t.sem K' := by
  induction t with
  | leaf a => exact h _ hs
  | stop => exact hs
  | req p t ih => exact ⟨hs.1, ih hs.2⟩
  | ask r t ih => exact ⟨hs.1, ih hs.2⟩
  | ite b t e ih1 ih2 => exact ⟨fun hb => ih1 (hs.1 hb), fun hb => ih2 (hs.2 hb)⟩
  | ex p f ih => obtain ⟨x, hx, hs⟩ := hs; exact ⟨x, hx, ih x hs⟩
  | all p f ih => exact fun x hx => ih x (hs x hx)
/-- No choice against us. -/
def Ang {α : Type} : Tree α → Prop
  | .leaf _ => True
  | .stop => True
  | .req _ t => t.Ang
  | .ask _ t => t.Ang
  | .ite _ t e => t.Ang ∧ e.Ang
  | .ex _ f => ∀ x, (f x).Ang
  | .all _ _ => False
/-- What such a tree may come to. -/
def gives {α : Type} : Tree α → α → Prop
  | .leaf a, x => a = x
  | .stop, _ => False
  | .req p t, x => p ∧ t.gives x
  | .ask r t, x => r.holds ∧ t.gives x
  | .ite b t e, x => (b = true ∧ t.gives x) ∨ (b = false ∧ e.gives x)
  | .ex p f, x => ∃ y, p y ∧ (f y).gives x
  | .all _ _, _ => False
theorem sem_ang {α : Type} {t : Tree α} (ht : t.Ang) (K : α → Prop) : t.sem K ↔ ∃ a, t.gives a ∧ K a := by
  induction t with
  | leaf a => simp [sem, gives]
  | stop => simp [sem, gives]
  | req p t ih =>
    simp only [sem, gives, ih ht]
    exact ⟨fun ⟨hp, a, h1, h2⟩ => ⟨a, ⟨hp, h1⟩, h2⟩, fun ⟨a, ⟨hp, h1⟩, h2⟩ => ⟨hp, a, h1, h2⟩⟩
  | ask p t ih =>
    simp only [sem, gives, ih ht]
    exact ⟨fun ⟨hp, a, h1, h2⟩ => ⟨a, ⟨hp, h1⟩, h2⟩, fun ⟨a, ⟨hp, h1⟩, h2⟩ => ⟨hp, a, h1, h2⟩⟩
  | ite b t e ih1 ih2 =>
    simp only [sem, gives, ih1 ht.1, ih2 ht.2]
    cases b <;> simp
  | ex p f ih =>
    simp only [sem, gives]
    constructor
    · rintro ⟨x, hx, h⟩
      obtain ⟨a, h1, h2⟩ := (ih x (ht x)).1 h
      exact ⟨a, ⟨x, hx, h1⟩, h2⟩
    · rintro ⟨a, ⟨x, hx, h1⟩, h2⟩
      exact ⟨x, hx, (ih x (ht x)).2 ⟨a, h1, h2⟩⟩
  | all p f _ => exact ht.elim
theorem ang_bind {α β : Type} {t : Tree α} {g : α → Tree β} (ht : t.Ang) (hg : ∀ a, (g a).Ang) : (t.bind g).Ang := by
  induction t with
  | leaf a => exact hg a
  | stop => trivial
  | req p t ih => exact ih ht
  | ask r t ih => exact ih ht
  | ite b t e ih1 ih2 => exact ⟨ih1 ht.1, ih2 ht.2⟩
  | ex p f ih => exact fun x => ih x (ht x)
  | all p f _ => exact ht.elim
/-- The two may be asked in either order. -/
theorem sem_comm {α β : Type} {t : Tree α} {u : Tree β} (ht : t.Ang) (hu : u.Ang) (K : α → β → Prop) :
    t.sem (fun x => u.sem (fun y => K x y)) → u.sem (fun y => t.sem (fun x => K x y)) := by
  simp only [sem_ang ht, sem_ang hu]
  rintro ⟨a, h1, b, h2, h3⟩
  exact ⟨b, h2, a, h1, h3⟩
/-- Asked only where g holds. -/
def under {α : Type} [Inhabited α] (g : Bool) : Tree α → Tree α
  | .leaf a => .leaf a
  | .stop => .req (g = true → False) (.leaf default)
  | .req p t => .req (g = true → p) (t.under g)
  | .ask r t => .ask (r.under g) (t.under g)
  | .ite b t e => .ite b (t.under g) (e.under g)
  | .ex p f => .ex (fun x => g = true → p x) fun x => (f x).under g
  | .all p f => .all p fun x => (f x).under g
theorem under_true {α : Type} [Inhabited α] {t : Tree α} {K : α → Prop} (h : (t.under true).sem K) : t.sem K := by
  induction t with
  | leaf a => exact h
  | stop => exact h.1 rfl
  | req p t ih => exact ⟨h.1 rfl, ih h.2⟩
  | ask r t ih => exact ⟨Rq.under_true h.1, ih h.2⟩
  | ite b t e ih1 ih2 => exact ⟨fun hb => ih1 (h.1 hb), fun hb => ih2 (h.2 hb)⟩
  | ex p f ih => obtain ⟨x, hx, hs⟩ := h; exact ⟨x, hx rfl, ih x hs⟩
  | all p f ih => exact fun x hx => ih x (h x hx)
theorem ang_under {α : Type} [Inhabited α] {g : Bool} {t : Tree α} (ht : t.Ang) : (t.under g).Ang := by
  induction t with
  | leaf a => trivial
  | stop => trivial
  | req p t ih => exact ih ht
  | ask r t ih => exact ih ht
  | ite b t e ih1 ih2 => exact ⟨ih1 ht.1, ih2 ht.2⟩
  | ex p f ih => exact fun x => ih x (ht x)
  | all p f _ => exact ht.elim
end Tree
end Go.Sx
