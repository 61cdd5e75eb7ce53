/-
  The frame of a statement: arguments of any kind read again behind a call that has only made new blocks.
-/
import Derived.ProofKit
import Derived.OpenShut
import Derived.Lib.SmallJoins
import Derived.Deep.Slices
import Derived.Deep.Fields
import Derived.ChangeSame
import Derived.ReadAgain
import Derived.ChangeOld
import Derived.RowKit3
import Derived.Test.YtafhbnafigjinaaSx18
set_option linter.unusedSimpArgs false
set_option linter.unusedVariables false
namespace Go.Sx
open Go.RowKit Go.ChangeShapes Go.WideShapes Go.Joins Go.Deep
section
variable {H : Type} {enc : TypeId × Value → H} {P : Program}
theorem grown_same {W W' : World} (h : Grown W W') {p : MemPlace} (hp : p.block < W.heap.size) : W.sameAt W' p := by
  have h1 := h.1.2.2 p.block hp
  cases p with
  | cell b off =>
    simp only [MemPlace.block] at h1 hp
    simp only [World.sameAt, World.cell?]
    split at h1
    · rename_i c t fr c' t' fr' e1 e2
      rw [e1, e2]
      exact h1.2.2.2 off (fun hf => hf)
    · rename_i es cl es' cl' e1 e2
      rw [e1, e2]
    · rename_i o o' _ _
      rw [h1]
  | map b =>
    simp only [MemPlace.block] at h1 hp
    simp only [World.sameAt]
    split at h1
    · rename_i c t fr c' t' fr' e1 e2
      obtain ⟨rfl, rfl, hs, hc⟩ := h1
      rw [e1, e2]
      have : c' = c := Array.ext_getElem? fun j => hc j (fun hf => hf)
      rw [this]
    · rename_i es cl es' cl' e1 e2
      rcases h1 with h1 | ⟨rfl, rfl⟩
      · exact h1.elim
      · rw [e1, e2]
    · exact h1
theorem trodAll_carry {w w' : World} {base : Nat} {spare : Nat → Bool} {held : Bool} : ∀ {ts : List TypeId} {vs : List Value} {ds : List (DataW H)} {ps : List MemPlace},
    DataW.TrodAll enc P w base spare held ts vs ds ps → (∀ p ∈ ps, w.sameAt w' p) → DataW.TrodAll enc P w' base spare held ts vs ds ps
  | [], [], [], _, h, _ => h
  | _ :: _, _ :: _, _ :: _, _, ⟨p, q, ⟨n, h1⟩, h2, e⟩, hs => ⟨p, q, ⟨n, DataW.trod_carry n _ _ _ h1 (fun x hx => hs x (by rw [e]; exact List.mem_append_left _ hx))⟩, trodAll_carry h2 (fun x hx => hs x (by rw [e]; exact List.mem_append_right _ hx)), e⟩
theorem args_again {T : TypeId → Prop} (K : Kids P T) (hz : ∀ t e, T t → P.underlying t = some (.slice e) → 0 < P.cellsOf e) {W W' : World} {ts : List TypeId} {vs : List Value} {ds : List (DataW H)} {ps : List MemPlace}
    (hT : ∀ t ∈ ts, T t) (h : DataW.TrodAll enc P W 0 (fun _ => true) true ts vs ds ps) (hg : Grown W W') (sp : Nat → Bool) (hs : ∀ p ∈ ps, sp p.block = true) : DataW.TrodAll enc P W' 0 sp true ts vs ds ps :=
  DataW.TrodAll.respare K hz hT (trodAll_carry h fun p hp => grown_same hg (h.lt p hp)) hs
variable {w : World} {base : Nat} {spare : Nat → Bool} {held : Bool}
/-- A number among the cells. -/
theorem trod_av_int {β : Places} {t : TypeId} {k : IntKind} {n : Nat} {v : Value} {x : DataW H × List MemPlace} (ht : P.underlying t = some (.int k)) (h : DataW.trod enc P w base spare held n t [v] = some x) : ∃ m : Int, v = .int k m ∧ has k m := by
  obtain ⟨m, h1, _, hw⟩ := DataW.trod_int ht h
  simp only [List.cons.injEq, and_true] at h1
  exact ⟨m, h1, has_of_wf hw⟩
theorem trod_av_bool {t : TypeId} {n : Nat} {v : Value} {x : DataW H × List MemPlace} (ht : P.underlying t = some .bool) (h : DataW.trod enc P w base spare held n t [v] = some x) : ∃ b : Bool, v = .bool b := by
  obtain ⟨b, h1, _⟩ := DataW.trod_bool ht h
  simp only [List.cons.injEq, and_true] at h1
  exact ⟨b, h1⟩
/-- A struct's fields, all of one cell. -/
theorem open_fields {r : Reach} {b0 : Nat} {t : TypeId} {fs : Array Field} {v : Value} {d : DataW H} {p : List MemPlace} (hs : P.underlying t = some (.struct fs)) (hone : oneCellFields P fs = true) (hC : P.cellsOf t = fs.size)
    (hv : Value.okWide P w r b0 t v) (h : DataW.Trod enc P w base spare held t v d p) :
    ∃ cs : List Value, v = .agg cs.toArray ∧ cs.length = fs.size ∧ ∀ (j : Nat) (f : Field) (c : Value), fs[j]? = some f → cs[j]? = some c → ∃ (n : Nat) (x : DataW H × List MemPlace), DataW.trod enc P w base spare held n f.type [c] = some x := by
  obtain ⟨cs, rfl, hsz⟩ := okWide_struct hs hv
  obtain ⟨fuel, hf⟩ := h
  obtain ⟨xs, n, _, hx, _, hlen, hg⟩ := DataW.trod_struct hs hf
  refine ⟨cs.toList, by simp, by simpa using hsz.trans hC, fun j f c hj hc => ?_⟩
  have h1 := hg j f hj
  obtain ⟨ho, hk⟩ := hone_of hone j f hj
  rw [ho, hk] at h1
  have hl : j < cs.toList.length := (List.getElem?_eq_some_iff.1 hc).1
  have e : (List.drop j (Value.agg cs).cells.toList).take 1 = [c] := by
    show (List.drop j cs.toList).take 1 = [c]
    rw [List.drop_eq_getElem_cons hl]
    simp only [List.take_succ_cons, List.take_zero]
    rw [List.getElem?_eq_getElem hl] at hc
    simpa using hc
  rw [e] at h1
  have hj2 : j < xs.length := by rw [hlen]; simpa using (Array.getElem?_eq_some_iff.1 hj).1
  refine ⟨n, xs[j], ?_⟩
  rw [h1, List.getElem?_eq_getElem hj2]
end
end Go.Sx
