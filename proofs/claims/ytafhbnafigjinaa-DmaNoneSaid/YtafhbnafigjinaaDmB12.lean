/- DmaNone: for every input the law returns true and leaves its arguments as they were. No conditions. -/
import Derived.Test.YtafhbnafigjinaaRows
import Derived.WalkKit
import Derived.ProofKit
import Derived.OpenShut
import Derived.Test.YtafhbnafigjinaaFr
import Derived.Test.YtafhbnafigjinaaDm5
namespace Go.Proofs.Ytafhbnafigjinaa
open Go.Sx Go.Sx.Dma Go.Joins Go.ChangeShapes Go.WideShapes Go.ChangeAt Go.RowKit
set_option linter.unusedVariables false
set_option linter.unusedSimpArgs false
set_option maxRecDepth 100000
theorem run12 (W0 : World) (kind i part x n a : Int) : Cut (val (runAuto Try.prog W0 (N11 W0) Try.f12 (body Try.f12) 0 0 [.agg [.int .i64 kind, .int .i64 i, .int .i64 part, .int .u16 x, .int .i64 n, .int .u32 a]] []))
    (G.all.drop.drop.drop.drop.drop.drop.drop.drop.drop.drop.drop.drop.drop.drop.drop.drop.drop.drop.left.drop.drop.left.drop.drop.right)
    (Tree.leaf (AV.bool true)) := ⟨by kernel_rfl, by kernel_rfl⟩
theorem len_eq {α : Type} {l : List α} {a : Array Field} {n : Nat} (h : l.length = a.size) (ha : a.size = n) : l.length = n := h.trans ha
theorem open82 {H : Type} {enc : TypeId × Value → H} {W : World} {b0 : Nat} {v : Value} {d : DataW H} {p : List MemPlace} (hv : Value.okWide Try.prog W .any b0 82 v) (h : DataW.Trod enc Try.prog W 0 (fun _ => true) true 82 v d p) :
    ∃ kind i part x n a : Int, v = .agg #[.int .i64 kind, .int .i64 i, .int .i64 part, .int .u16 x, .int .i64 n, .int .u32 a] ∧ has .i64 kind ∧ has .i64 i ∧ has .i64 part ∧ has .u16 x ∧ has .i64 n ∧ has .u32 a := by
  obtain ⟨cs, rfl, hl, hf⟩ := open_fields Try.underlying82 (by kernel_rfl) (by kernel_rfl) hv h
  replace hl : cs.length = 6 := len_eq hl rfl
  match cs, hl with
  | [ckind, ci, cpart, cx, cn, ca], _ =>
    obtain ⟨_, _, tkind⟩ := hf 0 _ ckind rfl rfl
    obtain ⟨kind, rfl, wkind⟩ := trod_av_int (β := fun _ => none) Try.underlying3 tkind
    obtain ⟨_, _, ti⟩ := hf 1 _ ci rfl rfl
    obtain ⟨i, rfl, wi⟩ := trod_av_int (β := fun _ => none) Try.underlying3 ti
    obtain ⟨_, _, tpart⟩ := hf 2 _ cpart rfl rfl
    obtain ⟨part, rfl, wpart⟩ := trod_av_int (β := fun _ => none) Try.underlying3 tpart
    obtain ⟨_, _, tx⟩ := hf 3 _ cx rfl rfl
    obtain ⟨x, rfl, wx⟩ := trod_av_int (β := fun _ => none) Try.underlying53 tx
    obtain ⟨_, _, tn⟩ := hf 4 _ cn rfl rfl
    obtain ⟨n, rfl, wn⟩ := trod_av_int (β := fun _ => none) Try.underlying3 tn
    obtain ⟨_, _, ta⟩ := hf 5 _ ca rfl rfl
    obtain ⟨a, rfl, wa⟩ := trod_av_int (β := fun _ => none) Try.underlying22 ta
    exact ⟨kind, i, part, x, n, a, rfl, wkind, wi, wpart, wx, wn, wa⟩
theorem own : ownKnob Try.prog.godebug = none := by kernel_rfl
theorem kids : Kids Try.prog fun t => t < Try.prog.types.size := kids_rows (by kernel_rfl) (by kernel_rfl)
theorem full : ∀ t e, t < Try.prog.types.size → Try.prog.underlying t = some (.slice e) → 0 < Try.prog.cellsOf e := slices_full_of Try.prog (by kernel_rfl)
theorem walk (kind i part x n a : Int) (wkind : has .i64 kind) (wi : has .i64 i) (wpart : has .i64 part) (wx : has .u16 x) (wn : has .i64 n) (wa : has .u32 a) (w : World) :
    Calls Try.prog 12 #[.agg #[.int .i64 kind, .int .i64 i, .int .i64 part, .int .u16 x, .int .i64 n, .int .u32 a]] w fun e w' => e = .returned (.bool true) ∧ Grown w w' :=
  law_walk (nenv11 w) Try.func12 (c := body Try.f12) (by kernel_rfl) (by kernel_rfl) 0 0 (args := [.agg [.int .i64 kind, .int .i64 i, .int .i64 part, .int .u16 x, .int .i64 n, .int .u32 a]]) (argv := [.agg #[.int .i64 kind, .int .i64 i, .int .i64 part, .int .u16 x, .int .i64 n, .int .u32 a]]) (by kernel_rfl)
    (VL_cons (by simp only [V]; exact ⟨[.int .i64 kind, .int .i64 i, .int .i64 part, .int .u16 x, .int .i64 n, .int .u32 a], rfl, VL_cons (V_int wkind) (VL_cons (V_int wi) (VL_cons (V_int wpart) (VL_cons (V_int wx) (VL_cons (V_int wn) (VL_cons (V_int wa) (VL_nil))))))⟩) VL_nil) ((run12 w kind i part x n a).holds rfl)

set_option maxRecDepth 100000 in
theorem lifted (os : Os) (started : os.Started) (H : Type) (enc : TypeId × Value → H) :
    ReturnsInHanded {} Try.checked os 12 .any (Rows.dmaNoneSpec.pre6 enc Try.prog Try.f12 Rows.dmaNoneRow.domain false) (Rows.dmaNoneSpec.post enc Try.prog Try.f12 false true false false) := by
  refine returnsInHanded_of_change (C := Try.checked) own started (by kernel_rfl) Try.func12
    (ChangeSpec.witness6 (enc := enc) (C := Try.checked) false ⟨#[], #[.agg #[.int .i64 0, .int .i64 0, .int .i64 0, .int .u16 0, .int .i64 0, .int .u32 0]], []⟩ 8 (by kernel_rfl) (by kernel_rfl) (by kernel_rfl) (by kernel_rfl)) ?_
  intro W base args ds gs before hval0 hW hcnd _
  have hval : ∀ (j : Nat) t v, Try.f12.params[j]? = some t → args[j]? = some v → Value.okWide Try.prog W .any base t v := hval0
  have hW' := hW
  obtain ⟨p, q, hA0, hV, rfl, hfz, hnd⟩ := hW
  have hA : DataW.TrodAll enc Try.prog W 0 (fun _ => true) true Try.f12.params.toList args.toList ds p := hA0
  have hAk := hA
  rw [Try.params12] at hA hval hAk
  obtain ⟨v0, vs0, d0, ds0, p0, q0, hargs, rfl, e0, h0, r0⟩ := trodAll_cons hA
  obtain ⟨rfl, rfl, e1⟩ := trodAll_nil r0
  obtain rfl : args = #[v0] := by cases args; simp_all
  obtain ⟨rfl, rfl⟩ := trodVars_none hV
  obtain ⟨kind, i, part, x, n, a, rfl, wkind, wi, wpart, wx, wn, wa⟩ := open82 (hval 0 82 _ rfl rfl) h0
  clear hA0 hval0
  simp only [List.append_nil] at hW'
  refine (walk kind i part x n a wkind wi wpart wx wn wa W).mono fun e W' ⟨he, hg⟩ => ?_
  subst he
  exact ⟨_, rfl, post_of_same (pa := p) (pv := []) hW' (fun _ _ _ => (trodAll_cons_mk (shut_bool Try.underlying4 _) trodAll_mk0)) (fun sp hsp => by
      have := args_again (enc := enc) kids full (by decide) hAk hg sp hsp
      rw [Try.params12]
      exact this) (fun _ _ => rfl) (by simp)
    (hg.frame _) hg.2.1 (ok_one (by kernel_rfl) rfl (okWide_bool_mk Try.underlying4 _))⟩
theorem over : Rows.dmaNoneRow.holds Try.pinned (OpenSpec.ofChange Rows.dmaNoneSpec) :=
  OpenClaim.holds_of_wide 12 Try.f12 rfl rfl rfl rfl rfl rfl rfl ⟨rfl, rfl, rfl, rfl, rfl⟩ rfl rfl rfl rfl rfl (by kernel_rfl) Try.func12 (by kernel_rfl)
    (of_decide_eq_true (by kernel_rfl)) (by unfold Func.isWrapper; first | (rw [if_pos (by decide +kernel)]; kernel_rfl) | (rw [if_neg (by decide +kernel)]; exact ⟨rfl, rfl⟩))
    (fun os started H enc _ => lifted os started H enc)
theorem dma_none_holds : Rows.DmaNoneSaid :=
  over
#print axioms dma_none_holds
end Go.Proofs.Ytafhbnafigjinaa
