/- TopSome: for every input the law returns true, and the input reads as it did. No conditions. -/
import Derived.Test.YtckbenlmlikjoaaRows
import Derived.Test.YtckbenlmlikjoaaK1
set_option linter.unusedVariables false
namespace Go.Proofs.Ytckbenlmlikjoaa
open Go.ChangeShapes Go.WideShapes Go.ChangeAt Go.RowKit Go.VL
theorem ownNone : ownKnob Try.prog.godebug = none := by kernel_rfl
theorem cells3 : Try.prog.cellsOf 3 = 1 := by kernel_rfl
set_option maxRecDepth 100000 in
theorem topSomeLifted (os : Os) (started : os.Started) (H : Type) (enc : TypeId × Value → H) :
    ReturnsInHanded {} Try.checked os 3 .any (Rows.topSomeSpec.pre6 enc Try.prog Try.f3 Rows.topSomeRow.domain false) (Rows.topSomeSpec.post enc Try.prog Try.f3 false true false false) := by
  refine returnsInHanded_of_change (C := Try.checked) ownNone started (by kernel_rfl) Try.func3
    (ChangeSpec.witness6 (enc := enc) (C := Try.checked) false ⟨#[], #[.slice none 0 0, .int .i64 0, .int .i64 0], []⟩ 8 (by kernel_rfl) (by kernel_rfl) (by kernel_rfl) (by kernel_rfl)) ?_
  intro W base args ds gs before hval0 hW hcnd _
  have hval : ∀ (j : Nat) t v, Try.f3.params[j]? = some t → args[j]? = some v → Value.okWide Try.prog W .any base t v := hval0
  have hW' := hW
  obtain ⟨p, q, hA0, hV, rfl, hfz, hnd⟩ := hW
  have hA : DataW.TrodAll enc Try.prog W 0 (fun _ => true) true Try.f3.params.toList args.toList ds p := hA0
  rw [Try.params3] at hA hval
  obtain ⟨v0, v1, v2, d0, d1, d2, p0, p1, p2, rfl, rfl, rfl, h0, h1, h2⟩ := trodAll_three hA
  obtain ⟨rfl, rfl⟩ := trodVars_none hV
  obtain ⟨l, hl, hp, hag⟩ := arg_ints Try.underlying22 Try.underlying3 cells3 (hval 0 22 v0 rfl rfl) h0
  obtain ⟨a, rfl, rfl, rfl, wa⟩ := open_int Try.underlying3 (hval 1 3 v1 rfl rfl) h1
  obtain ⟨b, rfl, rfl, rfl, wb⟩ := open_int Try.underlying3 (hval 2 3 v2 rfl rfl) h2
  clear hA0 hval0
  simp only [List.append_nil] at hW'
  have ha := wa
  have hb := wb
  simp only [Lit.wf, Bool.and_eq_true, decide_eq_true_eq] at ha hb
  have hT := VL.A.top_some (l := l) hl (a := a) (b := b) ha hb
  refine (law_walk hT (vs := [v0, .int .i64 a, .int .i64 b]) rfl (fun k x v hx hv => ?_)).mono fun e W' ⟨he, hk⟩ => ?_
  · match k, hx, hv with
    | 0, hx, hv => simp at hx hv; subst hx; subst hv; exact hp
    | 1, hx, hv => simp at hx hv; subst hx; subst hv; exact .int _ _
    | 2, hx, hv => simp at hx hv; subst hx; subst hv; exact .int _ _
  subst he
  refine ⟨_, rfl, post_of_old (pa := p0) (pv := []) hW' (fun _ _ _ => trodAll_mk1 (shut_bool Try.underlying4 _)) (fun sp hsp => ?_) (fun _ _ => rfl) (by simp) hk (ok_one (by kernel_rfl) rfl (okWide_bool_mk Try.underlying4 _))⟩
  have := trodAll_mk3 (hag W' hk sp hsp) (shut_int Try.underlying3 wa) (shut_int Try.underlying3 wb)
  simp only [List.append_nil] at this
  rw [Try.params3]
  exact this
theorem topSome_holds : Rows.TopSomeSaid :=
  OpenClaim.holds_of_wide 3 Try.f3 rfl rfl rfl rfl rfl rfl rfl ⟨rfl, rfl, rfl, rfl, rfl⟩ rfl rfl rfl rfl rfl (by kernel_rfl) Try.func3 (by kernel_rfl)
    (of_decide_eq_true (by kernel_rfl)) (by unfold Func.isWrapper; first | (rw [if_pos (by decide +kernel)]; kernel_rfl) | (rw [if_neg (by decide +kernel)]; exact ⟨rfl, rfl⟩))
    (fun os started H enc _ => topSomeLifted os started H enc)
#print axioms topSome_holds
end Go.Proofs.Ytckbenlmlikjoaa
