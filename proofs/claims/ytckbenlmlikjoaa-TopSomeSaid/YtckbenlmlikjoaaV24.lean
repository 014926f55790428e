/- The value-level logic, part 24: a function's contract from its body. -/
import Derived.Test.YtckbenlmlikjoaaV23
set_option linter.unusedVariables false
set_option linter.unusedSimpArgs false
namespace Go.VL

/-- A result: a slot, or what a variable holds. -/
def cRes (P : Program) : ResultVar → Option VO
  | .tmp t => some (.mv (.s t))
  | .cell a t => match rowB P t, sizeB P t with
    | some true, some n => some (.load true n (.s a))
    | some false, some _ => some (.load false 1 (.s a))
    | _, _ => none
def evalRs (σ : St) : List VO → Option (List SV)
  | [] => some []
  | o :: r => match evalV σ o, evalRs σ r with
    | some s, some l => some (s :: l)
    | _, _ => none
def retV : List SV → SV
  | [s] => s
  | l => .tup l
def argS : Nat → List SV → List (Nat × SV)
  | _, [] => []
  | i, s :: r => (i, s) :: argS (i + 1) r

section
variable {X : Cx}

theorem lkS_argS (d : Nat) : ∀ (l : List SV) (i : Nat), lkS d (argS i l) = if i ≤ d then l.getD (d - i) .junk else .junk
  | [], i => by simp [argS, lkS]
  | s :: r, i => by
    simp only [argS, lkS]
    by_cases h : i = d
    · subst h; simp
    · rw [if_neg h, lkS_argS d r (i + 1)]
      by_cases h1 : i ≤ d
      · rw [if_pos h1, if_pos (by omega)]
        rw [show d - i = (d - (i + 1)) + 1 by omega]
        rfl
      · rw [if_neg h1, if_neg (by omega)]

theorem res_run {E : Env} {N : Nat} {P : Program} {g : Gh} {σ : St} {a : Act} {w : World} (R : Rel E N g σ a w) (f : ResultVar → Sem Value) (hf : ∀ u, f (.tmp u) = pure (a.tmps.getD u undef)) (hc : ∀ x t, f (.cell x t) = (do loadVar t (← asAddr (a.tmps.getD x undef)))) :
    ∀ (rs : List ResultVar) (os : List VO), rs.mapM (cRes P) = some os → ∀ l, evalRs σ os = some l → ∃ vs, (rs.mapM f).run P w = .ok vs w ∧ l.length = vs.length ∧ ∀ (k : Nat) s v, l[k]? = some s → vs[k]? = some v → SVRel w g σ.obj s v := by
  intro rs
  induction rs with
  | nil => intro os h l hl; simp at h; subst h; simp [evalRs] at hl; subst hl; exact ⟨[], by simp, rfl, by simp⟩
  | cons r rs ih =>
    intro os h l hl
    simp only [List.mapM_cons, Option.bind_eq_bind, Option.bind_eq_some_iff, Option.pure_def, Option.some.injEq] at h
    obtain ⟨o, h1, os', h2, rfl⟩ := h
    simp only [evalRs] at hl
    split at hl <;> try (cases hl; done)
    rename_i s l' hs hl'
    simp only [Option.some.injEq] at hl
    subst hl
    obtain ⟨vs, e1, e2, e3⟩ := ih os' h2 l' hl'
    have key : ∃ v, (f r).run P w = .ok v w ∧ SVRel w g σ.obj s v := by
      cases r with
      | tmp u =>
        simp only [cRes, Option.some.injEq] at h1
        subst h1
        simp only [evalV, Option.some.injEq] at hs
        subst hs
        exact ⟨_, by rw [hf]; rfl, R.slots u⟩
      | cell x t =>
        have conv : ∀ v, (Instr.loadAt t (a.eval (.tmp x))).run P w = .ok v w → (f (.cell x t)).run P w = .ok v w := by
          intro v hv
          rw [hc]
          simp only [Act.eval, Instr.loadAt] at hv
          generalize a.tmps.getD x undef = p at hv ⊢
          cases p with
          | pointer q =>
            cases q with
            | some q => exact hv
            | none => exact absurd hv (by simp [Instr.sureAddr])
          | _ => exact absurd hv (by simp [Instr.sureAddr])
        simp only [cRes] at h1
        split at h1
        · rename_i n hr hn
          simp only [Option.some.injEq] at h1
          subst h1
          obtain ⟨v, e1, e2⟩ := go_load_row (P := P) R (x := .tmp x) (vx := .s x) hr hn rfl hs
          exact ⟨v, conv v e1, e2⟩
        · rename_i n hr hn
          simp only [Option.some.injEq] at h1
          subst h1
          obtain ⟨v, e1, e2⟩ := go_load_one (P := P) R (x := .tmp x) (vx := .s x) hr rfl hs
          exact ⟨v, conv v e1, e2⟩
        · cases h1
    obtain ⟨v, k1, k2⟩ := key
    refine ⟨v :: vs, by simp [List.mapM_cons, k1, e1], by simp [e2], fun k s' v' hs' hv' => ?_⟩
    cases k with
    | zero => simp at hs' hv'; subst hs'; subst hv'; exact k2
    | succ k => exact e3 k s' v' (by simpa using hs') (by simpa using hv')

theorem results_eq (fn : Func) (tmps : Array Value) : ∃ f : ResultVar → Sem Value, (∀ u, f (.tmp u) = pure (tmps.getD u undef)) ∧ (∀ x t, f (.cell x t) = (do loadVar t (← asAddr (tmps.getD x undef)))) ∧
    results fn tmps = (do let vs ← fn.results.mapM f; pure (if h : vs.size = 1 then vs[0] else .tuple vs)) := ⟨_, fun _ => rfl, fun _ _ => rfl, rfl⟩

theorem results_run {E : Env} {N : Nat} {P : Program} {g : Gh} {σ : St} {a : Act} {w : World} (R : Rel E N g σ a w) {fn : Func} {os : List VO} (h : fn.results.toList.mapM (cRes P) = some os) {l : List SV} (hl : evalRs σ os = some l) :
    ∃ v, (results fn a.tmps).run P w = .ok v w ∧ SVRel w g σ.obj (retV l) v := by
  obtain ⟨f, f1, f2, f3⟩ := results_eq fn a.tmps
  obtain ⟨vs, e1, e2, e3⟩ := res_run R f f1 f2 fn.results.toList os h l hl
  rw [f3, show fn.results = fn.results.toList.toArray by simp, List.mapM_toArray]
  simp only [Sem.run_bind, Sem.run_map, Sem.run_pure]
  refine ⟨if h : vs.toArray.size = 1 then vs.toArray[0] else .tuple vs.toArray, ?_, ?_⟩
  · rw [e1]; rfl
  · by_cases h1 : vs.length = 1
    · obtain ⟨v, rfl⟩ := List.length_eq_one_iff.1 h1
      obtain ⟨s, rfl⟩ := List.length_eq_one_iff.1 (e2.trans h1)
      exact e3 0 s v rfl rfl
    · have hne : ∀ s, l ≠ [s] := by rintro s rfl; simp at e2; omega
      have hr : retV l = .tup l := by
        cases l with
        | nil => rfl
        | cons s r => cases r with
          | nil => exact absurd rfl (hne s)
          | cons s' r => rfl
      rw [hr, dif_neg (by simpa using h1)]
      exact .tup l vs e2 e3

/-- A function's contract, from what its body comes to. -/
theorem fnspec_intro {f : FuncId} {fn : Func} {c : Code} {vc : VC} {args : List SV} {h : List (Nm × OV)} {Q : SV → List (Nm × OV) → Prop} {os : List VO}
    (hf : X.P.funcs[f]? = some fn) (hb : fn.body = some c) (hc : cCode X c = some vc) (hr : fn.results.toList.mapM (cRes X.P) = some os) (hn : fn.ntmps = X.N) (ha : args.length ≤ X.N) (hh : ∀ e ∈ h, e.1.length = 2)
    (H : VT X vc ⟨argS 0 args, h⟩ fun e σ => (e = .norm ∨ e = .ret) ∧ ∃ σ', Wk X.N σ σ' ∧ ∃ l, evalRs σ' os = some l ∧ Q (retV l) σ'.h) : FnSpec X.P f args h Q := by
  intro w g vs HR hl hargs
  refine calls_of_wp hf hb ?_
  let E : Env := ⟨w, Owned g (fun n => lkO n h), g.Ps, fun n => (lkO n h).map fun o => (o, g.β n)⟩
  have HE : HRel E g (fun n => lkO n h) w := ⟨HR.objs, HR.inj, HR.disj, HR.own, HR.keeps, HR.ps0, HR.ps1, HR.psb⟩
  have hpin : ∀ n o, lkO n h = some o → PinOk (E.pin n) (g.β n) o := by
    intro n o ho
    simp only [E, ho, Option.map_some]
    cases o with
    | box t cs => exact ⟨rfl, cs, rfl⟩
    | arr t sz cs => exact ⟨cs, rfl, Nat.le_refl _, fun _ => rfl⟩
  have R0 : Rel E X.N g ⟨argS 0 args, h⟩ { tmps := vs.toArray ++ Array.replicate (fn.ntmps - vs.toArray.size) undef, defers := [] } w := by
    refine HRel.rel (σ := ⟨argS 0 args, h⟩) HE (by simp [hn]; omega) rfl (fun d => ?_) (fun n _ o ho => hpin n o ho)
    have e1 : St.get ⟨argS 0 args, h⟩ d = args.getD d .junk := by
      unfold St.get
      rw [lkS_argS]
      simp
    rw [e1]
    by_cases hd : d < args.length
    · obtain ⟨s, hs⟩ : ∃ s, args[d]? = some s := ⟨_, List.getElem?_eq_getElem hd⟩
      obtain ⟨v, hv⟩ : ∃ v, vs[d]? = some v := ⟨_, List.getElem?_eq_getElem (by omega)⟩
      have h1 : (vs.toArray ++ Array.replicate (fn.ntmps - vs.toArray.size) undef).getD d undef = v := by
        have : d < vs.length := by omega
        rw [Array.getD_eq_getD_getElem?, Array.getElem?_append_left (by simpa using this)]
        simp [hv]
      simp only
      rw [h1]
      simp only [List.getD_eq_getElem?_getD, hs, Option.getD_some]
      exact hargs d s v hs hv
    · rw [List.getD_eq_getElem?_getD, List.getElem?_eq_none (by omega)]
      exact .junk _
  refine wp_mono (H c hc E g _ w R0) ?_
  rintro e a' w' ⟨x, σ, g', rfl, ⟨hx, σ', hw, l, h1, hQ⟩, R⟩
  obtain ⟨g'', R'⟩ := hw E g' a' w' R
  obtain ⟨v, h2, h3⟩ := results_run R' hr h1
  have fin : a'.defers = [] ∧ ∃ v, (results fn a'.tmps).run X.P w' = .ok v w' ∧ ∃ v_1 s h' g', Ending.returned v = Ending.returned v_1 ∧ Q s h' ∧ HRel (mkE w (Owned g (fun n => lkO n h)) g.Ps) g' (fun n => lkO n h') w' ∧ SVRel w' g' (fun n => lkO n h') s v_1 ∧
      (∀ n t cs, lkO n h = some (.box t cs) → lkO n h' ≠ none → (∃ cs', lkO n h' = some (.box t cs')) ∧ g'.β n = g.β n) ∧
      (∀ n t sz cs, lkO n h = some (.arr t sz cs) → lkO n h' ≠ none → ∃ cs', lkO n h' = some (.arr t sz cs') ∧ cs.length ≤ cs'.length ∧ (cs.length = cs'.length → g'.β n = g.β n)) := by
    refine ⟨R.defers, v, h2, v, retV l, σ'.h, g'', rfl, hQ, ?_, h3, fun n t cs ho hn' => ?_, fun n t sz cs ho hn' => ?_⟩
    · have := R'.hrel
      exact ⟨this.objs, this.inj, this.disj, this.own, this.keeps, this.ps0, this.ps1, this.psb⟩
    · obtain ⟨o, ho'⟩ := Option.ne_none_iff_exists'.1 hn'
      have := R'.pin n (hh (n, _) (lkO_mem ho)) o ho'
      simp only [E, ho, Option.map_some] at this
      obtain ⟨hv, cs', rfl⟩ := this
      exact ⟨⟨cs', ho'⟩, hv⟩
    · obtain ⟨o, ho'⟩ := Option.ne_none_iff_exists'.1 hn'
      have := R'.pin n (hh (n, _) (lkO_mem ho)) o ho'
      simp only [E, ho, Option.map_some] at this
      obtain ⟨cs', rfl, hl', hv⟩ := this
      exact ⟨cs', ho', hl', hv⟩
  rcases hx with rfl | rfl
  · exact fin
  · exact fin
end
end Go.VL
