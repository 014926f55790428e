/- The value-level logic, the engine, part 6: things that become immutable on the way; contracts of functions that are handed closures. -/
import Derived.Test.YtckbenlmlikjoaaE5
set_option linter.unusedVariables false
set_option linter.unusedSimpArgs false
namespace Go.VL

def frV (n : Nm) (f : Fz) : XV → XV
  | .v s => .v (frS n f s)
  | .c b s => .c b (frS n f s)
def frT (n : Nm) (f : Fz) : List (Nat × XV) → List (Nat × XV)
  | [] => []
  | (d, x) :: r => (d, frV n f x) :: frT n f r
def frH (n : Nm) (f : Fz) : List (Nm × OV) → List (Nm × OV)
  | [] => []
  | (m, o) :: r => bif eqNm m n then frH n f r else (m, frO n f o) :: frH n f r
def XS.fr (X : XS) (n : Nm) (f : Fz) : XS := ⟨frT n f X.t, frH n f X.h⟩
theorem frV_den (n : Nm) (f : Fz) (x : XV) : (frV n f x).den = frS n f x.den := by
  cases x with
  | v s => rfl
  | c b s => cases b <;> simp [frV, XV.den, frS, frL]
theorem frT_den (n : Nm) (f : Fz) : ∀ l, denT (frT n f l) = (denT l).map fun e => (e.1, frS n f e.2)
  | [] => rfl
  | (d, x) :: r => by simp [frT, denT, frV_den, frT_den n f r]
theorem frH_eq (n : Nm) (f : Fz) : ∀ l, frH n f l = (delO n l).map fun e => (e.1, frO n f e.2)
  | [] => rfl
  | (m, o) :: r => by
    simp only [frH, delO]
    cases h : eqNm m n with
    | true =>
      have : m = n := (eqNm_iff m n).1 h
      rw [List.filter_cons_of_neg (by simp [this]), cond_true, frH_eq n f r]; rfl
    | false =>
      have : m ≠ n := fun e => by rw [(eqNm_iff m n).2 e] at h; cases h
      rw [List.filter_cons_of_pos (by simp [this]), cond_false, List.map_cons, frH_eq n f r]; rfl
theorem XS.fr_den (X : XS) (n : Nm) (f : Fz) : (X.fr n f).den = X.den.fr n f := by
  simp only [XS.fr, XS.den, St.fr, frT_den, frH_eq]
/-- A boxed variable, told as immutable from here on. -/
theorem xl_frbox {C : Cx} {b : VC} {X : XS} {Q : VE → XS → Prop} (n : Nm) (cs : List PV) (h : lkOK n X.h (fun o => ∃ t, o = .box t (cs.map .pv)) False) (Y : XS) (hy : X.fr n (.box cs) = Y) (k : XL C b Y Q) : XL C b X Q := by
  refine xl_weak (Y := Y) ?_ k
  rw [← hy, XS.fr_den]
  refine Wk.freeze ?_
  rcases lkOK_sound h with ⟨o, h1, t, h2⟩ | ⟨_, h2⟩
  · exact ⟨t, by rw [← h2]; exact h1⟩
  · exact h2.elim
/-- An array, likewise. -/
theorem xl_frarr {C : Cx} {b : VC} {X : XS} {Q : VE → XS → Prop} {α : Type} (n : Nm) (c : α → List PV) (f : α → PV) (l : List α) (sz : Nat) (h : lkOK n X.h (fun o => ∃ t, o = .arr t sz (arrC c l)) False) (hf : ∀ x, (f x).cells = c x) (hz : ∀ x, (c x).length = sz) (Y : XS) (hy : X.fr n (.arr sz (l.map f)) = Y) (k : XL C b Y Q) : XL C b X Q := by
  refine xl_weak (Y := Y) ?_ k
  rw [← hy, XS.fr_den]
  refine Wk.freeze ?_
  rcases lkOK_sound h with ⟨o, h1, t, h2⟩ | ⟨_, h2⟩
  · refine ⟨⟨t, ?_⟩, fun x hx => ?_⟩
    · rw [← arrC_flat hf, ← h2]; exact h1
    · obtain ⟨y, _, rfl⟩ := List.mem_map.1 hx; rw [hf, hz]
  · exact h2.elim

/-! ### Contracts over any values that lead to nothing of the frame's own -/
def PureS (P : Program) (f : FuncId) (args : List SV) (ys : List PV) : Prop := FnSpec P f args [] fun s h => s = retV (ys.map .pv) ∧ h = []
theorem Pure.pureS {P : Program} {f : FuncId} {xs ys : List PV} (h : Pure P f xs ys) : PureS P f (xs.map .pv) ys := h
def argXS : Nat → List SV → List (Nat × XV)
  | _, [] => []
  | i, s :: r => (i, .v s) :: argXS (i + 1) r
theorem argXS_den : ∀ (l : List SV) (i : Nat), denT (argXS i l) = argS i l
  | [], _ => rfl
  | p :: r, i => by simp [argXS, denT, argS, argXS_den r, XV.den]
theorem pureS_intro {C : Cx} {f : FuncId} {fn : Func} {vc : VC} {args : List SV} {ys : List PV} {os : List VO}
    (hf : C.P.funcs[f]? = some fn) (hc : fn.body.bind (cCode C) = some vc) (hr : fn.results.toList.mapM (cRes C.P) = some os) (hn : fn.ntmps = C.N) (ha : args.length ≤ C.N)
    (H0 : xrun C vc ⟨argXS 0 args, []⟩ (endK os fun l h => EndL h l ys)) : PureS C.P f args ys := by
  have H := xrun_sound H0
  obtain ⟨c, hb, hc'⟩ := Option.bind_eq_some_iff.1 hc
  intro w g vs HR hl hargs
  refine calls_of_wp hf hb ?_
  let E : Env := mkE w (Owned g (fun n => lkO n [])) g.Ps
  have R0 : Rel E C.N g (XS.den ⟨argXS 0 args, []⟩) { tmps := vs.toArray ++ Array.replicate (fn.ntmps - vs.toArray.size) undef, defers := [] } w := by
    refine HRel.rel (σ := XS.den ⟨argXS 0 args, []⟩) ⟨HR.objs, HR.inj, HR.disj, HR.own, HR.keeps, HR.ps0, HR.ps1, HR.psb⟩ (by simp at hl ⊢; omega) rfl (fun d => ?_) (fun n _ o ho => by cases ho)
    have e1 : St.get (XS.den ⟨argXS 0 args, []⟩) d = args.getD d .junk := by
      unfold St.get XS.den
      simp only
      rw [argXS_den, lkS_argS]
      simp
    rw [e1]
    by_cases hd : d < args.length
    · obtain ⟨s, hs⟩ : ∃ s, args[d]? = some s := ⟨_, List.getElem?_eq_getElem hd⟩
      obtain ⟨v, hv⟩ : ∃ v, vs[d]? = some v := ⟨_, List.getElem?_eq_getElem (by omega)⟩
      have h1 : (vs.toArray ++ Array.replicate (fn.ntmps - vs.toArray.size) undef).getD d undef = v := by
        have : d < vs.length := by omega
        rw [Array.getD_eq_getD_getElem?, Array.getElem?_append_left (by simpa using this)]
        simp [hv]
      simp only
      rw [h1]
      simp only [List.getD_eq_getElem?_getD, hs, Option.getD_some]
      exact hargs d s v hs hv
    · rw [List.getD_eq_getElem?_getD, List.getElem?_eq_none (by omega)]
      exact .junk _
  refine wp_mono (H.out c hc' E g _ w R0) ?_
  rintro e a' w' ⟨x, σ, g', rfl, ⟨Y, hw, hQ⟩, R⟩
  obtain ⟨g'', R'⟩ := hw E g' a' w' R
  have fin : resK Y os (fun l => EndL (fun n => lkO n Y.h) l ys) → a'.defers = [] ∧ ∃ v, (results fn a'.tmps).run C.P w' = .ok v w' ∧ ∃ v_1 s h' g', Ending.returned v = Ending.returned v_1 ∧ (s = retV (ys.map .pv) ∧ h' = []) ∧ HRel (mkE w (Owned g (fun n => lkO n [])) g.Ps) g' (fun n => lkO n h') w' ∧ SVRel w' g' (fun n => lkO n h') s v_1 ∧
      (∀ n t cs, lkO n [] = some (.box t cs) → lkO n h' ≠ none → (∃ cs', lkO n h' = some (.box t cs')) ∧ g'.β n = g.β n) ∧
      (∀ n t sz cs, lkO n [] = some (.arr t sz cs) → lkO n h' ≠ none → ∃ cs', lkO n h' = some (.arr t sz cs') ∧ cs.length ≤ cs'.length ∧ (cs.length = cs'.length → g'.β n = g.β n)) := by
    intro hres
    obtain ⟨l, h1, h2⟩ := resK_sound hres
    obtain ⟨v, h3, h4⟩ := results_run R' hr h1
    obtain ⟨xs', h2', h2''⟩ := h2.get
    obtain ⟨g3, _, h5, h6⟩ := R'.froz h2' h4
    exact ⟨R'.defers, v, h3, v, _, [], g3, rfl, ⟨rfl, rfl⟩, h5, h2''.retV h6, (fun n t cs ho => by cases ho), (fun n t sz cs ho => by cases ho)⟩
  cases x with
  | norm => exact fin hQ
  | ret => exact fin hQ
  | exit i => exact hQ.elim
/-- A call, by such a contract. -/
theorem XCall.pureS {P : Program} {f : FuncId} {vals : List SV} {X : XS} {ys : List PV} {dst : Option Nat} {K : XS → Prop} (hs : PureS P f vals ys) (hn : ∀ s ∈ vals, s.names = []) (hk : retK (fun s => setDK dst (.v s) X K) ys) : XCall P f vals dst X K := by
  refine ⟨fun K2 hK => ?_⟩
  obtain ⟨Y, h1, h2⟩ := setDK_sound (retK_sound hk)
  refine .gen vals [] _ id hs rfl (by simp) (fun k s c hs' hc => ?_) (fun n o ho => by simp [lkO] at ho) ?_
  · rw [hs'] at hc
    simp only [Option.some.injEq] at hc
    subst hc
    refine ⟨?_, fun n hn' => ?_⟩
    · have := Fits.same (ρ := id) s
      rwa [SV.ren_id] at this
    · rw [hn s (List.mem_of_getElem? hs')] at hn'; cases hn'
  · rintro s h' ⟨rfl, rfl⟩
    refine ⟨[], ⟨by simp, by simp, by simp, by simp, by simp⟩, ?_⟩
    rw [SV.ren_id, afterT_nil, afterH_nil]
    have := hK Y h2
    rw [h1] at this
    exact this
theorem cs {P : Program} {f : FuncId} {vals : List SV} {X : XS} {ys : List PV} {dst : Option Nat} {K : XS → Prop} (hs : PureS P f vals ys) (hn : ∀ s ∈ vals, s.names = []) (hk : retK (fun s => setDK dst (.v s) X K) ys) : XCall P f vals dst X K := XCall.pureS hs hn hk

/-! ### Contracts over things of the frame's own -/
def endG (os : List VO) (Q : SV → List (Nm × OV) → Prop) : VE → XS → Prop
  | .norm, X => resK X os fun l => Q (retV l) X.h
  | .ret, X => resK X os fun l => Q (retV l) X.h
  | .exit _, _ => False
theorem fnspecG {C : Cx} {f : FuncId} {fn : Func} {vc : VC} {args : List SV} {h : List (Nm × OV)} {Q : SV → List (Nm × OV) → Prop} {os : List VO}
    (hf : C.P.funcs[f]? = some fn) (hc : fn.body.bind (cCode C) = some vc) (hr : fn.results.toList.mapM (cRes C.P) = some os) (hn : fn.ntmps = C.N) (ha : args.length ≤ C.N) (hh : ∀ e ∈ h, e.1.length = 2)
    (H : xrun C vc ⟨argXS 0 args, h⟩ (endG os Q)) : FnSpec C.P f args h Q := by
  refine fnspec hf hc hr hn ha hh ?_
  have e : XS.den ⟨argXS 0 args, h⟩ = ⟨argS 0 args, h⟩ := by simp [XS.den, argXS_den]
  rw [← e]
  refine vt_mono (xrun_sound H).out ?_
  rintro x σ ⟨Y, h1, h2⟩
  have fin : resK Y os (fun l => Q (retV l) Y.h) → ∃ σ', Wk C.N σ σ' ∧ ∃ l, evalRs σ' os = some l ∧ Q (retV l) σ'.h := by
    intro h3
    obtain ⟨l, h4, h5⟩ := resK_sound h3
    exact ⟨_, h1, l, h4, h5⟩
  cases x with
  | norm => exact ⟨.inl rfl, fin h2⟩
  | ret => exact ⟨.inr rfl, fin h2⟩
  | exit i => exact h2.elim
/-- An empty slice is nil, or it is not. -/
theorem FnSpec.empty {P : Program} {f : FuncId} {sz : Nat} {h : List (Nm × OV)} {Q : SV → List (Nm × OV) → Prop} (h1 : FnSpec P f [.pv .nilS] h Q) (h2 : FnSpec P f [.pv .emptyS] h Q) : FnSpec P f [.pv (.list sz [])] h Q := by
  intro w g vs HR hl hargs
  obtain ⟨v, rfl⟩ : ∃ v, vs = [v] := List.length_eq_one_iff.1 hl.symm
  have hr := (hargs 0 _ v rfl rfl).pv_inv
  cases hr with
  | list _ _ base cap b off u hs hb hm hcap hw hrr hnc =>
    cases base with
    | none =>
      have := hnc rfl
      subst this
      refine h1 w g _ HR rfl (fun k s v hs hv => ?_)
      cases k with
      | zero => simp at hs hv; subst hs; subst hv; exact .pv _ _ .nilS
      | succ k => simp at hs
    | some a =>
      refine h2 w g _ HR rfl (fun k s v hs hv => ?_)
      cases k with
      | zero => simp at hs hv; subst hs; subst hv; exact .pv _ _ (.emptyS a cap)
      | succ k => simp at hs
/-- What is nil is told as an array of nothing. -/
theorem FnSpec.nil_arr {P : Program} {f : FuncId} {args : List SV} (n : Nm) (t : TypeId) {sz : Nat} (hz : 0 < sz) (h1 : FnSpec P f args [] fun s h => s = .pv .nilS ∧ h = []) : FnSpec P f args [] fun s h => s = .arr n 0 ∧ h = [(n, .arr t sz [])] := by
  intro w g vs HR hl hargs
  refine (h1 w g vs HR hl hargs).mono ?_
  rintro e w' ⟨v, s, h', g', rfl, ⟨rfl, rfl⟩, H, hv, hb, ha⟩
  have hv' := hv.nilS
  subst hv'
  refine ⟨_, _, _, { β := fun _ => .slice none 0 0, Ps := g'.Ps }, rfl, ⟨rfl, rfl⟩, ⟨fun m o ho => ?_, fun m k hm hk hmk => ?_, (fun m hm b hb => by cases hb), (fun m hm b hb => by cases hb), H.keeps, H.ps0, H.ps1, H.psb⟩, ?_, (fun n t cs ho => by cases ho), (fun n t sz cs ho => by cases ho)⟩
  · simp only [lkO] at ho
    split at ho
    · simp only [Option.some.injEq] at ho
      subst ho
      exact ⟨hz, 0, [], ⟨by simp, .inl ⟨rfl, rfl⟩⟩, rfl, by simp, by simp⟩
    · cases ho
  · intro b hb; cases hb
  · exact .arr n 0 t sz [] _ (by simp [lkO]) (Nat.le_refl _) (fun _ => rfl) rfl
mutual
theorem ren_none' {ρ : Nm → Nm} (s : SV) (h : s.names = []) : s.ren ρ = s := by
  cases s with
  | pv x => rfl
  | junk => rfl
  | ref m o => simp [SV.names] at h
  | aref m o t => simp [SV.names] at h
  | arr m t => simp [SV.names] at h
  | mp m => simp [SV.names] at h
  | clo f cs => rw [SV.ren, renL_none' cs (by simpa [SV.names] using h)]
  | agg cs => rw [SV.ren, renL_none' cs (by simpa [SV.names] using h)]
  | tup cs => rw [SV.ren, renL_none' cs (by simpa [SV.names] using h)]
theorem renL_none' {ρ : Nm → Nm} (cs : List SV) (h : namesL cs = []) : renL ρ cs = cs := by
  cases cs with
  | nil => rfl
  | cons c r =>
    simp only [namesL, List.append_eq_nil_iff] at h
    rw [renL, ren_none' c h.1, renL_none' r h.2]
end
theorem ren_none {ρ : Nm → Nm} {s : SV} (h : s.names = []) : s.ren ρ = s := ren_none' s h
theorem renL_none {ρ : Nm → Nm} {cs : List SV} (h : namesL cs = []) : renL ρ cs = cs := renL_none' cs h
theorem namesL_none {cs : List SV} (h : ∀ s ∈ cs, s.names = []) : namesL cs = [] := by
  induction cs with
  | nil => rfl
  | cons c r ih => rw [namesL, h c (by simp), ih (fun s hs => h s (by simp [hs]))]; rfl
theorem setO_absent {n : Nm} {o : OV} : ∀ {l : List (Nm × OV)}, lkO n l = none → setO n o l = l ++ [(n, o)]
  | [], _ => rfl
  | (m, p) :: r, h => by
    simp only [lkO] at h
    by_cases hm : m = n
    · rw [if_pos hm] at h; cases h
    · rw [if_neg hm] at h
      simp only [setO, if_neg hm, List.cons_append, setO_absent h]
/-- A call that hands back a new array of the frame's own. -/
theorem XCall.newArr {P : Program} {f : FuncId} {vals : List SV} {X : XS} {d : Nat} {K : XS → Prop} {m : Nm} {t : TypeId} {sz n : Nat} {cs : List SV} (hs : FnSpec P f vals [] fun s h => s = .arr m n ∧ h = [(m, .arr t sz cs)]) (hn : ∀ s ∈ vals, s.names = []) (hcs : namesL cs = []) (hk : newK d (.arr t sz cs) (.arr [d] n) X K) : XCall P f vals (some d) X K := by
  refine ⟨fun K2 hK => ?_⟩
  obtain ⟨h0, Y, h1, h2⟩ := newK_sound hk
  refine .gen vals [] _ (fun _ => [d]) hs rfl (by simp) (fun k s c hs' hc => ?_) (fun n o ho => by simp [lkO] at ho) ?_
  · rw [hs'] at hc
    simp only [Option.some.injEq] at hc
    subst hc
    have hnn := hn s (List.mem_of_getElem? hs')
    refine ⟨?_, fun n hn' => by rw [hnn] at hn'; cases hn'⟩
    have := Fits.same (ρ := fun _ => [d]) s
    rwa [ren_none hnn] at this
  · rintro s h' ⟨rfl, rfl⟩
    refine ⟨[], ⟨by simp, by simp [h0], by simp, by simp, by simp⟩, ?_⟩
    have := hK Y h2
    rw [h1] at this
    have e1 : afterT X.den [] = X.den.t := afterT_nil _
    have e2 : afterH X.den (fun _ => [d]) [] [(m, .arr t sz cs)] = setO [d] (.arr t sz cs) X.den.h := by
      rw [setO_absent (show lkO [d] X.den.h = none from h0)]
      simp [afterH, OV.ren, renL_none hcs]
    rw [e1, e2]
    exact this

/-! ### Things given up on the way; reading one's own arrays -/
theorem wk_drop {N : Nat} {X Y : XS} (ds : List Nm) (h : okHK ds X.h (dropTK ds X.t fun t' => dropHK ds X.h fun h' => Y = ⟨t', h'⟩)) : Wk N X.den Y.den := by
  obtain ⟨h1, h2⟩ := okHK_sound h
  obtain ⟨t, h3, h4⟩ := dropTK_sound h2
  have h5 := dropHK_sound (K := fun h' => Y = ⟨t, h'⟩) h4
  have e : Y.den = X.den.drop ds := by rw [h5]; simp only [XS.den, h3]; rw [drop_eq]
  rw [e]
  exact Wk.drop ds ((dropOk_eq _ _ _).2 h1)
/-- Behind a round of a loop, after what is given up. -/
def lpW {α : Type} (N : Nat) (S : α → XS) (I : α → Prop) (μ : α → Nat) (a : α) (Q : VE → XS → Prop) : VE → XS → Prop
  | .norm, Y => ∃ a', Wk N Y.den (S a').den ∧ I a' ∧ μ a' < μ a
  | .exit i, Y => Q (.exit i) Y
  | .ret, Y => Q .ret Y
theorem xl_loopW {C : Cx} {X : XS} {Q : VE → XS → Prop} {α : Type} {b : VC} (S : α → XS) (I : α → Prop) (μ : α → Nat) (a0 : α) (h0 : X = S a0) (hI : I a0) (hr : ∀ a, I a → xrun C b (S a) (lpW C.N S I μ a Q)) : XL C b X Q := by
  refine ⟨⟨vt_loop (fun n σ => ∃ a, n = μ a ∧ σ = (S a).den ∧ I a) (μ a0) ⟨a0, rfl, by rw [h0], hI⟩ ?_⟩⟩
  rintro n σ ⟨a, rfl, rfl, ha⟩
  refine vt_post (vt_mono (xrun_sound (hr a ha)).out ?_)
  rintro e σ' ⟨Y, h1, h2⟩
  cases e with
  | norm => obtain ⟨a', h3, h4, h5⟩ := h2; exact ⟨(S a').den, h1.trans h3, μ a', h5, a', rfl, rfl, h4⟩
  | exit i => exact ⟨Y.den, h1, Y, Wk.refl _ _, h2⟩
  | ret => exact ⟨Y.den, h1, Y, Wk.refl _ _, h2⟩
theorem wk_eq {N : Nat} {X Y : XS} (h : X = Y) : Wk N X.den Y.den := by subst h; exact Wk.refl _ _
theorem wk_drop_eq {N : Nat} {X Y Z : XS} (ds : List Nm) (h : okHK ds X.h (dropTK ds X.t fun t' => dropHK ds X.h fun h' => Y = ⟨t', h'⟩)) (e : Y = Z) : Wk N X.den Z.den := by subst e; exact wk_drop ds h
theorem arrC_get {α : Type} {c : α → List PV} {n : Nat} (hc : ∀ x, (c x).length = n) (d : α) : ∀ (l : List α) (j : Nat), j < l.length → ((arrC c l).drop (j * n)).take n = (c (l.getD j d)).map SV.pv
  | [], j, h => by simp at h
  | a :: r, 0, h => by
    have e : arrC c (a :: r) = (c a).map SV.pv ++ arrC c r := by simp [arrC]
    rw [e, Nat.zero_mul, List.drop_zero, List.take_left' (by simp [hc])]
    rfl
  | a :: r, j + 1, h => by
    have e : arrC c (a :: r) = (c a).map SV.pv ++ arrC c r := by simp [arrC]
    have hl : ((c a).map SV.pv).length = n := by simp [hc]
    rw [e, show (j + 1) * n = ((c a).map SV.pv).length + j * n by rw [hl, Nat.add_mul]; omega, List.drop_append, List.drop_of_length_le (by omega), List.nil_append, Nat.add_sub_cancel_left]
    exact arrC_get hc d r j (by simpa using h)
section
variable {α : Type} {c : α → List PV} {G : Option Bool} {l : List α} {K : List SV → Prop}
/-- An element of one's own array: all its cells. -/
theorem ac_all {n : Nat} {i : Int} (hc : ∀ x, (c x).length = n) (hn : 0 < n) (d : α) (h : gd G (0 ≤ i ∧ i.toNat < l.length)) (hk : K ((c (l.getD i.toNat d)).map SV.pv)) : ∃ m, ACells G (arrC c l) (arrC c l).length (i.toNat * n) n m ∧ K m := by
  refine ⟨_, ⟨fun ho => ?_⟩, hk⟩
  have h1 := gd_on h ho
  have h2 := arrC_len hc l
  have h3 : i.toNat * n + n ≤ l.length * n := by
    have : (i.toNat + 1) * n ≤ l.length * n := Nat.mul_le_mul_right n (by omega)
    rw [Nat.add_mul] at this; omega
  rw [Nat.mul_comm] at h2
  exact ⟨rfl, by omega, by omega, arrC_get hc d l _ h1.2⟩
theorem aidx_arr {n : Nat} {i : Int} {R : Prop} (hc : ∀ x, (c x).length = n) (h : gd G (0 ≤ i ∧ i.toNat < l.length)) (hk : R) : AIdx G (arrC c l) (arrC c l).length n i ∧ R := by
  refine ⟨⟨fun ho => ?_⟩, hk⟩
  have h1 := gd_on h ho
  have h2 := arrC_len hc l
  have h3 : i.toNat * n + n ≤ l.length * n := by
    have : (i.toNat + 1) * n ≤ l.length * n := Nat.mul_le_mul_right n (by omega)
    rw [Nat.add_mul] at this; omega
  rw [Nat.mul_comm] at h2
  exact ⟨rfl, h1.1, by omega⟩
theorem aln_arr {n : Nat} {K : Nat → Prop} (hc : ∀ x, (c x).length = n) (hn : 0 < n) (hk : K l.length) : ∃ m, ALen G (arrC c l) (arrC c l).length n m ∧ K m :=
  ⟨_, ⟨fun _ => ⟨rfl, by rw [arrC_len hc, Nat.mul_comm]; exact Nat.mul_div_cancel _ hn⟩⟩, hk⟩
end
theorem restK_go {ks os : List Nat} {X : XS} {K : XS → Prop} (h : restK ks os X K) : restK ks os X K := h
end Go.VL
