/- The value-level logic, the engine, part 9: contracts that tell a result by what holds of it; arrays that are written in the middle. -/
import Derived.Test.YtckbenlmlikjoaaE8
set_option linter.unusedVariables false
set_option linter.unusedSimpArgs false
namespace Go.VL

def PureR (P : Program) (f : FuncId) (xs : List PV) (R : List PV → Prop) : Prop := FnSpec P f (xs.map .pv) [] fun s h => ∃ ys, R ys ∧ s = retV (ys.map .pv) ∧ h = []
theorem pureR_intro {C : Cx} {f : FuncId} {fn : Func} {vc : VC} {xs : List PV} {R : List PV → Prop} {os : List VO}
    (hf : C.P.funcs[f]? = some fn) (hc : fn.body.bind (cCode C) = some vc) (hr : fn.results.toList.mapM (cRes C.P) = some os) (hn : fn.ntmps = C.N) (ha : xs.length ≤ C.N)
    (H0 : xrun C vc ⟨argX 0 xs, []⟩ (endK os fun l h => ∃ ys, R ys ∧ EndL h l ys)) : PureR C.P f xs R := by
  have H := xrun_sound H0
  obtain ⟨c, hb, hc'⟩ := Option.bind_eq_some_iff.1 hc
  intro w g vs HR hl hargs
  refine calls_of_wp hf hb ?_
  let E : Env := mkE w (Owned g (fun n => lkO n [])) g.Ps
  have R0 : Rel E C.N g (XS.den ⟨argX 0 xs, []⟩) { tmps := vs.toArray ++ Array.replicate (fn.ntmps - vs.toArray.size) undef, defers := [] } w := by
    refine HRel.rel (σ := XS.den ⟨argX 0 xs, []⟩) ⟨HR.objs, HR.inj, HR.disj, HR.own, HR.keeps, HR.ps0, HR.ps1, HR.psb⟩ (by simp at hl ⊢; omega) rfl (fun d => ?_) (fun n _ o ho => by cases ho)
    have e1 : St.get (XS.den ⟨argX 0 xs, []⟩) d = (xs.map SV.pv).getD d .junk := by
      unfold St.get XS.den
      simp only
      rw [argX_den, lkS_argS]
      simp
    rw [e1]
    by_cases hd : d < (xs.map SV.pv).length
    · obtain ⟨s, hs⟩ : ∃ s, (xs.map SV.pv)[d]? = some s := ⟨_, List.getElem?_eq_getElem hd⟩
      obtain ⟨v, hv⟩ : ∃ v, vs[d]? = some v := ⟨_, List.getElem?_eq_getElem (by omega)⟩
      have h1 : (vs.toArray ++ Array.replicate (fn.ntmps - vs.toArray.size) undef).getD d undef = v := by
        have : d < vs.length := by omega
        rw [Array.getD_eq_getD_getElem?, Array.getElem?_append_left (by simpa using this)]
        simp [hv]
      simp only
      rw [h1]
      simp only [List.getD_eq_getElem?_getD, hs, Option.getD_some]
      exact hargs d s v hs hv
    · rw [List.getD_eq_getElem?_getD, List.getElem?_eq_none (by omega)]
      exact .junk _
  refine wp_mono (H.out c hc' E g _ w R0) ?_
  rintro e a' w' ⟨x, σ, g', rfl, ⟨Y, hw, hQ⟩, R1⟩
  obtain ⟨g'', R'⟩ := hw E g' a' w' R1
  have fin : resK Y os (fun l => ∃ ys, R ys ∧ EndL (fun n => lkO n Y.h) l ys) → a'.defers = [] ∧ ∃ v, (results fn a'.tmps).run C.P w' = .ok v w' ∧ ∃ v_1 s h' g', Ending.returned v = Ending.returned v_1 ∧ (∃ ys, R ys ∧ s = retV (ys.map .pv) ∧ h' = []) ∧ HRel (mkE w (Owned g (fun n => lkO n [])) g.Ps) g' (fun n => lkO n h') w' ∧ SVRel w' g' (fun n => lkO n h') s v_1 ∧
      (∀ n t cs, lkO n [] = some (.box t cs) → lkO n h' ≠ none → (∃ cs', lkO n h' = some (.box t cs')) ∧ g'.β n = g.β n) ∧
      (∀ n t sz cs, lkO n [] = some (.arr t sz cs) → lkO n h' ≠ none → ∃ cs', lkO n h' = some (.arr t sz cs') ∧ cs.length ≤ cs'.length ∧ (cs.length = cs'.length → g'.β n = g.β n)) := by
    intro hres
    obtain ⟨l, h1, ys, hR, h2⟩ := resK_sound hres
    obtain ⟨v, h3, h4⟩ := results_run R' hr h1
    obtain ⟨xs', h2', h2''⟩ := h2.get
    obtain ⟨g3, _, h5, h6⟩ := R'.froz h2' h4
    exact ⟨R'.defers, v, h3, v, _, [], g3, rfl, ⟨ys, hR, rfl, rfl⟩, h5, h2''.retV h6, (fun n t cs ho => by cases ho), (fun n t sz cs ho => by cases ho)⟩
  cases x with
  | norm => exact fin hQ
  | ret => exact fin hQ
  | exit i => exact hQ.elim
theorem XCall.pureR {P : Program} {f : FuncId} {vals : List SV} {xs : List PV} {R : List PV → Prop} {X : XS} {dst : Option Nat} {K : XS → Prop} (hs : PureR P f xs R) (hv : SubSL vals xs) (hk : ∀ ys, R ys → retK (fun s => setDK dst (.v s) X K) ys) : XCall P f vals dst X K := by
  obtain ⟨al, rfl, hsub⟩ := hv.get
  refine ⟨fun K2 hK => ?_⟩
  refine .gen (al.map .pv) [] _ id (FnSpec.sub hs hsub) rfl (by simp) (fun k s c hs' hc => ?_) (fun n o ho => by simp [lkO] at ho) ?_
  · rw [hs'] at hc
    simp only [Option.some.injEq] at hc
    subst hc
    simp only [List.getElem?_map, Option.map_eq_some_iff] at hs'
    obtain ⟨x, _, rfl⟩ := hs'
    exact ⟨Fits.same (ρ := id) (.pv x), fun n hn => by simp [SV.names] at hn⟩
  · rintro s h' ⟨ys, hR, rfl, rfl⟩
    obtain ⟨Y, h1, h2⟩ := setDK_sound (retK_sound (hk ys hR))
    refine ⟨[], ⟨by simp, by simp, by simp, by simp, by simp⟩, ?_⟩
    rw [SV.ren_id, afterT_nil, afterH_nil]
    have := hK Y h2
    rw [h1] at this
    exact this
section
variable {α : Type} {c : α → List PV} {G : Option Bool} {l : List α}
theorem aidx_tag {n T : Nat} {i : Int} {R : Prop} (hc : ∀ x, (c x).length = n) (h : gd G (T = (arrC c l).length ∧ 0 ≤ i ∧ i.toNat < l.length)) (hk : R) : AIdx G (arrC c l) T n i ∧ R := by
  refine ⟨⟨fun ho => ?_⟩, hk⟩
  obtain ⟨h0, h1⟩ := gd_on h ho
  have h2 := arrC_len hc l
  have h3 : i.toNat * n + n ≤ l.length * n := by
    have : (i.toNat + 1) * n ≤ l.length * n := Nat.mul_le_mul_right n (by omega)
    rw [Nat.add_mul] at this; omega
  rw [Nat.mul_comm] at h2
  exact ⟨h0, h1.1, by omega⟩
theorem ac_tag {n T : Nat} {i : Int} {K : List SV → Prop} {d x : α} (hx : l.getD i.toNat d = x) (hc : ∀ x, (c x).length = n) (hn : 0 < n) (h : gd G (T = (arrC c l).length ∧ 0 ≤ i ∧ i.toNat < l.length)) (hk : K ((c x).map SV.pv)) : ∃ m, ACells G (arrC c l) T (i.toNat * n) n m ∧ K m := by
  subst hx
  refine ⟨_, ⟨fun ho => ?_⟩, hk⟩
  obtain ⟨h0, h1⟩ := gd_on h ho
  have h2 := arrC_len hc l
  have h3 : i.toNat * n + n ≤ l.length * n := by
    have : (i.toNat + 1) * n ≤ l.length * n := Nat.mul_le_mul_right n (by omega)
    rw [Nat.add_mul] at this; omega
  rw [Nat.mul_comm] at h2
  exact ⟨h0, by omega, by omega, arrC_get hc d l _ h1.2⟩
theorem arrC_set {n : Nat} (hc : ∀ x, (c x).length = n) (x : α) : ∀ (l : List α) (j : Nat), j < l.length → splice (j * n) ((c x).map SV.pv) (arrC c l) = arrC c (l.set j x)
  | [], j, h => by simp at h
  | a :: r, 0, h => by
    have e : arrC c (a :: r) = (c a).map SV.pv ++ arrC c r := by simp [arrC]
    have e2 : arrC c (x :: r) = (c x).map SV.pv ++ arrC c r := by simp [arrC]
    rw [Nat.zero_mul, List.set_cons_zero, e, e2, splice, List.take_zero, List.nil_append, Nat.zero_add, List.drop_left' (by simp [hc])]
  | a :: r, j + 1, h => by
    have e : arrC c (a :: r) = (c a).map SV.pv ++ arrC c r := by simp [arrC]
    have e2 : arrC c (a :: r.set j x) = (c a).map SV.pv ++ arrC c (r.set j x) := by simp [arrC]
    have hl : ((c a).map SV.pv).length = n := by simp [hc]
    rw [List.set_cons_succ, e, e2, ← arrC_set hc x r j (by simpa using h), splice, splice, show (j + 1) * n = ((c a).map SV.pv).length + j * n by rw [hl, Nat.add_mul]; omega, List.take_length_add_append, Nat.add_assoc, List.drop_length_add_append]
    simp only [List.append_assoc]
theorem st_tag {n T : Nat} {i : Int} {K : List SV → Prop} {new : List SV} (x : α) (hx : (c x).map SV.pv = new) (hc : ∀ x, (c x).length = n) (h : T = (arrC c l).length ∧ 0 ≤ i ∧ i.toNat < l.length) (hk : K (arrC c (l.set i.toNat x))) : ∃ cs', SetAt (arrC c l) T (i.toNat * n) new cs' ∧ K cs' := by
  subst hx
  obtain ⟨h0, h1⟩ := h
  have h2 := arrC_len hc l
  have h3 : i.toNat * n + n ≤ l.length * n := by
    have : (i.toNat + 1) * n ≤ l.length * n := Nat.mul_le_mul_right n (by omega)
    rw [Nat.add_mul] at this; omega
  rw [Nat.mul_comm] at h2
  exact ⟨_, ⟨h0, by rw [List.length_map, hc]; omega, arrC_set hc x l _ h1.2⟩, hk⟩
/-- The last element of what was just made longer. -/
theorem st_snoc {T off : Nat} {K : List SV → Prop} {new tl : List SV} (x : α) (hx : (c x).map SV.pv = new) (h : T = (arrC c l ++ tl).length ∧ (arrC c l).length = off ∧ tl.length = new.length) (hk : K (arrC c (l ++ [x]))) : ∃ cs', SetAt (arrC c l ++ tl) T off new cs' ∧ K cs' := by
  obtain ⟨h0, h1, h2⟩ := h
  refine ⟨_, ⟨h0, by rw [List.length_append]; omega, ?_⟩, hk⟩
  rw [arrC_append, splice, ← h1, List.take_left' rfl, List.drop_of_length_le (by rw [List.length_append]; omega), List.append_nil, ← hx]
  simp [arrC]
theorem rep_arr {n m : Nat} {K : List SV → Prop} {z : List SV} (x : α) (hx : (c x).map SV.pv = z) (hm : (arrC c (List.replicate n x)).length = m) (hk : K (arrC c (List.replicate n x))) : ∃ cs, RepOf n z cs m ∧ K cs := by
  refine ⟨_, ⟨?_, hm.symm⟩, hk⟩
  subst hx
  clear hm hk
  induction n with
  | zero => rfl
  | succ n ih =>
    have e : ∀ r, arrC c (x :: r) = (c x).map SV.pv ++ arrC c r := fun r => by simp [arrC]
    rw [List.replicate_succ, List.flatten_cons, ih, List.replicate_succ, e]
end
/-- Slots and things may be given up anywhere. -/
theorem wk_rest {N : Nat} {X Y : XS} (ks os : List Nat) (h : restK ks os X fun Z => Z = Y) : Wk N X.den Y.den := by
  intro E g a w R
  obtain ⟨σ', h1, h2⟩ := Rel.rest (K := fun σ => σ = Y.den) (restK_sound h (fun Z hZ => by rw [hZ])) R
  subst h1
  exact ⟨g, h2⟩
end Go.VL
