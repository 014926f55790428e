/- The value-level logic, part 21: a plan for a statement with an open order; that it holds in all orders. -/
import Derived.Test.YtckbenlmlikjoaaV20
set_option linter.unusedVariables false
set_option linter.unusedSimpArgs false
namespace Go.VL

/-- A plan: operations that go ahead; then those that may be next, each with what comes behind it. -/
inductive VPl where
  | done
  | bad
  | stop
  | take (o : VOp) (p : VPl)
  | alt (d : Bool) (o : VOp) (p q : VPl)
  deriving Inhabited

/-- An operation with one outcome. -/
def vtakeX (P : Program) (dst : Option Nat) (op : VO) (σ : St) (K : St → Prop) : Prop :=
  match op with
  | .bslice _ _ sz parts => match elems σ sz parts with
    | some xs => K (setD σ dst (.pv (.list sz xs)))
    | none => False
  | .call f args => ∃ s, VDet P f (args.map σ.val) σ.obj s ∧ K (setD σ dst s)
  | .callv x args => match σ.val x with
    | .pv (.fn f) => hasBody P f = true ∧ ∃ s, VDet P f (args.map σ.val) σ.obj s ∧ K (setD σ dst s)
    | .clo f caps => hasBody P f = true ∧ ∃ s, VDet P f (args.map σ.val ++ caps) σ.obj s ∧ K (setD σ dst s)
    | _ => False
  | op => match evalV σ op with
    | some s => K (setD σ dst s)
    | none => False
def vtake (P : Program) (o : VOp) (σ : St) (K : St → Prop) : Prop :=
  match guardB σ o.guard with
  | some true => vtakeX P o.dst o.op σ K
  | some false => K (setD σ o.dst (.tup []))
  | none => False

def vpl (P : Program) (K : St → Prop) : VPl → St → Prop
  | .done, σ => K σ
  | .bad, _ => False
  | .stop, _ => True
  | .take o p, σ => vtake P o σ (vpl P K p)
  | .alt d o p q, σ => (if d then vtake P o σ (vpl P K p) else vstep P o σ (vpl P K p)) ∧ vpl P K q σ

def mkAlts (loud : Nat → Bool) (ops : List VOp) (f : Nat → VPl) : List Nat → VPl
  | [] => .stop
  | i :: r => match ops[i]? with
    | some o => .alt (isD loud o.dst o.op) o (f i) (mkAlts loud ops f r)
    | none => .bad

def mkPlan (loud : Nat → Bool) (as : List (List Nat)) (ops : List VOp) : Nat → List Bool → VPl
  | 0, L => match vready as L with
    | [] => .done
    | _ => .bad
  | n + 1, L => match vready as L with
    | [] => .done
    | i :: r => match (i :: r).find? (vfree loud as ops L) with
      | some k => match ops[k]? with
        | some o => .take o (mkPlan loud as ops n (L.set k true))
        | none => .bad
      | none => mkAlts loud ops (fun k => mkPlan loud as ops n (L.set k true)) (i :: r)

def clK (K : St → Prop) (σ : St) : Prop := ∃ τ, Eqv τ σ ∧ K τ
theorem clK_cl (K : St → Prop) : Cl (clK K) := fun σ τ h ⟨υ, h1, h2⟩ => ⟨υ, h1.trans h, h2⟩

section
variable {P : Program} {loud : Nat → Bool} {as : List (List Nat)} {ops : List VOp} {K : St → Prop}

theorem vtakeX_spec {dst : Option Nat} {op : VO} {σ : St} (hd : isD loud dst op = true) (h : vtakeX P dst op σ K) : ∃ s, det P σ op s ∧ K (setD σ dst s) := by
  by_cases hv : isVal op = true
  · have : vtakeX P dst op σ K = match evalV σ op with
        | some s => K (setD σ dst s)
        | none => False := by cases op <;> first | rfl | simp [isVal] at hv
    rw [this] at h
    split at h <;> try (cases h; done)
    rename_i s hs
    exact ⟨s, (det_val hv).2 hs, h⟩
  · cases op <;> simp [isVal] at hv <;> simp only [vtakeX] at h <;> try (simp [isD] at hd; done)
    case bslice own e sz parts =>
      split at h <;> try (cases h; done)
      rename_i xs hx
      refine ⟨_, ⟨?_, xs, hx, rfl⟩, h⟩
      simp only [isD, Bool.and_eq_true, Bool.not_eq_true'] at hd
      exact hd.1
    case call f args => exact h
    case callv x args =>
      split at h <;> try (cases h; done)
      · rename_i f hx
        obtain ⟨h1, s, h2, h3⟩ := h
        exact ⟨s, by simp only [det, hx]; exact ⟨h1, h2⟩, h3⟩
      · rename_i f caps hx
        obtain ⟨h1, s, h2, h3⟩ := h
        exact ⟨s, by simp only [det, hx]; exact ⟨h1, h2⟩, h3⟩

theorem vtake_spec {o : VOp} {σ : St} (hd : isD loud o.dst o.op = true) (h : vtake P o σ K) : ∃ s, Yv P σ o s ∧ K (setD σ o.dst s) := by
  unfold vtake at h
  split at h
  · rename_i hg
    obtain ⟨s, h1, h2⟩ := vtakeX_spec hd h
    exact ⟨s, .inl ⟨hg, h1⟩, h2⟩
  · rename_i hg
    exact ⟨_, .inr ⟨hg, rfl⟩, h⟩
  · cases h

theorem vstepA_of_yv {o : VOp} {σ : St} {s : SV} (hd : isD loud o.dst o.op = true) (hy : Yv P σ o s) (hk : K (setD σ o.dst s)) : vstepA P loud o σ K := by
  unfold vstepA
  rcases hy with ⟨h1, h2⟩ | ⟨h1, rfl⟩
  · rw [h1]; simp only; rw [if_pos hd]; exact ⟨s, h2, hk⟩
  · rw [h1]; exact hk

theorem vstepA_of_vstep {o : VOp} {σ : St} (hd : isD loud o.dst o.op = false) (h : vstep P o σ K) : vstepA P loud o σ K := by
  unfold vstep at h
  unfold vstepA
  split at h
  · rename_i hg; simp only [hg]; rw [if_neg (by simp [hd])]; exact ⟨σ, Eqv.refl σ, h⟩
  · rename_i hg; simp only [hg]; exact h
  · cases h

theorem vpl_sound : ∀ n L σ, vpl P K (mkPlan loud as ops n L) σ → vany P loud as ops (clK K) n L σ := by
  intro n
  induction n with
  | zero =>
    intro L σ h
    simp only [mkPlan] at h
    split at h
    · rename_i h0; exact ⟨h0, σ, Eqv.refl σ, h⟩
    · cases h
  | succ n ih =>
    intro L σ h
    simp only [mkPlan] at h
    split at h
    · rename_i h0
      exact ⟨fun _ => ⟨σ, Eqv.refl σ, h⟩, by rw [h0]; simp⟩
    · rename_i i r h0
      split at h
      · rename_i k hk
        have hkm := List.mem_of_find?_eq_some hk
        have hkf := List.find?_some hk
        split at h
        · rename_i o ho
          simp only [vpl] at h
          have hd : isD loud o.dst o.op = true := by
            simp only [vfree, ho, Bool.and_eq_true] at hkf
            exact hkf.1
          obtain ⟨s, hy, h1⟩ := vtake_spec hd h
          exact vany_take (clK_cl K) ho n L σ hkf (by rw [h0]; exact hkm) hy (ih _ _ h1)
        · cases h
      · refine ⟨fun h' => absurd (h'.symm.trans h0) (by simp), ?_⟩
        rw [h0]
        have key : ∀ l : List Nat, vpl P K (mkAlts loud ops (fun k => mkPlan loud as ops n (L.set k true)) l) σ → ∀ k ∈ l, ∃ o, ops[k]? = some o ∧ vstepA P loud o σ (vany P loud as ops (clK K) n (L.set k true)) := by
          intro l
          induction l with
          | nil => intro _ k hk; cases hk
          | cons j l ihl =>
            intro h k hk
            simp only [mkAlts] at h
            split at h
            · rename_i o ho
              simp only [vpl] at h
              rcases List.mem_cons.1 hk with rfl | hk
              · refine ⟨o, ho, ?_⟩
                cases hd : isD loud o.dst o.op with
                | true =>
                  rw [if_pos hd] at h
                  obtain ⟨s, hy, h1⟩ := vtake_spec hd h.1
                  exact vstepA_of_yv hd hy (ih _ _ h1)
                | false =>
                  rw [if_neg (by simp [hd])] at h
                  exact vstepA_mono (fun τ hτ => ih _ _ hτ) (vexec_mono fun τ hτ => ih _ _ hτ) (vstepA_of_vstep hd h.1)
              · exact ihl h.2 k hk
            · cases h
        exact key _ h

variable {E : Env} {N : Nat} {own : Nat → Bool} {opsG : Array Oper} {Q : Exit → Act → World → Prop}

theorem vstep_wp {o : Oper} {vo : VOp} (hc : cOp P N own opsG o = some vo) {i : Nat} (hi : opsG[i]? = some o) {g : Gh} {σ : St} {a : Act} {w : World} (R : Rel E N g σ a w) (h : vstep P vo σ K)
    {K' : Act → World → Prop} (hK : ∀ σ' g' a' w', K σ' → Rel E N g' σ' a' w' → K' a' w') : wpOp P opsG Q i K' a w := by
  unfold cOp at hc
  split at hc <;> try (cases hc; done)
  rename_i hdst
  split at hc <;> try (cases hc; done)
  rename_i gd v hg hv
  simp only [Option.some.injEq] at hc
  subst hc
  have hd : ∀ d, o.dst = some d → d < N := by
    intro d hd
    rw [hd] at hdst
    simpa [dstOk] using hdst
  unfold wpOp
  simp only [hi]
  unfold vstep at h
  simp only at h
  split at h
  · rename_i hgb
    rw [guard_wanted R hg hgb, if_pos rfl]
    exact .inl (vexec_sound hv hd R h hK)
  · rename_i hgb
    rw [guard_wanted R hg hgb, if_neg (by simp)]
    exact hK _ g _ w h (setD_rel R hd (.tup [] [] rfl (by simp)))
  · cases h

theorem vstepA_wp {o : Oper} {vo : VOp} (hc : cOp P N own opsG o = some vo) {i : Nat} (hi : opsG[i]? = some o) {g : Gh} {σ : St} {a : Act} {w : World} (R : Rel E N g σ a w) (h : vstepA P loud vo σ K)
    {K' : Act → World → Prop} (hK : ∀ σ' g' a' w', K σ' → Rel E N g' σ' a' w' → K' a' w') : wpOp P opsG Q i K' a w := by
  unfold vstepA at h
  split at h
  · rename_i hg
    split at h
    · rename_i hd
      obtain ⟨s, h1, h2⟩ := h
      refine vstep_wp hc hi R (K := K) ?_ hK
      unfold vstep
      rw [hg]
      exact det_vexec hd h1 h2
    · obtain ⟨τ, h1, h2⟩ := h
      refine vstep_wp hc hi (R.congr h1.symm) (K := K) ?_ hK
      unfold vstep
      rw [guardB_look (τ := σ) (fun d b _ => h1.get d), hg]
      exact h2
  · rename_i hg
    refine vstep_wp hc hi R (K := K) ?_ hK
    unfold vstep
    rw [hg]
    exact h
  · cases h

/-- Which of the others an operation waits for. -/
def edgesOf (o : Oper) : List Nat := (o.after.toList.filter (Region.binds .any)).map (·.on)

theorem ready_vready {L : Array Bool} (has : as = opsG.toList.map edgesOf) : Region.ready .any opsG L = vready as L.toList := by
  unfold Region.ready vready
  subst has
  simp only [List.length_map, Array.length_toList]
  refine List.filter_congr (fun i hi => ?_)
  have hlt : i < opsG.size := List.mem_range.1 hi
  have h1 : opsG[i]? = some opsG[i] := Array.getElem?_eq_getElem hlt
  have h2 : (opsG.toList.map edgesOf)[i]? = some (edgesOf opsG[i]) := by simp [hlt]
  rw [h1, h2]
  have hg : ∀ (k : Nat) (d : Bool), L.getD k d = L.toList.getD k d := by
    intro k d
    simp [Array.getD_eq_getD_getElem?, List.getD_eq_getElem?_getD]
  have h3 : (opsG[i].after.all fun e => !Region.binds .any e || L.getD e.on false) = (edgesOf opsG[i]).all fun j => L.toList.getD j false := by
    rw [Bool.eq_iff_iff]
    simp only [Array.all_eq_true_iff_forall_mem, List.all_eq_true, edgesOf, List.mem_map, List.mem_filter, Bool.or_eq_true, Bool.not_eq_true']
    constructor
    · rintro h j ⟨e, ⟨he, hb⟩, rfl⟩
      rw [← hg]
      exact (h e (by simpa using he)).resolve_left (by simp [hb])
    · intro h e he
      cases hb : Region.binds .any e
      · exact .inl rfl
      · exact .inr (by rw [hg]; exact h e.on ⟨e, ⟨by simpa using he, hb⟩, rfl⟩)
  simp only [Option.map_some, Option.getD_some]
  rw [h3, hg]

theorem vany_wp (has : as = opsG.toList.map edgesOf) (hops : opsG.toList.mapM (cOp P N own opsG) = some ops) (hQ : ∀ σ' g' a' w', K σ' → Rel E N g' σ' a' w' → Q .normal a' w') :
    ∀ (n : Nat) (L : Array Bool) (σ : St) (g : Gh) (a : Act) (w : World), vany P loud as ops K n L.toList σ → Rel E N g σ a w → wpAny P .any opsG Q n L a w := by
  have hop : ∀ (i : Nat) o, ops[i]? = some o → ∃ og, opsG[i]? = some og ∧ cOp P N own opsG og = some o := by
    have key : ∀ (l : List Oper) (r : List VOp), l.mapM (cOp P N own opsG) = some r → ∀ (i : Nat) o, r[i]? = some o → ∃ og, l[i]? = some og ∧ cOp P N own opsG og = some o := by
      intro l
      induction l with
      | nil => intro r h i o hr; simp at h; subst h; simp at hr
      | cons x l ih =>
        intro r h i o hr
        simp only [List.mapM_cons, Option.bind_eq_bind, Option.bind_eq_some_iff, Option.pure_def, Option.some.injEq] at h
        obtain ⟨v, h1, r', h2, rfl⟩ := h
        cases i with
        | zero => simp at hr; subst hr; exact ⟨x, rfl, h1⟩
        | succ i => simpa using ih r' h2 i o (by simpa using hr)
    intro i o h
    obtain ⟨og, h1, h2⟩ := key _ _ hops i o h
    exact ⟨og, by simpa using h1, h2⟩
  intro n
  induction n with
  | zero =>
    intro L σ g a w h R
    exact ⟨by rw [ready_vready has]; exact h.1, hQ σ g a w h.2 R⟩
  | succ n ih =>
    intro L σ g a w h R
    refine ⟨fun h0 => hQ σ g a w (h.1 (by rw [← ready_vready has]; exact h0)) R, fun i hi => ?_⟩
    rw [ready_vready has] at hi
    obtain ⟨o, h1, h2⟩ := h.2 i hi
    obtain ⟨og, h3, h4⟩ := hop i o h1
    refine vstepA_wp h4 h3 R h2 (fun σ' g' a' w' hv R' => ih (L.setIfInBounds i true) σ' g' a' w' ?_ R')
    simpa using hv

theorem vpl_region {id : Nat} {a : Act} {w : World} {σ : St} {g : Gh} (hm : P.follows .mixedOrders = true) (hops : opsG.toList.mapM (cOp P N own opsG) = some ops)
    (h : vpl P K (mkPlan loud (opsG.toList.map edgesOf) ops opsG.size (List.replicate opsG.size false)) σ) (R : Rel E N g σ a w) (hQ : ∀ σ' g' a' w', K σ' → Rel E N g' σ' a' w' → Q .normal a' w') :
    (Code.region id opsG true).wp P Q a w := by
  refine wp_region_any hm ?_
  refine vany_wp (K := clK K) (loud := loud) rfl hops (fun σ' g' a' w' ⟨τ, h1, h2⟩ R' => hQ τ g' a' w' h2 (R'.congr h1.symm)) _ _ σ g a _ ?_ R.drew
  have := vpl_sound _ _ _ h
  simpa using this
end
end Go.VL
