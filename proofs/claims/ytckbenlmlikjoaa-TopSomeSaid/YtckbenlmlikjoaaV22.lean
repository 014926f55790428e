/- The value-level logic, part 22: code; what a piece of code comes to; a function's contract from its body. -/
import Derived.Test.YtckbenlmlikjoaaV21
import Derived.Control
set_option linter.unusedVariables false
set_option linter.unusedSimpArgs false
namespace Go.VL

/-- What the translation of one function goes by: slots, slices that are the frame's own, calls that are no plain value, slots that nobody looks at behind a statement. -/
structure Cx where
  P : Program
  N : Nat
  own : Nat → Bool
  loud : Nat → Bool
  kl : Nat → List Nat × List Nat

inductive VC where
  | skip
  | ret
  | exit (id : Nat)
  | ops (l : List VOp) (ks os : List Nat)
  | dops (p : VPl) (ks os : List Nat)
  | seq (a b : VC)
  | cond (x : VX) (a b : VC)
  | block (id : Nat) (b : VC)
  | loop (b : VC)
  deriving Inhabited

inductive VE where
  | norm
  | exit (id : Nat)
  | ret
def VE.toExit : VE → Exit
  | .norm => .normal
  | .exit i => .exit i
  | .ret => .ret

def cCode (X : Cx) : Code → Option VC
  | .skip => some .skip
  | .label _ => some .skip
  | .ret => some .ret
  | .exit i => some (.exit i)
  | .region id os draw => match os.toList.mapM (cOp X.P X.N X.own os) with
    | some l => if draw then (if X.P.follows .mixedOrders then some (.dops (mkPlan X.loud (os.toList.map edgesOf) l os.size (List.replicate os.size false)) (X.kl id).1 (X.kl id).2) else none) else some (.ops l (X.kl id).1 (X.kl id).2)
    | none => none
  | .seq a b => match cCode X a, cCode X b with
    | some x, some y => some (.seq x y)
    | _, _ => none
  | .cond c a b => match cX c, cCode X a, cCode X b with
    | some v, some x, some y => some (.cond v x y)
    | _, _, _ => none
  | .block id b => match cCode X b with
    | some x => some (.block id x)
    | none => none
  | .loop b => match cCode X b with
    | some x => some (.loop x)
    | none => none
  | _ => none

def vsteps (P : Program) : List VOp → St → (St → Prop) → Prop
  | [], σ, K => K σ
  | o :: r, σ, K => vstep P o σ fun σ' => vsteps P r σ' K

def St.drop (σ : St) (ds : List Nm) : St := { t := σ.t.map fun e => (e.1, dropS ds e.2), h := σ.h.filter fun e => !ds.contains e.1 }

def St.kill (σ : St) (ks : List Nat) : St := { σ with t := delS ks σ.t }

/-- Nothing that stays leads to what is given up. -/
def DropOk (σ : St) (ds : List Nm) : Prop := ∀ e ∈ σ.h, e.1 ∉ ds → ∀ m ∈ e.2.names, m ∉ ds
/-- Behind a statement: slots and things that nobody asks for any more are forgotten. -/
def St.rest (σ : St) (ks os : List Nat) (K : St → Prop) : Prop := match os with
  | [] => K (σ.kill ks)
  | os => DropOk (σ.kill ks) (os.map fun d => [d]) ∧ K ((σ.kill ks).drop (os.map fun d => [d]))

/-- From the one table to the other, whatever the machine's state. -/
def Wk (N : Nat) (σ σ' : St) : Prop := ∀ E g a w, Rel E N g σ a w → ∃ g', Rel E N g' σ' a w

def QQ (X : Cx) (E : Env) (Q : VE → St → Prop) (e : Exit) (a : Act) (w : World) : Prop := ∃ x σ g, VE.toExit x = e ∧ Q x σ ∧ Rel E X.N g σ a w

def VT (X : Cx) (vc : VC) (σ : St) (Q : VE → St → Prop) : Prop := ∀ c, cCode X c = some vc → ∀ E g a w, Rel E X.N g σ a w → c.wp X.P (QQ X E Q) a w

section
variable {X : Cx} {σ : St} {Q : VE → St → Prop}

theorem lkS_delS (ks : List Nat) (d : Nat) : ∀ l : List (Nat × SV), lkS d (delS ks l) = if ks.contains d then .junk else lkS d l
  | [] => by simp [delS, lkS]
  | (e, v) :: r => by
    unfold delS at *
    have ih := lkS_delS ks d r
    unfold delS at ih
    by_cases h : ks.contains e = true
    · rw [List.filter_cons_of_neg (by simp; simpa using h), ih]
      simp only [lkS]
      by_cases hed : e = d
      · subst hed; rw [if_pos h, if_pos h]
      · rw [if_neg hed]
    · rw [List.filter_cons_of_pos (by simpa using h)]
      simp only [lkS, ih]
      by_cases hed : e = d
      · subst hed; rw [if_pos rfl, if_neg h, if_pos rfl]
      · rw [if_neg hed, if_neg hed]

/-- Slots may be forgotten. -/
theorem Rel.forget {E : Env} {N : Nat} {g : Gh} {σ τ : St} {a : Act} {w : World} (R : Rel E N g σ a w) (hh : σ.h = τ.h) (hs : ∀ d, τ.get d = .junk ∨ τ.get d = σ.get d) : Rel E N g τ a w := by
  have ho : σ.obj = τ.obj := by funext n; unfold St.obj; rw [hh]
  refine ⟨R.size, R.defers, fun d => ?_, ?_, ?_, ?_, ?_, R.keeps, R.ps0, R.ps1, R.psb, ?_⟩
  · rw [← ho]
    rcases hs d with h | h
    · rw [h]; exact .junk _
    · rw [h]; exact R.slots d
  · rw [← ho]; exact R.objs
  · rw [← ho]; exact R.inj
  · rw [← ho]; exact R.disj
  · rw [← ho]; exact R.own
  · rw [← ho]; exact R.pin

theorem Rel.kill {E : Env} {N : Nat} {g : Gh} {a : Act} {w : World} (R : Rel E N g σ a w) (ks : List Nat) : Rel E N g (σ.kill ks) a w := by
  refine R.forget rfl (fun d => ?_)
  unfold St.kill St.get
  rw [lkS_delS]
  split
  · exact .inl rfl
  · exact .inr rfl

section
variable {E : Env} {N : Nat} {g : Gh} {a : Act} {w : World}
theorem obj_drop (σ : St) (ds : List Nm) (n : Nm) : (σ.drop ds).obj n = if ds.contains n then none else σ.obj n := by
  unfold St.drop St.obj
  rw [lkO_filter (fun k => !ds.contains k)]
  by_cases h : ds.contains n = true
  · rw [if_pos h, if_neg (by rw [h]; simp)]
  · rw [if_neg h, if_pos (by simpa using h)]
theorem get_drop (σ : St) (ds : List Nm) (d : Nat) : (σ.drop ds).get d = dropS ds (σ.get d) := lkS_map (dropS ds) (by simp [dropS, SV.names]) d σ.t

theorem Rel.drop (R : Rel E N g σ a w) (ds : List Nm) (hk : ∀ n o, σ.obj n = some o → n ∉ ds → ∀ m ∈ o.names, m ∉ ds) : Rel E N g (σ.drop ds) a w := by
  have X : Ren w g σ.obj g (σ.drop ds).obj id (fun n => n ∉ ds) := by
    refine ⟨fun _ h => h, fun n t cs hn ho => ⟨cs, ?_, rfl⟩, fun n t sz cs hn ho => ⟨cs, ?_, Nat.le_refl _, fun _ => rfl⟩⟩
    · rw [id, obj_drop, if_neg (by simpa using hn)]; exact ho
    · rw [id, obj_drop, if_neg (by simpa using hn)]; exact ho
  have hob : ∀ n o, (σ.drop ds).obj n = some o → σ.obj n = some o ∧ n ∉ ds := by
    intro n o ho
    rw [obj_drop] at ho
    split at ho
    · cases ho
    · rename_i h; exact ⟨ho, by simpa using h⟩
  have hne : ∀ n, (σ.drop ds).obj n ≠ none → σ.obj n ≠ none := by
    intro n hn
    obtain ⟨o, ho⟩ := Option.ne_none_iff_exists'.1 hn
    rw [(hob n o ho).1]; simp
  refine ⟨R.size, R.defers, fun d => ?_, fun n o ho => ?_, fun n m hn hm => R.inj n m (hne n hn) (hne m hm), fun n hn => R.disj n (hne n hn), fun n hn => R.own n (hne n hn), R.keeps, R.ps0, R.ps1, R.psb, fun n hn o ho => R.pin n hn o (hob n o ho).1⟩
  · rw [get_drop]
    unfold dropS
    split
    · exact .junk _
    · rename_i hany
      have := (R.slots d).ren X (fun _ _ => rfl) (fun n hn hd => hany (List.any_eq_true.2 ⟨n, hn, by simpa using hd⟩))
      rwa [SV.ren_id] at this
  · obtain ⟨h1, h2⟩ := hob n o ho
    have := (R.objs n o h1).ren X (fun _ _ => rfl) (hk n o h1 h2) rfl (fun _ _ => rfl)
    rwa [OV.ren_id] at this

theorem Wk.drop (ds : List Nm) (hk : DropOk σ ds) : Wk N σ (σ.drop ds) := fun E g a w R => ⟨g, R.drop ds (fun n o ho hn => hk (n, o) (lkO_mem ho) hn)⟩
theorem Rel.rest {ks os : List Nat} {K : St → Prop} (h : σ.rest ks os K) (R : Rel E N g σ a w) : ∃ σ', K σ' ∧ Rel E N g σ' a w := by
  unfold St.rest at h
  split at h
  · exact ⟨_, h, R.kill ks⟩
  · exact ⟨_, h.2, (R.kill ks).drop _ (fun n o ho hn => h.1 (n, o) (lkO_mem ho) hn)⟩
end
theorem Wk.refl (N : Nat) (σ : St) : Wk N σ σ := fun E g a w R => ⟨g, R⟩
theorem Wk.trans {N : Nat} {σ τ υ : St} (h : Wk N σ τ) (h' : Wk N τ υ) : Wk N σ υ := fun E g a w R => let ⟨g', R'⟩ := h E g a w R; h' E g' a w R'
theorem Wk.of_eqv {N : Nat} {σ τ : St} (h : Eqv σ τ) : Wk N σ τ := fun E g a w R => ⟨g, R.congr h⟩
theorem Wk.kill {N : Nat} (σ : St) (ks : List Nat) : Wk N σ (σ.kill ks) := fun E g a w R => ⟨g, R.kill ks⟩

theorem vsteps_wp {E : Env} {os : Array Oper} {QG : Exit → Act → World → Prop} {K : St → Prop} (hQ : ∀ σ' g' a' w', K σ' → Rel E X.N g' σ' a' w' → QG .normal a' w') :
    ∀ (n : Nat) (rest : List Oper) (l : List VOp), rest.mapM (cOp X.P X.N X.own os) = some l → (∀ k o, rest[k]? = some o → os[n + k]? = some o) → ∀ (σ : St) (g : Gh) (a : Act) (w : World), vsteps X.P l σ K → Rel E X.N g σ a w →
      wpOps X.P os QG (List.range' n rest.length) a w := by
  intro n rest
  induction rest generalizing n with
  | nil =>
    intro l hl _ σ g a w hv R
    simp at hl
    subst hl
    exact hQ σ g a w hv R
  | cons o r ih =>
    intro l hl hix σ g a w hv R
    simp only [List.mapM_cons, Option.bind_eq_bind, Option.bind_eq_some_iff, Option.pure_def, Option.some.injEq] at hl
    obtain ⟨v, h1, r', h2, rfl⟩ := hl
    simp only [List.length_cons, List.range'_succ]
    rw [wpOps_cons]
    exact vstep_wp h1 (by simpa using hix 0 o rfl) R hv (fun σ' g' a' w' hk R' => ih (n + 1) r' h2 (fun k o' hk' => by
      have := hix (k + 1) o' (by simpa using hk')
      rwa [show n + (k + 1) = n + 1 + k by omega] at this) σ' g' a' w' hk R')

theorem vt_mono {vc : VC} {Q' : VE → St → Prop} (h : VT X vc σ Q) (hq : ∀ e σ', Q e σ' → Q' e σ') : VT X vc σ Q' :=
  fun c hc E g a w R => wp_mono (h c hc E g a w R) (fun _ _ _ ⟨x, σ', g', h1, h2, h3⟩ => ⟨x, σ', g', h1, hq _ _ h2, h3⟩)
theorem vt_weak {vc : VC} {τ : St} (hw : Wk X.N σ τ) (h : VT X vc τ Q) : VT X vc σ Q :=
  fun c hc E g a w R => let ⟨g', R'⟩ := hw E g a w R; h c hc E g' a w R'
theorem vt_post {vc : VC} (h : VT X vc σ fun e σ' => ∃ τ, Wk X.N σ' τ ∧ Q e τ) : VT X vc σ Q :=
  fun c hc E g a w R => wp_mono (h c hc E g a w R) (fun _ a' w' ⟨x, σ', g', h1, ⟨τ, h2, h3⟩, h4⟩ => let ⟨g'', R'⟩ := h2 E g' a' w' h4; ⟨x, τ, g'', h1, h3, R'⟩)

/-- A fact that is always told. -/
theorem vt_fact {vc : VC} {F : Prop} (hf : ∀ E g a w, Rel E X.N g σ a w → F) (h : F → VT X vc σ Q) : VT X vc σ Q :=
  fun c hc E g a w R => h (hf E g a w R) c hc E g a w R

theorem vt_skip (h : Q .norm σ) : VT X .skip σ Q := by
  intro c hc E g a w R
  cases c <;> simp only [cCode, Option.some.injEq, reduceCtorEq] at hc
  · exact wp_skip ⟨.norm, σ, g, rfl, h, R⟩
  all_goals try (split at hc <;> first | (cases hc; done) | skip)
  all_goals try (split at hc <;> first | (cases hc; done) | skip)
  all_goals try (split at hc <;> first | (cases hc; done) | skip)
  exact wp_label ⟨.norm, σ, g, rfl, h, R⟩
theorem vt_ret (h : Q .ret σ) : VT X .ret σ Q := by
  intro c hc E g a w R
  cases c <;> simp only [cCode, Option.some.injEq, reduceCtorEq] at hc
  all_goals try (split at hc <;> first | (cases hc; done) | skip)
  all_goals try (split at hc <;> first | (cases hc; done) | skip)
  all_goals try (split at hc <;> first | (cases hc; done) | skip)
  exact wp_ret ⟨.ret, σ, g, rfl, h, R⟩
theorem vt_exit {id : Nat} (h : Q (.exit id) σ) : VT X (.exit id) σ Q := by
  intro c hc E g a w R
  cases c <;> simp only [cCode, Option.some.injEq, reduceCtorEq, VC.exit.injEq] at hc
  all_goals try (split at hc <;> first | (cases hc; done) | skip)
  all_goals try (split at hc <;> first | (cases hc; done) | skip)
  all_goals try (split at hc <;> first | (cases hc; done) | skip)
  subst hc
  exact wp_exit ⟨.exit _, σ, g, rfl, h, R⟩
theorem vt_ops {l : List VOp} {ks ds : List Nat} (h : vsteps X.P l σ fun σ' => σ'.rest ks ds (Q .norm)) : VT X (.ops l ks ds) σ Q := by
  intro c hc E g a w R
  cases c <;> simp only [cCode, Option.some.injEq, reduceCtorEq] at hc
  case region id os draw =>
    split at hc <;> try (cases hc; done)
    rename_i l' hl
    split at hc
    · split at hc <;> cases hc
    · rename_i hd
      simp only [Option.some.injEq, VC.ops.injEq] at hc
      obtain ⟨rfl, rfl, rfl⟩ := hc
      have hd' : draw = false := by simpa using hd
      subst hd'
      refine wp_region ?_
      have := vsteps_wp (X := X) (E := E) (os := os) (QG := QQ X E Q) (K := fun σ' => σ'.rest (X.kl id).1 (X.kl id).2 (Q .norm)) (fun σ' g' a' w' hk R' => let ⟨τ, h1, h2⟩ := R'.rest hk; ⟨.norm, τ, g', rfl, h1, h2⟩) 0 os.toList l' hl (fun k o hk => by simpa using hk) σ g a w h R
      simpa [List.range_eq_range'] using this
  all_goals try (split at hc <;> first | (cases hc; done) | skip)
theorem vt_dops {p : VPl} {ks ds : List Nat} (h : vpl X.P (fun σ' => σ'.rest ks ds (Q .norm)) p σ) : VT X (.dops p ks ds) σ Q := by
  intro c hc E g a w R
  cases c <;> simp only [cCode, Option.some.injEq, reduceCtorEq] at hc
  case region id os draw =>
    split at hc <;> try (cases hc; done)
    rename_i l' hl
    split at hc
    · rename_i hd
      split at hc <;> try (cases hc; done)
      rename_i hm
      simp only [Option.some.injEq, VC.dops.injEq] at hc
      obtain ⟨rfl, rfl, rfl⟩ := hc
      subst hd
      exact vpl_region hm hl h R (fun σ' g' a' w' hk R' => let ⟨τ, h1, h2⟩ := R'.rest hk; ⟨.norm, τ, g', rfl, h1, h2⟩)
    · cases hc
  all_goals try (split at hc <;> first | (cases hc; done) | skip)
theorem vt_seq {x y : VC} (h : VT X x σ fun e σ' => match e with | .norm => VT X y σ' Q | e => Q e σ') : VT X (.seq x y) σ Q := by
  intro c hc E g a w R
  cases c <;> simp only [cCode, Option.some.injEq, reduceCtorEq] at hc
  case seq c1 c2 =>
    split at hc <;> try (cases hc; done)
    rename_i v1 v2 h1 h2
    simp only [Option.some.injEq, VC.seq.injEq] at hc
    obtain ⟨rfl, rfl⟩ := hc
    refine wp_seq (wp_mono (h c1 h1 E g a w R) ?_)
    rintro e a' w' ⟨x, σ', g', rfl, hq, R'⟩
    cases x with
    | norm => exact hq c2 h2 E g' a' w' R'
    | exit i => exact ⟨.exit i, σ', g', rfl, hq, R'⟩
    | ret => exact ⟨.ret, σ', g', rfl, hq, R'⟩
  all_goals try (split at hc <;> first | (cases hc; done) | skip)
  all_goals try (split at hc <;> first | (cases hc; done) | skip)
  all_goals try (split at hc <;> first | (cases hc; done) | skip)
theorem vt_cond {v : VX} {x y : VC} {t : Bool} (hv : σ.val v = .pv (.bool t)) (ht : t = true → VT X x σ Q) (hf : t = false → VT X y σ Q) : VT X (.cond v x y) σ Q := by
  intro c hc E g a w R
  cases c <;> simp only [cCode, Option.some.injEq, reduceCtorEq] at hc
  case cond o c1 c2 =>
    split at hc <;> try (cases hc; done)
    rename_i v' v1 v2 h0 h1 h2
    simp only [Option.some.injEq, VC.cond.injEq] at hc
    obtain ⟨rfl, rfl, rfl⟩ := hc
    have hr := val_rel R h0
    rw [hv] at hr
    exact wp_cond_split hr.bool (fun h => ht h c1 h1 E g a w R) (fun h => hf h c2 h2 E g a w R)
  all_goals try (split at hc <;> first | (cases hc; done) | skip)
  all_goals try (split at hc <;> first | (cases hc; done) | skip)
  all_goals try (split at hc <;> first | (cases hc; done) | skip)
theorem vt_block {id : Nat} {x : VC} (h : VT X x σ fun e σ' => match e with | .exit i => if i = id then Q .norm σ' else Q (.exit i) σ' | e => Q e σ') : VT X (.block id x) σ Q := by
  intro c hc E g a w R
  cases c <;> simp only [cCode, Option.some.injEq, reduceCtorEq] at hc
  case block id' c1 =>
    split at hc <;> try (cases hc; done)
    rename_i v1 h1
    simp only [Option.some.injEq, VC.block.injEq] at hc
    obtain ⟨rfl, rfl⟩ := hc
    refine wp_block (wp_mono (h c1 h1 E g a w R) ?_)
    rintro e a' w' ⟨x, σ', g', rfl, hq, R'⟩
    cases x with
    | norm => exact ⟨.norm, σ', g', rfl, hq, R'⟩
    | ret => exact ⟨.ret, σ', g', rfl, hq, R'⟩
    | exit i =>
      simp only [VE.toExit, Exit.inBlock]
      simp only at hq
      split
      · rename_i hi; rw [if_pos hi] at hq; exact ⟨.norm, σ', g', rfl, hq, R'⟩
      · rename_i hi; rw [if_neg hi] at hq; exact ⟨.exit i, σ', g', rfl, hq, R'⟩
  all_goals try (split at hc <;> first | (cases hc; done) | skip)
  all_goals try (split at hc <;> first | (cases hc; done) | skip)
  all_goals try (split at hc <;> first | (cases hc; done) | skip)

theorem least {p : Nat → Prop} (h : ∃ n, p n) : ∃ n, p n ∧ ∀ m, p m → n ≤ m := by
  obtain ⟨n, hn⟩ := h
  induction n using Nat.strongRecOn with
  | _ n ih =>
    by_cases h : ∃ m, m < n ∧ p m
    · obtain ⟨m, h1, h2⟩ := h; exact ih m h1 h2
    · exact ⟨n, hn, fun m hm => Nat.le_of_not_lt fun hlt => h ⟨m, hlt, hm⟩⟩

/-- A loop, by what holds ahead of each round, and a number that goes down. -/
theorem vt_loop {x : VC} (I : Nat → St → Prop) (n : Nat) (h0 : I n σ) (hr : ∀ n σ, I n σ → VT X x σ fun e σ' => match e with | .norm => ∃ m, m < n ∧ I m σ' | e => Q e σ') : VT X (.loop x) σ Q := by
  intro c hc E g a w R
  cases c <;> simp only [cCode, Option.some.injEq, reduceCtorEq] at hc
  case loop c1 =>
    split at hc <;> try (cases hc; done)
    rename_i v1 h1
    simp only [Option.some.injEq, VC.loop.injEq] at hc
    subst hc
    classical
    let J : Act → World → Nat → Prop := fun a w n => ∃ σ g, I n σ ∧ Rel E X.N g σ a w
    let μ : Act → World → Nat := fun a w => if h : ∃ n, J a w n then (least h).choose else 0
    refine wp_loop (I := fun a w => ∃ n, J a w n) (μ := μ) ⟨n, σ, g, h0, R⟩ ?_
    intro a w hJ
    have hμ : μ a w = (least hJ).choose := dif_pos hJ
    obtain ⟨σ1, g1, hI, R1⟩ := (least hJ).choose_spec.1
    refine wp_mono (hr _ σ1 hI c1 h1 E g1 a w R1) ?_
    rintro e a' w' ⟨x, σ', g', rfl, hq, R'⟩
    cases x with
    | norm =>
      obtain ⟨m, hm, hI'⟩ := hq
      have hJ' : ∃ n, J a' w' n := ⟨m, σ', g', hI', R'⟩
      refine ⟨hJ', ?_⟩
      have : μ a' w' = (least hJ').choose := dif_pos hJ'
      rw [this, hμ]
      exact Nat.lt_of_le_of_lt ((least hJ').choose_spec.2 m ⟨σ', g', hI', R'⟩) hm
    | exit i => exact ⟨.exit i, σ', g', rfl, hq, R'⟩
    | ret => exact ⟨.ret, σ', g', rfl, hq, R'⟩
  all_goals try (split at hc <;> first | (cases hc; done) | skip)
  all_goals try (split at hc <;> first | (cases hc; done) | skip)
  all_goals try (split at hc <;> first | (cases hc; done) | skip)
end
end Go.VL
