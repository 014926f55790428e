/- The value-level logic, part 19: what an operation looks at; operations whose outcome is one value; tables that are alike. -/
import Derived.Test.YtckbenlmlikjoaaV18
set_option linter.unusedVariables false
set_option linter.unusedSimpArgs false
namespace Go.VL

def VX.look : VX → List Nat
  | .s d => [d]
  | _ => []
def looksX (l : List VX) : List Nat := l.flatMap VX.look
def lookO : Option VX → List Nat
  | some x => x.look
  | none => []
/-- The slots that an operation looks at. -/
def VO.looks : VO → List Nat
  | .mv x | .box _ x | .load _ _ x | .nilck x | .eqn _ _ x | .un _ x | .conv _ x | .convs x | .mkif _ x | .faddr _ x | .field _ _ _ x | .len x | .slen x | .extract x _ => x.look
  | .pick c a b => c.look ++ a.look ++ b.look
  | .alloc _ _ => []
  | .build _ parts => looksX (parts.map fun p => p.2.2)
  | .bslice _ _ _ parts => looksX parts
  | .store _ a x => a.look ++ x.look
  | .bin _ x y | .eqb _ x y | .iaddr _ x y | .sidx x y | .append _ _ _ x y | .appstr _ x y | .minmax _ x y => x.look ++ y.look
  | .mkfn _ caps => looksX caps
  | .slice _ x lo hi | .sslice x lo hi => x.look ++ lookO lo ++ lookO hi
  | .call _ args => looksX args
  | .callv f args => f.look ++ looksX args
  | .mkslice _ _ _ _ n c => n.look ++ c.look

section
variable {σ σ' : St}

theorem val_look {x : VX} (h : ∀ t ∈ x.look, σ.get t = σ'.get t) : σ.val x = σ'.val x := by
  cases x with
  | s d => exact h d (by simp [VX.look])
  | _ => rfl
theorem vals_look : ∀ {l : List VX}, (∀ t ∈ looksX l, σ.get t = σ'.get t) → l.map σ.val = l.map σ'.val
  | [], _ => rfl
  | x :: r, h => by
    simp only [List.map_cons]
    rw [val_look (x := x) (fun t ht => h t (by simp [looksX, ht])), vals_look (l := r) (fun t ht => h t (by simp only [looksX, List.flatMap_cons, List.mem_append]; exact .inr ht))]
theorem cellsFrom_mono (hx : ∀ n o, σ.obj n = some o → σ'.obj n = some o) {s : SV} {cs : List SV} (h : cellsFrom σ s = some cs) : cellsFrom σ' s = some cs := by
  unfold cellsFrom at *
  cases s with
  | ref n off =>
    simp only at *
    split at h <;> try (cases h; done)
    rename_i ho
    rw [hx _ _ ho]; exact h
  | aref n off tag =>
    simp only at *
    split at h <;> try (cases h; done)
    rename_i ho
    rw [hx _ _ ho]; exact h
  | pv x => cases x <;> exact h
  | _ => exact h
theorem isNil_mono (hx : ∀ n o, σ.obj n = some o → σ'.obj n = some o) {k : NK} {s : SV} {b : Bool} (h : isNil σ.obj k s = some b) : isNil σ'.obj k s = some b := by
  unfold isNil at *
  cases s with
  | arr n tag =>
    simp only at *
    split at h <;> try (cases h; done)
    rename_i ho
    rw [hx _ _ ho]; exact h
  | _ => exact h
theorem fillS_look : ∀ {l : List (Nat × Nat × VX)} {cs : List SV}, (∀ t ∈ looksX (l.map fun p => p.2.2), σ.get t = σ'.get t) → fillS σ l cs = fillS σ' l cs
  | [], _, _ => rfl
  | (off, n, x) :: r, cs, h => by
    simp only [fillS]
    rw [val_look (x := x) (fun t ht => h t (by simp [looksX, ht]))]
    split
    · split
      · exact fillS_look (fun t ht => h t (by simp only [looksX, List.map_cons, List.flatMap_cons, List.mem_append]; exact .inr ht))
      · rfl
    · rfl
theorem bnd_look {d : Nat} {x : Option VX} (h : ∀ t ∈ lookO x, σ.get t = σ'.get t) : bnd σ d x = bnd σ' d x := by
  cases x with
  | none => rfl
  | some x => simp only [bnd]; rw [val_look (x := x) h]

theorem evalV_mono {op : VO} (hl : ∀ t ∈ op.looks, σ.get t = σ'.get t) (hx : ∀ n o, σ.obj n = some o → σ'.obj n = some o) {s : SV} (h : evalV σ op = some s) : evalV σ' op = some s := by
  cases op <;> simp only [VO.looks, List.mem_append] at hl <;> try (simp only [evalV, reduceCtorEq] at h; done)
  case mv x => simpa only [evalV, val_look (x := x) hl] using h
  case pick c a b =>
    simp only [evalV] at *
    rw [← val_look (x := c) (fun t ht => hl t (.inl (.inl ht))), ← val_look (x := a) (fun t ht => hl t (.inl (.inr ht))), ← val_look (x := b) (fun t ht => hl t (.inr ht))]
    exact h
  case build zs parts => simp only [evalV] at *; rw [← fillS_look hl]; exact h
  case load ag n x =>
    simp only [evalV] at *
    rw [← val_look (x := x) hl]
    split at h <;> try (cases h; done)
    rename_i hc
    rw [cellsFrom_mono hx hc]; exact h
  case nilck x =>
    simp only [evalV] at *
    rw [← val_look (x := x) hl]
    cases hv : σ.val x <;> rw [hv] at h <;> try exact h
    case pv p => cases p <;> exact h
    all_goals simp only at h ⊢
    split at h <;> try (cases h; done)
    rename_i ho
    rw [hx _ _ ho]; exact h
  case bin op x y => simp only [evalV] at *; rw [← val_look (x := x) (fun t ht => hl t (.inl ht)), ← val_look (x := y) (fun t ht => hl t (.inr ht))]; exact h
  case eqb ng x y => simp only [evalV] at *; rw [← val_look (x := x) (fun t ht => hl t (.inl ht)), ← val_look (x := y) (fun t ht => hl t (.inr ht))]; exact h
  case eqn k ng x =>
    simp only [evalV] at *
    rw [← val_look (x := x) hl]
    split at h <;> try (cases h; done)
    rename_i hc
    rw [isNil_mono hx hc]; exact h
  case un op x => simp only [evalV] at *; rw [← val_look (x := x) hl]; exact h
  case conv k x => simp only [evalV] at *; rw [← val_look (x := x) hl]; exact h
  case convs x => simp only [evalV] at *; rw [← val_look (x := x) hl]; exact h
  case mkif t x => simp only [evalV] at *; rw [← val_look (x := x) hl]; exact h
  case mkfn f caps => simp only [evalV] at *; rw [← vals_look hl]; exact h
  case faddr off x =>
    simp only [evalV] at *
    rw [← val_look (x := x) hl]
    cases hv : σ.val x <;> rw [hv] at h <;> try exact h
    case pv p => cases p <;> exact h
    all_goals simp only at h ⊢
    split at h <;> try (cases h; done)
    rename_i ho
    rw [hx _ _ ho]; exact h
  case field ag off n x => simp only [evalV] at *; rw [← val_look (x := x) hl]; exact h
  case iaddr sz x i =>
    simp only [evalV] at *
    rw [← val_look (x := x) (fun t ht => hl t (.inl ht)), ← val_look (x := i) (fun t ht => hl t (.inr ht))]
    split at h
    · exact h
    · split at h <;> try (cases h; done)
      rename_i ho
      rw [hx _ _ ho]; exact h
    · cases h
  case sidx x i => simp only [evalV] at *; rw [← val_look (x := x) (fun t ht => hl t (.inl ht)), ← val_look (x := i) (fun t ht => hl t (.inr ht))]; exact h
  case slice sz x lo hi =>
    simp only [evalV] at *
    rw [← val_look (x := x) (fun t ht => hl t (.inl (.inl ht)))]
    split at h <;> try (cases h; done)
    rw [← bnd_look (x := lo) (fun t ht => hl t (.inl (.inr ht))), ← bnd_look (x := hi) (fun t ht => hl t (.inr ht))]; exact h
  case sslice x lo hi =>
    simp only [evalV] at *
    rw [← val_look (x := x) (fun t ht => hl t (.inl (.inl ht)))]
    split at h <;> try (cases h; done)
    rw [← bnd_look (x := lo) (fun t ht => hl t (.inl (.inr ht))), ← bnd_look (x := hi) (fun t ht => hl t (.inr ht))]; exact h
  case len x =>
    simp only [evalV] at *
    rw [← val_look (x := x) hl]
    cases hv : σ.val x <;> rw [hv] at h <;> try exact h
    case pv p => cases p <;> exact h
    all_goals simp only at h ⊢
    split at h <;> try (cases h; done)
    rename_i ho
    rw [hx _ _ ho]; exact h
  case slen x => simp only [evalV] at *; rw [← val_look (x := x) hl]; exact h
  case extract x i => simp only [evalV] at *; rw [← val_look (x := x) hl]; exact h
  case minmax mx x y => simp only [evalV] at *; rw [← val_look (x := x) (fun t ht => hl t (.inl ht)), ← val_look (x := y) (fun t ht => hl t (.inr ht))]; exact h

theorem elems_look {sz : Nat} : ∀ {l : List VX}, (∀ t ∈ looksX l, σ.get t = σ'.get t) → elems σ sz l = elems σ' sz l
  | [], _ => rfl
  | x :: r, h => by
    simp only [elems]
    rw [val_look (x := x) (fun t ht => h t (by simp [looksX, ht])), elems_look (l := r) (fun t ht => h t (by simp only [looksX, List.flatMap_cons, List.mem_append]; exact .inr ht))]
theorem dense_look {sz : Nat} : ∀ {l : List VX}, (∀ t ∈ looksX l, σ.get t = σ'.get t) → dense σ sz l = dense σ' sz l
  | [], _ => rfl
  | x :: r, h => by
    simp only [dense]
    rw [val_look (x := x) (fun t ht => h t (by simp [looksX, ht])), dense_look (l := r) (fun t ht => h t (by simp only [looksX, List.flatMap_cons, List.mem_append]; exact .inr ht))]

theorem Froz.mono {h h' : Nm → Option OV} (hx : ∀ n o, h n = some o → h' n = some o) {s : SV} {x : PV} (f : Froz h s x) : Froz h' s x := by
  induction f with
  | pv x => exact .pv x
  | nil sz => exact .nil sz
  | agg cs xs hl _ ih => exact .agg cs xs hl ih
  | arr n tag t sz cs xs ho ht hl hs _ ih => exact .arr n tag t sz cs xs (hx _ _ ho) ht hl hs ih
  | ref n off t cs xs ho hl _ ih => exact .ref n off t cs xs (hx _ _ ho) hl ih
  | aref n off tag t sz cs xs ho ht hlt hle _ ih => exact .aref n off tag t sz cs xs (hx _ _ ho) ht hlt hle ih
end

/-- A call with just one outcome, a value. -/
inductive VDet (P : Program) (f : FuncId) (vals : List SV) (h : Nm → Option OV) (s : SV) : Prop
  | pure (xs : List PV) (hspec : FnSpec P f (xs.map .pv) [] fun s' h' => s' = s ∧ h' = []) (hl : vals.length = xs.length) (hfit : ∀ (k : Nat) s x, vals[k]? = some s → xs[k]? = some x → s = .pv x ∨ (s = .pv .nilS ∧ ∃ sz, x = .list sz []))
  | lend (xs : List PV) (hspec : FnSpec P f (xs.map .pv) [] fun s' h' => s' = s) (hl : vals.length = xs.length) (hfit : ∀ (k : Nat) s x, vals[k]? = some s → xs[k]? = some x → Froz h s x) (hs : scalar s = true)

theorem VDet.mono {P : Program} {f : FuncId} {vals : List SV} {h h' : Nm → Option OV} {s : SV} (hx : ∀ n o, h n = some o → h' n = some o) (d : VDet P f vals h s) : VDet P f vals h' s := by
  cases d with
  | pure xs h1 h2 h3 => exact .pure xs h1 h2 h3
  | lend xs h1 h2 h3 h4 => exact .lend xs h1 h2 (fun k s x hs hx' => (h3 k s x hs hx').mono hx) h4

theorem dropS_nil (s : SV) : dropS [] s = s := by
  unfold dropS
  rw [if_neg]
  simp
theorem afterT_nil (σ : St) : afterT σ [] = σ.t := by
  unfold afterT
  conv => rhs; rw [← List.map_id σ.t]
  apply List.map_congr_left
  intro e _
  simp [dropS_nil]
theorem afterH_nil (σ : St) (ρ : Nm → Nm) : afterH σ ρ [] [] = σ.h := by
  unfold afterH
  simp

theorem VDet.vcall {P : Program} {f : FuncId} {vals : List SV} {dst : Option Nat} {σ : St} {s : SV} {K : St → Prop} (d : VDet P f vals σ.obj s) (hk : K (setD σ dst s)) : VCall P f vals dst σ K := by
  cases d with
  | pure xs h1 h2 h3 =>
    refine .gen (xs.map .pv) [] _ id h1 (by simpa using h2) (by simp) (fun k s c hs hc => ?_) (fun n o ho => by simp [lkO] at ho) ?_
    · simp only [List.getElem?_map, Option.map_eq_some_iff] at hc
      obtain ⟨x, hx, rfl⟩ := hc
      refine ⟨?_, by simp [SV.names]⟩
      rcases h3 k s x hs hx with rfl | ⟨rfl, sz, rfl⟩
      · exact .same (.pv x)
      · exact .nil sz
    · rintro s' h' ⟨rfl, rfl⟩
      refine ⟨[], ⟨by simp, by simp, by simp, by simp, by simp⟩, ?_⟩
      rw [afterT_nil, afterH_nil, SV.ren_id]
      exact hk
  | lend xs h1 h2 h3 h4 =>
    refine .lend xs _ h1 h2 h3 ?_
    rintro s' h' rfl
    exact ⟨h4, hk⟩

/-- Operations with one outcome, a value. -/
def isD (loud : Nat → Bool) (dst : Option Nat) : VO → Bool
  | .alloc _ _ | .box _ _ | .store _ _ _ | .append _ _ _ _ _ | .appstr _ _ _ | .mkslice _ _ _ _ _ _ => false
  | .bslice own _ _ _ => !own && dst.isSome
  | .call _ _ | .callv _ _ => match dst with
    | some d => !loud d
    | none => false
  | _ => true

/-- What comes of them. -/
def det (P : Program) (σ : St) (op : VO) (s : SV) : Prop :=
  match op with
  | .bslice own _ sz parts => own = false ∧ ∃ xs, elems σ sz parts = some xs ∧ s = .pv (.list sz xs)
  | .call f args => VDet P f (args.map σ.val) σ.obj s
  | .callv x args => match σ.val x with
    | .pv (.fn f) => hasBody P f = true ∧ VDet P f (args.map σ.val) σ.obj s
    | .clo f caps => hasBody P f = true ∧ VDet P f (args.map σ.val ++ caps) σ.obj s
    | _ => False
  | op => evalV σ op = some s

theorem det_val {P : Program} {σ : St} {op : VO} {s : SV} (h : isVal op = true) : det P σ op s ↔ evalV σ op = some s := by
  cases op <;> first | rfl | simp [isVal] at h

theorem det_mono {P : Program} {σ σ' : St} {op : VO} (hl : ∀ t ∈ op.looks, σ.get t = σ'.get t) (hx : ∀ n o, σ.obj n = some o → σ'.obj n = some o) {s : SV} (h : det P σ op s) : det P σ' op s := by
  by_cases hv : isVal op = true
  · rw [det_val hv] at *; exact evalV_mono hl hx h
  · cases op <;> simp [isVal] at hv <;> simp only [det] at h ⊢ <;> try (simp only [evalV, reduceCtorEq] at h; done)
    case bslice own e sz parts => simp only [VO.looks] at hl; rw [← elems_look hl]; exact h
    case call f args => simp only [VO.looks] at hl; rw [← vals_look hl]; exact h.mono hx
    case callv x args =>
      simp only [VO.looks, List.mem_append] at hl
      rw [← val_look (x := x) (fun t ht => hl t (.inl ht)), ← vals_look (l := args) (fun t ht => hl t (.inr ht))]
      split at h
      · exact ⟨h.1, h.2.mono hx⟩
      · exact ⟨h.1, h.2.mono hx⟩
      · cases h

theorem det_vexec {P : Program} {σ : St} {dst : Option Nat} {op : VO} {s : SV} {loud : Nat → Bool} (hd : isD loud dst op = true) (h : det P σ op s) {K : St → Prop} (hk : K (setD σ dst s)) : vexec P dst op σ K := by
  by_cases hv : isVal op = true
  · rw [det_val hv] at h
    rw [vexec_val hv, h]; exact hk
  · cases op <;> simp [isVal] at hv <;> simp only [det] at h <;> try (simp [isD] at hd; done)
    case bslice own e sz parts =>
      obtain ⟨rfl, xs, h1, rfl⟩ := h
      simp only [isD, Bool.not_false, Bool.true_and] at hd
      obtain ⟨d, rfl⟩ := Option.isSome_iff_exists.1 hd
      simp only [vexec, bsliceS, h1, Option.map_some, Bool.false_eq_true, if_false]
      exact hk
    case call f args => exact h.vcall hk
    case callv x args =>
      simp only [vexec]
      split at h
      · rename_i f hx; rw [hx]; exact ⟨h.1, h.2.vcall hk⟩
      · rename_i f caps hx; rw [hx]; exact ⟨h.1, h.2.vcall hk⟩
      · cases h

/-- Tables that are alike. -/
structure Eqv (σ τ : St) : Prop where
  get : ∀ d, σ.get d = τ.get d
  obj : ∀ n, σ.obj n = τ.obj n
theorem Eqv.refl (σ : St) : Eqv σ σ := ⟨fun _ => rfl, fun _ => rfl⟩
theorem Eqv.symm {σ τ : St} (h : Eqv σ τ) : Eqv τ σ := ⟨fun d => (h.get d).symm, fun n => (h.obj n).symm⟩
theorem Eqv.trans {σ τ υ : St} (h : Eqv σ τ) (h' : Eqv τ υ) : Eqv σ υ := ⟨fun d => (h.get d).trans (h'.get d), fun n => (h.obj n).trans (h'.obj n)⟩

theorem Rel.congr {E : Env} {N : Nat} {g : Gh} {σ τ : St} {a : Act} {w : World} (R : Rel E N g σ a w) (h : Eqv σ τ) : Rel E N g τ a w := by
  have ho : σ.obj = τ.obj := funext h.obj
  refine ⟨R.size, R.defers, fun d => ?_, ?_, ?_, ?_, ?_, R.keeps, R.ps0, R.ps1, R.psb, ?_⟩
  · rw [← h.get d, ← ho]; exact R.slots d
  · rw [← ho]; exact R.objs
  · rw [← ho]; exact R.inj
  · rw [← ho]; exact R.disj
  · rw [← ho]; exact R.own
  · rw [← ho]; exact R.pin

theorem get_set (σ : St) (d e : Nat) (s : SV) : (σ.set d s).get e = if d = e then s else σ.get e := by
  by_cases h : d = e
  · subst h; rw [if_pos rfl]; exact St.get_set_same σ d s
  · rw [if_neg h]; exact St.get_set_other σ d e s h
theorem get_setD (σ : St) (dst : Option Nat) (e : Nat) (s : SV) : (setD σ dst s).get e = if dst = some e then s else σ.get e := by
  cases dst with
  | none => simp [setD]
  | some d => simp [setD, get_set]
theorem obj_setD (σ : St) (dst : Option Nat) (s : SV) (n : Nm) : (setD σ dst s).obj n = σ.obj n := by cases dst <;> rfl
end Go.VL
