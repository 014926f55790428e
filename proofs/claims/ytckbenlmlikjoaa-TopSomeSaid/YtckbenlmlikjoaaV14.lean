/- The value-level logic, part 14: names and their renaming; what a function's contract says. -/
import Derived.Test.YtckbenlmlikjoaaV13
set_option linter.unusedVariables false
set_option linter.unusedSimpArgs false
namespace Go.VL

/-- What is told of memory, the slots aside. -/
structure HRel (E : Env) (g : Gh) (h : Nm → Option OV) (w : World) : Prop where
  objs : ∀ n o, h n = some o → ObjRel w g h n o
  inj : ∀ n m, h n ≠ none → h m ≠ none → n ≠ m → ∀ b, blk (g.β n) = some b → blk (g.β m) ≠ some b
  disj : ∀ n, h n ≠ none → ∀ b, blk (g.β n) = some b → ¬ g.Ps b
  own : ∀ n, h n ≠ none → ∀ b, blk (g.β n) = some b → E.A b ∨ E.w0.heap.size ≤ b
  keeps : Keeps E.w0 w E.A
  ps0 : ∀ b, E.P0 b → g.Ps b
  ps1 : ∀ b, g.Ps b → b < E.w0.heap.size → E.P0 b ∨ E.A b
  psb : ∀ b, g.Ps b → b < w.heap.size

theorem Rel.hrel {E : Env} {N : Nat} {g : Gh} {σ : St} {a : Act} {w : World} (R : Rel E N g σ a w) : HRel E g σ.obj w :=
  ⟨R.objs, R.inj, R.disj, R.own, R.keeps, R.ps0, R.ps1, R.psb⟩
theorem HRel.rel {E : Env} {N : Nat} {g : Gh} {σ : St} {a : Act} {w : World} (H : HRel E g σ.obj w) (hs : a.tmps.size = N) (hd : a.defers = []) (hsl : ∀ d, SVRel w g σ.obj (σ.get d) (a.tmps.getD d undef)) (hpin : ∀ n, n.length = 2 → ∀ o, σ.obj n = some o → PinOk (E.pin n) (g.β n) o) : Rel E N g σ a w :=
  ⟨hs, hd, hsl, H.objs, H.inj, H.disj, H.own, H.keeps, H.ps0, H.ps1, H.psb, hpin⟩

/-- Blocks that a table's things lie in. -/
def Owned (g : Gh) (h : Nm → Option OV) (b : Nat) : Prop := ∃ n, h n ≠ none ∧ blk (g.β n) = some b

mutual
/-- All names that a value leads to at once. -/
def SV.names : SV → List Nm
  | .ref n _ => [n]
  | .aref n _ _ => [n]
  | .arr n _ => [n]
  | .mp n => [n]
  | .clo _ cs => namesL cs
  | .agg cs => namesL cs
  | .tup cs => namesL cs
  | .pv _ => []
  | .junk => []
def namesL : List SV → List Nm
  | [] => []
  | c :: r => c.names ++ namesL r
end
def OV.names : OV → List Nm
  | .box _ cs => namesL cs
  | .arr _ _ cs => namesL cs

mutual
def SV.ren (ρ : Nm → Nm) : SV → SV
  | .ref n o => .ref (ρ n) o
  | .aref n o t => .aref (ρ n) o t
  | .arr n t => .arr (ρ n) t
  | .mp n => .mp (ρ n)
  | .clo f cs => .clo f (renL ρ cs)
  | .agg cs => .agg (renL ρ cs)
  | .tup cs => .tup (renL ρ cs)
  | .pv x => .pv x
  | .junk => .junk
def renL (ρ : Nm → Nm) : List SV → List SV
  | [] => []
  | c :: r => c.ren ρ :: renL ρ r
end
def OV.ren (ρ : Nm → Nm) : OV → OV
  | .box t cs => .box t (renL ρ cs)
  | .arr t s cs => .arr t s (renL ρ cs)

theorem renL_eq (ρ : Nm → Nm) (cs : List SV) : renL ρ cs = cs.map (SV.ren ρ) := by
  induction cs with
  | nil => rfl
  | cons c r ih => simp [renL, ih]
theorem namesL_mem {cs : List SV} {n : Nm} : n ∈ namesL cs ↔ ∃ c ∈ cs, n ∈ c.names := by
  induction cs with
  | nil => simp [namesL]
  | cons c r ih => simp [namesL, ih]

/-- One table told in another: each thing that is led to is there, under its new name, with the same thing behind it. -/
structure Ren (w : World) (g : Gh) (h : Nm → Option OV) (g' : Gh) (h' : Nm → Option OV) (ρ : Nm → Nm) (ns : Nm → Prop) : Prop where
  ps : ∀ b, g.Ps b → g'.Ps b
  box : ∀ n t cs, ns n → h n = some (.box t cs) → ∃ cs', h' (ρ n) = some (.box t cs') ∧ g'.β (ρ n) = g.β n
  arr : ∀ n t sz cs, ns n → h n = some (.arr t sz cs) → ∃ cs', h' (ρ n) = some (.arr t sz cs') ∧ cs.length ≤ cs'.length ∧ (cs.length = cs'.length → g'.β (ρ n) = g.β n)

theorem SVRel.ren {w w' : World} {g g' : Gh} {h h' : Nm → Option OV} {ρ : Nm → Nm} {ns : Nm → Prop} (X : Ren w g h g' h' ρ ns) (hc : ∀ b, g.Ps b → w'.heap[b]? = w.heap[b]?) {s : SV} {v : Value} (r : SVRel w g h s v) (hns : ∀ n ∈ s.names, ns n) : SVRel w' g' h' (s.ren ρ) v := by
  induction r with
  | pv x v hx => exact .pv x v (hx.mono X.ps hc)
  | ref n off b t cs ho hb =>
    obtain ⟨cs', h1, h2⟩ := X.box n t cs (hns n (by simp [SV.names])) ho
    exact .ref (ρ n) off b t cs' h1 (h2.trans hb)
  | aref n off tag t sz cs v ho hg hb h1' =>
    obtain ⟨cs', h1, h2, h3⟩ := X.arr n t sz cs (hns n (by simp [SV.names])) ho
    refine .aref (ρ n) off tag t sz cs' v h1 (by omega) (fun ht => ?_) h1'
    rw [h3 (by omega)]
    exact hb (by omega)
  | arr n tag t sz cs v ho hg hb h1' =>
    obtain ⟨cs', h1, h2, h3⟩ := X.arr n t sz cs (hns n (by simp [SV.names])) ho
    refine .arr (ρ n) tag t sz cs' v h1 (by omega) (fun ht => ?_) h1'
    rw [h3 (by omega)]
    exact hb (by omega)
  | clo f caps vs hl _ ih =>
    have e : (SV.clo f caps).ren ρ = .clo f (caps.map (SV.ren ρ)) := by rw [SV.ren, renL_eq]
    rw [e]
    refine .clo f _ vs (by simpa using hl) (fun k c v hc' hv => ?_)
    simp only [List.getElem?_map, Option.map_eq_some_iff] at hc'
    obtain ⟨c0, h0, rfl⟩ := hc'
    exact ih k c0 v h0 hv (fun n hn => hns n (by rw [SV.names, namesL_mem]; exact ⟨c0, List.mem_of_getElem? h0, hn⟩))
  | agg caps vs hl h1 _ ih =>
    have e : (SV.agg caps).ren ρ = .agg (caps.map (SV.ren ρ)) := by rw [SV.ren, renL_eq]
    rw [e]
    refine .agg _ vs (by simpa using hl) h1 (fun k c v hc' hv => ?_)
    simp only [List.getElem?_map, Option.map_eq_some_iff] at hc'
    obtain ⟨c0, h0, rfl⟩ := hc'
    exact ih k c0 v h0 hv (fun n hn => hns n (by rw [SV.names, namesL_mem]; exact ⟨c0, List.mem_of_getElem? h0, hn⟩))
  | tup caps vs hl _ ih =>
    have e : (SV.tup caps).ren ρ = .tup (caps.map (SV.ren ρ)) := by rw [SV.ren, renL_eq]
    rw [e]
    refine .tup _ vs (by simpa using hl) (fun k c v hc' hv => ?_)
    simp only [List.getElem?_map, Option.map_eq_some_iff] at hc'
    obtain ⟨c0, h0, rfl⟩ := hc'
    exact ih k c0 v h0 hv (fun n hn => hns n (by rw [SV.names, namesL_mem]; exact ⟨c0, List.mem_of_getElem? h0, hn⟩))
  | junk v => exact .junk v

theorem Cells.ren {w w' : World} {g g' : Gh} {h h' : Nm → Option OV} {ρ : Nm → Nm} {ns : Nm → Prop} (X : Ren w g h g' h' ρ ns) (hc : ∀ b, g.Ps b → w'.heap[b]? = w.heap[b]?) {cs : List SV} {vs : List Value} (r : Cells w g h cs vs) (hns : ∀ n ∈ namesL cs, ns n) : Cells w' g' h' (renL ρ cs) vs := by
  rw [renL_eq]
  refine ⟨by simpa using r.1, r.2.1, fun k c v hc' hv => ?_⟩
  simp only [List.getElem?_map, Option.map_eq_some_iff] at hc'
  obtain ⟨c0, h0, rfl⟩ := hc'
  exact (r.2.2 k c0 v h0 hv).ren X hc (fun n hn => hns n (namesL_mem.2 ⟨c0, List.mem_of_getElem? h0, hn⟩))

theorem ObjRel.ren {w w' : World} {g g' : Gh} {h h' : Nm → Option OV} {ρ : Nm → Nm} {ns : Nm → Prop} (X : Ren w g h g' h' ρ ns) (hc : ∀ b, g.Ps b → w'.heap[b]? = w.heap[b]?) {n : Nm} {o : OV} (r : ObjRel w g h n o) (hns : ∀ m ∈ o.names, ns m) (hβ : g'.β (ρ n) = g.β n)
    (hb : ∀ b, blk (g.β n) = some b → w'.heap[b]? = w.heap[b]?) : ObjRel w' g' h' (ρ n) (o.ren ρ) := by
  cases o with
  | box t cs =>
    obtain ⟨b, cur, h1, h2, h3⟩ := r
    exact ⟨b, cur, hβ.trans h1, by rw [hb b (by rw [h1]; rfl)]; exact h2, h3.ren X hc hns⟩
  | arr t sz cs =>
    obtain ⟨h0, k, xs, h1, h2⟩ := r
    exact ⟨h0, k, xs, by rw [hβ]; exact ownsRow_block h1 hb, h2.ren X hc hns⟩

/-- THE CONTRACT of a function: called with values that are told by args, over things that are told by h, it returns what Q says; all that h does not own is as it was. -/
def FnSpec (P : Program) (f : FuncId) (args : List SV) (h : List (Nm × OV)) (Q : SV → List (Nm × OV) → Prop) : Prop :=
  ∀ (w : World) (g : Gh) (vs : List Value), HRel (mkE w (Owned g (fun n => lkO n h)) g.Ps) g (fun n => lkO n h) w → args.length = vs.length →
    (∀ (k : Nat) s v, args[k]? = some s → vs[k]? = some v → SVRel w g (fun n => lkO n h) s v) →
    Calls P f vs.toArray w fun e w' => ∃ v s h' g', e = .returned v ∧ Q s h' ∧ HRel (mkE w (Owned g (fun n => lkO n h)) g.Ps) g' (fun n => lkO n h') w' ∧ SVRel w' g' (fun n => lkO n h') s v ∧
      (∀ n t cs, lkO n h = some (.box t cs) → lkO n h' ≠ none → (∃ cs', lkO n h' = some (.box t cs')) ∧ g'.β n = g.β n) ∧
      (∀ n t sz cs, lkO n h = some (.arr t sz cs) → lkO n h' ≠ none → ∃ cs', lkO n h' = some (.arr t sz cs') ∧ cs.length ≤ cs'.length ∧ (cs.length = cs'.length → g'.β n = g.β n))

theorem FnSpec.mono {P : Program} {f : FuncId} {args : List SV} {h : List (Nm × OV)} {Q Q' : SV → List (Nm × OV) → Prop} (hs : FnSpec P f args h Q) (hq : ∀ s h', Q s h' → Q' s h') : FnSpec P f args h Q' :=
  fun w g vs H hl hr => (hs w g vs H hl hr).mono fun e w' ⟨v, s, h', g', h1, h2, h3⟩ => ⟨v, s, h', g', h1, hq _ _ h2, h3⟩
end Go.VL
