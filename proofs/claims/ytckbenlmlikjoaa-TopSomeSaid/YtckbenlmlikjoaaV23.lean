/- The value-level logic, part 23: things that are given up, or become immutable. -/
import Derived.Test.YtckbenlmlikjoaaV22
set_option linter.unusedVariables false
set_option linter.unusedSimpArgs false
namespace Go.VL

/-- A thing that becomes immutable. -/
inductive Fz where
  | box (cs : List PV)
  | arr (sz : Nat) (xs : List PV)
def Fz.ref (n : Nm) (f : Fz) (m : Nm) (off : Nat) : SV := if m = n then (match f with | .box cs => .pv (.ptr (cs.drop off)) | _ => .junk) else .ref m off
def Fz.arrS (n : Nm) (f : Fz) (m : Nm) (tag : Nat) : SV := if m = n then (match f with | .arr sz xs => if tag = (flat xs).length then .pv (.list sz xs) else .junk | _ => .junk) else .arr m tag
def Fz.aref (n : Nm) (f : Fz) (m : Nm) (off tag : Nat) : SV := if m = n then (match f with | .arr sz xs => if tag = (flat xs).length ∧ off < tag then .pv (.ptr ((flat xs).drop off)) else .junk | _ => .junk) else .aref m off tag
mutual
def frS (n : Nm) (f : Fz) : SV → SV
  | .ref m off => f.ref n m off
  | .arr m tag => f.arrS n m tag
  | .aref m off tag => f.aref n m off tag
  | .pv x => .pv x
  | .mp m => .mp m
  | .clo g cs => .clo g (frL n f cs)
  | .agg cs => mkAgg (frL n f cs)
  | .tup cs => .tup (frL n f cs)
  | .junk => .junk
def frL (n : Nm) (f : Fz) : List SV → List SV
  | [] => []
  | c :: r => frS n f c :: frL n f r
end
theorem frL_eq (n : Nm) (f : Fz) (cs : List SV) : frL n f cs = cs.map (frS n f) := by
  induction cs with
  | nil => rfl
  | cons c r ih => simp [frL, ih]
def frO (n : Nm) (f : Fz) : OV → OV
  | .box t cs => .box t (frL n f cs)
  | .arr t sz cs => .arr t sz (frL n f cs)
def delO (n : Nm) (l : List (Nm × OV)) : List (Nm × OV) := l.filter fun e => !decide (e.1 = n)
def St.fr (σ : St) (n : Nm) (f : Fz) : St := { t := σ.t.map fun e => (e.1, frS n f e.2), h := (delO n σ.h).map fun e => (e.1, frO n f e.2) }

/-- What may become immutable. -/
def FzOk (σ : St) (n : Nm) : Fz → Prop
  | .box cs => ∃ t, σ.obj n = some (.box t (cs.map .pv))
  | .arr sz xs => (∃ t, σ.obj n = some (.arr t sz ((flat xs).map .pv))) ∧ ∀ x ∈ xs, x.cells.length = sz

section
variable {E : Env} {N : Nat} {g : Gh} {σ : St} {a : Act} {w : World}

theorem lkO_mapv (f : OV → OV) (n : Nm) : ∀ l : List (Nm × OV), lkO n (l.map fun e => (e.1, f e.2)) = (lkO n l).map f
  | [] => rfl
  | (m, o) :: r => by
    simp only [List.map_cons, lkO]
    split
    · rfl
    · exact lkO_mapv f n r
theorem obj_fr (σ : St) (n : Nm) (f : Fz) (m : Nm) : (σ.fr n f).obj m = if m = n then none else (σ.obj m).map (frO n f) := by
  unfold St.fr St.obj delO
  rw [lkO_mapv, lkO_filter (fun k => !decide (k = n))]
  by_cases h : m = n
  · simp [h]
  · simp [h]
theorem get_fr (σ : St) (n : Nm) (f : Fz) (d : Nat) : (σ.fr n f).get d = frS n f (σ.get d) := lkS_map (frS n f) (by simp [frS]) d σ.t

theorem Rel.freeze (R : Rel E N g σ a w) {n : Nm} {f : Fz} (hf : FzOk σ n f) : ∃ g', Rel E N g' (σ.fr n f) a w := by
  let g' : Gh := { β := g.β, Ps := fun b => g.Ps b ∨ blk (g.β n) = some b }
  have hn : σ.obj n ≠ none := by
    cases f with
    | box cs => obtain ⟨t, h⟩ := hf; simp [h]
    | arr sz xs => obtain ⟨⟨t, h⟩, _⟩ := hf; simp [h]
  obtain ⟨o, ho⟩ := Option.ne_none_iff_exists'.1 hn
  -- the thing alone
  let hR : Nm → Option OV := fun m => if m = n then σ.obj n else none
  have hRn : hR n = some o := by simp [hR, ho]
  have hpv : ∀ {ps : List PV} {vs : List Value}, Cells w g σ.obj (ps.map .pv) vs → Cells w g hR (ps.map .pv) vs := by
    intro ps vs h
    refine ⟨h.1, h.2.1, fun k c v hc hv => ?_⟩
    have := h.2.2 k c v hc hv
    simp only [List.getElem?_map, Option.map_eq_some_iff] at hc
    obtain ⟨x, _, rfl⟩ := hc
    exact .pv x v this.pv_inv
  have hobR : ∀ m q, hR m = some q → ObjRel w g hR m q := by
    intro m q hq
    simp only [hR] at hq
    split at hq
    · rename_i hm
      subst hm
      have h1 := R.objs m q hq
      cases f with
      | box cs =>
        obtain ⟨t, h⟩ := hf
        rw [h] at hq
        simp only [Option.some.injEq] at hq
        subst hq
        obtain ⟨b, cur, e1, e2, e3⟩ := h1
        exact ⟨b, cur, e1, e2, hpv e3⟩
      | arr sz xs =>
        obtain ⟨⟨t, h⟩, _⟩ := hf
        rw [h] at hq
        simp only [Option.some.injEq] at hq
        subst hq
        obtain ⟨h0, k, us, e1, e2⟩ := h1
        exact ⟨h0, k, us, e1, hpv e2⟩
    · cases hq
  have frz : ∀ {s : SV} {x : PV} {v : Value}, Froz hR s x → SVRel w g hR s v → PVRel w g'.Ps x v := by
    intro s x v h1 h2
    refine h1.rel (g := g) (fun b hb => .inl hb) (fun m hm b hb => ?_) hobR v h2
    simp only [hR] at hm
    split at hm
    · rename_i h; subst h; exact .inr hb
    · exact absurd rfl hm
  have hsv : ∀ {s : SV} {v : Value}, SVRel w g σ.obj s v → SVRel w g' (σ.fr n f).obj (frS n f s) v := by
    intro s v r
    induction r with
    | pv x v hx => exact .pv x v (hx.mono (fun b hb => .inl hb) (fun _ _ => rfl))
    | ref m off b t cs hom hb =>
      simp only [frS, Fz.ref]
      by_cases hm : m = n
      · rw [if_pos hm]
        subst hm
        cases f with
        | arr => exact .junk _
        | box ps =>
          obtain ⟨t', h⟩ := hf
          have hom' := hom
          rw [h] at hom'
          simp only [Option.some.injEq, OV.box.injEq] at hom'
          obtain ⟨rfl, rfl⟩ := hom'
          have hRb : hR m = some (.box t' (ps.map .pv)) := by simp [hR, h]
          refine .pv _ _ (frz (s := .ref m off) (.ref m off t' (ps.map .pv) _ hRb (by simp) (fun k c x hc hx => ?_)) (.ref m off b t' _ hRb hb))
          rw [← List.map_drop, List.getElem?_map, hx] at hc
          simp only [Option.map_some, Option.some.injEq] at hc
          subst hc
          exact .pv x
      · rw [if_neg hm]
        exact .ref m off b t (frL n f cs) (by rw [obj_fr, if_neg hm, hom]; rfl) hb
    | aref m off tag t sz cs v hom hg hb h1 =>
      simp only [frS, Fz.aref]
      by_cases hm : m = n
      · rw [if_pos hm]
        subst hm
        cases f with
        | box => exact .junk _
        | arr sz' xs =>
          simp only
          split
          · rename_i ht
            obtain ⟨⟨t', h⟩, hs⟩ := hf
            have hom' := hom
            rw [h] at hom'
            simp only [Option.some.injEq, OV.arr.injEq] at hom'
            obtain ⟨rfl, rfl, rfl⟩ := hom'
            have hRb : hR m = some (.arr t' sz' ((flat xs).map .pv)) := by simp [hR, h]
            refine .pv _ _ (frz (s := .aref m off tag) (.aref m off tag t' sz' _ _ hRb (by simpa using ht.1) ht.2 (by simp) (fun k c x hc hx => ?_)) (.aref m off tag t' sz' _ v hRb hg hb h1))
            rw [← List.map_drop, List.getElem?_map, hx] at hc
            simp only [Option.map_some, Option.some.injEq] at hc
            subst hc
            exact .pv x
          · exact .junk _
      · rw [if_neg hm]
        exact .aref m off tag t sz (frL n f cs) v (by rw [obj_fr, if_neg hm, hom]; rfl) (by rw [frL_eq]; simpa using hg) (by rw [frL_eq]; simpa using hb) h1
    | arr m tag t sz cs v hom hg hb h1 =>
      simp only [frS, Fz.arrS]
      by_cases hm : m = n
      · rw [if_pos hm]
        subst hm
        cases f with
        | box => exact .junk _
        | arr sz' xs =>
          simp only
          split
          · rename_i ht
            obtain ⟨⟨t', h⟩, hs⟩ := hf
            have hom' := hom
            rw [h] at hom'
            simp only [Option.some.injEq, OV.arr.injEq] at hom'
            obtain ⟨rfl, rfl, rfl⟩ := hom'
            have hRb : hR m = some (.arr t' sz' ((flat xs).map .pv)) := by simp [hR, h]
            refine .pv _ _ (frz (s := .arr m tag) (.arr m tag t' sz' _ xs hRb (by simpa using ht) (by simp) hs (fun k c x hc hx => ?_)) (.arr m tag t' sz' _ v hRb hg hb h1))
            rw [List.getElem?_map, hx] at hc
            simp only [Option.map_some, Option.some.injEq] at hc
            subst hc
            exact .pv x
          · exact .junk _
      · rw [if_neg hm]
        exact .arr m tag t sz (frL n f cs) v (by rw [obj_fr, if_neg hm, hom]; rfl) (by rw [frL_eq]; simpa using hg) (by rw [frL_eq]; simpa using hb) h1
    | clo fn caps vs hl _ ih =>
      rw [frS, frL_eq]
      refine .clo fn _ vs (by simpa using hl) (fun k c v hc hv => ?_)
      simp only [List.getElem?_map, Option.map_eq_some_iff] at hc
      obtain ⟨c0, h0, rfl⟩ := hc
      exact ih k c0 v h0 hv
    | agg caps vs hl h1 _ ih =>
      rw [frS, frL_eq]
      refine Cells.mkAgg ⟨by simpa using hl, h1, fun k c v hc hv => ?_⟩
      simp only [List.getElem?_map, Option.map_eq_some_iff] at hc
      obtain ⟨c0, h0, rfl⟩ := hc
      exact ih k c0 v h0 hv
    | tup caps vs hl _ ih =>
      rw [frS, frL_eq]
      refine .tup _ vs (by simpa using hl) (fun k c v hc hv => ?_)
      simp only [List.getElem?_map, Option.map_eq_some_iff] at hc
      obtain ⟨c0, h0, rfl⟩ := hc
      exact ih k c0 v h0 hv
    | junk v => exact .junk v
  have hcells : ∀ {cs : List SV} {vs : List Value}, Cells w g σ.obj cs vs → Cells w g' (σ.fr n f).obj (frL n f cs) vs := by
    intro cs vs h
    rw [frL_eq]
    refine ⟨by simpa using h.1, h.2.1, fun k c v hc hv => ?_⟩
    simp only [List.getElem?_map, Option.map_eq_some_iff] at hc
    obtain ⟨c0, h0, rfl⟩ := hc
    exact hsv (h.2.2 k c0 v h0 hv)
  have hob : ∀ m q, (σ.fr n f).obj m = some q → m ≠ n ∧ ∃ p, σ.obj m = some p ∧ q = frO n f p := by
    intro m q hq
    rw [obj_fr] at hq
    split at hq
    · cases hq
    · rename_i hm
      simp only [Option.map_eq_some_iff] at hq
      obtain ⟨p, h1, rfl⟩ := hq
      exact ⟨hm, p, h1, rfl⟩
  have hne : ∀ m, (σ.fr n f).obj m ≠ none → m ≠ n ∧ σ.obj m ≠ none := by
    intro m hm
    obtain ⟨q, hq⟩ := Option.ne_none_iff_exists'.1 hm
    obtain ⟨h1, p, h2, _⟩ := hob m q hq
    exact ⟨h1, by simp [h2]⟩
  refine ⟨g', R.size, R.defers, fun d => ?_, fun m q hq => ?_, fun m k hm hk => R.inj m k (hne m hm).2 (hne k hk).2, fun m hm b hb h => ?_, fun m hm => R.own m (hne m hm).2, R.keeps, fun b hb => .inl (R.ps0 b hb), fun b hb hlt => ?_, fun b hb => ?_, fun m hm2 q hq => ?_⟩
  · rw [get_fr]; exact hsv (R.slots d)
  · obtain ⟨hm, p, h1, rfl⟩ := hob m q hq
    have := R.objs m p h1
    cases p with
    | box t cs => obtain ⟨b, cur, e1, e2, e3⟩ := this; exact ⟨b, cur, e1, e2, hcells e3⟩
    | arr t sz cs => obtain ⟨h0, k, us, e1, e2⟩ := this; exact ⟨h0, k, us, e1, hcells e2⟩
  · rcases h with h | h
    · exact R.disj m (hne m hm).2 b hb h
    · exact R.inj m n (hne m hm).2 hn (hne m hm).1 b hb h
  · rcases hb with hb | hb
    · exact R.ps1 b hb hlt
    · rcases R.own n hn b hb with h | h
      · exact .inr h
      · omega
  · rcases hb with hb | hb
    · exact R.psb b hb
    · exact R.lt hn b hb
  · obtain ⟨hm, p, h1, rfl⟩ := hob m q hq
    have := R.pin m hm2 p h1
    revert this
    cases E.pin m with
    | none => exact fun h => h
    | some r =>
      obtain ⟨r, v0⟩ := r
      cases r with
      | box t c => rintro ⟨hv, cs, rfl⟩; exact ⟨hv, _, rfl⟩
      | arr t sz c => rintro ⟨cs, rfl, hl, hv⟩; exact ⟨_, rfl, by rw [frL_eq]; simpa using hl, fun he => hv (by rw [frL_eq] at he; simpa using he)⟩

theorem Wk.freeze {n : Nm} {f : Fz} (hf : FzOk σ n f) : Wk N σ (σ.fr n f) := fun E g a w R => R.freeze hf

/-- Lists are no longer than an int can tell. -/
theorem Rel.len (R : Rel E N g σ a w) {d sz : Nat} {xs : List PV} (h : σ.get d = .pv (.list sz xs)) : xs.length ≤ maxI := by
  have := R.slots d
  rw [h] at this
  generalize a.tmps.getD d undef = v at this
  cases this.pv_inv
  assumption

end
end Go.VL
