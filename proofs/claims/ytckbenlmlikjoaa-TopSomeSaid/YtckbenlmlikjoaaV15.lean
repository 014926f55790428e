/- The value-level logic, part 15: a call by contract. -/
import Derived.Test.YtckbenlmlikjoaaV14
set_option linter.unusedVariables false
set_option linter.unusedSimpArgs false
namespace Go.VL

theorem SVRel.closed {w : World} {g : Gh} {h : Nm → Option OV} {s : SV} {v : Value} (r : SVRel w g h s v) : ∀ n ∈ s.names, h n ≠ none := by
  induction r with
  | pv x v hx => simp [SV.names]
  | ref n off b t cs ho hb => simp [SV.names, ho]
  | aref n off tag t sz cs v ho hg hb h1' => simp [SV.names, ho]
  | arr n tag t sz cs v ho hg hb h1' => simp [SV.names, ho]
  | clo f caps vs hl _ ih =>
    intro n hn
    rw [SV.names, namesL_mem] at hn
    obtain ⟨c, hc, hn⟩ := hn
    obtain ⟨k, hk⟩ := List.mem_iff_getElem?.1 hc
    obtain ⟨v, hv⟩ : ∃ v, vs[k]? = some v := ⟨_, List.getElem?_eq_getElem (by rw [← hl]; exact (List.getElem?_eq_some_iff.1 hk).1)⟩
    exact ih k c v hk hv n hn
  | agg caps vs hl h1 _ ih =>
    intro n hn
    rw [SV.names, namesL_mem] at hn
    obtain ⟨c, hc, hn⟩ := hn
    obtain ⟨k, hk⟩ := List.mem_iff_getElem?.1 hc
    obtain ⟨v, hv⟩ : ∃ v, vs[k]? = some v := ⟨_, List.getElem?_eq_getElem (by rw [← hl]; exact (List.getElem?_eq_some_iff.1 hk).1)⟩
    exact ih k c v hk hv n hn
  | tup caps vs hl _ ih =>
    intro n hn
    rw [SV.names, namesL_mem] at hn
    obtain ⟨c, hc, hn⟩ := hn
    obtain ⟨k, hk⟩ := List.mem_iff_getElem?.1 hc
    obtain ⟨v, hv⟩ : ∃ v, vs[k]? = some v := ⟨_, List.getElem?_eq_getElem (by rw [← hl]; exact (List.getElem?_eq_some_iff.1 hk).1)⟩
    exact ih k c v hk hv n hn
  | junk v => simp [SV.names]
theorem Cells.closed {w : World} {g : Gh} {h : Nm → Option OV} {cs : List SV} {vs : List Value} (r : Cells w g h cs vs) : ∀ n ∈ namesL cs, h n ≠ none := by
  intro n hn
  rw [namesL_mem] at hn
  obtain ⟨c, hc, hn⟩ := hn
  obtain ⟨k, hk⟩ := List.mem_iff_getElem?.1 hc
  obtain ⟨v, hv⟩ : ∃ v, vs[k]? = some v := ⟨_, List.getElem?_eq_getElem (by rw [← r.1]; exact (List.getElem?_eq_some_iff.1 hk).1)⟩
  exact (r.2.2 k c v hk hv).closed n hn
theorem ObjRel.closed {w : World} {g : Gh} {h : Nm → Option OV} {n : Nm} {o : OV} (r : ObjRel w g h n o) : ∀ m ∈ o.names, h m ≠ none := by
  cases o with
  | box t cs => obtain ⟨b, cur, _, _, h3⟩ := r; exact h3.closed
  | arr t sz cs => obtain ⟨_, k, xs, _, h2⟩ := r; exact h2.closed

mutual
theorem SV.ren_id (s : SV) : s.ren id = s := by
  cases s with
  | clo f cs => rw [SV.ren, renL_id cs]
  | agg cs => rw [SV.ren, renL_id cs]
  | tup cs => rw [SV.ren, renL_id cs]
  | _ => rfl
theorem renL_id (cs : List SV) : renL id cs = cs := by
  cases cs with
  | nil => rfl
  | cons c r => rw [renL, SV.ren_id c, renL_id r]
end
theorem OV.ren_id (o : OV) : o.ren id = o := by cases o <;> simp [OV.ren, renL_id]

/-- Back from the new names to the old ones. -/
theorem SVRel.unren {w : World} {g g' : Gh} {h h' : Nm → Option OV} {ρ : Nm → Nm} (hps : ∀ b, g.Ps b → g'.Ps b)
    (hbox : ∀ n t cs, h' n ≠ none → h (ρ n) = some (.box t cs) → (∃ cs', h' n = some (.box t cs')) ∧ g'.β n = g.β (ρ n))
    (harr : ∀ n t sz cs, h' n ≠ none → h (ρ n) = some (.arr t sz cs) → (∃ cs', h' n = some (.arr t sz cs') ∧ cs'.length = cs.length) ∧ g'.β n = g.β (ρ n))
    {s : SV} {v : Value} (r : SVRel w g h s v) : ∀ c : SV, c.ren ρ = s → (∀ n ∈ c.names, h' n ≠ none) → SVRel w g' h' c v := by
  induction r with
  | pv x v hx =>
    intro c hc hn
    cases c <;> simp only [SV.ren, SV.pv.injEq, reduceCtorEq] at hc
    subst hc
    exact .pv _ v (hx.mono hps (fun _ _ => rfl))
  | ref n off b t cs ho hb =>
    intro c hc hn
    cases c <;> simp only [SV.ren, SV.ref.injEq, reduceCtorEq] at hc
    obtain ⟨rfl, rfl⟩ := hc
    obtain ⟨⟨cs', h1⟩, h2⟩ := hbox _ t cs (hn _ (by simp [SV.names])) ho
    exact .ref _ _ b t cs' h1 (h2.trans hb)
  | aref n off tag t sz cs v ho hg hb h1' =>
    intro c hc hn
    cases c <;> simp only [SV.ren, SV.aref.injEq, reduceCtorEq] at hc
    obtain ⟨rfl, rfl, rfl⟩ := hc
    obtain ⟨⟨cs', h1, h3⟩, h2⟩ := harr _ t sz cs (hn _ (by simp [SV.names])) ho
    refine .aref _ _ _ t sz cs' v h1 (by omega) (fun ht => ?_) h1'
    rw [h2]
    exact hb (by omega)
  | arr n tag t sz cs v ho hg hb h1' =>
    intro c hc hn
    cases c <;> simp only [SV.ren, SV.arr.injEq, reduceCtorEq] at hc
    obtain ⟨rfl, rfl⟩ := hc
    obtain ⟨⟨cs', h1, h3⟩, h2⟩ := harr _ t sz cs (hn _ (by simp [SV.names])) ho
    refine .arr _ _ t sz cs' v h1 (by omega) (fun ht => ?_) h1'
    rw [h2]
    exact hb (by omega)
  | clo f caps vs hl _ ih =>
    intro c hc hn
    cases c <;> simp only [SV.ren, SV.clo.injEq, reduceCtorEq] at hc
    rename_i f' cs
    obtain ⟨rfl, rfl⟩ := hc
    rw [renL_eq] at hl ih
    refine .clo _ cs vs (by simpa using hl) (fun k c v hk hv => ih k (c.ren ρ) v (by simp [hk]) hv c rfl (fun n hn' => hn n (by rw [SV.names, namesL_mem]; exact ⟨c, List.mem_of_getElem? hk, hn'⟩)))
  | agg caps vs hl h1 _ ih =>
    intro c hc hn
    cases c <;> simp only [SV.ren, SV.agg.injEq, reduceCtorEq] at hc
    rename_i cs
    subst hc
    rw [renL_eq] at hl ih
    refine .agg cs vs (by simpa using hl) h1 (fun k c v hk hv => ih k (c.ren ρ) v (by simp [hk]) hv c rfl (fun n hn' => hn n (by rw [SV.names, namesL_mem]; exact ⟨c, List.mem_of_getElem? hk, hn'⟩)))
  | tup caps vs hl _ ih =>
    intro c hc hn
    cases c <;> simp only [SV.ren, SV.tup.injEq, reduceCtorEq] at hc
    rename_i cs
    subst hc
    rw [renL_eq] at hl ih
    refine .tup cs vs (by simpa using hl) (fun k c v hk hv => ih k (c.ren ρ) v (by simp [hk]) hv c rfl (fun n hn' => hn n (by rw [SV.names, namesL_mem]; exact ⟨c, List.mem_of_getElem? hk, hn'⟩)))
  | junk v => 
    intro c hc hn
    cases c <;> simp only [SV.ren, reduceCtorEq] at hc
    exact .junk v

/-- How a value at hand fits what a contract asks: as told, but for names; a nil slice as an empty list. -/
inductive Fits (ρ : Nm → Nm) : SV → SV → Prop
  | same (c : SV) : Fits ρ (c.ren ρ) c
  | nil (sz : Nat) : Fits ρ (.pv .nilS) (.pv (.list sz []))

theorem PVRel.nil_list {w : World} {Ps : Nat → Prop} (sz : Nat) : PVRel w Ps (.list sz []) (.slice none 0 0) :=
  .list sz [] none 0 0 0 (fun _ => undef) (by simp) (by simp) (by simp [maxI]) (by simp) (by simp [flat]) (by simp [flat]) (fun _ => rfl)

/-- Names that are given away and don't come back. -/
def dropS (ds : List Nm) (s : SV) : SV := if s.names.any ds.contains then .junk else s

section
variable {P : Program} {E : Env} {N : Nat} {g : Gh} {σ : St} {a : Act} {w : World}

/-- What the caller's table is behind a call: what was handed over is as the contract leaves it. -/
def afterH (σ : St) (ρ : Nm → Nm) (ch h' : List (Nm × OV)) : List (Nm × OV) :=
  (σ.h.filter fun e => !(ch.any fun c => ρ c.1 = e.1)) ++ h'.map fun e => (ρ e.1, e.2.ren ρ)

theorem lkO_filter (p : Nm → Bool) (n : Nm) : ∀ l : List (Nm × OV), lkO n (l.filter fun e => p e.1) = if p n then lkO n l else none
  | [] => by simp [lkO]
  | (m, o) :: r => by
    by_cases hm : p m
    · simp only [List.filter_cons, hm, if_true, lkO, lkO_filter p n r]
      by_cases h : m = n
      · subst h; simp [hm]
      · simp [h]
    · have hm' : p m = false := by simpa using hm
      simp only [List.filter_cons, hm', Bool.false_eq_true, if_false, lkO, lkO_filter p n r]
      by_cases h : m = n
      · subst h; simp [hm']
      · simp [h]
theorem lkO_append (n : Nm) : ∀ l r : List (Nm × OV), lkO n (l ++ r) = match lkO n l with | some o => some o | none => lkO n r
  | [], r => by simp [lkO]
  | (m, o) :: l, r => by
    simp only [List.cons_append, lkO]
    by_cases h : m = n
    · simp [h]
    · simp [h, lkO_append n l r]
theorem lkO_none {n : Nm} : ∀ {l : List (Nm × OV)}, lkO n l = none ↔ ∀ e ∈ l, e.1 ≠ n
  | [] => by simp [lkO]
  | (m, o) :: r => by
    simp only [lkO, List.forall_mem_cons]
    by_cases h : m = n
    · simp [h]
    · simp [h, lkO_none (l := r)]
theorem lkO_map {ρ : Nm → Nm} : ∀ {l : List (Nm × OV)}, (∀ e ∈ l, ∀ e' ∈ l, ρ e.1 = ρ e'.1 → e.1 = e'.1) → ∀ n o, lkO n l = some o → lkO (ρ n) (l.map fun e => (ρ e.1, e.2.ren ρ)) = some (o.ren ρ)
  | [], _, n, o, h => by simp [lkO] at h
  | (m, p) :: r, hi, n, o, h => by
    simp only [lkO] at h
    simp only [List.map_cons, lkO]
    by_cases hm : m = n
    · subst hm
      simp only [if_true, Option.some.injEq] at h
      subst h
      simp
    · rw [if_neg hm] at h
      have hne : ρ m ≠ ρ n := by
        intro e
        have : ∃ e ∈ r, e.1 = n := by
          rcases Classical.em (∃ e ∈ r, e.1 = n) with h' | h'
          · exact h'
          · exfalso
            have : lkO n r = none := lkO_none.2 (fun e he hn => h' ⟨e, he, hn⟩)
            rw [this] at h; cases h
        obtain ⟨e', he', rfl⟩ := this
        exact hm (hi (m, p) (by simp) e' (by simp [he']) e)
      rw [if_neg hne]
      exact lkO_map (fun e he e' he' => hi e (by simp [he]) e' (by simp [he'])) n o h
theorem lkO_map_inv {ρ : Nm → Nm} : ∀ {l : List (Nm × OV)} {m : Nm}, lkO m (l.map fun e => (ρ e.1, e.2.ren ρ)) ≠ none → ∃ n, lkO n l ≠ none ∧ ρ n = m
  | [], m, h => by simp [lkO] at h
  | (k, p) :: r, m, h => by
    simp only [List.map_cons, lkO] at h
    by_cases hm : ρ k = m
    · exact ⟨k, by simp [lkO], hm⟩
    · rw [if_neg hm] at h
      obtain ⟨n, h1, h2⟩ := lkO_map_inv h
      refine ⟨n, ?_, h2⟩
      simp only [lkO]
      split <;> simp_all
end
end Go.VL
