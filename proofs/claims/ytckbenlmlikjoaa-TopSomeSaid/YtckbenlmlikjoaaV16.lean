/- The value-level logic, part 16: what is told behind a call. -/
import Derived.Test.YtckbenlmlikjoaaV15
set_option linter.unusedVariables false
set_option linter.unusedSimpArgs false
namespace Go.VL

/-- The slots behind a call. -/
def afterT (σ : St) (ds : List Nm) : List (Nat × SV) := σ.t.map fun e => (e.1, dropS ds e.2)

theorem lkS_map (f : SV → SV) (hj : f .junk = .junk) (d : Nat) : ∀ l : List (Nat × SV), lkS d (l.map fun e => (e.1, f e.2)) = f (lkS d l)
  | [] => by simp [lkS, hj]
  | (e, v) :: r => by
    simp only [List.map_cons, lkS]
    split
    · rfl
    · exact lkS_map f hj d r

/-- What the rule of a call asks of names: new ones are new and apart; what stays doesn't lead to what has gone. -/
structure NamesOk (σ : St) (ρ : Nm → Nm) (ch h' : List (Nm × OV)) (ds : List Nm) : Prop where
  inj : ∀ e ∈ ch ++ h', ∀ e' ∈ ch ++ h', ρ e.1 = ρ e'.1 → e.1 = e'.1
  new : ∀ e ∈ h', lkO e.1 ch = none → σ.obj (ρ e.1) = none ∧ (ρ e.1).length ≠ 2
  gone : ∀ e ∈ ch, lkO e.1 h' = none → ρ e.1 ∈ ds
  back : ∀ n, n ∈ ds → lkO n (afterH σ ρ ch h') = none
  keep : ∀ e ∈ σ.h, (∀ c ∈ ch, ρ c.1 ≠ e.1) → ∀ n ∈ e.2.names, n ∉ ds

section
variable {P : Program} {E : Env} {N : Nat} {g : Gh} {σ : St} {a : Act} {w : World}

theorem lkO_mem {n : Nm} {o : OV} : ∀ {l : List (Nm × OV)}, lkO n l = some o → (n, o) ∈ l
  | [], h => by simp [lkO] at h
  | (m, p) :: r, h => by
    simp only [lkO] at h
    by_cases hm : m = n
    · subst hm; simp at h; subst h; simp
    · rw [if_neg hm] at h; exact List.mem_cons_of_mem _ (lkO_mem h)
theorem lkO_some_of_mem {n : Nm} {o : OV} {l : List (Nm × OV)} (h : (n, o) ∈ l) : lkO n l ≠ none := fun e => lkO_none.1 e _ h rfl

/-- Behind the call: the world w' and the callee's ghost g' tell the contract's things; so they tell the caller's. -/
theorem Rel.after (R : Rel E N g σ a w) {ρ : Nm → Nm} {ch h' : List (Nm × OV)} {ds : List Nm} (hch : ∀ n o, lkO n ch = some o → σ.obj (ρ n) = some (o.ren ρ)) (K : NamesOk σ ρ ch h' ds) {gc g' : Gh} (hgc : gc = { β := fun n => g.β (ρ n), Ps := g.Ps }) {w' : World}
    (H : HRel (mkE w (Owned gc (fun n => lkO n ch)) g.Ps) g' (fun n => lkO n h') w')
    (hbox : ∀ n t cs, lkO n ch = some (.box t cs) → lkO n h' ≠ none → (∃ cs', lkO n h' = some (.box t cs')) ∧ g'.β n = gc.β n)
    (harr : ∀ n t sz cs, lkO n ch = some (.arr t sz cs) → lkO n h' ≠ none → ∃ cs', lkO n h' = some (.arr t sz cs') ∧ cs.length ≤ cs'.length ∧ (cs.length = cs'.length → g'.β n = gc.β n)) :
    ∃ g'', (∀ s v, SVRel w' g' (fun n => lkO n h') s v → SVRel w' g'' (fun n => lkO n (afterH σ ρ ch h')) (s.ren ρ) v) ∧ Rel E N g'' { t := afterT σ ds, h := afterH σ ρ ch h' } a w' := by
  classical
  have injr : ∀ n m, lkO n h' ≠ none → lkO m h' ≠ none → ρ n = ρ m → n = m := by
    intro n m hn hm he
    obtain ⟨o, ho⟩ := Option.ne_none_iff_exists'.1 hn
    obtain ⟨p, hp⟩ := Option.ne_none_iff_exists'.1 hm
    exact K.inj (n, o) (by simp [lkO_mem ho]) (m, p) (by simp [lkO_mem hp]) he
  have injc : ∀ n m, lkO n ch ≠ none → lkO m ch ≠ none → ρ n = ρ m → n = m := by
    intro n m hn hm he
    obtain ⟨o, ho⟩ := Option.ne_none_iff_exists'.1 hn
    obtain ⟨p, hp⟩ := Option.ne_none_iff_exists'.1 hm
    exact K.inj (n, o) (by simp [lkO_mem ho]) (m, p) (by simp [lkO_mem hp]) he
  -- the new ghost
  let β' : Nm → Value := fun m => if h : ∃ n, lkO n h' ≠ none ∧ ρ n = m then g'.β h.choose else g.β m
  have hβn : ∀ n, lkO n h' ≠ none → β' (ρ n) = g'.β n := by
    intro n hn
    have hex : ∃ k, lkO k h' ≠ none ∧ ρ k = ρ n := ⟨n, hn, rfl⟩
    simp only [β', dif_pos hex]
    rw [injr _ n hex.choose_spec.1 hn hex.choose_spec.2]
  have hβo : ∀ m, (¬ ∃ n, lkO n h' ≠ none ∧ ρ n = m) → β' m = g.β m := by
    intro m hm
    simp only [β', dif_neg hm]
  have hH' : ∀ n o, lkO n h' = some o → lkO (ρ n) (afterH σ ρ ch h') = some (o.ren ρ) := by
    intro n o ho
    unfold afterH
    rw [lkO_append, lkO_filter (fun k => !(ch.any fun c => decide (ρ c.1 = k)))]
    have hm := lkO_map (ρ := ρ) (l := h') (fun e he e' he' => K.inj e (by simp [he]) e' (by simp [he'])) n o ho
    by_cases hc : (ch.any fun c => decide (ρ c.1 = ρ n)) = true
    · rw [if_neg (by simpa using hc), hm]
    · rw [if_pos (by simpa using hc)]
      have hnc : lkO n ch = none := by
        rw [lkO_none]
        intro e he hen
        apply hc
        rw [List.any_eq_true]
        exact ⟨e, he, by simp [hen]⟩
      have := (K.new (n, o) (lkO_mem ho) hnc).1
      have hσ : lkO (ρ n) σ.h = none := this
      rw [hσ, hm]
  -- what the caller keeps
  have hrem : ∀ m o, σ.obj m = some o → (∀ c ∈ ch, ρ c.1 ≠ m) → lkO m (afterH σ ρ ch h') = some o ∧ ¬ ∃ n, lkO n h' ≠ none ∧ ρ n = m := by
    intro m o ho hc
    constructor
    · unfold afterH
      rw [lkO_append, lkO_filter (fun k => !(ch.any fun c => decide (ρ c.1 = k))), if_pos]
      · have : lkO m σ.h = some o := ho
        rw [this]
      · simp only [Bool.not_eq_true', List.any_eq_false, decide_eq_true_eq]
        exact hc
    · rintro ⟨n, hn, rfl⟩
      obtain ⟨p, hp⟩ := Option.ne_none_iff_exists'.1 hn
      by_cases hnc : lkO n ch = none
      · have := (K.new (n, p) (lkO_mem hp) hnc).1
        rw [this] at ho; cases ho
      · obtain ⟨q, hq⟩ := Option.ne_none_iff_exists'.1 hnc
        exact hc (n, q) (lkO_mem hq) rfl
  have hcase : ∀ m o, lkO m (afterH σ ρ ch h') = some o → (σ.obj m = some o ∧ (∀ c ∈ ch, ρ c.1 ≠ m)) ∨ ∃ n p, lkO n h' = some p ∧ ρ n = m ∧ o = p.ren ρ := by
    intro m o h
    have h0 := h
    unfold afterH at h
    rw [lkO_append, lkO_filter (fun k => !(ch.any fun c => decide (ρ c.1 = k)))] at h
    by_cases hc : (!(ch.any fun c => decide (ρ c.1 = m))) = true
    · rw [if_pos hc] at h
      have hc' : ∀ c ∈ ch, ρ c.1 ≠ m := by simpa using hc
      cases hσ : lkO m σ.h with
      | some p => rw [hσ] at h; simp at h; subst h; exact .inl ⟨hσ, hc'⟩
      | none =>
        rw [hσ] at h
        right
        obtain ⟨n, h1, rfl⟩ := lkO_map_inv (ρ := ρ) (l := h') (m := m) (by simp only at h; rw [h]; simp)
        obtain ⟨p, hp⟩ := Option.ne_none_iff_exists'.1 h1
        refine ⟨n, p, hp, rfl, ?_⟩
        have := hH' n p hp
        rw [h0] at this
        simpa using this
    · rw [if_neg hc] at h
      right
      obtain ⟨n, h1, rfl⟩ := lkO_map_inv (ρ := ρ) (l := h') (m := m) (by simp only at h; rw [h]; simp)
      obtain ⟨p, hp⟩ := Option.ne_none_iff_exists'.1 h1
      refine ⟨n, p, hp, rfl, ?_⟩
      have := hH' n p hp
      rw [h0] at this
      simpa using this
  -- blocks
  have hownc : ∀ b, Owned gc (fun n => lkO n ch) b → ∃ m, σ.obj m ≠ none ∧ (∃ c ∈ ch, ρ c.1 = m) ∧ blk (g.β m) = some b := by
    rintro b ⟨n, hn, hb⟩
    obtain ⟨o, ho⟩ := Option.ne_none_iff_exists'.1 hn
    exact ⟨ρ n, by rw [hch n o ho]; simp, ⟨(n, o), lkO_mem ho, rfl⟩, by subst hgc; exact hb⟩
  have hblk : ∀ m, σ.obj m ≠ none → (∀ c ∈ ch, ρ c.1 ≠ m) → ∀ b, blk (g.β m) = some b → ¬ Owned gc (fun n => lkO n ch) b := by
    intro m hm hc b hb ho
    obtain ⟨m', h1, ⟨c, hcm, h2⟩, h3⟩ := hownc b ho
    exact R.inj m m' hm h1 (fun e => hc c hcm (h2.trans e.symm)) b hb h3
  have hpsb : ∀ b, g.Ps b → w'.heap[b]? = w.heap[b]? := by
    intro b hb
    refine H.keeps.block b (R.psb b hb) (fun ho => ?_)
    obtain ⟨m', h1, _, h3⟩ := hownc b ho
    exact R.disj m' h1 b h3 hb
  -- slots and cells that the caller keeps
  have hold : Ren w g σ.obj { β := β', Ps := g'.Ps } (fun n => lkO n (afterH σ ρ ch h')) id (fun n => n ∉ ds) := by
    refine ⟨H.ps0, fun n t cs hn ho => ?_, fun n t sz cs hn ho => ?_⟩
    · by_cases hc : ∀ c ∈ ch, ρ c.1 ≠ n
      · obtain ⟨h1, h2⟩ := hrem n _ ho hc
        exact ⟨cs, h1, hβo n h2⟩
      · simp only [ne_eq, Classical.not_forall, Classical.not_imp, Decidable.not_not] at hc
        obtain ⟨c, hcm, rfl⟩ := hc
        have hcn : lkO c.1 ch ≠ none := lkO_some_of_mem (o := c.2) hcm
        obtain ⟨q, hq⟩ := Option.ne_none_iff_exists'.1 hcn
        have hq' := hch c.1 q hq
        rw [ho] at hq'
        cases q with
        | arr => simp [OV.ren] at hq'
        | box t' cs0 =>
          simp only [OV.ren, Option.some.injEq, OV.box.injEq] at hq'
          obtain ⟨rfl, rfl⟩ := hq'
          by_cases hh : lkO c.1 h' = none
          · exact absurd (K.gone c hcm hh) hn
          · obtain ⟨⟨cs', h3⟩, h4⟩ := hbox c.1 t cs0 hq hh
            exact ⟨_, hH' c.1 _ h3, by simp only [id]; rw [hβn c.1 hh, h4, hgc]⟩
    · by_cases hc : ∀ c ∈ ch, ρ c.1 ≠ n
      · obtain ⟨h1, h2⟩ := hrem n _ ho hc
        exact ⟨cs, h1, Nat.le_refl _, fun _ => hβo n h2⟩
      · simp only [ne_eq, Classical.not_forall, Classical.not_imp, Decidable.not_not] at hc
        obtain ⟨c, hcm, rfl⟩ := hc
        have hcn : lkO c.1 ch ≠ none := lkO_some_of_mem (o := c.2) hcm
        obtain ⟨q, hq⟩ := Option.ne_none_iff_exists'.1 hcn
        have hq' := hch c.1 q hq
        rw [ho] at hq'
        cases q with
        | box => simp [OV.ren] at hq'
        | arr t' sz' cs0 =>
          simp only [OV.ren, Option.some.injEq, OV.arr.injEq] at hq'
          obtain ⟨rfl, rfl, rfl⟩ := hq'
          by_cases hh : lkO c.1 h' = none
          · exact absurd (K.gone c hcm hh) hn
          · obtain ⟨cs', h3, h4, h5⟩ := harr c.1 t sz cs0 hq hh
            refine ⟨_, hH' c.1 _ h3, by rw [renL_eq, renL_eq]; simpa using h4, fun he => ?_⟩
            simp only [id]
            rw [hβn c.1 hh, h5 (by rw [renL_eq, renL_eq] at he; simpa using he), hgc]
  have hnew : Ren w' g' (fun n => lkO n h') { β := β', Ps := g'.Ps } (fun n => lkO n (afterH σ ρ ch h')) ρ (fun n => lkO n h' ≠ none) := by
    refine ⟨fun _ h => h, fun n t cs hn ho => ⟨_, hH' n _ ho, hβn n hn⟩, fun n t sz cs hn ho => ⟨_, hH' n _ ho, by rw [renL_eq]; simp, fun _ => hβn n hn⟩⟩
  refine ⟨{ β := β', Ps := g'.Ps }, fun s v hs => hs.ren hnew (fun _ _ => rfl) (fun n hn => hs.closed n hn), ?_⟩
  have hH : HRel E { β := β', Ps := g'.Ps } (St.obj { t := afterT σ ds, h := afterH σ ρ ch h' }) w' := by
    refine ⟨fun m o ho => ?_, ?_, ?_, ?_, ?_, fun b hb => H.ps0 b (R.ps0 b hb), fun b hb hlt => ?_, H.psb⟩
    · rcases hcase m o ho with ⟨h1, h2⟩ | ⟨n, p, h1, rfl, rfl⟩
      · obtain ⟨h3, h4⟩ := hrem m o h1 h2
        have := (R.objs m o h1).ren hold hpsb (fun k hk => K.keep (m, o) (lkO_mem h1) h2 k hk) (hβo m h4) (fun b hb => H.keeps.block b (R.lt (by simp [h1]) b hb) (hblk m (by simp [h1]) h2 b hb))
        rw [OV.ren_id] at this
        exact this
      · exact (H.objs n p h1).ren hnew (fun _ _ => rfl) (fun k hk => (H.objs n p h1).closed k hk) (hβn n (by simp [h1])) (fun _ _ => rfl)
    · intro m m' hm hm' hmm b hb
      obtain ⟨o, ho⟩ := Option.ne_none_iff_exists'.1 hm
      obtain ⟨o', ho'⟩ := Option.ne_none_iff_exists'.1 hm'
      have newb : ∀ n p, lkO n h' = some p → ∀ b, blk (g'.β n) = some b → ∀ k q, σ.obj k = some q → (∀ c ∈ ch, ρ c.1 ≠ k) → blk (g.β k) ≠ some b := by
        intro n p hp b hb k q hq hc hb'
        rcases H.own n (by simp [hp]) b hb with h | h
        · exact hblk k (by simp [hq]) hc b hb' h
        · have := R.lt (n := k) (by simp [hq]) b hb'; simp only at h; omega
      rcases hcase m o ho with ⟨h1, h2⟩ | ⟨n, p, h1, rfl, rfl⟩ <;> rcases hcase m' o' ho' with ⟨h3, h4⟩ | ⟨n', p', h3, rfl, rfl⟩
      · simp only at hb ⊢
        rw [hβo m (hrem m o h1 h2).2] at hb
        rw [hβo m' (hrem m' o' h3 h4).2]
        exact R.inj m m' (by simp [h1]) (by simp [h3]) hmm b hb
      · simp only at hb ⊢
        rw [hβo m (hrem m o h1 h2).2] at hb
        rw [hβn n' (by simp [h3])]
        exact fun h => newb n' p' h3 b h m o h1 h2 hb
      · simp only at hb ⊢
        rw [hβn n (by simp [h1])] at hb
        rw [hβo m' (hrem m' o' h3 h4).2]
        exact newb n p h1 b hb m' o' h3 h4
      · simp only at hb ⊢
        rw [hβn n (by simp [h1])] at hb
        rw [hβn n' (by simp [h3])]
        exact H.inj n n' (by simp [h1]) (by simp [h3]) (fun e => hmm (by rw [e])) b hb
    · intro m hm b hb hps
      obtain ⟨o, ho⟩ := Option.ne_none_iff_exists'.1 hm
      rcases hcase m o ho with ⟨h1, h2⟩ | ⟨n, p, h1, rfl, rfl⟩
      · simp only at hb hps
        rw [hβo m (hrem m o h1 h2).2] at hb
        have hlt := R.lt (n := m) (by simp [h1]) b hb
        rcases H.ps1 b hps hlt with h | h
        · exact R.disj m (by simp [h1]) b hb h
        · exact hblk m (by simp [h1]) h2 b hb h
      · simp only at hb hps
        rw [hβn n (by simp [h1])] at hb
        exact H.disj n (by simp [h1]) b hb hps
    · intro m hm b hb
      obtain ⟨o, ho⟩ := Option.ne_none_iff_exists'.1 hm
      rcases hcase m o ho with ⟨h1, h2⟩ | ⟨n, p, h1, rfl, rfl⟩
      · simp only at hb
        rw [hβo m (hrem m o h1 h2).2] at hb
        exact R.own m (by simp [h1]) b hb
      · simp only at hb
        rw [hβn n (by simp [h1])] at hb
        rcases H.own n (by simp [h1]) b hb with h | h
        · obtain ⟨m', h2, _, h3⟩ := hownc b h
          exact R.own m' h2 b h3
        · have h' : w.heap.size ≤ b := h
          have := R.keeps.size; right; omega
    · refine R.keeps.step H.keeps.os H.keeps.tape H.keeps.output H.keeps.size (fun b hb ha => H.keeps.block b (show b < w.heap.size by have := R.keeps.size; omega) (fun ho => ?_))
      obtain ⟨m', h2, _, h3⟩ := hownc b ho
      rcases R.own m' h2 b h3 with h | h
      · exact ha h
      · omega
    · rcases H.ps1 b hb (show b < w.heap.size by have := R.keeps.size; omega) with h | h
      · exact R.ps1 b h hlt
      · obtain ⟨m', h2, _, h3⟩ := hownc b h
        rcases R.own m' h2 b h3 with h | h
        · exact .inr h
        · omega
  refine hH.rel R.size R.defers (fun d => ?_) ?_
  rotate_left
  · intro m hm2 o ho
    rcases hcase m o ho with ⟨h1, h2⟩ | ⟨n, p, h1, rfl, rfl⟩
    · simp only
      rw [hβo m (hrem m o h1 h2).2]
      exact R.pin m hm2 o h1
    · simp only
      rw [hβn n (by simp [h1])]
      by_cases hnc : lkO n ch = none
      · exact absurd hm2 (K.new (n, p) (lkO_mem h1) hnc).2
      · obtain ⟨q, hq⟩ := Option.ne_none_iff_exists'.1 hnc
        have hp0 := R.pin (ρ n) hm2 _ (hch n q hq)
        revert hp0
        cases E.pin (ρ n) with
        | none => exact fun h => h
        | some r =>
          obtain ⟨r, v0⟩ := r
          cases r with
          | box t c =>
            rintro ⟨hv, cs, hcs⟩
            cases q with
            | arr => simp [OV.ren] at hcs
            | box t' cs' =>
              simp only [OV.ren, OV.box.injEq] at hcs
              obtain ⟨⟨cs'', h3⟩, h4⟩ := hbox n t' cs' hq (by simp [h1])
              rw [h1] at h3
              simp only [Option.some.injEq] at h3
              subst h3
              exact ⟨by rw [h4, hgc]; exact hv, _, by simp only [OV.ren, hcs.1]; rfl⟩
          | arr t sz c =>
            rintro ⟨cs, hcs, hl, hv⟩
            cases q with
            | box => simp [OV.ren] at hcs
            | arr t' sz' cs' =>
              simp only [OV.ren, OV.arr.injEq] at hcs
              obtain ⟨rfl, rfl, rfl⟩ := hcs
              obtain ⟨cs'', h3, h4, h5⟩ := harr n t' sz' cs' hq (by simp [h1])
              rw [h1] at h3
              simp only [Option.some.injEq] at h3
              subst h3
              simp only [renL_eq, List.length_map] at hl hv
              refine ⟨_, rfl, by rw [renL_eq, List.length_map]; omega, fun he => ?_⟩
              rw [renL_eq, List.length_map] at he
              rw [h5 (by omega), hgc]
              exact hv (by omega)
  have hget : St.get { t := afterT σ ds, h := afterH σ ρ ch h' } d = dropS ds (σ.get d) := lkS_map (dropS ds) (by simp [dropS, SV.names]) d σ.t
  rw [hget]
  unfold dropS
  split
  · exact .junk _
  · rename_i hany
    have := (R.slots d).ren hold hpsb (fun n hn hd => hany (List.any_eq_true.2 ⟨n, hn, by simpa using hd⟩))
    rw [SV.ren_id] at this
    exact this
end
end Go.VL
