/- The value-level logic, part 2: how a told state is kept when the machine's world changes. -/
import Derived.Test.YtckbenlmlikjoaaV1
set_option linter.unusedVariables false
set_option linter.unusedSimpArgs false
namespace Go.VL

/-- What is told stays true from one world, and one table of what is owned, to the next. -/
structure Ext (w : World) (g : Gh) (h : Nm → Option OV) (w' : World) (g' : Gh) (h' : Nm → Option OV) : Prop where
  ps : ∀ b, g.Ps b → g'.Ps b
  cell : ∀ b, g.Ps b → w'.heap[b]? = w.heap[b]?
  box : ∀ n t cs, h n = some (.box t cs) → ∃ cs', h' n = some (.box t cs') ∧ g'.β n = g.β n
  arr : ∀ n t sz cs, h n = some (.arr t sz cs) → ∃ cs', h' n = some (.arr t sz cs') ∧ cs.length ≤ cs'.length ∧ (cs.length = cs'.length → g'.β n = g.β n)

theorem SVRel.ext {w w' : World} {g g' : Gh} {h h' : Nm → Option OV} (X : Ext w g h w' g' h') {s : SV} {v : Value} (r : SVRel w g h s v) : SVRel w' g' h' s v := by
  induction r with
  | pv x v hx => exact .pv x v (hx.mono X.ps X.cell)
  | ref n off b t cs ho hb =>
    obtain ⟨cs', h1, h2⟩ := X.box n t cs ho
    exact .ref n off b t cs' h1 (h2.trans hb)
  | aref n off tag t sz cs v ho hg hb h1' =>
    obtain ⟨cs', h1, h2, h3⟩ := X.arr n t sz cs ho
    refine .aref n off tag t sz cs' v h1 (by omega) (fun ht => ?_) h1'
    rw [h3 (by omega)]
    exact hb (by omega)
  | arr n tag t sz cs v ho hg hb h1 =>
    obtain ⟨cs', h1', h2, h3⟩ := X.arr n t sz cs ho
    refine .arr n tag t sz cs' v h1' (by omega) (fun ht => ?_) h1
    rw [h3 (by omega)]
    exact hb (by omega)
  | clo f caps vs hl _ ih => exact .clo f caps vs hl ih
  | agg cs vs hl h1 _ ih => exact .agg cs vs hl h1 ih
  | tup cs vs hl _ ih => exact .tup cs vs hl ih
  | junk v => exact .junk v

theorem Cells.ext {w w' : World} {g g' : Gh} {h h' : Nm → Option OV} (X : Ext w g h w' g' h') {cs : List SV} {vs : List Value} (r : Cells w g h cs vs) : Cells w' g' h' cs vs :=
  ⟨r.1, r.2.1, fun k c v hc hv => (r.2.2 k c v hc hv).ext X⟩

theorem ownsRow_block {w w' : World} {e : TypeId} {sz : Nat} {v : Value} {n : Nat} {xs : List Value} (h : w.ownsRow 0 e sz v n xs) (hb : ∀ b, blk v = some b → w'.heap[b]? = w.heap[b]?) : w'.ownsRow 0 e sz v n xs := by
  refine ⟨h.1, ?_⟩
  rcases h.2 with hn | ⟨g, cap, cur, rfl, hg, hh, rest⟩
  · exact .inl hn
  · exact .inr ⟨g, cap, cur, rfl, hg, by rw [hb g rfl]; exact hh, rest⟩

theorem ownsRow_blk {w : World} {e : TypeId} {sz : Nat} {v : Value} {n : Nat} {xs : List Value} (h : w.ownsRow 0 e sz v n xs) : v.ownBlock = blk v := by
  rcases h.2 with ⟨rfl, _⟩ | ⟨g, cap, cur, rfl, _⟩ <;> rfl

/-- A thing whose own block is as it was. -/
theorem ObjRel.ext {w w' : World} {g g' : Gh} {h h' : Nm → Option OV} (X : Ext w g h w' g' h') {n : Nm} {o : OV} (r : ObjRel w g h n o) (hβ : g'.β n = g.β n)
    (hb : ∀ b, blk (g.β n) = some b → w'.heap[b]? = w.heap[b]?) : ObjRel w' g' h' n o := by
  cases o with
  | box t cs =>
    obtain ⟨b, cur, h1, h2, h3⟩ := r
    exact ⟨b, cur, hβ.trans h1, by rw [hb b (by rw [h1]; rfl)]; exact h2, h3.ext X⟩
  | arr t sz cs =>
    obtain ⟨h0, k, xs, h1, h2⟩ := r
    exact ⟨h0, k, xs, by rw [hβ]; exact ownsRow_block h1 hb, h2.ext X⟩

theorem ObjRel.lt {w : World} {g : Gh} {h : Nm → Option OV} {n : Nm} {o : OV} (r : ObjRel w g h n o) : ∀ b, blk (g.β n) = some b → b < w.heap.size := by
  intro b hb
  cases o with
  | box t cs =>
    obtain ⟨b', cur, h1, h2, h3⟩ := r
    rw [h1] at hb
    simp only [blk, Option.some.injEq] at hb
    subst hb
    exact (Array.getElem?_eq_some_iff.1 h2).1
  | arr t sz cs =>
    obtain ⟨h0, k, xs, h1, h2⟩ := r
    rcases h1.2 with ⟨hn, _⟩ | ⟨g', cap, cur, hv, hg, hh, rest⟩
    · rw [hn] at hb; simp [blk] at hb
    · rw [hv] at hb
      simp only [blk, Option.some.injEq] at hb
      subst hb
      exact (Array.getElem?_eq_some_iff.1 hh).1

section
variable {E : Env} {N : Nat} {g : Gh} {σ : St} {a : Act} {w : World}

theorem Rel.lt (R : Rel E N g σ a w) {n : Nm} (hn : σ.obj n ≠ none) : ∀ b, blk (g.β n) = some b → b < w.heap.size := by
  obtain ⟨o, ho⟩ := Option.ne_none_iff_exists'.1 hn
  exact (R.objs n o ho).lt

theorem put_getD (a : Act) (d e : Nat) (v : Value) (hd : d < a.tmps.size) : (a.put (some d) v).tmps.getD e undef = if d = e then v else a.tmps.getD e undef := by
  simp only [Act.put, Array.getD_eq_getD_getElem?, Array.getElem?_setIfInBounds]
  by_cases h : d = e
  · subst h; simp [hd]
  · simp [h]

theorem PinOk.ext {w w' : World} {g g' : Gh} {h h' : Nm → Option OV} {p : Option (OV × Value)} {n : Nm} {o0 o : OV} (hp : PinOk p (g.β n) o0) (X : Ext w g h w' g' h') (h0 : h n = some o0) (h1 : h' n = some o) : PinOk p (g'.β n) o := by
  cases p with
  | none => exact hp
  | some q =>
    obtain ⟨q, v0⟩ := q
    cases q with
    | box t c =>
      obtain ⟨hv, cs, rfl⟩ := hp
      obtain ⟨cs', h2, h3⟩ := X.box n t cs h0
      rw [h1] at h2
      exact ⟨h3.trans hv, cs', by simpa using h2⟩
    | arr t sz c =>
      obtain ⟨cs, rfl, hl, hv⟩ := hp
      obtain ⟨cs', h2, h3, h4⟩ := X.arr n t sz cs h0
      rw [h1] at h2
      exact ⟨cs', by simpa using h2, by omega, fun he => (h4 (by omega)).trans (hv (by omega))⟩

/-- A slot is written. -/
theorem Rel.set (R : Rel E N g σ a w) {d : Nat} (hd : d < N) {s : SV} {v : Value} (hs : SVRel w g σ.obj s v) : Rel E N g (σ.set d s) (a.put (some d) v) w where
  size := by simp [Act.put, R.size]
  defers := R.defers
  slots := fun e => by
    rw [put_getD a d e v (by rw [R.size]; exact hd)]
    by_cases h : d = e
    · subst h; rw [if_pos rfl, St.get_set_same]; exact hs
    · rw [if_neg h, St.get_set_other σ d e s h]; exact R.slots e
  objs := R.objs
  inj := R.inj
  disj := R.disj
  own := R.own
  keeps := R.keeps
  ps0 := R.ps0
  ps1 := R.ps1
  psb := R.psb
  pin := R.pin

/-- Whatever comes into a slot may be forgotten. -/
theorem Rel.junk (R : Rel E N g σ a w) {d : Nat} (hd : d < N) (v : Value) : Rel E N g (σ.set d .junk) (a.put (some d) v) w := R.set hd (.junk v)

/-- The world has changed; slots are as they were. -/
theorem Rel.change (R : Rel E N g σ a w) {w' : World} {g' : Gh} {h' : List (Nm × OV)}
    (X : Ext w g σ.obj w' g' (fun n => lkO n h')) (objs : ∀ n o, lkO n h' = some o → ObjRel w' g' (fun n => lkO n h') n o)
    (inj : ∀ n m, lkO n h' ≠ none → lkO m h' ≠ none → n ≠ m → ∀ b, blk (g'.β n) = some b → blk (g'.β m) ≠ some b)
    (disj : ∀ n, lkO n h' ≠ none → ∀ b, blk (g'.β n) = some b → ¬ g'.Ps b)
    (own : ∀ n, lkO n h' ≠ none → ∀ b, blk (g'.β n) = some b → E.A b ∨ E.w0.heap.size ≤ b)
    (keeps : Keeps E.w0 w' E.A) (ps1 : ∀ b, g'.Ps b → b < E.w0.heap.size → E.P0 b ∨ E.A b) (psb : ∀ b, g'.Ps b → b < w'.heap.size) (hnew : ∀ n, lkO n h' ≠ none → σ.obj n ≠ none ∨ n.length ≠ 2 := by exact fun n hn => .inl hn) :
    Rel E N g' { σ with h := h' } a w' where
  size := R.size
  defers := R.defers
  slots := fun d => (R.slots d).ext X
  objs := objs
  inj := inj
  disj := disj
  own := own
  keeps := keeps
  ps0 := fun b hb => X.ps b (R.ps0 b hb)
  ps1 := ps1
  psb := psb
  pin := fun n hn o ho => by
    rcases hnew n (by rw [show lkO n h' = some o from ho]; simp) with h | h
    · obtain ⟨o0, ho0⟩ := Option.ne_none_iff_exists'.1 h
      have h0 := R.pin n hn o0 ho0
      have ho' : lkO n h' = some o := ho
      exact h0.ext X ho0 ho'
    · exact absurd hn h

theorem Keeps.refl (w : World) (A : Nat → Prop) : Keeps w w A := ⟨rfl, rfl, rfl, Nat.le_refl _, fun _ _ _ => rfl⟩
theorem Keeps.step {w w1 w2 : World} {A : Nat → Prop} (k : Keeps w w1 A) (os : w2.os = w1.os) (tape : w2.tape = w1.tape) (output : w2.output = w1.output)
    (size : w1.heap.size ≤ w2.heap.size) (block : ∀ b, b < w.heap.size → ¬ A b → w2.heap[b]? = w1.heap[b]?) : Keeps w w2 A :=
  ⟨os.trans k.os, tape.trans k.tape, output.trans k.output, Nat.le_trans k.size size, fun b hb ha => (block b hb ha).trans (k.block b hb ha)⟩

theorem Ext.refl (w : World) (g : Gh) (h : Nm → Option OV) : Ext w g h w g h :=
  ⟨fun _ h => h, fun _ _ => rfl, fun n t cs h => ⟨cs, h, rfl⟩, fun n t sz cs h => ⟨cs, h, Nat.le_refl _, fun _ => rfl⟩⟩

theorem heap_alloc (w : World) (o : Obj) (k : Nat) (h : k < w.heap.size) : (w.alloc o).heap[k]? = w.heap[k]? := by
  show (w.heap.push o)[k]? = _
  rw [Array.getElem?_push, if_neg (by omega)]
theorem heap_alloc_self (w : World) (o : Obj) : (w.alloc o).heap[w.heap.size]? = some o := by
  show (w.heap.push o)[w.heap.size]? = _
  rw [Array.getElem?_push, if_pos rfl]
theorem size_alloc (w : World) (o : Obj) : (w.alloc o).heap.size = w.heap.size + 1 := by simp

/-- A draw turns nothing that is told. -/
theorem Rel.drew (R : Rel E N g σ a w) : Rel E N g σ a w.drew := by
  have X : Ext w g σ.obj w.drew g (fun n => lkO n σ.h) := ⟨fun _ h => h, fun _ _ => rfl, fun n t cs h => ⟨cs, h, rfl⟩, fun n t sz cs h => ⟨cs, h, Nat.le_refl _, fun _ => rfl⟩⟩
  exact R.change (h' := σ.h) X (fun n o ho => (R.objs n o ho).ext X rfl (fun _ _ => rfl)) R.inj R.disj R.own
    (R.keeps.step rfl rfl rfl (Nat.le_refl _) (fun _ _ _ => rfl)) R.ps1 R.psb

/-- A new block that the frame owns. -/
theorem Rel.new (R : Rel E N g σ a w) {n : Nm} (hn2 : n.length ≠ 2) (hn : σ.obj n = none) {o : OV} {v : Value} {ob : Obj} (hv : blk v = some w.heap.size)
    (ho : ∀ g', g' = ({ β := fun m => if m = n then v else g.β m, Ps := g.Ps } : Gh) → Ext w g σ.obj (w.alloc ob) g' ((σ.put n o).obj) → ObjRel (w.alloc ob) g' ((σ.put n o).obj) n o) :
    ∃ g', g'.β n = v ∧ Ext w g σ.obj (w.alloc ob) g' ((σ.put n o).obj) ∧ Rel E N g' (σ.put n o) a (w.alloc ob) := by
  have hne : ∀ m, σ.obj m ≠ none → m ≠ n := fun m hm e => hm (e ▸ hn)
  have X : Ext w g σ.obj (w.alloc ob) { β := fun m => if m = n then v else g.β m, Ps := g.Ps } ((σ.put n o).obj) :=
    ⟨fun _ h => h, fun b hb => heap_alloc w ob b (R.psb b hb),
     fun m t cs h => ⟨cs, by rw [St.obj_put, if_neg (fun e => hne m (by simp [h]) e.symm)]; exact h, by simp only; rw [if_neg (hne m (by simp [h]))]⟩,
     fun m t sz cs h => ⟨cs, by rw [St.obj_put, if_neg (fun e => hne m (by simp [h]) e.symm)]; exact h, Nat.le_refl _, fun _ => by simp only; rw [if_neg (hne m (by simp [h]))]⟩⟩
  refine ⟨{ β := fun m => if m = n then v else g.β m, Ps := g.Ps }, by simp, X, ?_⟩
  have hold : ∀ m, (σ.put n o).obj m ≠ none → m ≠ n → σ.obj m ≠ none := fun m hm hmn => by
    rw [St.obj_put, if_neg (fun e => hmn e.symm)] at hm; exact hm
  refine R.change (h' := (σ.put n o).h) X (fun m p hp => ?_) ?_ ?_ ?_ ?_ R.ps1 (fun b hb => by have := R.psb b hb; rw [size_alloc]; omega) (fun m hm => (by by_cases hmn : m = n; (subst hmn; exact .inr hn2); exact .inl (hold m hm hmn)))
  · have hp' : (σ.put n o).obj m = some p := hp
    rw [St.obj_put] at hp'
    by_cases hm : n = m
    · subst hm
      simp only [if_true, Option.some.injEq] at hp'
      subst hp'
      exact ho _ rfl X
    · rw [if_neg hm] at hp'
      refine (R.objs m p hp').ext X (by simp only; rw [if_neg (fun e => hm e.symm)]) (fun b hb => heap_alloc w ob b ((R.objs m p hp').lt b hb))
  · intro m m' hm hm' hmm b hb
    by_cases h1 : m = n
    · subst h1
      simp only [if_true] at hb
      have h2 : m' ≠ m := fun e => hmm e.symm
      simp only [if_neg h2]
      intro hb'
      have := R.lt (hold m' hm' h2) b hb'
      rw [hv] at hb
      simp only [Option.some.injEq] at hb
      omega
    · simp only [if_neg h1] at hb
      by_cases h2 : m' = n
      · subst h2
        simp only [if_true]
        intro hb'
        have := R.lt (hold m hm h1) b hb
        rw [hv] at hb'
        simp only [Option.some.injEq] at hb'
        omega
      · simp only [if_neg h2]
        exact R.inj m m' (hold m hm h1) (hold m' hm' h2) hmm b hb
  · intro m hm b hb
    by_cases h1 : m = n
    · subst h1
      simp only [if_true] at hb
      rw [hv] at hb
      simp only [Option.some.injEq] at hb
      intro hps
      have := R.psb b hps
      omega
    · simp only [if_neg h1] at hb
      exact R.disj m (hold m hm h1) b hb
  · intro m hm b hb
    by_cases h1 : m = n
    · subst h1
      simp only [if_true] at hb
      rw [hv] at hb
      simp only [Option.some.injEq] at hb
      right
      have := R.keeps.size
      omega
    · simp only [if_neg h1] at hb
      exact R.own m (hold m hm h1) b hb
  · exact R.keeps.step rfl rfl rfl (by rw [size_alloc]; omega) (fun b hb _ => heap_alloc w ob b (by have := R.keeps.size; omega))

/-- A block that the frame owns is written: all else is as it was. -/
theorem Rel.write (R : Rel E N g σ a w) {n : Nm} {o o' : OV} (hn : σ.obj n = some o) {w' : World} (hos : w'.os = w.os) (htape : w'.tape = w.tape) (hout : w'.output = w.output) (hsz : w'.heap.size = w.heap.size)
    (hbk : ∀ b, blk (g.β n) ≠ some b → w'.heap[b]? = w.heap[b]?)
    (hbox : ∀ t cs, o = .box t cs → ∃ cs', o' = .box t cs') (harr : ∀ t sz cs, o = .arr t sz cs → ∃ cs', o' = .arr t sz cs' ∧ cs.length = cs'.length)
    (ho : Ext w g σ.obj w' g ((σ.put n o').obj) → ObjRel w' g ((σ.put n o').obj) n o') : Ext w g σ.obj w' g ((σ.put n o').obj) ∧ Rel E N g (σ.put n o') a w' := by
  have hnn : σ.obj n ≠ none := by simp [hn]
  have X : Ext w g σ.obj w' g ((σ.put n o').obj) := by
    refine ⟨fun _ h => h, fun b hb => hbk b (fun e => R.disj n hnn b e hb), fun m t cs h => ?_, fun m t sz cs h => ?_⟩
    · rw [St.obj_put]
      by_cases hm : n = m
      · subst hm
        rw [hn] at h
        obtain ⟨cs', h'⟩ := hbox t cs (by simpa using h)
        exact ⟨cs', by simp [h'], rfl⟩
      · rw [if_neg hm]; exact ⟨cs, h, rfl⟩
    · rw [St.obj_put]
      by_cases hm : n = m
      · subst hm
        rw [hn] at h
        obtain ⟨cs', h', hl⟩ := harr t sz cs (by simpa using h)
        exact ⟨cs', by simp [h'], by omega, fun _ => rfl⟩
      · rw [if_neg hm]; exact ⟨cs, h, Nat.le_refl _, fun _ => rfl⟩
  refine ⟨X, ?_⟩
  have hold : ∀ m, (σ.put n o').obj m ≠ none → σ.obj m ≠ none := fun m hm => by
    rw [St.obj_put] at hm
    by_cases h : n = m
    · subst h; exact hnn
    · rw [if_neg h] at hm; exact hm
  refine R.change (h' := (σ.put n o').h) X (fun m p hp => ?_) (fun m m' hm hm' => R.inj m m' (hold m hm) (hold m' hm')) (fun m hm => R.disj m (hold m hm)) (fun m hm => R.own m (hold m hm)) ?_ R.ps1 (fun b hb => by rw [hsz]; exact R.psb b hb) (fun m hm => .inl (hold m hm))
  · have hp' : (σ.put n o').obj m = some p := hp
    rw [St.obj_put] at hp'
    by_cases hm : n = m
    · subst hm
      simp only [if_true, Option.some.injEq] at hp'
      subst hp'
      exact ho X
    · rw [if_neg hm] at hp'
      exact (R.objs m p hp').ext X rfl (fun b hb => hbk b (fun e => R.inj n m hnn (by simp [hp']) hm b e hb))
  · refine R.keeps.step hos htape hout (by omega) (fun b hb ha => hbk b (fun e => ?_))
    rcases R.own n hnn b e with h | h
    · exact ha h
    · omega
end
end Go.VL
