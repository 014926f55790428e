/- The value-level logic, the engine, part 7: states told otherwise: what is nil told as a list or as an array of nothing; loops whose ends are told otherwise. -/
import Derived.Test.YtckbenlmlikjoaaE6
set_option linter.unusedVariables false
set_option linter.unusedSimpArgs false
namespace Go.VL

/-- The same, told more widely. -/
inductive UpV (n : Option Nm) : SV → SV → Prop
  | refl (s : SV) : UpV n s s
  | sub (a b : PV) (h : SubP a b) : UpV n (.pv a) (.pv b)
  | nil (m : Nm) (h : n = some m) : UpV n (.pv .nilS) (.arr m 0)
inductive UpL (n : Option Nm) : List SV → List SV → Prop
  | nil : UpL n [] []
  | cons (a b : SV) (as bs : List SV) (h : UpV n a b) (h' : UpL n as bs) : UpL n (a :: as) (b :: bs)
theorem UpL.refl {n : Option Nm} : ∀ l, UpL n l l
  | [] => .nil
  | a :: r => .cons _ _ _ _ (.refl a) (UpL.refl r)
inductive UpO (n : Option Nm) : OV → OV → Prop
  | refl (o : OV) : UpO n o o
  | box (t : TypeId) (cs ds : List SV) (h : UpL n cs ds) : UpO n (.box t cs) (.box t ds)
inductive UpH (n : Option Nm) : List (Nm × OV) → List (Nm × OV) → Prop
  | nil : UpH n [] []
  | cons (m : Nm) (a b : OV) (as bs : List (Nm × OV)) (h : UpO n a b) (h' : UpH n as bs) : UpH n ((m, a) :: as) ((m, b) :: bs)
inductive UpX (n : Option Nm) : XV → XV → Prop
  | refl (x : XV) : UpX n x x
  | v (a b : SV) (h : UpV n a b) : UpX n (.v a) (.v b)
inductive UpT (n : Option Nm) : List (Nat × XV) → List (Nat × XV) → Prop
  | nil : UpT n [] []
  | cons (d : Nat) (a b : XV) (as bs : List (Nat × XV)) (h : UpX n a b) (h' : UpT n as bs) : UpT n ((d, a) :: as) ((d, b) :: bs)
theorem UpL.get {n : Option Nm} {as bs : List SV} (h : UpL n as bs) : as.length = bs.length ∧ ∀ (k : Nat) b, bs[k]? = some b → ∃ a, as[k]? = some a ∧ UpV n a b := by
  induction h with
  | nil => exact ⟨rfl, fun k b h => by simp at h⟩
  | cons a b as bs h _ ih =>
    refine ⟨by simp [ih.1], fun k x hx => ?_⟩
    cases k with
    | zero => simp at hx; subst hx; exact ⟨a, rfl, h⟩
    | succ k => simpa using ih.2 k x (by simpa using hx)
theorem UpX.den {n : Option Nm} {a b : XV} (h : UpX n a b) : UpV n a.den b.den := by
  cases h with
  | refl => exact .refl _
  | v _ _ h => exact h
theorem UpT.get {n : Option Nm} {as bs : List (Nat × XV)} (h : UpT n as bs) (d : Nat) : UpV n (lkS d (denT as)) (lkS d (denT bs)) := by
  induction h with
  | nil => exact .refl _
  | cons e a b as bs h _ ih =>
    simp only [denT, lkS]
    split
    · exact h.den
    · exact ih
theorem UpH.get {n : Option Nm} {as bs : List (Nm × OV)} (h : UpH n as bs) (m : Nm) : (lkO m as = none ∧ lkO m bs = none) ∨ ∃ a b, lkO m as = some a ∧ lkO m bs = some b ∧ UpO n a b := by
  induction h with
  | nil => exact .inl ⟨rfl, rfl⟩
  | cons e a b as bs h _ ih =>
    simp only [lkO]
    by_cases he : e = m
    · rw [if_pos he, if_pos he]; exact .inr ⟨a, b, rfl, rfl, h⟩
    · rw [if_neg he, if_neg he]; exact ih
theorem UpV.rel {n : Option Nm} {w : World} {g : Gh} {h : Nm → Option OV} {s s' : SV} {v : Value} (u : UpV n s s') (r : SVRel w g h s v) (hn : ∀ m, n = some m → (∃ t sz, h m = some (.arr t sz [])) ∧ g.β m = .slice none 0 0) : SVRel w g h s' v := by
  cases u with
  | refl => exact r
  | sub a b hs => exact .pv _ _ (SubP.rel r.pv_inv b hs)
  | nil m hm =>
    have := r.nilS
    subst this
    obtain ⟨⟨t, sz, ho⟩, hb⟩ := hn m hm
    exact .arr m 0 t sz [] _ ho (Nat.le_refl _) (fun _ => hb.symm) rfl
/-- What is nil is told as an array of nothing; what is told is told more widely. -/
theorem Rel.up {E : Env} {N : Nat} {g : Gh} {X Y : XS} {hs : List (Nm × OV)} {a : Act} {w : World} {n : Nm} {t : TypeId} {sz : Nat} (R : Rel E N g X.den a w) (hT : UpT (some n) X.t Y.t) (hH : UpH (some n) X.h hs) (hY : Y.h = hs ++ [(n, .arr t sz [])]) (hn : lkO n X.h = none) (hl : n.length ≠ 2) (hz : 0 < sz) :
    Rel E N { β := fun m => if m = n then .slice none 0 0 else g.β m, Ps := g.Ps } Y.den a w := by
  have hns : lkO n hs = none := by
    rcases hH.get n with ⟨_, h⟩ | ⟨a, b, h, _⟩
    · exact h
    · rw [hn] at h; cases h
  have hYn : Y.den.obj n = some (.arr t sz []) := by
    show lkO n Y.h = _
    rw [hY, lkO_append, hns]; simp [lkO]
  have hYm : ∀ m, m ≠ n → Y.den.obj m = lkO m hs := by
    intro m hm
    show lkO m Y.h = _
    rw [hY, lkO_append]
    cases h : lkO m hs with
    | some o => rfl
    | none => simp [lkO, Ne.symm hm]
  have hgt : ∀ m b, m ≠ n → Y.den.obj m = some b → ∃ a, X.den.obj m = some a ∧ UpO (some n) a b := by
    intro m b hm hb
    rw [hYm m hm] at hb
    rcases hH.get m with ⟨_, h⟩ | ⟨a, b', h1, h2, h3⟩
    · rw [h] at hb; cases hb
    · rw [h2] at hb; cases hb; exact ⟨a, h1, h3⟩
  have hne : ∀ m, m ≠ n → Y.den.obj m ≠ none → X.den.obj m ≠ none := by
    intro m hm h
    obtain ⟨b, hb⟩ := Option.ne_none_iff_exists'.1 h
    obtain ⟨a, ha, _⟩ := hgt m b hm hb
    rw [ha]; simp
  have hXn : ∀ m, X.den.obj m ≠ none → m ≠ n := by
    rintro m h rfl
    exact h hn
  let g' : Gh := { β := fun m => if m = n then .slice none 0 0 else g.β m, Ps := g.Ps }
  have hβ : ∀ m, m ≠ n → g'.β m = g.β m := fun m hm => if_neg hm
  have hβn : g'.β n = .slice none 0 0 := if_pos rfl
  have hfw : ∀ m a, X.den.obj m = some a → ∃ b, Y.den.obj m = some b ∧ UpO (some n) a b := by
    intro m a ha
    have hm := hXn m (by rw [ha]; simp)
    rw [hYm m hm]
    rcases hH.get m with ⟨h, _⟩ | ⟨a', b', h1, h2, h3⟩
    · have : lkO m X.h = some a := ha
      rw [h] at this; cases this
    · have : lkO m X.h = some a := ha
      rw [h1] at this; cases this; exact ⟨b', h2, h3⟩
  have XR : Ren w g X.den.obj g' Y.den.obj id (fun _ => True) := by
    refine ⟨fun _ h => h, fun m t cs _ ho => ?_, fun m t sz cs _ ho => ?_⟩
    · obtain ⟨b, hb, hu⟩ := hfw m _ ho
      have hm := hXn m (by rw [ho]; simp)
      cases hu with
      | refl => exact ⟨cs, hb, hβ m hm⟩
      | box _ _ ds _ => exact ⟨ds, hb, hβ m hm⟩
    · obtain ⟨b, hb, hu⟩ := hfw m _ ho
      have hm := hXn m (by rw [ho]; simp)
      cases hu with
      | refl => exact ⟨cs, hb, Nat.le_refl _, fun _ => hβ m hm⟩
  have hup : ∀ {s s' : SV} {v : Value}, UpV (some n) s s' → SVRel w g X.den.obj s v → SVRel w g' Y.den.obj s' v := by
    intro s s' v u r
    have r1 := r.ren XR (fun _ _ => rfl) (fun _ _ => trivial)
    rw [SV.ren_id] at r1
    exact u.rel r1 (fun m hm => by cases hm; exact ⟨⟨t, sz, hYn⟩, hβn⟩)
  have hcells : ∀ {cs ds : List SV} {vs : List Value}, UpL (some n) cs ds → Cells w g X.den.obj cs vs → Cells w g' Y.den.obj ds vs := by
    intro cs ds vs u r
    refine ⟨by rw [← u.get.1]; exact r.1, r.2.1, fun k c v hc hv => ?_⟩
    obtain ⟨a, ha, hu⟩ := u.get.2 k c hc
    exact hup hu (r.2.2 k a v ha hv)
  refine ⟨R.size, R.defers, fun d => hup (hT.get d) (R.slots d), fun m o ho => ?_, fun m k hm hk hmk b hb => ?_, fun m hm b hb => ?_, fun m hm b hb => ?_, R.keeps, R.ps0, R.ps1, R.psb, fun m hm2 o ho => ?_⟩
  · by_cases hm : m = n
    · subst hm
      rw [hYn] at ho; cases ho
      exact ⟨hz, 0, [], ⟨by simp, .inl ⟨hβn, rfl⟩⟩, rfl, by simp, by simp⟩
    · obtain ⟨a, ha, hu⟩ := hgt m o hm ho
      have r0 := R.objs m a ha
      cases hu with
      | refl =>
        have := r0.ren XR (fun _ _ => rfl) (fun _ _ => trivial) (hβ m hm) (fun _ _ => rfl)
        rwa [OV.ren_id] at this
      | box t cs ds u =>
        obtain ⟨b, cur, h1, h2, h3⟩ := r0
        exact ⟨b, cur, (hβ m hm).trans h1, h2, hcells u h3⟩
  · by_cases h1 : m = n
    · subst h1; change blk (g'.β m) = some b at hb; rw [hβn] at hb; cases hb
    · by_cases h2 : k = n
      · subst h2
        show blk (g'.β k) ≠ some b
        rw [hβn]; simp [blk]
      · have hb' : blk (g.β m) = some b := by rw [← hβ m h1]; exact hb
        show blk (g'.β k) ≠ some b
        rw [hβ k h2]
        exact R.inj m k (hne m h1 hm) (hne k h2 hk) hmk b hb'
  · by_cases h1 : m = n
    · subst h1; change blk (g'.β m) = some b at hb; rw [hβn] at hb; cases hb
    · have hb' : blk (g.β m) = some b := by rw [← hβ m h1]; exact hb
      exact R.disj m (hne m h1 hm) b hb'
  · by_cases h1 : m = n
    · subst h1; change blk (g'.β m) = some b at hb; rw [hβn] at hb; cases hb
    · have hb' : blk (g.β m) = some b := by rw [← hβ m h1]; exact hb
      exact R.own m (hne m h1 hm) b hb'
  · by_cases h1 : m = n
    · subst h1; exact absurd hm2 hl
    · obtain ⟨a, ha, hu⟩ := hgt m o h1 ho
      have := R.pin m hm2 a ha
      show PinOk (E.pin m) (g'.β m) o
      rw [hβ m h1]
      cases hu with
      | refl => exact this
      | box t cs ds u =>
        revert this
        cases E.pin m with
        | none => exact fun h => h
        | some r =>
          obtain ⟨r, v0⟩ := r
          cases r with
          | box t c => rintro ⟨hv, cs', e⟩; cases e; exact ⟨hv, _, rfl⟩
          | arr t sz c => rintro ⟨cs', e, _⟩; cases e
theorem Rel.sub {E : Env} {N : Nat} {g : Gh} {X Y : XS} {a : Act} {w : World} (R : Rel E N g X.den a w) (hT : UpT none X.t Y.t) (hH : UpH none X.h Y.h) : Rel E N g Y.den a w := by
  have hgt : ∀ m b, Y.den.obj m = some b → ∃ a, X.den.obj m = some a ∧ UpO none a b := by
    intro m b hb
    rcases hH.get m with ⟨_, h⟩ | ⟨a, b', h1, h2, h3⟩
    · have : lkO m Y.h = some b := hb
      rw [h] at this; cases this
    · have : lkO m Y.h = some b := hb
      rw [h2] at this; cases this; exact ⟨a, h1, h3⟩
  have hne : ∀ m, Y.den.obj m ≠ none → X.den.obj m ≠ none := by
    intro m h
    obtain ⟨b, hb⟩ := Option.ne_none_iff_exists'.1 h
    obtain ⟨a, ha, _⟩ := hgt m b hb
    rw [ha]; simp
  have hfw : ∀ m a, X.den.obj m = some a → ∃ b, Y.den.obj m = some b ∧ UpO none a b := by
    intro m a ha
    rcases hH.get m with ⟨h, _⟩ | ⟨a', b', h1, h2, h3⟩
    · have : lkO m X.h = some a := ha
      rw [h] at this; cases this
    · have : lkO m X.h = some a := ha
      rw [h1] at this; cases this; exact ⟨b', h2, h3⟩
  have XR : Ren w g X.den.obj g Y.den.obj id (fun _ => True) := by
    refine ⟨fun _ h => h, fun m t cs _ ho => ?_, fun m t sz cs _ ho => ?_⟩
    · obtain ⟨b, hb, hu⟩ := hfw m _ ho
      cases hu with
      | refl => exact ⟨cs, hb, rfl⟩
      | box _ _ ds _ => exact ⟨ds, hb, rfl⟩
    · obtain ⟨b, hb, hu⟩ := hfw m _ ho
      cases hu with
      | refl => exact ⟨cs, hb, Nat.le_refl _, fun _ => rfl⟩
  have hup : ∀ {s s' : SV} {v : Value}, UpV none s s' → SVRel w g X.den.obj s v → SVRel w g Y.den.obj s' v := by
    intro s s' v u r
    have r1 := r.ren XR (fun _ _ => rfl) (fun _ _ => trivial)
    rw [SV.ren_id] at r1
    exact u.rel r1 (fun m hm => by cases hm)
  refine ⟨R.size, R.defers, fun d => hup (hT.get d) (R.slots d), fun m o ho => ?_, fun m k hm hk => R.inj m k (hne m hm) (hne k hk), fun m hm => R.disj m (hne m hm), fun m hm => R.own m (hne m hm), R.keeps, R.ps0, R.ps1, R.psb, fun m hm2 o ho => ?_⟩
  · obtain ⟨a, ha, hu⟩ := hgt m o ho
    have r0 := R.objs m a ha
    cases hu with
    | refl =>
      have := r0.ren XR (fun _ _ => rfl) (fun _ _ => trivial) rfl (fun _ _ => rfl)
      rwa [OV.ren_id] at this
    | box t cs ds u =>
      obtain ⟨b, cur, h1, h2, h3⟩ := r0
      refine ⟨b, cur, h1, h2, by rw [← u.get.1]; exact h3.1, h3.2.1, fun k c v hc hv => ?_⟩
      obtain ⟨a, ha, hu⟩ := u.get.2 k c hc
      exact hup hu (h3.2.2 k a v ha hv)
  · obtain ⟨a, ha, hu⟩ := hgt m o ho
    have := R.pin m hm2 a ha
    cases hu with
    | refl => exact this
    | box t cs ds u =>
      revert this
      cases E.pin m with
      | none => exact fun h => h
      | some r =>
        obtain ⟨r, v0⟩ := r
        cases r with
        | box t c => rintro ⟨hv, cs', e⟩; cases e; exact ⟨hv, _, rfl⟩
        | arr t sz c => rintro ⟨cs', e, _⟩; cases e
theorem wk_sub {N : Nat} {X Y : XS} (hT : UpT none X.t Y.t) (hH : UpH none X.h Y.h) : Wk N X.den Y.den := fun E g a w R => ⟨g, R.sub hT hH⟩
theorem wk_up {N : Nat} {X Y : XS} {hs : List (Nm × OV)} (n : Nm) (t : TypeId) (sz : Nat) (hT : UpT (some n) X.t Y.t) (hH : UpH (some n) X.h hs) (hY : Y.h = hs ++ [(n, .arr t sz [])]) (hn : lkOK n X.h (fun _ => False) True) (hl : n.length ≠ 2) (hz : 0 < sz) : Wk N X.den Y.den := by
  have hn' : lkO n X.h = none := by
    rcases lkOK_sound hn with ⟨_, _, h⟩ | ⟨h, _⟩
    · exact h.elim
    · exact h
  exact fun E g a w R => ⟨_, R.up hT hH hY hn' hl hz⟩
/-- The steps of such a telling. -/
theorem ups {p : Prop} (h : p := by
  repeat (first
    | exact UpT.nil | exact UpH.nil | exact UpL.nil | exact UpL.refl _
    | refine UpT.cons _ _ _ _ _ ?_ ?_ | refine UpH.cons _ _ _ _ _ ?_ ?_ | refine UpL.cons _ _ _ _ ?_ ?_
    | exact UpX.refl _ | refine UpX.v _ _ ?_
    | exact UpO.refl _ | refine UpO.box _ _ _ ?_
    | exact UpV.refl _ | exact UpV.nil _ rfl | refine UpV.sub _ _ ?_
    | exact SubP.refl _ | exact SubP.nil _ | exact SubP.empty _ | exact sub_nil_map _ _ | refine SubP.agg _ _ ?_ | exact SubPL.nil | refine SubPL.cons _ _ _ _ ?_ ?_)) : p := h
/-- Behind a loop: what is told may be told otherwise. -/
theorem xl_post {C : Cx} {b : VC} {X : XS} {Q : VE → XS → Prop} (h : XL C b X fun e Y => ∃ Z : XS, Wk C.N Y.den Z.den ∧ Q e Z) : XL C b X Q :=
  ⟨⟨vt_mono h.out.out fun e σ ⟨Y, h1, Z, h2, h3⟩ => ⟨Z, h1.trans h2, h3⟩⟩⟩
theorem flat_len {α : Type} {c : α → List PV} {f : α → PV} (hf : ∀ x, (f x).cells = c x) (l : List α) : (arrC c l).length = (flat (l.map f)).length := by rw [arrC_flat hf]; simp
/-- What becomes of each place when a thing becomes immutable. -/
inductive FrV (n : Nm) (f : Fz) : SV → SV → Prop
  | pv (x : PV) : FrV n f (.pv x) (.pv x)
  | hitA (sz : Nat) (xs : List PV) (T : Nat) (hf : f = .arr sz xs) (hT : T = (flat xs).length) : FrV n f (.arr n T) (.pv (.list sz xs))
  | hitB (cs : List PV) (off : Nat) (hf : f = .box cs) : FrV n f (.ref n off) (.pv (.ptr (cs.drop off)))
  | arr (m : Nm) (t : Nat) (h : eqNm m n = false) : FrV n f (.arr m t) (.arr m t)
  | ref (m : Nm) (t : Nat) (h : eqNm m n = false) : FrV n f (.ref m t) (.ref m t)
  | aref (m : Nm) (o t : Nat) (h : eqNm m n = false) : FrV n f (.aref m o t) (.aref m o t)
inductive FrL (n : Nm) (f : Fz) : List SV → List SV → Prop
  | nil : FrL n f [] []
  | cons (a b : SV) (as bs : List SV) (h : FrV n f a b) (h' : FrL n f as bs) : FrL n f (a :: as) (b :: bs)
  | arrC {α : Type} (c : α → List PV) (l : List α) : FrL n f (arrC c l) (arrC c l)
inductive FrO (n : Nm) (f : Fz) : OV → OV → Prop
  | box (t : TypeId) (cs ds : List SV) (h : FrL n f cs ds) : FrO n f (.box t cs) (.box t ds)
  | arr (t : TypeId) (sz : Nat) (cs ds : List SV) (h : FrL n f cs ds) : FrO n f (.arr t sz cs) (.arr t sz ds)
inductive FrH (n : Nm) (f : Fz) : List (Nm × OV) → List (Nm × OV) → Prop
  | nil : FrH n f [] []
  | here (o : OV) (as bs : List (Nm × OV)) (h : FrH n f as bs) : FrH n f ((n, o) :: as) bs
  | cons (m : Nm) (a b : OV) (as bs : List (Nm × OV)) (hm : eqNm m n = false) (h : FrO n f a b) (h' : FrH n f as bs) : FrH n f ((m, a) :: as) ((m, b) :: bs)
inductive FrX (n : Nm) (f : Fz) : XV → XV → Prop
  | v (a b : SV) (h : FrV n f a b) : FrX n f (.v a) (.v b)
  | c (t : Bool) (a b : SV) (h : FrV n f a b) : FrX n f (.c t a) (.c t b)
inductive FrT (n : Nm) (f : Fz) : List (Nat × XV) → List (Nat × XV) → Prop
  | nil : FrT n f [] []
  | cons (d : Nat) (a b : XV) (as bs : List (Nat × XV)) (h : FrX n f a b) (h' : FrT n f as bs) : FrT n f ((d, a) :: as) ((d, b) :: bs)
theorem eqNm_ne {m n : Nm} (h : eqNm m n = false) : m ≠ n := fun e => by rw [(eqNm_iff m n).2 e] at h; cases h
theorem frL_pv {n : Nm} {f : Fz} (l : List PV) : frL n f (l.map SV.pv) = l.map SV.pv := by
  induction l with
  | nil => rfl
  | cons a r ih => rw [List.map_cons, frL, ih]; rfl
theorem arrC_pv {α : Type} (c : α → List PV) (l : List α) : arrC c l = (l.flatMap c).map SV.pv := by
  induction l with
  | nil => rfl
  | cons a r ih =>
    have e : arrC c (a :: r) = (c a).map SV.pv ++ arrC c r := by simp [arrC]
    rw [e, ih]; simp
theorem FrV.eq {n : Nm} {f : Fz} {s s' : SV} (h : FrV n f s s') : frS n f s = s' := by
  cases h with
  | pv x => rfl
  | hitA sz xs T hf hT => subst hf; subst hT; simp [frS, Fz.arrS]
  | hitB cs off hf => subst hf; simp [frS, Fz.ref]
  | arr m t h => simp [frS, Fz.arrS, eqNm_ne h]
  | ref m t h => simp [frS, Fz.ref, eqNm_ne h]
  | aref m o t h => simp [frS, Fz.aref, eqNm_ne h]
theorem FrL.eq {n : Nm} {f : Fz} {as bs : List SV} (h : FrL n f as bs) : frL n f as = bs := by
  induction h with
  | nil => rfl
  | cons a b as bs h _ ih => rw [frL, h.eq, ih]
  | arrC c l => rw [arrC_pv, frL_pv]
theorem FrO.eq {n : Nm} {f : Fz} {a b : OV} (h : FrO n f a b) : frO n f a = b := by
  cases h with
  | box t cs ds h => rw [frO, h.eq]
  | arr t sz cs ds h => rw [frO, h.eq]
theorem FrH.eq {n : Nm} {f : Fz} {as bs : List (Nm × OV)} (h : FrH n f as bs) : frH n f as = bs := by
  induction h with
  | nil => rfl
  | here o as bs _ ih => rw [frH, (eqNm_iff n n).2 rfl]; exact ih
  | cons m a b as bs hm h _ ih => rw [frH, hm, cond_false, h.eq, ih]
theorem FrX.eq {n : Nm} {f : Fz} {a b : XV} (h : FrX n f a b) : frV n f a = b := by
  cases h with
  | v a b h => rw [frV, h.eq]
  | c t a b h => rw [frV, h.eq]
theorem FrT.eq {n : Nm} {f : Fz} {as bs : List (Nat × XV)} (h : FrT n f as bs) : frT n f as = bs := by
  induction h with
  | nil => rfl
  | cons d a b as bs h _ ih => rw [frT, h.eq, ih]
theorem wk_frarr {N : Nat} {X Y : XS} {α : Type} (n : Nm) (c : α → List PV) (f : α → PV) (l : List α) (sz : Nat) (h : lkOK n X.h (fun o => ∃ t, o = .arr t sz (arrC c l)) False) (hf : ∀ x, (f x).cells = c x) (hz : ∀ x, (c x).length = sz) (hT : FrT n (.arr sz (l.map f)) X.t Y.t) (hH : FrH n (.arr sz (l.map f)) X.h Y.h) : Wk N X.den Y.den := by
  have hy : X.fr n (.arr sz (l.map f)) = Y := by rw [XS.fr, hT.eq, hH.eq]
  rw [← hy, XS.fr_den]
  refine Wk.freeze ?_
  rcases lkOK_sound h with ⟨o, h1, t, h2⟩ | ⟨_, h2⟩
  · refine ⟨⟨t, ?_⟩, fun x hx => ?_⟩
    · rw [← arrC_flat hf, ← h2]; exact h1
    · obtain ⟨y, _, rfl⟩ := List.mem_map.1 hx; rw [hf, hz]
  · exact h2.elim
theorem wk_frbox {N : Nat} {X Y : XS} (n : Nm) (cs : List PV) (h : lkOK n X.h (fun o => ∃ t, o = .box t (cs.map .pv)) False) (hT : FrT n (.box cs) X.t Y.t) (hH : FrH n (.box cs) X.h Y.h) : Wk N X.den Y.den := by
  have hy : X.fr n (.box cs) = Y := by rw [XS.fr, hT.eq, hH.eq]
  rw [← hy, XS.fr_den]
  refine Wk.freeze ?_
  rcases lkOK_sound h with ⟨o, h1, t, h2⟩ | ⟨_, h2⟩
  · exact ⟨t, by rw [← h2]; exact h1⟩
  · exact h2.elim
/-- The steps of such a telling. -/
theorem frs {p : Prop} (h : p := by
  repeat (first
    | exact FrT.nil | exact FrH.nil | exact FrL.nil | exact FrL.arrC _ _
    | refine FrT.cons _ _ _ _ _ ?_ ?_ | refine FrH.here _ _ _ ?_ | refine FrH.cons _ _ _ _ _ rfl ?_ ?_ | refine FrL.cons _ _ _ _ ?_ ?_
    | refine FrX.v _ _ ?_ | refine FrX.c _ _ _ ?_
    | refine FrO.box _ _ _ ?_ | refine FrO.arr _ _ _ _ ?_
    | exact FrV.pv _ | (refine FrV.hitA _ _ _ rfl ?_; apply flat_len; first | (intro x; rfl) | assumption) | exact FrV.hitB _ _ rfl | exact FrV.arr _ _ rfl | exact FrV.ref _ _ rfl | exact FrV.aref _ _ _ rfl)) : p := h
end Go.VL
