/- The value-level logic, part 17: reading as immutable; the step of an operation. -/
import Derived.Test.YtckbenlmlikjoaaV16
set_option linter.unusedVariables false
set_option linter.unusedSimpArgs false
namespace Go.VL

/-- What a value of the frame is, read as immutable. -/
inductive Froz (h : Nm → Option OV) : SV → PV → Prop
  | pv (x : PV) : Froz h (.pv x) x
  | nil (sz : Nat) : Froz h (.pv .nilS) (.list sz [])
  | agg (cs : List SV) (xs : List PV) (hl : cs.length = xs.length) (hr : ∀ (k : Nat) c x, cs[k]? = some c → xs[k]? = some x → Froz h c x) : Froz h (.agg cs) (.agg xs)
  | arr (n : Nm) (tag : Nat) (t : TypeId) (sz : Nat) (cs : List SV) (xs : List PV) (ho : h n = some (.arr t sz cs)) (ht : tag = cs.length) (hl : cs.length = (flat xs).length) (hs : ∀ x ∈ xs, x.cells.length = sz)
      (hr : ∀ (k : Nat) c x, cs[k]? = some c → (flat xs)[k]? = some x → Froz h c x) : Froz h (.arr n tag) (.list sz xs)
  | ref (n : Nm) (off : Nat) (t : TypeId) (cs : List SV) (xs : List PV) (ho : h n = some (.box t cs)) (hl : (cs.drop off).length = xs.length) (hr : ∀ (k : Nat) c x, (cs.drop off)[k]? = some c → xs[k]? = some x → Froz h c x) :
      Froz h (.ref n off) (.ptr xs)
  | aref (n : Nm) (off tag : Nat) (t : TypeId) (sz : Nat) (cs : List SV) (xs : List PV) (ho : h n = some (.arr t sz cs)) (ht : tag = cs.length) (hlt : off < tag) (hle : xs.length ≤ (cs.drop off).length) (hr : ∀ (k : Nat) c x, (cs.drop off)[k]? = some c → xs[k]? = some x → Froz h c x) :
      Froz h (.aref n off tag) (.ptr xs)

/-- Froz where the list ends: told of all blocks that are there. -/
theorem Froz.rel {w : World} {g : Gh} {h : Nm → Option OV} {Ps' : Nat → Prop} (hps : ∀ b, g.Ps b → Ps' b) (hown : ∀ n, h n ≠ none → ∀ b, blk (g.β n) = some b → Ps' b) (hobj : ∀ n o, h n = some o → ObjRel w g h n o) {s : SV} {x : PV} (f : Froz h s x) :
    ∀ v, SVRel w g h s v → PVRel w Ps' x v := by
  induction f with
  | pv x => intro v r; exact r.pv_inv.mono hps (fun _ _ => rfl)
  | nil sz => intro v r; rw [r.nilS]; exact .nil_list sz
  | agg cs xs hl hr ih =>
    intro v r
    cases r with
    | agg cs vs hl' h1 hr' => exact .agg xs vs (by omega) h1 (fun k x v hx hv => by
        obtain ⟨c, hc⟩ : ∃ c, cs[k]? = some c := ⟨_, List.getElem?_eq_getElem (by rw [hl]; exact (List.getElem?_eq_some_iff.1 hx).1)⟩
        exact ih k c x hc hx v (hr' k c v hc hv))
  | arr n tag t sz cs xs ho ht hl hs hr ih =>
    intro v r
    cases r with
    | arr n tag t' sz' cs' v ho' hg hb h1 =>
      rw [ho] at ho'
      simp only [Option.some.injEq, OV.arr.injEq] at ho'
      obtain ⟨rfl, rfl, rfl⟩ := ho'
      have hv := hb ht
      obtain ⟨hpos, k, us, hx1, hx2⟩ := hobj n _ ho
      rw [← hv] at hx1
      have hfl := flat_length xs hs
      have hk : xs.length = k := by
        have h2 : us.length = k * sz := hx1.1
        have h3 := hx2.1
        exact Nat.eq_of_mul_eq_mul_right hpos (by omega)
      subst hk
      rcases hx1.2 with ⟨rfl, h0⟩ | ⟨gg, cap, cur, rfl, _, hh, h2, h3, h4, h5⟩
      · have hxs : xs = [] := List.eq_nil_of_length_eq_zero h0
        subst hxs
        exact .nil_list sz
      · refine .list sz xs _ cap gg 0 (fun k => us.getD k undef) hs (fun _ => ⟨rfl, hown n (by simp [ho]) gg (by rw [← hv]; rfl)⟩) (by unfold maxI; simp only [maxLen] at h3; omega) h2 (fun j hj => ?_) (fun j x hx => ?_) (fun h => by cases h)
        · have hju : us[j]? = some (us.getD j undef) := by
            have : j < us.length := by rw [← hx2.1]; omega
            simp [List.getD_eq_getElem?_getD, this]
          have := hx1.cells (g := gg) rfl j _ hju
          rw [Addr.add_mid] at this
          exact ⟨this, hx2.2.1 _ (List.mem_of_getElem? hju)⟩
        · have hjl : j < us.length := by rw [← hx2.1]; have := (List.getElem?_eq_some_iff.1 hx).1; omega
          have hju : us[j]? = some (us.getD j undef) := by simp [List.getD_eq_getElem?_getD, hjl]
          obtain ⟨c, hc⟩ : ∃ c, cs[j]? = some c := ⟨_, List.getElem?_eq_getElem (by rw [hx2.1]; exact hjl)⟩
          exact ih j c x hc hx _ (hx2.2.2 j c _ hc hju)
  | ref n off t cs xs ho hl hr ih =>
    intro v r
    cases r with
    | ref n off b t' cs' ho' hβ =>
      rw [ho] at ho'
      simp only [Option.some.injEq, OV.box.injEq] at ho'
      obtain ⟨rfl, rfl⟩ := ho'
      obtain ⟨b', cur, h1, h2, h3⟩ := hobj n _ ho
      have : b' = b := by rw [h1] at hβ; simpa using hβ
      subst this
      have hcl : cs.length = cur.size := by simpa using h3.1
      refine .ptr xs b' off (fun k => (cur.toList.drop off).getD k undef) (hown n (by simp [ho]) b' (by rw [h1]; rfl)) (fun k hk => ?_) (fun k x hx => ?_)
      · have hlt : k < (cur.toList.drop off).length := by simp at hl ⊢; omega
        have hu : (cur.toList.drop off)[k]? = some ((cur.toList.drop off).getD k undef) := by simp only [List.getD_eq_getElem?_getD]; rw [List.getElem?_eq_getElem hlt]; rfl
        refine ⟨?_, h3.2.1 _ (List.mem_of_mem_drop (List.mem_of_getElem? hu))⟩
        rw [List.getElem?_drop] at hu
        simpa [World.cell?, h2] using hu
      · have hxl := (List.getElem?_eq_some_iff.1 hx).1
        have hlt : k < (cur.toList.drop off).length := by simp at hl ⊢; omega
        have hu : (cur.toList.drop off)[k]? = some ((cur.toList.drop off).getD k undef) := by simp only [List.getD_eq_getElem?_getD]; rw [List.getElem?_eq_getElem hlt]; rfl
        obtain ⟨c, hc⟩ : ∃ c, (cs.drop off)[k]? = some c := ⟨_, List.getElem?_eq_getElem (by omega)⟩
        exact ih k c x hc hx _ ((h3.drop off).2.2 k c _ hc hu)
  | aref n off tag t sz cs xs ho ht hlt hle hr ih =>
    intro v r
    cases r with
    | aref n off tag t' sz' cs' v ho' hg hb h1 =>
      rw [ho] at ho'
      simp only [Option.some.injEq, OV.arr.injEq] at ho'
      obtain ⟨rfl, rfl, rfl⟩ := ho'
      obtain ⟨b, hb1, rfl⟩ := hb ht
      obtain ⟨hpos, k, us, hx1, hx2⟩ := hobj n _ ho
      refine .ptr xs b off (fun k => (us.drop off).getD k undef) (hown n (by simp [ho]) b hb1) (fun k hk => ?_) (fun k x hx => ?_)
      · have hlt' : k < (us.drop off).length := by have := hx2.1; simp at hle ⊢; omega
        have hu : (us.drop off)[k]? = some ((us.drop off).getD k undef) := by simp only [List.getD_eq_getElem?_getD]; rw [List.getElem?_eq_getElem hlt']; rfl
        refine ⟨?_, hx2.2.1 _ (List.mem_of_mem_drop (List.mem_of_getElem? hu))⟩
        rw [List.getElem?_drop] at hu
        have := hx1.cells (g := b) ((ownsRow_blk hx1).trans hb1) _ _ hu
        rwa [Addr.add_mid, Nat.zero_add] at this
      · have hxl := (List.getElem?_eq_some_iff.1 hx).1
        have hlt' : k < (us.drop off).length := by have := hx2.1; simp at hle ⊢; omega
        have hu : (us.drop off)[k]? = some ((us.drop off).getD k undef) := by simp only [List.getD_eq_getElem?_getD]; rw [List.getElem?_eq_getElem hlt']; rfl
        obtain ⟨c, hc⟩ : ∃ c, (cs.drop off)[k]? = some c := ⟨_, List.getElem?_eq_getElem (by omega)⟩
        exact ih k c x hc hx _ ((hx2.drop off).2.2 k c _ hc hu)

/-- A value that leads to no memory. -/
def scalar : SV → Bool
  | .pv (.bool _) | .pv (.int _ _) | .pv (.str _) | .pv .nilPtr | .pv .nilS | .pv .nilFunc | .pv .nilIface | .pv .nilMap | .pv (.fn _) => true
  | .tup vs => vs.all fun s => match s with
    | .pv (.bool _) | .pv (.int _ _) | .pv (.str _) | .pv .nilPtr | .pv .nilS | .pv .nilFunc | .pv .nilIface | .pv .nilMap | .pv (.fn _) => true
    | _ => false
  | _ => false

theorem scalar_pv {w w' : World} {Ps Ps' : Nat → Prop} {x : PV} {v : Value} (hs : scalar (.pv x) = true) (r : PVRel w Ps x v) : PVRel w' Ps' x v := by
  cases r <;> first | (simp [scalar] at hs; done) | constructor
theorem scalar_rel {w w' : World} {g g' : Gh} {h h' : Nm → Option OV} {s : SV} {v : Value} (hs : scalar s = true) (r : SVRel w g h s v) : SVRel w' g' h' s v := by
  cases r with
  | pv x v hx => exact .pv x v (scalar_pv hs hx)
  | tup cs vs hl hr =>
    refine .tup cs vs hl (fun k c v hc hv => ?_)
    have hc' := List.mem_of_getElem? hc
    simp only [scalar, List.all_eq_true] at hs
    have h1 := hs c hc'
    have h2 := hr k c v hc hv
    cases h2 with
    | pv x v hx => refine .pv x v (scalar_pv (w := w) (Ps := g.Ps) ?_ hx); cases x <;> simp_all [scalar]
    | _ => simp at h1
  | _ => simp [scalar] at hs

def setD (σ : St) : Option Nat → SV → St
  | some d, s => σ.set d s
  | none, _ => σ

/-- A call, by some contract of the function. -/
inductive VCall (P : Program) (f : FuncId) (vals : List SV) (dst : Option Nat) (σ : St) (K : St → Prop) : Prop
  | gen (cargs : List SV) (ch : List (Nm × OV)) (Q : SV → List (Nm × OV) → Prop) (ρ : Nm → Nm) (hspec : FnSpec P f cargs ch Q) (hl : vals.length = cargs.length) (hinj : ∀ e ∈ ch, ∀ e' ∈ ch, ρ e.1 = ρ e'.1 → e.1 = e'.1)
      (hfit : ∀ (k : Nat) s c, vals[k]? = some s → cargs[k]? = some c → Fits ρ s c ∧ ∀ n ∈ c.names, lkO n ch ≠ none) (hch : ∀ n o, lkO n ch = some o → σ.obj (ρ n) = some (o.ren ρ) ∧ ∀ m ∈ o.names, lkO m ch ≠ none)
      (hpost : ∀ s h', Q s h' → ∃ ds, NamesOk σ ρ ch h' ds ∧ K (setD { t := afterT σ ds, h := afterH σ ρ ch h' } dst (s.ren ρ)))
  | lend (xs : List PV) (Q : SV → List (Nm × OV) → Prop) (hspec : FnSpec P f (xs.map .pv) [] Q) (hl : vals.length = xs.length) (hfit : ∀ (k : Nat) s x, vals[k]? = some s → xs[k]? = some x → Froz σ.obj s x)
      (hpost : ∀ s h', Q s h' → scalar s = true ∧ K (setD σ dst s))

section
variable {P : Program} {E : Env} {N : Nat} {g : Gh} {σ : St} {a : Act} {w : World}

theorem setD_rel (R : Rel E N g σ a w) {dst : Option Nat} (hd : ∀ d, dst = some d → d < N) {s : SV} {v : Value} (hs : SVRel w g σ.obj s v) : Rel E N g (setD σ dst s) (a.put dst v) w := by
  cases dst with
  | none => exact R
  | some d => exact R.set (hd d rfl) hs

theorem call_sound {f : FuncId} {vals : List SV} {dst : Option Nat} {K : St → Prop} (hc : VCall P f vals dst σ K) (R : Rel E N g σ a w) (hd : ∀ d, dst = some d → d < N) {vs : List Value} (hl : vals.length = vs.length)
    (hr : ∀ (k : Nat) s v, vals[k]? = some s → vs[k]? = some v → SVRel w g σ.obj s v) :
    Calls P f vs.toArray w fun e w' => ∃ v σ' g', e = .returned v ∧ K σ' ∧ Rel E N g' σ' (a.put dst v) w' := by
  cases hc with
  | gen cargs ch Q ρ hspec hl' hinj hfit hch hpost =>
    let gc : Gh := { β := fun n => g.β (ρ n), Ps := g.Ps }
    have hbox : ∀ n t cs, lkO n ch ≠ none → σ.obj (ρ n) = some (.box t cs) → (∃ cs', lkO n ch = some (.box t cs')) ∧ gc.β n = g.β (ρ n) := by
      intro n t cs hn ho
      obtain ⟨o, hoc⟩ := Option.ne_none_iff_exists'.1 hn
      have := (hch n o hoc).1
      rw [ho] at this
      cases o with
      | arr => simp [OV.ren] at this
      | box t' cs' => simp only [OV.ren, Option.some.injEq, OV.box.injEq] at this; exact ⟨⟨cs', by rw [hoc, this.1]⟩, rfl⟩
    have harr : ∀ n t sz cs, lkO n ch ≠ none → σ.obj (ρ n) = some (.arr t sz cs) → (∃ cs', lkO n ch = some (.arr t sz cs') ∧ cs'.length = cs.length) ∧ gc.β n = g.β (ρ n) := by
      intro n t sz cs hn ho
      obtain ⟨o, hoc⟩ := Option.ne_none_iff_exists'.1 hn
      have := (hch n o hoc).1
      rw [ho] at this
      cases o with
      | box => simp [OV.ren] at this
      | arr t' sz' cs' =>
        simp only [OV.ren, Option.some.injEq, OV.arr.injEq] at this
        exact ⟨⟨cs', by rw [hoc, this.1, this.2.1], by rw [this.2.2, renL_eq]; simp⟩, rfl⟩
    have un : ∀ {s : SV} {v : Value}, SVRel w g σ.obj s v → ∀ c : SV, c.ren ρ = s → (∀ n ∈ c.names, lkO n ch ≠ none) → SVRel w gc (fun n => lkO n ch) c v :=
      fun r c hc hn => SVRel.unren (g := g) (h := σ.obj) (g' := gc) (h' := fun n => lkO n ch) (ρ := ρ) (fun _ h => h) hbox harr r c hc hn
    have unC : ∀ {cs : List SV} {us : List Value}, Cells w g σ.obj (renL ρ cs) us → (∀ n ∈ namesL cs, lkO n ch ≠ none) → Cells w gc (fun n => lkO n ch) cs us := by
      intro cs us hC hn
      rw [renL_eq] at hC
      refine ⟨by simpa using hC.1, hC.2.1, fun k c v hc hv => ?_⟩
      exact un (hC.2.2 k (c.ren ρ) v (by simp [hc]) hv) c rfl (fun n hn' => hn n (namesL_mem.2 ⟨c, List.mem_of_getElem? hc, hn'⟩))
    have hinj' : ∀ n m, lkO n ch ≠ none → lkO m ch ≠ none → ρ n = ρ m → n = m := by
      intro n m hn hm he
      obtain ⟨o, ho⟩ := Option.ne_none_iff_exists'.1 hn
      obtain ⟨p, hp⟩ := Option.ne_none_iff_exists'.1 hm
      exact hinj (n, o) (lkO_mem ho) (m, p) (lkO_mem hp) he
    have hσ : ∀ n, lkO n ch ≠ none → σ.obj (ρ n) ≠ none := by
      intro n hn
      obtain ⟨o, ho⟩ := Option.ne_none_iff_exists'.1 hn
      rw [(hch n o ho).1]; simp
    have HR : HRel (mkE w (Owned gc (fun n => lkO n ch)) gc.Ps) gc (fun n => lkO n ch) w := by
      refine ⟨fun n o ho => ?_, fun n m hn hm hnm b hb => ?_, fun n hn b hb => R.disj (ρ n) (hσ n hn) b hb, fun n hn b hb => .inl ⟨n, hn, hb⟩, Keeps.refl _ _, fun _ h => h, fun b hb _ => .inl hb, R.psb⟩
      · have hob := R.objs (ρ n) _ (hch n o ho).1
        cases o with
        | box t cs =>
          obtain ⟨b, cur, h1, h2, h3⟩ := hob
          exact ⟨b, cur, h1, h2, unC h3 (hch n _ ho).2⟩
        | arr t sz cs =>
          obtain ⟨h0, k, xs, h1, h2⟩ := hob
          exact ⟨h0, k, xs, h1, unC h2 (hch n _ ho).2⟩
      · exact R.inj (ρ n) (ρ m) (hσ n hn) (hσ m hm) (fun e => hnm (hinj' n m hn hm e)) b hb
    refine (hspec w gc vs HR (by omega) (fun k c v hc hv => ?_)).mono ?_
    · obtain ⟨s, hs⟩ : ∃ s, vals[k]? = some s := ⟨_, List.getElem?_eq_getElem (by rw [hl']; exact (List.getElem?_eq_some_iff.1 hc).1)⟩
      obtain ⟨hf, hn⟩ := hfit k s c hs hc
      have hrel := hr k s v hs hv
      cases hf with
      | same => exact un hrel c rfl hn
      | nil sz => rw [hrel.nilS]; exact .pv _ _ (.nil_list sz)
    · rintro e w' ⟨v, s, h', g', rfl, hQ, H, hsv, hb, ha⟩
      obtain ⟨ds, hN, hK⟩ := hpost s h' hQ
      obtain ⟨g'', hg1, hR⟩ := R.after (fun n o ho => (hch n o ho).1) hN (gc := gc) rfl H hb ha
      refine ⟨v, _, g'', rfl, hK, setD_rel hR hd (hg1 s v hsv)⟩
  | lend xs Q hspec hl' hfit hpost =>
    let gc : Gh := { β := g.β, Ps := fun b => b < w.heap.size }
    have HR : HRel (mkE w (Owned gc (fun n => lkO n [])) gc.Ps) gc (fun n => lkO n []) w :=
      ⟨fun n o ho => by simp [lkO] at ho, fun n m hn => absurd rfl hn, fun n hn => absurd rfl hn, fun n hn => absurd rfl hn, Keeps.refl _ _, fun _ h => h, fun b hb _ => .inl hb, fun _ h => h⟩
    refine (hspec w gc vs HR (by simp; omega) (fun k c v hc hv => ?_)).mono ?_
    · simp only [List.getElem?_map, Option.map_eq_some_iff] at hc
      obtain ⟨x, hx, rfl⟩ := hc
      obtain ⟨s, hs⟩ : ∃ s, vals[k]? = some s := ⟨_, List.getElem?_eq_getElem (by rw [hl']; exact (List.getElem?_eq_some_iff.1 hx).1)⟩
      exact .pv _ _ ((hfit k s x hs hx).rel (g := g) (Ps' := gc.Ps) R.psb (fun n hn b hb => R.lt hn b hb) R.objs v (hr k s v hs hv))
    · rintro e w' ⟨v, s, h', g', rfl, hQ, H, hsv, hb, ha⟩
      obtain ⟨hsc, hK⟩ := hpost s h' hQ
      have hold : ∀ b, b < w.heap.size → w'.heap[b]? = w.heap[b]? := fun b hb => H.keeps.block b hb (fun ⟨n, hn, _⟩ => hn rfl)
      have X : Ext w g σ.obj w' g (fun n => lkO n σ.h) := ⟨fun _ h => h, fun b hb => hold b (R.psb b hb), fun n t cs h => ⟨cs, h, rfl⟩, fun n t sz cs h => ⟨cs, h, Nat.le_refl _, fun _ => rfl⟩⟩
      have hR : Rel E N g { σ with h := σ.h } a w' := R.change (h' := σ.h) X (fun n o ho => (R.objs n o ho).ext X rfl (fun b hb => hold b ((R.objs n o ho).lt b hb))) R.inj R.disj R.own
        (R.keeps.step H.keeps.os H.keeps.tape H.keeps.output H.keeps.size (fun b hb _ => hold b (by have := R.keeps.size; omega))) R.ps1 (fun b hb => Nat.lt_of_lt_of_le (R.psb b hb) H.keeps.size)
      exact ⟨v, _, g, rfl, hK, setD_rel hR hd (scalar_rel hsc hsv)⟩
end
end Go.VL
