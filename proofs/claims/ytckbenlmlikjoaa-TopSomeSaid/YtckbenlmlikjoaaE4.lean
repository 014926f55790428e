/- The value-level logic, the engine, part 4: pieces of code; loops; contracts of functions that hand back plain values. -/
import Derived.Test.YtckbenlmlikjoaaE3
set_option linter.unusedVariables false
set_option linter.unusedSimpArgs false
namespace Go.VL

/-- What a piece of code comes to, told by states that compute. -/
structure XT (C : Cx) (vc : VC) (X : XS) (Q : VE → XS → Prop) : Prop where
  out : VT C vc X.den (fun e σ => ∃ Y, Wk C.N σ Y.den ∧ Q e Y)

section
variable {C : Cx} {X : XS} {Q : VE → XS → Prop}

theorem XT.mono {vc : VC} {Q' : VE → XS → Prop} (h : XT C vc X Q) (hq : ∀ e Y, Q e Y → Q' e Y) : XT C vc X Q' :=
  ⟨vt_mono h.out fun e σ ⟨Y, h1, h2⟩ => ⟨Y, h1, hq e Y h2⟩⟩
theorem xt_weak {vc : VC} {Y : XS} (hw : Wk C.N X.den Y.den) (h : XT C vc Y Q) : XT C vc X Q := ⟨vt_weak hw h.out⟩
theorem xt_skip (h : Q .norm X) : XT C .skip X Q := ⟨vt_skip ⟨X, Wk.refl _ _, h⟩⟩
theorem xt_ret (h : Q .ret X) : XT C .ret X Q := ⟨vt_ret ⟨X, Wk.refl _ _, h⟩⟩
theorem xt_exit {i : Nat} (h : Q (.exit i) X) : XT C (.exit i) X Q := ⟨vt_exit ⟨X, Wk.refl _ _, h⟩⟩
theorem xt_ops {l : List VOp} {ks os : List Nat} (h : xsteps C.P l X fun Y => restK ks os Y (Q .norm)) : XT C (.ops l ks os) X Q :=
  ⟨vt_ops (xsteps_sound h fun Y hY => restK_sound hY fun Z hZ => ⟨Z, Wk.refl _ _, hZ⟩)⟩
theorem xt_dops {p : VPl} {ks os : List Nat} (h : xpl C.P (fun Y => restK ks os Y (Q .norm)) p X) : XT C (.dops p ks os) X Q :=
  ⟨vt_dops (xpl_sound (fun Y hY => restK_sound hY fun Z hZ => ⟨Z, Wk.refl _ _, hZ⟩) h)⟩
/-- What is to come behind the first of two pieces. -/
def sqQ (C : Cx) (y : VC) (Q : VE → XS → Prop) : VE → XS → Prop
  | .norm, X => XT C y X Q
  | .exit i, X => Q (.exit i) X
  | .ret, X => Q .ret X
/-- What is to come behind a block. -/
def bkQ (id : Nat) (Q : VE → XS → Prop) : VE → XS → Prop
  | .norm, X => Q .norm X
  | .exit i, X => bif Nat.beq i id then Q .norm X else Q (.exit i) X
  | .ret, X => Q .ret X
theorem xt_seq {x y : VC} (h : XT C x X (sqQ C y Q)) : XT C (.seq x y) X Q := by
  refine ⟨vt_seq (vt_mono h.out ?_)⟩
  rintro e σ ⟨Y, h1, h2⟩
  cases e with
  | norm => exact vt_weak h1 h2.out
  | exit i => exact ⟨Y, h1, h2⟩
  | ret => exact ⟨Y, h1, h2⟩
theorem xt_block {id : Nat} {b : VC} (h : XT C b X (bkQ id Q)) : XT C (.block id b) X Q := by
  refine ⟨vt_block (vt_mono h.out ?_)⟩
  rintro e σ ⟨Y, h1, h2⟩
  cases e with
  | norm => exact ⟨Y, h1, h2⟩
  | ret => exact ⟨Y, h1, h2⟩
  | exit i =>
    simp only [bkQ] at h2
    simp only
    by_cases hi : i = id
    · rw [if_pos hi]
      subst hi
      rw [Nat.beq_refl] at h2
      exact ⟨Y, h1, h2⟩
    · rw [if_neg hi]
      have : Nat.beq i id = false := by rw [← Bool.not_eq_true, Nat.beq_eq]; exact hi
      rw [this] at h2
      exact ⟨Y, h1, h2⟩
theorem xt_skip_seq {y : VC} (h : XT C y X Q) : XT C (.seq .skip y) X Q := xt_seq (xt_skip h)
theorem xt_ret_seq {y : VC} (h : Q .ret X) : XT C (.seq .ret y) X Q := xt_seq (xt_ret h)
theorem xt_exit_seq {i : Nat} {y : VC} (h : Q (.exit i) X) : XT C (.seq (.exit i) y) X Q := xt_seq (xt_exit h)
theorem xt_ops_seq {l : List VOp} {ks os : List Nat} {y : VC} (h : xsteps C.P l X fun Y => restK ks os Y fun Z => XT C y Z Q) : XT C (.seq (.ops l ks os) y) X Q := xt_seq (xt_ops h)
theorem xt_dops_seq {p : VPl} {ks os : List Nat} {y : VC} (h : xpl C.P (fun Y => restK ks os Y fun Z => XT C y Z Q) p X) : XT C (.seq (.dops p ks os) y) X Q := xt_seq (xt_dops h)
theorem xt_seq_seq {x y z : VC} (h : XT C x X (sqQ C y (sqQ C z Q))) : XT C (.seq (.seq x y) z) X Q := xt_seq (xt_seq h)
def condK (v : VX) (X : XS) (A B : Prop) : Prop := vK none X v fun s => match s with
  | .pv (.bool t) => (t = true → A) ∧ (t = false → B)
  | _ => False
theorem lkK_mono {d : Nat} {K K' : XV → Prop} (hk : ∀ x, K x → K' x) : ∀ {l : List (Nat × XV)}, lkK d l K → lkK d l K'
  | [], h => hk _ h
  | (e, x) :: r, h => by
    simp only [lkK] at h ⊢
    cases hb : Nat.beq e d with
    | true => rw [hb] at h; exact hk _ h
    | false => rw [hb] at h; exact lkK_mono hk h
theorem vK_mono {G : Option Bool} {v : VX} {K K' : SV → Prop} (hk : ∀ x, K x → K' x) (h : vK G X v K) : vK G X v K' := by
  cases v with
  | s d =>
    refine lkK_mono (fun x hx => ?_) h
    cases x with
    | v s => exact hk _ hx
    | c b s => exact ⟨hx.1, hk _ hx.2⟩
  | c p => exact hk _ h
  | f f => exact hk _ h
theorem condK_mono {v : VX} {A B A' B' : Prop} (h : condK v X A B) (ha : A → A') (hb : B → B') : condK v X A' B' := by
  refine vK_mono (fun s hs => ?_) h
  split at hs
  · exact ⟨fun e => ha (hs.1 e), fun e => hb (hs.2 e)⟩
  · exact hs.elim
theorem xt_cond {v : VX} {a b : VC} (h : condK v X (XT C a X Q) (XT C b X Q)) : XT C (.cond v a b) X Q := by
  obtain ⟨s, h1, h2⟩ := vK_sound h
  split at h2
  · exact ⟨vt_cond (h1 trivial) (fun ht => (h2.1 ht).out) (fun ht => (h2.2 ht).out)⟩
  · exact h2.elim
/-- Behind a round of a loop. -/
def lpQ {α : Type} (S : α → XS) (I : α → Prop) (μ : α → Nat) (a : α) (Q : VE → XS → Prop) : VE → XS → Prop
  | .norm, Y => ∃ a', Y = S a' ∧ I a' ∧ μ a' < μ a
  | .exit i, Y => Q (.exit i) Y
  | .ret, Y => Q .ret Y
theorem xt_loop {α : Type} {b : VC} (S : α → XS) (I : α → Prop) (μ : α → Nat) (a0 : α) (h0 : X = S a0) (hI : I a0) (hr : ∀ a, I a → XT C b (S a) (lpQ S I μ a Q)) : XT C (.loop b) X Q := by
  refine ⟨vt_loop (fun n σ => ∃ a, n = μ a ∧ σ = (S a).den ∧ I a) (μ a0) ⟨a0, rfl, by rw [h0], hI⟩ ?_⟩
  rintro n σ ⟨a, rfl, rfl, ha⟩
  refine vt_post (vt_mono (hr a ha).out ?_)
  rintro e σ' ⟨Y, h1, h2⟩
  refine ⟨Y.den, h1, ?_⟩
  cases e with
  | norm => obtain ⟨a', h3, h4, h5⟩ := h2; exact ⟨μ a', h5, a', rfl, by rw [h3], h4⟩
  | exit i => exact ⟨Y, Wk.refl _ _, h2⟩
  | ret => exact ⟨Y, Wk.refl _ _, h2⟩
/-- How long a list in a slot may be. -/
theorem xt_len {vc : VC} {sz : Nat} {xs : List PV} (d : Nat) (h : lkK d X.t fun x => x = .v (.pv (.list sz xs))) (k : xs.length ≤ 9223372036854775807 → XT C vc X Q) : XT C vc X Q := by
  obtain ⟨x, h1, h2⟩ := lkK_sound h
  subst h2
  exact ⟨vt_len (d := d) (sz := sz) (xs := xs) h1.symm fun hl => (k hl).out⟩
end

/-- A loop: here a walk stops. -/
structure XL (C : Cx) (b : VC) (X : XS) (Q : VE → XS → Prop) : Prop where
  out : XT C (.loop b) X Q
/-- A region with more than one order: here a walk stops. -/
structure XP (P : Program) (p : VPl) (ks os : List Nat) (X : XS) (K : XS → Prop) : Prop where
  out : ∀ K2 : St → Prop, (∀ Y : XS, restK ks os Y K → K2 Y.den) → vpl P K2 p X.den
def xdops (P : Program) (p : VPl) (ks os : List Nat) (X : XS) (K : XS → Prop) : Prop := match branchy p with
  | true => XP P p ks os X K
  | false => xpl P (fun Y => restK ks os Y K) p X
theorem xp_all {P : Program} {p : VPl} {ks os : List Nat} {X : XS} {K : XS → Prop} (h : xpl P (fun Y => restK ks os Y K) p X) : XP P p ks os X K := ⟨fun K2 hk => xpl_sound hk h⟩
/-- All orders end in one state. -/
theorem xp_join {P : Program} {p : VPl} {ks os : List Nat} {X : XS} {K : XS → Prop} {Y : XS} (h : xpl P (fun Z => Z = Y) p X) (k : restK ks os Y K) : XP P p ks os X K := ⟨fun K2 hk => xpl_sound (fun Z e => by rw [e]; exact hk Y k) h⟩
theorem xdops_out {P : Program} {p : VPl} {ks os : List Nat} {X : XS} {K : XS → Prop} (h : xdops P p ks os X K) : XP P p ks os X K := by
  unfold xdops at h
  split at h
  · exact h
  · exact xp_all h
theorem xt_xp {C : Cx} {p : VPl} {ks os : List Nat} {X : XS} {Q : VE → XS → Prop} (h : XP C.P p ks os X (Q .norm)) : XT C (.dops p ks os) X Q :=
  ⟨vt_dops (h.out _ fun Y hY => restK_sound hY fun Z hZ => ⟨Z, Wk.refl _ _, hZ⟩)⟩
theorem xs_rfl {Y : XS} : Y = Y := rfl
def sqR (f : XS → Prop) (Q : VE → XS → Prop) : VE → XS → Prop
  | .norm, Y => f Y
  | .exit i, Y => Q (.exit i) Y
  | .ret, Y => Q .ret Y
/-- A walk over code. -/
def xrun (C : Cx) : VC → XS → (VE → XS → Prop) → Prop
  | .skip, X, Q => Q .norm X
  | .ret, X, Q => Q .ret X
  | .exit i, X, Q => Q (.exit i) X
  | .ops l ks os, X, Q => xsteps C.P l X fun Y => restK ks os Y (Q .norm)
  | .dops p ks os, X, Q => xdops C.P p ks os X (Q .norm)
  | .seq a b, X, Q => xrun C a X (sqR (fun Y => xrun C b Y Q) Q)
  | .cond v a b, X, Q => condK v X (xrun C a X Q) (xrun C b X Q)
  | .block id b, X, Q => xrun C b X (bkQ id Q)
  | .loop b, X, Q => XL C b X Q
theorem xrun_sound {C : Cx} : ∀ {vc : VC} {X : XS} {Q : VE → XS → Prop}, xrun C vc X Q → XT C vc X Q
  | .skip, X, Q, h => xt_skip h
  | .ret, X, Q, h => xt_ret h
  | .exit i, X, Q, h => xt_exit h
  | .ops l ks os, X, Q, h => xt_ops h
  | .dops p ks os, X, Q, h => xt_xp (xdops_out h)
  | .seq a b, X, Q, h => xt_seq ((xrun_sound (vc := a) h).mono fun e Y hY => by
      cases e with
      | norm => exact xrun_sound (vc := b) hY
      | exit i => exact hY
      | ret => exact hY)
  | .cond v a b, X, Q, h => xt_cond (condK_mono h (fun e => xrun_sound (vc := a) e) (fun e => xrun_sound (vc := b) e))
  | .block id b, X, Q, h => xt_block ((xrun_sound (vc := b) h).mono fun e Y hY => by
      cases e with
      | norm => exact hY
      | exit i => exact hY
      | ret => exact hY)
  | .loop b, X, Q, h => h.out

section
variable {C : Cx} {X : XS} {Q : VE → XS → Prop}
theorem xl_loop {α : Type} {b : VC} (S : α → XS) (I : α → Prop) (μ : α → Nat) (a0 : α) (h0 : X = S a0) (hI : I a0) (hr : ∀ a, I a → xrun C b (S a) (lpQ S I μ a Q)) : XL C b X Q :=
  ⟨xt_loop S I μ a0 h0 hI fun a ha => xrun_sound (hr a ha)⟩
theorem xl_len {b : VC} {sz : Nat} {xs : List PV} (d : Nat) (h : lkK d X.t fun x => x = .v (.pv (.list sz xs))) (k : xs.length ≤ 9223372036854775807 → XL C b X Q) : XL C b X Q :=
  ⟨xt_len d h fun hl => (k hl).out⟩
theorem xl_weak {b : VC} {Y : XS} (hw : Wk C.N X.den Y.den) (h : XL C b Y Q) : XL C b X Q := ⟨xt_weak hw h.out⟩
end

/-! ### Contracts of functions that take plain values and hand back plain values -/
def Pure (P : Program) (f : FuncId) (xs ys : List PV) : Prop := FnSpec P f (xs.map .pv) [] fun s h => s = retV (ys.map .pv) ∧ h = []

mutual
/-- The one value tells more than the other. -/
inductive SubP : PV → PV → Prop
  | refl (x : PV) : SubP x x
  | nil (sz : Nat) : SubP .nilS (.list sz [])
  | empty (sz : Nat) : SubP .emptyS (.list sz [])
  | agg (as bs : List PV) (h : SubPL as bs) : SubP (.agg as) (.agg bs)
  | list (sz : Nat) (xs ys : List PV) (hl : xs.length = ys.length) (hy : ∀ y ∈ ys, y.cells.length = sz) (h : SubPL (flat xs) (flat ys)) : SubP (.list sz xs) (.list sz ys)
inductive SubPL : List PV → List PV → Prop
  | nil : SubPL [] []
  | cons (a b : PV) (as bs : List PV) (h : SubP a b) (h' : SubPL as bs) : SubPL (a :: as) (b :: bs)
end
theorem SubPL.refl : ∀ l, SubPL l l
  | [] => .nil
  | a :: r => .cons _ _ _ _ (.refl a) (SubPL.refl r)
theorem SubPL.get {as bs : List PV} (h : SubPL as bs) : as.length = bs.length ∧ ∀ (k : Nat) a b, as[k]? = some a → bs[k]? = some b → SubP a b := by
  induction as generalizing bs with
  | nil => cases h; exact ⟨rfl, fun k a b h => by simp at h⟩
  | cons a r ih =>
    cases h with
    | cons _ b _ bs h h' =>
      obtain ⟨h1, h2⟩ := ih h'
      refine ⟨by simp [h1], fun k x y hx hy => ?_⟩
      cases k with
      | zero => simp at hx hy; subst hx; subst hy; exact h
      | succ k => exact h2 k x y (by simpa using hx) (by simpa using hy)
theorem SubP.rel {w : World} {Ps : Nat → Prop} {x : PV} {v : Value} (r : PVRel w Ps x v) : ∀ y, SubP x y → PVRel w Ps y v := by
  induction r with
  | agg cs vs hl h1 hr ih =>
    intro y h
    cases h with
    | refl => exact .agg cs vs hl h1 hr
    | agg _ bs h =>
      obtain ⟨h2, h3⟩ := h.get
      refine .agg bs vs (by omega) h1 (fun k c v hc hv => ?_)
      obtain ⟨a, ha⟩ : ∃ a, cs[k]? = some a := ⟨_, List.getElem?_eq_getElem (by rw [h2]; exact (List.getElem?_eq_some_iff.1 hc).1)⟩
      exact ih k a v ha hv c (h3 k a c ha hc)
  | nilS =>
    intro y h
    cases h with
    | refl => exact .nilS
    | nil sz => exact .nil_list sz
  | bool b => intro y h; cases h; exact .bool b
  | int k n => intro y h; cases h; exact .int k n
  | str s => intro y h; cases h; exact .str s
  | list sz xs base cap b off u hs hb hm hcap hw hr hnc ih =>
    intro y h
    cases h with
    | refl => exact .list sz xs base cap b off u hs hb hm hcap hw hr hnc
    | list _ _ ys hl hy h =>
      obtain ⟨h2, h3⟩ := h.get
      rw [hl] at hm hcap ⊢
      refine .list sz ys base cap b off u hy (fun hne => hb ?_) hm hcap (fun k hk => hw k (by omega)) (fun k c hc => ?_) hnc
      · rintro rfl
        exact hne (List.eq_nil_of_length_eq_zero (by simpa using hl.symm))
      · obtain ⟨a, ha⟩ : ∃ a, (flat xs)[k]? = some a := ⟨_, List.getElem?_eq_getElem (by rw [h2]; exact (List.getElem?_eq_some_iff.1 hc).1)⟩
        exact ih k a ha c (h3 k a c ha hc)
  | emptyS a cap =>
    intro y h
    cases h with
    | refl => exact .emptyS a cap
    | empty sz => exact .list sz [] (some a) cap 0 0 (fun _ => undef) (by simp) (by simp) (by simp [maxI]) (by simp) (by simp [flat]) (by simp [flat]) (fun h => by cases h)
  | ptr cs b off u hb hw hr => intro y h; cases h; exact .ptr cs b off u hb hw hr
  | nilPtr => intro y h; cases h; exact .nilPtr
  | nilIface => intro y h; cases h; exact .nilIface
  | nilFunc => intro y h; cases h; exact .nilFunc
  | nilMap => intro y h; cases h; exact .nilMap
  | iface t x v hr => intro y h; cases h; exact .iface t x v hr
  | fn f => intro y h; cases h; exact .fn f
/-- What is asked of what is handed over. -/
inductive SubSL : List SV → List PV → Prop
  | nil : SubSL [] []
  | cons (a b : PV) (as : List SV) (bs : List PV) (h : SubP a b) (h' : SubSL as bs) : SubSL (.pv a :: as) (b :: bs)
theorem SubSL.get {vals : List SV} {xs : List PV} (h : SubSL vals xs) : ∃ as : List PV, vals = as.map .pv ∧ SubPL as xs := by
  induction h with
  | nil => exact ⟨[], rfl, .nil⟩
  | cons a b as bs h _ ih => obtain ⟨l, h1, h2⟩ := ih; exact ⟨a :: l, by simp [h1], .cons _ _ _ _ h h2⟩
theorem FnSpec.sub {P : Program} {f : FuncId} {xs as : List PV} {Q : SV → List (Nm × OV) → Prop} (h : FnSpec P f (xs.map .pv) [] Q) (hs : SubPL as xs) : FnSpec P f (as.map .pv) [] Q := by
  intro w g vs HR hl hargs
  obtain ⟨h1, h2⟩ := hs.get
  refine h w g vs HR (by simp at hl ⊢; omega) (fun k s v hs' hv => ?_)
  simp only [List.getElem?_map, Option.map_eq_some_iff] at hs'
  obtain ⟨x, hx, rfl⟩ := hs'
  obtain ⟨a, ha⟩ : ∃ a, as[k]? = some a := ⟨_, List.getElem?_eq_getElem (by rw [h1]; exact (List.getElem?_eq_some_iff.1 hx).1)⟩
  exact .pv _ _ (SubP.rel (hargs k (.pv a) v (by simp [ha]) hv).pv_inv x (h2 k a x ha hx))

def retK (K : SV → Prop) : List PV → Prop
  | [y] => K (.pv y)
  | ys => mapPvK ys fun l => K (.tup l)
theorem retK_sound {K : SV → Prop} : ∀ {ys : List PV}, retK K ys → K (retV (ys.map .pv))
  | [], h => mapPvK_sound (l := []) (K := fun l => K (.tup l)) h
  | [y], h => h
  | a :: b :: r, h => mapPvK_sound (l := a :: b :: r) (K := fun l => K (.tup l)) h

section
variable {P : Program} {f : FuncId} {vals : List SV} {X : XS} {xs ys : List PV}
theorem vdet_of_pure {h : Nm → Option OV} (hs : Pure P f xs ys) (hv : SubSL vals xs) : VDet P f vals h (retV (ys.map .pv)) := by
  obtain ⟨as, rfl, h2⟩ := hv.get
  refine .pure as (hs.sub h2) (by simp) (fun k s x h1 h3 => ?_)
  rw [List.getElem?_map, h3] at h1
  simp only [Option.map_some, Option.some.injEq] at h1
  exact .inl h1.symm
/-- A call, by a contract on plain values. -/
theorem XCall.pure {dst : Option Nat} {K : XS → Prop} (hs : Pure P f xs ys) (hv : SubSL vals xs) (hk : retK (fun s => setDK dst (.v s) X K) ys) : XCall P f vals dst X K := by
  refine ⟨fun K2 hK => ?_⟩
  obtain ⟨Y, h1, h2⟩ := setDK_sound (retK_sound hk)
  exact VDet.vcall (vdet_of_pure hs hv) (by have := hK Y h2; rw [h1] at this; exact this)
theorem xdet_pure {K : SV → Prop} (hs : Pure P f xs ys) (hv : SubSL vals xs) (hk : retK K ys) : ∃ s, gd none (XDet P f vals X s) ∧ K s :=
  ⟨_, ⟨vdet_of_pure hs hv⟩, retK_sound hk⟩
theorem xdet_pureG {b : Bool} {K : SV → Prop} (hs : b = true → Pure P f xs ys) (hv : b = true → SubSL vals xs) (hk : retK K ys) : ∃ s, gd (some b) (XDet P f vals X s) ∧ K s :=
  ⟨_, fun hb => ⟨vdet_of_pure (hs hb) (hv hb)⟩, retK_sound hk⟩
/-- .. lent what the frame owns. -/
inductive FrozL (h : Nm → Option OV) : List SV → List PV → Prop
  | nil : FrozL h [] []
  | cons (s : SV) (x : PV) (ss : List SV) (xs : List PV) (hf : Froz h s x) (hr : FrozL h ss xs) : FrozL h (s :: ss) (x :: xs)
theorem FrozL.get {h : Nm → Option OV} {ss : List SV} {xs : List PV} (hf : FrozL h ss xs) : ss.length = xs.length ∧ ∀ (k : Nat) s x, ss[k]? = some s → xs[k]? = some x → Froz h s x := by
  induction hf with
  | nil => exact ⟨rfl, fun k a b h => by simp at h⟩
  | cons s x ss xs hf _ ih =>
    refine ⟨by simp [ih.1], fun k a b ha hb => ?_⟩
    cases k with
    | zero => simp at ha hb; subst ha; subst hb; exact hf
    | succ k => exact ih.2 k a b (by simpa using ha) (by simpa using hb)
theorem vdet_of_lend {y : PV} (hs : Pure P f xs [y]) (hv : FrozL X.den.obj vals xs) (hy : scalar (.pv y) = true) : VDet P f vals X.den.obj (.pv y) :=
  .lend xs (hs.mono fun s h h' => h'.1) hv.get.1 hv.get.2 hy
theorem XCall.lend {y : PV} {dst : Option Nat} {K : XS → Prop} (hs : Pure P f xs [y]) (hv : FrozL X.den.obj vals xs) (hy : scalar (.pv y) = true) (hk : setDK dst (.v (.pv y)) X K) : XCall P f vals dst X K := by
  refine ⟨fun K2 hK => ?_⟩
  obtain ⟨Y, h1, h2⟩ := setDK_sound hk
  exact VDet.vcall (vdet_of_lend hs hv hy) (by have := hK Y h2; rw [h1] at this; exact this)
theorem xdet_lend {y : PV} {K : SV → Prop} (hs : Pure P f xs [y]) (hv : FrozL X.den.obj vals xs) (hy : scalar (.pv y) = true) (hk : K (.pv y)) : ∃ s, gd none (XDet P f vals X s) ∧ K s :=
  ⟨_, ⟨vdet_of_lend hs hv hy⟩, hk⟩
theorem xdet_lendG {b : Bool} {y : PV} {K : SV → Prop} (hs : b = true → Pure P f xs [y]) (hv : b = true → FrozL X.den.obj vals xs) (hy : scalar (.pv y) = true) (hk : K (.pv y)) : ∃ s, gd (some b) (XDet P f vals X s) ∧ K s :=
  ⟨_, fun hb => ⟨vdet_of_lend (hs hb) (hv hb) hy⟩, hk⟩
end

/-! ### A function's end -/
def resK (X : XS) : List VO → (List SV → Prop) → Prop
  | [], K => K []
  | o :: r, K => evK none X (fun s => resK X r fun l => K (s :: l)) o
theorem resK_sound {X : XS} : ∀ {os : List VO} {K : List SV → Prop}, resK X os K → ∃ l, evalRs X.den os = some l ∧ K l
  | [], K, h => ⟨[], rfl, h⟩
  | o :: r, K, h => by
    obtain ⟨s, h1, h2⟩ := evK_ok (K := fun s => resK X r fun l => K (s :: l)) h
    obtain ⟨l, h3, h4⟩ := resK_sound h2
    exact ⟨s :: l, by simp [evalRs, h1 trivial, h3], h4⟩
/-- At the end: results that read as plain values, whatever is given up. -/
def endK (os : List VO) (R : List SV → (Nm → Option OV) → Prop) : VE → XS → Prop
  | .norm, X => resK X os fun l => R l (fun n => lkO n X.h)
  | .ret, X => resK X os fun l => R l (fun n => lkO n X.h)
  | .exit _, _ => False
def argX : Nat → List PV → List (Nat × XV)
  | _, [] => []
  | i, p :: r => (i, .v (.pv p)) :: argX (i + 1) r
theorem argX_den : ∀ (l : List PV) (i : Nat), denT (argX i l) = argS i (l.map .pv)
  | [], _ => rfl
  | p :: r, i => by simp [argX, denT, argS, argX_den r, XV.den]

theorem Rel.froz {E : Env} {N : Nat} {g : Gh} {σ : St} {a : Act} {w : World} (R : Rel E N g σ a w) {l : List SV} {ys : List PV} (hf : FrozL σ.obj l ys) {v : Value} (hv : SVRel w g σ.obj (retV l) v) :
    ∃ g', g'.β = g.β ∧ HRel E g' (fun _ => none) w ∧ SVRel w g' (fun _ => none) (retV (ys.map .pv)) v := by
  let g' : Gh := { β := g.β, Ps := fun b => g.Ps b ∨ ∃ n, σ.obj n ≠ none ∧ blk (g.β n) = some b }
  have one : ∀ s x, Froz σ.obj s x → ∀ v, SVRel w g σ.obj s v → SVRel w g' (fun _ => none) (.pv x) v := fun s x h v hv =>
    .pv _ _ (h.rel (g := g) (Ps' := g'.Ps) (fun b hb => .inl hb) (fun n hn b hb => .inr ⟨n, hn, hb⟩) R.objs v hv)
  have hH : HRel E g' (fun _ => none) w := by
    refine ⟨fun n o h => (by cases h), fun n m h => absurd rfl h, fun n h => absurd rfl h, fun n h => absurd rfl h, R.keeps, fun b hb => Or.inl (R.ps0 b hb), fun b hb hlt => ?_, fun b hb => ?_⟩
    · rcases hb with hb | ⟨n, hn, hb⟩
      · exact R.ps1 b hb hlt
      · rcases R.own n hn b hb with h | h
        · exact .inr h
        · omega
    · rcases hb with hb | ⟨n, hn, hb⟩
      · exact R.psb b hb
      · exact R.lt hn b hb
  refine ⟨g', rfl, hH, ?_⟩
  · have tup : ∀ (l : List SV) (ys : List PV), FrozL σ.obj l ys → SVRel w g σ.obj (.tup l) v → SVRel w g' (fun _ => none) (.tup (ys.map .pv)) v := by
      intro l ys hf hv
      cases hv with
      | tup _ vs hl hr =>
        obtain ⟨h1, h2⟩ := hf.get
        refine .tup _ vs (by simp; omega) (fun k c u hc hu => ?_)
        simp only [List.getElem?_map, Option.map_eq_some_iff] at hc
        obtain ⟨y, hy, rfl⟩ := hc
        obtain ⟨s, hs⟩ : ∃ s, l[k]? = some s := ⟨_, List.getElem?_eq_getElem (by rw [h1]; exact (List.getElem?_eq_some_iff.1 hy).1)⟩
        exact one s y (h2 k s y hs hy) u (hr k s u hs hu)
    cases hf with
    | nil => exact tup _ _ .nil hv
    | cons s x ss xs h1 h2 =>
      cases h2 with
      | nil => exact one s x h1 v hv
      | cons s' x' ss' xs' h3 h4 => exact tup _ _ (.cons _ _ _ _ h1 (.cons _ _ _ _ h3 h4)) hv

/-- What is handed back, read as plain values. -/
inductive EndL (h : Nm → Option OV) : List SV → List PV → Prop
  | nil : EndL h [] []
  | cons (s : SV) (x y : PV) (ss : List SV) (ys : List PV) (hf : Froz h s x) (hs : SubP x y) (hr : EndL h ss ys) : EndL h (s :: ss) (y :: ys)
theorem EndL.get {h : Nm → Option OV} {ss : List SV} {ys : List PV} (e : EndL h ss ys) : ∃ xs, FrozL h ss xs ∧ SubPL xs ys := by
  induction e with
  | nil => exact ⟨[], .nil, .nil⟩
  | cons s x y ss ys hf hs _ ih => obtain ⟨xs, h1, h2⟩ := ih; exact ⟨x :: xs, .cons _ _ _ _ hf h1, .cons _ _ _ _ hs h2⟩
theorem SubPL.retV {w : World} {g : Gh} {h : Nm → Option OV} {xs ys : List PV} {v : Value} (hs : SubPL xs ys) (r : SVRel w g h (VL.retV (xs.map .pv)) v) : SVRel w g h (VL.retV (ys.map .pv)) v := by
  have tup : ∀ (xs ys : List PV), SubPL xs ys → SVRel w g h (.tup (xs.map .pv)) v → SVRel w g h (.tup (ys.map .pv)) v := by
    intro xs ys hs r
    cases r with
    | tup _ vs hl hr =>
      obtain ⟨h1, h2⟩ := hs.get
      simp only [List.length_map] at hl
      refine .tup _ vs (by simp; omega) (fun k c u hc hu => ?_)
      simp only [List.getElem?_map, Option.map_eq_some_iff] at hc
      obtain ⟨y, hy, rfl⟩ := hc
      obtain ⟨x, hx⟩ : ∃ x, xs[k]? = some x := ⟨_, List.getElem?_eq_getElem (by rw [h1]; exact (List.getElem?_eq_some_iff.1 hy).1)⟩
      exact .pv _ _ (SubP.rel (hr k (.pv x) u (by simp [hx]) hu).pv_inv y (h2 k x y hx hy))
  cases hs with
  | nil => exact r
  | cons a b as bs h1 h2 =>
    cases h2 with
    | nil => exact .pv _ _ (SubP.rel r.pv_inv b h1)
    | cons a' b' as' bs' h3 h4 => exact tup _ _ (.cons _ _ _ _ h1 (.cons _ _ _ _ h3 h4)) r

/-- A contract, from what the body comes to. -/
theorem pure_introT {C : Cx} {f : FuncId} {fn : Func} {vc : VC} {xs ys : List PV} {os : List VO}
    (hf : C.P.funcs[f]? = some fn) (hc : fn.body.bind (cCode C) = some vc) (hr : fn.results.toList.mapM (cRes C.P) = some os) (hn : fn.ntmps = C.N) (ha : xs.length ≤ C.N)
    (H : XT C vc ⟨argX 0 xs, []⟩ (endK os fun l h => EndL h l ys)) : Pure C.P f xs ys := by
  obtain ⟨c, hb, hc'⟩ := Option.bind_eq_some_iff.1 hc
  intro w g vs HR hl hargs
  refine calls_of_wp hf hb ?_
  let E : Env := mkE w (Owned g (fun n => lkO n [])) g.Ps
  have R0 : Rel E C.N g (XS.den ⟨argX 0 xs, []⟩) { tmps := vs.toArray ++ Array.replicate (fn.ntmps - vs.toArray.size) undef, defers := [] } w := by
    refine HRel.rel (σ := XS.den ⟨argX 0 xs, []⟩) ⟨HR.objs, HR.inj, HR.disj, HR.own, HR.keeps, HR.ps0, HR.ps1, HR.psb⟩ (by simp at hl ⊢; omega) rfl (fun d => ?_) (fun n _ o ho => by cases ho)
    have e1 : St.get (XS.den ⟨argX 0 xs, []⟩) d = (xs.map SV.pv).getD d .junk := by
      unfold St.get XS.den
      simp only
      rw [argX_den, lkS_argS]
      simp
    rw [e1]
    by_cases hd : d < (xs.map SV.pv).length
    · obtain ⟨s, hs⟩ : ∃ s, (xs.map SV.pv)[d]? = some s := ⟨_, List.getElem?_eq_getElem hd⟩
      obtain ⟨v, hv⟩ : ∃ v, vs[d]? = some v := ⟨_, List.getElem?_eq_getElem (by omega)⟩
      have h1 : (vs.toArray ++ Array.replicate (fn.ntmps - vs.toArray.size) undef).getD d undef = v := by
        have : d < vs.length := by omega
        rw [Array.getD_eq_getD_getElem?, Array.getElem?_append_left (by simpa using this)]
        simp [hv]
      simp only
      rw [h1]
      simp only [List.getD_eq_getElem?_getD, hs, Option.getD_some]
      exact hargs d s v hs hv
    · rw [List.getD_eq_getElem?_getD, List.getElem?_eq_none (by omega)]
      exact .junk _
  refine wp_mono (H.out c hc' E g _ w R0) ?_
  rintro e a' w' ⟨x, σ, g', rfl, ⟨Y, hw, hQ⟩, R⟩
  obtain ⟨g'', R'⟩ := hw E g' a' w' R
  have fin : resK Y os (fun l => EndL (fun n => lkO n Y.h) l ys) → a'.defers = [] ∧ ∃ v, (results fn a'.tmps).run C.P w' = .ok v w' ∧ ∃ v_1 s h' g', Ending.returned v = Ending.returned v_1 ∧ (s = retV (ys.map .pv) ∧ h' = []) ∧ HRel (mkE w (Owned g (fun n => lkO n [])) g.Ps) g' (fun n => lkO n h') w' ∧ SVRel w' g' (fun n => lkO n h') s v_1 ∧
      (∀ n t cs, lkO n [] = some (.box t cs) → lkO n h' ≠ none → (∃ cs', lkO n h' = some (.box t cs')) ∧ g'.β n = g.β n) ∧
      (∀ n t sz cs, lkO n [] = some (.arr t sz cs) → lkO n h' ≠ none → ∃ cs', lkO n h' = some (.arr t sz cs') ∧ cs.length ≤ cs'.length ∧ (cs.length = cs'.length → g'.β n = g.β n)) := by
    intro hres
    obtain ⟨l, h1, h2⟩ := resK_sound hres
    obtain ⟨v, h3, h4⟩ := results_run R' hr h1
    obtain ⟨xs', h2', h2''⟩ := h2.get
    obtain ⟨g3, _, h5, h6⟩ := R'.froz h2' h4
    exact ⟨R'.defers, v, h3, v, _, [], g3, rfl, ⟨rfl, rfl⟩, h5, h2''.retV h6, (fun n t cs ho => by cases ho), (fun n t sz cs ho => by cases ho)⟩
  cases x with
  | norm => exact fin hQ
  | ret => exact fin hQ
  | exit i => exact hQ.elim
theorem pure_intro {C : Cx} {f : FuncId} {fn : Func} {vc : VC} {xs ys : List PV} {os : List VO}
    (hf : C.P.funcs[f]? = some fn) (hc : fn.body.bind (cCode C) = some vc) (hr : fn.results.toList.mapM (cRes C.P) = some os) (hn : fn.ntmps = C.N) (ha : xs.length ≤ C.N)
    (H0 : xrun C vc ⟨argX 0 xs, []⟩ (endK os fun l h => EndL h l ys)) : Pure C.P f xs ys := by
  exact pure_introT hf hc hr hn ha (xrun_sound H0)
end Go.VL
