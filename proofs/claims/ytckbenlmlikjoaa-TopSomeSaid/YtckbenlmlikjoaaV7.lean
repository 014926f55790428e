/- The value-level logic, part 7: the other value operations; the whole. -/
import Derived.Test.YtckbenlmlikjoaaV6
set_option linter.unusedVariables false
set_option linter.unusedSimpArgs false
namespace Go.VL
section
variable {P : Program} {E : Env} {N : Nat} {g : Gh} {σ : St} {a : Act} {w : World}

theorem nk_pointer {t : TypeId} (h : nkOf P t = some .ptr) : ∃ e, P.underlying t = some (.pointer e) := by
  unfold nkOf at h; split at h <;> first | (cases h; exact ⟨_, by assumption⟩) | cases h
theorem nk_slice {t : TypeId} (h : nkOf P t = some .slice) : ∃ e, P.underlying t = some (.slice e) := by
  unfold nkOf at h; split at h <;> first | (cases h; exact ⟨_, by assumption⟩) | cases h
theorem nk_map {t : TypeId} (h : nkOf P t = some .map) : ∃ k e, P.underlying t = some (.map k e) := by
  unfold nkOf at h; split at h <;> first | (cases h; exact ⟨_, _, by assumption⟩) | cases h
theorem nk_func {t : TypeId} (h : nkOf P t = some .func) : ∃ p r v, P.underlying t = some (.func p r v) := by
  unfold nkOf at h; split at h <;> first | (cases h; exact ⟨_, _, _, by assumption⟩) | cases h
theorem nk_iface {t : TypeId} (h : nkOf P t = some .iface) : ∃ m, P.underlying t = some (.interface m) := by
  unfold nkOf at h; split at h <;> first | (cases h; exact ⟨_, by assumption⟩) | cases h

theorem isConstNil_eq {k : NK} {y : Operand} (h : isConstNil k y = true) : y = .const (nilV k) := by
  unfold isConstNil at h
  split at h <;> first | (have := beq_iff_eq.1 h; subst this; rfl) | cases h

/-- What is told to be nil is nil; what is told not to be is something. -/
theorem isNil_run (R : Rel E N g σ a w) {k : NK} {t : TypeId} (hk : nkOf P t = some k) {s : SV} {v : Value} (hs : SVRel w g σ.obj s v) {b : Bool} (hb : isNil σ.obj k s = some b) :
    (Op.equal t v (nilV k)).run P w = .ok b w := by
  have key : ∀ d, P.underlying t = some d → (Op.equal t v (nilV k)).run P w = .ok b w := by
    intro d hd
    unfold Op.equal
    rw [show Op.maxDepth = 9999 + 1 from rfl]
    unfold Op.equalIn
    rw [Sem.run_bind, run_underlying hd w]
    simp only [Result.andThen_ok]
    cases hs with
    | pv x v hx =>
      cases k
      · obtain ⟨e, he⟩ := nk_pointer hk
        rw [he] at hd; cases hd
        cases hx <;> simp only [isNil, Option.some.injEq, reduceCtorEq] at hb <;> subst hb <;> rfl
      · obtain ⟨e, he⟩ := nk_slice hk
        rw [he] at hd; cases hd
        cases hx <;> simp only [isNil, Option.some.injEq, reduceCtorEq] at hb
        · rename_i sz xs base cap b' off u hs' hb' hm hcap hw hr hnc
          cases xs with
          | nil => simp at hb
          | cons x xs =>
            simp only [Option.some.injEq] at hb
            subst hb
            rw [(hb' (by simp)).1]
            rfl
        · subst hb; rfl
        · subst hb; rfl
      · obtain ⟨e, e', he⟩ := nk_map hk
        rw [he] at hd; cases hd
        cases hx <;> simp only [isNil, Option.some.injEq, reduceCtorEq] at hb <;> subst hb <;> rfl
      · obtain ⟨p, r, vv, he⟩ := nk_func hk
        rw [he] at hd; cases hd
        cases hx <;> simp only [isNil, Option.some.injEq, reduceCtorEq] at hb <;> subst hb <;> rfl
      · obtain ⟨m, he⟩ := nk_iface hk
        rw [he] at hd; cases hd
        cases hx <;> simp only [isNil, Option.some.injEq, reduceCtorEq] at hb <;> subst hb <;> rfl
    | ref n off b' t' cs ho hβ =>
      simp only [isNil] at hb
      split at hb
      · rename_i hkk
        subst hkk
        obtain ⟨e, he⟩ := nk_pointer hk
        rw [he] at hd; cases hd
        simp only [Option.some.injEq] at hb; subst hb; rfl
      · cases hb
    | clo f caps vs hl hr =>
      simp only [isNil] at hb
      split at hb
      · rename_i hkk
        subst hkk
        obtain ⟨p, r, vv, he⟩ := nk_func hk
        rw [he] at hd; cases hd
        simp only [Option.some.injEq] at hb; subst hb; rfl
      · cases hb
    | arr n tag t' sz cs v ho hg hbb h1 =>
      simp only [isNil, ho] at hb
      cases k <;> simp only [reduceCtorEq] at hb
      split at hb
      · rename_i hc
        simp only [Option.some.injEq] at hb
        subst hb
        obtain ⟨e, he⟩ := nk_slice hk
        rw [he] at hd; cases hd
        have hv := hbb hc.1
        obtain ⟨h0, kk, xs, hx1, hx2⟩ := R.objs n _ ho
        rw [← hv] at hx1
        rcases hx1.2 with ⟨_, hk0⟩ | ⟨gg, cap, cur, rfl, _⟩
        · exfalso
          subst hk0
          have : xs.length = 0 := by simpa using hx1.1
          have := hx2.1
          exact hc.2 (List.eq_nil_of_length_eq_zero (by omega))
        · rfl
      · cases hb
    | _ => simp [isNil] at hb
  cases hu : P.underlying t with
  | none => unfold nkOf at hk; rw [hu] at hk; cases hk
  | some d => exact key d hu

theorem go_eqn (R : Rel E N g σ a w) {neg : Bool} {op : BinOp} (hop : op = if neg then .neq else .eql) {k : NK} {t : TypeId} (hk : nkOf P t = some k) {x y : Operand} {vx : VX} (hx : cX x = some vx) (hy : isConstNil k y = true) {s : SV} (he : evalV σ (.eqn k neg vx) = some s) :
    ∃ v, (do eqGuard op t x y (a.eval x) (a.eval y); binOp op t (a.eval x) (a.eval y) : Sem Value).run P w = .ok v w ∧ SVRel w g σ.obj s v := by
  have hyy := isConstNil_eq hy
  subst hyy
  simp only [evalV] at he
  split at he
  · rename_i b hb
    simp only [Option.some.injEq] at he
    subst he
    have hrun := isNil_run (P := P) R hk (val_rel R hx) hb
    have hev : a.eval (.const (nilV k)) = nilV k := rfl
    rw [hev]
    have hg : eqGuard op t x (.const (nilV k)) (a.eval x) (nilV k) = pure () := by
      cases k <;> simp only [nilV]
      case iface =>
        generalize a.eval x = v
        subst hop
        cases neg <;> cases v <;> first | rfl | (cases x <;> rfl)
      all_goals
        subst hop
        generalize a.eval x = v
        cases neg <;> cases v <;> rfl
    rw [hg]
    have hbin : ∀ v, binOp .eql t v (nilV k) = (do pure (.bool (← Op.equal t v (nilV k)))) := by intro v; cases k <;> cases v <;> rfl
    have hbin' : ∀ v, binOp .neq t v (nilV k) = (do pure (.bool (!(← Op.equal t v (nilV k))))) := by intro v; cases k <;> cases v <;> rfl
    refine ⟨_, ?_, .pv _ _ (.bool _)⟩
    cases neg
    · subst hop
      simp only [Bool.false_eq_true, if_false, pure_bind, hbin, Sem.run_bind, hrun, Result.andThen_ok, Sem.run_pure]
    · subst hop
      simp only [if_true, pure_bind, hbin', Sem.run_bind, hrun, Result.andThen_ok, Sem.run_pure]
  · cases he

theorem go_un (R : Rel E N g σ a w) {op : UnOp} {x : Operand} {vx : VX} (hx : cX x = some vx) {s : SV} (he : evalV σ (.un op vx) = some s) :
    ∃ v, (Op.unary op (a.eval x)).run P w = .ok v w ∧ SVRel w g σ.obj s v := by
  have hr := val_rel R hx
  simp only [evalV] at he
  split at he <;> first | cases he | skip
  · rename_i b hb
    rw [hb] at hr
    rw [hr.bool]
    exact ⟨_, rfl, .pv _ _ (.bool _)⟩
  · rename_i k n hb
    rw [hb] at hr
    rw [hr.int]
    exact ⟨_, rfl, .pv _ _ (.int _ _)⟩

theorem go_conv (R : Rel E N g σ a w) {src dst : TypeId} {k : IntKind} {d : TypeDesc} (hs : P.underlying src = some d) (hd : P.underlying dst = some (.int k)) {x : Operand} {vx : VX} (hx : cX x = some vx) {s : SV} (he : evalV σ (.conv k vx) = some s) :
    ∃ v, (convert src dst (a.eval x)).run P w = .ok v w ∧ SVRel w g σ.obj s v := by
  have hr := val_rel R hx
  simp only [evalV] at he
  split at he <;> first | cases he | skip
  rename_i k' n hb
  rw [hb] at hr
  rw [hr.int]
  refine ⟨_, ?_, .pv _ _ (.int _ _)⟩
  simp [convert, run_underlying hs, run_underlying hd, Conv.intToInt]

theorem go_convs (R : Rel E N g σ a w) {src dst : TypeId} (hs : P.underlying src = some .string) (hd : P.underlying dst = some .string) {x : Operand} {vx : VX} (hx : cX x = some vx) {s : SV} (he : evalV σ (.convs vx) = some s) :
    ∃ v, (convert src dst (a.eval x)).run P w = .ok v w ∧ SVRel w g σ.obj s v := by
  have hr := val_rel R hx
  simp only [evalV] at he
  split at he <;> first | cases he | skip
  rename_i n hb
  rw [hb] at hr
  rw [hr.str]
  refine ⟨_, ?_, .pv _ _ (.str _)⟩
  simp [convert, run_underlying hs, run_underlying hd]

theorem go_mkif (R : Rel E N g σ a w) {t : TypeId} (ht : P.concrete t = true) {x : Operand} {vx : VX} (hx : cX x = some vx) {s : SV} (he : evalV σ (.mkif t vx) = some s) :
    ∃ v, (Instr.makeInterface t (a.eval x)).run P w = .ok v w ∧ SVRel w g σ.obj s v := by
  have hr := val_rel R hx
  simp only [evalV] at he
  split at he <;> first | cases he | skip
  rename_i p hb
  rw [hb] at hr
  exact ⟨_, run_makeInterface w t _ ht, .pv _ _ (.iface t p _ hr.pv_inv)⟩

theorem mapM_cX_rel (R : Rel E N g σ a w) : ∀ (l : List Operand) (vl : List VX), l.mapM cX = some vl → l.length = vl.length ∧ ∀ (k : Nat) c v, (vl.map σ.val)[k]? = some c → (l.map a.eval)[k]? = some v → SVRel w g σ.obj c v
  | [], vl, h => by
    simp at h; subst h
    exact ⟨rfl, fun k c v hc => by simp at hc⟩
  | o :: l, vl, h => by
    simp only [List.mapM_cons, Option.bind_eq_bind, Option.bind_eq_some_iff, Option.pure_def, Option.some.injEq] at h
    obtain ⟨vx, h1, vr, h2, rfl⟩ := h
    have ih := mapM_cX_rel R l vr h2
    refine ⟨by simp [ih.1], fun k c v hc hv => ?_⟩
    cases k with
    | zero =>
      simp only [List.map_cons, List.getElem?_cons_zero, Option.some.injEq] at hc hv
      subst hc; subst hv
      exact val_rel R h1
    | succ k => simp only [List.map_cons, List.getElem?_cons_succ] at hc hv; exact ih.2 k c v hc hv

theorem go_mkfn (R : Rel E N g σ a w) {f : FuncId} {first caps : Array Operand} (hf : first.isEmpty = true) {vl : List VX} (hx : caps.toList.mapM cX = some vl) {s : SV} (he : evalV σ (.mkfn f vl) = some s) :
    ∃ v, (Instr.makeFunc (.func f) (first.map a.eval) (caps.map a.eval)).run P w = .ok v w ∧ SVRel w g σ.obj s v := by
  have h := mapM_cX_rel R caps.toList vl hx
  have hfe : first = #[] := by simpa using hf
  subst hfe
  refine ⟨.func (.func f) #[] (caps.toList.map a.eval).toArray, ?_, ?_⟩
  · have e : caps.map a.eval = (caps.toList.map a.eval).toArray := by apply Array.ext'; simp
    rw [e]
    simp [Instr.makeFunc]
  · cases vl with
    | nil =>
      simp only [evalV, Option.some.injEq] at he
      subst he
      have h0 : caps.toList = [] := List.eq_nil_of_length_eq_zero (by simpa using h.1)
      rw [h0]
      exact .pv _ _ (.fn f)
    | cons v vr =>
      simp only [evalV, Option.some.injEq] at he
      subst he
      exact .clo f _ _ (by simp [h.1]) h.2

theorem ptr_drop {Ps : Nat → Prop} {cs : List PV} {b off : Nat} (k : Nat) (h : PVRel w Ps (.ptr cs) (.pointer (some ⟨b, off, none⟩))) : PVRel w Ps (.ptr (cs.drop k)) (.pointer (some ⟨b, off + k, none⟩)) := by
  cases h with
  | ptr cs b off u hb hw hr =>
    refine .ptr _ b (off + k) (fun j => u (k + j)) hb (fun j hj => ?_) (fun j c hc => ?_)
    · have := hw (k + j) (by simp at hj; omega)
      rwa [← Nat.add_assoc] at this
    · rw [List.getElem?_drop] at hc
      exact hr _ c hc

theorem go_faddr (R : Rel E N g σ a w) {t : TypeId} {f : Nat} {fd : Field} {m : Nat} (hf : fieldB P t f = some fd) (hn : sizeB P fd.type = some (m + 1)) {x : Operand} {vx : VX} (hx : cX x = some vx) {s : SV} (he : evalV σ (.faddr fd.offset vx) = some s) :
    ∃ v, (Instr.fieldAt t (a.eval x) f).run P w = .ok v w ∧ SVRel w g σ.obj s v := by
  have hr := val_rel R hx
  unfold fieldB at hf
  split at hf <;> first | cases hf | skip
  rename_i fs hu
  have hsz : (sizeOf fd.type).run P w = .ok (m + 1) w := by
    unfold sizeB at hn
    cases hi : P.info? fd.type with
    | none => rw [hi] at hn; cases hn
    | some i => rw [hi] at hn; simp at hn; simp [sizeOf, typeInfo, hi, hn]
  have hrun : ∀ b o, (Instr.fieldAt t (.pointer (some ⟨b, o, none⟩)) f).run P w = .ok (.pointer (some ⟨b, o + fd.offset, none⟩)) w := by
    intro b o
    simp only [Instr.fieldAt, Sem.run_bind, run_underlying hu, Result.andThen_ok, hf, Instr.sureAddr, Sem.run_pure, fieldPlace, hsz]
    simp [Addr.add_mid]
  simp only [evalV] at he
  generalize a.eval x = v at hr ⊢
  split at he <;> try (cases he; done)
  · rename_i cs hb
    simp only [Option.some.injEq] at he
    subst he
    rw [hb] at hr
    have h1 := hr.pv_inv
    obtain ⟨b, o, rfl⟩ : ∃ b o, v = .pointer (some ⟨b, o, none⟩) := by cases h1; exact ⟨_, _, rfl⟩
    exact ⟨_, hrun b o, .pv _ _ (ptr_drop _ h1)⟩
  · rename_i n o hb
    simp only [Option.some.injEq] at he
    subst he
    rw [hb] at hr
    cases hr with
    | ref n off b t' cs ho hβ => exact ⟨_, hrun b _, .ref n _ b t' cs ho hβ⟩
  · rename_i n o tag hb
    rw [hb] at hr
    cases hr with
    | aref n off tag t' sz cs v ho hg hβ h1 =>
      simp only [ho] at he
      split at he <;> try (cases he; done)
      rename_i htag
      simp only [Option.some.injEq] at he
      subst he
      obtain ⟨b, hb1, rfl⟩ := hβ htag
      exact ⟨_, hrun b o, .aref n _ tag t' sz cs _ ho hg (fun _ => ⟨b, hb1, rfl⟩) rfl⟩
end
end Go.VL
