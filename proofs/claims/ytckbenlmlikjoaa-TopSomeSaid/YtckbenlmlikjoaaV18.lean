/- The value-level logic, part 18: operations with their guards; the code's operations, translated; statements without an open order. -/
import Derived.Test.YtckbenlmlikjoaaV17
set_option linter.unusedVariables false
set_option linter.unusedSimpArgs false
namespace Go.VL

structure VOp where
  dst : Option Nat
  guard : Option (Nat × Bool)
  op : VO
  deriving Inhabited

def guardB (σ : St) : Option (Nat × Bool) → Option Bool
  | none => some true
  | some (s, b) => match σ.get s with
    | .pv (.bool c) => some (c == b)
    | .tup [] => some false
    | _ => none

def hasBody (P : Program) (f : FuncId) : Bool := match P.funcs[f]? with
  | some fn => fn.body.isSome && !(fn.name == "runtime.NumGoroutine")
  | none => false

/-- An operation that has its turn. -/
def vexec (P : Program) (dst : Option Nat) (op : VO) (σ : St) (K : St → Prop) : Prop :=
  match op with
  | .alloc t zs => match dst with
    | some d => match newBox σ d t (zs.map .pv) with
      | some σ' => K σ'
      | none => False
    | none => False
  | .box t x => match dst, (σ.val x).cellsL with
    | some d, some cs => match newBox σ d t cs with
      | some σ' => K σ'
      | none => False
    | _, _ => False
  | .bslice own e sz parts => match dst with
    | some d => match bsliceS σ d e sz own parts with
      | some σ' => K σ'
      | none => False
    | none => False
  | .store n p x => match dst with
    | some _ => False
    | none => match VL.storeAt σ n (σ.val p) (σ.val x) with
      | some σ' => K σ'
      | none => False
  | .append e sz bytes x y => match dst with
    | some d => match appS σ d e sz bytes (σ.val x) (σ.val y) with
      | some σ' => K σ'
      | none => False
    | none => False
  | .appstr e x y => match dst with
    | some d => match appStrS σ d e (σ.val x) (σ.val y) with
      | some σ' => K σ'
      | none => False
    | none => False
  | .mkslice e sz bytes z n c => match dst with
    | some d => match mkS σ d e sz bytes z (σ.val n) (σ.val c) with
      | some σ' => K σ'
      | none => False
    | none => False
  | .call f args => VCall P f (args.map σ.val) dst σ K
  | .callv x args => match σ.val x with
    | .pv (.fn f) => hasBody P f = true ∧ VCall P f (args.map σ.val) dst σ K
    | .clo f caps => hasBody P f = true ∧ VCall P f (args.map σ.val ++ caps) dst σ K
    | _ => False
  | op => match evalV σ op with
    | some s => K (setD σ dst s)
    | none => False

/-- A value operation. -/
def isVal : VO → Bool
  | .alloc _ _ | .box _ _ | .bslice _ _ _ _ | .store _ _ _ | .append _ _ _ _ _ | .appstr _ _ _ | .mkslice _ _ _ _ _ _ | .call _ _ | .callv _ _ => false
  | _ => true
theorem vexec_val {P : Program} {dst : Option Nat} {op : VO} (h : isVal op = true) (σ : St) (K : St → Prop) : vexec P dst op σ K = match evalV σ op with
    | some s => K (setD σ dst s)
    | none => False := by
  cases op <;> first | rfl | simp [isVal] at h

def vstep (P : Program) (o : VOp) (σ : St) (K : St → Prop) : Prop :=
  match guardB σ o.guard with
  | some true => vexec P o.dst o.op σ K
  | some false => K (setD σ o.dst (.tup []))
  | none => False

/-! ### The translation -/
def infoOk (P : Program) (e : TypeId) : Option (Nat × Nat) := match P.info? e with
  | some i => match i.zero with
    | some z => if z.cells.size = i.size ∧ 0 < i.size then some (i.size, i.bytes) else none
    | none => none
  | none => none
/-- Calls. -/
def cCall (P : Program) (c : Call) : Option VO := match c.callee, c.args.toList, c.argTypes.toList with
  | .builtin .append, [x, y], [t, u] => match P.underlying t with
    | some (.slice e) => (match infoOk P e, cX x, cX y with
      | some (n, b), some x, some y => if t = u then some (.append e n b x y) else
        (match P.underlying u, (P.info? e).bind (·.zero) with
        | some .string, some (.int .u8 0) => if n = 1 ∧ b = 1 then some (.appstr e x y) else none
        | _, _ => none)
      | _, _, _ => none)
    | _ => none
  | .value (.func f), args, _ => if hasBody P f then (args.mapM cX).map (.call f) else none
  | .value (.tmp t), args, _ => (args.mapM cX).map (.callv (.s t))
  | _, _, _ => none
/-- Operations that change memory, or call. -/
def cW (P : Program) (own : Nat → Bool) (o : Oper) : Option VO := match o.op with
  | .alloc t => (zeroB P t).map (.alloc t)
  | .box t x => (cX x).map (.box t)
  | .buildSlice t len parts => match P.underlying t with
    | some (.slice e) => (match infoOk P e, inOrder 0 parts.toList with
      | some (n, _), some vl => if parts.size = len ∧ len * n ≤ 2 ^ 24 then some (.bslice ((o.dst.map own).getD false) e n vl) else none
      | _, _ => none)
    | _ => none
  | .store t p x => match sizeB P t, cX p, cX x with
    | some n, some p, some x => some (.store n p x)
    | _, _, _ => none
  | .makeSlice t n c => match P.underlying t with
    | some (.slice e) => (match infoOk P e, zeroB P e, cX n, cX c with
      | some (sz, b), some zs, some n, some c => if zs.length = sz then some (.mkslice e sz b zs n c) else none
      | _, _, _, _ => none)
    | _ => none
  | .call c => cCall P c
  | _ => none
def cGuard (ops : Array Oper) : Option (Nat × Bool) → Option (Option (Nat × Bool))
  | none => some none
  | some (j, b) => match (ops[j]?).bind (·.dst) with
    | some d => some (some (d, b))
    | none => none
def cO (P : Program) (own : Nat → Bool) (o : Oper) : Option VO := match cV1 P o with
  | some v => if isVal v then some v else none
  | none => cW P own o
def dstOk (N : Nat) : Option Nat → Bool
  | some d => decide (d < N)
  | none => true
def cOp (P : Program) (N : Nat) (own : Nat → Bool) (ops : Array Oper) (o : Oper) : Option VOp :=
  if dstOk N o.dst = true then
    match cGuard ops o.guard, cO P own o with
    | some g, some v => some ⟨o.dst, g, v⟩
    | _, _ => none
  else none

section
variable {P : Program} {E : Env} {N : Nat} {g : Gh} {σ : St} {a : Act} {w : World}

theorem infoOk_eq {e : TypeId} {n b : Nat} (h : infoOk P e = some (n, b)) : ∃ i z, P.info? e = some i ∧ i.size = n ∧ i.bytes = b ∧ i.zero = some z ∧ z.cells.size = n ∧ 0 < n ∧ sizeB P e = some n := by
  unfold infoOk at h
  split at h <;> try (cases h; done)
  rename_i i hi
  split at h <;> try (cases h; done)
  rename_i z hz
  split at h <;> try (cases h; done)
  rename_i hc
  simp only [Option.some.injEq, Prod.mk.injEq] at h
  obtain ⟨rfl, rfl⟩ := h
  exact ⟨i, z, hi, rfl, rfl, hz, hc.1, hc.2, by unfold sizeB; rw [hi]; rfl⟩

theorem hasBody_run {f : FuncId} (h : hasBody P f = true) (args : Array Value) : (callFunc f args).run P w = .ok (.enter f args) w := by
  unfold hasBody at h
  split at h <;> try (cases h; done)
  rename_i fn hf
  simp only [Bool.and_eq_true, Bool.not_eq_true', Option.isSome_iff_exists] at h
  obtain ⟨⟨c, hb⟩, hn⟩ := h
  simp only [callFunc, Sem.run_bind, program]
  have hn' : ¬ fn.name = "runtime.NumGoroutine" := by simpa using hn
  simp [Sem.run, hf, hn', hb]

theorem guard_wanted (R : Rel E N g σ a w) {ops : Array Oper} {o : Oper} {gd : Option (Nat × Bool)} (hg : cGuard ops o.guard = some gd) {b : Bool} (hb : guardB σ gd = some b) : Region.wanted o (yielded ops a.tmps) = b := by
  unfold Region.wanted
  cases ho : o.guard with
  | none =>
    rw [ho] at hg
    simp only [cGuard, Option.some.injEq] at hg
    subst hg
    simpa [guardB] using hb
  | some p =>
    obtain ⟨j, want⟩ := p
    rw [ho] at hg
    simp only [cGuard] at hg
    split at hg <;> try (cases hg; done)
    rename_i d hd
    simp only [Option.some.injEq] at hg
    subst hg
    simp only [guardB] at hb
    split at hb
    · rename_i c hc
      simp only [Option.some.injEq] at hb
      have hs := R.slots d
      rw [hc] at hs
      have hv := hs.bool
      have hlt : d < a.tmps.size := by
        rcases Nat.lt_or_ge d a.tmps.size with h | h
        · exact h
        · simp [Array.getD_eq_getD_getElem?, Array.getElem?_eq_none h, undef] at hv
      have hv' : a.tmps[d]? = some (.bool c) := by
        rw [Array.getElem?_eq_getElem hlt]
        simp [Array.getD_eq_getD_getElem?, hlt] at hv
        rw [hv]
      simp only [yielded, hd, Option.bind_some, hv']
      rw [← hb]
      cases c <;> cases want <;> rfl
    · rename_i hc
      simp only [Option.some.injEq] at hb
      subst hb
      have hs := R.slots d
      rw [hc] at hs
      have hv : a.tmps.getD d undef = .tuple #[] := by
        generalize a.tmps.getD d undef = v at hs
        cases hs with
        | tup cs vs hl hr => rw [List.eq_nil_of_length_eq_zero hl.symm]
      have hy : yielded ops a.tmps j = none := by
        unfold yielded
        simp only [hd, Option.bind_some]
        rw [Array.getD_eq_getD_getElem?] at hv
        cases ht : a.tmps[d]? with
        | none => rfl
        | some u => rw [ht] at hv; simp only [Option.getD_some] at hv; rw [hv]
      simp only
      rw [hy]
      rfl
    · cases hb

/-- What an operation of the code does, if its told step comes to K. -/
theorem vexec_sound {own : Nat → Bool} {o : Oper} {vo : VO} (hc : cO P own o = some vo) (hd : ∀ d, o.dst = some d → d < N) (R : Rel E N g σ a w) {K : St → Prop} (hv : vexec P o.dst vo σ K)
    {K' : Act → World → Prop} {Q : Exit → Act → World → Prop} (hK : ∀ σ' g' a' w', K σ' → Rel E N g' σ' a' w' → K' a' w') : o.wp P a w K' Q := by
  unfold cO at hc
  split at hc
  · rename_i v hv1
    split at hc <;> try (cases hc; done)
    rename_i hval
    simp only [Option.some.injEq] at hc
    subst hc
    rw [vexec_val hval] at hv
    split at hv <;> try (cases hv; done)
    rename_i s hs
    obtain ⟨u, hrun, hr⟩ := evalV_sound hv1 R hs
    unfold Oper.wp
    rw [hrun, Oper.upon_value]
    exact hK _ g _ w hv (setD_rel R hd hr)
  · unfold cW at hc
    split at hc <;> try (cases hc; done)
    · rename_i t ho
      simp only [Option.map_eq_some_iff] at hc
      obtain ⟨zs, hz, rfl⟩ := hc
      simp only [vexec] at hv
      split at hv <;> try (cases hv; done)
      rename_i d hdd
      split at hv <;> try (cases hv; done)
      rename_i σ' hσ
      obtain ⟨v, w', g', hrun, hR⟩ := go_alloc (P := P) R hz (hd d hdd) hσ
      unfold Oper.wp execOp
      simp only [ho, val_run hrun, Oper.upon_value, hdd]
      exact hK _ g' _ w' hv hR
    · rename_i t x ho
      simp only [Option.map_eq_some_iff] at hc
      obtain ⟨vx, hx, rfl⟩ := hc
      simp only [vexec] at hv
      split at hv <;> try (cases hv; done)
      rename_i d cs hdd hcs
      split at hv <;> try (cases hv; done)
      rename_i σ' hσ
      obtain ⟨v, w', g', hrun, hR⟩ := go_box (P := P) R hx hcs (hd d hdd) hσ
      unfold Oper.wp execOp
      simp only [ho, val_run hrun, Oper.upon_value, hdd]
      exact hK _ g' _ w' hv hR
    · rename_i t len parts ho
      split at hc <;> try (cases hc; done)
      rename_i e hu
      split at hc <;> try (cases hc; done)
      rename_i n b vl hi hv'
      split at hc <;> try (cases hc; done)
      rename_i hcc
      simp only [Option.some.injEq] at hc
      subst hc
      simp only [vexec] at hv
      split at hv <;> try (cases hv; done)
      rename_i d hdd
      split at hv <;> try (cases hv; done)
      rename_i σ' hσ
      obtain ⟨i, z, h1, h2, h3, h4, h5, h6, h7⟩ := infoOk_eq hi
      obtain ⟨v, w', g', hrun, hR⟩ := go_bslice (P := P) R hu h1 h2 h4 h6 hcc.1 hcc.2 hv' (hd d hdd) hσ
      unfold Oper.wp execOp
      simp only [ho, val_run hrun, Oper.upon_value, hdd]
      exact hK _ g' _ w' hv hR
    · rename_i t p x ho
      split at hc <;> try (cases hc; done)
      rename_i n vp vx hn hp hx
      simp only [Option.some.injEq] at hc
      subst hc
      simp only [vexec] at hv
      split at hv <;> try (cases hv; done)
      rename_i hdd
      split at hv <;> try (cases hv; done)
      rename_i σ' hσ
      obtain ⟨w', hrun, hR⟩ := go_store (P := P) R hn hp hx hσ
      unfold Oper.wp execOp
      simp only [ho, Sem.run_bind, hrun, Result.andThen_ok, Sem.run_pure, Oper.upon_skip, hdd]
      exact hK _ g _ w' hv hR
    · rename_i t n c ho
      split at hc <;> try (cases hc; done)
      rename_i e hu
      split at hc <;> try (cases hc; done)
      rename_i sz b zs vn vc hi hz hn hcx
      split at hc <;> try (cases hc; done)
      rename_i hzl
      simp only [Option.some.injEq] at hc
      subst hc
      simp only [vexec] at hv
      split at hv <;> try (cases hv; done)
      rename_i d hdd
      split at hv <;> try (cases hv; done)
      rename_i σ' hσ
      obtain ⟨i, z, h1, h2, h3, h4, h5, h6, h7⟩ := infoOk_eq hi
      obtain ⟨v, w', g', hrun, hR⟩ := go_mkslice (P := P) R hu h1 h2 h3 hz hzl h6 hn hcx (hd d hdd) hσ
      unfold Oper.wp execOp
      simp only [ho, val_run hrun, Oper.upon_value, hdd]
      exact hK _ g' _ w' hv hR
    · rename_i c ho
      obtain ⟨callee, args, argTypes⟩ := c
      unfold cCall at hc
      simp only at hc
      split at hc <;> try (cases hc; done)
      · rename_i x y t u h1 h2
        have e1 := toList_two h1
        have e2 := toList_two h2
        subst e1
        subst e2
        split at hc <;> try (cases hc; done)
        rename_i e hu
        split at hc <;> try (cases hc; done)
        rename_i n b vx vy hi hx hy
        split at hc
        · rename_i htu
          subst htu
          simp only [Option.some.injEq] at hc
          subst hc
          simp only [vexec] at hv
          split at hv <;> try (cases hv; done)
          rename_i d hdd
          split at hv <;> try (cases hv; done)
          rename_i σ' hσ
          obtain ⟨i, z, h1, h2, h3, h4, h5, h6, h7⟩ := infoOk_eq hi
          obtain ⟨v, w', g', hrun, hR⟩ := go_append (P := P) (ty := o.type) R hu h1 h2 h3 h4 h5 h6 hx hy (hd d hdd) hσ
          unfold Oper.wp execOp
          simp only [ho, resolve, invoke, builtin, Sem.run_bind, Sem.run_pure, Result.andThen_ok, List.map_toArray, List.map_cons, List.map_nil, hrun, Oper.upon_value, hdd]
          exact hK _ g' _ w' hv hR
        · split at hc <;> try (cases hc; done)
          rename_i hus hz
          split at hc <;> try (cases hc; done)
          rename_i hnb
          obtain ⟨rfl, rfl⟩ := hnb
          simp only [Option.some.injEq] at hc
          subst hc
          simp only [vexec] at hv
          split at hv <;> try (cases hv; done)
          rename_i d hdd
          split at hv <;> try (cases hv; done)
          rename_i σ' hσ
          obtain ⟨i, z, h1, h2, h3, h4, h5, h6, h7⟩ := infoOk_eq hi
          rw [h1] at hz
          obtain ⟨v, w', g', hrun, hR⟩ := go_appstr (P := P) (ty := o.type) R hu hus h1 h2 h3 (by simpa using hz) hx hy (hd d hdd) hσ
          unfold Oper.wp execOp
          simp only [ho, resolve, invoke, builtin, Sem.run_bind, Sem.run_pure, Result.andThen_ok, List.map_toArray, List.map_cons, List.map_nil, hrun, Oper.upon_value, hdd]
          exact hK _ g' _ w' hv hR
      · rename_i f
        split at hc <;> try (cases hc; done)
        rename_i hb
        simp only [Option.map_eq_some_iff] at hc
        obtain ⟨vl, hvl, rfl⟩ := hc
        simp only [vexec] at hv
        have hm := mapM_cX_rel R args.toList vl hvl
        have hargs : args.map a.eval = (args.toList.map a.eval).toArray := by apply Array.ext'; simp
        have hcs := call_sound hv R hd (vs := args.toList.map a.eval) (by simp [hm.1]) hm.2
        unfold Oper.wp execOp
        simp only [ho, resolve, Act.eval, Deferred.ofValue, invoke, Sem.run_bind, Sem.run_pure, Result.andThen_ok, Array.append_empty, Array.empty_append, hasBody_run hb, Oper.upon_enter]
        rw [show (args.map fun x => a.eval x) = (args.toList.map a.eval).toArray from hargs]
        refine hcs.mono ?_
        rintro e w' ⟨v, σ', g', rfl, hk, hR⟩
        exact hK _ g' _ w' hk hR
      · rename_i t
        simp only [Option.map_eq_some_iff] at hc
        obtain ⟨vl, hvl, rfl⟩ := hc
        simp only [vexec] at hv
        have hm := mapM_cX_rel R args.toList vl hvl
        have hargs : args.map a.eval = (args.toList.map a.eval).toArray := by apply Array.ext'; simp
        have hrt := R.slots t
        split at hv <;> try (cases hv; done)
        · rename_i f hb
          have hb' : σ.get t = .pv (.fn f) := hb
          rw [hb'] at hrt
          have hev : a.tmps.getD t undef = .func (.func f) #[] #[] := by
            generalize a.tmps.getD t undef = v at hrt
            cases hrt.pv_inv
            rfl
          have hcs := call_sound hv.2 R hd (vs := args.toList.map a.eval) (by simp [hm.1]) hm.2
          unfold Oper.wp execOp
          simp only [ho, resolve, Act.eval, hev, Deferred.ofValue, invoke, Sem.run_bind, Sem.run_pure, Result.andThen_ok, Array.append_empty, Array.empty_append, hasBody_run hv.1, Oper.upon_enter]
          rw [show (args.map fun x => a.eval x) = (args.toList.map a.eval).toArray from hargs]
          refine hcs.mono ?_
          rintro e w' ⟨v, σ', g', rfl, hk, hR⟩
          exact hK _ g' _ w' hk hR
        · rename_i f caps hb
          have hb' : σ.get t = .clo f caps := hb
          rw [hb'] at hrt
          obtain ⟨us, hev, hul, hur⟩ : ∃ us : List Value, a.tmps.getD t undef = .func (.func f) #[] us.toArray ∧ caps.length = us.length ∧ ∀ (k : Nat) c v, caps[k]? = some c → us[k]? = some v → SVRel w g σ.obj c v := by
            generalize a.tmps.getD t undef = v at hrt
            cases hrt with
            | clo f caps vs hl hr => exact ⟨vs, rfl, hl, hr⟩
          have hcs := call_sound hv.2 R hd (vs := args.toList.map a.eval ++ us) (by simp [hm.1, hul]) (fun k c v hc hv' => by
            rw [List.getElem?_append] at hc hv'
            simp only [List.length_map, hm.1] at hc hv'
            split at hc
            · rename_i hk; rw [if_pos hk] at hv'; exact hm.2 k c v hc hv'
            · rename_i hk; rw [if_neg hk] at hv'; exact hur _ c v hc hv')
          unfold Oper.wp execOp
          simp only [ho, resolve, Act.eval, hev, Deferred.ofValue, invoke, Sem.run_bind, Sem.run_pure, Result.andThen_ok, Array.append_empty, Array.empty_append, hasBody_run hv.1, Oper.upon_enter]
          rw [show (args.map fun x => a.eval x) = (args.toList.map a.eval).toArray from hargs, show (args.toList.map a.eval).toArray ++ us.toArray = (args.toList.map a.eval ++ us).toArray by simp]
          refine hcs.mono ?_
          rintro e w' ⟨v, σ', g', rfl, hk, hR⟩
          exact hK _ g' _ w' hk hR
end
end Go.VL
