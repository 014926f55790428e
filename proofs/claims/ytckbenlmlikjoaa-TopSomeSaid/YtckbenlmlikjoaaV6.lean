/- The value-level logic, part 6: the code's value operations and what they come to: the machine agrees. -/
import Derived.Test.YtckbenlmlikjoaaV5
set_option linter.unusedVariables false
set_option linter.unusedSimpArgs false
namespace Go.VL

/-- A bound that may be left out. -/
def cB : Option Operand → Option (Option VX)
  | none => some none
  | some x => (cX x).map some
def placesB (P : Program) (t : TypeId) : Option (Nat → Option (Nat × Nat)) := match P.underlying t with
  | some (.array _ e) => (P.info? e).map fun i k => some (k * i.size, i.size)
  | some (.struct fs) => (fs.toList.mapM fun f => (P.info? f.type).map fun i => (f.offset, i.size)).map fun l k => l[k]?
  | _ => none
def partsB (pl : Nat → Option (Nat × Nat)) : List (Nat × Operand) → Option (List (Nat × Nat × VX))
  | [] => some []
  | (f, x) :: r => match pl f, cX x, partsB pl r with
    | some (off, n), some vx, some l => some ((off, n, vx) :: l)
    | _, _, _ => none
/-- Builtins that yield a value alone. -/
def cBuiltin (P : Program) (c : Call) : Option VO := match c.callee, c.args.toList, c.argTypes.toList with
  | .builtin .len, [x], [t] => (match P.underlying t with
    | some (.slice _) => (cX x).map .len
    | some .string => (cX x).map .slen
    | _ => none)
  | .builtin .min, [x, y], _ => (match cX x, cX y with
    | some x, some y => some (.minmax false x y)
    | _, _ => none)
  | .builtin .max, [x, y], _ => (match cX x, cX y with
    | some x, some y => some (.minmax true x y)
    | _, _ => none)
  | _, _, _ => none
/-- The value operations of the code. -/
def cV1 (P : Program) (o : Oper) : Option VO := match o.op with
  | .move x => (cX x).map .mv
  | .assign x => (cX x).map .mv
  | .pick c a b => match cX c, cX a, cX b with
    | some c, some a, some b => some (.pick c a b)
    | _, _, _ => none
  | .load t x => match rowB P t, sizeB P t, cX x with
    | some true, some n, some x => some (.load true n x)
    | some false, some 1, some x => some (.load false 1 x)
    | _, _, _ => none
  | .nilCheck x => (cX x).map .nilck
  | .binOp op t x y _ => match cX x, cX y with
    | some vx, some vy =>
      if isIntT P t || isStrT P t then some (.bin op vx vy)
      else if isBoolT P t then (match op with | .eql => some (.eqb false vx vy) | .neq => some (.eqb true vx vy) | _ => none)
      else match nkOf P t with
        | some k => if isConstNil k y then (match op with | .eql => some (.eqn k false vx) | .neq => some (.eqn k true vx) | _ => none) else none
        | none => none
    | _, _ => none
  | .unOp op _ x => (cX x).map (.un op)
  | .convert src dst x => match P.underlying src, P.underlying dst, cX x with
    | some _, some (.int k), some x => some (.conv k x)
    | some .string, some .string, some x => some (.convs x)
    | _, _, _ => none
  | .makeInterface t x => if P.concrete t then (cX x).map (.mkif t) else none
  | .makeFunc (.func f) first caps => if first.isEmpty then (caps.toList.mapM cX).map (.mkfn f) else none
  | .fieldAddr s x f => match fieldB P s f, cX x with
    | some fd, some x => (match sizeB P fd.type with | some (_ + 1) => some (.faddr fd.offset x) | _ => none)
    | _, _ => none
  | .field s x f => match fieldB P s f, cX x with
    | some fd, some x => (match rowB P fd.type, sizeB P fd.type with
      | some true, some n => some (.field true fd.offset n x)
      | some false, some 1 => some (.field false fd.offset 1 x)
      | _, _ => none)
    | _, _ => none
  | .indexAddr t x i => match elemB P t, cX x, cX i with
    | some (_, n), some x, some i => some (.iaddr n x i)
    | _, _, _ => none
  | .index t x i => if isStrT P t then (match cX x, cX i with | some x, some i => some (.sidx x i) | _, _ => none) else none
  | .call c => cBuiltin P c
  | .extract x i => (cX x).map (.extract · i)
  | .slice t x lo hi none => match cX x, cB lo, cB hi with
    | some x, some lo, some hi => if isStrT P t then some (.sslice x lo hi) else (match elemB P t with
      | some (_, n + 1) => some (.slice (n + 1) x lo hi)
      | _ => none)
    | _, _, _ => none
  | .build t parts => match zeroB P t, placesB P t with
    | some zs, some pl => (partsB pl parts.toList).map (.build zs)
    | _, _ => none
  | _ => none

section
variable {P : Program} {E : Env} {N : Nat} {g : Gh} {σ : St} {a : Act} {w : World}

theorem go_mv (R : Rel E N g σ a w) {x : Operand} {vx : VX} (hx : cX x = some vx) {s : SV} (he : evalV σ (.mv vx) = some s) : SVRel w g σ.obj s (a.eval x) := by
  simp only [evalV, Option.some.injEq] at he
  subst he
  exact val_rel R hx

theorem go_pick (R : Rel E N g σ a w) {c x y : Operand} {vc vx vy : VX} (hc : cX c = some vc) (hx : cX x = some vx) (hy : cX y = some vy) {s : SV} (he : evalV σ (.pick vc vx vy) = some s) :
    ∃ t, a.eval c = .bool t ∧ SVRel w g σ.obj s (if t then a.eval x else a.eval y) := by
  simp only [evalV] at he
  split at he
  · rename_i t ht
    simp only [Option.some.injEq] at he
    subst he
    have := val_rel R hc
    rw [ht] at this
    refine ⟨t, this.bool, ?_⟩
    cases t
    · exact val_rel R hy
    · exact val_rel R hx
  · cases he

theorem rowB_true {t : TypeId} (h : rowB P t = some true) : ∃ d, P.underlying t = some d ∧ d.isRow = true := by
  unfold rowB at h
  split at h <;> first | cases h | skip
  · rename_i fs hd; exact ⟨_, hd, rfl⟩
  · rename_i n e hd; exact ⟨_, hd, rfl⟩
theorem rowB_false {t : TypeId} (h : rowB P t = some false) (w : World) : (isAgg t).run P w = .ok false w := by
  unfold rowB at h
  split at h <;> first | cases h | skip
  rename_i d hn1 hn2 hd
  unfold isAgg
  rw [Sem.run_bind, run_underlying hd w]
  cases d <;> first | rfl | (exfalso; first | exact hn1 _ rfl | exact hn2 _ _ rfl)

theorem run_load1 (w : World) (a : Addr) (v : Value) (h : w.cell? a = some v) (m : Mode) : (load a m).run P w = .ok v w := by
  simp [load, Sem.run, h]

theorem Cells.take {h : Nm → Option OV} {cs : List SV} {vs : List Value} (r : Cells w g h cs vs) (n : Nat) : Cells w g h (cs.take n) (vs.take n) := by
  refine ⟨by simp [r.1], fun v hv => r.2.1 v (List.mem_of_mem_take hv), fun k c v hc hv => ?_⟩
  rw [List.getElem?_take] at hc hv
  split at hc
  · rename_i hk; rw [if_pos hk] at hv; exact r.2.2 k c v hc hv
  · cases hc
theorem Cells.drop {h : Nm → Option OV} {cs : List SV} {vs : List Value} (r : Cells w g h cs vs) (n : Nat) : Cells w g h (cs.drop n) (vs.drop n) := by
  refine ⟨by simp [r.1], fun v hv => r.2.1 v (List.mem_of_mem_drop hv), fun k c v hc hv => ?_⟩
  rw [List.getElem?_drop] at hc hv
  exact r.2.2 _ c v hc hv
theorem Cells.append {h : Nm → Option OV} {cs ds : List SV} {vs us : List Value} (r : Cells w g h cs vs) (q : Cells w g h ds us) : Cells w g h (cs ++ ds) (vs ++ us) := by
  refine ⟨by simp [r.1, q.1], fun v hv => ?_, fun k c v hc hv => ?_⟩
  · rcases List.mem_append.1 hv with hv | hv
    · exact r.2.1 v hv
    · exact q.2.1 v hv
  · rw [List.getElem?_append] at hc hv
    rw [r.1] at hc
    split at hc
    · rename_i hk; rw [if_pos hk] at hv; exact r.2.2 k c v hc hv
    · rename_i hk; rw [if_neg hk] at hv; exact q.2.2 _ c v hc hv

theorem go_load_row (R : Rel E N g σ a w) {t : TypeId} {x : Operand} {vx : VX} {n : Nat} (hr : rowB P t = some true) (hn : sizeB P t = some n) (hx : cX x = some vx) {s : SV} (he : evalV σ (.load true n vx) = some s) :
    ∃ v, (Instr.loadAt t (a.eval x)).run P w = .ok v w ∧ SVRel w g σ.obj s v := by
  simp only [evalV] at he
  split at he
  · rename_i cs hc
    split at he
    · rename_i hle
      simp only [if_true, Option.some.injEq] at he
      subst he
      obtain ⟨b, off, vs, hv, hC, hra⟩ := cellsFrom_rel R (val_rel R hx) hc
      obtain ⟨d, hd, hrow⟩ := rowB_true hr
      refine ⟨.agg (vs.take n).toArray, ?_, (hC.take n).mkAgg⟩
      rw [hv]
      refine run_loadAt_mid w b off t (vs.take n) d (fun j v hj => ?_) hd hrow ?_
      · rw [List.getElem?_take] at hj
        split at hj
        · exact hra j v hj
        · cases hj
      · unfold sizeB at hn
        rw [hn]
        simp [← hC.1, hle]
    · cases he
  · cases he

theorem go_load_one (R : Rel E N g σ a w) {t : TypeId} {x : Operand} {vx : VX} (hr : rowB P t = some false) (hx : cX x = some vx) {s : SV} (he : evalV σ (.load false 1 vx) = some s) :
    ∃ v, (Instr.loadAt t (a.eval x)).run P w = .ok v w ∧ SVRel w g σ.obj s v := by
  simp only [evalV] at he
  split at he
  · rename_i cs hc
    split at he
    · rename_i hle
      simp only [Bool.false_eq_true, if_false] at he
      obtain ⟨b, off, vs, hv, hC, hra⟩ := cellsFrom_rel R (val_rel R hx) hc
      have hlt : 0 < vs.length := by rw [← hC.1]; omega
      obtain ⟨u, hu⟩ : ∃ u, vs[0]? = some u := ⟨vs[0], List.getElem?_eq_getElem hlt⟩
      refine ⟨u, ?_, hC.2.2 0 s u he hu⟩
      have hcell := hra 0 u hu
      rw [hv]
      simp only [Instr.loadAt, Instr.sureAddr, Sem.run_bind, Sem.run_pure, Result.andThen_ok, loadVar, rowB_false hr, Bool.false_eq_true, if_false]
      exact run_load1 w _ u (by simpa using hcell) _
    · cases he
  · cases he

theorem go_nilck (R : Rel E N g σ a w) {x : Operand} {vx : VX} {o : Oper} (ho : o.op = .nilCheck x) (hx : cX x = some vx) {s : SV} (he : evalV σ (.nilck vx) = some s) :
    ∃ v, (execOp a.eval o).run P w = .ok (.value v) w ∧ SVRel w g σ.obj s v := by
  have hr := val_rel R hx
  simp only [evalV] at he
  refine ⟨a.eval x, ?_, ?_⟩
  · unfold execOp
    simp only [ho]
    generalize a.eval x = v at hr
    split at he
    · rename_i cs hc
      rw [hc] at hr
      cases hr.pv_inv
      rfl
    · rename_i n off hc
      rw [hc] at hr
      cases hr
      rfl
    · rename_i n o tag hc
      rw [hc] at hr
      cases hr with
      | aref n off tag t' sz cs v ho hg hβ h1 =>
        simp only [ho] at he
        split at he
        · rename_i htag
          obtain ⟨b, hb1, rfl⟩ := hβ htag
          rfl
        · cases he
    · rename_i f cs hc
      rw [hc] at hr
      cases hr
      rfl
    · rename_i f hc
      rw [hc] at hr
      cases hr.pv_inv
      rfl
    · cases he
  · split at he
    case h_3 =>
      rename_i n o tag hc
      split at he <;> try (cases he; done)
      split at he <;> try (cases he; done)
      simp only [Option.some.injEq] at he; subst he; rw [hc] at hr; exact hr
    all_goals first | (rename_i hc; simp only [Option.some.injEq] at he; subst he; rw [hc] at hr; exact hr) | cases he

theorem go_bin (R : Rel E N g σ a w) {op : BinOp} {t : TypeId} {x y : Operand} {vx vy : VX} (hx : cX x = some vx) (hy : cX y = some vy) {s : SV} (he : evalV σ (.bin op vx vy) = some s) :
    ∃ v, (do eqGuard op t x y (a.eval x) (a.eval y); binOp op t (a.eval x) (a.eval y) : Sem Value).run P w = .ok v w ∧ SVRel w g σ.obj s v := by
  simp only [evalV] at he
  split at he
  · rename_i p q hp hq
    simp only [Option.map_eq_some_iff] at he
    obtain ⟨r, hr, rfl⟩ := he
    obtain ⟨⟨u, hu⟩, ⟨v, hv⟩⟩ := evBin_val hr
    have h1 := val_rel R hx
    have h2 := val_rel R hy
    rw [hp] at h1
    rw [hq] at h2
    rw [val?_rel hu h1.pv_inv, val?_rel hv h2.pv_inv]
    obtain ⟨z, hz1, hz2⟩ := evBin_run (P := P) (w := w) (op := op) (t := t) (x := x) (y := y) hu hv hr
    exact ⟨z, hz1, .pv _ _ (val?_mk hz2)⟩
  · cases he

theorem run_equal_bool {t : TypeId} (ht : P.underlying t = some .bool) (p q : Bool) : (Op.equal t (.bool p) (.bool q)).run P w = .ok (p == q) w := by
  unfold Op.equal
  rw [show Op.maxDepth = 9999 + 1 from rfl]
  unfold Op.equalIn
  rw [Sem.run_bind, run_underlying ht w]
  rfl

theorem go_eqb (R : Rel E N g σ a w) {neg : Bool} {op : BinOp} (hop : op = if neg then .neq else .eql) {t : TypeId} (ht : P.underlying t = some .bool) {x y : Operand} {vx vy : VX} (hx : cX x = some vx) (hy : cX y = some vy) {s : SV} (he : evalV σ (.eqb neg vx vy) = some s) :
    ∃ v, (do eqGuard op t x y (a.eval x) (a.eval y); binOp op t (a.eval x) (a.eval y) : Sem Value).run P w = .ok v w ∧ SVRel w g σ.obj s v := by
  simp only [evalV] at he
  split at he
  · rename_i p q hp hq
    simp only [Option.some.injEq] at he
    subst he
    have h1 := val_rel R hx
    have h2 := val_rel R hy
    rw [hp] at h1
    rw [hq] at h2
    rw [h1.bool, h2.bool, eqGuard_at_bool]
    refine ⟨_, ?_, .pv _ _ (.bool _)⟩
    cases neg
    · subst hop
      simp only [Bool.false_eq_true, if_false, binOp, Sem.run_bind, Sem.run_pure, Result.andThen_ok, run_equal_bool ht, pure_bind]
    · subst hop
      simp only [if_true, binOp, Sem.run_bind, Sem.run_pure, Result.andThen_ok, run_equal_bool ht, pure_bind]
  · cases he
end
end Go.VL
