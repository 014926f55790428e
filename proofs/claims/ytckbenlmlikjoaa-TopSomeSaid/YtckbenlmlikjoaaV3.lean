/- The value-level logic, part 3: operations that yield a value and leave the world alone. -/
import Derived.Test.YtckbenlmlikjoaaV2
import Derived.Laws.Entries
import Derived.Laws.Build
import Derived.Laws.Slices
import Derived.Laws.Concat
import Derived.Laws.Strings
set_option linter.unusedVariables false
set_option linter.unusedSimpArgs false
namespace Go.VL

inductive VX where
  | s (d : Nat)
  | c (x : PV)
  | f (f : FuncId)
  deriving Inhabited

/-- What a nil may be. -/
inductive NK where
  | ptr | slice | map | func | iface
  deriving DecidableEq, Inhabited

inductive VO where
  | mv (x : VX)
  | pick (c a b : VX)
  | alloc (t : TypeId) (zs : List PV)
  | box (t : TypeId) (x : VX)
  | build (zs : List PV) (parts : List (Nat × Nat × VX))
  | bslice (own : Bool) (e sz : Nat) (parts : List VX)
  | load (agg : Bool) (n : Nat) (x : VX)
  | store (n : Nat) (a x : VX)
  | nilck (x : VX)
  | bin (op : BinOp) (x y : VX)
  | eqb (neg : Bool) (x y : VX)
  | eqn (k : NK) (neg : Bool) (x : VX)
  | un (op : UnOp) (x : VX)
  | conv (k : IntKind) (x : VX)
  | convs (x : VX)
  | mkif (t : TypeId) (x : VX)
  | mkfn (f : FuncId) (caps : List VX)
  | faddr (off : Nat) (x : VX)
  | field (agg : Bool) (off n : Nat) (x : VX)
  | iaddr (sz : Nat) (x i : VX)
  | sidx (x i : VX)
  | slice (sz : Nat) (x : VX) (lo hi : Option VX)
  | sslice (x : VX) (lo hi : Option VX)
  | len (x : VX)
  | slen (x : VX)
  | append (e sz bytes : Nat) (x y : VX)
  | appstr (e : Nat) (x y : VX)
  | call (f : FuncId) (args : List VX)
  | callv (fv : VX) (args : List VX)
  | extract (x : VX) (i : Nat)
  | mkslice (e sz bytes : Nat) (z : List PV) (n c : VX)
  | minmax (mx : Bool) (x y : VX)
  deriving Inhabited

/-- Constants. -/
def cV : Value → Option PV
  | .bool b => some (.bool b)
  | .int k n => some (.int k n)
  | .string s => some (.str s)
  | .pointer none => some .nilPtr
  | .slice none 0 0 => some .nilS
  | .map none => some .nilMap
  | .nilFunc => some .nilFunc
  | .nilIface => some .nilIface
  | _ => none
/-- Constants, also of struct types. -/
def cV2 : Value → Option PV
  | .agg vs => (vs.toList.mapM cV).map .agg
  | v => cV v
def cX : Operand → Option VX
  | .tmp t => some (.s t)
  | .const v => (cV2 v).map .c
  | .func f => some (.f f)
  | .global _ => none

def St.val (σ : St) : VX → SV
  | .s d => σ.get d
  | .c x => .pv x
  | .f f => .pv (.fn f)

theorem cV_rel (w : World) (Ps : Nat → Prop) {v : Value} {x : PV} (h : cV v = some x) : PVRel w Ps x v := by
  unfold cV at h
  split at h <;> first | (cases h; constructor) | cases h

theorem cV_one {v : Value} {x : PV} (h : cV v = some x) : v.oneCell' = true := by
  unfold cV at h
  split at h <;> first | rfl | cases h
theorem cV2_rel (w : World) (Ps : Nat → Prop) {v : Value} {x : PV} (h : cV2 v = some x) : PVRel w Ps x v := by
  unfold cV2 at h
  split at h
  · rename_i vs
    simp only [Option.map_eq_some_iff] at h
    obtain ⟨xs, hm, rfl⟩ := h
    have key : ∀ (l : List Value) (ys : List PV), l.mapM cV = some ys → ys.length = l.length ∧ (∀ v ∈ l, v.oneCell' = true) ∧ ∀ (k : Nat) c v, ys[k]? = some c → l[k]? = some v → PVRel w Ps c v := by
      intro l
      induction l with
      | nil => intro ys h; simp at h; subst h; simp
      | cons v l ih =>
        intro ys h
        simp only [List.mapM_cons, Option.bind_eq_bind, Option.bind_eq_some_iff, Option.pure_def, Option.some.injEq] at h
        obtain ⟨y, h1, ys', h2, rfl⟩ := h
        obtain ⟨e1, e2, e3⟩ := ih ys' h2
        refine ⟨by simp [e1], ?_, fun k c u hc hu => ?_⟩
        · intro u hu
          rcases List.mem_cons.1 hu with rfl | hu
          · exact cV_one h1
          · exact e2 u hu
        · cases k with
          | zero => simp at hc hu; subst hc; subst hu; exact cV_rel w Ps h1
          | succ k => exact e3 k c u (by simpa using hc) (by simpa using hu)
    obtain ⟨e1, e2, e3⟩ := key _ _ hm
    have := PVRel.agg (w := w) (Ps := Ps) xs vs.toList e1 e2 e3
    simpa using this
  · exact cV_rel w Ps h

theorem val_rel {E : Env} {N : Nat} {g : Gh} {σ : St} {a : Act} {w : World} (R : Rel E N g σ a w) {o : Operand} {x : VX} (h : cX o = some x) : SVRel w g σ.obj (σ.val x) (a.eval o) := by
  cases o with
  | tmp t => simp only [cX, Option.some.injEq] at h; subst h; exact R.slots t
  | const v =>
    simp only [cX, Option.map_eq_some_iff] at h
    obtain ⟨p, hp, rfl⟩ := h
    exact .pv _ _ (cV2_rel w g.Ps hp)
  | func f => simp only [cX, Option.some.injEq] at h; subst h; exact .pv _ _ (.fn f)
  | global g => simp [cX] at h

/-! ### What a told value is -/
section
variable {w : World} {g : Gh} {h : Nm → Option OV} {v : Value}
theorem SVRel.pv_inv {x : PV} (r : SVRel w g h (.pv x) v) : PVRel w g.Ps x v := by cases r; assumption
theorem SVRel.int {k : IntKind} {n : Int} (r : SVRel w g h (.pv (.int k n)) v) : v = .int k n := by cases r.pv_inv; rfl
theorem SVRel.bool {b : Bool} (r : SVRel w g h (.pv (.bool b)) v) : v = .bool b := by cases r.pv_inv; rfl
theorem SVRel.str {s : ByteArray} (r : SVRel w g h (.pv (.str s)) v) : v = .string s := by cases r.pv_inv; rfl
theorem SVRel.nilPtr (r : SVRel w g h (.pv .nilPtr) v) : v = .pointer none := by cases r.pv_inv; rfl
theorem SVRel.nilS (r : SVRel w g h (.pv .nilS) v) : v = .slice none 0 0 := by cases r.pv_inv; rfl
theorem SVRel.nilIface (r : SVRel w g h (.pv .nilIface) v) : v = .nilIface := by cases r.pv_inv; rfl
theorem SVRel.nilFunc (r : SVRel w g h (.pv .nilFunc) v) : v = .nilFunc := by cases r.pv_inv; rfl
theorem SVRel.nilMap (r : SVRel w g h (.pv .nilMap) v) : v = .map none := by cases r.pv_inv; rfl
end

/-- All of it told as immutable? -/
def pvs : List SV → Option (List PV)
  | [] => some []
  | .pv x :: r => (pvs r).map (x :: ·)
  | _ => none
theorem pvs_spec {cs : List SV} {xs : List PV} (h : pvs cs = some xs) : cs = xs.map .pv := by
  induction cs generalizing xs with
  | nil => simp [pvs] at h; subst h; rfl
  | cons c r ih =>
    cases c <;> simp only [pvs, Option.map_eq_some_iff, reduceCtorEq] at h
    obtain ⟨ys, h1, rfl⟩ := h
    simp [ih h1]
def mkAgg (cs : List SV) : SV := match pvs cs with
  | some xs => .pv (.agg xs)
  | none => .agg cs
theorem Cells.mkAgg {w : World} {g : Gh} {h : Nm → Option OV} {cs : List SV} {vs : List Value} (r : Cells w g h cs vs) : SVRel w g h (mkAgg cs) (.agg vs.toArray) := by
  unfold VL.mkAgg
  split
  · rename_i xs hx
    have := pvs_spec hx
    subst this
    refine .pv _ _ (.agg xs vs (by simpa using r.1) r.2.1 (fun k c v hc hv => ?_))
    exact (r.2.2 k (.pv c) v (by simp [hc]) hv).pv_inv
  · exact .agg cs vs r.1 r.2.1 r.2.2

/-- The cells of a value that comes into memory. -/
def SV.cellsL : SV → Option (List SV)
  | .pv x => some (x.cells.map .pv)
  | .agg cs => some cs
  | .tup _ => none
  | .junk => none
  | s => some [s]
theorem PVRel.cells {w : World} {Ps : Nat → Prop} {x : PV} {v : Value} (r : PVRel w Ps x v) : x.cells.length = v.cells.size ∧ (∀ u ∈ v.cells.toList, u.oneCell' = true) ∧ ∀ (k : Nat) c u, x.cells[k]? = some c → v.cells.toList[k]? = some u → PVRel w Ps c u := by
  have one : ∀ (x : PV) (v : Value), PVRel w Ps x v → v.oneCell' = true → x.cells = [x] → v.cells = #[v] → x.cells.length = v.cells.size ∧ (∀ u ∈ v.cells.toList, u.oneCell' = true) ∧ ∀ (k : Nat) c u, x.cells[k]? = some c → v.cells.toList[k]? = some u → PVRel w Ps c u := by
    intro x v r h1 hx hv
    rw [hx, hv]
    refine ⟨rfl, by simpa using h1, fun k c u hc hu => ?_⟩
    cases k with
    | zero => simp at hc hu; subst hc; subst hu; exact r
    | succ k => simp at hc
  cases r with
  | agg cs vs hl h1 hr => exact ⟨by simpa [PV.cells, Value.cells] using hl, by simpa [Value.cells] using h1, by simpa [PV.cells, Value.cells] using hr⟩
  | bool b => exact one _ _ (.bool b) rfl rfl rfl
  | int k n => exact one _ _ (.int k n) rfl rfl rfl
  | str s => exact one _ _ (.str s) rfl rfl rfl
  | list sz xs base cap b off u hs hb hm hcap hw hr hnc => exact one _ _ (.list sz xs base cap b off u hs hb hm hcap hw hr hnc) rfl rfl rfl
  | emptyS a cap => exact one _ _ (.emptyS a cap) rfl rfl rfl
  | nilS => exact one _ _ .nilS rfl rfl rfl
  | ptr cs b off u hb hw hr => exact one _ _ (.ptr cs b off u hb hw hr) rfl rfl rfl
  | nilPtr => exact one _ _ .nilPtr rfl rfl rfl
  | nilIface => exact one _ _ .nilIface rfl rfl rfl
  | nilFunc => exact one _ _ .nilFunc rfl rfl rfl
  | nilMap => exact one _ _ .nilMap rfl rfl rfl
  | iface t x v hr => exact one _ _ (.iface t x v hr) rfl rfl rfl
  | fn f => exact one _ _ (.fn f) rfl rfl rfl
theorem SVRel.cellsL {w : World} {g : Gh} {h : Nm → Option OV} {s : SV} {v : Value} {cs : List SV} (r : SVRel w g h s v) (hc : s.cellsL = some cs) : Cells w g h cs v.cells.toList := by
  have one : ∀ (s : SV) (v : Value), SVRel w g h s v → v.oneCell' = true → v.cells = #[v] → Cells w g h [s] v.cells.toList := by
    intro s v r h1 hv
    rw [hv]
    refine ⟨rfl, by simpa using h1, fun k c u hc hu => ?_⟩
    cases k with
    | zero => simp at hc hu; subst hc; subst hu; exact r
    | succ k => simp at hc
  cases r with
  | pv x v hx =>
    simp only [SV.cellsL, Option.some.injEq] at hc
    subst hc
    have := hx.cells
    refine ⟨by simpa using this.1, this.2.1, fun k c u hc hu => ?_⟩
    simp only [List.getElem?_map, Option.map_eq_some_iff] at hc
    obtain ⟨p, hp, rfl⟩ := hc
    exact .pv _ _ (this.2.2 k p u hp hu)
  | ref n off b t cs' ho hb => simp only [SV.cellsL, Option.some.injEq] at hc; subst hc; exact one _ _ (.ref n off b t cs' ho hb) rfl rfl
  | aref n off tag t sz cs' v ho hg hb h1 => simp only [SV.cellsL, Option.some.injEq] at hc; subst hc; exact one _ _ (.aref n off tag t sz cs' v ho hg hb h1) h1 (by cases v <;> first | rfl | simp [Value.oneCell'] at h1)
  | arr n tag t sz cs' v ho hg hb h1 => simp only [SV.cellsL, Option.some.injEq] at hc; subst hc; exact one _ _ (.arr n tag t sz cs' v ho hg hb h1) h1 (by cases v <;> first | rfl | simp [Value.oneCell'] at h1)
  | clo f caps vs hl hr => simp only [SV.cellsL, Option.some.injEq] at hc; subst hc; exact one _ _ (.clo f caps vs hl hr) rfl rfl
  | agg cs' vs hl h1 hr => simp only [SV.cellsL, Option.some.injEq] at hc; subst hc; exact ⟨hl, h1, hr⟩
  | tup cs' vs hl hr => simp [SV.cellsL] at hc
  | junk v => simp [SV.cellsL] at hc
end Go.VL
