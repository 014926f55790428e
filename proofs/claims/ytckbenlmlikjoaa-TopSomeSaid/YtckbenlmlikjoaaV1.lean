/- The value-level logic, part 1: abstract values, abstract states, and when a state of the machine is told by one. Nothing of a program stands here. -/
import Derived.Calls
import Derived.Below
import Derived.Maps.AppendAt
import Derived.Laws.AppendOwn
import Derived.Laws.OwnMore
import Derived.Laws.NewFold
import Derived.Laws.IdiomCopy
import Derived.Tactics
set_option linter.unusedVariables false
set_option linter.unusedSimpArgs false
namespace Go.VL

/-- Immutable values, told by what they are. -/
inductive PV where
  | bool (b : Bool)
  | int (k : IntKind) (n : Int)
  | str (s : ByteArray)
  | agg (cs : List PV)
  | list (sz : Nat) (xs : List PV)
  | nilS
  | ptr (cs : List PV)
  | nilPtr
  | nilIface
  | nilFunc
  | nilMap
  | emptyS
  | iface (t : TypeId) (x : PV)
  | fn (f : FuncId)
  deriving Inhabited

def PV.cells : PV → List PV
  | .agg cs => cs
  | x => [x]
def flat (xs : List PV) : List PV := xs.flatMap PV.cells

def maxI : Nat := 9223372036854775807

/-- In world w the value reads as told; memory that it leads to lies in blocks of Ps. -/
inductive PVRel (w : World) (Ps : Nat → Prop) : PV → Value → Prop
  | bool (b : Bool) : PVRel w Ps (.bool b) (.bool b)
  | int (k : IntKind) (n : Int) : PVRel w Ps (.int k n) (.int k n)
  | str (s : ByteArray) : PVRel w Ps (.str s) (.string s)
  | agg (cs : List PV) (vs : List Value) (hl : cs.length = vs.length) (h1 : ∀ v ∈ vs, v.oneCell' = true)
      (hr : ∀ (k : Nat) c v, cs[k]? = some c → vs[k]? = some v → PVRel w Ps c v) : PVRel w Ps (.agg cs) (.agg vs.toArray)
  | list (sz : Nat) (xs : List PV) (base : Option Addr) (cap b off : Nat) (u : Nat → Value) (hs : ∀ x ∈ xs, x.cells.length = sz)
      (hb : xs ≠ [] → base = some ⟨b, off, none⟩ ∧ Ps b) (hm : xs.length ≤ maxI) (hcap : xs.length ≤ cap)
      (hw : ∀ k, k < (flat xs).length → w.cell? ⟨b, off + k, none⟩ = some (u k) ∧ (u k).oneCell' = true)
      (hr : ∀ (k : Nat) c, (flat xs)[k]? = some c → PVRel w Ps c (u k)) (hnc : base = none → cap = 0) : PVRel w Ps (.list sz xs) (.slice base xs.length cap)
  | nilS : PVRel w Ps .nilS (.slice none 0 0)
  | ptr (cs : List PV) (b off : Nat) (u : Nat → Value) (hb : Ps b)
      (hw : ∀ k, k < cs.length → w.cell? ⟨b, off + k, none⟩ = some (u k) ∧ (u k).oneCell' = true)
      (hr : ∀ (k : Nat) c, cs[k]? = some c → PVRel w Ps c (u k)) : PVRel w Ps (.ptr cs) (.pointer (some ⟨b, off, none⟩))
  | nilPtr : PVRel w Ps .nilPtr (.pointer none)
  | nilIface : PVRel w Ps .nilIface .nilIface
  | nilFunc : PVRel w Ps .nilFunc .nilFunc
  | nilMap : PVRel w Ps .nilMap (.map none)
  | emptyS (a : Addr) (cap : Nat) : PVRel w Ps .emptyS (.slice (some a) 0 cap)
  | iface (t : TypeId) (x : PV) (v : Value) (hr : PVRel w Ps x v) : PVRel w Ps (.iface t x) (.iface t v)
  | fn (f : FuncId) : PVRel w Ps (.fn f) (.func (.func f) #[] #[])

theorem PVRel.mono {w w' : World} {Ps Ps' : Nat → Prop} (hp : ∀ b, Ps b → Ps' b) (hc : ∀ b, Ps b → w'.heap[b]? = w.heap[b]?) {x : PV} {v : Value} (h : PVRel w Ps x v) : PVRel w' Ps' x v := by
  induction h with
  | bool b => exact .bool b
  | int k n => exact .int k n
  | str s => exact .str s
  | agg cs vs hl h1 _ ih => exact .agg cs vs hl h1 ih
  | list sz xs base cap b off u hs hb hm hcap hw _ hnc ih =>
    refine .list sz xs base cap b off u hs (fun hx => ⟨(hb hx).1, hp _ (hb hx).2⟩) hm hcap (fun k hk => ?_) ih hnc
    have hx : xs ≠ [] := by rintro rfl; simp [flat] at hk
    have := hw k hk
    exact ⟨(World.cell?_of_block (w := w) (w' := w') (a := ⟨b, off + k, none⟩) (hc b (hb hx).2)).trans this.1, this.2⟩
  | nilS => exact .nilS
  | ptr cs b off u hb hw _ ih =>
    refine .ptr cs b off u (hp _ hb) (fun k hk => ?_) ih
    have := hw k hk
    exact ⟨(World.cell?_of_block (w := w) (w' := w') (a := ⟨b, off + k, none⟩) (hc b hb)).trans this.1, this.2⟩
  | nilPtr => exact .nilPtr
  | nilIface => exact .nilIface
  | nilFunc => exact .nilFunc
  | nilMap => exact .nilMap
  | emptyS a cap => exact .emptyS a cap
  | iface t x v _ ih => exact .iface t x v ih
  | fn f => exact .fn f

/-- The names of what a frame owns. -/
abbrev Nm := List Nat

/-- Values of a frame. -/
inductive SV where
  | pv (x : PV)
  | ref (n : Nm) (off : Nat)
  | aref (n : Nm) (off tag : Nat)
  | arr (n : Nm) (tag : Nat)
  | mp (n : Nm)
  | clo (f : FuncId) (caps : List SV)
  | agg (cs : List SV)
  | tup (vs : List SV)
  | junk
  deriving Inhabited

/-- What a frame owns: a variable of its own; an array that only it reaches. -/
inductive OV where
  | box (t : TypeId) (cs : List SV)
  | arr (t : TypeId) (sz : Nat) (cs : List SV)
  deriving Inhabited

structure St where
  t : List (Nat × SV)
  h : List (Nm × OV)
  deriving Inhabited

def lkS : Nat → List (Nat × SV) → SV
  | _, [] => .junk
  | d, (e, v) :: r => if e = d then v else lkS d r
def lkO : Nm → List (Nm × OV) → Option OV
  | _, [] => none
  | n, (m, o) :: r => if m = n then some o else lkO n r
/-- A slot is set: it keeps its place in the list. -/
def setS (d : Nat) (v : SV) : List (Nat × SV) → List (Nat × SV)
  | [] => [(d, v)]
  | (e, u) :: r => if e = d then (d, v) :: r else if d < e then (d, v) :: (e, u) :: r else (e, u) :: setS d v r
def setO (n : Nm) (o : OV) : List (Nm × OV) → List (Nm × OV)
  | [] => [(n, o)]
  | (m, p) :: r => if m = n then (n, o) :: r else (m, p) :: setO n o r
def delS (ks : List Nat) (l : List (Nat × SV)) : List (Nat × SV) := l.filter fun e => !ks.contains e.1

theorem lkO_setO (n m : Nm) (o : OV) (l : List (Nm × OV)) : lkO m (setO n o l) = if n = m then some o else lkO m l := by
  induction l with
  | nil => simp [setO, lkO]
  | cons e r ih =>
    obtain ⟨e, u⟩ := e
    unfold setO
    by_cases h : e = n
    · subst h; simp only [if_true, lkO]; split <;> rfl
    · simp only [if_neg h, lkO, ih]
      by_cases h2 : e = m
      · subst h2; simp [Ne.symm h]
      · simp [h2]

def St.get (σ : St) (d : Nat) : SV := lkS d σ.t
def St.obj (σ : St) (n : Nm) : Option OV := lkO n σ.h
def St.set (σ : St) (d : Nat) (v : SV) : St := { σ with t := setS d v σ.t }
def St.put (σ : St) (n : Nm) (o : OV) : St := { σ with h := setO n o σ.h }

theorem lkS_setS_same (d : Nat) (v : SV) (l : List (Nat × SV)) : lkS d (setS d v l) = v := by
  induction l with
  | nil => simp [setS, lkS]
  | cons e r ih =>
    obtain ⟨e, u⟩ := e
    unfold setS
    by_cases h : e = d
    · simp [h, lkS]
    · simp only [if_neg h]
      by_cases h3 : d < e
      · simp [h3, lkS]
      · simp [h3, lkS, h, ih]
theorem lkS_setS_other (d e : Nat) (v : SV) (l : List (Nat × SV)) (hne : d ≠ e) : lkS e (setS d v l) = lkS e l := by
  induction l with
  | nil => simp [setS, lkS, hne]
  | cons c r ih =>
    obtain ⟨c, u⟩ := c
    unfold setS
    by_cases h : c = d
    · subst h; simp [lkS, hne]
    · simp only [if_neg h]
      by_cases h3 : d < c
      · simp [h3, lkS, hne]
      · simp [h3, lkS, ih]

theorem St.get_set_same (σ : St) (d : Nat) (v : SV) : (σ.set d v).get d = v := lkS_setS_same d v σ.t
theorem St.get_set_other (σ : St) (d e : Nat) (v : SV) (h : d ≠ e) : (σ.set d v).get e = σ.get e := lkS_setS_other d e v σ.t h
theorem St.obj_set (σ : St) (d : Nat) (v : SV) (n : Nm) : (σ.set d v).obj n = σ.obj n := rfl
theorem St.get_put (σ : St) (n : Nm) (o : OV) (d : Nat) : (σ.put n o).get d = σ.get d := rfl
theorem St.obj_put (σ : St) (n m : Nm) (o : OV) : (σ.put n o).obj m = if n = m then some o else σ.obj m := lkO_setO n m o σ.h

def blk : Value → Option Nat
  | .pointer (some a) => some a.block
  | .slice (some a) _ _ => some a.block
  | .map r => r
  | _ => none

/-- What stands behind the names, and which blocks nobody writes any more. -/
structure Gh where
  β : Nm → Value
  Ps : Nat → Prop

inductive SVRel (w : World) (g : Gh) (h : Nm → Option OV) : SV → Value → Prop
  | pv (x : PV) (v : Value) (hx : PVRel w g.Ps x v) : SVRel w g h (.pv x) v
  | ref (n : Nm) (off b : Nat) (t : TypeId) (cs : List SV) (ho : h n = some (.box t cs)) (hb : g.β n = .pointer (some ⟨b, 0, none⟩)) : SVRel w g h (.ref n off) (.pointer (some ⟨b, off, none⟩))
  | aref (n : Nm) (off tag : Nat) (t : TypeId) (sz : Nat) (cs : List SV) (v : Value) (ho : h n = some (.arr t sz cs)) (hg : tag ≤ cs.length)
      (hb : tag = cs.length → ∃ b, blk (g.β n) = some b ∧ v = .pointer (some ⟨b, off, none⟩)) (h1 : v.oneCell' = true) : SVRel w g h (.aref n off tag) v
  | arr (n : Nm) (tag : Nat) (t : TypeId) (sz : Nat) (cs : List SV) (v : Value) (ho : h n = some (.arr t sz cs)) (hg : tag ≤ cs.length) (hb : tag = cs.length → v = g.β n)
      (h1 : v.oneCell' = true) : SVRel w g h (.arr n tag) v
  | clo (f : FuncId) (caps : List SV) (vs : List Value) (hl : caps.length = vs.length) (hr : ∀ (k : Nat) c v, caps[k]? = some c → vs[k]? = some v → SVRel w g h c v) :
      SVRel w g h (.clo f caps) (.func (.func f) #[] vs.toArray)
  | agg (cs : List SV) (vs : List Value) (hl : cs.length = vs.length) (h1 : ∀ v ∈ vs, v.oneCell' = true) (hr : ∀ (k : Nat) c v, cs[k]? = some c → vs[k]? = some v → SVRel w g h c v) :
      SVRel w g h (.agg cs) (.agg vs.toArray)
  | tup (cs : List SV) (vs : List Value) (hl : cs.length = vs.length) (hr : ∀ (k : Nat) c v, cs[k]? = some c → vs[k]? = some v → SVRel w g h c v) :
      SVRel w g h (.tup cs) (.tuple vs.toArray)
  | junk (v : Value) : SVRel w g h .junk v

/-- Pointwise, for the cells of one thing. -/
def Cells (w : World) (g : Gh) (h : Nm → Option OV) (cs : List SV) (vs : List Value) : Prop :=
  cs.length = vs.length ∧ (∀ v ∈ vs, v.oneCell' = true) ∧ ∀ (k : Nat) c v, cs[k]? = some c → vs[k]? = some v → SVRel w g h c v

def ObjRel (w : World) (g : Gh) (h : Nm → Option OV) (n : Nm) : OV → Prop
  | .box t cs => ∃ b cur, g.β n = .pointer (some ⟨b, 0, none⟩) ∧ w.heap[b]? = some (.cells cur t (0, 0)) ∧ Cells w g h cs cur.toList
  | .arr t sz cs => 0 < sz ∧ ∃ k xs, w.ownsRow 0 t sz (g.β n) k xs ∧ Cells w g h cs xs

/-- The start of a frame: the world, what it may write, what nobody writes. -/
structure Env where
  w0 : World
  A : Nat → Prop
  P0 : Nat → Prop
  pin : Nm → Option (OV × Value)
@[reducible] def mkE (w : World) (A P0 : Nat → Prop) : Env := ⟨w, A, P0, fun _ => none⟩

/-- What was handed in and is still told: at its place, of its kind. -/
def PinOk : Option (OV × Value) → Value → OV → Prop
  | none, _, _ => False
  | some (.box t _, v0), v, o => v = v0 ∧ ∃ cs, o = .box t cs
  | some (.arr t sz cs0, v0), v, o => ∃ cs, o = .arr t sz cs ∧ cs0.length ≤ cs.length ∧ (cs0.length = cs.length → v = v0)

/-- Nothing that is not in A and was there has turned. -/
structure Keeps (w w' : World) (A : Nat → Prop) : Prop where
  os : w'.os = w.os
  tape : w'.tape = w.tape
  output : w'.output = w.output
  size : w.heap.size ≤ w'.heap.size
  block : ∀ b, b < w.heap.size → ¬ A b → w'.heap[b]? = w.heap[b]?

structure Rel (E : Env) (N : Nat) (g : Gh) (σ : St) (a : Act) (w : World) : Prop where
  size : a.tmps.size = N
  defers : a.defers = []
  slots : ∀ d, SVRel w g σ.obj (σ.get d) (a.tmps.getD d undef)
  objs : ∀ n o, σ.obj n = some o → ObjRel w g σ.obj n o
  inj : ∀ n m, σ.obj n ≠ none → σ.obj m ≠ none → n ≠ m → ∀ b, blk (g.β n) = some b → blk (g.β m) ≠ some b
  disj : ∀ n, σ.obj n ≠ none → ∀ b, blk (g.β n) = some b → ¬ g.Ps b
  own : ∀ n, σ.obj n ≠ none → ∀ b, blk (g.β n) = some b → E.A b ∨ E.w0.heap.size ≤ b
  keeps : Keeps E.w0 w E.A
  ps0 : ∀ b, E.P0 b → g.Ps b
  ps1 : ∀ b, g.Ps b → b < E.w0.heap.size → E.P0 b ∨ E.A b
  psb : ∀ b, g.Ps b → b < w.heap.size
  pin : ∀ n, n.length = 2 → ∀ o, σ.obj n = some o → PinOk (E.pin n) (g.β n) o

end Go.VL
