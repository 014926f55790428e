/- The value-level logic, part 4: what the value operations come to, and that the machine agrees. -/
import Derived.Test.YtckbenlmlikjoaaV3
import Derived.Laws.Small
import Derived.Laws.Cover3
import Derived.WalkSpells
set_option linter.unusedVariables false
set_option linter.unusedSimpArgs false
namespace Go.VL

def sizeB (P : Program) (t : TypeId) : Option Nat := (P.info? t).map (·.size)
def rowB (P : Program) (t : TypeId) : Option Bool := match P.underlying t with
  | some (.struct _) | some (.array _ _) => some true
  | some _ => some false
  | none => none
def zeroB (P : Program) (t : TypeId) : Option (List PV) := match P.info? t with
  | some i => match i.zero with
    | some z => z.cells.toList.mapM cV
    | none => none
  | none => none
def isIntT (P : Program) (t : TypeId) : Bool := match P.underlying t with | some (.int _) => true | _ => false
def isStrT (P : Program) (t : TypeId) : Bool := match P.underlying t with | some .string => true | _ => false
def isBoolT (P : Program) (t : TypeId) : Bool := match P.underlying t with | some .bool => true | _ => false
def nkOf (P : Program) (t : TypeId) : Option NK := match P.underlying t with
  | some (.pointer _) => some .ptr
  | some (.slice _) => some .slice
  | some (.map _ _) => some .map
  | some (.func _ _ _) => some .func
  | some (.interface _) => some .iface
  | _ => none
def nilV : NK → Value
  | .ptr => .pointer none
  | .slice => .slice none 0 0
  | .map => .map none
  | .func => .nilFunc
  | .iface => .nilIface
def isConstNil (k : NK) : Operand → Bool
  | .const (.pointer none) => k == .ptr
  | .const (.slice none 0 0) => k == .slice
  | .const (.map none) => k == .map
  | .const .nilFunc => k == .func
  | .const .nilIface => k == .iface
  | _ => false
/-- A slice's element: type and size. -/
def elemB (P : Program) (t : TypeId) : Option (TypeId × Nat) := match P.underlying t with
  | some (.slice e) => (sizeB P e).map (e, ·)
  | _ => none
def fieldB (P : Program) (t : TypeId) (f : Nat) : Option Field := match P.underlying t with
  | some (.struct fs) => fs[f]?
  | _ => none
/-! ### int, string, bool -/
def evBin (op : BinOp) : PV → PV → Option PV
  | .int k a, .int k' b =>
    match op with
    | .shl => if 0 ≤ b then some (.int k (k.wrap (a * 2 ^ (min b.toNat k.bits)))) else none
    | .shr => if 0 ≤ b then some (.int k (a.fdiv (2 ^ (min b.toNat k.bits)))) else none
    | _ => if k ≠ k' then none else match op with
      | .add => some (.int k (k.wrap (a + b)))
      | .sub => some (.int k (k.wrap (a - b)))
      | .mul => some (.int k (k.wrap (a * b)))
      | .quo => if b = 0 then none else some (.int k (k.wrap (a.tdiv b)))
      | .rem => if b = 0 then none else some (.int k (a.tmod b))
      | .and => some (.int k (bits .and k a b))
      | .or => some (.int k (bits .or k a b))
      | .xor => some (.int k (bits .xor k a b))
      | .andNot => some (.int k (bits .andNot k a b))
      | .eql => some (.bool (a == b))
      | .neq => some (.bool (a != b))
      | .lss => some (.bool (decide (a < b)))
      | .leq => some (.bool (decide (a ≤ b)))
      | .gtr => some (.bool (decide (a > b)))
      | .geq => some (.bool (decide (a ≥ b)))
      | _ => none
  | .str x, .str y =>
    match op with
    | .add => if (x.size + y.size : Nat) ≤ maxI then some (.str (x ++ y)) else none
    | .eql => some (.bool (x.toList == y.toList))
    | .neq => some (.bool (!(x.toList == y.toList)))
    | .lss => some (.bool (Op.bytesLess x.toList y.toList))
    | .leq => some (.bool (Op.bytesLess x.toList y.toList || x.toList == y.toList))
    | .gtr => some (.bool (!(Op.bytesLess x.toList y.toList || x.toList == y.toList)))
    | .geq => some (.bool (!Op.bytesLess x.toList y.toList))
    | _ => none
  | _, _ => none

def PV.val? : PV → Option Value
  | .int k n => some (.int k n)
  | .str s => some (.string s)
  | .bool b => some (.bool b)
  | _ => none

theorem evBin_run {P : Program} {w : World} {op : BinOp} {t : TypeId} {x y : Operand} {p q r : PV} {u v : Value} (hp : p.val? = some u) (hq : q.val? = some v) (he : evBin op p q = some r) :
    ∃ s, (do eqGuard op t x y u v; binOp op t u v : Sem Value).run P w = .ok s w ∧ r.val? = some s := by
  cases p <;> simp only [PV.val?, Option.some.injEq, reduceCtorEq] at hp <;> cases q <;> simp only [PV.val?, Option.some.injEq, reduceCtorEq] at hq <;> subst hp <;> subst hq <;> simp only [evBin, reduceCtorEq] at he
  · rename_i k a k' b
    have hg : eqGuard op t x y (.int k a) (.int k' b) = pure () := eqGuard_at_int op t x y _ k a
    rw [hg]
    cases op <;> simp only [ne_eq, ite_not, reduceCtorEq, ite_self] at he
    case shl =>
      split at he
      · simp only [Option.some.injEq] at he; subst he
        refine ⟨_, ?_, rfl⟩
        simp [binOp_shl, binOp, Op.shift, show ¬ b < 0 by omega]
      · cases he
    case shr =>
      split at he
      · simp only [Option.some.injEq] at he; subst he
        refine ⟨_, ?_, rfl⟩
        simp [binOp, Op.shift, show ¬ b < 0 by omega]
      · cases he
    all_goals
      split at he
      case isFalse => cases he
    all_goals
      rename_i hk
      subst hk
    case int.int.quo.isTrue =>
      split at he
      · cases he
      · rename_i hb
        simp only [Option.some.injEq] at he; subst he
        exact ⟨_, by simp [binOp_quo, Op.intDiv, hb], rfl⟩
    case int.int.rem.isTrue =>
      split at he
      · cases he
      · rename_i hb
        simp only [Option.some.injEq] at he; subst he
        exact ⟨_, by simp [binOp_rem, Op.intDiv, hb], rfl⟩
    all_goals
      simp only [Option.some.injEq] at he
      subst he
      exact ⟨_, by simp [binOp_add, binOp_sub, binOp_mul, binOp_and, binOp_or, binOp_xor, binOp_andNot, binOp_eql, binOp_neq, binOp_lss, binOp_leq, binOp_gtr, binOp_geq, Op.intArith, intBits_and, intBits_or, intBits_xor, intBits_andNot]; try rfl, rfl⟩
  · rename_i s s'
    have hg : eqGuard op t x y (.string s) (.string s') = pure () := eqGuard_at_string op t x y _ s
    rw [hg]
    have hb : binOp op t (.string s) (.string s') = Op.stringOp op s s' := by cases op <;> rfl
    rw [hb]
    cases op <;> simp only [reduceCtorEq] at he
    case add =>
      split at he
      · rename_i hm
        simp only [Option.some.injEq] at he; subst he
        refine ⟨_, ?_, rfl⟩
        have := run_string_add_sum (P := P) w s s' (by unfold maxI at hm; omega)
        simpa using this
      · cases he
    all_goals
      simp only [Option.some.injEq] at he
      subst he
      exact ⟨_, by simp [Op.stringOp], rfl⟩

theorem val?_rel {w : World} {Ps : Nat → Prop} {p : PV} {v u : Value} (h : p.val? = some u) (r : PVRel w Ps p v) : v = u := by
  cases p <;> simp only [PV.val?, Option.some.injEq, reduceCtorEq] at h <;> subst h <;> cases r <;> rfl
theorem val?_mk {w : World} {Ps : Nat → Prop} {p : PV} {u : Value} (h : p.val? = some u) : PVRel w Ps p u := by
  cases p <;> simp only [PV.val?, Option.some.injEq, reduceCtorEq] at h <;> subst h <;> constructor
theorem evBin_val {op : BinOp} {p q r : PV} (h : evBin op p q = some r) : (∃ u, p.val? = some u) ∧ ∃ v, q.val? = some v := by
  cases p <;> cases q <;> simp [evBin] at h <;> exact ⟨⟨_, rfl⟩, ⟨_, rfl⟩⟩

/-- Is it nil? Of each kind, where it can be told. -/
def isNil (h : Nm → Option OV) (k : NK) : SV → Option Bool
  | .pv x => match k, x with
    | .ptr, .nilPtr => some true
    | .ptr, .ptr _ => some false
    | .slice, .nilS => some true
    | .slice, .list _ (_ :: _) => some false
    | .slice, .emptyS => some false
    | .map, .nilMap => some true
    | .func, .nilFunc => some true
    | .func, .fn _ => some false
    | .iface, .nilIface => some true
    | .iface, .iface _ _ => some false
    | _, _ => none
  | .ref _ _ => if k = .ptr then some false else none
  | .clo _ _ => if k = .func then some false else none
  | .arr n tag => match k, h n with
    | .slice, some (.arr _ _ cs) => if tag = cs.length ∧ cs ≠ [] then some false else none
    | _, _ => none
  | _ => none
end Go.VL
