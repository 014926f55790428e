/- The value-level logic, part 26: operations, computed on values that are at hand. -/
import Derived.Test.YtckbenlmlikjoaaV25
set_option linter.unusedVariables false
set_option linter.unusedSimpArgs false
namespace Go.VL
section
variable {t : List (Nat × SV)} {h : List (Nm × OV)}

def gdV (b : Bool) : SV → Option Bool
  | .pv (.bool c) => some (c == b)
  | .tup [] => some false
  | _ => none
theorem gd_eq (s : Nat) (b : Bool) : guardB ⟨t, h⟩ (some (s, b)) = gdV b (lkS s t) := by
  simp only [guardB, St.get, gdV]
  cases lkS s t <;> rfl
theorem gdU (b : Bool) : gdV b (.tup []) = some false := noRfl rfl
theorem gdT (c : Bool) : gdV true (.pv (.bool c)) = some c := by simp [gdV]
theorem gdF (c : Bool) : gdV false (.pv (.bool c)) = some (!c) := by simp [gdV]

def pickV (c a b : SV) : Option SV := match c with
  | .pv (.bool t) => some (if t then a else b)
  | _ => none
theorem ev_pick (c a b : VX) : evalV ⟨t, h⟩ (.pick c a b) = pickV (St.val ⟨t, h⟩ c) (St.val ⟨t, h⟩ a) (St.val ⟨t, h⟩ b) := noRfl rfl
theorem pickV_eq (c : Bool) (a b : SV) : pickV (.pv (.bool c)) a b = some (if c = true then a else b) := noRfl rfl

def loadL (ag : Bool) (n : Nat) (cs : List SV) : Option SV := if n ≤ cs.length then (if ag = true then some (mkAgg (cs.take n)) else cs[0]?) else none
def loadV (h : List (Nm × OV)) (ag : Bool) (n : Nat) (s : SV) : Option SV := match cellsFrom ⟨[], h⟩ s with
  | some cs => loadL ag n cs
  | none => none
theorem ev_load (ag : Bool) (n : Nat) (x : VX) : evalV ⟨t, h⟩ (.load ag n x) = loadV h ag n (St.val ⟨t, h⟩ x) := noRfl rfl
def loadB (ag : Bool) (n off : Nat) : Option OV → Option SV
  | some (.box _ cs) => loadL ag n (cs.drop off)
  | _ => none
def loadA (ag : Bool) (n off tag : Nat) : Option OV → Option SV
  | some (.arr _ _ cs) => if tag = cs.length ∧ off < tag then loadL ag n (cs.drop off) else none
  | _ => none
theorem loadV_ptr (ag : Bool) (n : Nat) (cs : List PV) : loadV h ag n (.pv (.ptr cs)) = loadL ag n (cs.map .pv) := noRfl rfl
theorem loadV_ref (ag : Bool) (n : Nat) (m : Nm) (off : Nat) : loadV h ag n (.ref m off) = loadB ag n off (lkO m h) := by
  simp only [loadV, cellsFrom, St.obj]
  cases lkO m h with
  | none => rfl
  | some o => cases o <;> rfl
theorem loadV_aref (ag : Bool) (n : Nat) (m : Nm) (off tag : Nat) : loadV h ag n (.aref m off tag) = loadA ag n off tag (lkO m h) := by
  simp only [loadV, cellsFrom, St.obj]
  cases lkO m h with
  | none => rfl
  | some o =>
    cases o with
    | box => rfl
    | arr ty sz cs => simp only [loadA]; by_cases hc : tag = cs.length ∧ off < tag
                      · rw [if_pos hc, if_pos hc]
                      · rw [if_neg hc, if_neg hc]
theorem loadB_box (ag : Bool) (n off : Nat) (ty : TypeId) (cs : List SV) : loadB ag n off (some (.box ty cs)) = loadL ag n (cs.drop off) := noRfl rfl
theorem loadA_arr (ag : Bool) (n off tag : Nat) (ty sz : Nat) (cs : List SV) : loadA ag n off tag (some (.arr ty sz cs)) = if tag = cs.length ∧ off < tag then loadL ag n (cs.drop off) else none := noRfl rfl

def nilckV (h : List (Nm × OV)) : SV → Option SV
  | .pv (.ptr cs) => some (.pv (.ptr cs))
  | .ref n off => some (.ref n off)
  | .aref n o tag => match lkO n h with
    | some (.arr _ _ cs) => if tag = cs.length then some (.aref n o tag) else none
    | _ => none
  | .clo f cs => some (.clo f cs)
  | .pv (.fn f) => some (.pv (.fn f))
  | _ => none
theorem ev_nilck (x : VX) : evalV ⟨t, h⟩ (.nilck x) = nilckV h (St.val ⟨t, h⟩ x) := by
  simp only [evalV]
  cases St.val ⟨t, h⟩ x <;> rfl
theorem nilckV_ptr (cs : List PV) : nilckV h (.pv (.ptr cs)) = some (.pv (.ptr cs)) := noRfl rfl
theorem nilckV_ref (n : Nm) (off : Nat) : nilckV h (.ref n off) = some (.ref n off) := noRfl rfl
theorem nilckV_clo (f : FuncId) (cs : List SV) : nilckV h (.clo f cs) = some (.clo f cs) := noRfl rfl
theorem nilckV_fn (f : FuncId) : nilckV h (.pv (.fn f)) = some (.pv (.fn f)) := noRfl rfl
theorem nilckV_aref (n : Nm) (o tag : Nat) : nilckV h (.aref n o tag) = match lkO n h with
    | some (.arr _ _ cs) => if tag = cs.length then some (.aref n o tag) else none
    | _ => none := rfl

def binV (op : BinOp) (x y : SV) : Option SV := match x, y with
  | .pv p, .pv q => (evBin op p q).map .pv
  | _, _ => none
theorem ev_bin (op : BinOp) (x y : VX) : evalV ⟨t, h⟩ (.bin op x y) = binV op (St.val ⟨t, h⟩ x) (St.val ⟨t, h⟩ y) := noRfl rfl
theorem binV_pv (op : BinOp) (p q : PV) : binV op (.pv p) (.pv q) = (evBin op p q).map .pv := noRfl rfl
def eqbV (ng : Bool) (x y : SV) : Option SV := match x, y with
  | .pv (.bool p), .pv (.bool q) => some (.pv (.bool (if ng = true then !(p == q) else p == q)))
  | _, _ => none
theorem ev_eqb (ng : Bool) (x y : VX) : evalV ⟨t, h⟩ (.eqb ng x y) = eqbV ng (St.val ⟨t, h⟩ x) (St.val ⟨t, h⟩ y) := noRfl rfl
theorem eqbV_eq (ng p q : Bool) : eqbV ng (.pv (.bool p)) (.pv (.bool q)) = some (.pv (.bool (if ng = true then !(p == q) else p == q))) := noRfl rfl

def nilB (ng : Bool) : Option Bool → Option SV
  | some b => some (.pv (.bool (if ng = true then !b else b)))
  | none => none
def eqnV (h : List (Nm × OV)) (k : NK) (ng : Bool) (s : SV) : Option SV := nilB ng (isNil (fun n => lkO n h) k s)
theorem ev_eqn (k : NK) (ng : Bool) (x : VX) : evalV ⟨t, h⟩ (.eqn k ng x) = eqnV h k ng (St.val ⟨t, h⟩ x) := by
  simp only [evalV, eqnV]
  show (match isNil (fun n => lkO n h) k (St.val ⟨t, h⟩ x) with | some b => some (SV.pv (.bool (if ng = true then !b else b))) | none => none) = _
  cases isNil (fun n => lkO n h) k (St.val ⟨t, h⟩ x) <;> rfl
theorem nilB_some (ng b : Bool) : nilB ng (some b) = some (.pv (.bool (if ng = true then !b else b))) := noRfl rfl
theorem eqnV_nilPtr (ng : Bool) : eqnV h .ptr ng (.pv .nilPtr) = nilB ng (some true) := noRfl rfl
theorem eqnV_ptr (ng : Bool) (cs : List PV) : eqnV h .ptr ng (.pv (.ptr cs)) = nilB ng (some false) := noRfl rfl
theorem eqnV_nilS (ng : Bool) : eqnV h .slice ng (.pv .nilS) = nilB ng (some true) := noRfl rfl
theorem eqnV_list (ng : Bool) (sz : Nat) (x : PV) (xs : List PV) : eqnV h .slice ng (.pv (.list sz (x :: xs))) = nilB ng (some false) := noRfl rfl
theorem eqnV_nilMap (ng : Bool) : eqnV h .map ng (.pv .nilMap) = nilB ng (some true) := noRfl rfl
theorem eqnV_nilFunc (ng : Bool) : eqnV h .func ng (.pv .nilFunc) = nilB ng (some true) := noRfl rfl
theorem eqnV_fn (ng : Bool) (f : FuncId) : eqnV h .func ng (.pv (.fn f)) = nilB ng (some false) := noRfl rfl
theorem eqnV_nilIface (ng : Bool) : eqnV h .iface ng (.pv .nilIface) = nilB ng (some true) := noRfl rfl
theorem eqnV_iface (ng : Bool) (ty : TypeId) (x : PV) : eqnV h .iface ng (.pv (.iface ty x)) = nilB ng (some false) := noRfl rfl
theorem eqnV_ref (ng : Bool) (n : Nm) (off : Nat) : eqnV h .ptr ng (.ref n off) = nilB ng (some false) := noRfl rfl
theorem eqnV_clo (ng : Bool) (f : FuncId) (cs : List SV) : eqnV h .func ng (.clo f cs) = nilB ng (some false) := noRfl rfl

def unV (op : UnOp) (x : SV) : Option SV := match op, x with
  | .not, .pv (.bool b) => some (.pv (.bool (!b)))
  | .neg, .pv (.int k n) => some (.pv (.int k (k.wrap (0 - n))))
  | _, _ => none
theorem ev_un (op : UnOp) (x : VX) : evalV ⟨t, h⟩ (.un op x) = unV op (St.val ⟨t, h⟩ x) := by
  simp only [evalV, unV]
  cases op <;> cases St.val ⟨t, h⟩ x <;> rfl
theorem unV_not (b : Bool) : unV .not (.pv (.bool b)) = some (.pv (.bool (!b))) := noRfl rfl
theorem unV_neg (k : IntKind) (n : Int) : unV .neg (.pv (.int k n)) = some (.pv (.int k (k.wrap (0 - n)))) := noRfl rfl
def convV (k : IntKind) : SV → Option SV
  | .pv (.int _ n) => some (.pv (.int k (k.wrap n)))
  | _ => none
theorem ev_conv (k : IntKind) (x : VX) : evalV ⟨t, h⟩ (.conv k x) = convV k (St.val ⟨t, h⟩ x) := noRfl rfl
theorem convV_int (k k' : IntKind) (n : Int) : convV k (.pv (.int k' n)) = some (.pv (.int k (k.wrap n))) := noRfl rfl
def convsV : SV → Option SV
  | .pv (.str s) => some (.pv (.str s))
  | _ => none
theorem ev_convs (x : VX) : evalV ⟨t, h⟩ (.convs x) = convsV (St.val ⟨t, h⟩ x) := noRfl rfl
theorem convsV_str (s : ByteArray) : convsV (.pv (.str s)) = some (.pv (.str s)) := noRfl rfl
def mkifV (ty : TypeId) : SV → Option SV
  | .pv p => some (.pv (.iface ty p))
  | _ => none
theorem ev_mkif (ty : TypeId) (x : VX) : evalV ⟨t, h⟩ (.mkif ty x) = mkifV ty (St.val ⟨t, h⟩ x) := noRfl rfl
theorem mkifV_pv (ty : TypeId) (p : PV) : mkifV ty (.pv p) = some (.pv (.iface ty p)) := noRfl rfl
theorem ev_mkfn0 (f : FuncId) : evalV ⟨t, h⟩ (.mkfn f []) = some (.pv (.fn f)) := noRfl rfl
theorem ev_mkfn (f : FuncId) (c : VX) (r : List VX) : evalV ⟨t, h⟩ (.mkfn f (c :: r)) = some (.clo f ((c :: r).map (St.val ⟨t, h⟩))) := noRfl rfl

def faddrV (h : List (Nm × OV)) (off : Nat) : SV → Option SV
  | .pv (.ptr cs) => some (.pv (.ptr (cs.drop off)))
  | .ref n o => some (.ref n (o + off))
  | .aref n o tag => match lkO n h with
    | some (.arr _ _ cs) => if tag = cs.length then some (.aref n (o + off) tag) else none
    | _ => none
  | _ => none
theorem ev_faddr (off : Nat) (x : VX) : evalV ⟨t, h⟩ (.faddr off x) = faddrV h off (St.val ⟨t, h⟩ x) := by
  simp only [evalV]
  cases St.val ⟨t, h⟩ x <;> rfl
theorem faddrV_ptr (off : Nat) (cs : List PV) : faddrV h off (.pv (.ptr cs)) = some (.pv (.ptr (cs.drop off))) := noRfl rfl
theorem faddrV_ref (off : Nat) (n : Nm) (o : Nat) : faddrV h off (.ref n o) = some (.ref n (o + off)) := noRfl rfl
def faA (off : Nat) (n : Nm) (o tag : Nat) : Option OV → Option SV
  | some (.arr _ _ cs) => if tag = cs.length then some (.aref n (o + off) tag) else none
  | _ => none
theorem faddrV_aref (off : Nat) (n : Nm) (o tag : Nat) : faddrV h off (.aref n o tag) = faA off n o tag (lkO n h) := by
  simp only [faddrV]
  cases lkO n h with
  | none => rfl
  | some o => cases o <;> rfl
theorem faA_arr (off : Nat) (n : Nm) (o tag ty sz : Nat) (cs : List SV) : faA off n o tag (some (.arr ty sz cs)) = if tag = cs.length then some (.aref n (o + off) tag) else none := noRfl rfl

def fieldL (ag : Bool) (off n : Nat) (cs : List SV) : Option SV := if off + n ≤ cs.length then (if ag = true then some (mkAgg ((cs.drop off).take n)) else cs[off]?) else none
def fieldV (ag : Bool) (off n : Nat) : SV → Option SV
  | .pv (.agg cs) => fieldL ag off n (cs.map .pv)
  | .agg cs => fieldL ag off n cs
  | _ => none
theorem ev_field (ag : Bool) (off n : Nat) (x : VX) : evalV ⟨t, h⟩ (.field ag off n x) = fieldV ag off n (St.val ⟨t, h⟩ x) := by
  simp only [evalV]
  cases St.val ⟨t, h⟩ x <;> try rfl
  rename_i p
  cases p <;> rfl
theorem fieldV_pv (ag : Bool) (off n : Nat) (cs : List PV) : fieldV ag off n (.pv (.agg cs)) = fieldL ag off n (cs.map .pv) := noRfl rfl
theorem fieldV_agg (ag : Bool) (off n : Nat) (cs : List SV) : fieldV ag off n (.agg cs) = fieldL ag off n cs := noRfl rfl

/-- The place of an element. -/
def ixA (sz : Nat) (n : Int) (m : Nm) (tag : Nat) : Option OV → Option SV
  | some (.arr _ s cs) => if s = sz ∧ tag = cs.length ∧ 0 ≤ n ∧ n.toNat * sz + sz ≤ cs.length then some (.aref m (n.toNat * sz) tag) else none
  | _ => none
def iaddrV (h : List (Nm × OV)) (sz : Nat) (x i : SV) : Option SV := match x, i with
  | .pv (.list s xs), .pv (.int _ n) => if s = sz ∧ 0 ≤ n then (xs[n.toNat]?).map fun e => .pv (.ptr e.cells) else none
  | .arr m tag, .pv (.int _ n) => ixA sz n m tag (lkO m h)
  | _, _ => none
theorem ev_iaddr (sz : Nat) (x i : VX) : evalV ⟨t, h⟩ (.iaddr sz x i) = iaddrV h sz (St.val ⟨t, h⟩ x) (St.val ⟨t, h⟩ i) := by
  simp only [evalV, iaddrV]
  split
  · rename_i e1 e2; simp only [e1, e2]
  · rename_i m tag k n e1 e2
    simp only [e1, e2, ixA, St.obj]
    cases lkO m h with
    | none => rfl
    | some o => cases o <;> rfl
  · rename_i n1 n2
    split
    · rename_i e1 e2; exact absurd e2 (by intro; exact n1 _ _ _ _ e1 e2)
    · rename_i e1 e2; exact absurd e2 (by intro; exact n2 _ _ _ _ e1 e2)
    · rfl
theorem iaddrV_list (sz s : Nat) (xs : List PV) (k : IntKind) (n : Int) : iaddrV h sz (.pv (.list s xs)) (.pv (.int k n)) = if s = sz ∧ 0 ≤ n then (xs[n.toNat]?).map fun e => .pv (.ptr e.cells) else none := noRfl rfl
theorem iaddrV_arr (sz : Nat) (m : Nm) (tag : Nat) (k : IntKind) (n : Int) : iaddrV h sz (.arr m tag) (.pv (.int k n)) = ixA sz n m tag (lkO m h) := noRfl rfl
theorem ixA_arr (sz : Nat) (n : Int) (m : Nm) (tag ty s : Nat) (cs : List SV) : ixA sz n m tag (some (.arr ty s cs)) = if s = sz ∧ tag = cs.length ∧ 0 ≤ n ∧ n.toNat * sz + sz ≤ cs.length then some (.aref m (n.toNat * sz) tag) else none := noRfl rfl

def sidxV (x i : SV) : Option SV := match x, i with
  | .pv (.str s), .pv (.int _ n) => if 0 ≤ n then (s[n.toNat]?).map fun c => .pv (.int .u8 c.toNat) else none
  | _, _ => none
theorem ev_sidx (x i : VX) : evalV ⟨t, h⟩ (.sidx x i) = sidxV (St.val ⟨t, h⟩ x) (St.val ⟨t, h⟩ i) := noRfl rfl
theorem sidxV_eq (s : ByteArray) (k : IntKind) (n : Int) : sidxV (.pv (.str s)) (.pv (.int k n)) = if 0 ≤ n then (s[n.toNat]?).map fun c => .pv (.int .u8 c.toNat) else none := noRfl rfl

def lenA (tag : Nat) : Option OV → Option SV
  | some (.arr _ s cs) => if tag = cs.length then some (.pv (.int .i64 (cs.length / s : Nat))) else none
  | _ => none
def lenV (h : List (Nm × OV)) : SV → Option SV
  | .pv (.list _ xs) => some (.pv (.int .i64 xs.length))
  | .pv .nilS => some (.pv (.int .i64 0))
  | .pv .emptyS => some (.pv (.int .i64 0))
  | .arr m tag => lenA tag (lkO m h)
  | _ => none
theorem ev_len (x : VX) : evalV ⟨t, h⟩ (.len x) = lenV h (St.val ⟨t, h⟩ x) := by
  simp only [evalV]
  cases St.val ⟨t, h⟩ x <;> rfl
theorem lenV_list (s : Nat) (xs : List PV) : lenV h (.pv (.list s xs)) = some (.pv (.int .i64 xs.length)) := noRfl rfl
theorem lenV_nil : lenV h (.pv .nilS) = some (.pv (.int .i64 0)) := noRfl rfl
theorem lenV_arr (m : Nm) (tag : Nat) : lenV h (.arr m tag) = lenA tag (lkO m h) := noRfl rfl
theorem lenA_arr (tag ty s : Nat) (cs : List SV) : lenA tag (some (.arr ty s cs)) = if tag = cs.length then some (.pv (.int .i64 (cs.length / s : Nat))) else none := noRfl rfl
def slenV : SV → Option SV
  | .pv (.str s) => some (.pv (.int .i64 s.size))
  | _ => none
theorem ev_slen (x : VX) : evalV ⟨t, h⟩ (.slen x) = slenV (St.val ⟨t, h⟩ x) := noRfl rfl
theorem slenV_eq (s : ByteArray) : slenV (.pv (.str s)) = some (.pv (.int .i64 s.size)) := noRfl rfl
def extrV (i : Nat) : SV → Option SV
  | .tup vs => vs[i]?
  | _ => none
theorem ev_extract (x : VX) (i : Nat) : evalV ⟨t, h⟩ (.extract x i) = extrV i (St.val ⟨t, h⟩ x) := noRfl rfl
theorem extrV_tup (i : Nat) (vs : List SV) : extrV i (.tup vs) = vs[i]? := noRfl rfl
def mmV (mx : Bool) (x y : SV) : Option SV := match x, y with
  | .pv (.int k a), .pv (.int _ b) => some (.pv (.int k (if mx then (if b > a then b else a) else (if b < a then b else a))))
  | _, _ => none
theorem ev_minmax (mx : Bool) (x y : VX) : evalV ⟨t, h⟩ (.minmax mx x y) = mmV mx (St.val ⟨t, h⟩ x) (St.val ⟨t, h⟩ y) := noRfl rfl
theorem mmV_max (k k' : IntKind) (a b : Int) : mmV true (.pv (.int k a)) (.pv (.int k' b)) = some (.pv (.int k (if b > a then b else a))) := noRfl rfl
theorem mmV_min (k k' : IntKind) (a b : Int) : mmV false (.pv (.int k a)) (.pv (.int k' b)) = some (.pv (.int k (if b < a then b else a))) := noRfl rfl
/-! bounds of a piece -/
def bndV (s : SV) : Option Nat := match s with
  | .pv (.int _ n) => if 0 ≤ n then some n.toNat else none
  | _ => none
theorem bnd_none (d : Nat) : bnd ⟨t, h⟩ d none = some d := noRfl rfl
theorem bnd_some (d : Nat) (x : VX) : bnd ⟨t, h⟩ d (some x) = bndV (St.val ⟨t, h⟩ x) := noRfl rfl
theorem bndV_int (k : IntKind) (n : Int) : bndV (.pv (.int k n)) = if 0 ≤ n then some n.toNat else none := noRfl rfl
def slcL (s sz : Nat) (xs : List PV) : Option Nat → Option Nat → Option SV
  | some l, some u => if s = sz ∧ l ≤ u ∧ u ≤ xs.length then some (.pv (.list s ((xs.take u).drop l))) else none
  | _, _ => none
def slcV (sz : Nat) (lo : Option Nat) (hi : Nat → Option Nat) : SV → Option SV
  | .pv (.list s xs) => slcL s sz xs lo (hi xs.length)
  | _ => none
theorem ev_slice (sz : Nat) (x : VX) (lo hi : Option VX) : evalV ⟨t, h⟩ (.slice sz x lo hi) = slcV sz (bnd ⟨t, h⟩ 0 lo) (fun n => bnd ⟨t, h⟩ n hi) (St.val ⟨t, h⟩ x) := by
  simp only [evalV, slcV]
  cases St.val ⟨t, h⟩ x <;> rfl
theorem slcV_list (sz s : Nat) (lo : Option Nat) (hi : Nat → Option Nat) (xs : List PV) : slcV sz lo hi (.pv (.list s xs)) = slcL s sz xs lo (hi xs.length) := noRfl rfl
theorem slcL_eq (s sz : Nat) (xs : List PV) (l u : Nat) : slcL s sz xs (some l) (some u) = if s = sz ∧ l ≤ u ∧ u ≤ xs.length then some (.pv (.list s ((xs.take u).drop l))) else none := noRfl rfl
def sslL (s : ByteArray) : Option Nat → Option Nat → Option SV
  | some l, some u => if l ≤ u ∧ u ≤ s.size then some (.pv (.str (s.extract l u))) else none
  | _, _ => none
def sslV (lo : Option Nat) (hi : Nat → Option Nat) : SV → Option SV
  | .pv (.str s) => sslL s lo (hi s.size)
  | _ => none
theorem ev_sslice (x : VX) (lo hi : Option VX) : evalV ⟨t, h⟩ (.sslice x lo hi) = sslV (bnd ⟨t, h⟩ 0 lo) (fun n => bnd ⟨t, h⟩ n hi) (St.val ⟨t, h⟩ x) := by
  simp only [evalV, sslV]
  cases St.val ⟨t, h⟩ x <;> rfl
theorem sslV_str (lo : Option Nat) (hi : Nat → Option Nat) (s : ByteArray) : sslV lo hi (.pv (.str s)) = sslL s lo (hi s.size) := noRfl rfl
theorem sslL_eq (s : ByteArray) (l u : Nat) : sslL s (some l) (some u) = if l ≤ u ∧ u ≤ s.size then some (.pv (.str (s.extract l u))) else none := noRfl rfl

theorem ev_build (zs : List PV) (ps : List (Nat × Nat × VX)) : evalV ⟨t, h⟩ (.build zs ps) = (fillS ⟨t, h⟩ ps (zs.map .pv)).map mkAgg := noRfl rfl
/-! memory -/
def nbO (t : List (Nat × SV)) (h : List (Nm × OV)) (d ty : Nat) (cs : List SV) : Option OV → Option St
  | none => some ⟨setS d (.ref [d] 0) t, setO [d] (.box ty cs) h⟩
  | some _ => none
theorem newBox_eq (d ty : Nat) (cs : List SV) : newBox ⟨t, h⟩ d ty cs = nbO t h d ty cs (lkO [d] h) := by
  simp only [newBox, St.obj]
  cases lkO [d] h <;> rfl
theorem nbO_none (d ty : Nat) (cs : List SV) : nbO t h d ty cs none = some ⟨setS d (.ref [d] 0) t, setO [d] (.box ty cs) h⟩ := noRfl rfl
theorem cellsL_agg (cs : List PV) : SV.cellsL (.pv (.agg cs)) = some (cs.map .pv) := noRfl rfl
def stB (t : List (Nat × SV)) (h : List (Nm × OV)) (n : Nat) (m : Nm) (off : Nat) (new : List SV) : Option OV → Option St
  | some (.box ty cs) => if new.length = n ∧ off + n ≤ cs.length then some ⟨t, setO m (.box ty (splice off new cs)) h⟩ else none
  | _ => none
def stA (t : List (Nat × SV)) (h : List (Nm × OV)) (n : Nat) (m : Nm) (off tag : Nat) (new : List SV) : Option OV → Option St
  | some (.arr ty sz cs) => if new.length = n ∧ tag = cs.length ∧ off + n ≤ cs.length then some ⟨t, setO m (.arr ty sz (splice off new cs)) h⟩ else none
  | _ => none
def stV (t : List (Nat × SV)) (h : List (Nm × OV)) (n : Nat) (p : SV) : Option (List SV) → Option St
  | some new => match p with
    | .ref m off => stB t h n m off new (lkO m h)
    | .aref m off tag => stA t h n m off tag new (lkO m h)
    | _ => none
  | none => none
theorem storeAt_eq (n : Nat) (p x : SV) : storeAt ⟨t, h⟩ n p x = stV t h n p x.cellsL := by
  simp only [storeAt, stV]
  cases x.cellsL with
  | none => rfl
  | some new =>
    simp only [St.obj]
    by_cases hn : new.length = n
    · simp only [hn, ne_eq, not_true_eq_false, if_false]
      cases p <;> try rfl
      · rename_i m off
        cases ho : lkO m h with
        | none => simp [ho, stB]
        | some o => cases o <;> simp [ho, stB, hn, St.put]
      · rename_i m off tag
        cases ho : lkO m h with
        | none => simp [ho, stA]
        | some o => cases o <;> simp [ho, stA, hn, St.put]
    · simp only [ne_eq, hn, not_false_eq_true, if_true]
      cases p <;> try rfl
      · rename_i m off
        cases ho : lkO m h with
        | none => simp [ho, stB]
        | some o => cases o <;> simp [ho, stB, hn]
      · rename_i m off tag
        cases ho : lkO m h with
        | none => simp [ho, stA]
        | some o => cases o <;> simp [ho, stA, hn]
theorem stV_ref (n : Nat) (m : Nm) (off : Nat) (new : List SV) : stV t h n (.ref m off) (some new) = stB t h n m off new (lkO m h) := noRfl rfl
theorem stV_aref (n : Nat) (m : Nm) (off tag : Nat) (new : List SV) : stV t h n (.aref m off tag) (some new) = stA t h n m off tag new (lkO m h) := noRfl rfl
theorem stB_box (n : Nat) (m : Nm) (off ty : Nat) (new cs : List SV) : stB t h n m off new (some (.box ty cs)) = if new.length = n ∧ off + n ≤ cs.length then some ⟨t, setO m (.box ty (splice off new cs)) h⟩ else none := noRfl rfl
theorem stA_arr (n : Nat) (m : Nm) (off tag ty sz : Nat) (new cs : List SV) : stA t h n m off tag new (some (.arr ty sz cs)) = if new.length = n ∧ tag = cs.length ∧ off + n ≤ cs.length then some ⟨t, setO m (.arr ty sz (splice off new cs)) h⟩ else none := noRfl rfl
end

/-! ### Steps, from a table that is computed -/
section
variable {P : Program} {K : St → Prop}
theorem vsteps_cons_nn   (o : VOp) (r : List VOp) : vsteps P (o :: r) ⟨[], []⟩ K = vstep P o ⟨[], []⟩ fun σ' => vsteps P r σ' K := noRfl rfl
theorem vpl_take_nn   (o : VOp) (p : VPl) : vpl P K (.take o p) ⟨[], []⟩ = vtake P o ⟨[], []⟩ (vpl P K p) := noRfl rfl
theorem vsteps_cons_nc  {n : Nm} {ob : OV} {h : List (Nm × OV)} (o : VOp) (r : List VOp) : vsteps P (o :: r) ⟨[], ((n, ob) :: h)⟩ K = vstep P o ⟨[], ((n, ob) :: h)⟩ fun σ' => vsteps P r σ' K := noRfl rfl
theorem vpl_take_nc  {n : Nm} {ob : OV} {h : List (Nm × OV)} (o : VOp) (p : VPl) : vpl P K (.take o p) ⟨[], ((n, ob) :: h)⟩ = vtake P o ⟨[], ((n, ob) :: h)⟩ (vpl P K p) := noRfl rfl
theorem vsteps_cons_cn {e : Nat} {v : SV} {t : List (Nat × SV)}  (o : VOp) (r : List VOp) : vsteps P (o :: r) ⟨((e, v) :: t), []⟩ K = vstep P o ⟨((e, v) :: t), []⟩ fun σ' => vsteps P r σ' K := noRfl rfl
theorem vpl_take_cn {e : Nat} {v : SV} {t : List (Nat × SV)}  (o : VOp) (p : VPl) : vpl P K (.take o p) ⟨((e, v) :: t), []⟩ = vtake P o ⟨((e, v) :: t), []⟩ (vpl P K p) := noRfl rfl
theorem vsteps_cons_cc {e : Nat} {v : SV} {t : List (Nat × SV)} {n : Nm} {ob : OV} {h : List (Nm × OV)} (o : VOp) (r : List VOp) : vsteps P (o :: r) ⟨((e, v) :: t), ((n, ob) :: h)⟩ K = vstep P o ⟨((e, v) :: t), ((n, ob) :: h)⟩ fun σ' => vsteps P r σ' K := noRfl rfl
theorem vpl_take_cc {e : Nat} {v : SV} {t : List (Nat × SV)} {n : Nm} {ob : OV} {h : List (Nm × OV)} (o : VOp) (p : VPl) : vpl P K (.take o p) ⟨((e, v) :: t), ((n, ob) :: h)⟩ = vtake P o ⟨((e, v) :: t), ((n, ob) :: h)⟩ (vpl P K p) := noRfl rfl
end
end Go.VL
