/- The value-level logic, part 5: the value operations of the code, told. -/
import Derived.Test.YtckbenlmlikjoaaV4
import Derived.Deep.MidRow
import Derived.Great.FillDense
set_option linter.unusedVariables false
set_option linter.unusedSimpArgs false
namespace Go.VL

/-- The cells from a place on. -/
def cellsFrom (σ : St) : SV → Option (List SV)
  | .pv (.ptr cs) => some (cs.map .pv)
  | .ref n off => match σ.obj n with
    | some (.box _ cs) => some (cs.drop off)
    | _ => none
  | .aref n off tag => match σ.obj n with
    | some (.arr _ _ cs) => if tag = cs.length ∧ off < tag then some (cs.drop off) else none
    | _ => none
  | _ => none

/-- New cells over old ones. -/
def splice (off : Nat) (new old : List SV) : List SV := old.take off ++ new ++ old.drop (off + new.length)
def fillS (σ : St) : List (Nat × Nat × VX) → List SV → Option (List SV)
  | [], cs => some cs
  | (off, n, x) :: r, cs => match (σ.val x).cellsL with
    | some new => if new.length = n ∧ off + n ≤ cs.length then fillS σ r (splice off new cs) else none
    | none => none

/-- The cells of a struct's value. -/
def aggCells : SV → Option (List SV)
  | .pv (.agg cs) => some (cs.map SV.pv)
  | .agg cs => some cs
  | _ => none
def intOf? : SV → Option Int
  | .pv (.int _ n) => some n
  | _ => none
def bnd (σ : St) (d : Nat) : Option VX → Option Nat
  | none => some d
  | some x => match σ.val x with
    | .pv (.int _ n) => if 0 ≤ n then some n.toNat else none
    | _ => none

def evalV (σ : St) : VO → Option SV
  | .mv x => some (σ.val x)
  | .pick c a b => match σ.val c with
    | .pv (.bool t) => some (if t then σ.val a else σ.val b)
    | _ => none
  | .load agg n x => match cellsFrom σ (σ.val x) with
    | some cs => if n ≤ cs.length then (if agg then some (mkAgg (cs.take n)) else cs[0]?) else none
    | none => none
  | .nilck x => match σ.val x with
    | .pv (.ptr cs) => some (.pv (.ptr cs))
    | .ref n off => some (.ref n off)
    | .aref n o tag => match σ.obj n with
      | some (.arr _ _ cs) => if tag = cs.length then some (.aref n o tag) else none
      | _ => none
    | .clo f cs => some (.clo f cs)
    | .pv (.fn f) => some (.pv (.fn f))
    | _ => none
  | .bin op x y => match σ.val x, σ.val y with
    | .pv p, .pv q => (evBin op p q).map .pv
    | _, _ => none
  | .eqb neg x y => match σ.val x, σ.val y with
    | .pv (.bool p), .pv (.bool q) => some (.pv (.bool (if neg then !(p == q) else p == q)))
    | _, _ => none
  | .eqn k neg x => match isNil σ.obj k (σ.val x) with
    | some b => some (.pv (.bool (if neg then !b else b)))
    | none => none
  | .un op x => match op, σ.val x with
    | .not, .pv (.bool b) => some (.pv (.bool (!b)))
    | .neg, .pv (.int k n) => some (.pv (.int k (k.wrap (0 - n))))
    | _, _ => none
  | .conv k x => match σ.val x with
    | .pv (.int _ n) => some (.pv (.int k (k.wrap n)))
    | _ => none
  | .convs x => match σ.val x with
    | .pv (.str s) => some (.pv (.str s))
    | _ => none
  | .mkif t x => match σ.val x with
    | .pv p => some (.pv (.iface t p))
    | _ => none
  | .mkfn f caps => match caps with
    | [] => some (.pv (.fn f))
    | _ => some (.clo f (caps.map σ.val))
  | .faddr off x => match σ.val x with
    | .pv (.ptr cs) => some (.pv (.ptr (cs.drop off)))
    | .ref n o => some (.ref n (o + off))
    | .aref n o tag => match σ.obj n with
      | some (.arr _ _ cs) => if tag = cs.length then some (.aref n (o + off) tag) else none
      | _ => none
    | _ => none
  | .field agg off n x => match aggCells (σ.val x) with
    | some cs => if off + n ≤ cs.length then (if agg then some (mkAgg ((cs.drop off).take n)) else cs[off]?) else none
    | none => none
  | .iaddr sz x i => match σ.val x, σ.val i with
    | .pv (.list s xs), .pv (.int _ n) => if s = sz ∧ 0 ≤ n then (xs[n.toNat]?).map fun e => .pv (.ptr e.cells) else none
    | .arr m tag, .pv (.int _ n) => match σ.obj m with
      | some (.arr _ s cs) => if s = sz ∧ tag = cs.length ∧ 0 ≤ n ∧ n.toNat * sz + sz ≤ cs.length then some (.aref m (n.toNat * sz) tag) else none
      | _ => none
    | _, _ => none
  | .sidx x i => match σ.val x, σ.val i with
    | .pv (.str s), .pv (.int _ n) => if 0 ≤ n then (s[n.toNat]?).map fun c => .pv (.int .u8 c.toNat) else none
    | _, _ => none
  | .slice sz x lo hi => match σ.val x with
    | .pv (.list s xs) => match bnd σ 0 lo, bnd σ xs.length hi with
      | some l, some h => if s = sz ∧ l ≤ h ∧ h ≤ xs.length then some (.pv (.list s ((xs.take h).drop l))) else none
      | _, _ => none
    | _ => none
  | .sslice x lo hi => match σ.val x with
    | .pv (.str s) => match bnd σ 0 lo, bnd σ s.size hi with
      | some l, some h => if l ≤ h ∧ h ≤ s.size then some (.pv (.str (s.extract l h))) else none
      | _, _ => none
    | _ => none
  | .len x => match σ.val x with
    | .pv (.list _ xs) => some (.pv (.int .i64 xs.length))
    | .pv .nilS => some (.pv (.int .i64 0))
    | .pv .emptyS => some (.pv (.int .i64 0))
    | .arr m tag => match σ.obj m with
      | some (.arr _ s cs) => if tag = cs.length then some (.pv (.int .i64 (cs.length / s : Nat))) else none
      | _ => none
    | _ => none
  | .slen x => match σ.val x with
    | .pv (.str s) => some (.pv (.int .i64 s.size))
    | _ => none
  | .extract x i => match σ.val x with
    | .tup vs => vs[i]?
    | _ => none
  | .build zs parts => (fillS σ parts (zs.map .pv)).map mkAgg
  | .minmax mx x y => match σ.val x, σ.val y with
    | .pv (.int k a), .pv (.int _ b) => some (.pv (.int k (if mx then (if b > a then b else a) else (if b < a then b else a))))
    | _, _ => none
  | _ => none

section
variable {E : Env} {N : Nat} {g : Gh} {σ : St} {a : Act} {w : World}

theorem cellsFrom_rel (R : Rel E N g σ a w) {s : SV} {v : Value} {cs : List SV} (hs : SVRel w g σ.obj s v) (hc : cellsFrom σ s = some cs) :
    ∃ b off vs, v = .pointer (some ⟨b, off, none⟩) ∧ Cells w g σ.obj cs vs ∧ w.rangeAt b off vs := by
  cases hs with
  | pv x v hx =>
    cases hx <;> simp only [cellsFrom, reduceCtorEq, Option.some.injEq] at hc
    rename_i cs' b off u hb hw hr
    subst hc
    refine ⟨b, off, (List.range cs'.length).map u, rfl, ⟨by simp, fun v hv => ?_, fun k c v hc hv => ?_⟩, fun j v hv => ?_⟩
    · simp only [List.mem_map, List.mem_range] at hv
      obtain ⟨k, hk, rfl⟩ := hv
      exact (hw k hk).2
    · simp only [List.getElem?_map, Option.map_eq_some_iff] at hc hv
      obtain ⟨p, hp, rfl⟩ := hc
      obtain ⟨k', hk', rfl⟩ := hv
      have : k' = k := by
        rw [List.getElem?_range] at hk'
        · simpa using hk'.symm
        · exact (List.getElem?_eq_some_iff.1 hp).1
      subst this
      exact .pv _ _ (hr k' p hp)
    · simp only [List.getElem?_map, Option.map_eq_some_iff] at hv
      obtain ⟨k', hk', rfl⟩ := hv
      obtain ⟨h1, h2⟩ := List.getElem?_eq_some_iff.1 hk'
      simp only [List.length_range] at h1
      simp only [List.getElem_range] at h2
      subst h2
      exact (hw j h1).1
  | ref n off b t cs' ho hb =>
    simp only [cellsFrom, ho, Option.some.injEq] at hc
    subst hc
    obtain ⟨b', cur, h1, h2, h3⟩ := R.objs n _ ho
    have : b' = b := by rw [h1] at hb; simpa using hb
    subst this
    refine ⟨b', off, cur.toList.drop off, rfl, ⟨by simp [h3.1], fun v hv => h3.2.1 v (List.mem_of_mem_drop hv), fun k c v hc hv => ?_⟩, fun j v hv => ?_⟩
    · rw [List.getElem?_drop] at hc hv
      exact h3.2.2 _ c v hc hv
    · rw [List.getElem?_drop] at hv
      simpa [World.cell?, h2] using hv
  | aref n off tag t sz cs' v ho hg hb h1 =>
    simp only [cellsFrom, ho] at hc
    split at hc
    · rename_i htag
      simp only [Option.some.injEq] at hc
      subst hc
      obtain ⟨b, hb1, hb2⟩ := hb htag.1
      obtain ⟨h0, k, xs, hx1, hx2⟩ := R.objs n _ ho
      refine ⟨b, off, xs.drop off, hb2, ⟨by simp [hx2.1], fun v hv => hx2.2.1 v (List.mem_of_mem_drop hv), fun k c v hc hv => ?_⟩, fun j v hv => ?_⟩
      · rw [List.getElem?_drop] at hc hv
        exact hx2.2.2 _ c v hc hv
      · rw [List.getElem?_drop] at hv
        have := hx1.cells (g := b) ((ownsRow_blk hx1).trans hb1) (off + j) v hv
        rwa [Addr.add_mid, Nat.zero_add] at this
    · cases hc
  | _ => simp [cellsFrom] at hc
end
end Go.VL
