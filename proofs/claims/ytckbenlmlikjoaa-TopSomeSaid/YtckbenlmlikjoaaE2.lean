/- The value-level logic, the engine, part 2: all operations that yield a value. -/
import Derived.Test.YtckbenlmlikjoaaE1
set_option linter.unusedVariables false
set_option linter.unusedSimpArgs false
namespace Go.VL

def ldS (ag : Bool) (n : Nat) (l : List SV) (K : SV → Prop) : Prop := match ag with
  | true => takeK n l (fun l' => mkAggK l' K)
  | false => takeK n l (fun _ => nthK 0 l K)
def ldP (ag : Bool) (n : Nat) (l : List PV) (K : SV → Prop) : Prop := match ag with
  | true => takeK n l (fun l' => K (.pv (.agg l')))
  | false => takeK n l (fun _ => nthK 0 l (fun p => K (.pv p)))
def ldA (ag : Bool) (l : List SV) (K : SV → Prop) : Prop := match ag with
  | true => mkAggK l K
  | false => nthK 0 l K
/-- Cells of an array, from a place on. -/
structure ACells (G : Option Bool) (cs : List SV) (tag off n : Nat) (l : List SV) : Prop where
  out : isOn G → tag = cs.length ∧ off < tag ∧ off + n ≤ cs.length ∧ (cs.drop off).take n = l
def loadK (G : Option Bool) (h : List (Nm × OV)) (ag : Bool) (n : Nat) (K : SV → Prop) : SV → Prop
  | .pv (.ptr cs) => ldP ag n cs K
  | .ref m off => lkOK m h (fun o => match o with | .box _ cs => dropK off cs (fun l => ldS ag n l K) | .arr _ _ _ => False) False
  | .aref m off tag => lkOK m h (fun o => match o with | .arr _ _ cs => ∃ l, ACells G cs tag off n l ∧ ldA ag l K | .box _ _ => False) False
  | _ => False
def nilckK (G : Option Bool) (h : List (Nm × OV)) (K : SV → Prop) : SV → Prop
  | .pv (.ptr cs) => K (.pv (.ptr cs))
  | .ref m off => K (.ref m off)
  | .aref m off tag => lkOK m h (fun o => match o with | .arr _ _ cs => gd G (tag = cs.length) ∧ K (.aref m off tag) | .box _ _ => False) False
  | .clo f cs => K (.clo f cs)
  | .pv (.fn f) => K (.pv (.fn f))
  | _ => False
def eqbK (ng : Bool) (K : SV → Prop) : SV → SV → Prop
  | .pv (.bool p), .pv (.bool q) => match ng with
    | true => K (.pv (.bool (!(p == q))))
    | false => K (.pv (.bool (p == q)))
  | _, _ => False
def negK (ng : Bool) (K : SV → Prop) (b : Bool) : Prop := match ng with
  | true => K (.pv (.bool (!b)))
  | false => K (.pv (.bool b))
def negC (ng : Bool) (K : SV → Prop) (b : Bool) : Prop := match ng, b with
  | true, true => K (.pv (.bool false))
  | true, false => K (.pv (.bool true))
  | false, true => K (.pv (.bool true))
  | false, false => K (.pv (.bool false))
/-- Is a list no slice at all? Where it is not empty it is one. -/
def eqnK (k : NK) (ng : Bool) (K : SV → Prop) : SV → Prop
  | .pv x => match k, x with
    | .ptr, .nilPtr => negC ng K true
    | .ptr, .ptr _ => negC ng K false
    | .slice, .nilS => negC ng K true
    | .slice, .emptyS => negC ng K false
    | .slice, .list _ (_ :: _) => negC ng K false
    | .map, .nilMap => negC ng K true
    | .func, .nilFunc => negC ng K true
    | .func, .fn _ => negC ng K false
    | .iface, .nilIface => negC ng K true
    | .iface, .iface _ _ => negC ng K false
    | _, _ => False
  | .ref _ _ => match k with
    | .ptr => negC ng K false
    | _ => False
  | .clo _ _ => match k with
    | .func => negC ng K false
    | _ => False
  | _ => False
def unK (G : Option Bool) (op : UnOp) (K : SV → Prop) (s : SV) : Prop := match op, s with
  | .not, .pv (.bool b) => K (.pv (.bool (!b)))
  | .neg, .pv (.int k n) => wrK G k (0 - n) K
  | _, _ => False
def convK (G : Option Bool) (k : IntKind) (K : SV → Prop) : SV → Prop
  | .pv (.int _ n) => wrK G k n K
  | _ => False
def convsK (K : SV → Prop) : SV → Prop
  | .pv (.str s) => K (.pv (.str s))
  | _ => False
def mkifK (t : TypeId) (K : SV → Prop) : SV → Prop
  | .pv p => K (.pv (.iface t p))
  | _ => False
def mapVK (G : Option Bool) (X : XS) : List VX → (List SV → Prop) → Prop
  | [], K => K []
  | x :: r, K => vK G X x fun s => mapVK G X r fun l => K (s :: l)
def faddrK (G : Option Bool) (h : List (Nm × OV)) (off : Nat) (K : SV → Prop) : SV → Prop
  | .pv (.ptr cs) => dropK off cs (fun l => K (.pv (.ptr l)))
  | .ref m o => K (.ref m (o + off))
  | .aref m o tag => lkOK m h (fun ob => match ob with | .arr _ _ cs => gd G (tag = cs.length) ∧ K (.aref m (o + off) tag) | .box _ _ => False) False
  | _ => False
def fieldK (ag : Bool) (off n : Nat) (K : SV → Prop) : SV → Prop
  | .pv (.agg cs) => dropK off cs (fun l => ldP ag n l K)
  | .agg cs => dropK off cs (fun l => ldS ag n l K)
  | _ => False
structure Elem (G : Option Bool) (xs : List PV) (n : Int) (cs : List PV) : Prop where
  out : isOn G → 0 ≤ n ∧ ∃ e, xs[n.toNat]? = some e ∧ e.cells = cs
structure AIdx (G : Option Bool) (cs : List SV) (tag sz : Nat) (n : Int) : Prop where
  out : isOn G → tag = cs.length ∧ 0 ≤ n ∧ n.toNat * sz + sz ≤ cs.length
def iaddrK (G : Option Bool) (h : List (Nm × OV)) (sz : Nat) (K : SV → Prop) : SV → SV → Prop
  | .pv (.list s xs), .pv (.int _ n) => bif Nat.beq s sz then ∃ cs, Elem G xs n cs ∧ K (.pv (.ptr cs)) else False
  | .arr m tag, .pv (.int _ n) => lkOK m h (fun o => match o with | .arr _ s cs => bif Nat.beq s sz then AIdx G cs tag sz n ∧ K (.aref m (n.toNat * sz) tag) else False | .box _ _ => False) False
  | _, _ => False
def byteAt (s : ByteArray) (n : Nat) : UInt8 := (s[n]?).getD 0
structure SIdx (G : Option Bool) (s : ByteArray) (n : Int) : Prop where
  out : isOn G → 0 ≤ n ∧ n.toNat < s.size
def sidxK (G : Option Bool) (K : SV → Prop) : SV → SV → Prop
  | .pv (.str s), .pv (.int _ n) => SIdx G s n ∧ K (.pv (.int .u8 (byteAt s n.toNat).toNat))
  | _, _ => False
structure LenOf (xs : List PV) (n : Nat) : Prop where
  out : xs.length = n
structure ALen (G : Option Bool) (cs : List SV) (tag s n : Nat) : Prop where
  out : isOn G → tag = cs.length ∧ cs.length / s = n
def lenK (G : Option Bool) (h : List (Nm × OV)) (K : SV → Prop) : SV → Prop
  | .pv (.list _ xs) => ∃ n, LenOf xs n ∧ K (.pv (.int .i64 (n : Nat)))
  | .pv .nilS => K (.pv (.int .i64 0))
  | .pv .emptyS => K (.pv (.int .i64 0))
  | .arr m tag => lkOK m h (fun o => match o with | .arr _ s cs => ∃ n, ALen G cs tag s n ∧ K (.pv (.int .i64 (n : Nat))) | .box _ _ => False) False
  | _ => False
def slenK (K : SV → Prop) : SV → Prop
  | .pv (.str s) => K (.pv (.int .i64 (s.size : Nat)))
  | _ => False
def extrK (i : Nat) (K : SV → Prop) : SV → Prop
  | .tup vs => nthK i vs K
  | _ => False
def mmK (mx : Bool) (K : SV → Prop) : SV → SV → Prop
  | .pv (.int k a), .pv (.int _ b) => match mx with
    | true => K (.pv (.int k (max a b)))
    | false => K (.pv (.int k (min a b)))
  | _, _ => False
def bndK (G : Option Bool) (X : XS) : Option VX → (Option Int → Prop) → Prop
  | none, K => K none
  | some x, K => vK G X x fun s => match s with
    | .pv (.int _ n) => K (some n)
    | _ => False
def bOk : Option Int → Prop
  | none => True
  | some n => 0 ≤ n
def bN (d : Nat) : Option Int → Nat
  | none => d
  | some n => n.toNat
structure SliceOf (G : Option Bool) (xs : List PV) (lo hi : Option Int) (l : List PV) : Prop where
  out : isOn G → bOk lo ∧ bOk hi ∧ bN 0 lo ≤ bN xs.length hi ∧ bN xs.length hi ≤ xs.length ∧ (xs.take (bN xs.length hi)).drop (bN 0 lo) = l
structure SSlice (G : Option Bool) (s : ByteArray) (lo hi : Option Int) (r : ByteArray) : Prop where
  out : isOn G → bOk lo ∧ bOk hi ∧ bN 0 lo ≤ bN s.size hi ∧ bN s.size hi ≤ s.size ∧ s.extract (bN 0 lo) (bN s.size hi) = r
def sliceK (G : Option Bool) (sz : Nat) (lo hi : Option Int) (K : SV → Prop) : SV → Prop
  | .pv (.list s xs) => bif Nat.beq s sz then ∃ l, SliceOf G xs lo hi l ∧ K (.pv (.list s l)) else False
  | _ => False
def sslK (G : Option Bool) (lo hi : Option Int) (K : SV → Prop) : SV → Prop
  | .pv (.str s) => ∃ r, SSlice G s lo hi r ∧ K (.pv (.str r))
  | _ => False
def cellsK : SV → (List SV → Prop) → Prop
  | .pv (.agg cs), K => mapPvK cs K
  | .pv p, K => K [.pv p]
  | .agg cs, K => K cs
  | .tup _, _ => False
  | .junk, _ => False
  | s, K => K [s]
def fillK (G : Option Bool) (X : XS) : List (Nat × Nat × VX) → List SV → (List SV → Prop) → Prop
  | [], cs, K => K cs
  | (off, n, x) :: r, cs, K => vK G X x fun s => cellsK s fun new => takeK n new fun _ => dropK n new fun e => match e with
    | [] => splK new off cs fun cs' => fillK G X r cs' K
    | _ :: _ => False

/-- All value operations. -/
def evK (G : Option Bool) (X : XS) (K : SV → Prop) : VO → Prop
  | .mv x => vK G X x K
  | .pick c a b => vK G X c fun s => match s with
    | .pv (.bool t) => vK (andG G t) X a fun sa => vK (andG G (!t)) X b fun sb => mergeK t K sa sb
    | _ => False
  | .load ag n x => vK G X x (loadK G X.h ag n K)
  | .nilck x => vK G X x (nilckK G X.h K)
  | .bin op x y => vK G X x fun s => vK G X y fun s' => binK G op K s s'
  | .eqb ng x y => vK G X x fun s => vK G X y fun s' => eqbK ng K s s'
  | .eqn k ng x => vK G X x (eqnK k ng K)
  | .un op x => vK G X x (unK G op K)
  | .conv k x => vK G X x (convK G k K)
  | .convs x => vK G X x (convsK K)
  | .mkif t x => vK G X x (mkifK t K)
  | .mkfn f caps => match caps with
    | [] => K (.pv (.fn f))
    | c :: r => mapVK G X (c :: r) fun l => K (.clo f l)
  | .faddr off x => vK G X x (faddrK G X.h off K)
  | .field ag off n x => vK G X x (fieldK ag off n K)
  | .iaddr sz x i => vK G X x fun s => vK G X i fun s' => iaddrK G X.h sz K s s'
  | .sidx x i => vK G X x fun s => vK G X i fun s' => sidxK G K s s'
  | .slice sz x lo hi => vK G X x fun s => bndK G X lo fun l => bndK G X hi fun u => sliceK G sz l u K s
  | .sslice x lo hi => vK G X x fun s => bndK G X lo fun l => bndK G X hi fun u => sslK G l u K s
  | .len x => vK G X x (lenK G X.h K)
  | .slen x => vK G X x (slenK K)
  | .extract x i => vK G X x (extrK i K)
  | .build zs parts => mapPvK zs fun l => fillK G X parts l fun cs => mkAggK cs K
  | .minmax mx x y => vK G X x fun s => vK G X y fun s' => mmK mx K s s'
  | _ => False

section
variable {G : Option Bool} {X : XS} {K : SV → Prop} {h : List (Nm × OV)}

theorem loadL_ag {n : Nat} {l : List SV} (hn : n ≤ l.length) : loadL true n l = some (mkAgg (l.take n)) := by simp [loadL, hn]
theorem loadL_one {n : Nat} {l : List SV} (hn : n ≤ l.length) : loadL false n l = l[0]? := by simp [loadL, hn]
theorem ldS_ok {ag : Bool} {n : Nat} {l : List SV} (h : ldS ag n l K) : Ok G (loadL ag n l) K := by
  cases ag with
  | true =>
    obtain ⟨h1, h2⟩ := takeK_sound (n := n) (l := l) (K := fun l' => mkAggK l' K) h
    exact .mk (fun _ => loadL_ag h1) (mkAggK_sound h2)
  | false =>
    obtain ⟨h1, h2⟩ := takeK_sound (n := n) (l := l) (K := fun _ => nthK 0 l K) h
    obtain ⟨a, h3, h4⟩ := nthK_sound h2
    exact .mk (fun _ => by rw [loadL_one h1, h3]) h4
theorem ldP_ok {ag : Bool} {n : Nat} {l : List PV} (h : ldP ag n l K) : Ok G (loadL ag n (l.map .pv)) K := by
  cases ag with
  | true =>
    obtain ⟨h1, h2⟩ := takeK_sound (n := n) (l := l) (K := fun l' => K (.pv (.agg l'))) h
    exact .mk (fun _ => by rw [loadL_ag (by simpa using h1), ← List.map_take, mkAgg_map]) h2
  | false =>
    obtain ⟨h1, h2⟩ := takeK_sound (n := n) (l := l) (K := fun _ => nthK 0 l (fun p => K (.pv p))) h
    obtain ⟨a, h3, h4⟩ := nthK_sound h2
    exact .mk (fun _ => by rw [loadL_one (by simpa using h1), List.getElem?_map, h3]; rfl) h4
theorem loadK_ok {ag : Bool} {n : Nat} {s : SV} (hk : loadK G h ag n K s) : Ok G (loadV h ag n s) K := by
  unfold loadK at hk
  split at hk
  · rw [loadV_ptr]; exact ldP_ok hk
  · rename_i m off
    rw [loadV_ref]
    rcases lkOK_sound hk with ⟨o, h1, h2⟩ | ⟨_, h2⟩
    · rw [h1]
      cases o with
      | box t cs => rw [loadB_box]; exact ldS_ok (dropK_sound (K := fun l => ldS ag n l K) h2)
      | arr t sz cs => exact h2.elim
    · exact h2.elim
  · rename_i m off tag
    rw [loadV_aref]
    rcases lkOK_sound hk with ⟨o, h1, h2⟩ | ⟨_, h2⟩
    · rw [h1]
      cases o with
      | box t cs => exact h2.elim
      | arr t sz cs =>
        obtain ⟨l, h3, h4⟩ := h2
        rw [loadA_arr]
        cases ag with
        | true =>
          refine .mk (fun ho => ?_) (mkAggK_sound h4)
          obtain ⟨e1, e2, e3, e4⟩ := h3.out ho
          rw [if_pos ⟨e1, e2⟩, loadL_ag (by simp; omega), e4]
        | false =>
          obtain ⟨a, h5, h6⟩ := nthK_sound (n := 0) (l := l) h4
          refine .mk (fun ho => ?_) h6
          obtain ⟨e1, e2, e3, e4⟩ := h3.out ho
          rw [if_pos ⟨e1, e2⟩, loadL_one (by simp; omega)]
          rw [← e4, List.getElem?_take] at h5
          split at h5
          · exact h5
          · cases h5
    · exact h2.elim
  · exact hk.elim
theorem nilckK_ok {s : SV} (hk : nilckK G h K s) : Ok G (nilckV h s) K := by
  unfold nilckK at hk
  split at hk
  · exact .mk (fun _ => rfl) hk
  · exact .mk (fun _ => rfl) hk
  · rename_i m off tag
    rcases lkOK_sound hk with ⟨o, h1, h2⟩ | ⟨_, h2⟩
    · cases o with
      | box t cs => exact h2.elim
      | arr t sz cs => exact .mk (fun ho => by rw [nilckV_aref, h1]; simp only; rw [if_pos (gd_on h2.1 ho)]) h2.2
    · exact h2.elim
  · exact .mk (fun _ => rfl) hk
  · exact .mk (fun _ => rfl) hk
  · exact hk.elim
theorem eqbK_ok {ng : Bool} {s s' : SV} (hk : eqbK ng K s s') : Ok G (eqbV ng s s') K := by
  unfold eqbK at hk
  split at hk
  · split at hk
    · exact .mk (fun _ => rfl) hk
    · exact .mk (fun _ => rfl) hk
  · exact hk.elim
theorem negC_ok {ng b : Bool} (hk : negC ng K b) : Ok G (nilB ng (some b)) K := by
  cases ng <;> cases b <;> exact .mk (fun _ => rfl) hk
theorem eqnK_ok {k : NK} {ng : Bool} {s : SV} (hk : eqnK k ng K s) : Ok G (eqnV h k ng s) K := by
  unfold eqnK at hk
  split at hk
  · split at hk <;> first | exact negC_ok hk | exact hk.elim
  · split at hk
    · exact negC_ok hk
    · exact hk.elim
  · split at hk
    · exact negC_ok hk
    · exact hk.elim
  · exact hk.elim
theorem unK_ok {op : UnOp} {s : SV} (hk : unK G op K s) : Ok G (unV op s) K := by
  unfold unK at hk
  split at hk
  · exact .mk (fun _ => rfl) hk
  · exact wrK_ok hk (fun _ => rfl)
  · exact hk.elim
theorem convK_ok {k : IntKind} {s : SV} (hk : convK G k K s) : Ok G (convV k s) K := by
  unfold convK at hk
  split at hk
  · exact wrK_ok hk (fun _ => rfl)
  · exact hk.elim
theorem convsK_ok {s : SV} (hk : convsK K s) : Ok G (convsV s) K := by
  unfold convsK at hk
  split at hk
  · exact .mk (fun _ => rfl) hk
  · exact hk.elim
theorem mkifK_ok {t : TypeId} {s : SV} (hk : mkifK t K s) : Ok G (mkifV t s) K := by
  unfold mkifK at hk
  split at hk
  · exact .mk (fun _ => rfl) hk
  · exact hk.elim
theorem mapVK_sound : ∀ {l : List VX} {K : List SV → Prop}, mapVK G X l K → ∃ vs, (isOn G → l.map X.den.val = vs) ∧ K vs
  | [], K, hk => ⟨[], fun _ => rfl, hk⟩
  | x :: r, K, hk => by
    obtain ⟨s, h1, h2⟩ := vK_sound (K := fun s => mapVK G X r fun l => K (s :: l)) hk
    obtain ⟨vs, h3, h4⟩ := mapVK_sound h2
    exact ⟨s :: vs, fun ho => by simp [h1 ho, h3 ho], h4⟩
theorem faddrK_ok {off : Nat} {s : SV} (hk : faddrK G h off K s) : Ok G (faddrV h off s) K := by
  unfold faddrK at hk
  split at hk
  · exact .mk (fun _ => rfl) (dropK_sound (K := fun l => K (.pv (.ptr l))) hk)
  · exact .mk (fun _ => rfl) hk
  · rename_i m o tag
    rcases lkOK_sound hk with ⟨ob, h1, h2⟩ | ⟨_, h2⟩
    · cases ob with
      | box t cs => exact h2.elim
      | arr t sz cs => exact .mk (fun ho => by rw [faddrV_aref, h1, faA_arr, if_pos (gd_on h2.1 ho)]) h2.2
    · exact h2.elim
  · exact hk.elim
theorem fieldL_loadL {ag : Bool} {off n : Nat} {cs : List SV} (h0 : off ≤ cs.length) (hn : n ≤ (cs.drop off).length) : fieldL ag off n cs = loadL ag n (cs.drop off) := by
  unfold fieldL loadL
  rw [if_pos hn, if_pos (by simp at hn; omega), List.getElem?_drop]
  simp
theorem loadL_some {ag : Bool} {n : Nat} {cs : List SV} {s : SV} (h : loadL ag n cs = some s) : n ≤ cs.length := by
  unfold loadL at h
  split at h
  · assumption
  · cases h
theorem fieldK_ok {ag : Bool} {off n : Nat} {s : SV} (hk : fieldK ag off n K s) : Ok G (fieldV ag off n s) K := by
  have key : ∀ cs : List SV, off ≤ cs.length → Ok none (loadL ag n (cs.drop off)) K → Ok G (fieldL ag off n cs) K := by
    rintro cs h0 ⟨s, h1, h2⟩
    have h1 := h1 trivial
    exact .mk (fun _ => by rw [fieldL_loadL h0 (loadL_some h1), h1]) h2
  unfold fieldK at hk
  split at hk
  · rename_i cs
    rw [fieldV_pv]
    obtain ⟨h1, h2⟩ := dropK_sound' (K := fun l => ldP ag n l K) hk
    refine key _ (by simpa using h1) ?_
    rw [← List.map_drop]
    exact ldP_ok h2
  · rename_i cs
    rw [fieldV_agg]
    obtain ⟨h1, h2⟩ := dropK_sound' (K := fun l => ldS ag n l K) hk
    exact key _ h1 (ldS_ok h2)
  · exact hk.elim
theorem iaddrK_ok {sz : Nat} {s s' : SV} (hk : iaddrK G h sz K s s') : Ok G (iaddrV h sz s s') K := by
  unfold iaddrK at hk
  split at hk
  · rename_i s0 xs k n
    cases hs : Nat.beq s0 sz with
    | false => rw [hs] at hk; exact hk.elim
    | true =>
      rw [hs] at hk
      obtain ⟨cs, h1, h2⟩ := hk
      refine .mk (fun ho => ?_) h2
      obtain ⟨e1, e, e2, e3⟩ := h1.out ho
      rw [iaddrV_list, if_pos ⟨Nat.eq_of_beq_eq_true hs, e1⟩, e2, ← e3]
      rfl
  · rename_i m tag k n
    rcases lkOK_sound hk with ⟨ob, h1, h2⟩ | ⟨_, h2⟩
    · cases ob with
      | box t cs => exact h2.elim
      | arr t s0 cs =>
        simp only at h2
        cases hs : Nat.beq s0 sz with
        | false => rw [hs] at h2; exact h2.elim
        | true =>
          rw [hs] at h2
          exact .mk (fun ho => by rw [iaddrV_arr, h1, ixA_arr, if_pos ⟨Nat.eq_of_beq_eq_true hs, h2.1.out ho⟩]) h2.2
    · exact h2.elim
  · exact hk.elim
theorem sidxK_ok {s s' : SV} (hk : sidxK G K s s') : Ok G (sidxV s s') K := by
  unfold sidxK at hk
  split at hk
  · rename_i s0 k n
    refine .mk (fun ho => ?_) hk.2
    obtain ⟨e1, e2⟩ := hk.1.out ho
    rw [sidxV_eq, if_pos e1]
    simp [byteAt, e2]
  · exact hk.elim
theorem lenK_ok {s : SV} (hk : lenK G h K s) : Ok G (lenV h s) K := by
  unfold lenK at hk
  split at hk
  · obtain ⟨n, h1, h2⟩ := hk
    exact .mk (fun _ => by rw [lenV_list, h1.out]) h2
  · exact .mk (fun _ => rfl) hk
  · exact .mk (fun _ => rfl) hk
  · rename_i m tag
    rcases lkOK_sound hk with ⟨ob, h1, h2⟩ | ⟨_, h2⟩
    · cases ob with
      | box t cs => exact h2.elim
      | arr t s0 cs =>
        obtain ⟨n, h3, h4⟩ := h2
        exact .mk (fun ho => by rw [lenV_arr, h1, lenA_arr, if_pos (h3.out ho).1, (h3.out ho).2]) h4
    · exact h2.elim
  · exact hk.elim
theorem slenK_ok {s : SV} (hk : slenK K s) : Ok G (slenV s) K := by
  unfold slenK at hk
  split at hk
  · exact .mk (fun _ => rfl) hk
  · exact hk.elim
theorem extrK_ok {i : Nat} {s : SV} (hk : extrK i K s) : Ok G (extrV i s) K := by
  unfold extrK at hk
  split at hk
  · obtain ⟨a, h1, h2⟩ := nthK_sound hk
    exact .mk (fun _ => h1) h2
  · exact hk.elim
theorem mmK_ok {mx : Bool} {s s' : SV} (hk : mmK mx K s s') : Ok G (mmV mx s s') K := by
  unfold mmK at hk
  split at hk
  · rename_i k a k' b
    split at hk
    · refine .mk (fun _ => ?_) hk
      rw [mmV_max]
      have : (if b > a then b else a) = max a b := by split <;> omega
      rw [this]
    · refine .mk (fun _ => ?_) hk
      rw [mmV_min]
      have : (if b < a then b else a) = min a b := by split <;> omega
      rw [this]
  · exact hk.elim
theorem bndK_sound {o : Option VX} {K : Option Int → Prop} (hk : bndK G X o K) : ∃ r, (isOn G → ∀ d, bOk r → bnd X.den d o = some (bN d r)) ∧ K r := by
  cases o with
  | none => exact ⟨none, fun _ _ _ => rfl, hk⟩
  | some x =>
    simp only [bndK] at hk
    obtain ⟨s, h1, h2⟩ := vK_sound hk
    split at h2
    · rename_i k n
      refine ⟨some n, fun ho d hb => ?_, h2⟩
      have : bnd X.den d (some x) = bndV (X.den.val x) := bnd_some (t := denT X.t) (h := X.h) d x
      rw [this, h1 ho, bndV_int, if_pos (show 0 ≤ n from hb)]
      rfl
    · exact h2.elim
theorem sliceK_ok {sz : Nat} {lo hi : Option Int} {s : SV} {lo' : Option Nat} {hi' : Nat → Option Nat} (h1 : isOn G → bOk lo → lo' = some (bN 0 lo)) (h2 : isOn G → bOk hi → ∀ d, hi' d = some (bN d hi)) (hk : sliceK G sz lo hi K s) : Ok G (slcV sz lo' hi' s) K := by
  unfold sliceK at hk
  split at hk
  · rename_i s0 xs
    cases hs : Nat.beq s0 sz with
    | false => rw [hs] at hk; exact hk.elim
    | true =>
      rw [hs] at hk
      obtain ⟨l, h3, h4⟩ := hk
      refine .mk (fun ho => ?_) h4
      obtain ⟨e1, e2, e3, e4, e5⟩ := h3.out ho
      rw [slcV_list, h1 ho e1, h2 ho e2, slcL_eq, if_pos ⟨Nat.eq_of_beq_eq_true hs, e3, e4⟩, e5]
  · exact hk.elim
theorem sslK_ok {lo hi : Option Int} {s : SV} {lo' : Option Nat} {hi' : Nat → Option Nat} (h1 : isOn G → bOk lo → lo' = some (bN 0 lo)) (h2 : isOn G → bOk hi → ∀ d, hi' d = some (bN d hi)) (hk : sslK G lo hi K s) : Ok G (sslV lo' hi' s) K := by
  unfold sslK at hk
  split at hk
  · rename_i s0
    obtain ⟨l, h3, h4⟩ := hk
    refine .mk (fun ho => ?_) h4
    obtain ⟨e1, e2, e3, e4, e5⟩ := h3.out ho
    rw [sslV_str, h1 ho e1, h2 ho e2, sslL_eq, if_pos ⟨e3, e4⟩, e5]
  · exact hk.elim
theorem cellsK_sound {s : SV} {K : List SV → Prop} (hk : cellsK s K) : ∃ l, s.cellsL = some l ∧ K l := by
  unfold cellsK at hk
  split at hk
  · exact ⟨_, rfl, mapPvK_sound hk⟩
  · rename_i p hp
    refine ⟨_, ?_, hk⟩
    cases p <;> first | rfl | exact absurd rfl (hp _)
  · exact ⟨_, rfl, hk⟩
  · exact hk.elim
  · exact hk.elim
  · rename_i h1 h2 h3 h4 h5
    refine ⟨_, ?_, hk⟩
    cases s with
    | pv p => exact (h2 _ rfl).elim
    | agg cs => exact (h3 _ rfl).elim
    | tup cs => exact (h4 _ rfl).elim
    | junk => exact (h5 rfl).elim
    | _ => rfl
theorem fillK_sound : ∀ {parts : List (Nat × Nat × VX)} {cs : List SV} {K : List SV → Prop}, fillK G X parts cs K → ∃ r, (isOn G → fillS X.den parts cs = some r) ∧ K r
  | [], cs, K, hk => ⟨cs, fun _ => rfl, hk⟩
  | (off, n, x) :: r, cs, K, hk => by
    simp only [fillK] at hk
    obtain ⟨s, h1, h2⟩ := vK_sound hk
    obtain ⟨new, h3, h4⟩ := cellsK_sound h2
    obtain ⟨h5, h6⟩ := takeK_sound (n := n) (l := new) (K := fun _ => dropK n new fun e => match e with
      | [] => splK new off cs fun cs' => fillK G X r cs' K
      | _ :: _ => False) h4
    have h7 := dropK_sound (n := n) (l := new) (K := fun e => match e with
      | [] => splK new off cs fun cs' => fillK G X r cs' K
      | _ :: _ => False) h6
    split at h7
    · rename_i hd
      obtain ⟨h8, h9⟩ := splK_sound (n := off) (K := fun cs' => fillK G X r cs' K) h7
      obtain ⟨res, h10, h11⟩ := fillK_sound h9
      refine ⟨res, fun ho => ?_, h11⟩
      simp only [fillS, h1 ho, h3]
      have hl : new.length = n := by have := congrArg List.length hd; simp at this; omega
      rw [if_pos ⟨hl, by omega⟩]
      exact h10 ho
    · exact h7.elim

/-- The whole: what is told of a value operation is what it comes to. -/
theorem evK_ok {op : VO} (hk : evK G X K op) : Ok G (evalV X.den op) K := by
  cases op <;> simp only [evK] at hk <;> try (exact hk.elim; done)
  case mv x => obtain ⟨s, h1, h2⟩ := vK_sound hk; exact .mk (fun ho => by simp [evalV, h1 ho]) h2
  case pick c a b =>
    obtain ⟨s, h1, h2⟩ := vK_sound hk
    split at h2
    · rename_i t
      obtain ⟨sa, h3, h4⟩ := vK_sound h2
      obtain ⟨sb, h5, h6⟩ := vK_sound h4
      refine .mk (fun ho => ?_) (mergeK_sound h6)
      simp only [evalV, h1 ho]
      cases t with
      | true => simp only [if_true]; rw [h3 (andG_on ho rfl)]
      | false => simp only [Bool.false_eq_true, if_false]; rw [h5 (andG_on ho rfl)]
    · exact h2.elim
  case load ag n x => exact .bind hk (ev_load (t := denT X.t) ag n x) (fun s h => loadK_ok h)
  case nilck x => exact .bind hk (ev_nilck (t := denT X.t) x) (fun s h => nilckK_ok h)
  case bin op x y =>
    refine .bind (F := fun s => binV op s (X.den.val y)) hk (ev_bin (t := denT X.t) (h := X.h) op x y) (fun s h => ?_)
    exact .bind (F := fun s' => binV op s s') h rfl (fun s' h' => by
      have := binK_ok h'
      have e : biV op s s' = binV op s s' := by cases s <;> cases s' <;> rfl
      rwa [e] at this)
  case eqb ng x y =>
    refine .bind (F := fun s => eqbV ng s (X.den.val y)) hk (ev_eqb (t := denT X.t) (h := X.h) ng x y) (fun s h => ?_)
    exact .bind (F := fun s' => eqbV ng s s') h rfl (fun s' h' => eqbK_ok h')
  case eqn k ng x => exact .bind hk (ev_eqn (t := denT X.t) k ng x) (fun s h => eqnK_ok h)
  case un op x => exact .bind hk (ev_un (t := denT X.t) (h := X.h) op x) (fun s h => unK_ok h)
  case conv k x => exact .bind hk (ev_conv (t := denT X.t) (h := X.h) k x) (fun s h => convK_ok h)
  case convs x => exact .bind hk (ev_convs (t := denT X.t) (h := X.h) x) (fun s h => convsK_ok h)
  case mkif t x => exact .bind hk (ev_mkif (t := denT X.t) (h := X.h) t x) (fun s h => mkifK_ok h)
  case mkfn f caps =>
    split at hk
    · exact .mk (fun _ => rfl) hk
    · obtain ⟨vs, h1, h2⟩ := mapVK_sound hk
      exact .mk (fun ho => by simp only [evalV]; rw [h1 ho]) h2
  case faddr off x => exact .bind hk (ev_faddr (t := denT X.t) off x) (fun s h => faddrK_ok h)
  case field ag off n x => exact .bind hk (ev_field (t := denT X.t) (h := X.h) ag off n x) (fun s h => fieldK_ok h)
  case iaddr sz x i =>
    refine .bind (F := fun s => iaddrV X.h sz s (X.den.val i)) hk (ev_iaddr (t := denT X.t) sz x i) (fun s h => ?_)
    exact .bind (F := fun s' => iaddrV X.h sz s s') h rfl (fun s' h' => iaddrK_ok h')
  case sidx x i =>
    refine .bind (F := fun s => sidxV s (X.den.val i)) hk (ev_sidx (t := denT X.t) (h := X.h) x i) (fun s h => ?_)
    exact .bind (F := fun s' => sidxV s s') h rfl (fun s' h' => sidxK_ok h')
  case slice sz x lo hi =>
    refine .bind (F := fun s => slcV sz (bnd X.den 0 lo) (fun n => bnd X.den n hi) s) hk (ev_slice (t := denT X.t) (h := X.h) sz x lo hi) (fun s h => ?_)
    obtain ⟨l, h1, h2⟩ := bndK_sound h
    obtain ⟨u, h3, h4⟩ := bndK_sound h2
    exact sliceK_ok (fun ho hb => h1 ho 0 hb) (fun ho hb d => h3 ho d hb) h4
  case sslice x lo hi =>
    refine .bind (F := fun s => sslV (bnd X.den 0 lo) (fun n => bnd X.den n hi) s) hk (ev_sslice (t := denT X.t) (h := X.h) x lo hi) (fun s h => ?_)
    obtain ⟨l, h1, h2⟩ := bndK_sound h
    obtain ⟨u, h3, h4⟩ := bndK_sound h2
    exact sslK_ok (fun ho hb => h1 ho 0 hb) (fun ho hb d => h3 ho d hb) h4
  case len x => exact .bind hk (ev_len (t := denT X.t) x) (fun s h => lenK_ok h)
  case slen x => exact .bind hk (ev_slen (t := denT X.t) (h := X.h) x) (fun s h => slenK_ok h)
  case extract x i => exact .bind hk (ev_extract (t := denT X.t) (h := X.h) x i) (fun s h => extrK_ok h)
  case build zs parts =>
    have h1 := mapPvK_sound (K := fun l => fillK G X parts l fun cs => mkAggK cs K) hk
    obtain ⟨r, h2, h3⟩ := fillK_sound h1
    exact .mk (fun ho => by
      have : evalV X.den (.build zs parts) = (fillS X.den parts (zs.map .pv)).map mkAgg := ev_build (t := denT X.t) (h := X.h) zs parts
      rw [this, h2 ho]; rfl) (mkAggK_sound h3)
  case minmax mx x y =>
    refine .bind (F := fun s => mmV mx s (X.den.val y)) hk (ev_minmax (t := denT X.t) (h := X.h) mx x y) (fun s h => ?_)
    exact .bind (F := fun s' => mmV mx s s') h rfl (fun s' h' => mmK_ok h')
end
end Go.VL
