/- The value-level logic, the engine, part 3: operations on memory; calls; regions; what is forgotten behind them. -/
import Derived.Test.YtckbenlmlikjoaaE2
set_option linter.unusedVariables false
set_option linter.unusedSimpArgs false
namespace Go.VL

def setDK : Option Nat → XV → XS → (XS → Prop) → Prop
  | none, _, X, K => K X
  | some d, x, ⟨t, h⟩, K => setTK d x t fun t' => K ⟨t', h⟩
theorem setDK_sound {dst : Option Nat} {x : XV} {X : XS} {K : XS → Prop} (h : setDK dst x X K) : ∃ Y : XS, Y.den = setD X.den dst x.den ∧ K Y := by
  cases dst with
  | none => exact ⟨X, rfl, h⟩
  | some d =>
    obtain ⟨t, hh⟩ := X
    obtain ⟨l, h1, h2⟩ := setTK_sound (K := fun t' => K ⟨t', hh⟩) h
    exact ⟨⟨l, hh⟩, by simp [XS.den, setD, St.set, h1], h2⟩
/-- A new thing behind a slot. -/
def newK (d : Nat) (o : OV) (s : SV) : XS → (XS → Prop) → Prop
  | ⟨t, h⟩, K => lkOK [d] h (fun _ => False) (setTK d (.v s) t fun t' => setOK [d] o h fun h' => K ⟨t', h'⟩)
theorem newK_sound {d : Nat} {o : OV} {s : SV} {X : XS} {K : XS → Prop} (h : newK d o s X K) : X.den.obj [d] = none ∧ ∃ Y : XS, Y.den = (X.den.put [d] o).set d s ∧ K Y := by
  obtain ⟨t, hh⟩ := X
  rcases lkOK_sound h with ⟨_, _, h2⟩ | ⟨h1, h2⟩
  · exact h2.elim
  · obtain ⟨l, h3, h4⟩ := setTK_sound (K := fun t' => setOK [d] o hh fun h' => K ⟨t', h'⟩) h2
    have h5 := setOK_sound (K := fun h' => K ⟨l, h'⟩) h4
    exact ⟨h1, ⟨l, setO [d] o hh⟩, by simp [XS.den, St.put, St.set, h3, XV.den], h5⟩
/-- A slot and a thing. -/
def setBK (d : Nat) (x : XV) (n : Nm) (o : OV) : XS → (XS → Prop) → Prop
  | ⟨t, h⟩, K => setTK d x t fun t' => setOK n o h fun h' => K ⟨t', h'⟩
theorem setBK_sound {d : Nat} {x : XV} {n : Nm} {o : OV} {X : XS} {K : XS → Prop} (h : setBK d x n o X K) : ∃ Y : XS, Y.den = (X.den.put n o).set d x.den ∧ K Y := by
  obtain ⟨t, hh⟩ := X
  obtain ⟨l, h1, h2⟩ := setTK_sound (K := fun t' => setOK n o hh fun h' => K ⟨t', h'⟩) h
  exact ⟨⟨l, setO n o hh⟩, by simp [XS.den, St.put, St.set, h1], setOK_sound (K := fun h' => K ⟨l, h'⟩) h2⟩
def denseK (X : XS) (sz : Nat) : List VX → (List SV → Prop) → Prop
  | [], K => K []
  | x :: r, K => vK none X x fun s => cellsK s fun c => takeK sz c fun _ => dropK sz c fun e => match e with
    | [] => denseK X sz r fun l => overK c (c ++ l) fun l' => K l'
    | _ :: _ => False
structure CellN (G : Option Bool) (p : PV) (sz : Nat) : Prop where
  out : isOn G → p.cells.length = sz
def elemsK (G : Option Bool) (X : XS) (sz : Nat) : List VX → (List PV → Prop) → Prop
  | [], K => K []
  | x :: r, K => vK G X x fun s => match s with
    | .pv p => CellN G p sz ∧ elemsK G X sz r fun l => K (p :: l)
    | _ => False
structure SetAt (cs : List SV) (tag off : Nat) (new cs' : List SV) : Prop where
  out : tag = cs.length ∧ off + new.length ≤ cs.length ∧ splice off new cs = cs'
def storeP : XS → List SV → (XS → Prop) → SV → Prop
  | ⟨tt, h⟩, new, K, .ref m off => lkOK m h (fun o => match o with
    | .box t cs => splK new off cs fun cs' => setOK m (.box t cs') h fun h' => K ⟨tt, h'⟩
    | .arr _ _ _ => False) False
  | ⟨tt, h⟩, new, K, .aref m off tag => lkOK m h (fun o => match o with
    | .arr t sz cs => ∃ cs', SetAt cs tag off new cs' ∧ setOK m (.arr t sz cs') h fun h' => K ⟨tt, h'⟩
    | .box _ _ => False) False
  | _, _, _, _ => False
def storeK (X : XS) (n : Nat) (p x : SV) (K : XS → Prop) : Prop := cellsK x fun new => takeK n new fun _ => dropK n new fun e => match e with
  | [] => storeP X new K p
  | _ :: _ => False
structure FlatOf (xs : List PV) (ys : List SV) : Prop where
  out : (flat xs).map .pv = ys
structure Emp (n : Nat) (b : Bool) : Prop where
  out : decide (n = 0) = b
structure AppOf (cs ys cs' : List SV) : Prop where
  out : cs ++ ys = cs'
structure AppFit (cs ys : List SV) (sz bytes : Nat) : Prop where
  out : (cs.length / sz + ys.length / sz) * bytes ≤ 140737488355328
def listK (h : List (Nm × OV)) (sz : Nat) (K : List SV → Prop) : SV → Prop
  | .pv (.list s xs) => bif Nat.beq s sz then ∃ ys, FlatOf xs ys ∧ K ys else False
  | .pv .nilS => K []
  | .pv .emptyS => K []
  | .arr n tag => lkOK n h (fun o => match o with
    | .arr _ s cs => bif Nat.beq s sz then tag = cs.length ∧ K cs else False
    | .box _ _ => False) False
  | _ => False
def appK (X : XS) (d e sz bytes : Nat) (x y : SV) (K : XS → Prop) : Prop := listK X.h sz (fun ys => match x with
  | .pv .nilS => ∃ b, Emp ys.length b ∧ (bif b then setDK (some d) (.v (.pv .nilS)) X K else
      bif Nat.blt 0 bytes then AppFit [] ys sz bytes ∧ newK d (.arr e sz ys) (.arr [d] ys.length) X K else False)
  | .arr n tag => lkOK n X.h (fun o => match o with
    | .arr t s cs => bif Nat.beq t e && Nat.beq s sz && Nat.blt 0 bytes then tag = cs.length ∧ ∃ b, Emp ys.length b ∧ (bif b then setDK (some d) (.v (.arr n tag)) X K else
        AppFit cs ys sz bytes ∧ ∃ cs', AppOf cs ys cs' ∧ setBK d (.v (.arr n cs'.length)) n (.arr t s cs') X K) else False
    | .box _ _ => False) False
  | _ => False) y
structure RepOf (n : Nat) (z cs : List SV) (len : Nat) : Prop where
  out : (List.replicate n z).flatten = cs ∧ len = cs.length
structure MkFit (n c : Int) (bytes : Nat) : Prop where
  out : 0 ≤ n ∧ n = c ∧ n * bytes ≤ 281474976710656 ∧ n ≤ 9223372036854775807
def mksK (X : XS) (d e sz bytes : Nat) (z : List PV) (K : XS → Prop) : SV → SV → Prop
  | .pv (.int _ n), .pv (.int _ c) => MkFit n c bytes ∧ mapPvK z fun zs => ∃ cs, RepOf n.toNat zs cs (n.toNat * sz) ∧ newK d (.arr e sz cs) (.arr [d] cs.length) X K
  | _, _ => False
structure StrFit (n : Nat) : Prop where
  out : n ≤ 140737488355328
def asK (X : XS) (d e : Nat) (K : XS → Prop) : SV → SV → Prop
  | x, .pv (.str s) => match x with
    | .pv .nilS => ∃ b, Emp s.size b ∧ (bif b then setDK (some d) (.v (.pv .nilS)) X K else StrFit s.size ∧ ∃ cs', AppOf [] (strS s) cs' ∧ newK d (.arr e 1 cs') (.arr [d] cs'.length) X K)
    | .arr n tag => lkOK n X.h (fun o => match o with
      | .arr t sz cs => bif Nat.beq t e && Nat.beq sz 1 then tag = cs.length ∧ StrFit (cs.length + s.size) ∧ ∃ b, Emp s.size b ∧ (bif b then setDK (some d) (.v (.arr n tag)) X K else
          ∃ cs', AppOf cs (strS s) cs' ∧ setBK d (.v (.arr n cs'.length)) n (.arr t sz cs') X K) else False
      | .box _ _ => False) False
    | _ => False
  | _, _ => False

/-- A call. -/
structure XCall (P : Program) (f : FuncId) (vals : List SV) (dst : Option Nat) (X : XS) (K : XS → Prop) : Prop where
  out : ∀ K2 : St → Prop, (∀ Y : XS, K Y → K2 Y.den) → VCall P f vals dst X.den K2
/-- A call with one outcome. -/
structure XDet (P : Program) (f : FuncId) (vals : List SV) (X : XS) (s : SV) : Prop where
  out : VDet P f vals X.den.obj s
def appLK : List SV → List SV → (List SV → Prop) → Prop
  | [], l, K => K l
  | s :: r, l, K => appLK r l fun x => K (s :: x)

def xexec (P : Program) (dst : Option Nat) (op : VO) (X : XS) (K : XS → Prop) : Prop := match op with
  | .alloc t zs => match dst with
    | some d => mapPvK zs fun cs => newK d (.box t cs) (.ref [d] 0) X K
    | none => False
  | .box t x => match dst with
    | some d => vK none X x fun s => cellsK s fun cs => newK d (.box t cs) (.ref [d] 0) X K
    | none => False
  | .bslice own e sz parts => match dst with
    | some d => match own with
      | true => denseK X sz parts fun cs => newK d (.arr e sz cs) (.arr [d] cs.length) X K
      | false => elemsK none X sz parts fun xs => setDK (some d) (.v (.pv (.list sz xs))) X K
    | none => False
  | .store n p x => match dst with
    | some _ => False
    | none => vK none X p fun sp => vK none X x fun sx => storeK X n sp sx K
  | .append e sz bytes x y => match dst with
    | some d => vK none X x fun sx => vK none X y fun sy => appK X d e sz bytes sx sy K
    | none => False
  | .appstr e x y => match dst with
    | some d => vK none X x fun sx => vK none X y fun sy => asK X d e K sx sy
    | none => False
  | .mkslice e sz bytes z n c => match dst with
    | some d => vK none X n fun sn => vK none X c fun sc => mksK X d e sz bytes z K sn sc
    | none => False
  | .call f args => mapVK none X args fun vals => XCall P f vals dst X K
  | .callv x args => vK none X x fun s => match s with
    | .pv (.fn f) => hasBody P f = true ∧ mapVK none X args fun vals => XCall P f vals dst X K
    | .clo f caps => hasBody P f = true ∧ mapVK none X args fun vals => appLK vals caps fun vals' => XCall P f vals' dst X K
    | _ => False
  | op => evK none X (fun s => setDK dst (.v s) X K) op

def guardK (g : Nat) (pol : Bool) (X : XS) (K : Bool → Prop) : Prop := lkK g X.t fun x => match x with
  | .v (.pv (.bool b)) => match pol with
    | true => K b
    | false => K (!b)
  | .c b1 (.pv (.bool b)) => match pol with
    | true => K (b1 && b)
    | false => K (b1 && !b)
  | .v (.tup []) => K false
  | _ => False
/-- A call that has its turn just where b holds. -/
structure XGc (b : Bool) (P : Program) (f : FuncId) (vals : List SV) (dst : Option Nat) (X : XS) (K : XS → Prop) : Prop where
  out : ∀ K2 : St → Prop, (∀ Y : XS, K Y → K2 Y.den) → (b = true → VCall P f vals dst X.den K2) ∧ (b = false → K2 (setD X.den dst (.tup [])))
theorem XGc.split {b : Bool} {P : Program} {f : FuncId} {vals : List SV} {dst : Option Nat} {X : XS} {K : XS → Prop} (h : (b = true → XCall P f vals dst X K) ∧ (b = false → setDK dst (.v (.tup [])) X K)) : XGc b P f vals dst X K := by
  refine ⟨fun K2 hk => ⟨fun hb => (h.1 hb).out K2 hk, fun hb => ?_⟩⟩
  obtain ⟨Y, h1, h2⟩ := setDK_sound (h.2 hb)
  have := hk Y h2
  rw [h1] at this
  exact this
/-- At a guard: passed over, or not. -/
inductive Gd3 (b : Bool) (L D : Prop) : Prop
  | dead (h : b = false) (k : D)
  | live (k : L)
def xstep (P : Program) : VOp → XS → (XS → Prop) → Prop
  | ⟨dst, none, op⟩, X, K => xexec P dst op X K
  | ⟨dst, some (g, pol), op⟩, X, K => guardK g pol X fun gb => Gd3 gb (match op with
    | .call f args => mapVK (some gb) X args fun vals => XGc gb P f vals dst X K
    | op => match isVal op with
      | true => evK (some gb) X (fun s => setDK dst (.c gb s) X K) op
      | false => (gb = true → xexec P dst op X K) ∧ (gb = false → setDK dst (.v (.tup [])) X K)) (setDK dst (.v (.tup [])) X K)
def xtakeX (P : Program) (G : Option Bool) (wr : SV → XV) (dst : Option Nat) (op : VO) (X : XS) (K : XS → Prop) : Prop := match op with
  | .bslice _ _ sz parts => elemsK G X sz parts fun xs => setDK dst (wr (.pv (.list sz xs))) X K
  | .call f args => mapVK G X args fun vals => ∃ s, gd G (XDet P f vals X s) ∧ setDK dst (wr s) X K
  | .callv x args => vK G X x fun s => match s with
    | .pv (.fn f) => hasBody P f = true ∧ mapVK G X args fun vals => ∃ s, gd G (XDet P f vals X s) ∧ setDK dst (wr s) X K
    | .clo f caps => hasBody P f = true ∧ mapVK G X args fun vals => appLK vals caps fun vals' => ∃ s, gd G (XDet P f vals' X s) ∧ setDK dst (wr s) X K
    | _ => False
  | op => evK G X (fun s => setDK dst (wr s) X K) op
def xtake (P : Program) : VOp → XS → (XS → Prop) → Prop
  | ⟨dst, none, op⟩, X, K => xtakeX P none .v dst op X K
  | ⟨dst, some (g, pol), op⟩, X, K => guardK g pol X fun gb => Gd3 gb (xtakeX P (some gb) (.c gb) dst op X K) (setDK dst (.v (.tup [])) X K)
def xsteps (P : Program) : List VOp → XS → (XS → Prop) → Prop
  | [], X, K => K X
  | o :: r, X, K => xstep P o X fun Y => xsteps P r Y K
def isStop : VPl → Bool
  | .stop => true
  | _ => false
/-- Two orders: each to be walked. -/
structure XAlt (A B : Prop) : Prop where
  one : A
  two : B
def branchy : VPl → Bool
  | .take _ p => branchy p
  | .alt _ _ p q => !(isStop q) || branchy p
  | _ => false
def xalt (P : Program) (d : Bool) (o : VOp) (X : XS) (K : XS → Prop) (b : Bool) (R : Prop) : Prop := match d, b with
  | true, true => xtake P o X K
  | false, true => xstep P o X K
  | true, false => XAlt (xtake P o X K) R
  | false, false => XAlt (xstep P o X K) R
def xpl (P : Program) (K : XS → Prop) : VPl → XS → Prop
  | .done, X => K X
  | .bad, _ => False
  | .stop, _ => True
  | .take o p, X => xtake P o X (xpl P K p)
  | .alt d o p q, X => xalt P d o X (xpl P K p) (isStop q) (xpl P K q X)

section
variable {P : Program} {X : XS} {K : XS → Prop} {K2 : St → Prop}

theorem cellsK_len {n : Nat} {new : List SV} {F : Prop} (h : takeK n new fun _ => dropK n new fun e => match e with | [] => F | _ :: _ => False) : new.length = n ∧ F := by
  obtain ⟨h1, h2⟩ := takeK_sound (n := n) (l := new) h
  have h3 := dropK_sound (n := n) (l := new) (K := fun e => match e with | [] => F | _ :: _ => False) h2
  split at h3
  · rename_i hd
    have := congrArg List.length hd
    simp at this
    exact ⟨by omega, h3⟩
  · exact h3.elim
theorem denseK_sound {sz : Nat} : ∀ {l : List VX} {K : List SV → Prop}, denseK X sz l K → ∃ r, dense X.den sz l = some r ∧ K r
  | [], K, h => ⟨[], rfl, h⟩
  | x :: r, K, h => by
    simp only [denseK] at h
    obtain ⟨s, h1, h2⟩ := vK_sound h
    obtain ⟨c, h3, h4⟩ := cellsK_sound h2
    obtain ⟨h5, h6⟩ := cellsK_len (F := denseK X sz r fun l => overK c (c ++ l) fun l' => K l') h4
    obtain ⟨res, h7, h8⟩ := denseK_sound h6
    obtain ⟨_, h9⟩ := overK_sound (new := c) (old := c ++ res) h8
    rw [List.drop_left'] at h9
    · exact ⟨c ++ res, by simp only [dense, h1 trivial, h3, h7, if_pos h5], h9⟩
    · rfl
theorem elemsK_sound {G : Option Bool} {sz : Nat} : ∀ {l : List VX} {K : List PV → Prop}, elemsK G X sz l K → ∃ r, (isOn G → elems X.den sz l = some r) ∧ K r
  | [], K, h => ⟨[], fun _ => rfl, h⟩
  | x :: r, K, h => by
    simp only [elemsK] at h
    obtain ⟨s, h1, h2⟩ := vK_sound h
    split at h2
    · rename_i p
      obtain ⟨h3, h4⟩ := h2
      obtain ⟨res, h5, h6⟩ := elemsK_sound h4
      exact ⟨p :: res, fun ho => by simp only [elems, h1 ho, h5 ho, if_pos (h3.out ho)], h6⟩
    · exact h2.elim
theorem storeK_sound {n : Nat} {p x : SV} (h : storeK X n p x K) : ∃ Y : XS, VL.storeAt X.den n p x = some Y.den ∧ K Y := by
  obtain ⟨tt, hh⟩ := X
  unfold storeK at h
  obtain ⟨new, h1, h2⟩ := cellsK_sound h
  obtain ⟨h3, h4⟩ := cellsK_len (F := storeP ⟨tt, hh⟩ new K p) h2
  subst h3
  have e : VL.storeAt (XS.den ⟨tt, hh⟩) new.length p x = stV (denT tt) hh new.length p x.cellsL := storeAt_eq (t := denT tt) (h := hh) new.length p x
  rw [h1] at e
  cases p
  case ref m off =>
    rw [stV_ref] at e
    rcases lkOK_sound h4 with ⟨o, h5, h6⟩ | ⟨_, h6⟩
    · cases o with
      | box t cs =>
        obtain ⟨h7, h8⟩ := splK_sound (K := fun cs' => setOK m (.box t cs') hh fun h' => K ⟨tt, h'⟩) h6
        have h9 := setOK_sound (K := fun h' => K ⟨tt, h'⟩) h8
        rw [h5, stB_box, if_pos ⟨rfl, h7⟩] at e
        exact ⟨⟨tt, setO m (.box t (splice off new cs)) hh⟩, e, h9⟩
      | arr t sz cs => exact h6.elim
    · exact h6.elim
  case aref m off tag =>
    rw [stV_aref] at e
    rcases lkOK_sound h4 with ⟨o, h5, h6⟩ | ⟨_, h6⟩
    · cases o with
      | box t cs => exact h6.elim
      | arr t sz cs =>
        obtain ⟨cs', h7, h8⟩ := h6
        have h9 := setOK_sound (K := fun h' => K ⟨tt, h'⟩) h8
        rw [h5, stA_arr, if_pos ⟨rfl, h7.out.1, h7.out.2.1⟩, h7.out.2.2] at e
        exact ⟨⟨tt, setO m (.arr t sz cs') hh⟩, e, h9⟩
    · exact h6.elim
  all_goals exact h4.elim
theorem Emp.cases {n : Nat} {b : Bool} {A B : Prop} (h : Emp n b) (k : bif b then A else B) : (n = 0 ∧ A) ∨ (n ≠ 0 ∧ B) := by
  obtain ⟨h⟩ := h
  by_cases hn : n = 0
  · simp [hn] at h; subst h; exact .inl ⟨hn, k⟩
  · simp [hn] at h; subst h; exact .inr ⟨hn, k⟩
theorem listK_sound {sz : Nat} {s : SV} {K : List SV → Prop} (h : listK X.h sz K s) : ∃ ys, listCells X.den sz s = some ys ∧ K ys := by
  unfold listK at h
  split at h
  · rename_i s0 xs
    cases hs : Nat.beq s0 sz with
    | false => rw [hs] at h; exact h.elim
    | true =>
      rw [hs] at h
      obtain ⟨ys, h1, h2⟩ := h
      exact ⟨ys, by simp only [listCells]; rw [if_pos (Nat.eq_of_beq_eq_true hs), h1.out], h2⟩
  · exact ⟨[], rfl, h⟩
  · exact ⟨[], rfl, h⟩
  · rename_i n tag
    rcases lkOK_sound h with ⟨o, h1, h2⟩ | ⟨_, h2⟩
    · cases o with
      | box t cs => exact h2.elim
      | arr t s0 cs =>
        simp only at h2
        cases hs : Nat.beq s0 sz with
        | false => rw [hs] at h2; exact h2.elim
        | true =>
          rw [hs] at h2
          exact ⟨cs, by simp only [listCells]; rw [show X.den.obj n = some (.arr t s0 cs) from h1]; simp only; rw [if_pos ⟨Nat.eq_of_beq_eq_true hs, h2.1⟩], h2.2⟩
    · exact h2.elim
  · exact h.elim
theorem appK_sound {d e sz bytes : Nat} {x y : SV} (h : appK X d e sz bytes x y K) : ∃ Y : XS, appS X.den d e sz bytes x y = some Y.den ∧ K Y := by
  unfold appK at h
  obtain ⟨ys, h1, h2⟩ := listK_sound h
  unfold appS
  rw [h1]
  split at h2
  · obtain ⟨b, h3, h4⟩ := h2
    rcases h3.cases h4 with ⟨h5, h6⟩ | ⟨h5, h6⟩
    · obtain ⟨Y, h7, h8⟩ := setDK_sound h6
      have : ys = [] := List.eq_nil_of_length_eq_zero h5
      subst this
      exact ⟨Y, by simp only; rw [h7]; rfl, h8⟩
    · cases hb : Nat.blt 0 bytes with
      | false => rw [hb] at h6; exact h6.elim
      | true =>
        rw [hb] at h6
        obtain ⟨h7, h8⟩ := h6
        obtain ⟨h9, Y, h10, h11⟩ := newK_sound h8
        refine ⟨Y, ?_, h11⟩
        have hb' : 0 < bytes := by simpa [Nat.blt_eq] using hb
        have hf := h7.out
        simp only [List.length_nil, Nat.zero_div, Nat.zero_add] at hf
        cases ys with
        | nil => exact absurd rfl h5
        | cons a r => simp only [h9]; rw [if_pos ⟨hb', hf⟩, h10]
  · rename_i n tag
    rcases lkOK_sound h2 with ⟨o, h3, h4⟩ | ⟨_, h4⟩
    · cases o with
      | box t cs => exact h4.elim
      | arr t s cs =>
        simp only at h4
        cases hc : Nat.beq t e && Nat.beq s sz && Nat.blt 0 bytes with
        | false => rw [hc] at h4; exact h4.elim
        | true =>
          rw [hc] at h4
          simp only [Bool.and_eq_true, Nat.beq_eq, Nat.blt_eq] at hc
          obtain ⟨⟨rfl, rfl⟩, hb⟩ := hc
          obtain ⟨ht, b, h5, h6⟩ := h4
          simp only [show X.den.obj n = some (.arr t s cs) from h3]
          rw [if_pos (by refine ⟨?_, ?_, ht⟩ <;> trivial)]
          rcases h5.cases h6 with ⟨h7, h8⟩ | ⟨h7, h8⟩
          · obtain ⟨Y, h9, h10⟩ := setDK_sound h8
            have : ys = [] := List.eq_nil_of_length_eq_zero h7
            subst this
            exact ⟨Y, by simp only; rw [h9]; rfl, h10⟩
          · obtain ⟨h9, cs', h10, h11⟩ := h8
            obtain ⟨Y, h12, h14⟩ := setBK_sound h11
            refine ⟨Y, ?_, h14⟩
            cases ys with
            | nil => exact absurd rfl h7
            | cons a r =>
              simp only
              rw [if_pos ⟨hb, h9.out⟩, h10.out, h12]
              rfl
    · exact h4.elim
  · exact h2.elim
theorem strS_len (s : ByteArray) : (strS s).length = s.size := by simp [strS]
theorem asK_sound {d e : Nat} {x y : SV} (h : asK X d e K x y) : ∃ Y : XS, appStrS X.den d e x y = some Y.den ∧ K Y := by
  unfold asK at h
  split at h
  · rename_i s
    unfold appStrS
    split at h
    · obtain ⟨b, h3, h4⟩ := h
      simp only
      rcases h3.cases h4 with ⟨h5, h6⟩ | ⟨h5, h6⟩
      · obtain ⟨Y, h7, h8⟩ := setDK_sound h6
        exact ⟨Y, by rw [if_pos h5, h7]; rfl, h8⟩
      · obtain ⟨h7, cs', h8, h9⟩ := h6
        obtain ⟨h10, Y, h11, h12⟩ := newK_sound h9
        refine ⟨Y, ?_, h12⟩
        have hcs := h8.out
        rw [List.nil_append] at hcs
        subst hcs
        rw [if_neg h5, h10]
        simp only
        rw [if_pos h7.out, h11, strS_len]
    · rename_i n tag
      simp only
      rcases lkOK_sound h with ⟨o, h3, h4⟩ | ⟨_, h4⟩
      · cases o with
        | box t cs => exact h4.elim
        | arr t sz cs =>
          simp only at h4
          cases hc : Nat.beq t e && Nat.beq sz 1 with
          | false => rw [hc] at h4; exact h4.elim
          | true =>
            rw [hc] at h4
            simp only [Bool.and_eq_true, Nat.beq_eq] at hc
            obtain ⟨rfl, rfl⟩ := hc
            obtain ⟨ht, hf, b, h5, h6⟩ := h4
            simp only [show X.den.obj n = some (.arr t 1 cs) from h3]
            rw [if_pos (by refine ⟨?_, ?_, ht, hf.out⟩ <;> trivial)]
            rcases h5.cases h6 with ⟨h7, h8⟩ | ⟨h7, h8⟩
            · obtain ⟨Y, h9, h10⟩ := setDK_sound h8
              exact ⟨Y, by rw [if_pos h7, h9]; rfl, h10⟩
            · obtain ⟨cs', h10, h11⟩ := h8
              obtain ⟨Y, h12, h14⟩ := setBK_sound h11
              refine ⟨Y, ?_, h14⟩
              have hcs := h10.out
              subst hcs
              rw [if_neg h7, h12, List.length_append, strS_len]
              rfl
      · exact h4.elim
    · exact h.elim
  · exact h.elim
theorem mksK_sound {d e sz bytes : Nat} {z : List PV} {n c : SV} (h : mksK X d e sz bytes z K n c) : ∃ Y : XS, mkS X.den d e sz bytes z n c = some Y.den ∧ K Y := by
  unfold mksK at h
  split at h
  · rename_i k n k' c
    obtain ⟨h1, h2⟩ := h
    have h3 := mapPvK_sound (K := fun zs => ∃ cs, RepOf n.toNat zs cs (n.toNat * sz) ∧ newK d (.arr e sz cs) (.arr [d] cs.length) X K) h2
    obtain ⟨cs, h4, h5⟩ := h3
    obtain ⟨h6, Y, h7, h8⟩ := newK_sound h5
    refine ⟨Y, ?_, h8⟩
    unfold mkS
    simp only [h6]
    rw [if_pos h1.out, h4.out.1, h4.out.2, h7]
  · exact h.elim
theorem appLK_sound : ∀ {l r : List SV} {K : List SV → Prop}, appLK l r K → K (l ++ r)
  | [], r, K, h => h
  | s :: l, r, K, h => appLK_sound (l := l) (K := fun x => K (s :: x)) h
theorem newBox_den {d t : Nat} {cs : List SV} (h : newK d (.box t cs) (.ref [d] 0) X K) : ∃ Y : XS, newBox X.den d t cs = some Y.den ∧ K Y := by
  obtain ⟨h1, Y, h2, h3⟩ := newK_sound h
  exact ⟨Y, by unfold newBox; rw [h1]; simp only; rw [h2], h3⟩

theorem xexec_sound {dst : Option Nat} {op : VO} (h : xexec P dst op X K) (hk : ∀ Y : XS, K Y → K2 Y.den) : vexec P dst op X.den K2 := by
  by_cases hv : isVal op = true
  · have h' : evK none X (fun s => setDK dst (.v s) X K) op := by
      cases op <;> first | exact h | simp [isVal] at hv
    obtain ⟨s, h1, h2⟩ := evK_ok h'
    obtain ⟨Y, h3, h4⟩ := setDK_sound h2
    rw [vexec_val hv, h1 trivial]
    simp only
    have := hk Y h4
    rw [h3] at this
    exact this
  · cases op <;> simp [isVal] at hv <;> simp only [xexec] at h <;> simp only [vexec]
    case alloc t zs =>
      split at h
      · rename_i d
        have h1 := mapPvK_sound (K := fun cs => newK d (.box t cs) (.ref [d] 0) X K) h
        obtain ⟨Y, h2, h3⟩ := newBox_den h1
        simp only [h2]
        exact hk Y h3
      · exact h.elim
    case box t x =>
      split at h
      · rename_i d
        obtain ⟨s, h1, h2⟩ := vK_sound h
        obtain ⟨cs, h3, h4⟩ := cellsK_sound h2
        obtain ⟨Y, h5, h6⟩ := newBox_den h4
        rw [h1 trivial, h3]
        simp only [h5]
        exact hk Y h6
      · exact h.elim
    case bslice own e sz parts =>
      split at h
      · rename_i d
        split at h
        · obtain ⟨cs, h1, h2⟩ := denseK_sound h
          obtain ⟨h3, Y, h4, h5⟩ := newK_sound h2
          simp only [bsliceS, if_true, h1, h3]
          have := hk Y h5
          rw [h4] at this
          exact this
        · obtain ⟨xs, h1, h2⟩ := elemsK_sound h
          obtain ⟨Y, h3, h4⟩ := setDK_sound h2
          simp only [bsliceS, Bool.false_eq_true, if_false, h1 trivial, Option.map_some]
          have := hk Y h4
          rw [h3] at this
          exact this
      · exact h.elim
    case store n p x =>
      split at h
      · exact h.elim
      · obtain ⟨sp, h1, h2⟩ := vK_sound h
        obtain ⟨sx, h3, h4⟩ := vK_sound h2
        obtain ⟨Y, h5, h6⟩ := storeK_sound h4
        simp only [h1 trivial, h3 trivial, h5]
        exact hk Y h6
    case append e sz bytes x y =>
      split at h
      · obtain ⟨sp, h1, h2⟩ := vK_sound h
        obtain ⟨sx, h3, h4⟩ := vK_sound h2
        obtain ⟨Y, h5, h6⟩ := appK_sound h4
        simp only [h1 trivial, h3 trivial, h5]
        exact hk Y h6
      · exact h.elim
    case appstr e x y =>
      split at h
      · obtain ⟨sp, h1, h2⟩ := vK_sound h
        obtain ⟨sx, h3, h4⟩ := vK_sound h2
        obtain ⟨Y, h5, h6⟩ := asK_sound h4
        simp only [h1 trivial, h3 trivial, h5]
        exact hk Y h6
      · exact h.elim
    case mkslice e sz bytes z n c =>
      split at h
      · obtain ⟨sp, h1, h2⟩ := vK_sound h
        obtain ⟨sx, h3, h4⟩ := vK_sound h2
        obtain ⟨Y, h5, h6⟩ := mksK_sound h4
        simp only [h1 trivial, h3 trivial, h5]
        exact hk Y h6
      · exact h.elim
    case call f args =>
      obtain ⟨vs, h1, h2⟩ := mapVK_sound h
      rw [h1 trivial]
      exact h2.out K2 hk
    case callv x args =>
      obtain ⟨s, h1, h2⟩ := vK_sound h
      rw [h1 trivial]
      split at h2
      · obtain ⟨vs, h3, h4⟩ := mapVK_sound h2.2
        rw [h3 trivial]
        exact ⟨h2.1, h4.out K2 hk⟩
      · rename_i f caps
        obtain ⟨vs, h3, h4⟩ := mapVK_sound h2.2
        rw [h3 trivial]
        exact ⟨h2.1, (appLK_sound (K := fun vals' => XCall P f vals' dst X K) h4).out K2 hk⟩
      · exact h2.elim

theorem guardK_sound {g : Nat} {pol : Bool} {K : Bool → Prop} (h : guardK g pol X K) : ∃ b, guardB X.den (some (g, pol)) = some b ∧ K b := by
  obtain ⟨x, h1, h2⟩ := lkK_sound h
  have e : guardB X.den (some (g, pol)) = gdV pol x.den := by rw [h1]; exact gd_eq (t := denT X.t) (h := X.h) g pol
  rw [e]
  split at h2
  · rename_i b
    split at h2
    · exact ⟨b, by rw [XV.den, gdT], h2⟩
    · exact ⟨!b, by rw [XV.den, gdF], h2⟩
  · rename_i b1 b
    split at h2
    · exact ⟨b1 && b, by cases b1 <;> simp [XV.den, gdT, gdU], h2⟩
    · exact ⟨b1 && !b, by cases b1 <;> simp [XV.den, gdF, gdU], h2⟩
  · exact ⟨false, by rw [XV.den, gdU], h2⟩
  · exact h2.elim

theorem xstep_sound {o : VOp} (h : xstep P o X K) (hk : ∀ Y : XS, K Y → K2 Y.den) : vstep P o X.den K2 := by
  unfold xstep at h
  unfold vstep
  split at h
  · exact xexec_sound h hk
  · rename_i dst g pol op _
    obtain ⟨b, h1, h2⟩ := guardK_sound h
    rw [h1]
    rcases h2 with ⟨hb, h2⟩ | h2
    · subst hb
      obtain ⟨Y, h5, h6⟩ := setDK_sound h2
      have h7 := hk Y h6
      rw [h5] at h7
      exact h7
    split at h2
    · obtain ⟨vs, h3, h4⟩ := mapVK_sound h2
      have h5 := h4.out K2 hk
      cases b with
      | true =>
        simp only [vexec]
        rw [h3 rfl]
        exact h5.1 rfl
      | false => exact h5.2 rfl
    split at h2
    · rename_i hv
      obtain ⟨s, h3, h4⟩ := evK_ok h2
      obtain ⟨Y, h5, h6⟩ := setDK_sound h4
      have h7 := hk Y h6
      rw [h5] at h7
      cases b with
      | true =>
        simp only [vexec_val hv, h3 rfl]
        exact h7
      | false => exact h7
    · cases b with
      | true => exact xexec_sound (h2.1 rfl) hk
      | false =>
        obtain ⟨Y, h5, h6⟩ := setDK_sound (h2.2 rfl)
        have h7 := hk Y h6
        rw [h5] at h7
        exact h7

theorem xtakeX_sound {G : Option Bool} {wr : SV → XV} {dst : Option Nat} {op : VO} (h : xtakeX P G wr dst op X K) (hk : ∀ Y : XS, K Y → K2 Y.den) :
    ∃ s, (isOn G → vtakeX P dst op X.den (fun σ => σ = setD X.den dst s)) ∧ K2 (setD X.den dst (wr s).den) := by
  by_cases hv : isVal op = true
  · have h' : evK G X (fun s => setDK dst (wr s) X K) op := by
      cases op <;> first | exact h | simp [isVal] at hv
    obtain ⟨s, h1, h2⟩ := evK_ok h'
    obtain ⟨Y, h3, h4⟩ := setDK_sound h2
    refine ⟨s, fun ho => ?_, by rw [← h3]; exact hk Y h4⟩
    have e : vtakeX P dst op X.den (fun σ => σ = setD X.den dst s) = match evalV X.den op with
      | some s' => setD X.den dst s' = setD X.den dst s
      | none => False := by cases op <;> first | rfl | simp [isVal] at hv
    rw [e, h1 ho]
  · have ev0 : ∀ op', evK G X (fun s => setDK dst (wr s) X K) op' → isVal op' = false → False := by
      intro op' h0 hf
      cases op' <;> simp [isVal] at hf <;> exact h0
    cases op <;> simp [isVal] at hv <;> simp only [xtakeX] at h <;> try (exact (ev0 _ h rfl).elim)
    case bslice own e sz parts =>
      obtain ⟨xs, h1, h2⟩ := elemsK_sound h
      obtain ⟨Y, h3, h4⟩ := setDK_sound h2
      exact ⟨.pv (.list sz xs), fun ho => by simp only [vtakeX, h1 ho], by rw [← h3]; exact hk Y h4⟩
    case call f args =>
      obtain ⟨vs, h1, s, h2, h3⟩ := mapVK_sound h
      obtain ⟨Y, h4, h5⟩ := setDK_sound h3
      exact ⟨s, fun ho => by simp only [vtakeX, h1 ho]; exact ⟨s, (gd_on h2 ho).out, rfl⟩, by rw [← h4]; exact hk Y h5⟩
    case callv x args =>
      obtain ⟨sx, h1, h2⟩ := vK_sound h
      split at h2
      · obtain ⟨vs, h3, s, h4, h5⟩ := mapVK_sound h2.2
        obtain ⟨Y, h6, h7⟩ := setDK_sound h5
        exact ⟨s, fun ho => by simp only [vtakeX, h1 ho, h3 ho]; exact ⟨h2.1, s, (gd_on h4 ho).out, rfl⟩, by rw [← h6]; exact hk Y h7⟩
      · rename_i f caps
        obtain ⟨vs, h3, h4⟩ := mapVK_sound h2.2
        obtain ⟨s, h5, h6⟩ := appLK_sound (K := fun vals' => ∃ s, gd G (XDet P f vals' X s) ∧ setDK dst (wr s) X K) h4
        obtain ⟨Y, h7, h8⟩ := setDK_sound h6
        exact ⟨s, fun ho => by simp only [vtakeX, h1 ho, h3 ho]; exact ⟨h2.1, s, (gd_on h5 ho).out, rfl⟩, by rw [← h7]; exact hk Y h8⟩
      · exact h2.elim

theorem vtakeX_mono {dst : Option Nat} {op : VO} {σ : St} {K1 K3 : St → Prop} (h : vtakeX P dst op σ K1) (hk : ∀ τ, K1 τ → K3 τ) : vtakeX P dst op σ K3 := by
  unfold vtakeX at *
  split at h
  · split at h
    · exact hk _ h
    · exact h
  · obtain ⟨s, h1, h2⟩ := h; exact ⟨s, h1, hk _ h2⟩
  · split at h
    · obtain ⟨h0, s, h1, h2⟩ := h; exact ⟨h0, s, h1, hk _ h2⟩
    · obtain ⟨h0, s, h1, h2⟩ := h; exact ⟨h0, s, h1, hk _ h2⟩
    · exact h
  · split at h
    · exact hk _ h
    · exact h

theorem xtake_sound {o : VOp} (h : xtake P o X K) (hk : ∀ Y : XS, K Y → K2 Y.den) : vtake P o X.den K2 := by
  unfold xtake at h
  unfold vtake
  split at h
  · obtain ⟨s, h1, h2⟩ := xtakeX_sound h hk
    exact vtakeX_mono (h1 trivial) (fun τ e => by rw [e]; exact h2)
  · rename_i dst g pol op _
    obtain ⟨b, h1, h2⟩ := guardK_sound h
    rw [h1]
    rcases h2 with ⟨hb, h2⟩ | h2
    · subst hb
      obtain ⟨Y, h5, h6⟩ := setDK_sound h2
      have h7 := hk Y h6
      rw [h5] at h7
      exact h7
    obtain ⟨s, h3, h4⟩ := xtakeX_sound h2 hk
    cases b with
    | true => exact vtakeX_mono (h3 rfl) (fun τ e => by rw [e]; exact h4)
    | false => exact h4
theorem xsteps_sound : ∀ {l : List VOp} {X : XS} {K2 : St → Prop}, xsteps P l X K → (∀ Y : XS, K Y → K2 Y.den) → vsteps P l X.den K2
  | [], X, K2, h, hk => hk X h
  | o :: r, X, K2, h, hk => xstep_sound (K := fun Y => xsteps P r Y K) h (fun Y hY => xsteps_sound hY hk)
theorem xpl_sound {K2 : St → Prop} (hk : ∀ Y : XS, K Y → K2 Y.den) : ∀ {p : VPl} {X : XS}, xpl P K p X → vpl P K2 p X.den
  | .done, X, h => hk X h
  | .bad, X, h => h
  | .stop, X, h => trivial
  | .take o p, X, h => xtake_sound (K := xpl P K p) h (fun Y hY => xpl_sound hk hY)
  | .alt d o p q, X, h => by
    have h0 : xalt P d o X (xpl P K p) (isStop q) (xpl P K q X) := h
    have ih := fun Y hY => xpl_sound hk (p := p) (X := Y) hY
    have iq := fun h => xpl_sound hk (p := q) (X := X) h
    have hs : isStop q = true → vpl P K2 q X.den := by
      intro h
      cases q <;> first | exact trivial | cases h
    cases hq : isStop q with
    | true =>
      rw [hq] at h0
      cases d with
      | true => exact ⟨xtake_sound h0 ih, hs hq⟩
      | false => exact ⟨xstep_sound h0 ih, hs hq⟩
    | false =>
      rw [hq] at h0
      cases d with
      | true => exact ⟨xtake_sound h0.1 ih, iq h0.2⟩
      | false => exact ⟨xstep_sound h0.1 ih, iq h0.2⟩
end

/-! ### What is forgotten -/
def hasN (d : Nat) : List Nat → Bool
  | [] => false
  | e :: r => Nat.beq e d || hasN d r
theorem hasN_eq (d : Nat) : ∀ l, hasN d l = List.contains l d
  | [] => rfl
  | e :: r => by
    rw [hasN, List.contains_cons, hasN_eq d r]
    congr 1
    rw [Bool.eq_iff_iff, Nat.beq_eq, beq_iff_eq]
    exact eq_comm
def delTK (ks : List Nat) : List (Nat × XV) → (List (Nat × XV) → Prop) → Prop
  | [], K => K []
  | (e, u) :: r, K => bif hasN e ks then delTK ks r K else delTK ks r fun l => K ((e, u) :: l)
theorem delTK_sound {ks : List Nat} : ∀ {l : List (Nat × XV)} {K : List (Nat × XV) → Prop}, delTK ks l K → ∃ l', denT l' = delS ks (denT l) ∧ K l'
  | [], K, h => ⟨[], rfl, h⟩
  | (e, u) :: r, K, h => by
    simp only [delTK] at h
    rw [denT, delS_cons, ← hasN_eq]
    cases hh : hasN e ks with
    | true => rw [hh] at h; exact delTK_sound h
    | false =>
      rw [hh] at h
      obtain ⟨l, h1, h2⟩ := delTK_sound (K := fun l => K ((e, u) :: l)) h
      exact ⟨_, by rw [denT, h1]; rfl, h2⟩
def dropTK (ds : List Nm) : List (Nat × XV) → (List (Nat × XV) → Prop) → Prop
  | [], K => K []
  | (e, .v s) :: r, K => bif anyNm ds s.names then dropTK ds r (fun l => K ((e, .v .junk) :: l)) else dropTK ds r fun l => K ((e, .v s) :: l)
  | (e, .c b s) :: r, K => bif anyNm ds s.names then dropTK ds r (fun l => K ((e, .c b .junk) :: l)) else dropTK ds r fun l => K ((e, .c b s) :: l)
theorem dropTK_sound {ds : List Nm} : ∀ {l : List (Nat × XV)} {K : List (Nat × XV) → Prop}, dropTK ds l K → ∃ l', denT l' = dropT ds (denT l) ∧ K l'
  | [], K, h => ⟨[], rfl, h⟩
  | (e, .v s) :: r, K, h => by
    simp only [dropTK] at h
    simp only [denT, dropT, XV.den]
    cases hh : anyNm ds s.names with
    | true =>
      rw [hh] at h
      obtain ⟨l, h1, h2⟩ := dropTK_sound (K := fun l => K ((e, .v .junk) :: l)) h
      exact ⟨_, by rw [denT, h1]; rfl, h2⟩
    | false =>
      rw [hh] at h
      obtain ⟨l, h1, h2⟩ := dropTK_sound (K := fun l => K ((e, .v s) :: l)) h
      exact ⟨_, by rw [denT, h1]; rfl, h2⟩
  | (e, .c b s) :: r, K, h => by
    simp only [dropTK] at h
    simp only [denT, dropT, XV.den]
    cases hh : anyNm ds s.names with
    | true =>
      rw [hh] at h
      obtain ⟨l, h1, h2⟩ := dropTK_sound (K := fun l => K ((e, .c b .junk) :: l)) h
      refine ⟨_, ?_, h2⟩
      rw [denT, h1, XV.den]
      cases b with
      | true => simp [hh]
      | false => simp [SV.names, namesL, anyNm_nil]
    | false =>
      rw [hh] at h
      obtain ⟨l, h1, h2⟩ := dropTK_sound (K := fun l => K ((e, .c b s) :: l)) h
      refine ⟨_, ?_, h2⟩
      rw [denT, h1, XV.den]
      cases b with
      | true => simp [hh]
      | false => simp [SV.names, namesL, anyNm_nil]
def dropHK (ds : List Nm) : List (Nm × OV) → (List (Nm × OV) → Prop) → Prop
  | [], K => K []
  | (n, o) :: r, K => bif inNm n ds then dropHK ds r K else dropHK ds r fun l => K ((n, o) :: l)
theorem dropHK_sound {ds : List Nm} : ∀ {l : List (Nm × OV)} {K : List (Nm × OV) → Prop}, dropHK ds l K → K (dropH ds l)
  | [], K, h => h
  | (n, o) :: r, K, h => by
    simp only [dropHK] at h
    simp only [dropH]
    cases hh : inNm n ds with
    | true => rw [hh] at h; exact dropHK_sound h
    | false => rw [hh] at h; exact dropHK_sound (K := fun l => K ((n, o) :: l)) h
/-- Nothing that stays leads to what goes: of each thing. -/
structure NoNm (ds : List Nm) (o : OV) : Prop where
  out : anyNm ds o.names = false
def okHK (ds : List Nm) : List (Nm × OV) → Prop → Prop
  | [], F => F
  | (n, o) :: r, F => bif inNm n ds then okHK ds r F else NoNm ds o ∧ okHK ds r F
theorem okHK_sound {ds : List Nm} {F : Prop} : ∀ {l : List (Nm × OV)}, okHK ds l F → okH ds l = true ∧ F
  | [], h => ⟨rfl, h⟩
  | (n, o) :: r, h => by
    simp only [okHK] at h
    rw [okH]
    cases hh : inNm n ds with
    | true => rw [hh] at h; obtain ⟨h1, h2⟩ := okHK_sound h; exact ⟨by simp [h1], h2⟩
    | false =>
      rw [hh] at h
      obtain ⟨h1, h2⟩ := okHK_sound h.2
      exact ⟨by simp [h1, h.1.out], h2⟩
def nmsK : List Nat → (List Nm → Prop) → Prop
  | [], K => K []
  | d :: r, K => nmsK r fun l => K ([d] :: l)
theorem nmsK_sound : ∀ {l : List Nat} {K : List Nm → Prop}, nmsK l K → K (l.map fun d => [d])
  | [], K, h => h
  | d :: r, K, h => nmsK_sound (K := fun l => K ([d] :: l)) h
def dropAll (t : List (Nat × XV)) (h : List (Nm × OV)) (K : XS → Prop) (ds : List Nm) : Prop := okHK ds h (dropTK ds t fun t' => dropHK ds h fun h' => K ⟨t', h'⟩)
def restK (ks : List Nat) : List Nat → XS → (XS → Prop) → Prop
  | [], ⟨t, h⟩, K => delTK ks t fun t' => K ⟨t', h⟩
  | d :: r, ⟨t, h⟩, K => delTK ks t fun t' => nmsK (d :: r) (dropAll t' h K)
theorem restK_sound {ks os : List Nat} {X : XS} {K : XS → Prop} {K2 : St → Prop} (h : restK ks os X K) (hk : ∀ Y : XS, K Y → K2 Y.den) : X.den.rest ks os K2 := by
  obtain ⟨t, hh⟩ := X
  cases os with
  | nil =>
    obtain ⟨l, h1, h2⟩ := delTK_sound (K := fun t' => K ⟨t', hh⟩) h
    rw [rest_nil]
    have := hk _ h2
    simp only [XS.den, h1] at this
    simp only [XS.den, kill_eq]
    exact this
  | cons d r =>
    obtain ⟨l, h1, h2⟩ := delTK_sound (K := fun t' => nmsK (d :: r) (dropAll t' hh K)) h
    have h2' := nmsK_sound h2
    obtain ⟨h3, h4⟩ := okHK_sound h2'
    obtain ⟨l', h5, h6⟩ := dropTK_sound h4
    have h7 := dropHK_sound (K := fun h' => K ⟨l', h'⟩) h6
    have := hk _ h7
    simp only [XS.den, h5, h1] at this
    rw [rest_cons]
    simp only [XS.den, kill_eq]
    exact ⟨(dropOk_eq _ _ _).2 h3, by rw [drop_eq]; exact this⟩
end Go.VL
