/- The value-level logic, the engine, part 1: told states that compute; operations that yield a value, each told by what it asks for and what it goes on with. -/
import Derived.Test.YtckbenlmlikjoaaV26
set_option linter.unusedVariables false
set_option linter.unusedSimpArgs false
namespace Go.VL

/-- A slot: a value, or one that is there just where b holds. -/
inductive XV where
  | v (s : SV)
  | c (b : Bool) (s : SV)
  deriving Inhabited
def XV.den : XV → SV
  | .v s => s
  | .c b s => bif b then s else .tup []
structure XS where
  t : List (Nat × XV)
  h : List (Nm × OV)
  deriving Inhabited
def denT : List (Nat × XV) → List (Nat × SV)
  | [] => []
  | (d, x) :: r => (d, x.den) :: denT r
def XS.den (X : XS) : St := ⟨denT X.t, X.h⟩

def gd : Option Bool → Prop → Prop
  | none, p => p
  | some b, p => b = true → p
def isOn : Option Bool → Prop
  | none => True
  | some b => b = true
theorem gd_on {G : Option Bool} {p : Prop} (h : gd G p) (ho : isOn G) : p := by
  cases G with
  | none => exact h
  | some b => exact h ho
def andG : Option Bool → Bool → Option Bool
  | none, t => some t
  | some b, t => some (b && t)
theorem andG_on {G : Option Bool} {t : Bool} (h : isOn G) (ht : t = true) : isOn (andG G t) := by
  subst ht
  cases G with
  | none => rfl
  | some b => simpa [andG, isOn] using h

/-! ### Lists and tables, told by what goes on -/
def lkK (d : Nat) : List (Nat × XV) → (XV → Prop) → Prop
  | [], K => K (.v .junk)
  | (e, x) :: r, K => bif Nat.beq e d then K x else lkK d r K
theorem lkK_sound {d : Nat} {K : XV → Prop} : ∀ {l : List (Nat × XV)}, lkK d l K → ∃ x : XV, x.den = lkS d (denT l) ∧ K x
  | [], h => ⟨_, rfl, h⟩
  | (e, x) :: r, h => by
    simp only [lkK] at h
    simp only [denT, lkS]
    by_cases he : e = d
    · subst he
      simp only [Nat.beq_refl, cond_true] at h
      exact ⟨x, by simp, h⟩
    · have : Nat.beq e d = false := by rw [← Bool.not_eq_true, Nat.beq_eq]; exact he
      rw [this] at h
      obtain ⟨y, h1, h2⟩ := lkK_sound h
      exact ⟨y, by rw [if_neg he]; exact h1, h2⟩
def setTK (d : Nat) (x : XV) : List (Nat × XV) → (List (Nat × XV) → Prop) → Prop
  | [], K => K [(d, x)]
  | (e, u) :: r, K => bif Nat.beq e d then K ((d, x) :: r) else bif Nat.blt d e then K ((d, x) :: (e, u) :: r) else setTK d x r (fun l => K ((e, u) :: l))
theorem setTK_sound {d : Nat} {x : XV} : ∀ {l : List (Nat × XV)} {K : List (Nat × XV) → Prop}, setTK d x l K → ∃ l', denT l' = setS d x.den (denT l) ∧ K l'
  | [], K, h => ⟨_, rfl, h⟩
  | (e, u) :: r, K, h => by
    simp only [setTK] at h
    simp only [denT, setS]
    by_cases he : e = d
    · subst he
      simp only [Nat.beq_refl, cond_true] at h
      exact ⟨_, by simp [denT], h⟩
    · have : Nat.beq e d = false := by rw [← Bool.not_eq_true, Nat.beq_eq]; exact he
      rw [this] at h
      rw [if_neg he]
      by_cases hlt : d < e
      · have h2 : Nat.blt d e = true := by simpa [Nat.blt_eq] using hlt
        rw [h2] at h
        exact ⟨_, by rw [if_pos hlt]; rfl, h⟩
      · have h2 : Nat.blt d e = false := by rw [← Bool.not_eq_true, Nat.blt_eq]; exact hlt
        rw [h2] at h
        obtain ⟨l', h3, h4⟩ := setTK_sound (K := fun l => K ((e, u) :: l)) h
        exact ⟨_, by rw [if_neg hlt, denT, h3], h4⟩
def lkOK (n : Nm) : List (Nm × OV) → (OV → Prop) → Prop → Prop
  | [], _, N => N
  | (m, o) :: r, K, N => bif eqNm m n then K o else lkOK n r K N
theorem lkOK_sound {n : Nm} {K : OV → Prop} {N : Prop} : ∀ {l : List (Nm × OV)}, lkOK n l K N → (∃ o, lkO n l = some o ∧ K o) ∨ (lkO n l = none ∧ N)
  | [], h => .inr ⟨rfl, h⟩
  | (m, o) :: r, h => by
    simp only [lkOK] at h
    rw [lkO_cons]
    cases hm : eqNm m n with
    | true => rw [hm] at h; exact .inl ⟨o, rfl, h⟩
    | false => rw [hm] at h; exact lkOK_sound h
def setOK (n : Nm) (o : OV) : List (Nm × OV) → (List (Nm × OV) → Prop) → Prop
  | [], K => K [(n, o)]
  | (m, p) :: r, K => bif eqNm m n then K ((n, o) :: r) else setOK n o r (fun l => K ((m, p) :: l))
theorem setOK_sound {n : Nm} {o : OV} : ∀ {l : List (Nm × OV)} {K : List (Nm × OV) → Prop}, setOK n o l K → K (setO n o l)
  | [], K, h => h
  | (m, p) :: r, K, h => by
    simp only [setOK] at h
    rw [setO_cons]
    cases hm : eqNm m n with
    | true => rw [hm] at h; exact h
    | false => rw [hm] at h; exact setOK_sound (K := fun l => K ((m, p) :: l)) h
def dropK {α : Type} : Nat → List α → (List α → Prop) → Prop
  | 0, l, K => K l
  | n + 1, _ :: r, K => dropK n r K
  | _ + 1, [], _ => False
theorem dropK_sound' {α : Type} {K : List α → Prop} : ∀ {n : Nat} {l : List α}, dropK n l K → n ≤ l.length ∧ K (l.drop n)
  | 0, l, h => ⟨Nat.zero_le _, h⟩
  | n + 1, _ :: r, h => by
    obtain ⟨h1, h2⟩ := dropK_sound' (n := n) (l := r) h
    exact ⟨by simpa using h1, h2⟩
  | _ + 1, [], h => h.elim
theorem dropK_sound {α : Type} {K : List α → Prop} {n : Nat} {l : List α} (h : dropK n l K) : K (l.drop n) := (dropK_sound' h).2
def takeK {α : Type} : Nat → List α → (List α → Prop) → Prop
  | 0, _, K => K []
  | n + 1, a :: r, K => takeK n r (fun l => K (a :: l))
  | _ + 1, [], _ => False
theorem takeK_sound {α : Type} : ∀ {n : Nat} {l : List α} {K : List α → Prop}, takeK n l K → n ≤ l.length ∧ K (l.take n)
  | 0, l, K, h => ⟨Nat.zero_le _, by simpa [takeK] using h⟩
  | n + 1, a :: r, K, h => by
    obtain ⟨h1, h2⟩ := takeK_sound (n := n) (K := fun l => K (a :: l)) h
    exact ⟨by simpa using h1, h2⟩
  | _ + 1, [], K, h => h.elim
def nthK {α : Type} : Nat → List α → (α → Prop) → Prop
  | 0, a :: _, K => K a
  | n + 1, _ :: r, K => nthK n r K
  | _, [], _ => False
theorem nthK_sound {α : Type} {K : α → Prop} : ∀ {n : Nat} {l : List α}, nthK n l K → ∃ a, l[n]? = some a ∧ K a
  | 0, a :: _, h => ⟨a, rfl, h⟩
  | n + 1, _ :: r, h => by simpa using nthK_sound (n := n) (l := r) h
  | 0, [], h => h.elim
  | _ + 1, [], h => h.elim
def mapPvK : List PV → (List SV → Prop) → Prop
  | [], K => K []
  | p :: r, K => mapPvK r (fun l => K (.pv p :: l))
theorem mapPvK_sound : ∀ {l : List PV} {K : List SV → Prop}, mapPvK l K → K (l.map .pv)
  | [], K, h => h
  | p :: r, K, h => mapPvK_sound (K := fun l => K (.pv p :: l)) h
def pvsK : List SV → (List PV → Prop) → Prop → Prop
  | [], K, _ => K []
  | .pv p :: r, K, F => pvsK r (fun l => K (p :: l)) F
  | _ :: _, _, F => F
theorem pvsK_sound : ∀ {l : List SV} {K : List PV → Prop} {F : Prop}, pvsK l K F → (∃ xs, pvs l = some xs ∧ K xs) ∨ (pvs l = none ∧ F)
  | [], K, F, h => .inl ⟨[], rfl, h⟩
  | s :: r, K, F, h => by
    cases s with
    | pv p =>
      rcases pvsK_sound (l := r) (K := fun l => K (p :: l)) (F := F) h with ⟨xs, h1, h2⟩ | ⟨h1, h2⟩
      · exact .inl ⟨p :: xs, by simp [pvs, h1], h2⟩
      · exact .inr ⟨by simp [pvs, h1], h2⟩
    | _ => exact .inr ⟨by simp [pvs], h⟩
def mkAggK (l : List SV) (K : SV → Prop) : Prop := pvsK l (fun xs => K (.pv (.agg xs))) (K (.agg l))
theorem mkAggK_sound {l : List SV} {K : SV → Prop} (h : mkAggK l K) : K (mkAgg l) := by
  unfold mkAgg
  rcases pvsK_sound h with ⟨xs, h1, h2⟩ | ⟨h1, h2⟩
  · rw [h1]; exact h2
  · rw [h1]; exact h2
/-- New cells over old ones, from a place on. -/
def overK : List SV → List SV → (List SV → Prop) → Prop
  | [], old, K => K old
  | s :: r, _ :: o, K => overK r o (fun l => K (s :: l))
  | _ :: _, [], _ => False
theorem overK_sound : ∀ {new old : List SV} {K : List SV → Prop}, overK new old K → new.length ≤ old.length ∧ K (new ++ old.drop new.length)
  | [], old, K, h => ⟨Nat.zero_le _, h⟩
  | s :: r, _ :: o, K, h => by
    obtain ⟨h1, h2⟩ := overK_sound (new := r) (old := o) (K := fun l => K (s :: l)) h
    exact ⟨by simpa using h1, by simpa using h2⟩
  | _ :: _, [], K, h => h.elim
def splK (new : List SV) : Nat → List SV → (List SV → Prop) → Prop
  | 0, old, K => overK new old K
  | n + 1, s :: r, K => splK new n r (fun l => K (s :: l))
  | _ + 1, [], _ => False
theorem splK_sound {new : List SV} : ∀ {n : Nat} {old : List SV} {K : List SV → Prop}, splK new n old K → n + new.length ≤ old.length ∧ K (splice n new old)
  | 0, old, K, h => by
    obtain ⟨h1, h2⟩ := overK_sound h
    exact ⟨by omega, by simpa [splice] using h2⟩
  | n + 1, s :: r, K, h => by
    obtain ⟨h1, h2⟩ := splK_sound (n := n) (old := r) (K := fun l => K (s :: l)) h
    refine ⟨by simp; omega, ?_⟩
    have e : splice (n + 1) new (s :: r) = s :: splice n new r := by
      simp only [splice, List.take_succ_cons, List.cons_append, List.cons.injEq, true_and]
      rw [show n + 1 + new.length = (n + new.length) + 1 by omega]
      rfl
    rw [e]; exact h2
  | _ + 1, [], K, h => h.elim

def kNum : IntKind → Nat
  | .i8 => 0 | .i16 => 1 | .i32 => 2 | .i64 => 3 | .u8 => 4 | .u16 => 5 | .u32 => 6 | .u64 => 7
def kEq (a b : IntKind) : Bool := Nat.beq (kNum a) (kNum b)
theorem kEq_eq {a b : IntKind} (h : kEq a b = true) : a = b := by
  cases a <;> cases b <;> first | rfl | exact absurd h (by decide)

/-! ### Values -/
def rdK (G : Option Bool) (K : SV → Prop) : XV → Prop
  | .v s => K s
  | .c b s => gd G (b = true) ∧ K s
def vK (G : Option Bool) (X : XS) : VX → (SV → Prop) → Prop
  | .s d, K => lkK d X.t (rdK G K)
  | .c p, K => K (.pv p)
  | .f f, K => K (.pv (.fn f))
section
variable {G : Option Bool} {X : XS} {K : SV → Prop}
theorem rdK_sound {x : XV} (h : rdK G K x) : ∃ s, (isOn G → x.den = s) ∧ K s := by
  cases x with
  | v s => exact ⟨s, fun _ => rfl, h⟩
  | c b s => exact ⟨s, fun ho => by rw [XV.den, gd_on h.1 ho]; rfl, h.2⟩
theorem vK_sound {x : VX} (h : vK G X x K) : ∃ s, (isOn G → X.den.val x = s) ∧ K s := by
  cases x with
  | s d =>
    obtain ⟨x, h1, h2⟩ := lkK_sound h
    obtain ⟨s, h3, h4⟩ := rdK_sound h2
    exact ⟨s, fun ho => by rw [← h3 ho, h1]; rfl, h4⟩
  | c p => exact ⟨_, fun _ => rfl, h⟩
  | f f => exact ⟨_, fun _ => rfl, h⟩

/-- What is to be shown of an operation: what it comes to, where it has its turn; and what goes on. -/
def Ok (G : Option Bool) (o : Option SV) (K : SV → Prop) : Prop := ∃ s, (isOn G → o = some s) ∧ K s
theorem Ok.mk {o : Option SV} {s : SV} (h : isOn G → o = some s) (k : K s) : Ok G o K := ⟨s, h, k⟩
/-- By the operand's value. -/
theorem Ok.bind {o : Option SV} {x : VX} {F : SV → Option SV} {K1 : SV → Prop} (h : vK G X x K1) (he : o = F (X.den.val x)) (hk : ∀ s, K1 s → Ok G (F s) K) : Ok G o K := by
  obtain ⟨s, h1, h2⟩ := vK_sound h
  obtain ⟨r, h3, h4⟩ := hk s h2
  exact ⟨r, fun ho => by rw [he, h1 ho]; exact h3 ho, h4⟩

structure Wr (G : Option Bool) (k : IntKind) (n r : Int) : Prop where
  out : isOn G → k.wrap n = r
def wrK (G : Option Bool) (k : IntKind) (n : Int) (K : SV → Prop) : Prop := ∃ r, Wr G k n r ∧ K (.pv (.int k r))
theorem wrK_ok {k : IntKind} {n : Int} {o : Option SV} (h : wrK G k n K) (he : isOn G → o = some (.pv (.int k (k.wrap n)))) : Ok G o K := by
  obtain ⟨r, h1, h2⟩ := h
  exact ⟨_, fun ho => by rw [he ho, h1.out ho], h2⟩

def strEq (x y : ByteArray) : Bool := x.toList == y.toList
def strLt (x y : ByteArray) : Bool := Op.bytesLess x.toList y.toList
def binI (G : Option Bool) (op : BinOp) (k : IntKind) (a b : Int) (K : SV → Prop) : Prop := match op with
  | .add => wrK G k (a + b) K
  | .sub => wrK G k (a - b) K
  | .mul => wrK G k (a * b) K
  | .quo => gd G (b ≠ 0) ∧ wrK G k (a.tdiv b) K
  | .rem => gd G (b ≠ 0) ∧ K (.pv (.int k (a.tmod b)))
  | .and => K (.pv (.int k (bits .and k a b)))
  | .or => K (.pv (.int k (bits .or k a b)))
  | .xor => K (.pv (.int k (bits .xor k a b)))
  | .andNot => K (.pv (.int k (bits .andNot k a b)))
  | .eql => K (.pv (.bool (decide (a = b))))
  | .neq => K (.pv (.bool (!decide (a = b))))
  | .lss => K (.pv (.bool (decide (a < b))))
  | .leq => K (.pv (.bool (decide (a ≤ b))))
  | .gtr => K (.pv (.bool (decide (b < a))))
  | .geq => K (.pv (.bool (decide (b ≤ a))))
  | _ => False
def binS (G : Option Bool) (op : BinOp) (x y : ByteArray) (K : SV → Prop) : Prop := match op with
  | .add => gd G (x.size + y.size ≤ maxI) ∧ K (.pv (.str (x ++ y)))
  | .eql => K (.pv (.bool (strEq x y)))
  | .neq => K (.pv (.bool (!strEq x y)))
  | .lss => K (.pv (.bool (strLt x y)))
  | .leq => K (.pv (.bool (strLt x y || strEq x y)))
  | .gtr => K (.pv (.bool (!(strLt x y || strEq x y))))
  | .geq => K (.pv (.bool (!strLt x y)))
  | _ => False
def shK (G : Option Bool) (op : BinOp) (k : IntKind) (a b : Int) (K : SV → Prop) : Prop := match op with
  | .shl => gd G (0 ≤ b) ∧ wrK G k (a * 2 ^ (min b.toNat k.bits)) K
  | .shr => gd G (0 ≤ b) ∧ K (.pv (.int k (a.fdiv (2 ^ (min b.toNat k.bits)))))
  | _ => False
def isSh : BinOp → Bool
  | .shl => true
  | .shr => true
  | _ => false
def binK (G : Option Bool) (op : BinOp) (K : SV → Prop) : SV → SV → Prop
  | .pv (.int k a), .pv (.int k' b) => bif isSh op then shK G op k a b K else bif kEq k k' then binI G op k a b K else False
  | .pv (.str x), .pv (.str y) => binS G op x y K
  | _, _ => False
def biV (op : BinOp) : SV → SV → Option SV
  | .pv p, .pv q => (evBin op p q).map .pv
  | _, _ => none
theorem binK_ok {op : BinOp} {s s' : SV} (h : binK G op K s s') : Ok G (biV op s s') K := by
  unfold binK at h
  split at h
  · rename_i k a k' b
    simp only [biV]
    cases hs : isSh op with
    | true =>
      rw [hs] at h
      cases op <;> simp only [isSh, reduceCtorEq] at hs
      · exact wrK_ok h.2 (fun ho => by have := gd_on h.1 ho; simp [evBin, this])
      · exact .mk (fun ho => by have := gd_on h.1 ho; simp [evBin, this]) h.2
    | false =>
      rw [hs] at h
      simp only [cond_false] at h
      cases hk : kEq k k' with
      | false => rw [hk] at h; exact h.elim
      | true =>
        rw [hk] at h
        have := kEq_eq hk
        subst this
        simp only [cond_true] at h
        cases op <;> simp only [isSh, reduceCtorEq] at hs <;> simp only [binI] at h
        case add => exact wrK_ok h (fun ho => by simp [evBin])
        case sub => exact wrK_ok h (fun ho => by simp [evBin])
        case mul => exact wrK_ok h (fun ho => by simp [evBin])
        case quo => exact wrK_ok h.2 (fun ho => by have := gd_on h.1 ho; simp [evBin, this])
        case rem => exact .mk (fun ho => by have := gd_on h.1 ho; simp [evBin, this]) h.2
        all_goals
          refine .mk (fun ho => ?_) h
          simp only [evBin, ne_eq, not_true_eq_false, if_false, Option.map_some, Option.some.injEq, SV.pv.injEq, PV.bool.injEq]
          first | done | rfl | (rw [Bool.eq_iff_iff]; simp)
  · rename_i x y
    simp only [biV]
    cases op <;> simp only [binS] at h
    case add => exact .mk (fun ho => by have := gd_on h.1 ho; simp [evBin, this]) h.2
    all_goals exact .mk (fun ho => by simp [evBin, strEq, strLt]) h
  · exact h.elim

/-- Two ways that meet again. -/
def mergeK (t : Bool) (K : SV → Prop) : SV → SV → Prop
  | .pv (.bool p), .pv (.bool q) => K (.pv (.bool (bif t then p else q)))
  | .pv (.int k m), .pv (.int k' n) => bif kEq k k' then K (.pv (.int k (bif t then m else n))) else False
  | .pv (.str x), .pv (.str y) => K (.pv (.str (bif t then x else y)))
  | s, s' => (t = true → K s) ∧ (t = false → K s')
theorem mergeK_sound {t : Bool} {s s' : SV} (h : mergeK t K s s') : K (if t then s else s') := by
  unfold mergeK at h
  split at h
  · cases t <;> exact h
  · rename_i k m k2 n
    cases hk : kEq k k2 with
    | false => rw [hk] at h; exact h.elim
    | true =>
      rw [hk] at h
      have := kEq_eq hk
      subst this
      cases t <;> exact h
  · cases t <;> exact h
  · cases t
    · exact h.2 rfl
    · exact h.1 rfl
end
end Go.VL
