/- Sets of small numbers, as bits of a uint64. -/
import Derived.Test.YtckbenlmlikjoaaT0
set_option linter.unusedVariables false
set_option linter.unusedSimpArgs false
set_option maxRecDepth 20000
namespace Go.VL
theorem wrap_u64 (n : Nat) (h : n < 18446744073709551616) : IntKind.u64.wrap (n : Int) = n := by
  unfold IntKind.wrap; simp [IntKind.signed, IntKind.bits]; omega
theorem ofInt64 (n : Nat) (h : n < 18446744073709551616) : (BitVec.ofInt 64 (n : Int)).toNat = n := by
  rw [BitVec.toNat_ofInt]; omega
theorem bits_or (a b : Nat) (ha : a < 18446744073709551616) (hb : b < 18446744073709551616) : bits .or .u64 (a : Int) (b : Int) = ((a ||| b : Nat) : Int) := by
  show IntKind.u64.wrap ((BitVec.ofInt 64 (a : Int) ||| BitVec.ofInt 64 (b : Int)).toNat : Int) = _
  rw [BitVec.toNat_or, ofInt64 a (by omega), ofInt64 b (by omega)]
  exact wrap_u64 _ (Nat.or_lt_two_pow (n := 64) (by omega) (by omega))
theorem bits_and (a b : Nat) (ha : a < 18446744073709551616) (hb : b < 18446744073709551616) : bits .and .u64 (a : Int) (b : Int) = ((a &&& b : Nat) : Int) := by
  show IntKind.u64.wrap ((BitVec.ofInt 64 (a : Int) &&& BitVec.ofInt 64 (b : Int)).toNat : Int) = _
  rw [BitVec.toNat_and, ofInt64 a (by omega), ofInt64 b (by omega)]
  exact wrap_u64 _ (Nat.lt_of_le_of_lt Nat.and_le_left ha)
theorem shl_one (t : Int) (h0 : 0 ≤ t) (h : t < 64) : IntKind.u64.wrap (1 * 2 ^ (min t.toNat IntKind.u64.bits)) = ((2 ^ t.toNat : Nat) : Int) := by
  have e : min t.toNat IntKind.u64.bits = t.toNat := by show min t.toNat 64 = _; omega
  rw [e, Int.one_mul, show (2 : Int) ^ t.toNat = ((2 ^ t.toNat : Nat) : Int) by simp]
  exact wrap_u64 _ (Nat.lt_of_lt_of_le (Nat.pow_lt_pow_right (by omega) (show t.toNat < 64 by omega)) (by decide))
theorem has_bit (b : Nat) (s : Int) (hb : b < 18446744073709551616) (h0 : 0 ≤ s) (h : s < 64) : decide (bits .and .u64 ((b : Int).fdiv (2 ^ (min s.toNat IntKind.u64.bits))) 1 = 1) = b.testBit s.toNat := by
  have e : min s.toNat IntKind.u64.bits = s.toNat := by show min s.toNat 64 = _; omega
  have e2 : (b : Int).fdiv (2 ^ s.toNat) = ((b / 2 ^ s.toNat : Nat) : Int) := by
    rw [Int.fdiv_eq_ediv_of_nonneg _ (Int.pow_nonneg (by omega))]
    simp
  have hlt : b / 2 ^ s.toNat < 18446744073709551616 := Nat.lt_of_le_of_lt (Nat.div_le_self _ _) hb
  rw [e, e2, show (1 : Int) = ((1 : Nat) : Int) from rfl, bits_and _ 1 hlt (by omega)]
  rw [Bool.eq_iff_iff, decide_eq_true_eq, Nat.testBit_eq_decide_div_mod_eq, decide_eq_true_eq, Nat.and_one_is_mod]
  omega
abbrev u64P (b : Nat) : PV := .int .u64 (b : Int)
section
variable {G : Option Bool} {K : List PV → Prop}
theorem el_u64 {l : List Nat} {i : Nat} (h : gd G (i < l.length)) (hk : K [.int .u64 ((l.getD i 0 : Nat) : Int)]) : ∃ cs, Elem G (l.map u64P) (i : Int) cs ∧ K cs := el_map 0 h hk
theorem el_u64I {l : List Nat} {n : Int} (h : gd G (0 ≤ n ∧ n.toNat < l.length)) (hk : K [.int .u64 ((l.getD n.toNat 0 : Nat) : Int)]) : ∃ cs, Elem G (l.map u64P) n cs ∧ K cs := el_mapI 0 h hk
end
/-- One step of an automaton. -/
def Mv.ok (m : Mv) (bl : List Nat) (j : Nat) : Bool := (List.range j).all fun k => (bl.getD k 0).testBit (m.frm.getD k 0).toNat
theorem Mv.ok_succ (m : Mv) (bl : List Nat) (j : Nat) : m.ok bl (j + 1) = (m.ok bl j && (bl.getD j 0).testBit (m.frm.getD j 0).toNat) := by
  rw [Mv.ok, List.range_succ, List.all_append]; simp [Mv.ok]
def Mv.fits (m : Mv) (nm : ByteArray) (bl : List Nat) : Bool := decide (m.name = nm) && decide (m.frm.length = bl.length) && m.ok bl m.frm.length
def aftF (nm : ByteArray) (bl : List Nat) (ms : List Mv) : Nat := ms.foldl (fun o m => if m.fits nm bl = true then o ||| 2 ^ m.to.toNat else o) 0
theorem aftF_snoc (nm : ByteArray) (bl : List Nat) (ms : List Mv) (m : Mv) : aftF nm bl (ms ++ [m]) = if m.fits nm bl = true then aftF nm bl ms ||| 2 ^ m.to.toNat else aftF nm bl ms := by
  simp [aftF, List.foldl_append]
def MvOk (m : Mv) : Prop := (0 ≤ m.to ∧ m.to < 64) ∧ ∀ s ∈ m.frm, 0 ≤ s ∧ s < 64
theorem aftF_lt (nm : ByteArray) (bl : List Nat) (ms : List Mv) (h : ∀ m ∈ ms, MvOk m) : aftF nm bl ms < 18446744073709551616 := by
  have key : ∀ (ms : List Mv) (o : Nat), (∀ m ∈ ms, MvOk m) → o < 18446744073709551616 → ms.foldl (fun o m => if m.fits nm bl = true then o ||| 2 ^ m.to.toNat else o) o < 18446744073709551616 := by
    intro ms
    induction ms with
    | nil => intro o _ ho; exact ho
    | cons m r ih =>
      intro o hm ho
      refine ih _ (fun x hx => hm x (by simp [hx])) ?_
      dsimp only
      split
      · refine Nat.or_lt_two_pow (n := 64) ho ?_
        have := (hm m (by simp)).1
        exact Nat.pow_lt_pow_right (by omega) (by omega)
      · exact ho
  exact key ms 0 h (by omega)
def lstF (ls : List Int) : Nat := ls.foldl (fun o s => o ||| 2 ^ s.toNat) 0
theorem lstF_snoc (ls : List Int) (s : Int) : lstF (ls ++ [s]) = lstF ls ||| 2 ^ s.toNat := by simp [lstF, List.foldl_append]
theorem lstF_lt (ls : List Int) (h : ∀ s ∈ ls, 0 ≤ s ∧ s < 64) : lstF ls < 18446744073709551616 := by
  have key : ∀ (ls : List Int) (o : Nat), (∀ s ∈ ls, 0 ≤ s ∧ s < 64) → o < 18446744073709551616 → ls.foldl (fun o s => o ||| 2 ^ s.toNat) o < 18446744073709551616 := by
    intro ls
    induction ls with
    | nil => intro o _ ho; exact ho
    | cons m r ih =>
      intro o hm ho
      refine ih _ (fun x hx => hm x (by simp [hx])) ?_
      refine Nat.or_lt_two_pow (n := 64) ho ?_
      have := hm m (by simp)
      exact Nat.pow_lt_pow_right (by omega) (by omega)
  exact key ls 0 h (by omega)
theorem lt_take {α : Type} {P : α → Prop} {l : List α} (h : ∀ x ∈ l, P x) (i : Nat) : ∀ x ∈ l.take i, P x := fun x hx => h x (List.mem_of_mem_take hx)
end Go.VL
