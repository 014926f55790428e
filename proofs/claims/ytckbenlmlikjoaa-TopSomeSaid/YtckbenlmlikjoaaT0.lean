/- Terms, moves, automata, and how the program holds them. -/
import Derived.Test.YtckbenlmlikjoaaE6
set_option linter.unusedVariables false
set_option linter.unusedSimpArgs false
set_option maxRecDepth 20000
namespace Go.VL

inductive Tm where
  | node (name : ByteArray) (args : List Tm)
instance : Inhabited Tm := ⟨.node default []⟩
def Tm.name : Tm → ByteArray
  | .node n _ => n
def Tm.args : Tm → List Tm
  | .node _ ts => ts
def Tm.pv : Tm → PV
  | .node n ts => .agg [.str n, .list 2 (ts.map Tm.pv)]
abbrev tmP (nm : ByteArray) (ts : List Tm) : PV := .agg [.str nm, .list 2 (ts.map Tm.pv)]
abbrev tmV (t : Tm) : PV := tmP t.name t.args
theorem Tm.pv_node (n : ByteArray) (ts : List Tm) : (Tm.node n ts).pv = tmP n ts := by rw [Tm.pv]
theorem Tm.pv_eq (t : Tm) : t.pv = tmV t := by cases t; exact Tm.pv_node _ _
@[simp] theorem Tm.eta (t : Tm) : Tm.node t.name t.args = t := by cases t; rfl
@[simp] theorem Tm.name_node (n : ByteArray) (ts : List Tm) : (Tm.node n ts).name = n := rfl
@[simp] theorem Tm.args_node (n : ByteArray) (ts : List Tm) : (Tm.node n ts).args = ts := rfl
/-- A term, by its structure. -/
theorem Tm.ind {M : Tm → Prop} (h : ∀ n ts, (∀ t ∈ ts, M t) → M (.node n ts)) (t : Tm) : M t := by
  have := @Tm.rec (motive_1 := M) (motive_2 := fun l => ∀ t ∈ l, M t) (fun n ts ih => h n ts ih) (by simp) (fun t r h1 h2 => by
    intro u hu
    rcases List.mem_cons.1 hu with rfl | hu
    · exact h1
    · exact h2 u hu)
  exact this t
theorem getD_mem {α : Type} {l : List α} {i : Nat} {d : α} (h : i < l.length) : l.getD i d ∈ l := by
  rw [List.getD_eq_getElem?_getD, List.getElem?_eq_getElem h]
  exact List.getElem_mem h
theorem take_snoc {α : Type} {l : List α} {i : Nat} (d : α) (h : i < l.length) : l.take (i + 1) = l.take i ++ [l.getD i d] := by
  rw [List.take_add_one, List.getElem?_eq_getElem h, List.getD_eq_getElem?_getD, List.getElem?_eq_getElem h]
  rfl
section
variable {G : Option Bool} {K : List PV → Prop}
theorem el_tm {l : List Tm} {i : Nat} (h : gd G (i < l.length)) (hk : K [.str (l.getD i default).name, .list 2 ((l.getD i default).args.map Tm.pv)]) : ∃ cs, Elem G (l.map Tm.pv) (i : Int) cs ∧ K cs :=
  el_map default h (by rw [Tm.pv_eq]; exact hk)
theorem el_tmI {l : List Tm} {n : Int} (h : gd G (0 ≤ n ∧ n.toNat < l.length)) (hk : K [.str (l.getD n.toNat default).name, .list 2 ((l.getD n.toNat default).args.map Tm.pv)]) : ∃ cs, Elem G (l.map Tm.pv) n cs ∧ K cs :=
  el_mapI default h (by rw [Tm.pv_eq]; exact hk)
end
/-- How many knots. -/
def Tm.size : Tm → Nat
  | .node _ ts => 1 + (ts.map Tm.size).sum
theorem Tm.size_node (n : ByteArray) (ts : List Tm) : (Tm.node n ts).size = 1 + (ts.map Tm.size).sum := by rw [Tm.size]
theorem Tm.size_eq (t : Tm) : t.size = 1 + (t.args.map Tm.size).sum := by cases t; exact Tm.size_node _ _
theorem Tm.size_pos (t : Tm) : 0 < t.size := by rw [Tm.size_eq]; omega
theorem sum_take_le (l : List Nat) (i : Nat) : (l.take i).sum ≤ l.sum := by
  have h := congrArg List.sum (List.take_append_drop i l)
  rw [List.sum_append] at h
  omega
theorem size_take_le (l : List Tm) (i : Nat) : ((l.take i).map Tm.size).sum ≤ (l.map Tm.size).sum := by
  rw [List.map_take]; exact sum_take_le _ _
theorem size_take_succ {l : List Tm} {i : Nat} (h : i < l.length) : ((l.take (i + 1)).map Tm.size).sum = ((l.take i).map Tm.size).sum + (l.getD i default).size := by
  rw [take_snoc default h]; simp
theorem size_mem_le {l : List Tm} {t : Tm} (h : t ∈ l) : t.size ≤ (l.map Tm.size).sum := by
  induction l with
  | nil => cases h
  | cons a r ih =>
    rcases List.mem_cons.1 h with rfl | h
    · simp
    · have := ih h; simp; omega
theorem len_le_size (l : List Tm) : l.length ≤ (l.map Tm.size).sum := by
  induction l with
  | nil => simp
  | cons a r ih => have := a.size_pos; simp; omega

structure Mv where
  name : ByteArray
  frm : List Int
  to : Int
  deriving Inhabited
abbrev mvP (nm : ByteArray) (fr : List Int) (to : Int) : PV := .agg [.str nm, .list 1 (fr.map (PV.int .i64)), .int .i64 to]
def Mv.pv (m : Mv) : PV := mvP m.name m.frm m.to
structure Au where
  states : Int
  moves : List Mv
  last : List Int
abbrev auP (n : Int) (ms : List Mv) (ls : List Int) : PV := .agg [.int .i64 n, .list 3 (ms.map Mv.pv), .list 1 (ls.map (PV.int .i64))]
section
variable {G : Option Bool} {K : List PV → Prop}
theorem el_mv {l : List Mv} {i : Nat} (h : gd G (i < l.length)) (hk : K [.str (l.getD i default).name, .list 1 ((l.getD i default).frm.map (PV.int .i64)), .int .i64 (l.getD i default).to]) : ∃ cs, Elem G (l.map Mv.pv) (i : Int) cs ∧ K cs :=
  el_map default h hk
end
theorem arrC_one {α : Type} (c : α → List PV) (l : List α) (d : α) (h : 0 < l.length) : arrC c (l.take 1) = (c (l.getD 0 d)).map SV.pv := by
  have := take_snoc d h
  simp only [Nat.zero_add, List.take_zero, List.nil_append] at this
  rw [this]; simp [arrC]
abbrev tmC (t : Tm) : List PV := [.str t.name, .list 2 (t.args.map Tm.pv)]
theorem tmC_cells (t : Tm) : t.pv.cells = tmC t := by rw [Tm.pv_eq]; rfl
theorem tmC_len (t : Tm) : (tmC t).length = 2 := rfl
abbrev intC (n : Int) : List PV := [.int .i64 n]
abbrev u64C (n : Int) : List PV := [.int .u64 n]
abbrev strC (s : ByteArray) : List PV := [.str s]
abbrev mvC (m : Mv) : List PV := [.str m.name, .list 1 (m.frm.map (PV.int .i64)), .int .i64 m.to]
section
variable {G : Option Bool}
theorem aln_int {l : List Int} {K : Nat → Prop} (hk : K l.length) : ∃ m, ALen G (arrC intC l) (arrC intC l).length 1 m ∧ K m := aln_arr (fun _ => rfl) Nat.one_pos hk
theorem aidx_int {l : List Int} {i : Int} {R : Prop} (h : gd G (0 ≤ i ∧ i.toNat < l.length)) (hk : R) : AIdx G (arrC intC l) (arrC intC l).length 1 i ∧ R := aidx_arr (fun _ => rfl) h hk
theorem ac_int {l : List Int} {i : Int} {K : List SV → Prop} (h : gd G (0 ≤ i ∧ i.toNat < l.length)) (hk : K [.pv (.int .i64 (l.getD i.toNat 0))]) : ∃ m, ACells G (arrC intC l) (arrC intC l).length (i.toNat * 1) 1 m ∧ K m := ac_all (fun _ => rfl) Nat.one_pos 0 h hk
theorem ap_int {l : List Int} {x : Int} {K : List SV → Prop} (hk : K (arrC intC (l ++ [x]))) : ∃ cs', AppOf (arrC intC l) [.pv (.int .i64 x)] cs' ∧ K cs' := ap_arr1 x rfl hk
end
end Go.VL
