/- The value-level logic, the engine, part 5: the small rules that a walk goes by. -/
import Derived.Test.YtckbenlmlikjoaaE4
set_option linter.unusedVariables false
set_option linter.unusedSimpArgs false
namespace Go.VL
theorem cond_true_left {x y : Bool} : (bif x then y else false) = (x && y) := by cases x <;> rfl
theorem cond_or {x y : Bool} : (bif x then true else y) = (x || y) := by cases x <;> rfl
theorem strEq_iff {x y : ByteArray} : strEq x y = true ↔ x = y := by
  unfold strEq
  rw [beq_iff_eq]
  constructor
  · intro h
    have e : ∀ z : ByteArray, z.toList = z.data.toList := fun z => ByteArray.toList_eq z
    rw [e, e] at h
    obtain ⟨⟨a⟩⟩ := x
    obtain ⟨⟨b⟩⟩ := y
    simp at h
    simp [h]
  · rintro rfl; rfl
theorem strEq_empty {x : ByteArray} : strEq x ⟨#[]⟩ = decide (x.size = 0) := by
  rw [Bool.eq_iff_iff, strEq_iff, decide_eq_true_eq]
  obtain ⟨a⟩ := x
  constructor
  · intro h; simp only [ByteArray.mk.injEq] at h; subst h; rfl
  · intro h; simp only [ByteArray.mk.injEq]; exact Array.eq_empty_of_size_eq_zero h
theorem strEq_dec {x y : ByteArray} : strEq x y = decide (x = y) := by rw [Bool.eq_iff_iff, strEq_iff, decide_eq_true_eq]
theorem bnot_dec {p : Prop} [Decidable p] : (!decide p) = decide (¬ p) := by by_cases h : p <;> simp [h]

/-! ### Slices that a frame owns, of elements told by their cells -/
def arrC {α : Type} (c : α → List PV) (l : List α) : List SV := l.flatMap fun x => (c x).map SV.pv
theorem arrC_append {α : Type} (c : α → List PV) (l r : List α) : arrC c (l ++ r) = arrC c l ++ arrC c r := by simp [arrC]
theorem arrC_len {α : Type} {c : α → List PV} {n : Nat} (hc : ∀ x, (c x).length = n) (l : List α) : (arrC c l).length = n * l.length := by
  induction l with
  | nil => simp [arrC]
  | cons a r ih =>
    have e : arrC c (a :: r) = (c a).map SV.pv ++ arrC c r := by simp [arrC]
    rw [e]
    simp [ih, hc, Nat.mul_add]; omega
theorem arrC_flat {α : Type} {c : α → List PV} {f : α → PV} (hf : ∀ x, (f x).cells = c x) (l : List α) : arrC c l = (flat (l.map f)).map SV.pv := by
  induction l with
  | nil => rfl
  | cons a r ih =>
    have e : arrC c (a :: r) = (c a).map SV.pv ++ arrC c r := by simp [arrC]
    rw [e, ih]
    simp [flat, hf]
theorem namesL_arrC {α : Type} (c : α → List PV) (l : List α) : namesL (arrC c l) = [] := by
  induction l with
  | nil => rfl
  | cons a r ih =>
    have e : arrC c (a :: r) = (c a).map SV.pv ++ arrC c r := by simp [arrC]
    rw [e, namesL_append, namesL_pv, ih]; rfl

/-! ### What is asked, shown by itself where that goes -/
section
variable {G : Option Bool} {p R : Prop}
theorem gd_none (h : p) : gd none p := h
theorem gd_some {b : Bool} (h : b = true → p) : gd (some b) p := h
theorem gd_of (h : p) : gd G p := by
  cases G with
  | none => exact h
  | some b => exact fun _ => h
theorem gd_s1 {b : Bool} : gd (some b) (b = true) := id
theorem gd_s2 {b : Bool} : gd (andG none b) (b = true) := id
theorem gd_s3 {b t : Bool} : gd (andG (some b) t) ((b && t) = true) := id
theorem gd_s4 {b t : Bool} : gd (andG (some b) t) (b = true) := fun h => by simp at h; exact h.1
theorem gd_s5 {b t : Bool} : gd (some (b && t)) (b = true) := fun h => by simp at h; exact h.1
theorem gd_and {t : Bool} (h : (match G with | none => t | some b => b && t) = true → p) : gd (andG G t) p := by
  cases G with
  | none => exact h
  | some b => exact h
theorem bl {b c : Bool} (h : b = c := by first | with_reducible rfl | assumption | (simp only [Bool.not_true, Bool.not_false, Bool.and_self, Bool.true_and, Bool.false_and, Bool.and_false, Bool.and_true, cond_true, cond_false]; done) | decide | fail) : b = c := h
theorem sd (h : p := by first | assumption | omega | exact trivial | (simp; done) | (simp; omega) | fail) : p := h
theorem sg (h : gd G p := by first | exact gd_s1 | exact gd_s2 | exact gd_s3 | exact gd_s4 | exact gd_s5 | (refine gd_none ?_; exact sd) | (refine gd_some (fun hg => ?_); (try simp only [strEq_empty, cond_true_left, cond_or, Int.toNat_zero, Int.toNat_natCast, gt_iff_lt, ge_iff_le, Bool.and_eq_true, decide_eq_true_eq, Bool.not_eq_true', decide_eq_false_iff_not, Bool.not_eq_eq_eq_not, Bool.not_true, Bool.not_false, Bool.or_eq_true, Bool.and_eq_false_iff, Bool.or_eq_false_iff, not_true_eq_false, Int.not_lt, Int.not_le, Nat.not_lt, Nat.not_le, bnot_dec, bne_iff_ne, ne_eq, Bool.false_eq_true, Bool.true_eq_false, Decidable.not_not, reduceIte] at hg); exact sd) | (refine gd_and (fun hg => ?_); (try simp only [strEq_empty, cond_true_left, cond_or, Int.toNat_zero, Int.toNat_natCast, gt_iff_lt, ge_iff_le, Bool.and_eq_true, decide_eq_true_eq, Bool.not_eq_true', decide_eq_false_iff_not, Bool.not_eq_eq_eq_not, Bool.not_true, Bool.not_false, Bool.or_eq_true, Bool.and_eq_false_iff, Bool.or_eq_false_iff, not_true_eq_false, Int.not_lt, Int.not_le, Nat.not_lt, Nat.not_le, bnot_dec, bne_iff_ne, ne_eq, Bool.false_eq_true, Bool.true_eq_false, reduceIte] at hg); exact sd) | fail) : gd G p := h
theorem sn (h : p := by first | rfl | exact sd | (simp [OV.names, namesL, SV.names, namesL_pv, namesL_arrC, namesL_append, anyNm_nil]; done) | fail) : p := h
theorem gd_dead {b : Bool} {L D : Prop} (h : b = false) (k : D) : Gd3 b L D := .dead h k
theorem gd_live {b : Bool} {L D : Prop} (k : L) : Gd3 b L D := .live k
/-- What is asked; then what goes on. -/
theorem and_self {b : Bool} (hk : R) : gd (some b) (b = true) ∧ R := ⟨id, hk⟩
theorem and_gd (h : gd G p) (hk : R) : gd G p ∧ R := ⟨h, hk⟩
theorem and_sidx {s : ByteArray} {n : Int} (h : gd G (0 ≤ n ∧ n.toNat < s.size)) (hk : R) : SIdx G s n ∧ R := ⟨⟨fun ho => gd_on h ho⟩, hk⟩
theorem and_sidxN {s : ByteArray} {n : Nat} (h : gd G (n < s.size)) (hk : R) : SIdx G s (n : Int) ∧ R := ⟨⟨fun ho => ⟨Int.natCast_nonneg n, gd_on h ho⟩⟩, hk⟩
theorem and_aidx {cs : List SV} {tag sz : Nat} {n : Int} (h : gd G (tag = cs.length ∧ 0 ≤ n ∧ n.toNat * sz + sz ≤ cs.length)) (hk : R) : AIdx G cs tag sz n ∧ R := ⟨⟨fun ho => gd_on h ho⟩, hk⟩
theorem and_cellN {x : PV} {sz : Nat} (h : x.cells.length = sz) (hk : R) : CellN G x sz ∧ R := ⟨⟨fun _ => h⟩, hk⟩
theorem and_appFit {cs ys : List SV} {sz bytes : Nat} (h : (cs.length / sz + ys.length / sz) * bytes ≤ 140737488355328) (hk : R) : AppFit cs ys sz bytes ∧ R := ⟨⟨h⟩, hk⟩
theorem and_app1 {cs : List SV} {a0 : SV} {bytes : Nat} (h : (cs.length + 1) * bytes ≤ 140737488355328) (hk : R) : AppFit cs [a0] 1 bytes ∧ R := ⟨⟨by simpa using h⟩, hk⟩
theorem and_app2 {cs : List SV} {a0 a1 : SV} {bytes : Nat} (h : (cs.length / 2 + 1) * bytes ≤ 140737488355328) (hk : R) : AppFit cs [a0, a1] 2 bytes ∧ R := ⟨⟨by simpa using h⟩, hk⟩
theorem and_app3 {cs : List SV} {a0 a1 a2 : SV} {bytes : Nat} (h : (cs.length / 3 + 1) * bytes ≤ 140737488355328) (hk : R) : AppFit cs [a0, a1, a2] 3 bytes ∧ R := ⟨⟨by simpa using h⟩, hk⟩
theorem and_app4 {cs : List SV} {a0 a1 a2 a3 : SV} {bytes : Nat} (h : (cs.length / 4 + 1) * bytes ≤ 140737488355328) (hk : R) : AppFit cs [a0, a1, a2, a3] 4 bytes ∧ R := ⟨⟨by simpa using h⟩, hk⟩
theorem and_app5 {cs : List SV} {a0 a1 a2 a3 a4 : SV} {bytes : Nat} (h : (cs.length / 5 + 1) * bytes ≤ 140737488355328) (hk : R) : AppFit cs [a0, a1, a2, a3, a4] 5 bytes ∧ R := ⟨⟨by simpa using h⟩, hk⟩
theorem and_app6 {cs : List SV} {a0 a1 a2 a3 a4 a5 : SV} {bytes : Nat} (h : (cs.length / 6 + 1) * bytes ≤ 140737488355328) (hk : R) : AppFit cs [a0, a1, a2, a3, a4, a5] 6 bytes ∧ R := ⟨⟨by simpa using h⟩, hk⟩
theorem and_mkFit {n c : Int} {bytes : Nat} (h : 0 ≤ n ∧ n = c ∧ n * bytes ≤ 281474976710656 ∧ n ≤ 9223372036854775807) (hk : R) : MkFit n c bytes ∧ R := ⟨⟨h⟩, hk⟩
theorem and_strFit {n : Nat} (h : n ≤ 140737488355328) (hk : R) : StrFit n ∧ R := ⟨⟨h⟩, hk⟩
theorem and_noNm {ds : List Nm} {o : OV} (h : anyNm ds o.names = false) (hk : R) : NoNm ds o ∧ R := ⟨⟨h⟩, hk⟩
theorem and_tag {cs : List SV} (hk : R) : cs.length = cs.length ∧ R := ⟨rfl, hk⟩
theorem and_eq {n m : Nat} (h : n = m) (hk : R) : n = m ∧ R := ⟨h, hk⟩
theorem and_body {P : Program} {f : FuncId} (h : hasBody P f = true) (hk : R) : hasBody P f = true ∧ R := ⟨h, hk⟩
theorem ways_t {A B : Prop} (h : A) : (true = true → A) ∧ (true = false → B) := ⟨fun _ => h, fun h => by cases h⟩
theorem ways_f {A B : Prop} (h : B) : (false = true → A) ∧ (false = false → B) := ⟨fun h => (by cases h), fun _ => h⟩
theorem ways_T {b : Bool} {A B : Prop} (hb : b = true) (h : A) : (b = true → A) ∧ (b = false → B) := ⟨fun _ => h, fun h => by rw [hb] at h; cases h⟩
theorem ways_F {b : Bool} {A B : Prop} (hb : b = false) (h : B) : (b = true → A) ∧ (b = false → B) := ⟨fun h => (by rw [hb] at h; cases h), fun _ => h⟩
end
section
variable {G : Option Bool} {n : Int} {K : Int → Prop}
theorem wr_i64 (h : gd G (-9223372036854775808 ≤ n ∧ n ≤ 9223372036854775807)) (hk : K n) : ∃ r, Wr G .i64 n r ∧ K r :=
  ⟨n, ⟨fun ho => wrap_i64 (gd_on h ho).1 (gd_on h ho).2⟩, hk⟩
theorem wr_u8 (h : gd G (0 ≤ n ∧ n ≤ 255)) (hk : K n) : ∃ r, Wr G .u8 n r ∧ K r :=
  ⟨n, ⟨fun ho => by have := gd_on h ho; unfold IntKind.wrap; simp [IntKind.signed, IntKind.bits]; omega⟩, hk⟩
theorem wr_i32 (h : gd G (-2147483648 ≤ n ∧ n ≤ 2147483647)) (hk : K n) : ∃ r, Wr G .i32 n r ∧ K r :=
  ⟨n, ⟨fun ho => by have := gd_on h ho; unfold IntKind.wrap; simp [IntKind.signed, IntKind.bits]; omega⟩, hk⟩
theorem wr_u64 (h : gd G (0 ≤ n ∧ n ≤ 18446744073709551615)) (hk : K n) : ∃ r, Wr G .u64 n r ∧ K r :=
  ⟨n, ⟨fun ho => by have := gd_on h ho; unfold IntKind.wrap; simp [IntKind.signed, IntKind.bits]; omega⟩, hk⟩
theorem wr_raw {k : IntKind} (hk : K (k.wrap n)) : ∃ r, Wr G k n r ∧ K r := ⟨_, ⟨fun _ => rfl⟩, hk⟩
end
section
variable {G : Option Bool} {K : List PV → Prop}
/-- An element of a list that is made of others. -/
theorem el_map {α : Type} {f : α → PV} {l : List α} {i : Nat} (d : α) (h : gd G (i < l.length)) (hk : K (f (l.getD i d)).cells) : ∃ cs, Elem G (l.map f) (i : Int) cs ∧ K cs :=
  ⟨_, ⟨fun ho => ⟨Int.natCast_nonneg i, f (l.getD i d), by have := gd_on h ho; simp [this, List.getD_eq_getElem?_getD], rfl⟩⟩, hk⟩
theorem el_mapI {α : Type} {f : α → PV} {l : List α} {n : Int} (d : α) (h : gd G (0 ≤ n ∧ n.toNat < l.length)) (hk : K (f (l.getD n.toNat d)).cells) : ∃ cs, Elem G (l.map f) n cs ∧ K cs :=
  ⟨_, ⟨fun ho => ⟨(gd_on h ho).1, f (l.getD n.toNat d), by have := (gd_on h ho).2; simp [this, List.getD_eq_getElem?_getD], rfl⟩⟩, hk⟩
theorem el_int {l : List Int} {k : IntKind} {i : Nat} (h : gd G (i < l.length)) (hk : K [.int k (l.getD i 0)]) : ∃ cs, Elem G (l.map (PV.int k)) (i : Int) cs ∧ K cs := el_map 0 h hk
theorem el_intI {l : List Int} {k : IntKind} {n : Int} (h : gd G (0 ≤ n ∧ n.toNat < l.length)) (hk : K [.int k (l.getD n.toNat 0)]) : ∃ cs, Elem G (l.map (PV.int k)) n cs ∧ K cs := el_mapI 0 h hk
theorem el_str {l : List ByteArray} {i : Nat} (h : gd G (i < l.length)) (hk : K [.str (l.getD i default)]) : ∃ cs, Elem G (l.map PV.str) (i : Int) cs ∧ K cs := el_map default h hk
theorem el_strI {l : List ByteArray} {n : Int} (h : gd G (0 ≤ n ∧ n.toNat < l.length)) (hk : K [.str (l.getD n.toNat default)]) : ∃ cs, Elem G (l.map PV.str) n cs ∧ K cs := el_mapI default h hk
/-- At a list that is written out: as it stands. -/
theorem el_raw {xs : List PV} {n : Int} (e : PV) (h : gd G (0 ≤ n ∧ xs[n.toNat]? = some e)) (hk : K e.cells) : ∃ cs, Elem G xs n cs ∧ K cs := ⟨_, ⟨fun ho => ⟨(gd_on h ho).1, e, (gd_on h ho).2, rfl⟩⟩, hk⟩
/-- .. of texts, of numbers that are written out. -/
theorem el_strs {xs : List PV} {n : Int} (l : List ByteArray) (e : xs = l.map PV.str) (h : gd G (0 ≤ n ∧ n.toNat < l.length)) (hk : K [.str (l.getD n.toNat default)]) : ∃ cs, Elem G xs n cs ∧ K cs := by subst e; exact el_strI h hk
theorem el_ints {xs : List PV} {n : Int} {k : IntKind} (l : List Int) (e : xs = l.map (PV.int k)) (h : gd G (0 ≤ n ∧ n.toNat < l.length)) (hk : K [.int k (l.getD n.toNat 0)]) : ∃ cs, Elem G xs n cs ∧ K cs := by subst e; exact el_intI h hk
end
section
variable {K : Nat → Prop}
theorem ln_map {α : Type} {f : α → PV} {l : List α} (hk : K l.length) : ∃ n, LenOf (l.map f) n ∧ K n := ⟨_, ⟨by simp⟩, hk⟩
theorem ln_raw {xs : List PV} (hk : K xs.length) : ∃ n, LenOf xs n ∧ K n := ⟨_, ⟨rfl⟩, hk⟩
theorem aln_map {G : Option Bool} {α : Type} {f : α → SV} {l : List α} (hk : K l.length) : ∃ n, ALen G (l.map f) (l.map f).length 1 n ∧ K n := ⟨_, ⟨fun _ => ⟨rfl, by simp⟩⟩, hk⟩
theorem aln {G : Option Bool} {cs : List SV} {tag s : Nat} (n : Nat) (h : gd G (tag = cs.length ∧ cs.length / s = n)) (hk : K n) : ∃ n, ALen G cs tag s n ∧ K n := ⟨n, ⟨fun ho => gd_on h ho⟩, hk⟩
end
section
variable {h : Nm → Option OV}
theorem fz_eq {a b : PV} (e : a = b) : Froz h (.pv a) b := by subst e; exact .pv a
theorem fz_nil (sz : Nat) : Froz h (.pv .nilS) (.list sz []) := .nil sz
theorem fz_cons {s : SV} {x : PV} {ss : List SV} {xs : List PV} (hf : Froz h s x) (hr : FrozL h ss xs) : FrozL h (s :: ss) (x :: xs) := .cons _ _ _ _ hf hr
theorem fz_end : FrozL h [] [] := .nil
theorem sub_eq {a b : PV} (e : a = b) : SubP a b := by subst e; exact .refl a
theorem en_end : EndL h [] [] := .nil
theorem en_pv {a b : PV} {ss : List SV} {ys : List PV} (e : SubP a b) (hr : EndL h ss ys) : EndL h (.pv a :: ss) (b :: ys) := .cons _ _ _ _ _ (.pv a) e hr
theorem en_eq {a b : PV} {ss : List SV} {ys : List PV} (hr : EndL h ss ys) (e : a = b) : EndL h (.pv a :: ss) (b :: ys) := .cons _ _ _ _ _ (.pv a) (sub_eq e) hr
theorem en_fz {s : SV} {y : PV} {ss : List SV} {ys : List PV} (hf : Froz h s y) (hr : EndL h ss ys) : EndL h (s :: ss) (y :: ys) := .cons _ _ _ _ _ hf (.refl y) hr
theorem en_int {k : IntKind} {a b : Int} {ss : List SV} {ys : List PV} (hr : EndL h ss ys) (e : a = b) : EndL h (.pv (.int k a) :: ss) (.int k b :: ys) := en_eq hr (by rw [e])
theorem en_bool {a b : Bool} {ss : List SV} {ys : List PV} (hr : EndL h ss ys) (e : a = b) : EndL h (.pv (.bool a) :: ss) (.bool b :: ys) := en_eq hr (by rw [e])
theorem en_str {a b : ByteArray} {ss : List SV} {ys : List PV} (hr : EndL h ss ys) (e : a = b) : EndL h (.pv (.str a) :: ss) (.str b :: ys) := en_eq hr (by rw [e])
/-- One scalar. -/
theorem en_one {a b : PV} (e : a = b) : EndL h [.pv a] [b] := en_eq en_end e
end
section
variable {K : List SV → Prop}
theorem em_pos {n : Nat} {A B : Prop} (h : n ≠ 0) (hk : B) : ∃ b, Emp n b ∧ (bif b then A else B) := ⟨false, ⟨by simp [h]⟩, hk⟩
theorem em_zero {n : Nat} {A B : Prop} (h : n = 0) (hk : A) : ∃ b, Emp n b ∧ (bif b then A else B) := ⟨true, ⟨by simp [h]⟩, hk⟩
theorem fl_one {cs : List PV} (hk : mapPvK cs K) : ∃ ys, FlatOf [.agg cs] ys ∧ K ys := ⟨cs.map .pv, ⟨by simp [flat, PV.cells]⟩, mapPvK_sound hk⟩
theorem fl_int {k : IntKind} {n : Int} (hk : K [.pv (.int k n)]) : ∃ ys, FlatOf [.int k n] ys ∧ K ys := ⟨_, ⟨rfl⟩, hk⟩
theorem fl_str {s : ByteArray} (hk : K [.pv (.str s)]) : ∃ ys, FlatOf [.str s] ys ∧ K ys := ⟨_, ⟨rfl⟩, hk⟩
theorem flat_ints (k : IntKind) (l : List Int) : flat (l.map (PV.int k)) = l.map (PV.int k) := by
  induction l with
  | nil => rfl
  | cons a r ih => simp only [List.map_cons, flat, List.flatMap_cons] at ih ⊢; rw [ih]; rfl
theorem flat_strs (l : List ByteArray) : flat (l.map PV.str) = l.map PV.str := by
  induction l with
  | nil => rfl
  | cons a r ih => simp only [List.map_cons, flat, List.flatMap_cons] at ih ⊢; rw [ih]; rfl
theorem fl_ints {k : IntKind} {l : List Int} (hk : K (l.map fun n => .pv (.int k n))) : ∃ ys, FlatOf (l.map (PV.int k)) ys ∧ K ys := ⟨_, ⟨by rw [flat_ints, List.map_map]; rfl⟩, hk⟩
theorem fl_strs {l : List ByteArray} (hk : K (l.map fun n => .pv (.str n))) : ∃ ys, FlatOf (l.map PV.str) ys ∧ K ys := ⟨_, ⟨by rw [flat_strs, List.map_map]; rfl⟩, hk⟩
theorem fl_raw {xs : List PV} (hk : K ((flat xs).map .pv)) : ∃ ys, FlatOf xs ys ∧ K ys := ⟨_, ⟨rfl⟩, hk⟩
theorem ap_nil {ys : List SV} (hk : K ys) : ∃ cs', AppOf [] ys cs' ∧ K cs' := ⟨_, ⟨rfl⟩, hk⟩
theorem ap_raw {cs ys : List SV} (hk : K (cs ++ ys)) : ∃ cs', AppOf cs ys cs' ∧ K cs' := ⟨_, ⟨rfl⟩, hk⟩
theorem ap_snoc {α : Type} {f : α → SV} {l : List α} {x : α} (hk : K ((l ++ [x]).map f)) : ∃ cs', AppOf (l.map f) [f x] cs' ∧ K cs' := ⟨_, ⟨by simp⟩, hk⟩
theorem ap_maps {α : Type} {f : α → SV} {l r : List α} (hk : K ((l ++ r).map f)) : ∃ cs', AppOf (l.map f) (r.map f) cs' ∧ K cs' := ⟨_, ⟨by simp⟩, hk⟩
end
/-! ### Calls -/
theorem sub_nil_map {α : Type} (sz : Nat) (f : α → PV) : SubP .nilS (.list sz (List.map f [])) := .nil sz
theorem subs {vals : List SV} {xs : List PV} (h : SubSL vals xs := by first | ((repeat (first | exact SubSL.nil | refine SubSL.cons _ _ _ _ ?_ ?_ | exact SubP.refl _ | exact SubP.nil _ | exact sub_nil_map _ _ | refine SubP.agg _ _ ?_ | exact SubPL.nil | refine SubPL.cons _ _ _ _ ?_ ?_)); done) | fail) : SubSL vals xs := h
section
variable {P : Program} {f : FuncId} {vals : List SV} {X : XS} {xs ys : List PV} {H : Prop}
theorem cl {dst : Option Nat} {K : XS → Prop} (hs : Pure P f xs ys) (hv : SubSL vals xs) (hk : retK (fun s => setDK dst (.v s) X K) ys) : XCall P f vals dst X K := XCall.pure hs hv hk
theorem clH {dst : Option Nat} {K : XS → Prop} (hs : H → Pure P f xs ys) (hv : SubSL vals xs) (h : gd none H) (hk : retK (fun s => setDK dst (.v s) X K) ys) : XCall P f vals dst X K := XCall.pure (hs h) hv hk
theorem cd {K : SV → Prop} (hs : Pure P f xs ys) (hv : SubSL vals xs) (hk : retK K ys) : ∃ s, gd none (XDet P f vals X s) ∧ K s := xdet_pure hs hv hk
theorem cdH {K : SV → Prop} (hs : H → Pure P f xs ys) (hv : SubSL vals xs) (h : gd none H) (hk : retK K ys) : ∃ s, gd none (XDet P f vals X s) ∧ K s := xdet_pure (hs h) hv hk
theorem XGc.pure {b : Bool} {dst : Option Nat} {K : XS → Prop} (hs : b = true → Pure P f xs ys) (hv : SubSL vals xs) (hk : retK (fun s => setDK dst (.c b s) X K) ys) : XGc b P f vals dst X K := by
  obtain ⟨Y, h1, h2⟩ := setDK_sound (retK_sound hk)
  refine ⟨fun K2 hK => ⟨fun hb => ?_, fun hb => ?_⟩⟩
  · refine VDet.vcall (vdet_of_pure (hs hb) hv) ?_
    have := hK Y h2
    rw [h1, hb] at this
    exact this
  · have := hK Y h2
    rw [h1, hb] at this
    exact this
theorem cG {b : Bool} {dst : Option Nat} {K : XS → Prop} (hs : Pure P f xs ys) (hv : SubSL vals xs) (hk : retK (fun s => setDK dst (.c b s) X K) ys) : XGc b P f vals dst X K := .pure (fun _ => hs) hv hk
theorem cGH {b : Bool} {dst : Option Nat} {K : XS → Prop} (hs : H → Pure P f xs ys) (hv : SubSL vals xs) (h : gd (some b) H) (hk : retK (fun s => setDK dst (.c b s) X K) ys) : XGc b P f vals dst X K := .pure (fun hb => hs (h hb)) hv hk
theorem cg {b : Bool} {K : SV → Prop} (hs : Pure P f xs ys) (hv : SubSL vals xs) (hk : retK K ys) : ∃ s, gd (some b) (XDet P f vals X s) ∧ K s := xdet_pureG (fun _ => hs) (fun _ => hv) hk
theorem cgH {b : Bool} {K : SV → Prop} (hs : H → Pure P f xs ys) (hv : SubSL vals xs) (h : gd (some b) H) (hk : retK K ys) : ∃ s, gd (some b) (XDet P f vals X s) ∧ K s := xdet_pureG (fun hb => hs (h hb)) (fun _ => hv) hk
end
/-- One more at the end: its cells as they come. -/
theorem ap_arr1 {α : Type} {c : α → List PV} {l : List α} {p : PV} {K : List SV → Prop} (x : α) (e : c x = [p]) (hk : K (arrC c (l ++ [x]))) : ∃ cs', AppOf (arrC c l) [.pv p] cs' ∧ K cs' := ⟨_, ⟨by rw [arrC_append]; simp [arrC, e]⟩, hk⟩
theorem ap_arr {α : Type} {c : α → List PV} {l : List α} {ps : List SV} {K : List SV → Prop} (x : α) (e : (c x).map SV.pv = ps) (hk : K (arrC c (l ++ [x]))) : ∃ cs', AppOf (arrC c l) ps cs' ∧ K cs' := ⟨_, ⟨by rw [arrC_append]; simp [arrC, e]⟩, hk⟩
theorem ap_new {α : Type} {ps : List SV} {K : List SV → Prop} (c : α → List PV) (x : α) (e : (c x).map SV.pv = ps) (hk : K (arrC c [x])) : ∃ cs', AppOf [] ps cs' ∧ K cs' := ⟨_, ⟨by simp [arrC, e]⟩, hk⟩
section
variable {h : Nm → Option OV}
theorem fz_arr {α : Type} {c : α → List PV} {f : α → PV} {l : List α} {n : Nm} {tag sz : Nat} {t : TypeId} (hf : ∀ x, (f x).cells = c x) (hz : ∀ x, (c x).length = sz) (ho : h n = some (.arr t sz (arrC c l))) (ht : tag = (arrC c l).length) : Froz h (.arr n tag) (.list sz (l.map f)) := by
  refine .arr n tag t sz (arrC c l) (l.map f) ho ht (by rw [arrC_flat hf]; simp) (fun x hx => ?_) (fun k s x hs hx => ?_)
  · obtain ⟨y, _, rfl⟩ := List.mem_map.1 hx; rw [hf, hz]
  · rw [arrC_flat hf, List.getElem?_map, hx] at hs
    simp only [Option.map_some, Option.some.injEq] at hs
    subst hs
    exact .pv x
theorem fz_arr_nil {n : Nm} {tag sz : Nat} {t : TypeId} (ho : h n = some (.arr t sz [])) (ht : tag = 0) : Froz h (.arr n tag) (.list sz []) :=
  .arr n tag t sz [] [] ho ht rfl (by simp) (by simp)
theorem fz_agg {cs : List SV} {xs : List PV} (hf : FrozL h cs xs) : Froz h (.agg cs) (.agg xs) := .agg cs xs hf.get.1 (fun k c x hc hx => hf.get.2 k c x hc hx)
theorem fz_pv {a b : PV} (e : a = b) : Froz h (.pv a) b := fz_eq e
theorem fz_nilL {α : Type} {f : α → PV} {sz : Nat} : Froz h (.pv .nilS) (.list sz (List.map f [])) := .nil sz
end
end Go.VL
