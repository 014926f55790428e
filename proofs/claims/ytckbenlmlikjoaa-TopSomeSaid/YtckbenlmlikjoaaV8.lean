/- The value-level logic, part 8: fields, elements, slices, lengths, literals; the theorem on value operations. -/
import Derived.Test.YtckbenlmlikjoaaV7
set_option linter.unusedVariables false
set_option linter.unusedSimpArgs false
namespace Go.VL
section
variable {P : Program} {E : Env} {N : Nat} {g : Gh} {σ : St} {a : Act} {w : World}

theorem run_sizeOf {t : TypeId} {n : Nat} (h : sizeB P t = some n) (w : World) : (sizeOf t).run P w = .ok n w := by
  unfold sizeB at h
  cases hi : P.info? t with
  | none => rw [hi] at h; cases h
  | some i => rw [hi] at h; simp at h; simp [sizeOf, typeInfo, hi, h]
theorem rowB_true_run {t : TypeId} (h : rowB P t = some true) (w : World) : (isAgg t).run P w = .ok true w := by
  obtain ⟨d, hd, hr⟩ := rowB_true h
  unfold isAgg
  rw [Sem.run_bind, run_underlying hd w]
  cases d <;> simp_all

theorem aggCells_rel {h : Nm → Option OV} {s : SV} {v : Value} {cs : List SV} (r : SVRel w g h s v) (hc : aggCells s = some cs) : ∃ vs : List Value, v = .agg vs.toArray ∧ Cells w g h cs vs := by
  cases r with
  | pv x v hx =>
    cases hx <;> simp only [aggCells, reduceCtorEq, Option.some.injEq] at hc
    rename_i cs' vs hl h1 hr
    subst hc
    refine ⟨vs, rfl, by simpa using hl, h1, fun k c v hc hv => ?_⟩
    simp only [List.getElem?_map, Option.map_eq_some_iff] at hc
    obtain ⟨p, hp, rfl⟩ := hc
    exact .pv _ _ (hr k p v hp hv)
  | agg cs' vs hl h1 hr => simp only [aggCells, Option.some.injEq] at hc; subst hc; exact ⟨vs, rfl, hl, h1, hr⟩
  | _ => simp [aggCells] at hc

theorem go_field (R : Rel E N g σ a w) {t : TypeId} {f : Nat} {fd : Field} (hf : fieldB P t f = some fd) {agg : Bool} {n : Nat} (hr : rowB P fd.type = some agg) (hn : sizeB P fd.type = some n) (h1 : agg = false → n = 1)
    {x : Operand} {vx : VX} (hx : cX x = some vx) {s : SV} (he : evalV σ (.field agg fd.offset n vx) = some s) :
    ∃ v, (Instr.field t (a.eval x) f).run P w = .ok v w ∧ SVRel w g σ.obj s v := by
  simp only [evalV] at he
  split at he <;> try (cases he; done)
  rename_i cs hc
  split at he <;> try (cases he; done)
  rename_i hle
  obtain ⟨vs, hv, hC⟩ := aggCells_rel (val_rel R hx) hc
  unfold fieldB at hf
  split at hf <;> try (cases hf; done)
  rename_i fs hu
  rw [hv]
  cases agg with
  | true =>
    simp only [if_true, Option.some.injEq] at he
    subst he
    refine ⟨_, ?_, ((hC.drop fd.offset).take n).mkAgg⟩
    simp only [Instr.field, Sem.run_bind, run_underlying hu, Result.andThen_ok, hf, asAgg, Sem.run_pure, part, rowB_true_run hr, run_sizeOf hn, if_true]
    congr 2
    apply Array.ext'
    simp [List.drop_take]
  | false =>
    simp only [Bool.false_eq_true, if_false] at he
    have hn1 := h1 rfl
    subst hn1
    have hlt : fd.offset < vs.length := by rw [← hC.1]; omega
    obtain ⟨u, hu'⟩ : ∃ u, vs[fd.offset]? = some u := ⟨vs[fd.offset], List.getElem?_eq_getElem hlt⟩
    refine ⟨u, ?_, hC.2.2 _ s u he hu'⟩
    simp only [Instr.field, Sem.run_bind, run_underlying hu, Result.andThen_ok, hf, asAgg, Sem.run_pure, part, rowB_false hr, Bool.false_eq_true, if_false]
    simp [hu']

theorem flat_at {sz : Nat} : ∀ (xs : List PV), (∀ x ∈ xs, x.cells.length = sz) → ∀ (i : Nat) (e : PV), xs[i]? = some e → ∀ j, j < sz → (flat xs)[i * sz + j]? = e.cells[j]?
  | [], _, i, e, h => by simp at h
  | x :: xs, hs, i, e, h => by
    intro j hj
    have hx : x.cells.length = sz := hs x (by simp)
    have hf : flat (x :: xs) = x.cells ++ flat xs := by simp [flat]
    rw [hf]
    cases i with
    | zero =>
      simp at h
      subst h
      rw [Nat.zero_mul, Nat.zero_add, List.getElem?_append_left (by omega)]
    | succ i =>
      simp at h
      have ih := flat_at xs (fun y hy => hs y (by simp [hy])) i e h j hj
      rw [List.getElem?_append_right (by rw [hx, Nat.succ_mul]; omega), hx, Nat.succ_mul]
      rw [← ih]
      congr 1
      omega
theorem flat_length {sz : Nat} : ∀ (xs : List PV), (∀ x ∈ xs, x.cells.length = sz) → (flat xs).length = xs.length * sz
  | [], _ => by simp [flat]
  | x :: xs, hs => by
    have hf : flat (x :: xs) = x.cells ++ flat xs := by simp [flat]
    rw [hf, List.length_append, hs x (by simp), flat_length xs (fun y hy => hs y (by simp [hy])), List.length_cons, Nat.succ_mul]
    omega

/-- Pointing at an element of a list. -/
theorem list_ptr {Ps : Nat → Prop} {sz : Nat} {xs : List PV} {v : Value} (h : PVRel w Ps (.list sz xs) v) {i : Nat} {e : PV} (he : xs[i]? = some e) :
    ∃ b off cap, v = .slice (some ⟨b, off, none⟩) xs.length cap ∧ PVRel w Ps (.ptr e.cells) (.pointer (some ⟨b, off + i * sz, none⟩)) := by
  cases h with
  | list sz xs base cap b off u hs hb hm hcap hw hr hnc =>
    have hne : xs ≠ [] := by rintro rfl; simp at he
    obtain ⟨rfl, hp⟩ := hb hne
    have hi : i < xs.length := (List.getElem?_eq_some_iff.1 he).1
    have hec : e.cells.length = sz := hs e (List.mem_of_getElem? he)
    have hlen := flat_length xs hs
    refine ⟨b, off, cap, rfl, .ptr _ b _ (fun j => u (i * sz + j)) hp (fun j hj => ?_) (fun j c hc => ?_)⟩
    · have hlt : i * sz + j < (flat xs).length := by
        rw [hlen]
        have : (i + 1) * sz ≤ xs.length * sz := Nat.mul_le_mul_right _ hi
        rw [Nat.succ_mul] at this
        omega
      have := hw _ hlt
      rwa [← Nat.add_assoc] at this
    · have hj : j < sz := by rw [← hec]; exact (List.getElem?_eq_some_iff.1 hc).1
      exact hr _ c ((flat_at xs hs i e he j hj).trans hc)

theorem elemB_eq {t e : TypeId} {n : Nat} (h : elemB P t = some (e, n)) : P.underlying t = some (.slice e) ∧ sizeB P e = some n := by
  unfold elemB at h
  split at h <;> try (cases h; done)
  rename_i e' hu
  simp only [Option.map_eq_some_iff, Prod.mk.injEq] at h
  obtain ⟨m, hm, rfl, rfl⟩ := h
  exact ⟨hu, hm⟩

theorem go_iaddr (R : Rel E N g σ a w) {t e : TypeId} {n : Nat} (ht : elemB P t = some (e, n)) {x i : Operand} {vx vi : VX} (hx : cX x = some vx) (hi : cX i = some vi) {s : SV} (he : evalV σ (.iaddr n vx vi) = some s) :
    ∃ v, (Instr.indexAt t (a.eval x) (a.eval i)).run P w = .ok v w ∧ SVRel w g σ.obj s v := by
  obtain ⟨hu, hn⟩ := elemB_eq ht
  have hrx := val_rel R hx
  have hri := val_rel R hi
  simp only [evalV] at he
  split at he <;> try (cases he; done)
  · rename_i sz xs k m hbx hbi
    rw [hbx] at hrx
    rw [hbi] at hri
    split at he <;> try (cases he; done)
    rename_i hc
    obtain ⟨rfl, h0⟩ := hc
    simp only [Option.map_eq_some_iff] at he
    obtain ⟨el, hel, rfl⟩ := he
    obtain ⟨b, off, cap, hv, hp⟩ := list_ptr hrx.pv_inv hel
    have hlt : m.toNat < xs.length := (List.getElem?_eq_some_iff.1 hel).1
    rw [hv, hri.int]
    refine ⟨_, ?_, .pv _ _ hp⟩
    have hcond : 0 ≤ m ∧ m < (xs.length : Int) := ⟨h0, by omega⟩
    simp only [Instr.indexAt, asIntOf, Sem.run_bind, Sem.run_pure, Result.andThen_ok, run_underlying hu, hcond.1, hcond.2, and_self, if_true, run_sizeOf hn, Addr.add_mid]
  · rename_i n' tag k m hbx hbi
    rw [hbx] at hrx
    rw [hbi] at hri
    split at he <;> try (cases he; done)
    rename_i t' sz cs ho
    split at he <;> try (cases he; done)
    rename_i hc
    obtain ⟨rfl, htag, h0, hle⟩ := hc
    simp only [Option.some.injEq] at he
    subst he
    generalize a.eval x = v at hrx ⊢
    cases hrx with
    | arr n' tag t'' sz'' cs'' v ho' hg hb h1 =>
      rw [ho] at ho'
      simp only [Option.some.injEq, OV.arr.injEq] at ho'
      obtain ⟨rfl, rfl, rfl⟩ := ho'
      have hv := hb htag
      obtain ⟨hpos, kk, xs, hx1, hx2⟩ := R.objs n' _ ho
      have hx0 := hx1
      rw [← hv] at hx1
      have hlen : xs.length = kk * sz := hx1.1
      have hcs : cs.length = kk * sz := by rw [hx2.1, hlen]
      rcases hx1.2 with ⟨_, hk0⟩ | ⟨gg, cap, cur, rfl, _⟩
      · exfalso
        subst hk0
        simp at hcs
        rw [hcs] at hle
        simp at hle
        omega
      · have hlt : m.toNat < kk := by
          rcases Nat.lt_or_ge m.toNat kk with h | h
          · exact h
          · have := Nat.mul_le_mul_right sz h
            omega
        rw [hri.int]
        refine ⟨.pointer (some ⟨gg, m.toNat * sz, none⟩), ?_, .aref n' _ tag _ _ cs _ ho hg (fun _ => ⟨gg, by rw [← hv]; rfl, rfl⟩) rfl⟩
        have hcond : 0 ≤ m ∧ m < (kk : Int) := ⟨h0, by omega⟩
        simp only [Instr.indexAt, asIntOf, Sem.run_bind, Sem.run_pure, Result.andThen_ok, run_underlying hu, hcond.1, hcond.2, and_self, if_true, run_sizeOf hn, Addr.add_mid, Nat.zero_add]

theorem go_sidx (R : Rel E N g σ a w) {t : TypeId} (ht : P.underlying t = some .string) {x i : Operand} {vx vi : VX} (hx : cX x = some vx) (hi : cX i = some vi) {s : SV} (he : evalV σ (.sidx vx vi) = some s) :
    ∃ v, (Instr.index t (a.eval x) (a.eval i)).run P w = .ok v w ∧ SVRel w g σ.obj s v := by
  have hrx := val_rel R hx
  have hri := val_rel R hi
  simp only [evalV] at he
  split at he <;> try (cases he; done)
  rename_i st k m hbx hbi
  rw [hbx] at hrx
  rw [hbi] at hri
  split at he <;> try (cases he; done)
  rename_i h0
  simp only [Option.map_eq_some_iff] at he
  obtain ⟨c, hc, rfl⟩ := he
  rw [hrx.str, hri.int]
  refine ⟨_, ?_, .pv _ _ (.int _ _)⟩
  simp [Instr.index, asIntOf, run_underlying ht, h0, hc]

theorem go_slen (R : Rel E N g σ a w) {t ty : TypeId} (ht : P.underlying t = some .string) {x : Operand} {vx : VX} (hx : cX x = some vx) {s : SV} (he : evalV σ (.slen vx) = some s) :
    ∃ v, (Builtin.len_ #[t] ty #[a.eval x]).run P w = .ok v w ∧ SVRel w g σ.obj s v := by
  have hr := val_rel R hx
  simp only [evalV] at he
  split at he <;> try (cases he; done)
  rename_i st hb
  rw [hb] at hr
  simp only [Option.some.injEq] at he
  subst he
  rw [hr.str]
  exact ⟨_, by simp [Builtin.len_, run_underlying ht]; rfl, .pv _ _ (.int _ _)⟩

theorem go_len (R : Rel E N g σ a w) {t ty e : TypeId} (ht : P.underlying t = some (.slice e)) {x : Operand} {vx : VX} (hx : cX x = some vx) {s : SV} (he : evalV σ (.len vx) = some s) :
    ∃ v, (Builtin.len_ #[t] ty #[a.eval x]).run P w = .ok v w ∧ SVRel w g σ.obj s v := by
  have hr := val_rel R hx
  have hrun : ∀ base n c, (Builtin.len_ #[t] ty #[.slice base n c]).run P w = .ok (.int .i64 n) w := by
    intro base n c
    simp [Builtin.len_, run_underlying ht, goInt]
  simp only [evalV] at he
  generalize a.eval x = v at hr ⊢
  split at he <;> try (cases he; done)
  · rename_i sz xs hb
    rw [hb] at hr
    simp only [Option.some.injEq] at he
    subst he
    obtain ⟨base, cap, rfl⟩ : ∃ base cap, v = .slice base xs.length cap := by cases hr.pv_inv; exact ⟨_, _, rfl⟩
    exact ⟨_, hrun _ _ _, .pv _ _ (.int _ _)⟩
  · rename_i hb
    rw [hb] at hr
    simp only [Option.some.injEq] at he
    subst he
    rw [hr.nilS]
    exact ⟨_, hrun _ _ _, .pv _ _ (.int _ _)⟩
  · rename_i hb
    rw [hb] at hr
    simp only [Option.some.injEq] at he
    subst he
    obtain ⟨a0, cap, rfl⟩ : ∃ a0 cap, v = .slice (some a0) 0 cap := by cases hr.pv_inv; exact ⟨_, _, rfl⟩
    exact ⟨_, hrun _ _ _, .pv _ _ (.int _ _)⟩
  · rename_i n tag hb
    rw [hb] at hr
    split at he <;> try (cases he; done)
    rename_i t' sz cs ho
    split at he <;> try (cases he; done)
    rename_i htag
    simp only [Option.some.injEq] at he
    subst he
    cases hr with
    | arr n tag t'' sz'' cs'' v ho' hg hb' h1 =>
      rw [ho] at ho'
      simp only [Option.some.injEq, OV.arr.injEq] at ho'
      obtain ⟨rfl, rfl, rfl⟩ := ho'
      have hv := hb' htag
      obtain ⟨hpos, kk, xs, hx1, hx2⟩ := R.objs n _ ho
      rw [← hv] at hx1
      have hlen : cs.length = kk * sz := by rw [hx2.1, hx1.1]
      have hdiv : cs.length / sz = kk := by rw [hlen]; exact Nat.mul_div_cancel _ hpos
      rw [hdiv]
      rcases hx1.2 with ⟨rfl, rfl⟩ | ⟨gg, cap, cur, rfl, _⟩
      · exact ⟨_, hrun _ _ _, .pv _ _ (.int _ _)⟩
      · exact ⟨_, hrun _ _ _, .pv _ _ (.int _ _)⟩

theorem go_extract (R : Rel E N g σ a w) {x : Operand} {i : Nat} {vx : VX} (hx : cX x = some vx) {s : SV} (he : evalV σ (.extract vx i) = some s) :
    ∃ v, (Instr.extract (a.eval x) i).run P w = .ok v w ∧ SVRel w g σ.obj s v := by
  have hr := val_rel R hx
  simp only [evalV] at he
  split at he <;> try (cases he; done)
  rename_i vs hb
  rw [hb] at hr
  generalize a.eval x = v at hr ⊢
  cases hr with
  | tup cs us hl hr =>
    have hi : i < us.length := by rw [← hl]; exact (List.getElem?_eq_some_iff.1 he).1
    obtain ⟨u, hu⟩ : ∃ u, us[i]? = some u := ⟨us[i], List.getElem?_eq_getElem hi⟩
    exact ⟨u, by simp [Instr.extract, hu], hr i s u he hu⟩

theorem go_minmax (R : Rel E N g σ a w) {mx : Bool} {ts : Array TypeId} {ty : TypeId} {x y : Operand} {vx vy : VX} (hx : cX x = some vx) (hy : cX y = some vy) {s : SV} (he : evalV σ (.minmax mx vx vy) = some s) :
    ∃ v, (if mx then Builtin.max_ ts ty #[a.eval x, a.eval y] else Builtin.min_ ts ty #[a.eval x, a.eval y]).run P w = .ok v w ∧ SVRel w g σ.obj s v := by
  have hrx := val_rel R hx
  have hry := val_rel R hy
  simp only [evalV] at he
  split at he <;> try (cases he; done)
  rename_i k m k' n hbx hby
  rw [hbx] at hrx
  rw [hby] at hry
  simp only [Option.some.injEq] at he
  subst he
  rw [hrx.int, hry.int]
  cases mx
  · exact ⟨_, by simp only [Bool.false_eq_true, if_false, run_min_int2], .pv _ _ (.int _ _)⟩
  · exact ⟨_, by simp only [if_true, run_max_int2], .pv _ _ (.int _ _)⟩
end
end Go.VL
