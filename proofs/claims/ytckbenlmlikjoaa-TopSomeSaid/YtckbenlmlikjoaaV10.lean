/- The value-level logic, part 10: the theorem on value operations. -/
import Derived.Test.YtckbenlmlikjoaaV9
set_option linter.unusedVariables false
set_option linter.unusedSimpArgs false
namespace Go.VL
section
variable {P : Program} {E : Env} {N : Nat} {g : Gh} {σ : St} {a : Act} {w : World}

theorem val_run {m : Sem Value} {v : Value} {w' : World} (h : m.run P w = .ok v w') : (do pure (.value (← m)) : Sem Next).run P w = .ok (.value v) w' := by
  simp only [Sem.run_bind, h, Result.andThen_ok, Sem.run_pure]

theorem toList_one {α : Type} {l : Array α} {x : α} (h : l.toList = [x]) : l = #[x] := by apply Array.ext'; simpa using h
theorem toList_two {α : Type} {l : Array α} {x y : α} (h : l.toList = [x, y]) : l = #[x, y] := by apply Array.ext'; simpa using h

theorem builtin_sound {o : Oper} {c : Call} {vo : VO} (ho : o.op = .call c) (hc : cBuiltin P c = some vo) (R : Rel E N g σ a w) {s : SV} (he : evalV σ vo = some s) :
    ∃ v, (execOp a.eval o).run P w = .ok (.value v) w ∧ SVRel w g σ.obj s v := by
  obtain ⟨callee, args, argTypes⟩ := c
  unfold cBuiltin at hc
  simp only at hc
  split at hc
  · rename_i x t h1 h2
    have e1 := toList_one h1
    have e2 := toList_one h2
    subst e1
    subst e2
    unfold execOp
    simp only [ho]
    have hrun : ∀ m, (do let d ← resolve a.eval { callee := .builtin .len, args := #[x], argTypes := #[t] } o.type; invoke d.target d.args : Sem Next).run P w = m ↔ (do pure (.value (← Builtin.len_ #[t] o.type #[a.eval x])) : Sem Next).run P w = m := by
      intro m
      simp [resolve, invoke, builtin]
    split at hc <;> try (cases hc; done)
    · rename_i e hu
      simp only [Option.map_eq_some_iff] at hc
      obtain ⟨vx, hx, rfl⟩ := hc
      obtain ⟨v, h1, h2⟩ := go_len (ty := o.type) R hu hx he
      exact ⟨v, (hrun _).2 (val_run h1), h2⟩
    · rename_i hu
      simp only [Option.map_eq_some_iff] at hc
      obtain ⟨vx, hx, rfl⟩ := hc
      obtain ⟨v, h1, h2⟩ := go_slen (ty := o.type) R hu hx he
      exact ⟨v, (hrun _).2 (val_run h1), h2⟩
  · rename_i x y h1
    have e1 := toList_two h1
    subst e1
    split at hc <;> try (cases hc; done)
    rename_i vx vy h1 h2
    simp only [Option.some.injEq] at hc
    subst hc
    obtain ⟨v, h3, h4⟩ := go_minmax (P := P) (ts := argTypes) (ty := o.type) R h1 h2 he
    refine ⟨v, ?_, h4⟩
    unfold execOp
    simp only [ho]
    simp only [Bool.false_eq_true, if_false] at h3
    simp [resolve, invoke, builtin, h3]
  · rename_i x y h1
    have e1 := toList_two h1
    subst e1
    split at hc <;> try (cases hc; done)
    rename_i vx vy h1 h2
    simp only [Option.some.injEq] at hc
    subst hc
    obtain ⟨v, h3, h4⟩ := go_minmax (P := P) (ts := argTypes) (ty := o.type) R h1 h2 he
    refine ⟨v, ?_, h4⟩
    unfold execOp
    simp only [ho]
    simp only [if_true] at h3
    simp [resolve, invoke, builtin, h3]
  · cases hc

/-- A value operation of the code that comes to something told: the machine yields a value that is so told, and the world stands. -/
theorem evalV_sound {o : Oper} {vo : VO} (hc : cV1 P o = some vo) (R : Rel E N g σ a w) {s : SV} (he : evalV σ vo = some s) :
    ∃ v, (execOp a.eval o).run P w = .ok (.value v) w ∧ SVRel w g σ.obj s v := by
  have fin : ∀ {m : Sem Value}, (∃ v, m.run P w = .ok v w ∧ SVRel w g σ.obj s v) → ∃ v, (do pure (.value (← m)) : Sem Next).run P w = .ok (.value v) w ∧ SVRel w g σ.obj s v :=
    fun ⟨v, h1, h2⟩ => ⟨v, val_run h1, h2⟩
  unfold cV1 at hc
  split at hc
  · rename_i x ho
    simp only [Option.map_eq_some_iff] at hc
    obtain ⟨vx, hx, rfl⟩ := hc
    exact ⟨a.eval x, by unfold execOp; simp only [ho, Sem.run_pure], go_mv R hx he⟩
  · rename_i x ho
    simp only [Option.map_eq_some_iff] at hc
    obtain ⟨vx, hx, rfl⟩ := hc
    exact ⟨a.eval x, by unfold execOp; simp only [ho, Sem.run_pure], go_mv R hx he⟩
  · rename_i c x y ho
    split at hc <;> try (cases hc; done)
    rename_i vc vx vy h1 h2 h3
    simp only [Option.some.injEq] at hc
    subst hc
    obtain ⟨t, ht, hr⟩ := go_pick R h1 h2 h3 he
    refine ⟨_, ?_, hr⟩
    unfold execOp
    simp only [ho, ht, asBool, Sem.run_bind, Sem.run_pure, Result.andThen_ok]
  · rename_i t x ho
    split at hc <;> try (cases hc; done)
    · rename_i n vx h1 h2 h3
      simp only [Option.some.injEq] at hc
      subst hc
      unfold execOp
      simp only [ho]
      exact fin (go_load_row R h1 h2 h3 he)
    · rename_i vx h1 h2 h3
      simp only [Option.some.injEq] at hc
      subst hc
      unfold execOp
      simp only [ho]
      exact fin (go_load_one R h1 h3 he)
  · rename_i x ho
    simp only [Option.map_eq_some_iff] at hc
    obtain ⟨vx, hx, rfl⟩ := hc
    exact go_nilck R ho hx he
  · rename_i op t x y yt ho
    split at hc <;> try (cases hc; done)
    rename_i vx vy h1 h2
    unfold execOp
    simp only [ho]
    split at hc
    · simp only [Option.some.injEq] at hc
      subst hc
      exact fin (go_bin R h1 h2 he)
    · split at hc
      · rename_i hb
        have ht : P.underlying t = some .bool := by
          unfold isBoolT at hb
          split at hb <;> first | assumption | cases hb
        split at hc <;> try (cases hc; done)
        · simp only [Option.some.injEq] at hc
          subst hc
          exact fin (go_eqb R rfl ht h1 h2 he)
        · simp only [Option.some.injEq] at hc
          subst hc
          exact fin (go_eqb R rfl ht h1 h2 he)
      · split at hc <;> try (cases hc; done)
        rename_i k hk
        split at hc <;> try (cases hc; done)
        rename_i hn
        split at hc <;> try (cases hc; done)
        · simp only [Option.some.injEq] at hc
          subst hc
          exact fin (go_eqn R rfl hk h1 hn he)
        · simp only [Option.some.injEq] at hc
          subst hc
          exact fin (go_eqn R rfl hk h1 hn he)
  · rename_i op t x ho
    simp only [Option.map_eq_some_iff] at hc
    obtain ⟨vx, hx, rfl⟩ := hc
    unfold execOp
    simp only [ho]
    exact fin (go_un R hx he)
  · rename_i src dst x ho
    unfold execOp
    simp only [ho]
    split at hc <;> try (cases hc; done)
    · rename_i d k vx h1 h2 h3
      simp only [Option.some.injEq] at hc
      subst hc
      exact fin (go_conv R h1 h2 h3 he)
    · rename_i vx h1 h2 h3
      simp only [Option.some.injEq] at hc
      subst hc
      exact fin (go_convs R h1 h2 h3 he)
  · rename_i t x ho
    unfold execOp
    simp only [ho]
    split at hc <;> try (cases hc; done)
    rename_i hcon
    simp only [Option.map_eq_some_iff] at hc
    obtain ⟨vx, hx, rfl⟩ := hc
    exact fin (go_mkif R hcon hx he)
  · rename_i f first caps ho
    unfold execOp
    simp only [ho]
    split at hc <;> try (cases hc; done)
    rename_i hfe
    simp only [Option.map_eq_some_iff] at hc
    obtain ⟨vl, hx, rfl⟩ := hc
    exact fin (go_mkfn R hfe hx he)
  · rename_i t x f ho
    unfold execOp
    simp only [ho]
    split at hc <;> try (cases hc; done)
    rename_i fd vx h1 h2
    split at hc <;> try (cases hc; done)
    rename_i m hm
    simp only [Option.some.injEq] at hc
    subst hc
    exact fin (go_faddr R h1 hm h2 he)
  · rename_i t x f ho
    unfold execOp
    simp only [ho]
    split at hc <;> try (cases hc; done)
    rename_i fd vx h1 h2
    split at hc <;> try (cases hc; done)
    · rename_i n hr hn
      simp only [Option.some.injEq] at hc
      subst hc
      exact fin (go_field R h1 hr hn (by simp) h2 he)
    · rename_i hr hn
      simp only [Option.some.injEq] at hc
      subst hc
      exact fin (go_field R h1 hr hn (by simp) h2 he)
  · rename_i t x i ho
    unfold execOp
    simp only [ho]
    split at hc <;> try (cases hc; done)
    rename_i e n vx vi h1 h2 h3
    simp only [Option.some.injEq] at hc
    subst hc
    exact fin (go_iaddr R h1 h2 h3 he)
  · rename_i t x i ho
    unfold execOp
    simp only [ho]
    split at hc <;> try (cases hc; done)
    rename_i hs
    have ht : P.underlying t = some .string := by
      unfold isStrT at hs
      split at hs <;> first | assumption | cases hs
    split at hc <;> try (cases hc; done)
    rename_i vx vi h2 h3
    simp only [Option.some.injEq] at hc
    subst hc
    exact fin (go_sidx R ht h2 h3 he)
  · rename_i c ho
    exact builtin_sound ho hc R he
  · rename_i x i ho
    unfold execOp
    simp only [ho]
    simp only [Option.map_eq_some_iff] at hc
    obtain ⟨vx, hx, rfl⟩ := hc
    exact fin (go_extract R hx he)
  · rename_i t x lo hi ho
    unfold execOp
    simp only [ho]
    split at hc <;> try (cases hc; done)
    rename_i vx vlo vhi h1 h2 h3
    split at hc
    · rename_i hs
      have ht : P.underlying t = some .string := by
        unfold isStrT at hs
        split at hs <;> first | assumption | cases hs
      simp only [Option.some.injEq] at hc
      subst hc
      exact fin (go_slice_str R ht h1 h2 h3 he)
    · split at hc <;> try (cases hc; done)
      rename_i e n ht
      simp only [Option.some.injEq] at hc
      subst hc
      exact fin (go_slice R ht h1 h2 h3 he)
  · rename_i t parts ho
    unfold execOp
    simp only [ho]
    split at hc <;> try (cases hc; done)
    rename_i zs pl h1 h2
    simp only [Option.map_eq_some_iff] at hc
    obtain ⟨vp, h3, rfl⟩ := hc
    exact fin (go_build R h1 h2 h3 he)
  · cases hc
end
end Go.VL
