/- strings.Builder at this program: contracts on told values. -/
import Derived.Test.YtckbenlmlikjoaaBld
import Derived.Deep.Heap
set_option linter.unusedVariables false
set_option linter.unusedSimpArgs false
namespace Go.VL

/-- What is handed in, as a frame of its own. -/
theorem HRel.frame {w : World} {g : Gh} {h : List (Nm × OV)} (HR : HRel (mkE w (Owned g (fun n => lkO n h)) g.Ps) g (fun n => lkO n h) w) :
    Rel ⟨w, Owned g (fun n => lkO n h), g.Ps, fun n => (lkO n h).map fun o => (o, g.β n)⟩ 0 g ⟨[], h⟩ ⟨#[], []⟩ w := by
  refine HRel.rel (σ := ⟨[], h⟩) ⟨HR.objs, HR.inj, HR.disj, HR.own, HR.keeps, HR.ps0, HR.ps1, HR.psb⟩ rfl rfl (fun d => .junk _) (fun n _ o ho => ?_)
  have ho' : lkO n h = some o := ho
  simp only [ho', Option.map_some]
  cases o with
  | box t cs => exact ⟨rfl, cs, rfl⟩
  | arr t sz cs => exact ⟨cs, rfl, Nat.le_refl _, fun _ => rfl⟩
theorem Rel.toH {w w' : World} {g g' : Gh} {h : List (Nm × OV)} {σ : St} {N : Nat} {a : Act} {pin : Nm → Option (OV × Value)} (R : Rel ⟨w, Owned g (fun n => lkO n h), g.Ps, pin⟩ N g' σ a w') :
    HRel (mkE w (Owned g (fun n => lkO n h)) g.Ps) g' σ.obj w' := ⟨R.objs, R.inj, R.disj, R.own, R.keeps, R.ps0, R.ps1, R.psb⟩

/-- A pointer handed in to a thing handed in. -/
theorem box_in {w : World} {g : Gh} {h : List (Nm × OV)} (HR : HRel (mkE w (Owned g (fun n => lkO n h)) g.Ps) g (fun n => lkO n h) w) {n : Nm} {t : TypeId} {cs : List SV} (hn : lkO n h = some (.box t cs)) {v : Value} (hv : SVRel w g (fun n => lkO n h) (.ref n 0) v) :
    ∃ b cur, v = .pointer (some ⟨b, 0, none⟩) ∧ g.β n = .pointer (some ⟨b, 0, none⟩) ∧ w.heap[b]? = some (.cells cur t (0, 0)) ∧ Cells w g (fun n => lkO n h) cs cur.toList := by
  cases hv with
  | ref n off b t' cs' ho hb =>
    obtain ⟨b', cur, h1, h2, h3⟩ := HR.objs n _ hn
    have : b' = b := by rw [h1] at hb; simpa using hb
    subst this
    exact ⟨b', cur, rfl, h1, h2, h3⟩

theorem copy_spec {P : Program} {f : FuncId} {T : TypeId} (used : ∀ (b : Nat) (w : World), w.cell? ⟨b, 0, none⟩ = some (.pointer (some ⟨b, 0, none⟩)) → Calls P f #[.pointer (some ⟨b, 0, none⟩)] w fun e w' => e = .returned (.tuple #[]) ∧ w' = w)
    (fresh : ∀ (b : Nat) (w : World), w.cell? ⟨b, 0, none⟩ = some (.pointer none) → w.shape? b = some (T, 2) → w.frozen? ⟨b, 0, none⟩ = false → Calls P f #[.pointer (some ⟨b, 0, none⟩)] w fun e w' => e = .returned (.tuple #[]) ∧ w' = w.setCell ⟨b, 0, none⟩ (.pointer (some ⟨b, 0, none⟩)))
    (c0 c1 : SV) (rest : List (Nm × OV)) (hc : c0 = .pv .nilPtr ∨ c0 = .ref [0, 0] 0) :
    FnSpec P f [.ref [0, 0] 0] (([0, 0], .box T [c0, c1]) :: rest) fun s h' => s = .tup [] ∧ h' = ([0, 0], .box T [.ref [0, 0] 0, c1]) :: rest := by
  intro w g vs HR hl hargs
  obtain ⟨v, rfl⟩ : ∃ v, vs = [v] := List.length_eq_one_iff.1 hl.symm
  have hn : lkO [0, 0] (([0, 0], .box T [c0, c1]) :: rest) = some (.box T [c0, c1]) := by simp [lkO]
  obtain ⟨b, cur, rfl, hβ, hb, hC⟩ := box_in HR hn (hargs 0 _ v rfl rfl)
  obtain ⟨u0, u1, hcur⟩ : ∃ u0 u1, cur = #[u0, u1] := by
    have hl := hC.1
    obtain ⟨l⟩ := cur
    match l, hl with
    | [u0, u1], _ => exact ⟨u0, u1, rfl⟩
  subst hcur
  have hu0 := hC.2.2 0 c0 u0 rfl rfl
  have cell0 : w.cell? ⟨b, 0, none⟩ = some u0 := by simp [World.cell?, hb]
  rcases hc with rfl | rfl
  · have : u0 = .pointer none := hu0.nilPtr
    subst this
    refine (fresh b w cell0 (by simp [World.shape?, hb]) (by simp [World.frozen?, hb])).mono ?_
    rintro e w' ⟨rfl, rfl⟩
    have R := (HR.frame).write (n := [0, 0]) (o := .box T [.pv .nilPtr, c1]) (o' := .box T [.ref [0, 0] 0, c1]) hn (w' := w.setCell ⟨b, 0, none⟩ (.pointer (some ⟨b, 0, none⟩))) rfl rfl rfl (Go.Deep.nblk_setCell _ _ _)
      (fun k hk => Go.Deep.blk_setCell_other _ _ _ _ (fun e => hk (by rw [hβ, e]; rfl))) (fun t cs h => ⟨_, by cases h; rfl⟩) (fun t sz cs h => by cases h) (fun X => by
        refine ⟨b, #[.pointer (some ⟨b, 0, none⟩), u1], hβ, by simp [World.setCell, Array.getElem?_modify, hb], by simp, fun v hv => ?_, fun k c v hc hv => ?_⟩
        · simp only [List.mem_cons, List.not_mem_nil, or_false] at hv
          rcases hv with rfl | rfl
          · rfl
          · exact hC.2.1 v (by simp)
        · match k, hc, hv with
          | 0, hc, hv => simp at hc hv; subst hc; subst hv; exact .ref [0, 0] 0 b T [.ref [0, 0] 0, c1] (by rw [St.obj_put, if_pos rfl]) hβ
          | 1, hc, hv => simp at hc hv; subst hc; subst hv; exact (hC.2.2 1 c1 u1 rfl rfl).ext X)
    have hh : ((⟨[], ([0, 0], .box T [.pv .nilPtr, c1]) :: rest⟩ : St).put [0, 0] (.box T [.ref [0, 0] 0, c1])).h = ([0, 0], .box T [.ref [0, 0] 0, c1]) :: rest := by simp [St.put, setO]
    refine ⟨.tuple #[], .tup [], _, g, rfl, ⟨rfl, rfl⟩, ?_, .tup [] [] rfl (by simp), fun n t cs ho hn' => ?_, fun n t sz cs ho hn' => ?_⟩
    · have := R.2.toH
      unfold St.obj at this
      rw [hh] at this
      exact this
    · refine ⟨?_, rfl⟩
      simp only [lkO] at ho ⊢
      by_cases hnn : [0, 0] = n
      · rw [if_pos hnn] at ho ⊢; simp only [Option.some.injEq, OV.box.injEq] at ho; obtain ⟨rfl, rfl⟩ := ho; exact ⟨_, rfl⟩
      · rw [if_neg hnn] at ho ⊢; exact ⟨cs, ho⟩
    · simp only [lkO] at ho ⊢
      by_cases hnn : [0, 0] = n
      · rw [if_pos hnn] at ho; cases ho
      · rw [if_neg hnn] at ho; exact ⟨cs, by rw [if_neg hnn]; exact ho, Nat.le_refl _, by simp⟩
  · have : u0 = .pointer (some ⟨b, 0, none⟩) := by
      cases hu0 with
      | ref n off b' t' cs' ho hb' => rw [hβ] at hb'; simp only [Value.pointer.injEq, Option.some.injEq, Addr.mk.injEq] at hb'; rw [hb'.1]
    subst this
    refine (used b w cell0).mono ?_
    rintro e w' ⟨rfl, rfl⟩
    exact ⟨.tuple #[], .tup [], _, g, rfl, ⟨rfl, rfl⟩, HR, .tup [] [] rfl (by simp), fun n t cs ho hn' => ⟨⟨cs, ho⟩, rfl⟩, fun n t sz cs ho hn' => ⟨cs, ho, Nat.le_refl _, fun _ => rfl⟩⟩

theorem heap_freeze (w : World) (a : Addr) (n k : Nat) (h : k ≠ a.block) : (w.freeze a n).heap[k]? = w.heap[k]? := by
  unfold World.freeze
  split
  · rfl
  · simp only [Array.getElem?_modify]
    rw [if_neg (Ne.symm h)]

theorem string_spec {P : Program} {f : FuncId} {T B : TypeId}
    (row : ∀ (b g cap : Nat) (p : Value) (cur : Array Value) (l : List UInt8) (w : World), l ≠ [] → w.heap[b]? = some (.cells #[p, .slice (some ⟨g, 0, none⟩) l.length cap] T (0, 0)) → w.heap[g]? = some (.cells cur B (0, 0)) → cap ≤ maxLen → l.length ≤ cap → cur.size = cap →
      (∀ (j : Nat) x, l[j]? = some x → w.cell? ((⟨g, 0, none⟩ : Addr).add j) = some (.int .u8 x.toNat)) → Calls P f #[.pointer (some ⟨b, 0, none⟩)] w fun e w' => e = .returned (.string ⟨l.toArray⟩) ∧ w' = w.drew.freeze ⟨g, 0, none⟩ l.length)
    (nil : ∀ (b : Nat) (p : Value) (w : World), w.heap[b]? = some (.cells #[p, .slice none 0 0] T (0, 0)) → Calls P f #[.pointer (some ⟨b, 0, none⟩)] w fun e w' => e = .returned (.string ⟨#[]⟩) ∧ w' = w.drew)
    (c0 c1 : SV) (rest : List (Nm × OV)) (s : ByteArray) (hc : (s.size = 0 ∧ c1 = .pv .nilS ∧ rest = []) ∨ (s.size ≠ 0 ∧ c1 = .arr [0, 1] s.size ∧ rest = [([0, 1], .arr B 1 (strS s))])) :
    FnSpec P f [.ref [0, 0] 0] (([0, 0], .box T [c0, c1]) :: rest) fun r h' => r = .pv (.str s) ∧ h' = [] := by
  intro w g vs HR hl hargs
  obtain ⟨v, rfl⟩ : ∃ v, vs = [v] := List.length_eq_one_iff.1 hl.symm
  have hn : lkO [0, 0] (([0, 0], .box T [c0, c1]) :: rest) = some (.box T [c0, c1]) := by simp [lkO]
  obtain ⟨b, cur, rfl, hβ, hb, hC⟩ := box_in HR hn (hargs 0 _ v rfl rfl)
  obtain ⟨u0, u1, hcur⟩ : ∃ u0 u1, cur = #[u0, u1] := by
    have hl := hC.1
    obtain ⟨l⟩ := cur
    match l, hl with
    | [u0, u1], _ => exact ⟨u0, u1, rfl⟩
  subst hcur
  have hu1 := hC.2.2 1 c1 u1 rfl rfl
  have fin : ∀ w' : World, w'.os = w.os → w'.tape = w.tape → w'.output = w.output → w.heap.size ≤ w'.heap.size → (∀ k, k < w.heap.size → ¬ Owned g (fun n => lkO n (([0, 0], .box T [c0, c1]) :: rest)) k → w'.heap[k]? = w.heap[k]?) →
      ∃ v s_1 h' g', Ending.returned (.string s) = Ending.returned v ∧ (s_1 = SV.pv (.str s) ∧ h' = []) ∧ HRel (mkE w (Owned g (fun n => lkO n (([0, 0], .box T [c0, c1]) :: rest))) g.Ps) g' (fun n => lkO n h') w' ∧ SVRel w' g' (fun n => lkO n h') s_1 v ∧
      (∀ n t cs, lkO n (([0, 0], .box T [c0, c1]) :: rest) = some (.box t cs) → lkO n h' ≠ none → (∃ cs', lkO n h' = some (.box t cs')) ∧ g'.β n = g.β n) ∧
      (∀ n t sz cs, lkO n (([0, 0], .box T [c0, c1]) :: rest) = some (.arr t sz cs) → lkO n h' ≠ none → ∃ cs', lkO n h' = some (.arr t sz cs') ∧ cs.length ≤ cs'.length ∧ (cs.length = cs'.length → g'.β n = g.β n)) := by
    intro w' h1 h2 h3 h4 h5
    exact ⟨_, _, [], g, rfl, ⟨rfl, rfl⟩, ⟨fun n o ho => by simp [lkO] at ho, fun n m hn => absurd rfl hn, fun n hn => absurd rfl hn, fun n hn => absurd rfl hn, ⟨h1, h2, h3, h4, h5⟩, HR.ps0, HR.ps1, fun b hb => Nat.lt_of_lt_of_le (HR.psb b hb) h4⟩, .pv _ _ (.str s),
      fun n t cs ho hn' => absurd rfl hn', fun n t sz cs ho hn' => absurd rfl hn'⟩
  rcases hc with ⟨h0, rfl, rfl⟩ | ⟨h0, rfl, rfl⟩
  · have : u1 = .slice none 0 0 := hu1.nilS
    subst this
    refine (nil b u0 w hb).mono ?_
    rintro e w' ⟨rfl, rfl⟩
    have hs : s = ⟨#[]⟩ := by
      obtain ⟨d⟩ := s
      have : d = #[] := Array.eq_empty_of_size_eq_zero h0
      rw [this]
    subst hs
    exact fin w.drew rfl rfl rfl (Nat.le_refl _) (fun _ _ _ => rfl)
  · have hn1 : lkO [0, 1] [([0, 0], .box T [c0, .arr [0, 1] s.size]), ([0, 1], .arr B 1 (strS s))] = some (.arr B 1 (strS s)) := by simp [lkO]
    cases hu1 with
    | arr n tag t sz cs v ho hg hb' h1 =>
      rw [hn1] at ho
      simp only [Option.some.injEq, OV.arr.injEq] at ho
      obtain ⟨rfl, rfl, rfl⟩ := ho
      have hv := hb' (by rw [strS_length])
      obtain ⟨_, k, xs, hx1, hx2⟩ := HR.objs [0, 1] _ hn1
      rw [← hv] at hx1
      have hkl : k = s.size := by
        have := hx2.1
        rw [strS_length] at this
        have := hx1.1
        omega
      subst hkl
      rcases hx1.2 with ⟨rfl, hz⟩ | ⟨gg, cap, cur2, rfl, _, hgg, hnc, hcm, hcs, htake⟩
      · exact absurd hz h0
      · have hl : s.data.toList.length = s.size := by simp
        have hne : s.data.toList ≠ [] := fun h => h0 (by rw [← hl, h]; rfl)
        have hbk : w.heap[b]? = some (.cells #[u0, .slice (some ⟨gg, 0, none⟩) s.data.toList.length cap] T (0, 0)) := by rw [hl]; exact hb
        refine (row b gg cap u0 cur2 s.data.toList w hne hbk hgg hcm (by rw [hl]; exact hnc) (by simpa using hcs) (fun j x hx => ?_)).mono ?_
        · have hxj : ∃ y, xs[j]? = some y := by
            have hj := (List.getElem?_eq_some_iff.1 hx).1
            exact ⟨_, List.getElem?_eq_getElem (by have := hx1.1; omega)⟩
          obtain ⟨y, hy⟩ := hxj
          have h3 := hx2.2.2 j (.pv (.int .u8 x.toNat)) y (by simp [strS, hx]) hy
          rw [h3.int] at hy
          exact hx1.cells (g := gg) rfl j _ hy
        · rintro e w' ⟨rfl, rfl⟩
          have hs : (⟨s.data.toList.toArray⟩ : ByteArray) = s := by obtain ⟨d⟩ := s; simp
          rw [hs]
          have hown : Owned g (fun n => lkO n [([0, 0], OV.box T [c0, .arr [0, 1] s.size]), ([0, 1], .arr B 1 (strS s))]) gg := ⟨[0, 1], by simp only [hn1]; simp, by rw [← hv]; rfl⟩
          refine fin _ ?_ ?_ ?_ ?_ (fun k hk ho => ?_)
          · unfold World.freeze; split <;> rfl
          · unfold World.freeze; split <;> rfl
          · unfold World.freeze; split <;> rfl
          · unfold World.freeze; split <;> simp
          · rw [heap_freeze]
            · rfl
            · rintro rfl; exact ho hown
end Go.VL
