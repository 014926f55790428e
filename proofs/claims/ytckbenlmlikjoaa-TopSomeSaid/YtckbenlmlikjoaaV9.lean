/- The value-level logic, part 9: cutting slices and strings; struct literals; the theorem on value operations. -/
import Derived.Test.YtckbenlmlikjoaaV8
set_option linter.unusedVariables false
set_option linter.unusedSimpArgs false
namespace Go.VL
section
variable {P : Program} {E : Env} {N : Nat} {g : Gh} {σ : St} {a : Act} {w : World}

/-- A bound of a cut, as it stands in the code. -/
theorem bnd_eval (R : Rel E N g σ a w) {o : Option Operand} {v : Option VX} (h : cB o = some v) {d k : Nat} (hb : bnd σ d v = some k) :
    (o.map a.eval = none ∧ k = d) ∨ ∃ kd n, o.map a.eval = some (.int kd n) ∧ 0 ≤ n ∧ k = n.toNat := by
  cases o with
  | none =>
    simp only [cB, Option.some.injEq] at h
    subst h
    simp only [bnd, Option.some.injEq] at hb
    exact .inl ⟨rfl, hb.symm⟩
  | some x =>
    simp only [cB, Option.map_eq_some_iff] at h
    obtain ⟨vx, hx, rfl⟩ := h
    have hr := val_rel R hx
    simp only [bnd] at hb
    split at hb <;> try (cases hb; done)
    rename_i kd n hv
    split at hb <;> try (cases hb; done)
    rename_i h0
    simp only [Option.some.injEq] at hb
    rw [hv] at hr
    exact .inr ⟨kd, n, by simp [hr.int], h0, hb.symm⟩

theorem list_cut {Ps : Nat → Prop} {sz : Nat} {xs : List PV} {base : Option Addr} {cap : Nat} (hpos : 0 < sz) (h : PVRel w Ps (.list sz xs) (.slice base xs.length cap)) {l r m : Nat} (hl : l ≤ r) (hr : r ≤ xs.length) (hm : r ≤ m) (hmc : m ≤ cap) :
    PVRel w Ps (.list sz ((xs.take r).drop l)) (.slice (if m = l then base else base.map (·.add (l * sz))) (r - l) (m - l)) := by
  generalize hlen : xs.length = n at h
  cases h with
  | list _ _ _ _ b off u hs hb hm' hcap hw hrr hnc =>
    have hlen' : ((xs.take r).drop l).length = r - l := by simp; omega
    have key : PVRel w Ps (.list sz ((xs.take r).drop l)) (.slice (if m = l then base else base.map (·.add (l * sz))) ((xs.take r).drop l).length (m - l)) := by
      refine .list sz _ _ _ b (off + l * sz) (fun k => u (l * sz + k)) (fun x hx => hs x (List.mem_of_mem_take (List.mem_of_mem_drop hx))) (fun hne => ?_) (by omega) (by omega) (fun k hk => ?_) (fun k c hc => ?_) (fun hn => ?_)
      · have hlr : l < r := by
          rcases Nat.lt_or_ge l r with h | h
          · exact h
          · exact absurd (List.eq_nil_of_length_eq_zero (by omega)) hne
        have hxn : xs ≠ [] := by rintro rfl; simp at hr; omega
        obtain ⟨rfl, hp⟩ := hb hxn
        rw [if_neg (by omega)]
        exact ⟨by simp [Addr.add_mid], hp⟩
      · have hs' : ∀ x ∈ (xs.take r).drop l, x.cells.length = sz := fun x hx => hs x (List.mem_of_mem_take (List.mem_of_mem_drop hx))
        rw [flat_length _ hs', hlen'] at hk
        have hlt : l * sz + k < (flat xs).length := by
          rw [flat_length xs hs]
          have h1 : r * sz ≤ xs.length * sz := Nat.mul_le_mul_right _ hr
          have h2 : (r - l) * sz = r * sz - l * sz := Nat.sub_mul _ _ _
          omega
        have := hw _ hlt
        rwa [← Nat.add_assoc] at this
      · refine hrr _ c ?_
        have hs' : ∀ x ∈ (xs.take r).drop l, x.cells.length = sz := fun x hx => hs x (List.mem_of_mem_take (List.mem_of_mem_drop hx))
        have hk : k < (r - l) * sz := by
          have := (List.getElem?_eq_some_iff.1 hc).1
          rwa [flat_length _ hs', hlen'] at this
        have hq : k / sz < r - l := (Nat.div_lt_iff_lt_mul hpos).2 hk
        have hmod : k % sz < sz := Nat.mod_lt _ hpos
        have hkk : k = k / sz * sz + k % sz := by rw [Nat.mul_comm]; exact (Nat.div_add_mod k sz).symm
        obtain ⟨e, he⟩ : ∃ e, ((xs.take r).drop l)[k / sz]? = some e := ⟨_, List.getElem?_eq_getElem (by omega)⟩
        have h1 := flat_at _ hs' _ e he (k % sz) hmod
        have he' : xs[l + k / sz]? = some e := by
          rw [List.getElem?_drop, List.getElem?_take] at he
          split at he
          · exact he
          · cases he
        have h2 := flat_at xs hs _ e he' (k % sz) hmod
        rw [← hkk, hc] at h1
        rw [show l * sz + k = (l + k / sz) * sz + k % sz by rw [Nat.add_mul]; omega, h2]
        exact h1.symm
      · have : base = none := by
          split at hn
          · exact hn
          · simpa using hn
        have := hnc this
        omega
    rw [hlen'] at key
    exact key

theorem run_slice_bounds (w : World) (base : Option Addr) (len cap : Nat) {t e : TypeId} {n : Nat} (hu : P.underlying t = some (.slice e)) (hn : sizeB P e = some n) (lo hi : Option Value) (l r : Nat)
    (hlo : (lo = none ∧ l = 0) ∨ ∃ k z, lo = some (.int k z) ∧ 0 ≤ z ∧ l = z.toNat) (hhi : (hi = none ∧ r = len) ∨ ∃ k z, hi = some (.int k z) ∧ 0 ≤ z ∧ r = z.toNat) (hlr : l ≤ r) (hr : r ≤ len) (hc : len ≤ cap) :
    (Instr.slice t (.slice base len cap) lo hi none).run P w = .ok (.slice (if cap = l then base else base.map (·.add (l * n))) (r - l) (cap - l)) w := by
  have hu' : P.underlying t = some (.slice (P.elem t)) := by unfold Program.elem; rw [hu]
  rw [run_slice_any w t base len cap hu']
  have he : P.elem t = e := by unfold Program.elem; rw [hu]
  have hb : (Instr.sliceBounds true len cap lo hi none).run P w = .ok (l, r, cap) w := by
    rcases hlo with ⟨rfl, rfl⟩ | ⟨k, z, rfl, hz, rfl⟩ <;> rcases hhi with ⟨rfl, rfl⟩ | ⟨k', z', rfl, hz', rfl⟩
    · simp [Instr.sliceBounds]
    · simp [Instr.sliceBounds, run_sliceBound w k' z' cap _ hz' (by omega)]
    · simp [Instr.sliceBounds, run_sliceBound w k z r _ hz (by omega)]
    · simp [Instr.sliceBounds, run_sliceBound w k' z' cap _ hz' (by omega), run_sliceBound w k z z'.toNat _ hz (by omega)]
  rw [hb, he]
  simp only [Result.andThen_ok, run_sizeOf hn, sliced]

theorem run_slice_str (w : World) (s : ByteArray) {t : TypeId} (hu : P.underlying t = some .string) (lo hi : Option Value) (l r : Nat)
    (hlo : (lo = none ∧ l = 0) ∨ ∃ k z, lo = some (.int k z) ∧ 0 ≤ z ∧ l = z.toNat) (hhi : (hi = none ∧ r = s.size) ∨ ∃ k z, hi = some (.int k z) ∧ 0 ≤ z ∧ r = z.toNat) (hlr : l ≤ r) (hr : r ≤ s.size) :
    (Instr.slice t (.string s) lo hi none).run P w = .ok (.string (s.extract l r)) w := by
  have hb : (Instr.sliceBounds false s.size s.size lo hi none).run P w = .ok (l, r, s.size) w := by
    rcases hlo with ⟨rfl, rfl⟩ | ⟨k, z, rfl, hz, rfl⟩ <;> rcases hhi with ⟨rfl, rfl⟩ | ⟨k', z', rfl, hz', rfl⟩
    · simp [Instr.sliceBounds]
    · simp [Instr.sliceBounds, run_sliceBound w k' z' s.size _ hz' (by omega)]
    · simp [Instr.sliceBounds, run_sliceBound w k z s.size _ hz (by omega)]
    · simp [Instr.sliceBounds, run_sliceBound w k' z' s.size _ hz' (by omega), run_sliceBound w k z z'.toNat _ hz (by omega)]
  simp [Instr.slice, run_underlying hu, hb]

theorem go_slice (R : Rel E N g σ a w) {t e : TypeId} {n : Nat} (ht : elemB P t = some (e, n + 1)) {x : Operand} {lo hi : Option Operand} {vx : VX} {vlo vhi : Option VX} (hx : cX x = some vx) (hlo : cB lo = some vlo) (hhi : cB hi = some vhi)
    {s : SV} (he : evalV σ (.slice (n + 1) vx vlo vhi) = some s) : ∃ v, (Instr.sliceAt t (a.eval x) (lo.map a.eval) (hi.map a.eval) none).run P w = .ok v w ∧ SVRel w g σ.obj s v := by
  obtain ⟨hu, hn⟩ := elemB_eq ht
  have hu' : P.underlying t = some (.slice (P.elem t)) := by unfold Program.elem; rw [hu]
  rw [run_sliceAt_slice w t _ _ _ _ hu']
  have hr := val_rel R hx
  simp only [evalV] at he
  split at he <;> try (cases he; done)
  · rename_i sz xs hb
    rw [hb] at hr
    split at he <;> try (cases he; done)
    rename_i l r hl hrr
    split at he <;> try (cases he; done)
    rename_i hc
    obtain ⟨rfl, hlr, hrl⟩ := hc
    simp only [Option.some.injEq] at he
    subst he
    generalize a.eval x = v at hr ⊢
    have hp := hr.pv_inv
    obtain ⟨base, cap, rfl, hcap⟩ : ∃ base cap, v = .slice base xs.length cap ∧ xs.length ≤ cap := by cases hp; exact ⟨_, _, rfl, by assumption⟩
    exact ⟨_, run_slice_bounds w base xs.length cap hu hn _ _ l r (bnd_eval R hlo hl) (bnd_eval R hhi hrr) hlr hrl hcap, .pv _ _ (list_cut (Nat.succ_pos n) hp hlr hrl (by omega) (Nat.le_refl _))⟩

theorem go_slice_str (R : Rel E N g σ a w) {t : TypeId} (ht : P.underlying t = some .string) {x : Operand} {lo hi : Option Operand} {vx : VX} {vlo vhi : Option VX} (hx : cX x = some vx) (hlo : cB lo = some vlo) (hhi : cB hi = some vhi)
    {s : SV} (he : evalV σ (.sslice vx vlo vhi) = some s) : ∃ v, (Instr.sliceAt t (a.eval x) (lo.map a.eval) (hi.map a.eval) none).run P w = .ok v w ∧ SVRel w g σ.obj s v := by
  rw [run_sliceAt_string w t _ _ _ _ ht]
  have hr := val_rel R hx
  simp only [evalV] at he
  split at he <;> try (cases he; done)
  · rename_i st hb
    rw [hb] at hr
    split at he <;> try (cases he; done)
    rename_i l r hl hrr
    split at he <;> try (cases he; done)
    rename_i hc
    obtain ⟨hlr, hrl⟩ := hc
    simp only [Option.some.injEq] at he
    subst he
    rw [hr.str]
    exact ⟨_, run_slice_str w st ht _ _ l r (bnd_eval R hlo hl) (bnd_eval R hhi hrr) hlr hrl, .pv _ _ (.str _)⟩

/-! ### Literals -/
theorem fill_set (off : Nat) (l : List Value) (cs : Array Value) (h : off + l.length ≤ cs.size) :
    (l.zipIdx.foldl (fun cs (x : Value × Nat) => cs.setIfInBounds (off + x.2) x.1) cs).toList = cs.toList.take off ++ l ++ cs.toList.drop (off + l.length) := by
  obtain ⟨h1, h2⟩ := Great.foldl_set off l 0 cs
  apply List.ext_getElem?
  intro k
  rw [Array.getElem?_toList]
  have := h2 k
  rw [show (l.zipIdx.foldl (fun cs (x : Value × Nat) => cs.setIfInBounds (off + x.2) x.1) cs) = ((l.zipIdx 0).foldl (fun cs (x : Value × Nat) => cs.setIfInBounds (off + x.2) x.1) cs) from rfl, this]
  simp only [Nat.add_zero]
  have hlen : (cs.toList.take off).length = off := by simp; omega
  by_cases hk1 : k < off
  · rw [if_neg (by omega), List.append_assoc, List.getElem?_append_left (by omega), List.getElem?_take, if_pos hk1, Array.getElem?_toList]
  · by_cases hk2 : k < off + l.length
    · rw [if_pos ⟨by omega, hk2, by omega⟩, List.append_assoc, List.getElem?_append_right (by omega), hlen, List.getElem?_append_left (by omega)]
    · rw [if_neg (by omega), List.getElem?_append_right (by simp; omega), List.getElem?_drop, Array.getElem?_toList]
      congr 1
      simp
      omega

theorem fill_rel (R : Rel E N g σ a w) (pl : Nat → Option (Nat × Nat)) : ∀ (parts : List (Nat × Operand)) (vp : List (Nat × Nat × VX)), partsB pl parts = some vp → ∀ (cs out : List SV) (us : List Value), Cells w g σ.obj cs us →
    fillS σ vp cs = some out → ∃ vs, Instr.fill pl us.toArray (parts.map fun p => (p.1, a.eval p.2)) = some (List.toArray vs) ∧ Cells w g σ.obj out vs
  | [], vp, hp, cs, out, us, hC, hf => by
    simp only [partsB, Option.some.injEq] at hp
    subst hp
    simp only [fillS, Option.some.injEq] at hf
    subst hf
    exact ⟨us, rfl, hC⟩
  | (f, x) :: r, vp, hp, cs, out, us, hC, hf => by
    simp only [partsB] at hp
    split at hp <;> try (cases hp; done)
    rename_i off n vx l h1 h2 h3
    simp only [Option.some.injEq] at hp
    subst hp
    simp only [fillS] at hf
    split at hf <;> try (cases hf; done)
    rename_i new hnew
    split at hf <;> try (cases hf; done)
    rename_i hc
    obtain ⟨hn, hle⟩ := hc
    have hCn := (val_rel R h2).cellsL hnew
    have hsz : (a.eval x).cells.size = n := by have := hCn.1; simp at this; omega
    have hus : us.length = cs.length := hC.1.symm
    have hfs := fill_set off (a.eval x).cells.toList us.toArray (by simp [hsz]; omega)
    obtain ⟨vs, hv, hCv⟩ := fill_rel R pl r l h3 (splice off new cs) out _ (((hC.take off).append hCn).append (hC.drop (off + new.length))) hf
    refine ⟨vs, ?_, hCv⟩
    simp only [List.map_cons, Instr.fill, h1]
    rw [if_neg (by rw [hsz]; simp; omega)]
    rw [← hv]
    congr 1
    apply Array.ext'
    rw [hn]
    have e2 : (a.eval x).cells.toList.length = n := by simpa using hsz
    rw [e2] at hfs
    rw [← Array.foldl_toList, Array.toList_zipIdx, hfs]

theorem zeroB_rel {t : TypeId} {zs : List PV} (h : zeroB P t = some zs) : ∃ i z, P.info? t = some i ∧ i.zero = some z ∧ Cells w g σ.obj (zs.map .pv) z.cells.toList := by
  unfold zeroB at h
  split at h <;> try (cases h; done)
  rename_i i hi
  split at h <;> try (cases h; done)
  rename_i z hz
  refine ⟨i, z, hi, hz, ?_⟩
  generalize z.cells.toList = l at h
  induction l generalizing zs with
  | nil => simp at h; subst h; exact ⟨rfl, by simp, by simp⟩
  | cons v r ih =>
    simp only [List.mapM_cons, Option.bind_eq_bind, Option.bind_eq_some_iff, Option.pure_def, Option.some.injEq] at h
    obtain ⟨x, hx, xr, hr, rfl⟩ := h
    have h1 := ih hr
    refine ⟨by simp [h1.1], fun u hu => ?_, fun k c u hc hu => ?_⟩
    · rcases List.mem_cons.1 hu with rfl | hu
      · unfold cV at hx; split at hx <;> first | rfl | cases hx
      · exact h1.2.1 u hu
    · cases k with
      | zero =>
        simp only [List.map_cons, List.getElem?_cons_zero, Option.some.injEq] at hc hu
        subst hc; subst hu
        exact .pv _ _ (cV_rel w g.Ps hx)
      | succ k =>
        simp only [List.map_cons, List.getElem?_cons_succ] at hc hu
        exact h1.2.2 k c u hc hu

theorem go_build (R : Rel E N g σ a w) {t : TypeId} {parts : Array (Nat × Operand)} {zs : List PV} {pl : Nat → Option (Nat × Nat)} {vp : List (Nat × Nat × VX)} (hz : zeroB P t = some zs) (hp : placesB P t = some pl) (hv : partsB pl parts.toList = some vp)
    {s : SV} (he : evalV σ (.build zs vp) = some s) : ∃ v, (Instr.build t (parts.map fun (i, x) => (i, a.eval x))).run P w = .ok v w ∧ SVRel w g σ.obj s v := by
  simp only [evalV, Option.map_eq_some_iff] at he
  obtain ⟨out, hf, rfl⟩ := he
  obtain ⟨i, z, hi, hiz, hC⟩ := zeroB_rel (P := P) (w := w) (g := g) (σ := σ) hz
  obtain ⟨vs, hfill, hCv⟩ := fill_rel R pl parts.toList vp hv _ _ _ hC hf
  refine ⟨.agg vs.toArray, run_build w t _ _ ?_, hCv.mkAgg⟩
  have hparts : (parts.map fun (i, x) => (i, a.eval x)).toList = parts.toList.map fun p => (p.1, a.eval p.2) := by simp
  rw [hparts]
  unfold Program.built
  unfold placesB at hp
  split at hp <;> try (cases hp; done)
  · rename_i n e hu
    simp only [Option.map_eq_some_iff] at hp
    obtain ⟨ie, hie, rfl⟩ := hp
    simp only [hi, hu, hiz, hie]
    simpa using hfill
  · rename_i fs hu
    simp only [Option.map_eq_some_iff] at hp
    obtain ⟨l, hl, rfl⟩ := hp
    simp only [hi, hu, hiz, hl]
    simpa using hfill
end
end Go.VL
