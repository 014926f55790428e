/- The value-level logic, part 13: slice literals and make, by the machine. -/
import Derived.Test.YtckbenlmlikjoaaV12
set_option linter.unusedVariables false
set_option linter.unusedSimpArgs false
namespace Go.VL

/-- The parts of a slice's literal, in order: 0, 1, .. -/
def inOrder : Nat → List (Nat × Operand) → Option (List VX)
  | _, [] => some []
  | i, (k, x) :: r => if k = i then (match cX x, inOrder (i + 1) r with
    | some v, some l => some (v :: l)
    | _, _ => none) else none

section
variable {P : Program} {E : Env} {N : Nat} {g : Gh} {σ : St} {a : Act} {w : World}

/-- A new block that nobody writes any more. -/
theorem Rel.newPs (R : Rel E N g σ a w) (ob : Obj) : Ext w g σ.obj (w.alloc ob) { β := g.β, Ps := fun b => g.Ps b ∨ b = w.heap.size } σ.obj ∧ Rel E N { β := g.β, Ps := fun b => g.Ps b ∨ b = w.heap.size } σ a (w.alloc ob) := by
  have X : Ext w g σ.obj (w.alloc ob) { β := g.β, Ps := fun b => g.Ps b ∨ b = w.heap.size } σ.obj :=
    ⟨fun _ h => .inl h, fun b hb => heap_alloc w ob b (R.psb b hb), fun n t cs h => ⟨cs, h, rfl⟩, fun n t sz cs h => ⟨cs, h, Nat.le_refl _, fun _ => rfl⟩⟩
  refine ⟨X, R.change (h' := σ.h) X (fun n o ho => (R.objs n o ho).ext X rfl (fun b hb => heap_alloc w ob b ((R.objs n o ho).lt b hb))) R.inj (fun n hn b hb h => ?_) R.own
    (R.keeps.step rfl rfl rfl (by rw [size_alloc]; omega) (fun b hb _ => heap_alloc w ob b (by have := R.keeps.size; omega))) (fun b hb hlt => ?_) (fun b hb => ?_)⟩
  · rcases h with h | h
    · exact R.disj n hn b hb h
    · have := R.lt hn b hb; omega
  · rcases hb with hb | hb
    · exact R.ps1 b hb hlt
    · have := R.keeps.size; omega
  · rw [size_alloc]
    rcases hb with hb | hb
    · have := R.psb b hb; omega
    · omega

/-- The cells of all parts. -/
def vals (a : Act) (parts : List (Nat × Operand)) : List Value := parts.flatMap fun p => (a.eval p.2).cells.toList

theorem dense_fill (R : Rel E N g σ a w) (sz : Nat) : ∀ (parts : List (Nat × Operand)) (i : Nat) (vl : List VX), inOrder i parts = some vl → ∀ cs, dense σ sz vl = some cs → ∀ us : List Value, us.length = (i + parts.length) * sz →
    cs.length = parts.length * sz ∧ Cells w g σ.obj cs (vals a parts) ∧ Instr.fill (fun i => some (i * sz, sz)) us.toArray (parts.map fun p => (p.1, a.eval p.2)) = some (us.take (i * sz) ++ vals a parts).toArray
  | [], i, vl, h, cs, hd, us, hl => by
    simp only [inOrder, Option.some.injEq] at h
    subst h
    simp only [dense, Option.some.injEq] at hd
    subst hd
    refine ⟨by simp, ⟨rfl, by simp [vals], by simp⟩, ?_⟩
    simp only [List.map_nil, Instr.fill, vals, List.flatMap_nil, List.append_nil]
    rw [List.take_of_length_le (by simp at hl; omega)]
  | (k, x) :: r, i, vl, h, cs, hd, us, hl => by
    simp only [inOrder] at h
    split at h <;> try (cases h; done)
    rename_i hk
    subst hk
    split at h <;> try (cases h; done)
    rename_i v l h1 h2
    simp only [Option.some.injEq] at h
    subst h
    simp only [dense] at hd
    split at hd <;> try (cases hd; done)
    rename_i c l' h3 h4
    split at hd <;> try (cases hd; done)
    rename_i hcl
    simp only [Option.some.injEq] at hd
    subst hd
    have hCc := (val_rel R h1).cellsL h3
    have hsz : (a.eval x).cells.size = sz := by have := hCc.1; simp at this; omega
    have hlen : us.length = (k + 1 + r.length) * sz := by rw [hl]; congr 1; simp; omega
    have hle : k * sz + sz ≤ us.length := by
      rw [hlen, Nat.add_mul, Nat.add_mul]; omega
    have hfs := fill_set (k * sz) (a.eval x).cells.toList us.toArray (by simp [hsz]; omega)
    have hsl : (a.eval x).cells.toList.length = sz := by simpa using hsz
    rw [hsl] at hfs
    simp only [List.toList_toArray] at hfs
    have hl2 : (us.take (k * sz) ++ (a.eval x).cells.toList ++ us.drop (k * sz + sz)).length = (k + 1 + r.length) * sz := by
      rw [← hlen]; simp [hsz]; omega
    obtain ⟨hcn, hCv, hf⟩ := dense_fill R sz r (k + 1) l h2 l' h4 _ hl2
    have hvals : vals a ((k, x) :: r) = (a.eval x).cells.toList ++ vals a r := by simp [vals]
    rw [hvals]
    refine ⟨by simp only [List.length_append, List.length_cons]; rw [hcn, hcl, Nat.add_mul]; omega, hCc.append hCv, ?_⟩
    simp only [List.map_cons, Instr.fill]
    rw [if_neg (by rw [hsz]; simp; omega)]
    have e : (a.eval x).cells.zipIdx.foldl (fun cs (x : Value × Nat) => cs.setIfInBounds (k * sz + x.2) x.1) us.toArray = (us.take (k * sz) ++ (a.eval x).cells.toList ++ us.drop (k * sz + sz)).toArray := by
      apply Array.ext'
      rw [← Array.foldl_toList, Array.toList_zipIdx, hfs]
    rw [show (a.eval x).cells.zipIdx.foldl (fun cs (x : Value × Nat) => match x with | (c, j) => cs.setIfInBounds (k * sz + j) c) us.toArray = (a.eval x).cells.zipIdx.foldl (fun cs (x : Value × Nat) => cs.setIfInBounds (k * sz + x.2) x.1) us.toArray from rfl, e, hf]
    congr 2
    have e1 : (us.take (k * sz) ++ (a.eval x).cells.toList).length = (k + 1) * sz := by simp [hsz, Nat.add_mul]; omega
    rw [List.take_append_of_le_length (by omega), List.take_of_length_le (by omega), List.append_assoc]

theorem run_bslice {t e : TypeId} {n : Nat} (ht : P.underlying t = some (.slice e)) {i : TypeInfo} (hi : P.info? e = some i) (hn : i.size = n) {z : Value} (hz : i.zero = some z) (hpos : 0 < n) (len : Nat) (parts : Array (Nat × Value)) (cells : Array Value)
    (hsmall : len * n ≤ 2 ^ 24) (hf : ∀ us : List Value, us.length = len * n → Instr.fill (fun i => some (i * n, n)) us.toArray parts.toList = some cells) :
    (Instr.buildSlice t len parts).run P w = .ok (.slice (some ⟨w.heap.size, 0, none⟩) len len) (w.alloc (.cells cells e)) := by
  subst hn
  by_cases h0 : len * i.size = 0
  · have hf0 := hf [] (by simp [h0])
    have hcells : Instr.fill (fun k => some (k * i.size, i.size)) #[] parts.toList = some cells := hf0
    simp [Instr.buildSlice, run_underlying ht, sizeOf, typeInfo, hi, h0, newRow, Array.range_zero', hcells]
  · refine run_buildSlice w t e len parts cells i z ht hi hz (by omega) h0 ?_
    have := hf ((List.range (len * i.size)).map (z.cells[· % z.cells.size]!)) (by simp)
    rw [← this]
    congr 1
    apply Array.ext'
    simp

theorem elems_dense {sz : Nat} : ∀ {vl : List VX} {xs : List PV}, elems σ sz vl = some xs → dense σ sz vl = some ((flat xs).map .pv) ∧ (∀ x ∈ xs, x.cells.length = sz) ∧ xs.length = vl.length
  | [], xs, h => by
    simp only [elems, Option.some.injEq] at h
    subst h
    exact ⟨rfl, by simp, rfl⟩
  | v :: r, xs, h => by
    simp only [elems] at h
    split at h <;> try (cases h; done)
    rename_i p l h1 h2
    split at h <;> try (cases h; done)
    rename_i hp
    simp only [Option.some.injEq] at h
    subst h
    obtain ⟨h3, h4, h5⟩ := elems_dense h2
    refine ⟨?_, fun x hx => ?_, by simp [h5]⟩
    · simp only [dense, h1, SV.cellsL, h3, List.length_map, hp, if_true]
      simp [flat]
    · rcases List.mem_cons.1 hx with rfl | hx
      · exact hp
      · exact h4 x hx

theorem go_bslice (R : Rel E N g σ a w) {t e : TypeId} {n : Nat} (ht : P.underlying t = some (.slice e)) {i : TypeInfo} (hi : P.info? e = some i) (hn : i.size = n) {z : Value} (hz : i.zero = some z) (hpos : 0 < n) {len : Nat} {parts : Array (Nat × Operand)} (hlen : parts.size = len)
    (hsmall : len * n ≤ 2 ^ 24) {vl : List VX} (hv : inOrder 0 parts.toList = some vl) {own : Bool} {d : Nat} (hd : d < N) {σ' : St} (he : bsliceS σ d e n own vl = some σ') :
    ∃ v w' g', (Instr.buildSlice t len (parts.map fun (i, x) => (i, a.eval x))).run P w = .ok v w' ∧ Rel E N g' σ' (a.put (some d) v) w' := by
  have hparts : (parts.map fun (i, x) => (i, a.eval x)).toList = parts.toList.map fun p => (p.1, a.eval p.2) := by simp
  have hpl : parts.toList.length = len := by simpa using hlen
  have key : ∀ cs, dense σ n vl = some cs → ∃ vs : List Value, Cells w g σ.obj cs vs ∧ cs.length = len * n ∧ (Instr.buildSlice t len (parts.map fun (i, x) => (i, a.eval x))).run P w = .ok (.slice (some ⟨w.heap.size, 0, none⟩) len len) (w.alloc (.cells vs.toArray e)) := by
    intro cs hcs
    have h0 : ((List.range (len * n)).map fun _ => Value.bool true).length = (0 + parts.toList.length) * n := by simp [hpl]
    obtain ⟨h1, h2, h3⟩ := dense_fill R n parts.toList 0 vl hv cs hcs _ h0
    refine ⟨vals a parts.toList, h2, by rw [h1, hpl], run_bslice ht hi hn hz hpos len _ _ hsmall (fun us hus => ?_)⟩
    obtain ⟨_, h2', h3'⟩ := dense_fill R n parts.toList 0 vl hv cs hcs us (by rw [hus]; simp [hpl])
    rw [hparts, h3']
    simp
  unfold bsliceS at he
  cases own with
  | true =>
    simp only [if_true] at he
    split at he <;> try (cases he; done)
    rename_i cs hcs hob
    simp only [Option.some.injEq] at he
    subst he
    obtain ⟨vs, hC, hcl, hrun⟩ := key cs hcs
    obtain ⟨g', h1, h2, h3⟩ := R.new (n := [d]) (by simp) hob (o := .arr e n cs) (v := .slice (some ⟨w.heap.size, 0, none⟩) len len) (ob := .cells vs.toArray e) rfl
      (fun g' hg X => ⟨hpos, len, vs, by rw [hg]; simp only [if_true]; exact World.ownsRow_lit w vs.toArray len (Nat.zero_le _) (by simp only [maxLen]; have := Nat.le_mul_of_pos_right len hpos; omega) (by rw [List.size_toArray, ← hC.1, hcl]), hC.ext X⟩)
    exact ⟨_, _, g', hrun, h3.set hd (.arr [d] _ e n cs _ (by rw [St.obj_put, if_pos rfl]) (Nat.le_refl _) (fun _ => h1.symm) rfl)⟩
  | false =>
    simp only [Bool.false_eq_true, if_false, Option.map_eq_some_iff] at he
    obtain ⟨xs, hxs, rfl⟩ := he
    obtain ⟨hd1, hd2, hd3⟩ := elems_dense hxs
    obtain ⟨vs, hC, hcl, hrun⟩ := key _ hd1
    obtain ⟨X, R'⟩ := R.newPs (.cells vs.toArray e)
    have hxl : xs.length = len := by
      have := flat_length xs hd2
      rw [List.length_map, this] at hcl
      exact Nat.eq_of_mul_eq_mul_right hpos hcl
    refine ⟨_, _, _, hrun, R'.set hd (.pv _ _ ?_)⟩
    subst hxl
    refine .list n xs _ _ w.heap.size 0 (fun k => vs.getD k undef) hd2 (fun _ => ⟨rfl, .inr rfl⟩) ?_ (Nat.le_refl _) (fun k hk => ?_) (fun k c hc => ?_) (fun h => by cases h)
    · unfold maxI; have := Nat.le_mul_of_pos_right xs.length hpos; omega
    · have hkv : k < vs.length := by rw [← hC.1]; simpa using hk
      have hv : vs[k]? = some (vs.getD k undef) := by simp [List.getD_eq_getElem?_getD, hkv]
      refine ⟨?_, hC.2.1 _ (List.mem_of_getElem? hv)⟩
      rw [Nat.zero_add, World.cell?_alloc_new]
      simpa using hv
    · have hkv : k < vs.length := by rw [← hC.1]; simpa using (List.getElem?_eq_some_iff.1 hc).1
      have hv : vs[k]? = some (vs.getD k undef) := by simp [List.getD_eq_getElem?_getD, hkv]
      exact ((hC.2.2 k (.pv c) _ (by simp [hc]) hv).ext X).pv_inv

theorem go_mkslice (R : Rel E N g σ a w) {t e : TypeId} {sz bytes : Nat} (ht : P.underlying t = some (.slice e)) {i : TypeInfo} (hi : P.info? e = some i) (hn : i.size = sz) (hby : i.bytes = bytes) {zs : List PV} (hzs : zeroB P e = some zs) (hzl : zs.length = sz) (hpos : 0 < sz)
    {x y : Operand} {vx vy : VX} (hx : cX x = some vx) (hy : cX y = some vy) {d : Nat} (hd : d < N) {σ' : St} (he : mkS σ d e sz bytes zs (σ.val vx) (σ.val vy) = some σ') :
    ∃ v w' g', (Instr.makeSlice t (a.eval x) (a.eval y)).run P w = .ok v w' ∧ Rel E N g' σ' (a.put (some d) v) w' := by
  unfold mkS at he
  split at he <;> try (cases he; done)
  rename_i k n k' c hbx hby' hob
  split at he <;> try (cases he; done)
  rename_i hc
  obtain ⟨h0, rfl, hb, h63⟩ := hc
  simp only [Option.some.injEq] at he
  subst he
  have hrx := val_rel R hx
  have hry := val_rel R hy
  rw [hbx] at hrx
  rw [hby'] at hry
  rw [hrx.int, hry.int]
  obtain ⟨i', z, hi', hz, hCz⟩ := zeroB_rel (P := P) (w := w) (g := g) (σ := σ) hzs
  rw [hi] at hi'
  simp only [Option.some.injEq] at hi'
  subst hi'
  have hzsz : z.cells.size = sz := by have := hCz.1; simp at this; omega
  have hrun := run_make (P := P) w t e i z ht hi hz k k' n n h0 (Int.le_refl _) (by rw [hby, Int.mul_comm]; exact hb) h63
  rw [hn] at hrun
  have hmade : madeCells z.cells (n.toNat * sz) = ((List.replicate n.toNat z.cells.toList).flatten).toArray := by
    have hrep : ∀ (m k : Nat), k < m * sz → ((List.replicate m z.cells.toList).flatten)[k]? = z.cells[k % sz]? := by
      intro m
      induction m with
      | zero => intro k hk; simp at hk
      | succ m ih =>
        intro k hk
        rw [List.replicate_succ, List.flatten_cons]
        have hl : z.cells.toList.length = sz := by simpa using hzsz
        by_cases h : k < sz
        · rw [List.getElem?_append_left (by omega), Nat.mod_eq_of_lt h, Array.getElem?_toList]
        · rw [List.getElem?_append_right (by omega), hl, ih (k - sz) (by rw [Nat.succ_mul] at hk; omega), ← Nat.mod_eq_sub_mod (by omega)]
    unfold madeCells
    apply Array.ext'
    apply List.ext_getElem?
    intro k
    simp only [List.toList_toArray]
    by_cases hk : k < n.toNat * sz
    · rw [hrep _ _ hk]
      have hlt : k % sz < z.cells.size := by rw [hzsz]; exact Nat.mod_lt _ hpos
      simp only [Array.toList_map, List.getElem?_map, Array.toList_range, List.getElem?_range hk, Option.map_some, hzsz]
      rw [getElem!_pos z.cells _ hlt, Array.getElem?_eq_getElem hlt]
    · rw [List.getElem?_eq_none, List.getElem?_eq_none]
      · simp [List.length_flatten, hzsz]; omega
      · simp; omega
  rw [hmade] at hrun
  have hC : Cells w g σ.obj ((List.replicate n.toNat (zs.map SV.pv)).flatten) ((List.replicate n.toNat z.cells.toList).flatten) := by
    generalize n.toNat = m
    induction m with
    | zero => exact ⟨rfl, by simp, by simp⟩
    | succ m ih => simp only [List.replicate_succ, List.flatten_cons]; exact hCz.append ih
  have hfl : ((List.replicate n.toNat (zs.map SV.pv)).flatten).length = n.toNat * sz := by
    simp [List.length_flatten, hzl]
  obtain ⟨g', h1, h2, h3⟩ := R.new (n := [d]) (by simp) hob (o := .arr e sz ((List.replicate n.toNat (zs.map SV.pv)).flatten)) (v := .slice (some ⟨w.heap.size, 0, none⟩) n.toNat n.toNat) (ob := .cells ((List.replicate n.toNat z.cells.toList).flatten).toArray e) rfl
    (fun g' hg X => ⟨hpos, n.toNat, (List.replicate n.toNat z.cells.toList).flatten, by rw [hg]; simp only [if_true]; exact World.ownsRow_lit w ((List.replicate n.toNat z.cells.toList).flatten).toArray n.toNat (Nat.zero_le _) (by simp only [maxLen]; omega) (by rw [List.size_toArray, ← hC.1, hfl]), by simpa using hC.ext X⟩)
  refine ⟨_, _, g', hrun, h3.set hd (.arr [d] _ e sz _ _ (by rw [St.obj_put, if_pos rfl]) (by rw [hfl]; exact Nat.le_refl _) (fun _ => h1.symm) rfl)⟩
end
end Go.VL
