/- The value-level logic, part 11: new variables and stores. -/
import Derived.Test.YtckbenlmlikjoaaV10
set_option linter.unusedVariables false
set_option linter.unusedSimpArgs false
namespace Go.VL

/-- A new variable, named by the slot that points to it. -/
def newBox (σ : St) (d : Nat) (t : TypeId) (cs : List SV) : Option St :=
  match σ.obj [d] with
  | none => some ((σ.put [d] (.box t cs)).set d (.ref [d] 0))
  | some _ => none

def storeAt (σ : St) (n : Nat) (p x : SV) : Option St :=
  match x.cellsL with
  | none => none
  | some new => if new.length ≠ n then none else match p with
    | .ref m off => match σ.obj m with
      | some (.box t cs) => if off + n ≤ cs.length then some (σ.put m (.box t (splice off new cs))) else none
      | _ => none
    | .aref m off tag => match σ.obj m with
      | some (.arr t sz cs) => if tag = cs.length ∧ off + n ≤ cs.length then some (σ.put m (.arr t sz (splice off new cs))) else none
      | _ => none
    | _ => none

section
variable {P : Program} {E : Env} {N : Nat} {g : Gh} {σ : St} {a : Act} {w : World}

theorem splice_length {off : Nat} {new old : List SV} (h : off + new.length ≤ old.length) : (splice off new old).length = old.length := by
  simp [splice]; omega

/-- What is to be told of a new variable. -/
theorem Rel.newBox (R : Rel E N g σ a w) {d : Nat} (hd : d < N) {t : TypeId} {cs : List SV} {cur : Array Value} (hC : Cells w g σ.obj cs cur.toList) {σ' : St} (he : newBox σ d t cs = some σ') :
    ∃ g', Rel E N g' σ' (a.put (some d) (.pointer (some ⟨w.heap.size, 0, none⟩))) (w.alloc (.cells cur t)) := by
  unfold VL.newBox at he
  split at he <;> try (cases he; done)
  rename_i hn
  simp only [Option.some.injEq] at he
  subst he
  obtain ⟨g', h1, h2, h3⟩ := R.new (n := [d]) (by simp) hn (o := .box t cs) (v := .pointer (some ⟨w.heap.size, 0, none⟩)) (ob := .cells cur t) rfl
    (fun g' hg X => ⟨w.heap.size, cur, by rw [hg]; simp, heap_alloc_self w _, hC.ext X⟩)
  refine ⟨g', h3.set hd (.ref [d] 0 w.heap.size t cs ?_ h1)⟩
  rw [St.obj_put, if_pos rfl]

theorem go_alloc (R : Rel E N g σ a w) {t : TypeId} {zs : List PV} (hz : zeroB P t = some zs) {d : Nat} (hd : d < N) {σ' : St} (he : newBox σ d t (zs.map .pv) = some σ') :
    ∃ v w' g', (Instr.alloc t true (.tuple #[])).run P w = .ok v w' ∧ Rel E N g' σ' (a.put (some d) v) w' := by
  obtain ⟨i, z, hi, hiz, hC⟩ := zeroB_rel (P := P) (w := w) (g := g) (σ := σ) hz
  obtain ⟨g', h⟩ := R.newBox hd hC he
  refine ⟨_, _, g', ?_, h⟩
  simp only [Instr.alloc, zeroValue, typeInfo, Sem.run_bind, newVar, newRow]
  simp [hi, hiz]

theorem go_box (R : Rel E N g σ a w) {t : TypeId} {x : Operand} {vx : VX} (hx : cX x = some vx) {cs : List SV} (hc : (σ.val vx).cellsL = some cs) {d : Nat} (hd : d < N) {σ' : St} (he : newBox σ d t cs = some σ') :
    ∃ v w' g', (Instr.box t (a.eval x)).run P w = .ok v w' ∧ Rel E N g' σ' (a.put (some d) v) w' := by
  obtain ⟨g', h⟩ := R.newBox hd ((val_rel R hx).cellsL hc) he
  refine ⟨_, _, g', ?_, h⟩
  simp only [Instr.box, Sem.run_bind, newVar, newRow]
  simp

theorem splice_take {L vs : List Value} {off m : Nat} (hL : m ≤ L.length) (hle : off + vs.length ≤ m) :
    (L.take off ++ vs ++ L.drop (off + vs.length)).take m = (L.take m).take off ++ vs ++ (L.take m).drop (off + vs.length) := by
  have e1 : (L.take off).length = off := by simp; omega
  have e2 : (L.take off ++ vs).length = off + vs.length := by simp; omega
  rw [List.take_append, List.take_of_length_le (by omega), List.take_take, Nat.min_eq_left (by omega), e2, List.drop_take]

theorem ownsRow_set {t : TypeId} {sz k : Nat} {v : Value} {xs : List Value} (h : w.ownsRow 0 t sz v k xs) {b : Nat} (hb : blk v = some b) {off : Nat} {vs : List Value} (hle : off + vs.length ≤ xs.length) :
    ∃ cur, w.heap[b]? = some (.cells cur t (0, 0)) ∧ off + vs.length ≤ cur.size ∧
      ∀ w' : World, w'.heap[b]? = some (.cells (cur.toList.take off ++ vs ++ cur.toList.drop (off + vs.length)).toArray t (0, 0)) → w'.ownsRow 0 t sz v k (xs.take off ++ vs ++ xs.drop (off + vs.length)) := by
  rcases h.2 with ⟨rfl, _⟩ | ⟨g, cap, cur, rfl, hg, hh, h1, h2, h3, h4⟩
  · simp [blk] at hb
  · simp only [blk, Option.some.injEq] at hb
    subst hb
    have hk : k * sz ≤ cap * sz := Nat.mul_le_mul_right _ h1
    have hxl := h.1
    refine ⟨cur, hh, by omega, fun w' hw' => ⟨by simp; omega, .inr ⟨g, cap, _, rfl, hg, hw', h1, h2, by simp; omega, ?_⟩⟩⟩
    rw [← h4]
    have hL : k * sz ≤ cur.toList.length := by simp; omega
    have hle' : off + vs.length ≤ k * sz := by omega
    generalize cur.toList = L at hL
    generalize k * sz = m at hL hle'
    simp only [List.toList_toArray]
    exact splice_take hL hle'

theorem run_storeAt_row (w : World) (t : TypeId) (b off : Nat) (cur : Array Value) (e : TypeId) (v : Value) (hg : w.heap[b]? = some (.cells cur e (0, 0))) (hn : sizeB P t = some v.cells.size) (hle : off + v.cells.size ≤ cur.size) (h1 : ∀ u ∈ v.cells.toList, u.oneCell' = true) :
    (Instr.storeAt t (.pointer (some ⟨b, off, none⟩)) v).run P w = .ok () (w.setRow b (cur.toList.take off ++ v.cells.toList ++ cur.toList.drop (off + v.cells.size)).toArray) := by
  have hst := run_storeCells_at P b off e v.cells.toList 0 cur w hg (by simpa using hle) h1
  simp only [Nat.add_zero, Array.length_toList] at hst
  simp only [Instr.storeAt, Instr.sureAddr, Sem.run_bind, Sem.run_pure, Result.andThen_ok, storeVar, run_sizeOf hn, ne_eq, not_true_eq_false, if_false, pure_bind, hst]

theorem go_store (R : Rel E N g σ a w) {t : TypeId} {p x : Operand} {vp vx : VX} {n : Nat} (hn : sizeB P t = some n) (hp : cX p = some vp) (hx : cX x = some vx) {σ' : St} (he : storeAt σ n (σ.val vp) (σ.val vx) = some σ') :
    ∃ w', (Instr.storeAt t (a.eval p) (a.eval x)).run P w = .ok () w' ∧ Rel E N g σ' a w' := by
  unfold VL.storeAt at he
  split at he <;> try (cases he; done)
  rename_i new hnew
  split at he <;> try (cases he; done)
  rename_i hlen
  simp only [ne_eq, Decidable.not_not] at hlen
  have hCn := (val_rel R hx).cellsL hnew
  have hvs : (a.eval x).cells.size = n := by have := hCn.1; simp at this; omega
  have hrp := val_rel R hp
  generalize a.eval p = pv at hrp ⊢
  split at he <;> try (cases he; done)
  · rename_i m off hb
    rw [hb] at hrp
    split at he <;> try (cases he; done)
    rename_i t' cs ho
    split at he <;> try (cases he; done)
    rename_i hle
    simp only [Option.some.injEq] at he
    subst he
    cases hrp with
    | ref m off b t'' cs'' ho' hβ =>
      rw [ho] at ho'
      simp only [Option.some.injEq, OV.box.injEq] at ho'
      obtain ⟨rfl, rfl⟩ := ho'
      obtain ⟨b', cur, h1, h2, h3⟩ := R.objs m _ ho
      have : b' = b := by rw [h1] at hβ; simpa using hβ
      subst this
      have hcl : cs.length = cur.size := by simpa using h3.1
      have hrun := run_storeAt_row (P := P) w t b' off cur t' (a.eval x) h2 (by rw [hvs]; exact hn) (by omega) hCn.2.1
      rw [hvs] at hrun
      refine ⟨_, hrun, ?_⟩
      refine (R.write ho (w' := w.setRow b' _) rfl rfl rfl (setRow_size w b' _) (fun b hb => setRow_other w b' b _ (fun e => hb (by rw [h1, e]; rfl)))
        (fun t cs h => ⟨_, by cases h; rfl⟩) (fun t sz cs h => by cases h) (fun X => ?_)).2
      refine ⟨b', _, h1, setRow_heap w b' cur _ t' _ h2, ?_⟩
      have h3' := h3.ext X
      have hCn' := hCn.ext X
      have := ((h3'.take off).append hCn').append (h3'.drop (off + new.length))
      have e : cs.take off ++ new ++ cs.drop (off + n) = splice off new cs := by rw [splice, hlen]
      rw [hlen, e] at this
      simpa using this
  · rename_i m off tag hb
    rw [hb] at hrp
    split at he <;> try (cases he; done)
    rename_i t' sz cs ho
    split at he <;> try (cases he; done)
    rename_i hle
    obtain ⟨htag, hle⟩ := hle
    simp only [Option.some.injEq] at he
    subst he
    cases hrp with
    | aref m off tag t'' sz'' cs'' v ho' hg hβ hone =>
      rw [ho] at ho'
      simp only [Option.some.injEq, OV.arr.injEq] at ho'
      obtain ⟨rfl, rfl, rfl⟩ := ho'
      obtain ⟨b, hb1, rfl⟩ := hβ htag
      obtain ⟨hpos, k, xs, hx1, hx2⟩ := R.objs m _ ho
      obtain ⟨cur, h2, hsz, hset⟩ := ownsRow_set hx1 hb1 (off := off) (vs := (a.eval x).cells.toList) (by rw [← hx2.1]; simp [hvs]; omega)
      have hrun := run_storeAt_row (P := P) w t b off cur t' (a.eval x) h2 (by rw [hvs]; exact hn) (by simpa using hsz) hCn.2.1
      rw [hvs] at hrun
      refine ⟨_, hrun, ?_⟩
      refine (R.write ho (w' := w.setRow b _) rfl rfl rfl (setRow_size w b _) (fun b' hb' => setRow_other w b b' _ (fun e => hb' (by rw [e]; exact hb1)))
        (fun t cs h => by cases h) (fun t sz cs h => ⟨_, by cases h; exact ⟨rfl, by rw [splice_length (by omega)]⟩⟩) (fun X => ?_)).2
      refine ⟨hpos, k, _, hset _ ?_, ?_⟩
      · rw [setRow_heap w b cur _ t' _ h2]
        simp [hvs]
      · have h3' := hx2.ext X
        have hCn' := hCn.ext X
        have := ((h3'.take off).append hCn').append (h3'.drop (off + new.length))
        have e : cs.take off ++ new ++ cs.drop (off + n) = splice off new cs := by rw [splice, hlen]
        rw [hlen, e] at this
        simpa [hvs] using this
end
end Go.VL
