/- The value-level logic, part 20: statements whose operations have an open order: those with one outcome may go ahead of what they are apart from. -/
import Derived.Test.YtckbenlmlikjoaaV19
import Derived.Orders
set_option linter.unusedVariables false
set_option linter.unusedSimpArgs false
namespace Go.VL

/-- What an operation on memory does: a thing that is put, and what its slot gets. -/
def leff (σ : St) (dst : Option Nat) : VO → Option (Option (Nm × OV) × Option SV)
  | .alloc t zs => match dst with
    | some d => match σ.obj [d] with
      | none => some (some ([d], .box t (zs.map .pv)), some (.ref [d] 0))
      | some _ => none
    | none => none
  | .box t x => match dst, (σ.val x).cellsL with
    | some d, some cs => match σ.obj [d] with
      | none => some (some ([d], .box t cs), some (.ref [d] 0))
      | some _ => none
    | _, _ => none
  | .bslice own e sz parts => match dst with
    | some d => if own then (match dense σ sz parts, σ.obj [d] with
      | some cs, none => some (some ([d], .arr e sz cs), some (.arr [d] cs.length))
      | _, _ => none) else none
    | none => none
  | .store n p x => match dst with
    | some _ => none
    | none => match (σ.val x).cellsL with
      | none => none
      | some new => if new.length ≠ n then none else match σ.val p with
        | .ref m off => match σ.obj m with
          | some (.box t cs) => if off + n ≤ cs.length then some (some (m, .box t (splice off new cs)), none) else none
          | _ => none
        | .aref m off tag => match σ.obj m with
          | some (.arr t sz cs) => if tag = cs.length ∧ off + n ≤ cs.length then some (some (m, .arr t sz (splice off new cs)), none) else none
          | _ => none
        | _ => none
  | .append e sz bytes x y => match dst with
    | some d => match listCells σ sz (σ.val y) with
      | none => none
      | some ys => match σ.val x with
        | .pv .nilS => match ys with
          | [] => some (none, some (.pv .nilS))
          | _ => match σ.obj [d] with
            | none => if 0 < bytes ∧ ys.length / sz * bytes ≤ 140737488355328 then some (some ([d], .arr e sz ys), some (.arr [d] ys.length)) else none
            | some _ => none
        | .arr n tag => match σ.obj n with
          | some (.arr t s cs) => if t = e ∧ s = sz ∧ tag = cs.length then
              (match ys with
              | [] => some (none, some (.arr n tag))
              | _ => if 0 < bytes ∧ (cs.length / sz + ys.length / sz) * bytes ≤ 140737488355328 then some (some (n, .arr t s (cs ++ ys)), some (.arr n (cs ++ ys).length)) else none)
            else none
          | _ => none
        | _ => none
    | none => none
  | .mkslice e sz bytes z n c => match dst with
    | some d => match σ.val n, σ.val c, σ.obj [d] with
      | .pv (.int _ n), .pv (.int _ c), none => if 0 ≤ n ∧ n = c ∧ n * bytes ≤ 281474976710656 ∧ n ≤ 9223372036854775807 then
          some (some ([d], .arr e sz ((List.replicate n.toNat (z.map SV.pv)).flatten)), some (.arr [d] (n.toNat * sz)))
        else none
      | _, _, _ => none
    | none => none
  | _ => none

def putE (σ : St) : Option (Nm × OV) → St
  | some (n, o) => σ.put n o
  | none => σ
def setE (σ : St) (dst : Option Nat) : Option SV → St
  | some s => setD σ dst s
  | none => σ

def isMemOp : VO → Bool
  | .alloc _ _ | .box _ _ | .store _ _ _ | .append _ _ _ _ _ | .mkslice _ _ _ _ _ _ => true
  | .bslice own _ _ _ => own
  | _ => false

theorem vexec_leff {P : Program} {dst : Option Nat} {op : VO} (hm : isMemOp op = true) {σ : St} {K : St → Prop} : vexec P dst op σ K ↔ ∃ e, leff σ dst op = some e ∧ K (setE (putE σ e.1) dst e.2) := by
  cases op <;> simp only [isMemOp, reduceCtorEq, Bool.false_eq_true] at hm
  case alloc t zs =>
    simp only [vexec, leff, newBox]
    cases dst with
    | none => simp
    | some d => try simp only
                cases ho : σ.obj [d] <;> simp [putE, setE, setD]
  case box t x =>
    simp only [vexec, leff, newBox]
    cases dst with
    | none => simp
    | some d =>
      cases hc : (σ.val x).cellsL with
      | none => simp
      | some cs => cases ho : σ.obj [d] <;> simp [ho, putE, setE, setD]
  case bslice own e sz parts =>
    subst hm
    simp only [vexec, leff, bsliceS]
    cases dst with
    | none => simp
    | some d =>
      simp only [if_true]
      cases hc : dense σ sz parts <;> cases ho : σ.obj [d] <;> simp [putE, setE, setD]
  case store n p x =>
    simp only [vexec, leff, storeAt]
    cases dst with
    | some d => simp
    | none =>
      simp only
      cases hc : (σ.val x).cellsL with
      | none => simp
      | some new =>
        simp only
        by_cases hn : new.length ≠ n
        · simp [hn]
        · simp only [if_neg hn]
          cases hp : σ.val p <;> simp only [false_and, exists_false, reduceCtorEq]
          · rename_i m off
            cases ho : σ.obj m with
            | none => simp
            | some o =>
              cases o with
              | arr => simp
              | box t cs =>
                simp only
                by_cases hif : off + n ≤ cs.length
                · simp only [if_pos hif, putE, setE]; simp
                · simp only [if_neg hif]; simp
          · rename_i m off tag
            cases ho : σ.obj m with
            | none => simp
            | some o =>
              cases o with
              | box => simp
              | arr t sz cs =>
                simp only
                by_cases hif : tag = cs.length ∧ off + n ≤ cs.length
                · simp only [if_pos hif, putE, setE]; simp
                · simp only [if_neg hif]; simp
  case append e sz bytes x y =>
    simp only [vexec, leff, appS]
    cases dst with
    | none => simp
    | some d =>
      try simp only
      cases hc : listCells σ sz (σ.val y) with
      | none => simp
      | some ys =>
        try simp only
        cases hx : σ.val x <;> try (simp; done)
        · rename_i p
          cases p <;> try (simp; done)
          cases ys with
          | nil => simp [putE, setE, setD]
          | cons y ys =>
            cases ho : σ.obj [d] with
            | some o => simp [ho]
            | none =>
              simp only [ho]
              by_cases hif : 0 < bytes ∧ (y :: ys).length / sz * bytes ≤ 140737488355328
              · simp only [if_pos hif, putE, setE, setD]; simp
              · simp only [if_neg hif]; simp
        · rename_i n tag
          cases ho : σ.obj n with
          | none => simp [ho]
          | some o =>
            cases o with
            | box => simp [ho]
            | arr t s cs =>
              simp only [ho]
              by_cases hc : t = e ∧ s = sz ∧ tag = cs.length
              · simp only [if_pos hc]
                cases ys with
                | nil => simp [putE, setE, setD]
                | cons y ys =>
                  simp only
                  by_cases hif : 0 < bytes ∧ (cs.length / sz + (y :: ys).length / sz) * bytes ≤ 140737488355328
                  · simp only [if_pos hif, putE, setE, setD]; simp
                  · simp only [if_neg hif]; simp
              · simp only [if_neg hc]; simp
  case mkslice e sz bytes z n c =>
    simp only [vexec, leff, mkS]
    cases dst with
    | none => simp
    | some d =>
      simp only
      cases hn : σ.val n <;> try (simp; done)
      rename_i pn
      cases pn <;> try (simp; done)
      cases hc : σ.val c <;> try (simp; done)
      rename_i pc
      cases pc <;> try (simp; done)
      cases ho : σ.obj [d] with
      | some o => simp
      | none =>
        rename_i k1 n1 k2 n2
        by_cases hif : 0 ≤ n1 ∧ n1 = n2 ∧ n1 * (bytes : Int) ≤ 281474976710656 ∧ n1 ≤ 9223372036854775807
        · simp only [if_pos hif, putE, setE, setD]; simp
        · simp only [if_neg hif]; simp

/-- Operations that make a new thing. -/
def isNew : VO → Bool
  | .alloc _ _ | .box _ _ | .mkslice _ _ _ _ _ _ => true
  | .bslice own _ _ _ => own
  | _ => false
def isMod : VO → Bool
  | .store _ _ _ | .append _ _ _ _ _ => true
  | _ => false
theorem isNew_mem {op : VO} (h : isNew op = true) : isMemOp op = true := by cases op <;> first | rfl | exact h | simp [isNew] at h
theorem isMod_mem {op : VO} (h : isMod op = true) : isMemOp op = true := by cases op <;> first | rfl | exact h | simp [isMod] at h

theorem leff_new {σ : St} {dst : Option Nat} {op : VO} (h : isNew op = true) {e : Option (Nm × OV) × Option SV} (he : leff σ dst op = some e) : ∀ n o, e.1 = some (n, o) → σ.obj n = none := by
  cases op <;> simp only [isNew, reduceCtorEq, Bool.false_eq_true] at h <;> simp only [leff] at he
  case alloc t zs =>
    split at he <;> try (cases he; done)
    split at he <;> try (cases he; done)
    rename_i d ho
    simp only [Option.some.injEq] at he; subst he
    rintro n o hn; simp only [Option.some.injEq, Prod.mk.injEq] at hn; obtain ⟨rfl, _⟩ := hn; exact ho
  case box t x =>
    split at he <;> try (cases he; done)
    split at he <;> try (cases he; done)
    rename_i ho
    simp only [Option.some.injEq] at he; subst he
    rintro n o hn; simp only [Option.some.injEq, Prod.mk.injEq] at hn; obtain ⟨rfl, _⟩ := hn; exact ho
  case bslice own e sz parts =>
    subst h
    split at he <;> try (cases he; done)
    simp only [if_true] at he
    split at he <;> try (cases he; done)
    rename_i hd ho
    simp only [Option.some.injEq] at he; subst he
    rintro n o hn; simp only [Option.some.injEq, Prod.mk.injEq] at hn; obtain ⟨rfl, _⟩ := hn; exact ho
  case mkslice e sz bytes z n c =>
    split at he <;> try (cases he; done)
    split at he <;> try (cases he; done)
    rename_i h1 h2 ho
    split at he <;> try (cases he; done)
    simp only [Option.some.injEq] at he; subst he
    rintro n o hn; simp only [Option.some.injEq, Prod.mk.injEq] at hn; obtain ⟨rfl, _⟩ := hn; exact ho

section
variable {σ σ' : St}
theorem listCells_look (hob : σ.obj = σ'.obj) {sz : Nat} {s : SV} : listCells σ sz s = listCells σ' sz s := by
  unfold listCells
  rw [hob]
theorem leff_congr {dst : Option Nat} {op : VO} (hl : ∀ t ∈ op.looks, σ.get t = σ'.get t) (hob : σ.obj = σ'.obj) : leff σ dst op = leff σ' dst op := by
  cases op <;> try rfl
  all_goals simp only [VO.looks, List.mem_append] at hl
  case alloc t zs => simp only [leff, hob]
  case box t x => simp only [leff, val_look (x := x) hl, hob]
  case bslice own e sz parts => simp only [leff, dense_look hl, hob]
  case store n p x => simp only [leff, val_look (x := p) (fun t ht => hl t (.inl ht)), val_look (x := x) (fun t ht => hl t (.inr ht)), hob]
  case append e sz bytes x y => simp only [leff, val_look (x := x) (fun t ht => hl t (.inl ht)), val_look (x := y) (fun t ht => hl t (.inr ht)), hob, listCells_look hob]
  case mkslice e sz bytes z n c => simp only [leff, val_look (x := n) (fun t ht => hl t (.inl ht)), val_look (x := c) (fun t ht => hl t (.inr ht)), hob]

/-- Operations that look at slots alone. -/
def slotOnly : VO → Bool
  | .mv _ | .pick _ _ _ | .bin _ _ _ | .eqb _ _ _ | .un _ _ | .conv _ _ | .convs _ | .mkif _ _ | .mkfn _ _ | .field _ _ _ _ | .sidx _ _ | .slice _ _ _ _ | .sslice _ _ _ | .slen _ | .extract _ _ | .build _ _ | .minmax _ _ _ => true
  | _ => false
theorem val_h (t : List (Nat × SV)) (h h' : List (Nm × OV)) (x : VX) : St.val ⟨t, h⟩ x = St.val ⟨t, h'⟩ x := by cases x <;> rfl
theorem det_slot {P : Program} {op : VO} (hs : slotOnly op = true) (hl : ∀ t ∈ op.looks, σ.get t = σ'.get t) {s : SV} (h : det P σ op s) : det P σ' op s := by
  have h1 : det P { σ' with h := σ.h } op s := det_mono (σ' := { σ' with h := σ.h }) hl (fun _ _ h => h) h
  obtain ⟨t, hh⟩ := σ'
  have hval : ∀ x, St.val ⟨t, σ.h⟩ x = St.val ⟨t, hh⟩ x := val_h t σ.h hh
  have hbnd : ∀ d x, bnd ⟨t, σ.h⟩ d x = bnd ⟨t, hh⟩ d x := by intro d x; cases x <;> simp only [bnd, hval]
  have hfill : ∀ l cs, fillS ⟨t, σ.h⟩ l cs = fillS ⟨t, hh⟩ l cs := by
    intro l
    induction l with
    | nil => intro cs; rfl
    | cons p r ih => intro cs; obtain ⟨off, n, x⟩ := p; simp only [fillS, hval, ih]
  have hvals : (St.val ⟨t, σ.h⟩) = St.val ⟨t, hh⟩ := funext hval
  cases op <;> simp only [slotOnly, reduceCtorEq, Bool.false_eq_true] at hs <;> simp only [det, evalV, hval, hbnd, hfill, hvals] at h1 ⊢ <;> exact h1
end

def Cl (K : St → Prop) : Prop := ∀ σ τ, Eqv σ τ → K σ → K τ

/-- An operation at its turn, whatever the order. -/
def vstepA (P : Program) (loud : Nat → Bool) (o : VOp) (σ : St) (K : St → Prop) : Prop :=
  match guardB σ o.guard with
  | some true => if isD loud o.dst o.op = true then ∃ s, det P σ o.op s ∧ K (setD σ o.dst s) else ∃ τ, Eqv τ σ ∧ vexec P o.dst o.op τ K
  | some false => K (setD σ o.dst (.tup []))
  | none => False

def vready (as : List (List Nat)) (L : List Bool) : List Nat :=
  (List.range as.length).filter fun i => !(L.getD i true) && ((as[i]?).map (·.all fun j => L.getD j false)).getD false

/-- All orders. -/
def vany (P : Program) (loud : Nat → Bool) (as : List (List Nat)) (ops : List VOp) (K : St → Prop) : Nat → List Bool → St → Prop
  | 0, L, σ => vready as L = [] ∧ K σ
  | n + 1, L, σ => (vready as L = [] → K σ) ∧ ∀ i ∈ vready as L, ∃ o, ops[i]? = some o ∧ vstepA P loud o σ (vany P loud as ops K n (L.set i true))

section
variable {P : Program} {loud : Nat → Bool} {as : List (List Nat)} {ops : List VOp} {K : St → Prop}

theorem guardB_look {σ τ : St} {g : Option (Nat × Bool)} (h : ∀ d b, g = some (d, b) → σ.get d = τ.get d) : guardB σ g = guardB τ g := by
  cases g with
  | none => rfl
  | some p => obtain ⟨d, b⟩ := p; simp only [guardB]; rw [h d b rfl]

theorem Eqv.setD {σ τ : St} (h : Eqv σ τ) (dst : Option Nat) (s : SV) : Eqv (setD σ dst s) (setD τ dst s) :=
  ⟨fun d => by rw [get_setD, get_setD, h.get d], fun n => by rw [obj_setD, obj_setD, h.obj n]⟩

theorem vstepA_cl {o : VOp} {σ τ : St} (h : Eqv σ τ) (hK : Cl K) (hs : vstepA P loud o σ K) : vstepA P loud o τ K := by
  unfold vstepA at *
  rw [guardB_look (σ := τ) (τ := σ) (fun d b _ => (h.get d).symm)]
  split at hs
  · split at hs
    · rename_i hd
      obtain ⟨s, h1, h2⟩ := hs
      rw [if_pos hd]
      exact ⟨s, det_mono (fun t _ => h.get t) (fun n o ho => (h.obj n).symm.trans ho) h1, hK _ _ (h.setD _ _) h2⟩
    · rename_i hd
      obtain ⟨υ, h1, h2⟩ := hs
      rw [if_neg hd]
      exact ⟨υ, h1.trans h, h2⟩
  · exact hK _ _ (h.setD _ _) hs
  · cases hs

theorem vany_cl (hK : Cl K) : ∀ n L, Cl (vany P loud as ops K n L) := by
  intro n
  induction n with
  | zero => intro L σ τ h hs; exact ⟨hs.1, hK _ _ h hs.2⟩
  | succ n ih =>
    intro L σ τ h hs
    refine ⟨fun h0 => hK _ _ h (hs.1 h0), fun i hi => ?_⟩
    obtain ⟨o, h1, h2⟩ := hs.2 i hi
    exact ⟨o, h1, vstepA_cl h (ih _) h2⟩

/-- What an operation with one outcome yields. -/
def Yv (P : Program) (σ : St) (o : VOp) (s : SV) : Prop := (guardB σ o.guard = some true ∧ det P σ o.op s) ∨ (guardB σ o.guard = some false ∧ s = .tup [])

def VOp.looksG (o : VOp) : List Nat := o.op.looks ++ (match o.guard with | some (d, _) => [d] | none => [])

/-- One that may go ahead of the other. -/
def tol (loud : Nat → Bool) (o oj : VOp) : Bool :=
  (match o.dst with
   | some d => !(oj.looksG.contains d) && oj.dst != some d
   | none => true) &&
  (match oj.dst with
   | some d => !(o.looksG.contains d)
   | none => true) &&
  (isD loud oj.dst oj.op || isNew oj.op || (isMod oj.op && slotOnly o.op))

theorem Yv.stable {σ σ' : St} {o : VOp} {s : SV} (hy : Yv P σ o s) (hl : ∀ t ∈ o.looksG, σ.get t = σ'.get t) (hx : (∀ n o, σ.obj n = some o → σ'.obj n = some o) ∨ slotOnly o.op = true) : Yv P σ' o s := by
  have hg : guardB σ' o.guard = guardB σ o.guard := guardB_look (fun d b hd => (hl d (by simp [VOp.looksG, hd])).symm)
  have hl' : ∀ t ∈ o.op.looks, σ.get t = σ'.get t := fun t ht => hl t (by simp [VOp.looksG, ht])
  rcases hy with ⟨h1, h2⟩ | ⟨h1, h2⟩
  · refine .inl ⟨hg.trans h1, ?_⟩
    rcases hx with hx | hx
    · exact det_mono hl' hx h2
    · exact det_slot hx hl' h2
  · exact .inr ⟨hg.trans h1, h2⟩

theorem setD_comm {σ : St} {d e : Option Nat} {s u : SV} (h : ∀ k, d = some k → e ≠ some k) : Eqv (setD (setD σ d s) e u) (setD (setD σ e u) d s) := by
  refine ⟨fun t => ?_, fun n => by simp only [obj_setD]⟩
  simp only [get_setD]
  by_cases h1 : e = some t
  · have h2 : d ≠ some t := fun h' => h t h' h1
    rw [if_pos h1, if_neg h2, if_pos h1]
  · rw [if_neg h1, if_neg h1]

theorem obj_putE (σ : St) (e : Option (Nm × OV)) (n : Nm) : (putE σ e).obj n = match e with
    | some (m, o) => if m = n then some o else σ.obj n
    | none => σ.obj n := by
  cases e with
  | none => rfl
  | some p => obtain ⟨m, o⟩ := p; exact St.obj_put σ m n o
theorem get_putE (σ : St) (e : Option (Nm × OV)) (d : Nat) : (putE σ e).get d = σ.get d := by
  cases e with
  | none => rfl
  | some p => rfl
theorem get_setE (σ : St) (dst : Option Nat) (u : Option SV) (d : Nat) : (setE σ dst u).get d = match u with
    | some s => if dst = some d then s else σ.get d
    | none => σ.get d := by
  cases u with
  | none => rfl
  | some s => exact get_setD σ dst d s
theorem obj_setE (σ : St) (dst : Option Nat) (u : Option SV) (n : Nm) : (setE σ dst u).obj n = σ.obj n := by
  cases u with
  | none => rfl
  | some s => exact obj_setD σ dst s n

theorem vstep_tol {o oj : VOp} {σ : St} {s : SV} (ht : tol loud o oj = true) (hy : Yv P σ o s) (hK : Cl K) (h : vstepA P loud oj (setD σ o.dst s) K) :
    vstepA P loud oj σ fun σ' => Yv P σ' o s ∧ K (setD σ' o.dst s) := by
  simp only [tol, Bool.and_eq_true] at ht
  obtain ⟨⟨t1, t2⟩, t3⟩ := ht
  have hlj : ∀ t ∈ oj.looksG, (setD σ o.dst s).get t = σ.get t := by
    intro t ht
    rw [get_setD]
    split
    · rename_i hd
      rw [hd] at t1
      simp only [Bool.and_eq_true, Bool.not_eq_true', List.contains_eq_mem, decide_eq_false_iff_not] at t1
      exact absurd ht t1.1
    · rfl
  have hdd : ∀ k, o.dst = some k → oj.dst ≠ some k := by
    intro k hk
    rw [hk] at t1
    simp only [Bool.and_eq_true, bne_iff_ne] at t1
    exact t1.2
  have hlo : ∀ k, oj.dst = some k → k ∉ o.looksG := by
    intro k hk
    rw [hk] at t2
    simpa using t2
  have hgj : guardB (setD σ o.dst s) oj.guard = guardB σ oj.guard := guardB_look (fun d b hd => hlj d (by simp [VOp.looksG, hd]))
  have keep : ∀ u, ∀ t ∈ o.looksG, σ.get t = (setD σ oj.dst u).get t := by
    intro u t ht
    rw [get_setD, if_neg]
    exact fun hk => hlo t hk ht
  unfold vstepA at *
  rw [hgj] at h
  split at h
  · split at h
    · rename_i hd
      obtain ⟨u, h1, h2⟩ := h
      rw [if_pos hd]
      refine ⟨u, det_mono (fun t ht => hlj t (by simp [VOp.looksG, ht])) (fun n o ho => by rwa [obj_setD] at ho) h1, hy.stable (keep u) (.inl fun n o ho => by rwa [obj_setD]), hK _ _ (setD_comm hdd) h2⟩
    · rename_i hd
      obtain ⟨τ, h1, h2⟩ := h
      rw [if_neg hd]
      simp only [hd, Bool.false_or, Bool.or_eq_true, Bool.and_eq_true] at t3
      have hm : isMemOp oj.op = true := by
        rcases t3 with h | h
        · exact isNew_mem h
        · exact isMod_mem h.1
      rw [vexec_leff hm] at h2
      obtain ⟨e, h3, h4⟩ := h2
      have h5 : leff σ oj.dst oj.op = some e := by
        rw [← h3]
        refine leff_congr (fun t ht => ?_) (funext fun n => ?_)
        · rw [h1.get t, hlj t (by simp [VOp.looksG, ht])]
        · rw [h1.obj n, obj_setD]
      refine ⟨σ, Eqv.refl σ, ?_⟩
      rw [vexec_leff hm]
      refine ⟨e, h5, hy.stable (fun t ht => ?_) ?_, hK _ _ ⟨fun t => ?_, fun n => ?_⟩ h4⟩
      · rw [get_setE]
        split
        · rw [if_neg (fun hk => hlo t hk ht), get_putE]
        · rw [get_putE]
      · rcases t3 with h | h
        · refine .inl fun n ov ho => ?_
          rw [obj_setE, obj_putE]
          split
          · rename_i m ov' he
            have := leff_new h h5 m ov' he
            rw [if_neg]; · exact ho
            rintro rfl; rw [this] at ho; cases ho
          · exact ho
        · exact .inr h.2
      · simp only [get_setE, get_setD, get_putE]
        have := h1.get t
        rw [get_setD] at this
        cases hu : e.2 with
        | none => exact this
        | some u =>
          simp only
          by_cases hj : oj.dst = some t
          · rw [if_pos hj, if_pos hj, if_neg (fun h' => hdd t h' hj)]
          · rw [if_neg hj, if_neg hj]; exact this
      · simp only [obj_setE, obj_setD, obj_putE]
        have := h1.obj n
        rw [obj_setD] at this
        rw [this]
  · refine ⟨hy.stable (keep _) (.inl fun n o ho => by rwa [obj_setD]), hK _ _ (setD_comm hdd) h⟩
  · cases h

theorem mem_vready {j : Nat} {L : List Bool} : j ∈ vready as L ↔ L.getD j true = false ∧ ∃ a, as[j]? = some a ∧ ∀ k ∈ a, L.getD k false = true := by
  unfold vready
  rw [List.mem_filter, List.mem_range]
  cases ho : as[j]? with
  | none => simp
  | some a =>
    have hlt : j < as.length := (List.getElem?_eq_some_iff.1 ho).1
    simp [hlt]

theorem lget_set_ne {L : List Bool} {i j : Nat} (d : Bool) (h : i ≠ j) : (L.set i true).getD j d = L.getD j d := by
  simp [List.getD_eq_getElem?_getD, List.getElem?_set_ne h]
theorem lget_set_true {L : List Bool} {i j : Nat} (h : L.getD j false = true) : (L.set i true).getD j false = true := by
  by_cases hij : i = j
  · subst hij
    have hlt : i < L.length := by
      rcases Nat.lt_or_ge i L.length with h' | h'
      · exact h'
      · simp [List.getD_eq_getElem?_getD, List.getElem?_eq_none h'] at h
    simp [List.getD_eq_getElem?_getD, hlt]
  · rw [lget_set_ne false hij]; exact h
theorem vready_mono {i j : Nat} {L : List Bool} (hj : j ∈ vready as L) (hne : j ≠ i) : j ∈ vready as (L.set i true) := by
  rw [mem_vready] at *
  obtain ⟨h0, a, ha, hall⟩ := hj
  exact ⟨by rw [lget_set_ne true (Ne.symm hne)]; exact h0, a, ha, fun k hk => lget_set_true (hall k hk)⟩

/-- j has to wait for i, by way of what is left. -/
def blkd (as : List (List Nat)) (L : List Bool) : Nat → Nat → Nat → Bool
  | 0, _, _ => false
  | n + 1, j, i => ((as[j]?).map (·.any fun k => !(L.getD k false) && (k == i || blkd as L n k i))).getD false
theorem blkd_ready {n i j : Nat} {L : List Bool} (hj : j ∈ vready as L) : blkd as L n j i = false := by
  obtain ⟨_, a, ha, hall⟩ := mem_vready.1 hj
  cases n with
  | zero => rfl
  | succ n =>
    simp only [blkd, ha, Option.map_some, Option.getD_some]
    rw [← Bool.not_eq_true, List.any_eq_true]
    rintro ⟨k, hk, h⟩
    rw [hall k hk] at h
    simp at h
theorem blkd_mono {i j : Nat} {L : List Bool} (hj : j ∈ vready as L) (hji : j ≠ i) : ∀ n k, blkd as L n k i = true → blkd as (L.set j true) n k i = true := by
  intro n
  induction n with
  | zero => intro k h; cases h
  | succ n ih =>
    intro k h
    simp only [blkd] at h ⊢
    cases ha : as[k]? with
    | none => rw [ha] at h; cases h
    | some a =>
      simp only [ha, Option.map_some, Option.getD_some, List.any_eq_true, Bool.and_eq_true, Bool.not_eq_true', Bool.or_eq_true, beq_iff_eq] at h ⊢
      obtain ⟨m, hm, h1, h2⟩ := h
      have hmj : j ≠ m := by
        rintro rfl
        rcases h2 with h2 | h2
        · exact hji h2
        · rw [blkd_ready hj] at h2; cases h2
      exact ⟨m, hm, by rw [lget_set_ne false hmj]; exact h1, h2.imp id (ih m)⟩

/-- All that is left, and need not wait for it, may go behind it. -/
def vfree (loud : Nat → Bool) (as : List (List Nat)) (ops : List VOp) (L : List Bool) (i : Nat) : Bool :=
  match ops[i]? with
  | none => false
  | some o => isD loud o.dst o.op && (List.range as.length).all fun j => j == i || L.getD j true || blkd as L as.length j i || ((ops[j]?).map (tol loud o)).getD false

theorem vstepA_mono {o : VOp} {σ : St} {K' : St → Prop} (h : ∀ τ, K τ → K' τ) (hv : ∀ τ, vexec P o.dst o.op τ K → vexec P o.dst o.op τ K') (hs : vstepA P loud o σ K) : vstepA P loud o σ K' := by
  unfold vstepA at *
  split at hs
  · split at hs
    · rename_i hd; rw [if_pos hd]; obtain ⟨s, h1, h2⟩ := hs; exact ⟨s, h1, h _ h2⟩
    · rename_i hd; rw [if_neg hd]; obtain ⟨τ, h1, h2⟩ := hs; exact ⟨τ, h1, hv τ h2⟩
  · exact h _ hs
  · cases hs

theorem vexec_mono {dst : Option Nat} {op : VO} {K' : St → Prop} (h : ∀ τ, K τ → K' τ) : ∀ τ, vexec P dst op τ K → vexec P dst op τ K' := by
  intro τ hv
  by_cases hval : isVal op = true
  · rw [vexec_val hval] at *
    split at hv
    · exact h _ hv
    · cases hv
  by_cases hm : isMemOp op = true
  · rw [vexec_leff hm] at *
    obtain ⟨e, h1, h2⟩ := hv
    exact ⟨e, h1, h _ h2⟩
  have call : ∀ f vals, VCall P f vals dst τ K → VCall P f vals dst τ K' := by
    intro f vals c
    cases c with
    | gen cargs ch Q ρ a1 a2 a3 a4 a5 a6 => exact .gen cargs ch Q ρ a1 a2 a3 a4 a5 (fun s h' hq => let ⟨ds, b1, b2⟩ := a6 s h' hq; ⟨ds, b1, h _ b2⟩)
    | lend xs Q a1 a2 a3 a4 => exact .lend xs Q a1 a2 a3 (fun s h' hq => ⟨(a4 s h' hq).1, h _ (a4 s h' hq).2⟩)
  cases op <;> simp [isVal] at hval <;> simp [isMemOp] at hm
  case bslice own e sz parts =>
    subst hm
    simp only [vexec] at *
    split at hv <;> try (cases hv; done)
    split at hv <;> try (cases hv; done)
    exact h _ hv
  case appstr e x y =>
    simp only [vexec] at *
    split at hv <;> try (cases hv; done)
    split at hv <;> try (cases hv; done)
    exact h _ hv
  case call f args => exact call _ _ hv
  case callv x args =>
    simp only [vexec] at *
    split at hv
    · exact ⟨hv.1, call _ _ hv.2⟩
    · exact ⟨hv.1, call _ _ hv.2⟩
    · cases hv

theorem vany_take (hK : Cl K) {i : Nat} {o : VOp} (ho : ops[i]? = some o) {s : SV} : ∀ (n : Nat) (L : List Bool) (σ : St), vfree loud as ops L i = true → i ∈ vready as L → Yv P σ o s →
    vany P loud as ops K n (L.set i true) (setD σ o.dst s) → vany P loud as ops K (n + 1) L σ := by
  have hself : ∀ {σ : St} {K' : St → Prop} {L : List Bool}, vfree loud as ops L i = true → Yv P σ o s → K' (setD σ o.dst s) → vstepA P loud o σ K' := by
    intro σ K' L hf hy hk
    unfold vstepA
    simp only [vfree, ho, Bool.and_eq_true] at hf
    rcases hy with ⟨h1, h2⟩ | ⟨h1, rfl⟩
    · rw [h1]; simp only; rw [if_pos hf.1]; exact ⟨s, h2, hk⟩
    · rw [h1]; exact hk
  intro n
  induction n with
  | zero =>
    intro L σ hf hr hy H
    refine ⟨fun h => (by rw [h] at hr; cases hr), fun j hj => ?_⟩
    by_cases hji : j = i
    · subst hji; exact ⟨o, ho, hself hf hy H⟩
    · have := vready_mono hj hji
      rw [H.1] at this
      cases this
  | succ n ih =>
    intro L σ hf hr hy H
    refine ⟨fun h => (by rw [h] at hr; cases hr), fun j hj => ?_⟩
    by_cases hji : j = i
    · subst hji; exact ⟨o, ho, hself hf hy H⟩
    · obtain ⟨oj, hoj, h1⟩ := H.2 j (vready_mono hj hji)
      obtain ⟨hjun, a, ha, hall⟩ := mem_vready.1 hj
      have htol : tol loud o oj = true := by
        have hf' := hf
        simp only [vfree, ho, Bool.and_eq_true, List.all_eq_true, List.mem_range] at hf'
        have := hf'.2 j (List.getElem?_eq_some_iff.1 ha).1
        simpa only [hoj, blkd_ready hj, Option.map_some, Option.getD_some, Bool.or_eq_true, beq_iff_eq, hji, hjun, Bool.false_eq_true, false_or] using this
      refine ⟨oj, hoj, ?_⟩
      have h2 := vstep_tol (P := P) htol hy (vany_cl hK n _) h1
      have hf' : vfree loud as ops (L.set j true) i = true := by
        simp only [vfree, ho, Bool.and_eq_true, List.all_eq_true, List.mem_range] at hf ⊢
        refine ⟨hf.1, fun k hk => ?_⟩
        have := hf.2 k hk
        by_cases hjk : j = k
        · subst hjk
          have hlt : j < L.length := by
            rcases Nat.lt_or_ge j L.length with h' | h'
            · exact h'
            · simp [List.getD_eq_getElem?_getD, List.getElem?_eq_none h'] at hjun
          simp [List.getD_eq_getElem?_getD, hlt]
        · rw [lget_set_ne true hjk]
          simp only [Bool.or_eq_true] at this ⊢
          exact this.imp (fun h => h.imp id (blkd_mono hj hji _ k)) id
      refine vstepA_mono (fun τ h3 => ?_) (vexec_mono (fun τ h3 => ?_)) h2
      all_goals
        refine ih (L.set j true) τ hf' (vready_mono hr (Ne.symm hji)) h3.1 ?_
        rw [List.set_comm _ _ hji]
        exact h3.2
end
end Go.VL
