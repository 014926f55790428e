/- The value-level logic, part 25: rules for stepping. -/
import Derived.Test.YtckbenlmlikjoaaV24
set_option linter.unusedVariables false
set_option linter.unusedSimpArgs false
namespace Go.VL
/-! ### Tables, computed -/
theorem noRfl {α : Type} {a b : α} (h : a = b) : a = b := h
theorem delS_nil (ks : List Nat) : delS ks [] = [] := noRfl rfl
theorem delS_cons (ks : List Nat) (e : Nat) (v : SV) (r : List (Nat × SV)) : delS ks ((e, v) :: r) = bif List.contains ks e then delS ks r else (e, v) :: delS ks r := by
  unfold delS
  by_cases h : List.contains ks e = true
  · rw [List.filter_cons_of_neg (by simp only [h]; simp), h]; rfl
  · rw [List.filter_cons_of_pos (by simpa using h)]
    rw [Bool.not_eq_true] at h
    rw [h]; rfl
theorem delS_cons' (ks : List Nat) (e : Nat) (v : SV) (r : List (Nat × SV)) : delS ks ((e, v) :: r) = if List.contains ks e = true then delS ks r else (e, v) :: delS ks r := by
  rw [delS_cons]
  cases List.contains ks e <;> rfl
theorem lkS_cons (d e : Nat) (v : SV) (r : List (Nat × SV)) : lkS d ((e, v) :: r) = if e = d then v else lkS d r := noRfl rfl
theorem lkS_nil (d : Nat) : lkS d [] = .junk := noRfl rfl
theorem setS_nil (d : Nat) (v : SV) : setS d v [] = [(d, v)] := noRfl rfl
theorem setS_cons (d e : Nat) (v u : SV) (r : List (Nat × SV)) : setS d v ((e, u) :: r) = if e = d then (d, v) :: r else if d < e then (d, v) :: (e, u) :: r else (e, u) :: setS d v r := noRfl rfl
theorem lkO_cons' (n m : Nm) (o : OV) (r : List (Nm × OV)) : lkO n ((m, o) :: r) = if m = n then some o else lkO n r := noRfl rfl
theorem lkO_nil (n : Nm) : lkO n [] = none := noRfl rfl
theorem setO_cons' (n m : Nm) (o p : OV) (r : List (Nm × OV)) : setO n o ((m, p) :: r) = if m = n then (n, o) :: r else (m, p) :: setO n o r := noRfl rfl
def eqNm : Nm → Nm → Bool
  | [], [] => true
  | a :: r, b :: t => Nat.beq a b && eqNm r t
  | _, _ => false
theorem eqNm_iff : ∀ m n : Nm, eqNm m n = true ↔ m = n
  | [], [] => by simp [eqNm]
  | [], b :: t => by simp [eqNm]
  | a :: r, [] => by simp [eqNm]
  | a :: r, b :: t => by simp [eqNm, eqNm_iff r t]
theorem lkO_cons (n m : Nm) (o : OV) (r : List (Nm × OV)) : lkO n ((m, o) :: r) = bif eqNm m n then some o else lkO n r := by
  simp only [lkO]
  by_cases h : m = n
  · rw [if_pos h, (eqNm_iff m n).2 h]; rfl
  · rw [if_neg h]
    have : eqNm m n = false := by
      rw [← Bool.not_eq_true]; exact fun hh => h ((eqNm_iff m n).1 hh)
    rw [this]; rfl
theorem setO_nil (n : Nm) (o : OV) : setO n o [] = [(n, o)] := noRfl rfl
theorem setO_cons (n m : Nm) (o p : OV) (r : List (Nm × OV)) : setO n o ((m, p) :: r) = bif eqNm m n then (n, o) :: r else (m, p) :: setO n o r := by
  simp only [setO]
  by_cases h : m = n
  · rw [if_pos h, (eqNm_iff m n).2 h]; rfl
  · rw [if_neg h]
    have : eqNm m n = false := by
      rw [← Bool.not_eq_true]; exact fun hh => h ((eqNm_iff m n).1 hh)
    rw [this]; rfl
theorem eqNm_nil : eqNm [] [] = true := rfl
theorem eqNm_cons (a b : Nat) (r t : Nm) : eqNm (a :: r) (b :: t) = (Nat.beq a b && eqNm r t) := rfl
theorem eqNm_nc (b : Nat) (t : Nm) : eqNm [] (b :: t) = false := rfl
theorem eqNm_cn (a : Nat) (r : Nm) : eqNm (a :: r) [] = false := rfl
/-- Names of what stays, one by one. -/
def inNm : Nm → List Nm → Bool
  | _, [] => false
  | n, m :: r => eqNm m n || inNm n r
def anyNm (ds : List Nm) : List Nm → Bool
  | [] => false
  | n :: r => inNm n ds || anyNm ds r
theorem inNm_iff (n : Nm) : ∀ l, inNm n l = true ↔ n ∈ l
  | [] => by simp [inNm]
  | m :: r => by
    rw [inNm, Bool.or_eq_true, inNm_iff n r, eqNm_iff, List.mem_cons]
    exact ⟨fun h => h.imp Eq.symm id, fun h => h.imp Eq.symm id⟩
theorem anyNm_iff (ds : List Nm) : ∀ l, anyNm ds l = true ↔ ∃ n ∈ l, n ∈ ds
  | [] => by simp [anyNm]
  | n :: r => by simp [anyNm, anyNm_iff ds r, inNm_iff]
theorem dropS_eq (ds : List Nm) (s : SV) : dropS ds s = bif anyNm ds s.names then .junk else s := by
  unfold dropS
  by_cases h : s.names.any ds.contains = true
  · rw [if_pos h]
    have : anyNm ds s.names = true := by
      rw [anyNm_iff]
      simpa using h
    rw [this]; rfl
  · rw [if_neg h]
    have : anyNm ds s.names = false := by
      rw [← Bool.not_eq_true, anyNm_iff]
      simpa using h
    rw [this]; rfl
def dropT (ds : List Nm) : List (Nat × SV) → List (Nat × SV)
  | [] => []
  | (d, s) :: r => (d, bif anyNm ds s.names then .junk else s) :: dropT ds r
def dropH (ds : List Nm) : List (Nm × OV) → List (Nm × OV)
  | [] => []
  | (n, o) :: r => bif inNm n ds then dropH ds r else (n, o) :: dropH ds r
def okH (ds : List Nm) : List (Nm × OV) → Bool
  | [] => true
  | (n, o) :: r => (bif inNm n ds then true else !(anyNm ds o.names)) && okH ds r
theorem drop_eq (t : List (Nat × SV)) (h : List (Nm × OV)) (ds : List Nm) : St.drop ⟨t, h⟩ ds = ⟨dropT ds t, dropH ds h⟩ := by
  have e1 : ∀ l : List (Nat × SV), l.map (fun e => (e.1, dropS ds e.2)) = dropT ds l := by
    intro l
    induction l with
    | nil => rfl
    | cons e r ih => obtain ⟨d, s⟩ := e; simp only [List.map_cons, dropT, ih]; rw [dropS_eq]
  have e2 : ∀ l : List (Nm × OV), l.filter (fun e => !ds.contains e.1) = dropH ds l := by
    intro l
    induction l with
    | nil => rfl
    | cons e r ih =>
      obtain ⟨n, o⟩ := e
      simp only [dropH]
      by_cases h : n ∈ ds
      · rw [List.filter_cons_of_neg (by simpa using h), (inNm_iff n ds).2 h, ih]; rfl
      · rw [List.filter_cons_of_pos (by simpa using h), ih]
        have : inNm n ds = false := by rw [← Bool.not_eq_true, inNm_iff]; exact h
        rw [this]; rfl
  unfold St.drop
  rw [e1, e2]
theorem dropOk_eq (t : List (Nat × SV)) (h : List (Nm × OV)) (ds : List Nm) : DropOk ⟨t, h⟩ ds ↔ okH ds h = true := by
  unfold DropOk
  simp only
  induction h with
  | nil => simp [okH]
  | cons e r ih =>
    obtain ⟨n, o⟩ := e
    simp only [List.mem_cons, forall_eq_or_imp, okH, Bool.and_eq_true, ih]
    refine and_congr_left fun _ => ?_
    by_cases h : n ∈ ds
    · simp [h, (inNm_iff n ds).2 h]
    · have : inNm n ds = false := by rw [← Bool.not_eq_true, inNm_iff]; exact h
      rw [this]
      simp only [cond_false, Bool.not_eq_true', ← Bool.not_eq_true, anyNm_iff]
      simp [h]
theorem rest_nil (σ : St) (ks : List Nat) (K : St → Prop) : σ.rest ks [] K = K (σ.kill ks) := noRfl rfl
theorem rest_cons (σ : St) (ks : List Nat) (d : Nat) (r : List Nat) (K : St → Prop) : σ.rest ks (d :: r) K = (DropOk (σ.kill ks) ([d] :: r.map fun d => [d]) ∧ K ((σ.kill ks).drop ([d] :: r.map fun d => [d]))) := noRfl rfl
theorem kill_eq (t : List (Nat × SV)) (h : List (Nm × OV)) (ks : List Nat) : St.kill ⟨t, h⟩ ks = ⟨delS ks t, h⟩ := noRfl rfl
theorem namesL_pv (xs : List PV) : namesL (xs.map SV.pv) = [] := by
  induction xs with
  | nil => rfl
  | cons x r ih => simp [namesL, SV.names, ih]
theorem namesL_append (a b : List SV) : namesL (a ++ b) = namesL a ++ namesL b := by
  induction a with
  | nil => rfl
  | cons x r ih => simp [namesL, ih]
theorem pvs_map (xs : List PV) : pvs (xs.map SV.pv) = some xs := by
  induction xs with
  | nil => rfl
  | cons x r ih => simp [pvs, ih]
theorem mkAgg_map (xs : List PV) : mkAgg (xs.map SV.pv) = .pv (.agg xs) := by
  unfold mkAgg
  rw [pvs_map]
theorem beqT (b : Bool) : (b == true) = b := by cases b <;> rfl
theorem beqF (b : Bool) : (b == false) = !b := by cases b <;> rfl
/-! ### Sums -/
theorem wrap_i64 {n : Int} (h1 : -9223372036854775808 ≤ n) (h2 : n ≤ 9223372036854775807) : IntKind.wrap .i64 n = n := by
  unfold IntKind.wrap
  simp [IntKind.signed, IntKind.bits]
  omega
theorem inNm_nil (n : Nm) : inNm n [] = false := noRfl rfl
theorem inNm_cons (n m : Nm) (r : List Nm) : inNm n (m :: r) = if m = n then true else inNm n r := by
  rw [inNm]
  by_cases h : m = n
  · rw [if_pos h, (eqNm_iff m n).2 h, Bool.true_or]
  · rw [if_neg h]
    have : eqNm m n = false := by rw [← Bool.not_eq_true]; exact fun hh => h ((eqNm_iff m n).1 hh)
    rw [this, Bool.false_or]
theorem anyNm_nil (ds : List Nm) : anyNm ds [] = false := noRfl rfl
theorem anyNm_cons (ds : List Nm) (n : Nm) (r : List Nm) : anyNm ds (n :: r) = (inNm n ds || anyNm ds r) := noRfl rfl
theorem dropT_nil (ds : List Nm) : dropT ds [] = [] := noRfl rfl
theorem dropT_cons (ds : List Nm) (d : Nat) (s : SV) (r : List (Nat × SV)) : dropT ds ((d, s) :: r) = (d, if anyNm ds s.names = true then .junk else s) :: dropT ds r := by
  rw [dropT]; cases anyNm ds s.names <;> rfl
theorem dropH_nil (ds : List Nm) : dropH ds [] = [] := noRfl rfl
theorem dropH_cons (ds : List Nm) (n : Nm) (o : OV) (r : List (Nm × OV)) : dropH ds ((n, o) :: r) = if inNm n ds = true then dropH ds r else (n, o) :: dropH ds r := by
  rw [dropH]; cases inNm n ds <;> rfl
theorem okH_nil (ds : List Nm) : okH ds [] = true := noRfl rfl
theorem okH_cons (ds : List Nm) (n : Nm) (o : OV) (r : List (Nm × OV)) : okH ds ((n, o) :: r) = ((if inNm n ds = true then true else !(anyNm ds o.names)) && okH ds r) := by
  rw [okH]; cases inNm n ds <;> rfl
/-! ### Steps -/
def onV (o : Option SV) (K : SV → Prop) : Prop := match o with
  | some s => K s
  | none => False
def onS (o : Option St) (K : St → Prop) : Prop := match o with
  | some s => K s
  | none => False
def onG (o : Option Bool) (A B : Prop) : Prop := match o with
  | some true => A
  | some false => B
  | none => False
theorem onV_some (s : SV) (K : SV → Prop) : onV (some s) K = K s := noRfl rfl
theorem onS_some (s : St) (K : St → Prop) : onS (some s) K = K s := noRfl rfl
theorem onG_true (A B : Prop) : onG (some true) A B = A := noRfl rfl
theorem onG_false (A B : Prop) : onG (some false) A B = B := noRfl rfl
@[congr] theorem onV_congr {o o' : Option SV} {K : SV → Prop} (h : ∀ _ : Unit, o = o') : onV o K = onV o' K := by rw [h ()]
@[congr] theorem onS_congr {o o' : Option St} {K : St → Prop} (h : ∀ _ : Unit, o = o') : onS o K = onS o' K := by rw [h ()]
@[congr] theorem onG_congr {o o' : Option Bool} {A B : Prop} (h : ∀ _ : Unit, o = o') : onG o A B = onG o' A B := by rw [h ()]
section
variable {P : Program} {dst : Option Nat} {σ σ' : St} {K : St → Prop} {X : Cx} {Q : VE → St → Prop}
@[congr] theorem VT_congr {vc : VC} (h : ∀ _ : Unit, σ = σ') : VT X vc σ Q = VT X vc σ' Q := by rw [h ()]
@[congr] theorem vsteps_congr {l : List VOp} (h : ∀ _ : Unit, σ = σ') : vsteps P l σ K = vsteps P l σ' K := by rw [h ()]
@[congr] theorem vstep_congr {o : VOp} (h : ∀ _ : Unit, σ = σ') : vstep P o σ K = vstep P o σ' K := by rw [h ()]
@[congr] theorem vexec_congr {o : VO} (h : ∀ _ : Unit, σ = σ') : vexec P dst o σ K = vexec P dst o σ' K := by rw [h ()]
@[congr] theorem vtake_congr {o : VOp} (h : ∀ _ : Unit, σ = σ') : vtake P o σ K = vtake P o σ' K := by rw [h ()]
@[congr] theorem vtakeX_congr {o : VO} (h : ∀ _ : Unit, σ = σ') : vtakeX P dst o σ K = vtakeX P dst o σ' K := by rw [h ()]
@[congr] theorem vpl_congr {p : VPl} (h : ∀ _ : Unit, σ = σ') : vpl P K p σ = vpl P K p σ' := by rw [h ()]
@[congr] theorem rest_congr {ks os : List Nat} (h : ∀ _ : Unit, σ = σ') : σ.rest ks os K = σ'.rest ks os K := by rw [h ()]
@[congr] theorem vcall_congr {f : FuncId} {vals vals' : List SV} (h : ∀ _ : Unit, vals = vals') (h' : ∀ _ : Unit, σ = σ') : VCall P f vals dst σ K = VCall P f vals' dst σ' K := by rw [h (), h' ()]
theorem vsteps_nil : vsteps P [] σ K = K σ := noRfl rfl
theorem vsteps_cons (o : VOp) (r : List VOp) : vsteps P (o :: r) σ K = vstep P o σ fun σ' => vsteps P r σ' K := noRfl rfl
theorem vstep_none (op : VO) : vstep P ⟨dst, none, op⟩ σ K = vexec P dst op σ K := noRfl rfl
theorem vstep_some (g : Nat × Bool) (op : VO) : vstep P ⟨dst, some g, op⟩ σ K = onG (guardB σ (some g)) (vexec P dst op σ K) (K (setD σ dst (.tup []))) := noRfl rfl
theorem vtake_none (op : VO) : vtake P ⟨dst, none, op⟩ σ K = vtakeX P dst op σ K := noRfl rfl
theorem vtake_some (g : Nat × Bool) (op : VO) : vtake P ⟨dst, some g, op⟩ σ K = onG (guardB σ (some g)) (vtakeX P dst op σ K) (K (setD σ dst (.tup []))) := noRfl rfl
theorem vpl_done : vpl P K .done σ = K σ := noRfl rfl
theorem vpl_stop : vpl P K .stop σ = True := noRfl rfl
theorem vpl_take (o : VOp) (p : VPl) : vpl P K (.take o p) σ = vtake P o σ (vpl P K p) := noRfl rfl
theorem vpl_altT (o : VOp) (p q : VPl) : vpl P K (.alt true o p q) σ = (vtake P o σ (vpl P K p) ∧ vpl P K q σ) := noRfl rfl
theorem vpl_altF (o : VOp) (p q : VPl) : vpl P K (.alt false o p q) σ = (vstep P o σ (vpl P K p) ∧ vpl P K q σ) := noRfl rfl
theorem rest_nil' (ks : List Nat) : σ.rest ks [] K = K (σ.kill ks) := noRfl rfl
theorem rest_cons' (ks : List Nat) (d : Nat) (r : List Nat) : σ.rest ks (d :: r) K = (DropOk (σ.kill ks) ([d] :: r.map fun d => [d]) ∧ K ((σ.kill ks).drop ([d] :: r.map fun d => [d]))) := noRfl rfl
theorem setD_some (d : Nat) (s : SV) (t : List (Nat × SV)) (h : List (Nm × OV)) : setD ⟨t, h⟩ (some d) s = ⟨setS d s t, h⟩ := noRfl rfl
theorem setD_none (s : SV) : setD σ none s = σ := noRfl rfl
theorem set_eq (d : Nat) (s : SV) (t : List (Nat × SV)) (h : List (Nm × OV)) : St.set ⟨t, h⟩ d s = ⟨setS d s t, h⟩ := noRfl rfl
theorem put_eq (n : Nm) (o : OV) (t : List (Nat × SV)) (h : List (Nm × OV)) : St.put ⟨t, h⟩ n o = ⟨t, setO n o h⟩ := noRfl rfl
theorem get_eq (d : Nat) (t : List (Nat × SV)) (h : List (Nm × OV)) : St.get ⟨t, h⟩ d = lkS d t := noRfl rfl
theorem obj_eq (n : Nm) (t : List (Nat × SV)) (h : List (Nm × OV)) : St.obj ⟨t, h⟩ n = lkO n h := noRfl rfl
theorem val_s (d : Nat) (t : List (Nat × SV)) (h : List (Nm × OV)) : St.val ⟨t, h⟩ (.s d) = lkS d t := noRfl rfl
theorem val_c (x : PV) : St.val σ (.c x) = .pv x := noRfl rfl
theorem val_f (f : FuncId) : St.val σ (.f f) = .pv (.fn f) := noRfl rfl
theorem vx_alloc (d : Nat) (t : TypeId) (zs : List PV) : vexec P (some d) (.alloc t zs) σ K = onS (newBox σ d t (zs.map .pv)) K := noRfl rfl
def onL (o : Option (List SV)) (K : List SV → Prop) : Prop := match o with
  | some s => K s
  | none => False
theorem onL_some (s : List SV) (K : List SV → Prop) : onL (some s) K = K s := noRfl rfl
@[congr] theorem onL_congr {o o' : Option (List SV)} {K : List SV → Prop} (h : ∀ _ : Unit, o = o') : onL o K = onL o' K := by rw [h ()]
theorem vx_box (d : Nat) (t : TypeId) (x : VX) : vexec P (some d) (.box t x) σ K = onL (σ.val x).cellsL fun cs => onS (newBox σ d t cs) K := by
  simp only [vexec, onL, onS]
  cases (σ.val x).cellsL <;> rfl
theorem vx_bslice (d e sz : Nat) (own : Bool) (ps : List VX) : vexec P (some d) (.bslice own e sz ps) σ K = onS (bsliceS σ d e sz own ps) K := noRfl rfl
theorem vx_store (n : Nat) (p x : VX) : vexec P none (.store n p x) σ K = onS (storeAt σ n (σ.val p) (σ.val x)) K := noRfl rfl
theorem vx_append (d e sz bytes : Nat) (x y : VX) : vexec P (some d) (.append e sz bytes x y) σ K = onS (appS σ d e sz bytes (σ.val x) (σ.val y)) K := noRfl rfl
theorem vx_appstr (d e : Nat) (x y : VX) : vexec P (some d) (.appstr e x y) σ K = onS (appStrS σ d e (σ.val x) (σ.val y)) K := noRfl rfl
theorem vx_mkslice (d e sz bytes : Nat) (z : List PV) (n c : VX) : vexec P (some d) (.mkslice e sz bytes z n c) σ K = onS (mkS σ d e sz bytes z (σ.val n) (σ.val c)) K := noRfl rfl
theorem vx_call (f : FuncId) (args : List VX) : vexec P dst (.call f args) σ K = VCall P f (args.map σ.val) dst σ K := noRfl rfl
theorem vtx_call (f : FuncId) (args : List VX) : vtakeX P dst (.call f args) σ K = ∃ s, VDet P f (args.map σ.val) σ.obj s ∧ K (setD σ dst s) := noRfl rfl
def onP (o : Option (List PV)) (K : List PV → Prop) : Prop := match o with
  | some s => K s
  | none => False
theorem onP_some (s : List PV) (K : List PV → Prop) : onP (some s) K = K s := noRfl rfl
@[congr] theorem onP_congr {o o' : Option (List PV)} {K : List PV → Prop} (h : ∀ _ : Unit, o = o') : onP o K = onP o' K := by rw [h ()]
theorem vtx_bslice (e sz : Nat) (own : Bool) (ps : List VX) : vtakeX P dst (.bslice own e sz ps) σ K = onP (elems σ sz ps) fun xs => K (setD σ dst (.pv (.list sz xs))) := noRfl rfl
theorem vx_mv (x : _) : vexec P dst (.mv x) σ K = onV (evalV σ (.mv x)) fun s => K (setD σ dst s) := noRfl rfl
theorem vtx_mv (x : _) : vtakeX P dst (.mv x) σ K = onV (evalV σ (.mv x)) fun s => K (setD σ dst s) := noRfl rfl
theorem vx_pick (c : _) (a : _) (b : _) : vexec P dst (.pick c a b) σ K = onV (evalV σ (.pick c a b)) fun s => K (setD σ dst s) := noRfl rfl
theorem vtx_pick (c : _) (a : _) (b : _) : vtakeX P dst (.pick c a b) σ K = onV (evalV σ (.pick c a b)) fun s => K (setD σ dst s) := noRfl rfl
theorem vx_build (zs : _) (ps : _) : vexec P dst (.build zs ps) σ K = onV (evalV σ (.build zs ps)) fun s => K (setD σ dst s) := noRfl rfl
theorem vtx_build (zs : _) (ps : _) : vtakeX P dst (.build zs ps) σ K = onV (evalV σ (.build zs ps)) fun s => K (setD σ dst s) := noRfl rfl
theorem vx_load (ag : _) (n : _) (x : _) : vexec P dst (.load ag n x) σ K = onV (evalV σ (.load ag n x)) fun s => K (setD σ dst s) := noRfl rfl
theorem vtx_load (ag : _) (n : _) (x : _) : vtakeX P dst (.load ag n x) σ K = onV (evalV σ (.load ag n x)) fun s => K (setD σ dst s) := noRfl rfl
theorem vx_nilck (x : _) : vexec P dst (.nilck x) σ K = onV (evalV σ (.nilck x)) fun s => K (setD σ dst s) := noRfl rfl
theorem vtx_nilck (x : _) : vtakeX P dst (.nilck x) σ K = onV (evalV σ (.nilck x)) fun s => K (setD σ dst s) := noRfl rfl
theorem vx_bin (o : _) (x : _) (y : _) : vexec P dst (.bin o x y) σ K = onV (evalV σ (.bin o x y)) fun s => K (setD σ dst s) := noRfl rfl
theorem vtx_bin (o : _) (x : _) (y : _) : vtakeX P dst (.bin o x y) σ K = onV (evalV σ (.bin o x y)) fun s => K (setD σ dst s) := noRfl rfl
theorem vx_eqb (ng : _) (x : _) (y : _) : vexec P dst (.eqb ng x y) σ K = onV (evalV σ (.eqb ng x y)) fun s => K (setD σ dst s) := noRfl rfl
theorem vtx_eqb (ng : _) (x : _) (y : _) : vtakeX P dst (.eqb ng x y) σ K = onV (evalV σ (.eqb ng x y)) fun s => K (setD σ dst s) := noRfl rfl
theorem vx_eqn (k : _) (ng : _) (x : _) : vexec P dst (.eqn k ng x) σ K = onV (evalV σ (.eqn k ng x)) fun s => K (setD σ dst s) := noRfl rfl
theorem vtx_eqn (k : _) (ng : _) (x : _) : vtakeX P dst (.eqn k ng x) σ K = onV (evalV σ (.eqn k ng x)) fun s => K (setD σ dst s) := noRfl rfl
theorem vx_un (o : _) (x : _) : vexec P dst (.un o x) σ K = onV (evalV σ (.un o x)) fun s => K (setD σ dst s) := noRfl rfl
theorem vtx_un (o : _) (x : _) : vtakeX P dst (.un o x) σ K = onV (evalV σ (.un o x)) fun s => K (setD σ dst s) := noRfl rfl
theorem vx_conv (k : _) (x : _) : vexec P dst (.conv k x) σ K = onV (evalV σ (.conv k x)) fun s => K (setD σ dst s) := noRfl rfl
theorem vtx_conv (k : _) (x : _) : vtakeX P dst (.conv k x) σ K = onV (evalV σ (.conv k x)) fun s => K (setD σ dst s) := noRfl rfl
theorem vx_convs (x : _) : vexec P dst (.convs x) σ K = onV (evalV σ (.convs x)) fun s => K (setD σ dst s) := noRfl rfl
theorem vtx_convs (x : _) : vtakeX P dst (.convs x) σ K = onV (evalV σ (.convs x)) fun s => K (setD σ dst s) := noRfl rfl
theorem vx_mkif (t : _) (x : _) : vexec P dst (.mkif t x) σ K = onV (evalV σ (.mkif t x)) fun s => K (setD σ dst s) := noRfl rfl
theorem vtx_mkif (t : _) (x : _) : vtakeX P dst (.mkif t x) σ K = onV (evalV σ (.mkif t x)) fun s => K (setD σ dst s) := noRfl rfl
theorem vx_mkfn (f : _) (cs : _) : vexec P dst (.mkfn f cs) σ K = onV (evalV σ (.mkfn f cs)) fun s => K (setD σ dst s) := noRfl rfl
theorem vtx_mkfn (f : _) (cs : _) : vtakeX P dst (.mkfn f cs) σ K = onV (evalV σ (.mkfn f cs)) fun s => K (setD σ dst s) := noRfl rfl
theorem vx_faddr (off : _) (x : _) : vexec P dst (.faddr off x) σ K = onV (evalV σ (.faddr off x)) fun s => K (setD σ dst s) := noRfl rfl
theorem vtx_faddr (off : _) (x : _) : vtakeX P dst (.faddr off x) σ K = onV (evalV σ (.faddr off x)) fun s => K (setD σ dst s) := noRfl rfl
theorem vx_field (ag : _) (off : _) (n : _) (x : _) : vexec P dst (.field ag off n x) σ K = onV (evalV σ (.field ag off n x)) fun s => K (setD σ dst s) := noRfl rfl
theorem vtx_field (ag : _) (off : _) (n : _) (x : _) : vtakeX P dst (.field ag off n x) σ K = onV (evalV σ (.field ag off n x)) fun s => K (setD σ dst s) := noRfl rfl
theorem vx_iaddr (sz : _) (x : _) (i : _) : vexec P dst (.iaddr sz x i) σ K = onV (evalV σ (.iaddr sz x i)) fun s => K (setD σ dst s) := noRfl rfl
theorem vtx_iaddr (sz : _) (x : _) (i : _) : vtakeX P dst (.iaddr sz x i) σ K = onV (evalV σ (.iaddr sz x i)) fun s => K (setD σ dst s) := noRfl rfl
theorem vx_sidx (x : _) (i : _) : vexec P dst (.sidx x i) σ K = onV (evalV σ (.sidx x i)) fun s => K (setD σ dst s) := noRfl rfl
theorem vtx_sidx (x : _) (i : _) : vtakeX P dst (.sidx x i) σ K = onV (evalV σ (.sidx x i)) fun s => K (setD σ dst s) := noRfl rfl
theorem vx_slice (sz : _) (x : _) (lo : _) (hi : _) : vexec P dst (.slice sz x lo hi) σ K = onV (evalV σ (.slice sz x lo hi)) fun s => K (setD σ dst s) := noRfl rfl
theorem vtx_slice (sz : _) (x : _) (lo : _) (hi : _) : vtakeX P dst (.slice sz x lo hi) σ K = onV (evalV σ (.slice sz x lo hi)) fun s => K (setD σ dst s) := noRfl rfl
theorem vx_sslice (x : _) (lo : _) (hi : _) : vexec P dst (.sslice x lo hi) σ K = onV (evalV σ (.sslice x lo hi)) fun s => K (setD σ dst s) := noRfl rfl
theorem vtx_sslice (x : _) (lo : _) (hi : _) : vtakeX P dst (.sslice x lo hi) σ K = onV (evalV σ (.sslice x lo hi)) fun s => K (setD σ dst s) := noRfl rfl
theorem vx_len (x : _) : vexec P dst (.len x) σ K = onV (evalV σ (.len x)) fun s => K (setD σ dst s) := noRfl rfl
theorem vtx_len (x : _) : vtakeX P dst (.len x) σ K = onV (evalV σ (.len x)) fun s => K (setD σ dst s) := noRfl rfl
theorem vx_slen (x : _) : vexec P dst (.slen x) σ K = onV (evalV σ (.slen x)) fun s => K (setD σ dst s) := noRfl rfl
theorem vtx_slen (x : _) : vtakeX P dst (.slen x) σ K = onV (evalV σ (.slen x)) fun s => K (setD σ dst s) := noRfl rfl
theorem vx_extract (x : _) (i : _) : vexec P dst (.extract x i) σ K = onV (evalV σ (.extract x i)) fun s => K (setD σ dst s) := noRfl rfl
theorem vtx_extract (x : _) (i : _) : vtakeX P dst (.extract x i) σ K = onV (evalV σ (.extract x i)) fun s => K (setD σ dst s) := noRfl rfl
theorem vx_minmax (mx : _) (x : _) (y : _) : vexec P dst (.minmax mx x y) σ K = onV (evalV σ (.minmax mx x y)) fun s => K (setD σ dst s) := noRfl rfl
theorem vtx_minmax (mx : _) (x : _) (y : _) : vtakeX P dst (.minmax mx x y) σ K = onV (evalV σ (.minmax mx x y)) fun s => K (setD σ dst s) := noRfl rfl
theorem bi_add (k : IntKind) (a b : Int) : evBin .add (.int k a) (.int k b) = some (.int k (k.wrap (a + b))) := by simp [evBin]
theorem bi_sub (k : IntKind) (a b : Int) : evBin .sub (.int k a) (.int k b) = some (.int k (k.wrap (a - b))) := by simp [evBin]
theorem bi_mul (k : IntKind) (a b : Int) : evBin .mul (.int k a) (.int k b) = some (.int k (k.wrap (a * b))) := by simp [evBin]
theorem bi_quo (k : IntKind) (a b : Int) (h : b ≠ 0) : evBin .quo (.int k a) (.int k b) = some (.int k (k.wrap (a.tdiv b))) := by simp [evBin, h]
theorem bi_rem (k : IntKind) (a b : Int) (h : b ≠ 0) : evBin .rem (.int k a) (.int k b) = some (.int k (a.tmod b)) := by simp [evBin, h]
theorem bi_and (k : IntKind) (a b : Int) : evBin .and (.int k a) (.int k b) = some (.int k (bits .and k a b)) := by simp [evBin]
theorem bi_or (k : IntKind) (a b : Int) : evBin .or (.int k a) (.int k b) = some (.int k (bits .or k a b)) := by simp [evBin]
theorem bi_xor (k : IntKind) (a b : Int) : evBin .xor (.int k a) (.int k b) = some (.int k (bits .xor k a b)) := by simp [evBin]
theorem bi_eql (k : IntKind) (a b : Int) : evBin .eql (.int k a) (.int k b) = some (.bool (a == b)) := by simp [evBin]
theorem bi_neq (k : IntKind) (a b : Int) : evBin .neq (.int k a) (.int k b) = some (.bool (a != b)) := by simp [evBin]
theorem bi_lss (k : IntKind) (a b : Int) : evBin .lss (.int k a) (.int k b) = some (.bool (decide (a < b))) := by simp [evBin]
theorem bi_leq (k : IntKind) (a b : Int) : evBin .leq (.int k a) (.int k b) = some (.bool (decide (a ≤ b))) := by simp [evBin]
theorem bi_gtr (k : IntKind) (a b : Int) : evBin .gtr (.int k a) (.int k b) = some (.bool (decide (a > b))) := by simp [evBin]
theorem bi_geq (k : IntKind) (a b : Int) : evBin .geq (.int k a) (.int k b) = some (.bool (decide (a ≥ b))) := by simp [evBin]
theorem bi_shl (k k' : IntKind) (a b : Int) (h : 0 ≤ b) : evBin .shl (.int k a) (.int k' b) = some (.int k (k.wrap (a * 2 ^ (min b.toNat k.bits)))) := by simp [evBin, h]
theorem bi_shr (k k' : IntKind) (a b : Int) (h : 0 ≤ b) : evBin .shr (.int k a) (.int k' b) = some (.int k (a.fdiv (2 ^ (min b.toNat k.bits)))) := by simp [evBin, h]
theorem bs_add (x y : ByteArray) : evBin .add (.str x) (.str y) = if (x.size + y.size : Nat) ≤ maxI then some (.str (x ++ y)) else none := by simp [evBin]
theorem bs_eql (x y : ByteArray) : evBin .eql (.str x) (.str y) = some (.bool (x.toList == y.toList)) := by simp [evBin]
theorem bs_neq (x y : ByteArray) : evBin .neq (.str x) (.str y) = some (.bool (!(x.toList == y.toList))) := by simp [evBin]
theorem bs_lss (x y : ByteArray) : evBin .lss (.str x) (.str y) = some (.bool (Op.bytesLess x.toList y.toList)) := by simp [evBin]
theorem bs_leq (x y : ByteArray) : evBin .leq (.str x) (.str y) = some (.bool (Op.bytesLess x.toList y.toList || x.toList == y.toList)) := by simp [evBin]
theorem bs_gtr (x y : ByteArray) : evBin .gtr (.str x) (.str y) = some (.bool (!(Op.bytesLess x.toList y.toList || x.toList == y.toList))) := by simp [evBin]
theorem bs_geq (x y : ByteArray) : evBin .geq (.str x) (.str y) = some (.bool (!Op.bytesLess x.toList y.toList)) := by simp [evBin]
theorem ev_mv (x : VX) : evalV σ (.mv x) = some (σ.val x) := noRfl rfl
end
section
variable {X : Cx} {σ : St} {Q : VE → St → Prop}

/-- What is to come behind the first of two pieces. -/
def seqQ (X : Cx) (y : VC) (Q : VE → St → Prop) : VE → St → Prop
  | .norm, σ => VT X y σ Q
  | .exit i, σ => Q (.exit i) σ
  | .ret, σ => Q .ret σ
/-- What is to come behind a block. -/
def blkQ (id : Nat) (Q : VE → St → Prop) : VE → St → Prop
  | .norm, σ => Q .norm σ
  | .exit i, σ => if i = id then Q .norm σ else Q (.exit i) σ
  | .ret, σ => Q .ret σ
theorem seqQ_norm (y : VC) : seqQ X y Q .norm σ = VT X y σ Q := noRfl rfl
theorem seqQ_exit (y : VC) (i : Nat) : seqQ X y Q (.exit i) σ = Q (.exit i) σ := noRfl rfl
theorem seqQ_ret (y : VC) : seqQ X y Q .ret σ = Q .ret σ := noRfl rfl
theorem blkQ_norm (id : Nat) : blkQ id Q .norm σ = Q .norm σ := noRfl rfl
theorem blkQ_exit (id i : Nat) : blkQ id Q (.exit i) σ = if i = id then Q .norm σ else Q (.exit i) σ := noRfl rfl
theorem blkQ_ret (id : Nat) : blkQ id Q .ret σ = Q .ret σ := noRfl rfl
theorem vt_bl {id : Nat} {b : VC} (h : VT X b σ (blkQ id Q)) : VT X (.block id b) σ Q := by
  refine vt_block (vt_mono h ?_)
  rintro e σ' he
  cases e with
  | norm => exact he
  | ret => exact he
  | exit i => exact he
theorem vt_sq {x y : VC} (h : VT X x σ (seqQ X y Q)) : VT X (.seq x y) σ Q := by
  refine vt_seq (vt_mono h ?_)
  rintro e σ' he
  cases e with
  | norm => exact he
  | ret => exact he
  | exit i => exact he
theorem vt_ops_seq {l : List VOp} {ks ds : List Nat} {y : VC} (h : vsteps X.P l σ fun σ' => σ'.rest ks ds fun τ => VT X y τ Q) : VT X (.seq (.ops l ks ds) y) σ Q := vt_seq (vt_ops h)
theorem vt_dops_seq {p : VPl} {ks ds : List Nat} {y : VC} (h : vpl X.P (fun σ' => σ'.rest ks ds fun τ => VT X y τ Q) p σ) : VT X (.seq (.dops p ks ds) y) σ Q := vt_seq (vt_dops h)
theorem vt_skip_seq {y : VC} (h : VT X y σ Q) : VT X (.seq .skip y) σ Q := vt_seq (vt_skip h)
theorem vt_exit_seq {id : Nat} {y : VC} (h : Q (.exit id) σ) : VT X (.seq (.exit id) y) σ Q := vt_seq (vt_exit h)
theorem vt_ret_seq {y : VC} (h : Q .ret σ) : VT X (.seq .ret y) σ Q := vt_seq (vt_ret h)
theorem vt_block_seq {id : Nat} {b y : VC} (h : VT X b σ (blkQ id (seqQ X y Q))) : VT X (.seq (.block id b) y) σ Q := vt_sq (vt_bl h)
theorem vt_block' {id : Nat} {b : VC} (h : VT X b σ fun e σ' => match e with | .norm => Q .norm σ' | .exit i => if i = id then Q .norm σ' else Q (.exit i) σ' | .ret => Q .ret σ') : VT X (.block id b) σ Q := by
  refine vt_block (vt_mono h ?_)
  rintro e σ' he
  cases e with
  | norm => exact he
  | ret => exact he
  | exit i => exact he
theorem vt_seq' {x y : VC} (h : VT X x σ fun e σ' => match e with | .norm => VT X y σ' Q | .exit i => Q (.exit i) σ' | .ret => Q .ret σ') : VT X (.seq x y) σ Q := by
  refine vt_seq (vt_mono h ?_)
  rintro e σ' he
  cases e with
  | norm => exact he
  | ret => exact he
  | exit i => exact he
theorem fnspec {f : FuncId} {fn : Func} {vc : VC} {args : List SV} {h : List (Nm × OV)} {R : SV → List (Nm × OV) → Prop} {os : List VO}
    (hf : X.P.funcs[f]? = some fn) (hc : fn.body.bind (cCode X) = some vc) (hr : fn.results.toList.mapM (cRes X.P) = some os) (hn : fn.ntmps = X.N) (ha : args.length ≤ X.N) (hh : ∀ e ∈ h, e.1.length = 2)
    (H : VT X vc ⟨argS 0 args, h⟩ fun e σ => (e = .norm ∨ e = .ret) ∧ ∃ σ', Wk X.N σ σ' ∧ ∃ l, evalRs σ' os = some l ∧ R (retV l) σ'.h) : FnSpec X.P f args h R := by
  obtain ⟨c, hb, hc'⟩ := Option.bind_eq_some_iff.1 hc
  exact fnspec_intro hf hb hc' hr hn ha hh H
/-- What is to hold at a function's end. -/
def endQ (os : List VO) (R : SV → Prop) : VE → St → Prop
  | .norm, σ => σ.h = [] ∧ ∃ l, evalRs σ os = some l ∧ R (retV l)
  | .ret, σ => σ.h = [] ∧ ∃ l, evalRs σ os = some l ∧ R (retV l)
  | .exit _, _ => False
theorem endQ_norm (os : List VO) (R : SV → Prop) : endQ os R .norm σ = (σ.h = [] ∧ ∃ l, evalRs σ os = some l ∧ R (retV l)) := noRfl rfl
theorem endQ_ret (os : List VO) (R : SV → Prop) : endQ os R .ret σ = (σ.h = [] ∧ ∃ l, evalRs σ os = some l ∧ R (retV l)) := noRfl rfl
theorem fnspecQ {f : FuncId} {fn : Func} {vc : VC} {args : List SV} {R : SV → Prop} {os : List VO}
    (hf : X.P.funcs[f]? = some fn) (hc : fn.body.bind (cCode X) = some vc) (hr : fn.results.toList.mapM (cRes X.P) = some os) (hn : fn.ntmps = X.N) (ha : args.length ≤ X.N)
    (H : ∀ Q, (∀ σ, Q .norm σ = endQ os R .norm σ) → (∀ σ, Q .ret σ = endQ os R .ret σ) → VT X vc ⟨argS 0 args, []⟩ Q) : FnSpec X.P f args [] fun s h => R s ∧ h = [] :=
  fnspec hf hc hr hn ha (by simp) (vt_mono (H _ (fun _ => rfl) (fun _ => rfl)) fun e σ he => by
    cases e with
    | norm => exact ⟨.inl rfl, σ, Wk.refl _ _, he.2.choose, he.2.choose_spec.1, he.2.choose_spec.2, he.1⟩
    | ret => exact ⟨.inr rfl, σ, Wk.refl _ _, he.2.choose, he.2.choose_spec.1, he.2.choose_spec.2, he.1⟩
    | exit i => exact he.elim)
/-- With nothing handed in, and nothing left to be given up. -/
theorem fnspec0 {f : FuncId} {fn : Func} {vc : VC} {args : List SV} {R : SV → List (Nm × OV) → Prop} {os : List VO}
    (hf : X.P.funcs[f]? = some fn) (hc : fn.body.bind (cCode X) = some vc) (hr : fn.results.toList.mapM (cRes X.P) = some os) (hn : fn.ntmps = X.N) (ha : args.length ≤ X.N)
    (H : VT X vc ⟨argS 0 args, []⟩ fun e σ => (e = .norm ∨ e = .ret) ∧ σ.h = [] ∧ ∃ l, evalRs σ os = some l ∧ R (retV l) []) : FnSpec X.P f args [] R :=
  fnspec hf hc hr hn ha (by simp) (vt_mono H fun e σ ⟨h1, h2, l, h3, h4⟩ => ⟨h1, σ, Wk.refl _ _, l, h3, by rw [h2]; exact h4⟩)
/-- What is to come behind a round. -/
def forQ (c : Prop) (N : St → Prop) (Q : VE → St → Prop) : VE → St → Prop
  | .norm, σ => c ∧ N σ
  | .exit i, σ => Q (.exit i) σ
  | .ret, σ => Q .ret σ
theorem forQ_norm (c : Prop) (N : St → Prop) : forQ c N Q .norm σ = (c ∧ N σ) := noRfl rfl
theorem forQ_exit (c : Prop) (N : St → Prop) (i : Nat) : forQ c N Q (.exit i) σ = Q (.exit i) σ := noRfl rfl
theorem forQ_ret (c : Prop) (N : St → Prop) : forQ c N Q .ret σ = Q .ret σ := noRfl rfl
/-- A loop that counts. -/
theorem vt_for {x : VC} (S : Nat → St) (i0 len : Nat) (h0 : σ = S i0) (hi : i0 ≤ len)
    (hr : ∀ i, i0 ≤ i → i ≤ len → VT X x (S i) (forQ (i < len) (fun σ' => σ' = S (i + 1)) Q)) : VT X (.loop x) σ Q := by
  refine vt_loop (fun n σ => ∃ i, i0 ≤ i ∧ i ≤ len ∧ n = len - i ∧ σ = S i) (len - i0) ⟨i0, Nat.le_refl _, hi, rfl, h0⟩ ?_
  rintro n σ ⟨i, h1, h2, rfl, rfl⟩
  refine vt_mono (hr i h1 h2) ?_
  intro e σ' he
  cases e with
  | norm =>
    obtain ⟨hlt, he⟩ : i < len ∧ _ := he
    exact ⟨len - (i + 1), by omega, i + 1, by omega, by omega, rfl, he⟩
  | exit k => exact he
  | ret => exact he
/-- A call with plain values, by a contract with one outcome. -/
theorem vcall_pure {P : Program} {f : FuncId} {vals : List SV} {dst : Option Nat} {K : St → Prop} {xs : List PV} {y : SV} (hs : FnSpec P f (xs.map .pv) [] fun s h => s = y ∧ h = []) (hv : vals = xs.map .pv) (hk : K (setD σ dst y)) : VCall P f vals dst σ K := by
  subst hv
  refine VDet.vcall (.pure xs hs (by simp) (fun k s x h1 h2 => ?_)) hk
  rw [List.getElem?_map, h2] at h1
  simp only [Option.map_some, Option.some.injEq] at h1
  exact .inl h1.symm
theorem vdet_pure {P : Program} {f : FuncId} {vals : List SV} {h : Nm → Option OV} {K : SV → Prop} {xs : List PV} {y : SV} (hs : FnSpec P f (xs.map .pv) [] fun s h => s = y ∧ h = []) (hv : vals = xs.map .pv) (hk : K y) : ∃ s, VDet P f vals h s ∧ K s := by
  subst hv
  refine ⟨y, .pure xs hs (by simp) (fun k s x h1 h2 => ?_), hk⟩
  rw [List.getElem?_map, h2] at h1
  simp only [Option.map_some, Option.some.injEq] at h1
  exact .inl h1.symm
/-- How long a list at hand may be. -/
theorem vt_len {vc : VC} {d sz : Nat} {xs : List PV} (h : σ.get d = .pv (.list sz xs)) (k : xs.length ≤ 9223372036854775807 → VT X vc σ Q) : VT X vc σ Q :=
  fun c hc E g a w R => k (R.len h) c hc E g a w R
/-- .. with what is known at each round. -/
theorem vt_forI {x : VC} (S : Nat → St) (I : Nat → Prop) (i0 len : Nat) (h0 : σ = S i0) (hI : I i0) (hi : i0 ≤ len)
    (hr : ∀ i, i0 ≤ i → i ≤ len → I i → VT X x (S i) (forQ (i < len) (fun σ' => σ' = S (i + 1) ∧ I (i + 1)) Q)) : VT X (.loop x) σ Q := by
  refine vt_loop (fun n σ => ∃ i, i0 ≤ i ∧ i ≤ len ∧ n = len - i ∧ σ = S i ∧ I i) (len - i0) ⟨i0, Nat.le_refl _, hi, rfl, h0, hI⟩ ?_
  rintro n σ ⟨i, h1, h2, rfl, rfl, h3⟩
  refine vt_mono (hr i h1 h2 h3) ?_
  intro e σ' he
  cases e with
  | norm =>
    obtain ⟨hlt, he, he'⟩ : i < len ∧ _ ∧ _ := he
    exact ⟨len - (i + 1), by omega, i + 1, by omega, by omega, rfl, he, he'⟩
  | exit k => exact he
  | ret => exact he
theorem vt_seq_seq {x y z : VC} (h : VT X (.seq x y) σ (seqQ X z Q)) : VT X (.seq (.seq x y) z) σ Q := vt_sq h
theorem vt_cond_seq {v : VX} {x y z : VC} (h : VT X (.cond v x y) σ (seqQ X z Q)) : VT X (.seq (.cond v x y) z) σ Q := vt_sq h
theorem vt_loop_seq {x z : VC} (h : VT X (.loop x) σ (seqQ X z Q)) : VT X (.seq (.loop x) z) σ Q := vt_sq h
end
end Go.VL
