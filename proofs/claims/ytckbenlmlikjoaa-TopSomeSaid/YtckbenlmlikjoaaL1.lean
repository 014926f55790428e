/- Plain law: the search for a least accepted term. -/
import Derived.Test.YtckbenlmlikjoaaS1
import Derived.Test.YtckbenlmlikjoaaE9
set_option linter.unusedVariables false
set_option linter.unusedSimpArgs false
set_option maxRecDepth 20000
namespace Go.VL.A
open Go.Proofs.Try
@[reducible] def optP : Option Tm → PV
  | none => .nilPtr
  | some t => .ptr (tmC t)
abbrev optC (o : Option Tm) : List PV := [optP o]
def bgt (best : List (Option Tm)) (s : Int) : Option Tm := best.getD s.toNat none
def cargs (best : List (Option Tm)) (l : List Int) : List Tm := l.map fun s => (bgt best s).getD default
def full (best : List (Option Tm)) (l : List Int) : Prop := ∀ s ∈ l, bgt best s ≠ none
def cnd (best : List (Option Tm)) (m : Mv) : Tm := .node m.name (cargs best m.frm)
def Stb (best : List (Option Tm)) (m : Mv) : Prop := full best m.frm → (cnd best m).size ≤ 2000 → ∃ u, bgt best m.to = some u ∧ lessF (cnd best m) u = false
/-- A term ends in a state. -/
inductive Inn (ms : List Mv) : Tm → Int → Prop
  | mk (m : Mv) (hm : m ∈ ms) (ts : List Tm) (hl : ts.length = m.frm.length) (h : ∀ i, i < ts.length → Inn ms (ts.getD i default) (m.frm.getD i 0)) : Inn ms (.node m.name ts) m.to
/-- All names may be names. -/
def Tm.nms : Tm → Bool
  | .node n ts => nameF n && (ts.map Tm.nms).all id
theorem Tm.nms_node (n : ByteArray) (ts : List Tm) : Tm.nms (.node n ts) = true ↔ nameF n = true ∧ ∀ t ∈ ts, Tm.nms t = true := by
  rw [Tm.nms]; simp
theorem nameF_size {s : ByteArray} (h : nameF s = true) : 1 ≤ s.size ∧ s.size ≤ 8 := by
  simp only [nameF, Bool.and_eq_true, decide_eq_true_eq] at h
  exact h.1.1
theorem Tm.nms_named (t : Tm) : Tm.nms t = true → Tm.named t = true := by
  induction t using Tm.ind with
  | h n ts ih =>
  intro h
  obtain ⟨h1, h2⟩ := (Tm.nms_node _ _).1 h
  have := nameF_size h1
  exact (Tm.named_node _ _).2 ⟨by omega, fun t ht => ih t ht (h2 t ht)⟩
theorem shN_size (s : ByteArray) (l : List ByteArray) (i : Nat) (h : i ≤ l.length) : (shN s l i).size = s.size + i + ((l.take i).map ByteArray.size).sum := by
  induction i with
  | zero => simp [shN]
  | succ i ih =>
    rw [shN, ByteArray.size_append, ByteArray.size_append, ih (by omega), take_snoc default (by omega)]
    have : (bty (sepB i)).size = 1 := rfl
    simp
    omega
theorem Tm.shw_le (t : Tm) : Tm.nms t = true → (Tm.shw t).size + 1 ≤ 11 * t.size := by
  induction t using Tm.ind with
  | h n ts ih =>
  intro h
  obtain ⟨h1, h2⟩ := (Tm.nms_node _ _).1 h
  have hn := nameF_size h1
  rw [Tm.shw_node, Tm.size_node]
  have e1 : (shE (shN n (ts.map Tm.shw) ts.length) ts.length).size ≤ (shN n (ts.map Tm.shw) ts.length).size + 1 := by
    unfold shE
    split
    · omega
    · rw [ByteArray.size_append]; exact Nat.le_refl _
  rw [shN_size _ _ _ (by simp)] at e1
  have e2 : ((List.take ts.length (ts.map Tm.shw)).map ByteArray.size).sum + ts.length ≤ 11 * (ts.map Tm.size).sum := by
    rw [List.take_of_length_le (by simp)]
    clear e1 h
    induction ts with
    | nil => simp
    | cons a r ih2 =>
      have a1 := ih a (by simp) (h2 a (by simp))
      have a2 := ih2 (fun t ht => ih t (by simp [ht])) (fun t ht => h2 t (by simp [ht]))
      simp only [List.map_cons, List.sum_cons, List.length_cons] at a2 ⊢
      omega
  omega
theorem Inn.nms {ms : List Mv} (hn : ∀ m ∈ ms, nameF m.name = true) {t : Tm} {k : Int} (h : Inn ms t k) : Tm.nms t = true := by
  induction h with
  | mk m hm ts hl h ih =>
    refine (Tm.nms_node _ _).2 ⟨hn m hm, fun t ht => ?_⟩
    obtain ⟨i, hi, rfl⟩ := List.mem_iff_getElem.1 ht
    have := ih i hi
    rwa [List.getD_eq_getElem?_getD, List.getElem?_eq_getElem hi] at this
/-- What is kept while it searches. -/
structure Inv (n : Int) (ms : List Mv) (best : List (Option Tm)) : Prop where
  len : best.length = n.toNat
  inn : ∀ k t, 0 ≤ k → bgt best k = some t → Inn ms t k ∧ t.size ≤ 2000
theorem bgt_set (best : List (Option Tm)) (k s : Int) (x : Option Tm) (hk : 0 ≤ k) (hs : 0 ≤ s) (hl : k.toNat < best.length) : bgt (best.set k.toNat x) s = if s = k then x else bgt best s := by
  unfold bgt
  rw [List.getD_eq_getElem?_getD, List.getElem?_set]
  by_cases h : k.toNat = s.toNat
  · have : s = k := by omega
    subst this
    simp [hl]
  · have : s ≠ k := by omega
    rw [if_neg h, if_neg this, List.getD_eq_getElem?_getD]
theorem cnd_inn {n : Int} {ms : List Mv} {best : List (Option Tm)} (I : Inv n ms best) {m : Mv} (hm : m ∈ ms) (h0 : ∀ s ∈ m.frm, 0 ≤ s) (hf : full best m.frm) : Inn ms (cnd best m) m.to := by
  refine .mk m hm _ (by simp [cargs]) (fun i hi => ?_)
  have hi' : i < m.frm.length := by simpa [cargs] using hi
  have hs := getD_mem (d := 0) hi'
  have e : (cargs best m.frm).getD i default = (bgt best (m.frm.getD i 0)).getD default := by
    unfold cargs
    rw [List.getD_eq_getElem?_getD, List.getElem?_map, List.getD_eq_getElem?_getD, List.getElem?_eq_getElem hi']
    rfl
  rw [e]
  obtain ⟨u, hu⟩ := Option.ne_none_iff_exists'.1 (hf _ hs)
  rw [hu]
  exact (I.inn _ u (h0 _ hs) hu).1
theorem Inv.set {n : Int} {ms : List Mv} {best : List (Option Tm)} (I : Inv n ms best) {m : Mv} (hm : m ∈ ms) (h0 : ∀ s ∈ m.frm, 0 ≤ s) (ht : 0 ≤ m.to ∧ m.to < n) (hf : full best m.frm) (hz : (cnd best m).size ≤ 2000) : Inv n ms (best.set m.to.toNat (some (cnd best m))) := by
  have hl := I.len
  refine ⟨by rw [List.length_set]; exact hl, fun k t hk hb => ?_⟩
  rw [bgt_set _ _ _ _ ht.1 hk (by omega)] at hb
  split at hb
  · rename_i e; subst e
    cases hb
    exact ⟨cnd_inn I hm h0 hf, hz⟩
  · exact I.inn k t hk hb
/-- The order of texts, as a number. -/
def valL : Nat → List UInt8 → Nat
  | 0, _ => 0
  | _ + 1, [] => 0
  | L + 1, a :: r => (a.toNat + 1) * 257 ^ L + valL L r
theorem valL_lt (L : Nat) (l : List UInt8) : valL L l < 257 ^ L := by
  induction L generalizing l with
  | zero => simp [valL]
  | succ L ih =>
    have hp : 0 < 257 ^ L := Nat.pow_pos (by omega)
    cases l with
    | nil => simp only [valL]; exact Nat.pow_pos (by omega)
    | cons a r =>
      have h1 := ih r
      have h2 : a.toNat + 1 ≤ 256 := a.toNat_lt
      have h3 : (a.toNat + 1) * 257 ^ L ≤ 256 * 257 ^ L := Nat.mul_le_mul_right _ h2
      simp only [valL, Nat.pow_succ]
      omega
theorem bytesLess_val : ∀ (L : Nat) (x y : List UInt8), x.length ≤ L → y.length ≤ L → Op.bytesLess x y = true → valL L x < valL L y := by
  intro L
  induction L with
  | zero =>
    intro x y hx hy h
    have : x = [] := List.eq_nil_of_length_eq_zero (by omega)
    have : y = [] := List.eq_nil_of_length_eq_zero (by omega)
    subst x; subst y
    simp [Op.bytesLess] at h
  | succ L ih =>
    intro x y hx hy h
    have hp : 0 < 257 ^ L := Nat.pow_pos (by omega)
    cases x with
    | nil =>
      cases y with
      | nil => simp [Op.bytesLess] at h
      | cons b s =>
        simp only [valL]
        have : 257 ^ L ≤ (b.toNat + 1) * 257 ^ L := Nat.le_mul_of_pos_left _ (by omega)
        omega
    | cons a r =>
      cases y with
      | nil => simp [Op.bytesLess] at h
      | cons b s =>
        simp only [valL]
        have h1 := valL_lt L r
        have h2 := valL_lt L s
        simp only [Op.bytesLess] at h
        simp only [List.length_cons, Nat.add_le_add_iff_right] at hx hy
        rw [Bool.or_eq_true, Bool.and_eq_true] at h
        rcases h with h | ⟨h, h'⟩
        · have hab : a.toNat < b.toNat := by simpa [UInt8.lt_iff_toNat_lt] using h
          have : (a.toNat + 1 + 1) * 257 ^ L ≤ (b.toNat + 1) * 257 ^ L := Nat.mul_le_mul_right _ (by omega)
          rw [Nat.add_mul (a.toNat + 1)] at this
          omega
        · have hab : a = b := by simpa using h
          subst hab
          have := ih r s hx hy h'
          omega
theorem toList_len (x : ByteArray) : x.toList.length = x.size := by
  rw [ByteArray.toList_eq]; simp
def rkO (L : Nat) : Option Tm → Nat
  | none => 2001 * 257 ^ L
  | some t => t.size * 257 ^ L + valL L (Tm.shw t).toList
theorem rk_some_lt (L : Nat) (t : Tm) (h : t.size ≤ 2000) : rkO L (some t) < rkO L none := by
  have := valL_lt L (Tm.shw t).toList
  have h2 : (t.size + 1) * 257 ^ L ≤ 2001 * 257 ^ L := Nat.mul_le_mul_right _ (by omega)
  rw [Nat.add_mul] at h2
  simp only [rkO]
  omega
theorem lessF_size {t u : Tm} (h : lessF t u = true) : t.size ≤ u.size := by
  unfold lessF at h
  split at h
  · simp at h; omega
  · omega
theorem lessF_size' {t u : Tm} (h : lessF t u = false) : u.size ≤ t.size := by
  unfold lessF at h
  split at h
  · simp at h; omega
  · omega
theorem rk_less (L : Nat) (t u : Tm) (ht : (Tm.shw t).size ≤ L) (hu : (Tm.shw u).size ≤ L) (h : lessF t u = true) : rkO L (some t) < rkO L (some u) := by
  have h1 := valL_lt L (Tm.shw t).toList
  simp only [rkO]
  unfold lessF at h
  split at h
  · have hlt : t.size < u.size := by simp at h; omega
    have h2 : (t.size + 1) * 257 ^ L ≤ u.size * 257 ^ L := Nat.mul_le_mul_right _ hlt
    rw [Nat.add_mul] at h2
    omega
  · have he : t.size = u.size := by omega
    rw [he]
    have := bytesLess_val L (Tm.shw t).toList (Tm.shw u).toList (by rw [toList_len]; exact ht) (by rw [toList_len]; exact hu) h
    omega
def meas (L : Nat) (best : List (Option Tm)) : Nat := (best.map (rkO L)).sum
theorem meas_set (L : Nat) (x : Option Tm) : ∀ (best : List (Option Tm)) (k : Nat), k < best.length → rkO L x < rkO L (best.getD k none) → meas L (best.set k x) < meas L best
  | [], k, h, _ => by simp at h
  | a :: r, 0, _, h => by simpa [meas] using h
  | a :: r, k + 1, h, h' => by
    have := meas_set L x r k (by simpa using h) (by simpa using h')
    simp only [meas, List.set_cons_succ, List.map_cons, List.sum_cons] at this ⊢
    omega
end Go.VL.A
namespace Go.VL.A
open Go.Proofs.Try
theorem sum_le_at {α β : Type} (f : α → Nat) (g : β → Nat) (da : α) (db : β) : ∀ (l : List α) (r : List β), l.length = r.length → (∀ i, i < l.length → f (l.getD i da) ≤ g (r.getD i db)) → (l.map f).sum ≤ (r.map g).sum
  | [], [], _, _ => Nat.le_refl _
  | [], b :: r, h, _ => by simp at h
  | a :: l, [], h, _ => by simp at h
  | a :: l, b :: r, h, h' => by
    have h1 := h' 0 (by simp)
    have h2 := sum_le_at f g da db l r (by simpa using h) (fun i hi => by simpa using h' (i + 1) (by simpa using hi))
    simp only [List.getD_cons_zero] at h1
    simp only [List.map_cons, List.sum_cons]
    omega
theorem cargs_getD {best : List (Option Tm)} {l : List Int} {i : Nat} (hi : i < l.length) : (cargs best l).getD i default = (bgt best (l.getD i 0)).getD default := by
  unfold cargs
  rw [List.getD_eq_getElem?_getD, List.getElem?_map, List.getD_eq_getElem?_getD, List.getElem?_eq_getElem hi]
  rfl
theorem mem_getD {l : List Int} {s : Int} (h : s ∈ l) : ∃ i, i < l.length ∧ l.getD i 0 = s := by
  obtain ⟨i, hi, rfl⟩ := List.mem_iff_getElem.1 h
  exact ⟨i, hi, by rw [List.getD_eq_getElem?_getD, List.getElem?_eq_getElem hi]; rfl⟩
section
variable {n : Int} {ms : List Mv} {ls : List Int} {best : List (Option Tm)}
theorem getD_size_lt {ts : List Tm} {nm : ByteArray} {i : Nat} (hi : i < ts.length) : (ts.getD i default).size < (Tm.node nm ts).size := by
  have := size_mem_le (getD_mem (d := default) hi)
  rw [Tm.size_node]; omega
theorem cnd_le {m : Mv} {ts : List Tm} (hl : ts.length = m.frm.length) (h : ∀ i, i < ts.length → ∃ u, bgt best (m.frm.getD i 0) = some u ∧ u.size ≤ (ts.getD i default).size) : full best m.frm ∧ (cnd best m).size ≤ (Tm.node m.name ts).size := by
  constructor
  · intro s hs
    obtain ⟨i, hi, rfl⟩ := mem_getD hs
    obtain ⟨u, hu, _⟩ := h i (by omega)
    rw [hu]; simp
  · rw [cnd, Tm.size_node, Tm.size_node]
    have := sum_le_at Tm.size Tm.size default default (cargs best m.frm) ts (by simp [cargs, hl]) (fun i hi => by
      have hi' : i < m.frm.length := by simpa [cargs] using hi
      obtain ⟨u, hu, h2⟩ := h i (by omega)
      rw [cargs_getD hi', hu]; exact h2)
    omega
theorem stb_min (hS : ∀ m ∈ ms, Stb best m) {t : Tm} {k : Int} (h : Inn ms t k) : t.size ≤ 2000 → ∃ u, bgt best k = some u ∧ u.size ≤ t.size := by
  induction h with
  | mk m hm ts hl h ih =>
    intro hz
    obtain ⟨h1, h2⟩ := cnd_le (best := best) (m := m) hl (fun i hi => ih i hi (by have := getD_size_lt (nm := m.name) hi; omega))
    obtain ⟨u, hu, h3⟩ := hS m hm h1 (by omega)
    exact ⟨u, hu, by have := lessF_size' h3; omega⟩
/-- In how many states there is a smaller one. -/
def rank (best : List (Option Tm)) (z : Nat) : Nat := best.countP fun o => match o with | some v => decide (v.size < z) | none => false
theorem rank_lt {z z' : Nat} {k : Int} {v : Tm} (hv : bgt best k = some v) (h1 : v.size = z) (h2 : z < z') : rank best z + 1 ≤ rank best z' := by
  unfold rank
  have hmem : some v ∈ best := by
    unfold bgt at hv
    rw [List.getD_eq_getElem?_getD] at hv
    cases h : best[k.toNat]? with
    | none => rw [h] at hv; cases hv
    | some o => rw [h] at hv; simp at hv; subst hv; exact List.mem_of_getElem? h
  obtain ⟨l, r, rfl⟩ := List.append_of_mem hmem
  rw [List.countP_append, List.countP_append, List.countP_cons, List.countP_cons]
  have mono : ∀ l : List (Option Tm), l.countP (fun o => match o with | some v => decide (v.size < z) | none => false) ≤ l.countP (fun o => match o with | some v => decide (v.size < z') | none => false) := by
    intro l
    refine List.countP_mono_left (fun o _ ho => ?_)
    cases o with
    | none => cases ho
    | some v => simp at ho ⊢; omega
  have m1 := mono l
  have m2 := mono r
  simp only [h1, Nat.lt_irrefl, decide_false, Bool.false_eq_true, if_false, h2, decide_true, if_true]
  omega
theorem rank_le {k : Int} {v : Tm} (hv : bgt best k = some v) : rank best v.size + 1 ≤ best.length := by
  have h1 := rank_lt hv rfl (show v.size < v.size + 1 by omega)
  have : rank best (v.size + 1) ≤ best.length := List.countP_le_length
  omega
theorem stb_small (I : Inv n ms best) (hS : ∀ m ∈ ms, Stb best m) (h0 : ∀ m ∈ ms, ∀ s ∈ m.frm, 0 ≤ s) (har : ∀ m ∈ ms, m.frm.length ≤ 2) : ∀ (z : Nat) (k : Int) (u : Tm), 0 ≤ k → u.size ≤ z → bgt best k = some u → u.size + 1 ≤ 2 ^ (rank best u.size + 1) := by
  intro z
  induction z with
  | zero => intro k u _ hz; have := u.size_pos; omega
  | succ z ih =>
    intro k u hk hz hb
    obtain ⟨hi, hle⟩ := I.inn k u hk hb
    cases hi with
    | mk m hm ts hl h =>
      have key : ∀ i, i < ts.length → ∃ v, bgt best (m.frm.getD i 0) = some v ∧ v.size ≤ (ts.getD i default).size := fun i hi => stb_min hS (h i hi) (by have := getD_size_lt (nm := m.name) hi; omega)
      obtain ⟨h1, h2⟩ := cnd_le (best := best) (m := m) hl key
      obtain ⟨u', hu', h3⟩ := hS m hm h1 (by omega)
      rw [hb] at hu'; cases hu'
      have h4 := lessF_size' h3
      have h5 : ∀ x ∈ (cargs best m.frm).map Tm.size, x + 1 ≤ 2 ^ rank best (Tm.node m.name ts).size := by
        intro x hx
        obtain ⟨y, hy, rfl⟩ := List.mem_map.1 hx
        obtain ⟨s, hs, rfl⟩ := List.mem_map.1 hy
        obtain ⟨i, hi, rfl⟩ := mem_getD hs
        obtain ⟨v, hv, hvs⟩ := key i (by omega)
        have hlt := getD_size_lt (nm := m.name) (show i < ts.length by omega)
        rw [hv]
        have h6 := ih (m.frm.getD i 0) v (h0 m hm _ hs) (by omega) hv
        have h7 := rank_lt hv rfl (show v.size < (Tm.node m.name ts).size by omega)
        exact Nat.le_trans h6 (Nat.pow_le_pow_right (by omega) h7)
      have h6 : (cnd best m).size = 1 + ((cargs best m.frm).map Tm.size).sum := Tm.size_node _ _
      have h7 : ((cargs best m.frm).map Tm.size).length ≤ 2 := by simpa [cargs] using har m hm
      rw [Nat.pow_succ]
      generalize (cargs best m.frm).map Tm.size = sz at *
      match sz, h5, h6, h7 with
      | [], _, h6, _ => simp at h6; have := Nat.pow_pos (a := 2) (n := rank best (Tm.node m.name ts).size) (by omega); omega
      | [a], h5, h6, _ => have := h5 a (by simp); simp at h6; omega
      | [a, b], h5, h6, _ => have := h5 a (by simp); have := h5 b (by simp); simp at h6; omega
      | _ :: _ :: _ :: _, _, _, h7 => simp at h7
theorem stb_15 (I : Inv n ms best) (hn : n ≤ 4) (hS : ∀ m ∈ ms, Stb best m) (h0 : ∀ m ∈ ms, ∀ s ∈ m.frm, 0 ≤ s) (har : ∀ m ∈ ms, m.frm.length ≤ 2) {k : Int} {u : Tm} (hk : 0 ≤ k) (hb : bgt best k = some u) : u.size ≤ 15 := by
  have h1 := stb_small I hS h0 har u.size k u hk (Nat.le_refl _) hb
  have h2 := rank_le hb
  have h3 := I.len
  have h4 : rank best u.size + 1 ≤ 4 := by omega
  have h5 : 2 ^ (rank best u.size + 1) ≤ 2 ^ 4 := Nat.pow_le_pow_right (by omega) h4
  omega
end
/-! ### Runs, as bits -/
theorem ok_iff (m : Mv) (bl : List Nat) (j : Nat) : m.ok bl j = true ↔ ∀ i, i < j → (bl.getD i 0).testBit (m.frm.getD i 0).toNat = true := by
  simp [Mv.ok]
theorem aftF_bit (nm : ByteArray) (bl : List Nat) (ms : List Mv) (k : Nat) : (aftF nm bl ms).testBit k = true ↔ ∃ m ∈ ms, m.fits nm bl = true ∧ m.to.toNat = k := by
  have key : ∀ (ms : List Mv) (o : Nat), (ms.foldl (fun o m => if m.fits nm bl = true then o ||| 2 ^ m.to.toNat else o) o).testBit k = true ↔ o.testBit k = true ∨ ∃ m ∈ ms, m.fits nm bl = true ∧ m.to.toNat = k := by
    intro ms
    induction ms with
    | nil => intro o; simp
    | cons m r ih =>
      intro o
      rw [List.foldl_cons, ih]
      by_cases h : m.fits nm bl = true
      · rw [if_pos h, Nat.testBit_or, Bool.or_eq_true, Nat.testBit_two_pow]
        simp only [decide_eq_true_eq, List.mem_cons, exists_eq_or_imp, h, true_and]
        rw [or_assoc]
      · rw [if_neg h]
        simp only [List.mem_cons, exists_eq_or_imp]
        constructor
        · rintro (h1 | h1)
          · exact .inl h1
          · exact .inr (.inr h1)
        · rintro (h1 | ⟨h1, _⟩ | h1)
          · exact .inl h1
          · exact absurd h1 h
          · exact .inr h1
  have := key ms 0
  rw [Nat.zero_testBit] at this
  simpa [aftF] using this
theorem runF_bit {ms : List Mv} (hm : ∀ m ∈ ms, MvOk m) (t : Tm) : ∀ k : Int, 0 ≤ k → ((runF ms t).testBit k.toNat = true ↔ Inn ms t k) := by
  induction t using Tm.ind with
  | h nm ts ih =>
  intro k hk
  rw [runF_node, aftF_bit]
  constructor
  · rintro ⟨m, h1, h2, h3⟩
    simp only [Mv.fits, Bool.and_eq_true, decide_eq_true_eq] at h2
    obtain ⟨⟨rfl, h4⟩, h5⟩ := h2
    rw [List.length_map] at h4
    have ht := (hm m h1).1.1
    have : m.to = k := by omega
    subst this
    refine .mk m h1 ts h4.symm (fun i hi => ?_)
    have h6 := (ok_iff _ _ _).1 h5 i (by omega)
    rw [show (ts.map (runF ms)).getD i 0 = runF ms (ts.getD i default) by rw [List.getD_eq_getElem?_getD, List.getElem?_map, List.getD_eq_getElem?_getD, List.getElem?_eq_getElem hi]; rfl] at h6
    exact (ih _ (getD_mem hi) _ ((hm m h1).2 _ (getD_mem (by omega))).1).1 h6
  · intro h
    cases h with
    | mk m h1 ts hl h =>
      refine ⟨m, h1, ?_, rfl⟩
      simp only [Mv.fits, Bool.and_eq_true, decide_eq_true_eq, List.length_map]
      refine ⟨⟨trivial, hl.symm⟩, (ok_iff _ _ _).2 (fun i hi => ?_)⟩
      have hi' : i < ts.length := by omega
      rw [show (ts.map (runF ms)).getD i 0 = runF ms (ts.getD i default) by rw [List.getD_eq_getElem?_getD, List.getElem?_map, List.getD_eq_getElem?_getD, List.getElem?_eq_getElem hi']; rfl]
      exact (ih _ (getD_mem hi') _ ((hm m h1).2 _ (getD_mem hi)).1).2 (h i hi')
theorem lstF_bit (ls : List Int) (k : Nat) : (lstF ls).testBit k = true ↔ ∃ s ∈ ls, s.toNat = k := by
  have key : ∀ (ls : List Int) (o : Nat), (ls.foldl (fun o s => o ||| 2 ^ s.toNat) o).testBit k = true ↔ o.testBit k = true ∨ ∃ s ∈ ls, s.toNat = k := by
    intro ls
    induction ls with
    | nil => intro o; simp
    | cons m r ih =>
      intro o
      rw [List.foldl_cons, ih, Nat.testBit_or, Bool.or_eq_true, Nat.testBit_two_pow]
      simp only [decide_eq_true_eq, List.mem_cons, exists_eq_or_imp]
      rw [or_assoc]
  have := key ls 0
  rw [Nat.zero_testBit] at this
  simpa [lstF] using this
theorem accF_iff {ms : List Mv} {ls : List Int} (hm : ∀ m ∈ ms, MvOk m) (hl : ∀ s ∈ ls, 0 ≤ s) (t : Tm) : accF ms ls t = true ↔ ∃ s ∈ ls, Inn ms t s := by
  unfold accF
  rw [Bool.not_eq_true', decide_eq_false_iff_not]
  constructor
  · intro h
    have : ∃ i, (runF ms t &&& lstF ls).testBit i = true := by
      refine Classical.byContradiction fun hc => h (Nat.eq_of_testBit_eq fun i => ?_)
      rw [Nat.zero_testBit]
      cases hb : (runF ms t &&& lstF ls).testBit i with
      | false => rfl
      | true => exact absurd ⟨i, hb⟩ hc
    obtain ⟨i, hi⟩ := this
    rw [Nat.testBit_and, Bool.and_eq_true] at hi
    obtain ⟨s, hs, rfl⟩ := (lstF_bit _ _).1 hi.2
    exact ⟨s, hs, (runF_bit hm t s (hl s hs)).1 hi.1⟩
  · rintro ⟨s, hs, h⟩ h0
    have h1 := (runF_bit hm t s (hl s hs)).2 h
    have h2 := (lstF_bit ls s.toNat).2 ⟨s, hs, rfl⟩
    have : (runF ms t &&& lstF ls).testBit s.toNat = true := by rw [Nat.testBit_and, h1, h2]; rfl
    rw [h0, Nat.zero_testBit] at this
    cases this
end Go.VL.A
