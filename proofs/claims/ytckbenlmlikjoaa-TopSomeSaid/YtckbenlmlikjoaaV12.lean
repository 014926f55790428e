/- The value-level logic, part 12: append, slice literals, make. -/
import Derived.Test.YtckbenlmlikjoaaV11
import Derived.Lib.AppendStr
import Derived.Laws.MakeOwn
import Derived.Great.BuildSlice
set_option linter.unusedVariables false
set_option linter.unusedSimpArgs false
namespace Go.VL

/-- The cells of a whole slice. -/
def listCells (σ : St) (sz : Nat) : SV → Option (List SV)
  | .pv (.list s xs) => if s = sz then some ((flat xs).map .pv) else none
  | .pv .nilS => some []
  | .pv .emptyS => some []
  | .arr n tag => match σ.obj n with
    | some (.arr _ s cs) => if s = sz ∧ tag = cs.length then some cs else none
    | _ => none
  | _ => none

/-- append(x, y...), its value in slot d. -/
def appS (σ : St) (d e sz bytes : Nat) (x y : SV) : Option St :=
  match listCells σ sz y with
  | none => none
  | some ys => match x with
    | .pv .nilS => match ys with
      | [] => some (σ.set d (.pv .nilS))
      | _ => match σ.obj [d] with
        | none => if 0 < bytes ∧ ys.length / sz * bytes ≤ 140737488355328 then some ((σ.put [d] (.arr e sz ys)).set d (.arr [d] ys.length)) else none
        | some _ => none
    | .arr n tag => match σ.obj n with
      | some (.arr t s cs) => if t = e ∧ s = sz ∧ tag = cs.length then
          (match ys with
          | [] => some (σ.set d (.arr n tag))
          | _ => if 0 < bytes ∧ (cs.length / sz + ys.length / sz) * bytes ≤ 140737488355328 then some ((σ.put n (.arr t s (cs ++ ys))).set d (.arr n (cs ++ ys).length)) else none)
        else none
      | _ => none
    | _ => none

/-- All parts of one size, one behind the other. -/
def dense (σ : St) (sz : Nat) : List VX → Option (List SV)
  | [] => some []
  | x :: r => match (σ.val x).cellsL, dense σ sz r with
    | some c, some l => if c.length = sz then some (c ++ l) else none
    | _, _ => none
/-- All parts as elements. -/
def elems (σ : St) (sz : Nat) : List VX → Option (List PV)
  | [] => some []
  | x :: r => match σ.val x, elems σ sz r with
    | .pv p, some l => if p.cells.length = sz then some (p :: l) else none
    | _, _ => none
def bsliceS (σ : St) (d e sz : Nat) (own : Bool) (parts : List VX) : Option St :=
  if own then (match dense σ sz parts, σ.obj [d] with
    | some cs, none => some ((σ.put [d] (.arr e sz cs)).set d (.arr [d] cs.length))
    | _, _ => none)
  else (elems σ sz parts).map fun xs => σ.set d (.pv (.list sz xs))

def mkS (σ : St) (d e sz bytes : Nat) (z : List PV) (n c : SV) : Option St :=
  match n, c, σ.obj [d] with
  | .pv (.int _ n), .pv (.int _ c), none => if 0 ≤ n ∧ n = c ∧ n * bytes ≤ 281474976710656 ∧ n ≤ 9223372036854775807 then
      some ((σ.put [d] (.arr e sz ((List.replicate n.toNat (z.map SV.pv)).flatten))).set d (.arr [d] (n.toNat * sz)))
    else none
  | _, _, _ => none

section
variable {P : Program} {E : Env} {N : Nat} {g : Gh} {σ : St} {a : Act} {w : World}

/-- A whole slice, read. -/
theorem listCells_rel (R : Rel E N g σ a w) {sz : Nat} (hpos : 0 < sz) {s : SV} {v : Value} {cs : List SV} (hs : SVRel w g σ.obj s v) (hc : listCells σ sz s = some cs) :
    ∃ base m cap vs, v = .slice base m cap ∧ cs.length = m * sz ∧ Cells w g σ.obj cs vs ∧ (m ≠ 0 → ∃ b off, base = some ⟨b, off, none⟩ ∧ w.rangeAt b off vs) ∧ m ≤ maxI := by
  cases hs with
  | pv x v hx =>
    cases hx <;> simp only [listCells, reduceCtorEq, Option.some.injEq] at hc
    · rename_i s xs base cap b off u hs hb hm hcap hw hr hnc
      split at hc <;> try (cases hc; done)
      rename_i hsz
      subst hsz
      simp only [Option.some.injEq] at hc
      subst hc
      have hl := flat_length xs hs
      refine ⟨base, xs.length, cap, (List.range (flat xs).length).map u, rfl, by simp [hl], ⟨by simp, fun v hv => ?_, fun k c v hc hv => ?_⟩, fun hm => ?_, hm⟩
      · simp only [List.mem_map, List.mem_range] at hv
        obtain ⟨k, hk, rfl⟩ := hv
        exact (hw k hk).2
      · simp only [List.getElem?_map, Option.map_eq_some_iff] at hc hv
        obtain ⟨p, hp, rfl⟩ := hc
        obtain ⟨k', hk', rfl⟩ := hv
        have hkl := (List.getElem?_eq_some_iff.1 hp).1
        have : k' = k := by
          rw [List.getElem?_range hkl] at hk'
          simpa using hk'.symm
        subst this
        exact .pv _ _ (hr k' p hp)
      · have hne : xs ≠ [] := by rintro rfl; simp at hm
        obtain ⟨h1, h2⟩ := hb hne
        refine ⟨b, off, h1, fun j v hv => ?_⟩
        simp only [List.getElem?_map, Option.map_eq_some_iff] at hv
        obtain ⟨k', hk', rfl⟩ := hv
        obtain ⟨h3, h4⟩ := List.getElem?_eq_some_iff.1 hk'
        simp only [List.length_range] at h3
        simp only [List.getElem_range] at h4
        subst h4
        exact (hw j h3).1
    · subst hc
      exact ⟨none, 0, 0, [], rfl, by simp, ⟨rfl, by simp, by simp⟩, fun h => absurd rfl h, by simp [maxI]⟩
    · subst hc
      exact ⟨_, 0, _, [], rfl, by simp, ⟨rfl, by simp, by simp⟩, fun h => absurd rfl h, by simp [maxI]⟩
  | arr n tag t sz' cs' v ho hg hb h1 =>
    simp only [listCells, ho] at hc
    split at hc <;> try (cases hc; done)
    rename_i hcc
    obtain ⟨rfl, htag⟩ := hcc
    simp only [Option.some.injEq] at hc
    subst hc
    have hv := hb htag
    obtain ⟨_, k, xs, hx1, hx2⟩ := R.objs n _ ho
    rw [← hv] at hx1
    rcases hx1.2 with ⟨rfl, rfl⟩ | ⟨gg, cap, cur, rfl, hg', hh, h2, h3, h4, h5⟩
    · exact ⟨none, 0, 0, xs, rfl, by rw [hx2.1, hx1.1], hx2, fun h => absurd rfl h, by simp [maxI]⟩
    · refine ⟨_, k, cap, xs, rfl, by rw [hx2.1, hx1.1], hx2, fun _ => ⟨gg, 0, rfl, fun j v hv => ?_⟩, by unfold maxI; simp only [maxLen] at h3; omega⟩
      have := hx1.cells (g := gg) rfl j v hv
      rwa [Addr.add_mid] at this
  | _ => simp [listCells] at hc

/-- An array that the frame owns has grown, in its place or in a new block. -/
theorem Rel.grow (R : Rel E N g σ a w) {n : Nm} {t : TypeId} {sz : Nat} {cs ys : List SV} (hpos : 0 < sz) (hy : ys ≠ []) {v' : Value} {k' : Nat} {xs news : List Value} {w' : World} (hnews : Cells w g σ.obj ys news)
    (hold : (σ.obj n = some (.arr t sz cs) ∧ Cells w g σ.obj cs xs ∧ w.grownBy w' (blk (g.β n)) ∧ (blk v' = blk (g.β n) ∨ blk v' = some w.heap.size)) ∨ (σ.obj n = none ∧ cs = [] ∧ xs = [] ∧ w.grownBy w' none ∧ blk v' = some w.heap.size)) (hn2 : σ.obj n ≠ none ∨ n.length ≠ 2)
    (hown : w'.ownsRow 0 t sz v' k' (xs ++ news)) :
    ∃ g', g'.β n = v' ∧ Ext w g σ.obj w' g' ((σ.put n (.arr t sz (cs ++ ys))).obj) ∧ Rel E N g' (σ.put n (.arr t sz (cs ++ ys))) a w' := by
  have hob : ∀ m, σ.obj m ≠ none → m ≠ n → ∀ b, blk (g.β m) = some b → w'.heap[b]? = w.heap[b]? := by
    intro m hm hmn b hb
    rcases hold with ⟨h1, _, h2, _⟩ | ⟨h1, _, _, h2, _⟩
    · exact h2.block b (R.lt hm b hb) (fun e => R.inj m n hm (by simp [h1]) hmn b hb e.symm)
    · exact h2.block b (R.lt hm b hb) (by simp)
  have hgb : ∃ row, w.grownBy w' row := by
    rcases hold with ⟨_, _, h2, _⟩ | ⟨_, _, _, h2, _⟩
    · exact ⟨_, h2⟩
    · exact ⟨_, h2⟩
  obtain ⟨row, hgb⟩ := hgb
  have hps : ∀ b, g.Ps b → w'.heap[b]? = w.heap[b]? := by
    intro b hb
    rcases hold with ⟨h1, _, h2, _⟩ | ⟨h1, _, _, h2, _⟩
    · exact h2.block b (R.psb b hb) (fun e => R.disj n (by simp [h1]) b e.symm hb)
    · exact h2.block b (R.psb b hb) (by simp)
  have hvb : ∀ b, blk v' = some b → (σ.obj n ≠ none ∧ blk (g.β n) = some b) ∨ b = w.heap.size := by
    intro b hb
    rcases hold with ⟨h1, _, _, h3⟩ | ⟨_, _, _, _, h3⟩
    · rcases h3 with h3 | h3
      · exact .inl ⟨by simp [h1], by rw [← h3]; exact hb⟩
      · rw [h3] at hb; exact .inr (by simpa using hb.symm)
    · rw [h3] at hb; exact .inr (by simpa using hb.symm)
  have hsz0 : w'.heap.size > w.heap.size ∨ ∀ b, blk v' = some b → b < w.heap.size ∨ b < w'.heap.size := by
    right
    intro b hb
    right
    rcases hown.2 with ⟨rfl, _⟩ | ⟨gg, cap, cur, rfl, _, hh, _⟩
    · simp [blk] at hb
    · simp only [blk, Option.some.injEq] at hb
      subst hb
      exact (Array.getElem?_eq_some_iff.1 hh).1
  have X : Ext w g σ.obj w' { β := fun m => if m = n then v' else g.β m, Ps := g.Ps } ((σ.put n (.arr t sz (cs ++ ys))).obj) := by
    refine ⟨fun _ h => h, hps, fun m t' cs' h => ?_, fun m t' sz' cs' h => ?_⟩
    · have hmn : m ≠ n := by
        rintro rfl
        rcases hold with ⟨h1, _⟩ | ⟨h1, _⟩ <;> rw [h1] at h <;> cases h
      exact ⟨cs', by rw [St.obj_put, if_neg hmn.symm]; exact h, by simp [hmn]⟩
    · by_cases hmn : m = n
      · subst hmn
        rcases hold with ⟨h1, _⟩ | ⟨h1, _⟩
        · rw [h1] at h
          simp only [Option.some.injEq, OV.arr.injEq] at h
          obtain ⟨rfl, rfl, rfl⟩ := h
          refine ⟨cs ++ ys, by rw [St.obj_put, if_pos rfl], by simp, fun e => ?_⟩
          exfalso
          have : ys.length = 0 := by simp at e; simp [e]
          exact hy (List.eq_nil_of_length_eq_zero this)
        · rw [h1] at h; cases h
      · exact ⟨cs', by rw [St.obj_put, if_neg (Ne.symm hmn)]; exact h, Nat.le_refl _, fun _ => by simp [hmn]⟩
  refine ⟨_, by simp, X, ?_⟩
  have hold' : ∀ m, (σ.put n (.arr t sz (cs ++ ys))).obj m ≠ none → m ≠ n → σ.obj m ≠ none := fun m hm hmn => by
    rw [St.obj_put, if_neg (fun e => hmn e.symm)] at hm; exact hm
  refine R.change (h' := (σ.put n (.arr t sz (cs ++ ys))).h) X (fun m p hp => ?_) ?_ ?_ ?_ ?_ R.ps1 (fun b hb => Nat.lt_of_lt_of_le (R.psb b hb) hgb.size) (fun m hm => (by by_cases hmn : m = n; (subst hmn; exact hn2); exact .inl (hold' m hm hmn)))
  · have hp' : (σ.put n (.arr t sz (cs ++ ys))).obj m = some p := hp
    rw [St.obj_put] at hp'
    by_cases hm : n = m
    · subst hm
      simp only [if_true, Option.some.injEq] at hp'
      subst hp'
      refine ⟨hpos, k', xs ++ news, by simpa using hown, ?_⟩
      rcases hold with ⟨_, h2, _⟩ | ⟨_, rfl, rfl, _⟩
      · exact (h2.ext X).append (hnews.ext X)
      · simp only [List.nil_append] at X ⊢
        exact hnews.ext X
    · rw [if_neg hm] at hp'
      exact (R.objs m p hp').ext X (by simp [Ne.symm hm]) (hob m (by simp [hp']) (Ne.symm hm))
  · intro m m' hm hm' hmm b hb
    by_cases h1 : m = n
    · subst h1
      simp only [if_true] at hb
      have h2 : m' ≠ m := fun e => hmm e.symm
      simp only [if_neg h2]
      intro hb'
      rcases hvb b hb with ⟨h3, h4⟩ | h3
      · exact R.inj m m' h3 (hold' m' hm' h2) hmm b h4 hb'
      · have := R.lt (hold' m' hm' h2) b hb'; omega
    · simp only [if_neg h1] at hb
      by_cases h2 : m' = n
      · subst h2
        simp only [if_true]
        intro hb'
        rcases hvb b hb' with ⟨h3, h4⟩ | h3
        · exact R.inj m m' (hold' m hm h1) h3 hmm b hb h4
        · have := R.lt (hold' m hm h1) b hb; omega
      · simp only [if_neg h2]
        exact R.inj m m' (hold' m hm h1) (hold' m' hm' h2) hmm b hb
  · intro m hm b hb
    by_cases h1 : m = n
    · subst h1
      simp only [if_true] at hb
      rcases hvb b hb with ⟨h3, h4⟩ | h3
      · exact R.disj m h3 b h4
      · intro h; have := R.psb b h; omega
    · simp only [if_neg h1] at hb
      exact R.disj m (hold' m hm h1) b hb
  · intro m hm b hb
    by_cases h1 : m = n
    · subst h1
      simp only [if_true] at hb
      rcases hvb b hb with ⟨h3, h4⟩ | h3
      · exact R.own m h3 b h4
      · have := R.keeps.size; right; omega
    · simp only [if_neg h1] at hb
      exact R.own m (hold' m hm h1) b hb
  · refine R.keeps.step hgb.os hgb.tape hgb.output hgb.size (fun b hb ha => ?_)
    have hlt : b < w.heap.size := by have := R.keeps.size; omega
    rcases hold with ⟨h1, _, h2, _⟩ | ⟨h1, _, _, h2, _⟩
    · refine h2.block b hlt (fun e => ?_)
      rcases R.own n (by simp [h1]) b e.symm with h | h
      · exact ha h
      · omega
    · exact h2.block b hlt (by simp)

theorem infoB {e : TypeId} {n : Nat} (h : sizeB P e = some n) : ∃ i, P.info? e = some i ∧ i.size = n := by
  unfold sizeB at h
  simpa [Option.map_eq_some_iff] using h

theorem run_append_zero {t e ty : TypeId} {n : Nat} (ht : P.underlying t = some (.slice e)) (hn : sizeB P e = some n) {v : Value} {k : Nat} {xs : List Value} (hown : w.ownsRow 0 e n v k xs) (base : Option Addr) (cap : Nat) :
    (Builtin.append_ #[t, t] ty #[v, .slice base 0 cap]).run P w = .ok v w := by
  obtain ⟨i, hi, rfl⟩ := infoB hn
  have hl : ∀ (x : Addr), (loadCells x 0).run P w = .ok #[] w := fun x => by simpa using run_loadCells_list (P := P) w x [] (by simp)
  rcases hown.2 with ⟨rfl, rfl⟩ | ⟨g, cap', cur, rfl, _, _, hnc, _⟩
  · cases base <;> simp [Builtin.append_, run_underlying ht, sizeOf, typeInfo, hi, Builtin.lenOf, Builtin.firstCells, hl]
  · cases base <;> simp [Builtin.append_, run_underlying ht, sizeOf, typeInfo, hi, Builtin.lenOf, Builtin.firstCells, hnc, storeCells, hl]

theorem go_append (R : Rel E N g σ a w) {t e ty : TypeId} {n bytes : Nat} (ht : P.underlying t = some (.slice e)) {i : TypeInfo} (hi : P.info? e = some i) (hn : i.size = n) (hby : i.bytes = bytes) {z : Value} (hz : i.zero = some z) (hzs : z.cells.size = n) (hpos : 0 < n)
    {x y : Operand} {vx vy : VX} (hx : cX x = some vx) (hy : cX y = some vy) {d : Nat} (hd : d < N) {σ' : St} (he : appS σ d e n bytes (σ.val vx) (σ.val vy) = some σ') :
    ∃ v w' g', (Builtin.append_ #[t, t] ty #[a.eval x, a.eval y]).run P w = .ok v w' ∧ Rel E N g' σ' (a.put (some d) v) w' := by
  have hnB : sizeB P e = some n := by unfold sizeB; rw [hi]; simp [hn]
  unfold appS at he
  split at he <;> try (cases he; done)
  rename_i ys hys
  obtain ⟨base, m, cap, news, hyv, hlen, hC, hat, hmI⟩ := listCells_rel R hpos (val_rel R hy) hys
  have hrx := val_rel R hx
  rw [hyv]
  generalize a.eval x = v at hrx ⊢
  have hnl : news.length = m * n := by rw [← hC.1, hlen]
  have hdiv : ys.length / n = m := by rw [hlen]; exact Nat.mul_div_cancel _ hpos
  split at he <;> try (cases he; done)
  · rename_i hb
    rw [hb] at hrx
    rw [hrx.nilS]
    split at he
    · simp only [Option.some.injEq] at he
      subst he
      have hm : m = 0 := by
        have : 0 = m * n := by simpa using hlen
        rcases Nat.mul_eq_zero.1 this.symm with h | h
        · exact h
        · omega
      subst hm
      exact ⟨_, w, g, run_append_zero ht hnB (World.ownsRow_nil w 0 e n) base cap, R.set hd (.pv _ _ .nilS)⟩
    · rename_i hne
      split at he <;> try (cases he; done)
      rename_i hob
      split at he <;> try (cases he; done)
      rename_i hbound
      simp only [Option.some.injEq] at he
      subst he
      have hm : m ≠ 0 := by
        rintro rfl
        exact hne (List.eq_nil_of_length_eq_zero (by simpa using hlen))
      obtain ⟨b, off, rfl, hra⟩ := hat hm
      rw [hdiv] at hbound
      obtain ⟨hb0, hbound⟩ := hbound
      have h63 : 0 + m ≤ maxLen := by
        simp only [maxLen]; unfold maxI at hmI; omega
      obtain ⟨v', w', hrun, hown, hgb, _, hv⟩ := run_append_own_at (P := P) w 0 t ty e i z n bytes ht hi hz hn hby hzs hpos (.slice none 0 0) 0 [] (World.ownsRow_nil w 0 e n) ⟨b, off, none⟩ m cap news hnl
        (fun j u hu => by rw [Addr.add_mid]; exact hra j u hu) hC.2.1 h63 (by simpa using hbound) (Nat.zero_le _)
      have hgn : w.grownBy w' none := by simpa [Value.ownBlock] using hgb
      have hv' : blk v' = some w.heap.size := by
        rw [← ownsRow_blk hown]
        rcases hv with h | h
        · exfalso
          rcases hown.2 with ⟨rfl, h0⟩ | ⟨gg, cc, cur, rfl, _⟩
          · omega
          · simp [Value.ownBlock] at h
        · exact h
      obtain ⟨g', h1, h2, h3⟩ := R.grow (n := [d]) (t := e) (sz := n) (cs := []) (ys := ys) hpos hne hC (.inr ⟨hob, rfl, rfl, hgn, hv'⟩) (.inr (by simp)) hown
      refine ⟨v', w', g', hrun, h3.set hd (.arr [d] _ e n ys v' ?_ (Nat.le_refl _) (fun _ => h1.symm) ?_)⟩
      · rw [St.obj_put, if_pos rfl, List.nil_append]
      · rcases hown.2 with ⟨rfl, h0⟩ | ⟨gg, cc, cur, rfl, _⟩ <;> rfl
  · rename_i nm tag hb
    rw [hb] at hrx
    split at he <;> try (cases he; done)
    rename_i t' s cs ho
    split at he <;> try (cases he; done)
    rename_i hcc
    obtain ⟨rfl, rfl, htag⟩ := hcc
    cases hrx with
    | arr nm tag t'' s'' cs'' v ho' hg hb' h1 =>
      rw [ho] at ho'
      simp only [Option.some.injEq, OV.arr.injEq] at ho'
      obtain ⟨rfl, rfl, rfl⟩ := ho'
      have hv := hb' htag
      obtain ⟨_, k, xs, hx1, hx2⟩ := R.objs nm _ ho
      have hx1' := hx1
      rw [← hv] at hx1
      split at he
      · simp only [Option.some.injEq] at he
        subst he
        have hm : m = 0 := by
          have : 0 = m * s := by simpa using hlen
          rcases Nat.mul_eq_zero.1 this.symm with h | h
          · exact h
          · omega
        subst hm
        exact ⟨_, w, g, run_append_zero ht hnB hx1 base cap, R.set hd (.arr nm tag t' s cs v ho hg hb' h1)⟩
      · rename_i hne
        split at he <;> try (cases he; done)
        rename_i hbound
        simp only [Option.some.injEq] at he
        subst he
        have hm : m ≠ 0 := by
          rintro rfl
          exact hne (List.eq_nil_of_length_eq_zero (by simpa using hlen))
        obtain ⟨b, off, rfl, hra⟩ := hat hm
        have hkd : cs.length / s = k := by rw [hx2.1, hx1.1]; exact Nat.mul_div_cancel _ hpos
        rw [hdiv, hkd] at hbound
        obtain ⟨hb0, hbound⟩ := hbound
        have hkI : k + m ≤ maxLen := by
          simp only [maxLen]
          have := Nat.le_mul_of_pos_right (k + m) hb0
          omega
        obtain ⟨v', w', hrun, hown, hgb, _, hvv⟩ := run_append_own_at (P := P) w 0 t ty t' i z s bytes ht hi hz hn hby hzs hpos v k xs hx1 ⟨b, off, none⟩ m cap news hnl
          (fun j u hu => by rw [Addr.add_mid]; exact hra j u hu) hC.2.1 hkI hbound (Nat.zero_le _)
        rw [ownsRow_blk hx1] at hgb hvv
        rw [ownsRow_blk hown] at hvv
        rw [hv] at hgb hvv
        obtain ⟨g', h1', h2, h3⟩ := R.grow (n := nm) (t := t') (sz := s) (cs := cs) (ys := ys) hpos hne hC (.inl ⟨ho, hx2, hgb, hvv⟩) (.inl (by simp [ho])) hown
        refine ⟨v', w', g', hrun, h3.set hd (.arr nm _ t' s (cs ++ ys) v' ?_ (Nat.le_refl _) (fun _ => h1'.symm) ?_)⟩
        · rw [St.obj_put, if_pos rfl]
        · rcases hown.2 with ⟨rfl, h0⟩ | ⟨gg, cc, cur, rfl, _⟩ <;> rfl

/-- A string's bytes, as cells. -/
def strS (s : ByteArray) : List SV := s.data.toList.map fun b => .pv (.int .u8 b.toNat)
theorem strS_length (s : ByteArray) : (strS s).length = s.size := by simp [strS]
theorem strS_rel (w : World) (g : Gh) (h : Nm → Option OV) (s : ByteArray) : Cells w g h (strS s) (Lib.strCells s) := by
  refine ⟨by rw [strS_length, Lib.strCells_length], Lib.strCells_oneCell s, fun k c v hc hv => ?_⟩
  simp only [strS, List.getElem?_map, Option.map_eq_some_iff] at hc
  simp only [Lib.strCells, List.getElem?_map, Option.map_eq_some_iff] at hv
  obtain ⟨b, hb, rfl⟩ := hc
  obtain ⟨b', hb', rfl⟩ := hv
  rw [hb] at hb'
  simp only [Option.some.injEq] at hb'
  subst hb'
  exact .pv _ _ (.int _ _)

/-- 'append(x, s...)', s a string, x bytes of one's own. -/
def appStrS (σ : St) (d e : Nat) (x y : SV) : Option St :=
  match y with
  | .pv (.str s) => match x with
    | .pv .nilS => if s.size = 0 then some (σ.set d (.pv .nilS)) else match σ.obj [d] with
      | none => if s.size ≤ 140737488355328 then some ((σ.put [d] (.arr e 1 (strS s))).set d (.arr [d] s.size)) else none
      | some _ => none
    | .arr n tag => match σ.obj n with
      | some (.arr t sz cs) => if t = e ∧ sz = 1 ∧ tag = cs.length ∧ cs.length + s.size ≤ 140737488355328 then
          (if s.size = 0 then some (σ.set d (.arr n tag)) else some ((σ.put n (.arr t sz (cs ++ strS s))).set d (.arr n (cs.length + s.size))))
        else none
      | _ => none
    | _ => none
  | _ => none

section
variable {P : Program} {w : World} {t u ty e : TypeId} {i : TypeInfo}

theorem grown_row (xs news : List Value) (old : Nat) (h63 : xs.length + news.length ≤ maxLen) :
    (w.drew.alloc (.cells (xs.toArray ++ news.toArray ++ Builtin.zeroCells (Value.int .u8 0).cells (grownCap w (xs.length + news.length) old e - (xs.length + news.length))) e)).ownsRow 0 e 1
      (.slice (some ⟨w.heap.size, 0, none⟩) (xs.length + news.length) (grownCap w (xs.length + news.length) old e)) (xs.length + news.length) (xs ++ news) ∧
    ∀ row, w.grownBy (w.drew.alloc (.cells (xs.toArray ++ news.toArray ++ Builtin.zeroCells (Value.int .u8 0).cells (grownCap w (xs.length + news.length) old e - (xs.length + news.length))) e)) row := by
  have hge := grownCap_ge w (xs.length + news.length) old e
  have hcm := grownCap_le_maxLen w (xs.length + news.length) old e h63
  refine ⟨⟨by simp, .inr ⟨w.heap.size, _, _, rfl, Nat.zero_le _, heap_alloc_new w.drew _, hge, hcm, ?_, ?_⟩⟩, fun row => ⟨rfl, rfl, rfl, by simp, fun k hk _ => heap_alloc w.drew _ k hk⟩⟩
  · have hz1 : (Value.int IntKind.u8 0).cells.size = 1 := rfl
    simp only [Array.size_append, List.size_toArray, size_zeroCells, hz1]
    omega
  · simp only [Array.toList_append, List.append_assoc, Nat.mul_one]
    rw [← List.append_assoc, ← List.length_append]
    exact List.take_left

theorem run_appstr_nil (ht : P.underlying t = some (.slice e)) (hu : P.underlying u = some .string) (hi : P.info? e = some i) (hz : i.zero = some (.int .u8 0)) (hs : i.size = 1) (hby : i.bytes = 1) (s : ByteArray) (h0 : s.size ≠ 0) (hb : s.size ≤ 140737488355328) :
    ∃ v' w', (Builtin.append_ #[t, u] ty #[.slice none 0 0, .string s]).run P w = .ok v' w' ∧ w'.ownsRow 0 e 1 v' s.size (Lib.strCells s) ∧ w.grownBy w' none ∧ blk v' = some w.heap.size := by
  have hr := run_append_nil_string (P := P) w t u ty e i (.int .u8 0) ht hu hi hz s (by omega) (by omega) (by rw [hby]; omega)
  have e1 : (s.data.map fun b => Value.int .u8 b.toNat) = (Lib.strCells s).toArray := by
    apply Array.ext'
    simp [Lib.strCells]
  rw [e1] at hr
  have hg := grown_row (w := w) (e := e) [] (Lib.strCells s) 0 (by simp only [Lib.strCells_length, List.length_nil, maxLen]; omega)
  simp only [List.length_nil, Lib.strCells_length, Nat.zero_add, Array.empty_append, List.nil_append] at hg
  exact ⟨_, _, hr, by simpa using hg.1, by simpa using hg.2 none, rfl⟩

theorem run_appstr_own (ht : P.underlying t = some (.slice e)) (hu : P.underlying u = some .string) (hi : P.info? e = some i) (hz : i.zero = some (.int .u8 0)) (hs : i.size = 1) (hby : i.bytes = 1) (v : Value) (n : Nat) (xs : List Value) (hown : w.ownsRow 0 e 1 v n xs) (s : ByteArray)
    (h0 : s.size ≠ 0) (hb : n + s.size ≤ 140737488355328) :
    ∃ v' w', (Builtin.append_ #[t, u] ty #[v, .string s]).run P w = .ok v' w' ∧ w'.ownsRow 0 e 1 v' (n + s.size) (xs ++ Lib.strCells s) ∧ w.grownBy w' (blk v) ∧ (blk v' = blk v ∨ blk v' = some w.heap.size) := by
  have hxl : xs.length = n := by simpa using hown.1
  subst hxl
  rcases hown.2 with ⟨rfl, hn⟩ | ⟨g, cap, cur, rfl, hbg, hg, hnc, hcm, hcs, htake⟩
  · have hx : xs = [] := List.eq_nil_of_length_eq_zero hn
    subst hx
    obtain ⟨v', w', h1, h2, h3, h4⟩ := run_appstr_nil (w := w) (ty := ty) ht hu hi hz hs hby s h0 (by simpa using hb)
    exact ⟨v', w', h1, by simpa using h2, h3, .inr h4⟩
  · by_cases hroom : xs.length + s.size ≤ cap
    · have hcs' : cur.size = cap := by simpa using hcs
      have hr := Lib.run_append_room_string (P := P) w t u ty e i ht hu hi hs g xs.length cap cur hg s hroom (by omega)
      refine ⟨_, _, hr, ⟨by rw [List.length_append, Lib.strCells_length, Nat.mul_one], .inr ⟨g, cap, _, rfl, hbg, setRow_heap w g cur _ e _ hg, hroom, hcm, ?_, ?_⟩⟩, ⟨rfl, rfl, rfl, by simp, fun k _ hk => setRow_other w g k _ (fun e => hk (by simp [blk, e]))⟩, .inl rfl⟩
      · simp only [List.size_toArray, List.length_append, List.length_take, List.length_drop, Array.length_toList, Lib.strCells_length]
        omega
      · have ht' : cur.toList.take xs.length = xs := by simpa using htake
        rw [ht', Nat.mul_one]
        have : xs.length + s.size = (xs ++ Lib.strCells s).length := by rw [List.length_append, Lib.strCells_length]
        rw [this]
        exact List.take_left
    · have holds : ∀ j u, xs[j]? = some u → w.cell? ((⟨g, 0, none⟩ : Addr).add j) = some u := hown.cells (g := g) rfl
      have hr := Lib.run_append_grow_string (P := P) w t u ty e i (.int .u8 0) ht hu hi hz ⟨g, 0, none⟩ xs.length cap xs (by rw [hs]; simp) holds s (by omega) (by omega) (by rw [hby]; exact growslice_fits (by omega) (by omega))
      have hgr := grown_row (w := w) (e := e) xs (Lib.strCells s) cap (by simp only [Lib.strCells_length, maxLen]; omega)
      simp only [Lib.strCells_length] at hgr
      exact ⟨_, _, hr, hgr.1, hgr.2 _, .inr rfl⟩
end

theorem setRow_self (w : World) (g : Nat) (cur : Array Value) (e : TypeId) (fr : Nat × Nat) (hg : w.heap[g]? = some (.cells cur e fr)) : w.setRow g cur = w := by
  have hh : (w.setRow g cur).heap = w.heap := by
    apply Array.ext_getElem?
    intro k
    by_cases hk : k = g
    · subst hk; rw [setRow_heap w k cur cur e fr hg, hg]
    · exact setRow_other w g k cur hk
  have : w.setRow g cur = { w with heap := (w.setRow g cur).heap } := rfl
  rw [this, hh]

theorem go_appstr (R : Rel E N g σ a w) {t u e ty : TypeId} (ht : P.underlying t = some (.slice e)) (hu : P.underlying u = some .string) {i : TypeInfo} (hi : P.info? e = some i) (hn : i.size = 1) (hby : i.bytes = 1) (hz : i.zero = some (.int .u8 0))
    {x y : Operand} {vx vy : VX} (hx : cX x = some vx) (hy : cX y = some vy) {d : Nat} (hd : d < N) {σ' : St} (he : appStrS σ d e (σ.val vx) (σ.val vy) = some σ') :
    ∃ v w' g', (Builtin.append_ #[t, u] ty #[a.eval x, a.eval y]).run P w = .ok v w' ∧ Rel E N g' σ' (a.put (some d) v) w' := by
  unfold appStrS at he
  split at he <;> try (cases he; done)
  rename_i s hs
  have hry := val_rel R hy
  rw [hs] at hry
  rw [hry.str]
  have hrx := val_rel R hx
  generalize a.eval x = v at hrx ⊢
  have empty : ∀ (v : Value) (n : Nat) (xs : List Value), w.ownsRow 0 e 1 v n xs → n ≤ 140737488355328 → s.size = 0 → (Builtin.append_ #[t, u] ty #[v, .string s]).run P w = .ok v w := by
    intro v n xs hown hle h0
    have hf := Lib.run_firstCells_string (P := P) w 1 s
    have hn0 : Lib.strCells s = [] := List.eq_nil_of_length_eq_zero (by rw [Lib.strCells_length]; exact h0)
    rcases hown.2 with ⟨rfl, hz0⟩ | ⟨gg, cap, cur, rfl, hbg, hg, hnc, hcm, hcs, htake⟩
    · rw [h0] at hf
      simp [Builtin.append_, run_underlying ht, run_underlying hu, sizeOf, typeInfo, hi, hn, Builtin.lenOf, h0, hf]
    · have hcs' : cur.size = cap := by simpa using hcs
      have hr := Lib.run_append_room_string (P := P) w t u ty e i ht hu hi hn gg n cap cur hg s (by omega) (by omega)
      rw [hr, hn0, h0]
      congr 1
      have : (cur.toList.take n ++ [] ++ cur.toList.drop (n + 0)).toArray = cur := by simp
      rw [this]
      exact setRow_self w gg cur e _ hg
  split at he <;> try (cases he; done)
  · rename_i hb
    rw [hb] at hrx
    rw [hrx.nilS]
    split at he
    · rename_i h0
      simp only [Option.some.injEq] at he
      subst he
      exact ⟨_, w, g, empty _ 0 [] (World.ownsRow_nil w 0 e 1) (by omega) h0, R.set hd (.pv _ _ .nilS)⟩
    · rename_i h0
      split at he <;> try (cases he; done)
      rename_i hob
      split at he <;> try (cases he; done)
      rename_i hbound
      simp only [Option.some.injEq] at he
      subst he
      obtain ⟨v', w', hrun, hown, hgb, hv⟩ := run_appstr_nil (w := w) (ty := ty) ht hu hi hz hn hby s h0 hbound
      have hne : strS s ≠ [] := fun h => h0 (by rw [← strS_length, h]; rfl)
      obtain ⟨g', h1, h2, h3⟩ := R.grow (n := [d]) (t := e) (sz := 1) (cs := []) (ys := strS s) (by omega) hne (strS_rel w g σ.obj s) (.inr ⟨hob, rfl, rfl, hgb, hv⟩) (.inr (by simp)) (by simpa using hown)
      refine ⟨v', w', g', hrun, h3.set hd (.arr [d] _ e 1 (strS s) v' ?_ (by rw [strS_length]; exact Nat.le_refl _) (fun _ => h1.symm) ?_)⟩
      · rw [St.obj_put, if_pos rfl, List.nil_append]
      · rcases hown.2 with ⟨rfl, h0⟩ | ⟨gg, cc, cur, rfl, _⟩ <;> rfl
  · rename_i nm tag hb
    rw [hb] at hrx
    split at he <;> try (cases he; done)
    rename_i t' sz cs ho
    split at he <;> try (cases he; done)
    rename_i hcc
    obtain ⟨rfl, rfl, htag, hbound⟩ := hcc
    cases hrx with
    | arr nm tag t'' s'' cs'' v ho' hg hb' h1 =>
      rw [ho] at ho'
      simp only [Option.some.injEq, OV.arr.injEq] at ho'
      obtain ⟨rfl, rfl, rfl⟩ := ho'
      have hv := hb' htag
      obtain ⟨_, k, xs, hx1, hx2⟩ := R.objs nm _ ho
      rw [← hv] at hx1
      have hkl : cs.length = k := by rw [hx2.1]; simpa using hx1.1
      split at he
      · rename_i h0
        simp only [Option.some.injEq] at he
        subst he
        exact ⟨_, w, g, empty _ k xs hx1 (by omega) h0, R.set hd (.arr nm tag t' 1 cs v ho hg hb' h1)⟩
      · rename_i h0
        simp only [Option.some.injEq] at he
        subst he
        obtain ⟨v', w', hrun, hown, hgb, hvv⟩ := run_appstr_own (w := w) (ty := ty) ht hu hi hz hn hby v k xs hx1 s h0 (by omega)
        have hne : strS s ≠ [] := fun h => h0 (by rw [← strS_length, h]; rfl)
        rw [hv] at hgb hvv
        obtain ⟨g', h1', h2, h3⟩ := R.grow (n := nm) (t := t') (sz := 1) (cs := cs) (ys := strS s) (by omega) hne (strS_rel w g σ.obj s) (.inl ⟨ho, hx2, hgb, hvv⟩) (.inl (by simp [ho])) hown
        refine ⟨v', w', g', hrun, h3.set hd (.arr nm _ t' 1 (cs ++ strS s) v' ?_ (by rw [List.length_append, strS_length]; exact Nat.le_refl _) (fun _ => h1'.symm) ?_)⟩
        · rw [St.obj_put, if_pos rfl]
        · rcases hown.2 with ⟨rfl, h0⟩ | ⟨gg, cc, cur, rfl, _⟩ <;> rfl
end
end Go.VL
