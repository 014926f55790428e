/- The value-level logic, the engine, part 8: calls that write a thing of two cells and an array of the frame's own (a builder of texts). -/
import Derived.Test.YtckbenlmlikjoaaE7
set_option linter.unusedVariables false
set_option linter.unusedSimpArgs false
namespace Go.VL

def delNK (m0 m1 : Nm) (tl : List (Nm × OV)) : List (Nm × OV) → (List (Nm × OV) → Prop) → Prop
  | [], K => K tl
  | (m, o) :: r, K => bif eqNm m m0 then delNK m0 m1 tl r K else bif eqNm m m1 then delNK m0 m1 tl r K else delNK m0 m1 tl r fun l => K ((m, o) :: l)
theorem delNK_sound {m0 m1 : Nm} {tl : List (Nm × OV)} {p : Nm → Bool} (hp : ∀ n, p n = true ↔ n ≠ m0 ∧ n ≠ m1) : ∀ {l : List (Nm × OV)} {K : List (Nm × OV) → Prop}, delNK m0 m1 tl l K → K (l.filter (fun e => p e.1) ++ tl)
  | [], K, h => h
  | (m, o) :: r, K, h => by
    simp only [delNK] at h
    cases h0 : eqNm m m0 with
    | true =>
      rw [h0] at h
      have : ¬ p m = true := fun e => ((hp m).1 e).1 ((eqNm_iff _ _).1 h0)
      rw [List.filter_cons, if_neg this]
      exact delNK_sound hp h
    | false =>
      rw [h0] at h
      cases h1 : eqNm m m1 with
      | true =>
        rw [h1] at h
        have : ¬ p m = true := fun e => ((hp m).1 e).2 ((eqNm_iff _ _).1 h1)
        rw [List.filter_cons, if_neg this]
        exact delNK_sound hp h
      | false =>
        rw [h1] at h
        have : p m = true := (hp m).2 ⟨eqNm_ne h0, eqNm_ne h1⟩
        rw [List.filter_cons, if_pos this]
        exact delNK_sound hp (K := fun l => K ((m, o) :: l)) h
def bρ (m0 m1 : Nm) (n : Nm) : Nm := if n = [0, 0] then m0 else m1
theorem bρ_0 (m0 m1 : Nm) : bρ m0 m1 [0, 0] = m0 := if_pos rfl
theorem bρ_1 (m0 m1 : Nm) : bρ m0 m1 [0, 1] = m1 := if_neg (by decide)
section
variable {P : Program} {f : FuncId} {X : XS} {T t : TypeId} {c0 d0 : SV} {cs : List SV} {xs : List PV} {m0 m1 : Nm} {vals : List SV}
theorem bw_fit (hc0 : (c0 = .pv .nilPtr ∧ d0 = .pv .nilPtr) ∨ (c0 = .ref [0, 0] 0 ∧ d0 = .ref m0 0)) (hv : vals = .ref m0 0 :: xs.map .pv) : ∀ (k : Nat) s c, vals[k]? = some s → (SV.ref [0, 0] 0 :: xs.map .pv)[k]? = some c → Fits (bρ m0 m1) s c ∧ ∀ n ∈ c.names, lkO n [([0, 0], OV.box T [c0, .arr [0, 1] cs.length]), ([0, 1], .arr t 1 cs)] ≠ none := by
  intro k s c hs hc
  subst hv
  cases k with
  | zero =>
    simp only [List.getElem?_cons_zero, Option.some.injEq] at hs hc
    subst hs; subst hc
    refine ⟨?_, fun n hn => ?_⟩
    · have := Fits.same (ρ := bρ m0 m1) (.ref [0, 0] 0)
      rwa [SV.ren, bρ_0] at this
    · simp only [SV.names, List.mem_singleton] at hn
      subst hn
      simp [lkO]
  | succ k =>
    simp only [List.getElem?_cons_succ] at hs hc
    rw [hs] at hc
    simp only [Option.some.injEq] at hc
    subst hc
    simp only [List.getElem?_map, Option.map_eq_some_iff] at hs
    obtain ⟨x, _, rfl⟩ := hs
    refine ⟨?_, fun n hn => by simp [SV.names] at hn⟩
    exact Fits.same (ρ := bρ m0 m1) (.pv x)
theorem bw_ch (hcs : namesL cs = []) (hc0 : (c0 = .pv .nilPtr ∧ d0 = .pv .nilPtr) ∨ (c0 = .ref [0, 0] 0 ∧ d0 = .ref m0 0)) (h0 : lkO m0 X.h = some (.box T [d0, .arr m1 cs.length])) (h1 : lkO m1 X.h = some (.arr t 1 cs)) :
    ∀ n o, lkO n [([0, 0], OV.box T [c0, .arr [0, 1] cs.length]), ([0, 1], .arr t 1 cs)] = some o → X.den.obj (bρ m0 m1 n) = some (o.ren (bρ m0 m1)) ∧ ∀ m ∈ o.names, lkO m [([0, 0], OV.box T [c0, .arr [0, 1] cs.length]), ([0, 1], .arr t 1 cs)] ≠ none := by
  intro n o ho
  simp only [lkO] at ho
  by_cases hn : [0, 0] = n
  · rw [if_pos hn] at ho
    subst hn
    simp only [Option.some.injEq] at ho
    subst ho
    refine ⟨?_, fun m hm => ?_⟩
    · rw [bρ_0]
      show lkO m0 X.h = _
      rw [h0]
      rcases hc0 with ⟨rfl, rfl⟩ | ⟨rfl, rfl⟩ <;> simp [OV.ren, renL, SV.ren, bρ_0, bρ_1]
    · have : m = [0, 0] ∨ m = [0, 1] := by
        rcases hc0 with ⟨rfl, rfl⟩ | ⟨rfl, rfl⟩ <;> simp [OV.names, namesL, SV.names] at hm <;> simp [hm]
      rcases this with rfl | rfl <;> simp [lkO]
  · rw [if_neg hn] at ho
    by_cases hn1 : [0, 1] = n
    · rw [if_pos hn1] at ho
      subst hn1
      simp only [Option.some.injEq] at ho
      subst ho
      refine ⟨?_, fun m hm => ?_⟩
      · rw [bρ_1]
        show lkO m1 X.h = _
        rw [h1, OV.ren, renL_none hcs]
      · simp [OV.names, hcs] at hm
    · rw [if_neg hn1] at ho; cases ho
theorem bw_filter {cs : List SV} (h' : List (Nm × OV)) : afterH X.den (bρ m0 m1) [([0, 0], OV.box T [c0, .arr [0, 1] cs.length]), ([0, 1], .arr t 1 cs)] h' = X.h.filter (fun e => !(decide (m0 = e.1) || decide (m1 = e.1))) ++ h'.map fun e => (bρ m0 m1 e.1, e.2.ren (bρ m0 m1)) := by
  unfold afterH
  simp only [List.any_cons, List.any_nil, Bool.or_false, bρ_0, bρ_1]
  rfl
theorem bw_p (n : Nm) : (!(decide (m0 = n) || decide (m1 = n))) = true ↔ n ≠ m0 ∧ n ≠ m1 := by
  simp only [Bool.not_eq_true', Bool.or_eq_false_iff, decide_eq_false_iff_not]
  exact ⟨fun ⟨a, b⟩ => ⟨fun e => a e.symm, fun e => b e.symm⟩, fun ⟨a, b⟩ => ⟨fun e => a e.symm, fun e => b e.symm⟩⟩
/-- A call that writes on. -/
theorem XCall.bw {cs' : List SV} {r : SV} {dst : Option Nat} {K : XS → Prop}
    (hs : FnSpec P f (.ref [0, 0] 0 :: xs.map .pv) [([0, 0], .box T [c0, .arr [0, 1] cs.length]), ([0, 1], .arr t 1 cs)] fun s h' => s = r ∧ h' = [([0, 0], .box T [.ref [0, 0] 0, .arr [0, 1] cs'.length]), ([0, 1], .arr t 1 cs')])
    (hc0 : (c0 = .pv .nilPtr ∧ d0 = .pv .nilPtr) ∨ (c0 = .ref [0, 0] 0 ∧ d0 = .ref m0 0)) (hv : vals = .ref m0 0 :: xs.map .pv) (hne : eqNm m0 m1 = false)
    (h0 : lkOK m0 X.h (fun o => o = .box T [d0, .arr m1 cs.length]) False) (h1 : lkOK m1 X.h (fun o => o = .arr t 1 cs) False)
    (hr : r.names = []) (hcs : namesL cs = []) (hcs' : namesL cs' = [])
    (hk : delNK m0 m1 [(m0, .box T [.ref m0 0, .arr m1 cs'.length]), (m1, .arr t 1 cs')] X.h fun h => setDK dst (.v r) ⟨X.t, h⟩ K) : XCall P f vals dst X K := by
  have h0' : lkO m0 X.h = some (.box T [d0, .arr m1 cs.length]) := by
    rcases lkOK_sound h0 with ⟨o, h, e⟩ | ⟨_, e⟩
    · rw [← e]; exact h
    · exact e.elim
  have h1' : lkO m1 X.h = some (.arr t 1 cs) := by
    rcases lkOK_sound h1 with ⟨o, h, e⟩ | ⟨_, e⟩
    · rw [← e]; exact h
    · exact e.elim
  have hne' : m0 ≠ m1 := eqNm_ne hne
  refine ⟨fun K2 hK => .gen _ _ _ (bρ m0 m1) hs (by rw [hv]; simp) ?_ (bw_fit hc0 hv) (bw_ch hcs hc0 h0' h1') ?_⟩
  · intro e he e' he' hh
    simp only [List.mem_cons, List.not_mem_nil, or_false] at he he'
    rcases he with rfl | rfl <;> rcases he' with rfl | rfl
    · rfl
    · rw [bρ_0, bρ_1] at hh; exact absurd hh hne'
    · rw [bρ_0, bρ_1] at hh; exact absurd hh.symm hne'
    · rfl
  · rintro s h' ⟨rfl, rfl⟩
    refine ⟨[], ⟨?_, ?_, ?_, by simp, by simp⟩, ?_⟩
    · intro e he e' he' hh
      have key : ∀ e : Nm × OV, e ∈ [([0, 0], OV.box T [c0, SV.arr [0, 1] cs.length]), ([0, 1], OV.arr t 1 cs)] ++ [([0, 0], OV.box T [SV.ref [0, 0] 0, SV.arr [0, 1] cs'.length]), ([0, 1], OV.arr t 1 cs')] → e.1 = [0, 0] ∨ e.1 = [0, 1] := by
        intro e he
        simp only [List.cons_append, List.nil_append, List.mem_cons, List.not_mem_nil, or_false] at he
        rcases he with rfl | rfl | rfl | rfl <;> simp
      rcases key e he with h | h <;> rcases key e' he' with h' | h' <;> rw [h, h'] at hh ⊢
      · rw [bρ_0, bρ_1] at hh; exact absurd hh hne'
      · rw [bρ_0, bρ_1] at hh; exact absurd hh.symm hne'
    · intro e he hn
      simp only [List.mem_cons, List.not_mem_nil, or_false] at he
      rcases he with rfl | rfl <;> simp [lkO] at hn
    · intro e he hn
      simp only [List.mem_cons, List.not_mem_nil, or_false] at he
      rcases he with rfl | rfl <;> simp [lkO] at hn
    · rw [afterT_nil, bw_filter]
      have h2 := delNK_sound (p := fun n => !(decide (m0 = n) || decide (m1 = n))) bw_p hk
      obtain ⟨Y, h3, h4⟩ := setDK_sound h2
      have := hK Y h4
      rw [h3] at this
      rw [ren_none hr]
      simp only [List.map_cons, List.map_nil, OV.ren, renL, SV.ren, bρ_0, bρ_1, renL_none hcs']
      exact this
/-- A call that takes the text out, where there is nothing else. -/
theorem XCall.bstr {st : ByteArray} {d : Nat} {T1 : List (Nat × XV)} {K : XS → Prop}
    (hs : FnSpec P f [.ref [0, 0] 0] [([0, 0], .box T [c0, .arr [0, 1] cs.length]), ([0, 1], .arr t 1 cs)] fun s h' => s = .pv (.str st) ∧ h' = [])
    (hc0 : (c0 = .pv .nilPtr ∧ d0 = .pv .nilPtr) ∨ (c0 = .ref [0, 0] 0 ∧ d0 = .ref m0 0)) (hne : eqNm m0 m1 = false) (hX : X = ⟨T1, [(m0, .box T [d0, .arr m1 cs.length]), (m1, .arr t 1 cs)]⟩)
    (hcs : namesL cs = []) (hk : dropTK [m0, m1] T1 fun t' => setTK d (.v (.pv (.str st))) t' fun t' => K ⟨t', []⟩) : XCall P f [.ref m0 0] (some d) X K := by
  subst hX
  have hne' : m0 ≠ m1 := eqNm_ne hne
  refine ⟨fun K2 hK => .gen _ _ _ (bρ m0 m1) hs (by simp) ?_ (bw_fit (xs := []) hc0 rfl) (bw_ch hcs hc0 (by simp [lkO]) (by simp [lkO, hne'])) ?_⟩
  · intro e he e' he' hh
    simp only [List.mem_cons, List.not_mem_nil, or_false] at he he'
    rcases he with rfl | rfl <;> rcases he' with rfl | rfl
    · rfl
    · rw [bρ_0, bρ_1] at hh; exact absurd hh hne'
    · rw [bρ_0, bρ_1] at hh; exact absurd hh.symm hne'
    · rfl
  · rintro s h' ⟨rfl, rfl⟩
    have hfl : afterH (XS.den ⟨T1, [(m0, OV.box T [d0, .arr m1 cs.length]), (m1, .arr t 1 cs)]⟩) (bρ m0 m1) [([0, 0], OV.box T [c0, .arr [0, 1] cs.length]), ([0, 1], .arr t 1 cs)] [] = [] := by
      rw [bw_filter]
      simp
    refine ⟨[m0, m1], ⟨?_, by simp, ?_, fun n hn => by rw [hfl]; rfl, ?_⟩, ?_⟩
    · intro e he e' he' hh
      simp only [List.append_nil, List.mem_cons, List.not_mem_nil, or_false] at he he'
      rcases he with rfl | rfl <;> rcases he' with rfl | rfl
      · rfl
      · rw [bρ_0, bρ_1] at hh; exact absurd hh hne'
      · rw [bρ_0, bρ_1] at hh; exact absurd hh.symm hne'
      · rfl
    · intro e he _
      simp only [List.mem_cons, List.not_mem_nil, or_false] at he
      rcases he with rfl | rfl
      · rw [bρ_0]; simp
      · rw [bρ_1]; simp
    · intro e he hc
      simp only [XS.den, List.mem_cons, List.not_mem_nil, or_false] at he
      rcases he with rfl | rfl
      · exact absurd (bρ_0 m0 m1) (hc ([0, 0], .box T [c0, .arr [0, 1] cs.length]) (by simp))
      · exact absurd (bρ_1 m0 m1) (hc ([0, 1], .arr t 1 cs) (by simp))
    · rw [hfl]
      obtain ⟨l, h1, h2⟩ := dropTK_sound hk
      obtain ⟨l', h3, h4⟩ := setTK_sound h2
      have := hK _ h4
      have e : (XS.den ⟨l', []⟩) = setD { t := afterT (XS.den ⟨T1, [(m0, OV.box T [d0, .arr m1 cs.length]), (m1, .arr t 1 cs)]⟩) [m0, m1], h := [] } (some d) (SV.ren (bρ m0 m1) (.pv (.str st))) := by
        simp only [XS.den, setD, St.set, h3, h1, SV.ren, XV.den, afterT]
        rw [show dropT [m0, m1] (denT T1) = (denT T1).map (fun e => (e.1, dropS [m0, m1] e.2)) from (congrArg St.t (drop_eq (denT T1) [] [m0, m1])).symm]
      rw [← e]
      exact this
end
end Go.VL
