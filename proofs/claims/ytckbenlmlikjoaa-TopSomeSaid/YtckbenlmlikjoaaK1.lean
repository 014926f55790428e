/- From contracts to statements: slices of numbers as arguments; what is behind a call; a law's frame. -/
import Derived.Test.YtckbenlmlikjoaaT3
import Derived.ProofKit
set_option linter.unusedVariables false
set_option linter.unusedSimpArgs false
set_option maxRecDepth 20000
namespace Go.VL
open Go.ChangeShapes Go.WideShapes Go.ChangeAt Go.RowKit
theorem law_walk {P : Program} {f : FuncId} {xs : List PV} (h : Pure P f xs [.bool true]) {W : World} {vs : List Value} (hl : xs.length = vs.length) (hr : ∀ (k : Nat) x v, xs[k]? = some x → vs[k]? = some v → PVRel W (fun b => b < W.heap.size) x v) :
    Calls P f vs.toArray W fun e W' => e = .returned (.bool true) ∧ Keeps W W' (fun _ => False) := by
  let g : Gh := { β := fun _ => undef, Ps := fun b => b < W.heap.size }
  have HR : HRel (mkE W (Owned g (fun n => lkO n [])) g.Ps) g (fun n => lkO n []) W :=
    ⟨fun n o ho => by simp [lkO] at ho, fun n m hn => absurd rfl hn, fun n hn => absurd rfl hn, fun n hn => absurd rfl hn, Keeps.refl _ _, fun _ h => h, fun b hb _ => .inl hb, fun _ h => h⟩
  refine (h W g vs HR (by simpa using hl) (fun k s v hs hv => ?_)).mono ?_
  · simp only [List.getElem?_map, Option.map_eq_some_iff] at hs
    obtain ⟨x, hx, rfl⟩ := hs
    exact .pv x v (hr k x v hx hv)
  · rintro e W' ⟨v, s, h', g', rfl, ⟨rfl, rfl⟩, H, hv, _, _⟩
    have hv' : v = .bool true := SVRel.bool hv
    subst hv'
    have K := H.keeps
    exact ⟨rfl, ⟨K.os, K.tape, K.output, K.size, fun b hb _ => K.block b hb (fun ⟨n, hn, _⟩ => hn rfl)⟩⟩
theorem Keeps.cell {W W' : World} (K : Keeps W W' (fun _ => False)) {a : Addr} {v : Value} (h : W.cell? a = some v) : W'.cell? a = some v := by
  have hb : a.block < W.heap.size := by
    cases hh : W.heap[a.block]? with
    | none => simp [World.cell?, hh] at h
    | some o => exact (Array.getElem?_eq_some_iff.1 hh).1
  rw [World.cell?_of_block (w := W) (w' := W') (a := a) (K.block _ hb (fun h => h))]
  exact h
theorem Keeps.kept {W W' : World} (K : Keeps W W' (fun _ => False)) (may : MemPlace → Prop) : W.keptBut W' may := by
  refine ⟨K.os, K.output, fun i hi => ?_⟩
  have := (World.keptBut_refl W may).2.2 i hi
  rw [K.block i hi (fun h => h)]
  exact this
theorem Keeps.frozen {W W' : World} (K : Keeps W W' (fun _ => False)) {a : Addr} (h : a.block < W.heap.size) : W'.frozen? a = W.frozen? a := by
  have := K.block a.block h (fun h => h)
  simp only [World.frozen?, this]
/-- A slice of numbers that is handed in: how it reads, before and behind. -/
theorem arg_ints {H : Type} {enc : TypeId × Value → H} {P : Program} {t e : TypeId} (ht : P.underlying t = some (.slice e)) (he : P.underlying e = some (.int .i64)) (hc : P.cellsOf e = 1) {W : World} {r : Reach} {b0 : Nat} {v : Value} {d : DataW H} {p : List MemPlace}
    (hv : Value.okWide P W r b0 t v) (hd : DataW.Trod enc P W 0 (fun _ => true) true t v d p) :
    ∃ l : List Int, (∀ x ∈ l, -9223372036854775808 ≤ x ∧ x ≤ 9223372036854775807) ∧ PVRel W (fun b => b < W.heap.size) (.list 1 (l.map (PV.int .i64))) v ∧
      ∀ W', Keeps W W' (fun _ => False) → ∀ sp : Nat → Bool, (∀ q ∈ p, sp q.block = true) → DataW.Trod enc P W' 0 sp true t v d p := by
  obtain ⟨a0, len, cap, rfl⟩ := okWide_slice ht hv
  obtain ⟨fuel, hf⟩ := hd
  rcases open_ints ht he hc hf with ⟨hcs, hx⟩ | ⟨a, len', cap', zs, hcs, _, hl, hm, hz, hx, hcell, hwz⟩
  · simp [Value.cells] at hcs
    obtain ⟨rfl, rfl, rfl⟩ := hcs
    simp only [Prod.mk.injEq] at hx
    obtain ⟨rfl, rfl⟩ := hx
    exact ⟨[], by simp, .nil_list 1, fun W' _ sp _ => shut_slice_nil ht⟩
  · simp [Value.cells] at hcs
    obtain ⟨rfl, rfl, rfl⟩ := hcs
    simp only [Prod.mk.injEq] at hx
    obtain ⟨rfl, rfl⟩ := hx
    simp only [if_true] at hz
    have hlen : (zs.take len).length = len := by rw [List.length_take]; omega
    refine ⟨zs.take len, fun x hx => ?_, ?_, fun W' K sp hsp => ?_⟩
    · have := hwz x (List.mem_of_mem_take hx)
      simp only [Lit.wf, Bool.and_eq_true, decide_eq_true_eq] at this
      exact this
    · have hfl : flat ((zs.take len).map (PV.int .i64)) = (zs.take len).map (PV.int .i64) := flat_ints .i64 _
      have key := PVRel.list (w := W) (Ps := fun b => b < W.heap.size) 1 ((zs.take len).map (PV.int .i64)) (some a) cap a.block a.off (fun k => .int .i64 (zs.getD k 0)) (by
          intro x hx
          obtain ⟨y, _, rfl⟩ := List.mem_map.1 hx
          rfl) (by
          intro hne
          have h0 : 0 < zs.length := by
            cases zs with
            | nil => simp at hne
            | cons => simp
          have hsp : a.spot = none := by simpa [Addr.add] using World.cell?_spot (hcell 0 h0)
          have hblk : a.block < W.heap.size := by
            have h1 := hcell 0 h0
            cases hh : W.heap[a.block]? with
            | none => simp [World.cell?, Addr.add, hh] at h1
            | some o => exact (Array.getElem?_eq_some_iff.1 hh).1
          refine ⟨?_, hblk⟩
          obtain ⟨b, off, spot⟩ := a
          simp only at hsp
          subst hsp
          rfl) (by rw [List.length_map, hlen]; unfold maxLen at hm; unfold maxI; omega) (by rw [List.length_map, hlen]; exact hl) (by
          intro k hk
          rw [hfl, List.length_map, hlen] at hk
          have h1 := hcell k (by omega)
          have hsp : a.spot = none := by simpa [Addr.add] using World.cell?_spot (hcell 0 (by omega))
          refine ⟨?_, rfl⟩
          have e : (⟨a.block, a.off + k, none⟩ : Addr) = a.add k := by
            obtain ⟨b, off, spot⟩ := a
            simp only at hsp
            subst hsp
            unfold Addr.add
            split
            · rename_i h; subst h; rfl
            · rfl
          rw [e]; exact h1) (by
          intro k c hk
          rw [hfl, List.getElem?_map] at hk
          cases hz' : (zs.take len)[k]? with
          | none => rw [hz'] at hk; cases hk
          | some z =>
            rw [hz'] at hk
            simp only [Option.map_some, Option.some.injEq] at hk
            subst hk
            have hkl := (List.getElem?_eq_some_iff.1 hz').1
            rw [hlen] at hkl
            rw [List.getElem?_take_of_lt hkl] at hz'
            rw [List.getD_eq_getElem?_getD, hz']
            exact .int _ _) (fun h => by cases h)
      rw [List.length_map, hlen] at key
      exact key
    · have hcell' : ∀ i, i < zs.length → W'.cell? (a.add i) = some (.int .i64 (zs.getD i 0)) := fun i hi => K.cell (hcell i hi)
      by_cases hz0 : zs.length = 0
      · have hc0 : cap = 0 := by omega
        have hl0 : len = 0 := by omega
        subst hc0; subst hl0
        have t0 := shut_ints (enc := enc) (w := W') (base := 0) (spare := sp) (held := true) (a := a) (len := 0) (cap := 0) (zs := zs) 0 ht he hc (Nat.zero_le _) (Nat.le_refl _) hm (by simp [hz0]) hcell' hwz
        exact ⟨2, by simpa [Value.cells] using t0⟩
      · have hspb : sp a.block = true := by
          have := hsp (.cell a.block a.off) (MemPlace.mem_row.2 ⟨0, by omega, by simp⟩)
          exact this
        have t0 := shut_ints (enc := enc) (w := W') (base := 0) (spare := sp) (held := true) (a := a) (len := len) (cap := cap) (zs := zs) 0 ht he hc (Nat.zero_le _) hl hm (by simp [hspb, hz]) hcell' hwz
        exact ⟨2, by simpa [Value.cells] using t0⟩
/-- Behind the call all that came in reads as it did; new blocks may be frozen. -/
theorem post_of_old {H : Type} {enc : TypeId × Value → H} {P : Program} {f : Func} {s : ChangeSpec} {apart fresh handsOn again : Bool} {W W' : World} {args : Array Value} {v : Value} {ds gs : List (DataW H)} {before pa pv : List MemPlace}
    (hW : DataW.Whole enc P f.params.toList s.vars apart W args.toList ds gs before)
    (hres : ∀ (b : Nat) (sp : Nat → Bool) (hd : Bool), DataW.TrodAll enc P W' b sp hd f.resultTypes.toList (v.resultList f.resultTypes.size) (s.fn H (ds ++ gs)).results [])
    (hargs : ∀ sp : Nat → Bool, (∀ p ∈ before, sp p.block = true) → DataW.TrodAll enc P W' 0 sp true f.params.toList args.toList (s.fn H (ds ++ gs)).args pa)
    (hvars : ∀ sp : Nat → Bool, (∀ p ∈ before, sp p.block = true) → DataW.TrodVars enc P W' sp s.vars (s.fn H (ds ++ gs)).vars pv)
    (hps : before = pa ++ pv) (K : Keeps W W' (fun _ => False))
    (hok : ∀ (j : Nat) (t : TypeId) (r : Value), f.resultTypes[j]? = some t → (v.resultList f.resultTypes.size)[j]? = some r → Value.okWide P W' .any 0 t r) :
    s.post enc P f apart fresh handsOn again W args v W' := by
  have hlt := hW.lt
  have hold : ∀ p ∈ before, (fun b => decide (b < W.heap.size)) p.block = true := fun p hp => by simpa using hlt p hp
  refine ⟨ds, gs, before, [], pa, pv, hW, hres _ _ _, hargs _ hold, hvars _ hold, World.keptBut_mono (fun p hp => ⟨hp, ?_⟩) (K.kept (· ∈ before)), fun _ => ?_⟩
  · rw [hps, List.mem_append] at hp
    exact Or.inr hp
  · obtain ⟨_, _, _, _, _, hz, hn⟩ := hW
    refine ⟨hok, _, _, ([] ++ pa) ++ pv, ⟨[] ++ pa, pv, trodAll_append (hargs _ (fun _ _ => rfl)) (hres _ _ _), hvars _ (fun _ _ => rfl), rfl, ?_, ?_⟩, ?_⟩
    · intro b off hp
      rw [K.frozen (hlt (.cell b off) (by rw [hps]; simpa using hp))]
      exact hz b off (by rw [hps]; simpa using hp)
    · intro ha
      have := hn ha
      rw [hps] at this
      simpa using this
    · intro p hp _
      rw [hps]
      simpa using hp
end Go.VL
