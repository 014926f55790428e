/- Contracts: TopSome. -/
import Derived.Test.YtckbenlmlikjoaaS3
set_option linter.unusedVariables false
set_option linter.unusedSimpArgs false
set_option maxRecDepth 20000
namespace Go.VL.A
open Go.Proofs.Try
theorem chk_zero {t : Tm} (h : Tm.nms t = true) (hv : Tm.novar t = true) : Tm.chk t = 0 := by
  induction t using Tm.ind with
  | h n ts ih =>
  obtain ⟨h1, h2⟩ := (Tm.nms_node _ _).1 h
  obtain ⟨h3, h4⟩ := (Tm.novar_node _ _).1 hv
  rw [Tm.chk_node, if_neg (by rw [h1]; simp), if_neg (by rw [h3]; simp)]
  rw [firstNZ_zero]
  intro e he
  obtain ⟨t, ht, rfl⟩ := List.mem_map.1 he
  exact ih t ht (h2 t ht) (h4 t ht)
theorem Inn.novar {ms : List Mv} (hn : ∀ m ∈ ms, varF m.name = false) {t : Tm} {k : Int} (h : Inn ms t k) : Tm.novar t = true := by
  induction h with
  | mk m hm ts hl h ih =>
    refine (Tm.novar_node _ _).2 ⟨hn m hm, fun t ht => ?_⟩
    obtain ⟨i, hi, rfl⟩ := List.mem_iff_getElem.1 ht
    have := ih i hi
    rwa [List.getD_eq_getElem?_getD, List.getElem?_eq_getElem hi] at this
theorem nm4 {k : Int} (h : 0 ≤ k ∧ k < 4) : nameF ([nA, nB, nH, nF].getD k.toNat default) = true ∧ varF ([nA, nB, nH, nF].getD k.toNat default) = false := by
  have : k = 0 ∨ k = 1 ∨ k = 2 ∨ k = 3 := by omega
  rcases this with rfl | rfl | rfl | rfl <;> exact ⟨by decide, by decide⟩
theorem Gnd.good {t : Tm} (h : Gnd t) : Tm.nms t = true ∧ Tm.novar t = true := by
  have ha := nm4 (k := 0) (by omega)
  have hb := nm4 (k := 1) (by omega)
  have hh := nm4 (k := 2) (by omega)
  have hf := nm4 (k := 3) (by omega)
  induction h with
  | a => exact ⟨(Tm.nms_node _ _).2 ⟨ha.1, by simp⟩, (Tm.novar_node _ _).2 ⟨ha.2, by simp⟩⟩
  | b => exact ⟨(Tm.nms_node _ _).2 ⟨hb.1, by simp⟩, (Tm.novar_node _ _).2 ⟨hb.2, by simp⟩⟩
  | h t _ ih => exact ⟨(Tm.nms_node _ _).2 ⟨hh.1, by simpa using ih.1⟩, (Tm.novar_node _ _).2 ⟨hh.2, by simpa using ih.2⟩⟩
  | f t u _ _ ih ih' => exact ⟨(Tm.nms_node _ _).2 ⟨hf.1, by simpa using ⟨ih.1, ih'.1⟩⟩, (Tm.novar_node _ _).2 ⟨hf.2, by simpa using ⟨ih.2, ih'.2⟩⟩⟩
theorem chkF_zero {t : Tm} (hz : t.size ≤ 200) (h : Tm.nms t = true) (hv : Tm.novar t = true) : Tm.chkF t = 0 := by
  rw [Tm.chkF, if_neg (by omega)]; exact chk_zero h hv
theorem aLs_mem (l : List Int) (o : Int) (k : Nat) : ∀ s ∈ aLs l o k, 0 ≤ s ∧ s < k := by
  induction k with
  | zero => intro s hs; simp [aLs] at hs
  | succ k ih =>
    intro s hs
    rw [aLs] at hs
    split at hs
    · rcases List.mem_append.1 hs with hs | hs
      · have := ih s hs; omega
      · rw [List.mem_singleton] at hs; omega
    · have := ih s hs; omega
theorem auto_ok {l : List Int} {n mv : Int} (hn : 0 < n ∧ n ≤ 8) (hm : 0 ≤ mv ∧ mv ≤ 40) : AuOk n (aMs l 0 n mv.toNat) (aLs l 0 n.toNat) ∧ ∀ m ∈ aMs l 0 n mv.toNat, m.frm.length ≤ 2 := by
  have key : ∀ m ∈ aMs l 0 n mv.toNat, ∃ i, m = amv l 0 n i := by
    intro m h
    obtain ⟨i, _, rfl⟩ := List.mem_map.1 h
    exact ⟨i, rfl⟩
  have hlen : ∀ i, (amv l 0 n i).frm.length ≤ 2 := by
    intro i
    have := aar_bound l 0 i
    simp [amv, afr]
    omega
  refine ⟨⟨by omega, hn.2, by simp [aMs]; omega, fun m h => ?_, fun m h => ?_, fun m h s hs => ?_, fun m h => ?_, fun s hs => ?_⟩, fun m h => ?_⟩
  · obtain ⟨i, rfl⟩ := key m h; exact nm4 (aq_bound l 0 i)
  · obtain ⟨i, rfl⟩ := key m h; have := hlen i; omega
  · obtain ⟨i, rfl⟩ := key m h
    obtain ⟨j, _, rfl⟩ := List.mem_map.1 hs
    exact pickF_bound hn.1
  · obtain ⟨i, rfl⟩ := key m h; exact pickF_bound hn.1
  · have := aLs_mem l 0 _ s hs; omega
  · obtain ⟨i, rfl⟩ := key m h; exact hlen i
theorem one_spec : Pure prog 9 [.agg [.int .i64 1, .list 3 [.agg [.str ⟨#[97]⟩, .nilS, .int .i64 0]], .list 1 [.int .i64 0]], tmP ⟨#[97]⟩ []] [.bool true, .int .i64 0] := by
  have ha := nm4 (k := 0) (by omega)
  have hA : AuOk 1 [⟨nA, [], 0⟩] [0] := by
    refine ⟨by omega, by omega, by simp, fun m h => ?_, fun m h => ?_, fun m h s hs => ?_, fun m h => ?_, fun s hs => ?_⟩
    · rw [List.mem_singleton] at h; subst h; exact ha
    · rw [List.mem_singleton] at h; subst h; simp
    · rw [List.mem_singleton] at h; subst h; simp at hs
    · rw [List.mem_singleton] at h; subst h; simp
    · rw [List.mem_singleton] at hs; subst hs; omega
  have hg := Gnd.a.good
  have c := accepts_spec (nm := nA) (ts := []) ⟨hA, chkF_zero (by rw [Tm.size_node]; simp) hg.1 hg.2, hg.2⟩
  have hi : Inn [⟨nA, [], 0⟩] (.node nA []) 0 := .mk ⟨nA, [], 0⟩ (by simp) [] rfl (fun i hi => by simp at hi)
  rw [(accF_iff hA.mv (by simp) _).2 ⟨0, by simp, hi⟩] at c
  refine FnSpec.sub c (.cons _ _ _ _ (.agg _ _ (.cons _ _ _ _ (.refl _) (.cons _ _ _ _ (.list 3 _ _ rfl ?_ ?_) (.cons _ _ _ _ (.refl _) .nil)))) (.cons _ _ _ _ (.refl _) .nil))
  · intro y hy
    obtain ⟨m, _, rfl⟩ := List.mem_map.1 hy
    rfl
  · exact .cons _ _ _ _ (.refl _) (.cons _ _ _ _ (.nil 1) (.cons _ _ _ _ (.refl _) .nil))
theorem top_some {l : List Int} (hl : ∀ x ∈ l, I64 x) {a b : Int} (ha : I64 a) (hb : I64 b) : Pure prog 3 [.list 1 (l.map (PV.int .i64)), .int .i64 a, .int .i64 b] [.bool true] := by
  have hp := pickF_bound (x := a) (n := 4) (by omega)
  have hq := pickF_bound (x := b) (n := 12) (by omega)
  unfold I64 at ha hb
  obtain ⟨hA, har⟩ := auto_ok (l := l) (n := 1 + pickF a 4) (mv := pickF b 12) (by omega) (by omega)
  have cA := auto_spec hl (o := 0) (n := 1 + pickF a 4) (mv := pickF b 12) (by omega)
  obtain ⟨t, k, cG, hG, hGz, _, _⟩ := ground_spec hl 14 80 14 (by omega) (by omega) (by omega) (by omega) (by omega)
  have hGg := hG.good
  have hGc := chkF_zero (t := t) (by omega) hGg.1 hGg.2
  generalize aMs l 0 (1 + pickF a 4) (pickF b 12).toNat = ms at *
  generalize aLs l 0 (1 + pickF a 4).toNat = ls at *
  have cT := accepts_spec (nm := t.name) (ts := t.args) (by rw [Tm.eta]; exact ⟨hA, hGc, hGg.2⟩)
  rw [Tm.eta] at cT
  have cS := some_spec hA
  generalize hnn : 1 + pickF a 4 = n at *
  refine pure_intro (C := X3) func3 cc3 cr3 rfl (Nat.le_of_ble_eq_true rfl) ?_; simp only [argX, Nat.reduceAdd, tmV, Tm.name_node, Tm.args_node]
  (try (conv => whnf)); repeat ((first | (apply gd_dead; focus exact bl) | (with_reducible first | apply and_self | apply ln_map | apply gd_live | apply aln_int | apply ap_int | apply aln_map | apply and_tag | apply fl_one | apply fl_int | apply fl_str | apply fl_ints | apply fl_strs | apply ap_snoc | apply ap_maps | apply ap_nil | apply ap_raw | apply ways_t | apply ways_f | apply en_end | apply ln_raw) | ((with_reducible first | apply and_gd | apply wr_i64 | apply and_sidxN | apply and_sidx | apply el_int | apply el_str | apply aidx_int | apply ac_int | apply el_intI | apply el_strI | apply wr_u64 | apply wr_u8 | apply wr_i32 | apply and_aidx); focus exact sg) | ((with_reducible first | apply and_cellN | apply em_pos | apply and_noNm | apply and_app1 | apply and_app2 | apply and_app3 | apply and_app4 | apply and_app5 | apply and_app6 | apply and_appFit | apply and_mkFit | apply and_strFit); focus exact sn) | ((with_reducible apply em_zero); focus exact sn) | ((with_reducible apply ways_T); focus exact bl) | ((with_reducible apply ways_F); focus exact bl) | apply xp_join | (apply XAlt.mk <;> try (conv => whnf)) | exact xs_rfl | with_reducible apply restK_go | (apply and_body; focus assumption) | (apply and_body (by kernel_rfl)) | (with_reducible first | apply wr_raw | apply fl_raw) | ((with_reducible first | apply and_gd | apply and_sidxN | apply and_sidx | apply el_int | apply el_str | apply el_intI | apply el_strI | apply and_aidx | apply and_cellN | apply and_app1 | apply and_app2 | apply and_app3 | apply and_app4 | apply and_app5 | apply and_app6 | apply and_appFit | apply and_mkFit | apply and_strFit | apply and_noNm | apply and_eq); rotate_left) | ((with_reducible apply en_pv); (focus with_reducible exact SubP.refl _)) | (with_reducible first | apply en_int | apply en_bool | apply en_str)); try (conv => whnf))
  refine ⟨fun h0 => ?_, fun h0 => ?_⟩
  · try simp only [strEq_empty, cond_true_left, cond_or, Int.toNat_zero, Int.toNat_natCast, gt_iff_lt, ge_iff_le, Bool.and_eq_true, decide_eq_true_eq, Bool.not_eq_true', decide_eq_false_iff_not, Bool.not_eq_eq_eq_not, Bool.not_true, Bool.not_false, Bool.or_eq_true, Bool.and_eq_false_iff, Bool.or_eq_false_iff, not_true_eq_false, Int.not_lt, Int.not_le, Nat.not_lt, Nat.not_le, bnot_dec, bne_iff_ne, ne_eq, Bool.false_eq_true, Bool.true_eq_false, Decidable.not_not, reduceIte] at h0
    (try (conv => whnf)); repeat ((first | (apply gd_dead; focus exact bl) | (with_reducible first | apply and_self | apply ln_map | apply gd_live | apply aln_int | apply ap_int | apply aln_map | apply and_tag | apply fl_one | apply fl_int | apply fl_str | apply fl_ints | apply fl_strs | apply ap_snoc | apply ap_maps | apply ap_nil | apply ap_raw | apply ways_t | apply ways_f | apply en_end | apply ln_raw) | ((with_reducible first | apply and_gd | apply wr_i64 | apply and_sidxN | apply and_sidx | apply el_int | apply el_str | apply aidx_int | apply ac_int | apply el_intI | apply el_strI | apply wr_u64 | apply wr_u8 | apply wr_i32 | apply and_aidx); focus exact sg) | ((with_reducible first | apply and_cellN | apply em_pos | apply and_noNm | apply and_app1 | apply and_app2 | apply and_app3 | apply and_app4 | apply and_app5 | apply and_app6 | apply and_appFit | apply and_mkFit | apply and_strFit); focus exact sn) | ((with_reducible apply em_zero); focus exact sn) | ((with_reducible apply ways_T); focus exact bl) | ((with_reducible apply ways_F); focus exact bl) | apply xp_join | (apply XAlt.mk <;> try (conv => whnf)) | exact xs_rfl | with_reducible apply restK_go | (apply and_body; focus assumption) | (apply and_body (by kernel_rfl)) | (with_reducible first | apply wr_raw | apply fl_raw) | ((with_reducible first | apply and_gd | apply and_sidxN | apply and_sidx | apply el_int | apply el_str | apply el_intI | apply el_strI | apply and_aidx | apply and_cellN | apply and_app1 | apply and_app2 | apply and_app3 | apply and_app4 | apply and_app5 | apply and_app6 | apply and_appFit | apply and_mkFit | apply and_strFit | apply and_noNm | apply and_eq); rotate_left) | ((with_reducible apply en_pv); (focus with_reducible exact SubP.refl _)) | (with_reducible first | apply en_int | apply en_bool | apply en_str)); try (conv => whnf))
  · try simp only [strEq_empty, cond_true_left, cond_or, Int.toNat_zero, Int.toNat_natCast, gt_iff_lt, ge_iff_le, Bool.and_eq_true, decide_eq_true_eq, Bool.not_eq_true', decide_eq_false_iff_not, Bool.not_eq_eq_eq_not, Bool.not_true, Bool.not_false, Bool.or_eq_true, Bool.and_eq_false_iff, Bool.or_eq_false_iff, not_true_eq_false, Int.not_lt, Int.not_le, Nat.not_lt, Nat.not_le, bnot_dec, bne_iff_ne, ne_eq, Bool.false_eq_true, Bool.true_eq_false, Decidable.not_not, reduceIte] at h0
    (try (conv => whnf)); repeat ((first | (apply gd_dead; focus exact bl) | (with_reducible first | apply and_self | apply ln_map | apply gd_live | apply aln_int | apply ap_int | apply aln_map | apply and_tag | apply fl_one | apply fl_int | apply fl_str | apply fl_ints | apply fl_strs | apply ap_snoc | apply ap_maps | apply ap_nil | apply ap_raw | apply ways_t | apply ways_f | apply en_end | apply ln_raw) | ((with_reducible first | apply and_gd | apply wr_i64 | apply and_sidxN | apply and_sidx | apply el_int | apply el_str | apply aidx_int | apply ac_int | apply el_intI | apply el_strI | apply wr_u64 | apply wr_u8 | apply wr_i32 | apply and_aidx); focus exact sg) | ((with_reducible first | apply and_cellN | apply em_pos | apply and_noNm | apply and_app1 | apply and_app2 | apply and_app3 | apply and_app4 | apply and_app5 | apply and_app6 | apply and_appFit | apply and_mkFit | apply and_strFit); focus exact sn) | ((with_reducible apply em_zero); focus exact sn) | ((with_reducible apply ways_T); focus exact bl) | ((with_reducible apply ways_F); focus exact bl) | ((first | apply cl pick_spec | apply cd pick_spec | apply cg pick_spec | apply cG pick_spec); focus exact subs) | ((apply XCall.newArr pick_spec); (focus (simp [SV.names]; done)); (focus exact namesL_arrC _ _)) | ((first | apply clH pick_spec | apply cdH pick_spec | apply cgH pick_spec | apply cGH pick_spec); (focus exact subs); focus exact sg) | ((first | apply clH pick_spec | apply cdH pick_spec | apply cgH pick_spec | apply cGH pick_spec); (focus exact subs); rotate_left) | apply xp_join | (apply XAlt.mk <;> try (conv => whnf)) | exact xs_rfl | with_reducible apply restK_go | (apply and_body; focus assumption) | (apply and_body (by kernel_rfl)) | (with_reducible first | apply wr_raw | apply fl_raw) | ((with_reducible first | apply and_gd | apply and_sidxN | apply and_sidx | apply el_int | apply el_str | apply el_intI | apply el_strI | apply and_aidx | apply and_cellN | apply and_app1 | apply and_app2 | apply and_app3 | apply and_app4 | apply and_app5 | apply and_app6 | apply and_appFit | apply and_mkFit | apply and_strFit | apply and_noNm | apply and_eq); rotate_left) | ((with_reducible apply en_pv); (focus with_reducible exact SubP.refl _)) | (with_reducible first | apply en_int | apply en_bool | apply en_str)); try (conv => whnf))
    rw [hnn]
    (try (conv => whnf)); repeat ((first | (apply gd_dead; focus exact bl) | (with_reducible first | apply and_self | apply ln_map | apply gd_live | apply aln_int | apply ap_int | apply aln_map | apply and_tag | apply fl_one | apply fl_int | apply fl_str | apply fl_ints | apply fl_strs | apply ap_snoc | apply ap_maps | apply ap_nil | apply ap_raw | apply ways_t | apply ways_f | apply en_end | apply ln_raw) | ((with_reducible first | apply and_gd | apply wr_i64 | apply and_sidxN | apply and_sidx | apply el_int | apply el_str | apply aidx_int | apply ac_int | apply el_intI | apply el_strI | apply wr_u64 | apply wr_u8 | apply wr_i32 | apply and_aidx); focus exact sg) | ((with_reducible first | apply and_cellN | apply em_pos | apply and_noNm | apply and_app1 | apply and_app2 | apply and_app3 | apply and_app4 | apply and_app5 | apply and_app6 | apply and_appFit | apply and_mkFit | apply and_strFit); focus exact sn) | ((with_reducible apply em_zero); focus exact sn) | ((with_reducible apply ways_T); focus exact bl) | ((with_reducible apply ways_F); focus exact bl) | ((first | apply cl cA | apply cd cA | apply cg cA | apply cG cA); focus exact subs) | ((apply XCall.newArr cA); (focus (simp [SV.names]; done)); (focus exact namesL_arrC _ _)) | ((first | apply clH cA | apply cdH cA | apply cgH cA | apply cGH cA); (focus exact subs); focus exact sg) | ((first | apply clH cA | apply cdH cA | apply cgH cA | apply cGH cA); (focus exact subs); rotate_left) | ((first | apply cl cG | apply cd cG | apply cg cG | apply cG cG); focus exact subs) | ((apply XCall.newArr cG); (focus (simp [SV.names]; done)); (focus exact namesL_arrC _ _)) | ((first | apply clH cG | apply cdH cG | apply cgH cG | apply cGH cG); (focus exact subs); focus exact sg) | ((first | apply clH cG | apply cdH cG | apply cgH cG | apply cGH cG); (focus exact subs); rotate_left) | ((first | apply cl cT | apply cd cT | apply cg cT | apply cG cT); focus exact subs) | ((apply XCall.newArr cT); (focus (simp [SV.names]; done)); (focus exact namesL_arrC _ _)) | ((first | apply clH cT | apply cdH cT | apply cgH cT | apply cGH cT); (focus exact subs); focus exact sg) | ((first | apply clH cT | apply cdH cT | apply cgH cT | apply cGH cT); (focus exact subs); rotate_left) | apply xp_join | (apply XAlt.mk <;> try (conv => whnf)) | exact xs_rfl | with_reducible apply restK_go | (apply and_body; focus assumption) | (apply and_body (by kernel_rfl)) | (with_reducible first | apply wr_raw | apply fl_raw) | ((with_reducible first | apply and_gd | apply and_sidxN | apply and_sidx | apply el_int | apply el_str | apply el_intI | apply el_strI | apply and_aidx | apply and_cellN | apply and_app1 | apply and_app2 | apply and_app3 | apply and_app4 | apply and_app5 | apply and_app6 | apply and_appFit | apply and_mkFit | apply and_strFit | apply and_noNm | apply and_eq); rotate_left) | ((with_reducible apply en_pv); (focus with_reducible exact SubP.refl _)) | (with_reducible first | apply en_int | apply en_bool | apply en_str)); try (conv => whnf))
    refine XCall.pureR cS subs (fun ys hR => ?_)
    obtain ⟨best, I, hS, hR⟩ := hR
    have hm := hA.mv
    have h00 : ∀ m ∈ ms, ∀ s ∈ m.frm, 0 ≤ s := fun m hm s hs => (hA.frm m hm s hs).1
    have hl0 : ∀ s ∈ ls, 0 ≤ s := fun s hs => (hA.last s hs).1
    rcases hR with ⟨x, rfl, ⟨s0, hs0, hx0⟩, hmin⟩ | ⟨rfl, hno⟩
    · have hxs := stb_15 I (by omega) hS h00 har (hl0 s0 hs0) hx0
      obtain ⟨hxi, _⟩ := I.inn s0 x (hl0 s0 hs0) hx0
      have hxg := hxi.nms (fun m hm => (hA.nm m hm).1)
      have hxv := hxi.novar (fun m hm => (hA.nm m hm).2)
      have cX := accepts_spec (nm := x.name) (ts := x.args) (by rw [Tm.eta]; exact ⟨hA, chkF_zero (by omega) hxg hxv, hxv⟩)
      rw [Tm.eta, (accF_iff hm hl0 x).2 ⟨s0, hs0, hxi⟩] at cX
      have hcmp : accF ms ls t = true → x.size ≤ t.size := by
        intro h
        obtain ⟨s, hs, hi⟩ := (accF_iff hm hl0 t).1 h
        obtain ⟨u, hu, hle⟩ := stb_min hS hi (by omega)
        have := hmin s hs u hu
        omega
      have z1 := rsize_all x 2000 (by omega)
      have z2 := rsize_all t 2000 (by omega)
      (try (conv => whnf)); repeat ((first | (apply gd_dead; focus exact bl) | (with_reducible first | apply and_self | apply ln_map | apply gd_live | apply aln_int | apply ap_int | apply aln_map | apply and_tag | apply fl_one | apply fl_int | apply fl_str | apply fl_ints | apply fl_strs | apply ap_snoc | apply ap_maps | apply ap_nil | apply ap_raw | apply ways_t | apply ways_f | apply en_end | apply ln_raw) | ((with_reducible first | apply and_gd | apply wr_i64 | apply and_sidxN | apply and_sidx | apply el_int | apply el_str | apply aidx_int | apply ac_int | apply el_intI | apply el_strI | apply wr_u64 | apply wr_u8 | apply wr_i32 | apply and_aidx); focus exact sg) | ((with_reducible first | apply and_cellN | apply em_pos | apply and_noNm | apply and_app1 | apply and_app2 | apply and_app3 | apply and_app4 | apply and_app5 | apply and_app6 | apply and_appFit | apply and_mkFit | apply and_strFit); focus exact sn) | ((with_reducible apply em_zero); focus exact sn) | ((with_reducible apply ways_T); focus exact bl) | ((with_reducible apply ways_F); focus exact bl) | ((first | apply cl leaf_spec | apply cd leaf_spec | apply cg leaf_spec | apply cG leaf_spec); focus exact subs) | ((apply XCall.newArr leaf_spec); (focus (simp [SV.names]; done)); (focus exact namesL_arrC _ _)) | ((first | apply clH leaf_spec | apply cdH leaf_spec | apply cgH leaf_spec | apply cGH leaf_spec); (focus exact subs); focus exact sg) | ((first | apply clH leaf_spec | apply cdH leaf_spec | apply cgH leaf_spec | apply cGH leaf_spec); (focus exact subs); rotate_left) | ((first | apply cl one_spec | apply cd one_spec | apply cg one_spec | apply cG one_spec); focus exact subs) | ((apply XCall.newArr one_spec); (focus (simp [SV.names]; done)); (focus exact namesL_arrC _ _)) | ((first | apply clH one_spec | apply cdH one_spec | apply cgH one_spec | apply cGH one_spec); (focus exact subs); focus exact sg) | ((first | apply clH one_spec | apply cdH one_spec | apply cgH one_spec | apply cGH one_spec); (focus exact subs); rotate_left) | ((first | apply cl cX | apply cd cX | apply cg cX | apply cG cX); focus exact subs) | ((apply XCall.newArr cX); (focus (simp [SV.names]; done)); (focus exact namesL_arrC _ _)) | ((first | apply clH cX | apply cdH cX | apply cgH cX | apply cGH cX); (focus exact subs); focus exact sg) | ((first | apply clH cX | apply cdH cX | apply cgH cX | apply cGH cX); (focus exact subs); rotate_left) | ((first | apply cl z1 | apply cd z1 | apply cg z1 | apply cG z1); focus exact subs) | ((apply XCall.newArr z1); (focus (simp [SV.names]; done)); (focus exact namesL_arrC _ _)) | ((first | apply clH z1 | apply cdH z1 | apply cgH z1 | apply cGH z1); (focus exact subs); focus exact sg) | ((first | apply clH z1 | apply cdH z1 | apply cgH z1 | apply cGH z1); (focus exact subs); rotate_left) | ((first | apply cl z2 | apply cd z2 | apply cg z2 | apply cG z2); focus exact subs) | ((apply XCall.newArr z2); (focus (simp [SV.names]; done)); (focus exact namesL_arrC _ _)) | ((first | apply clH z2 | apply cdH z2 | apply cgH z2 | apply cGH z2); (focus exact subs); focus exact sg) | ((first | apply clH z2 | apply cdH z2 | apply cgH z2 | apply cGH z2); (focus exact subs); rotate_left) | apply xp_join | (apply XAlt.mk <;> try (conv => whnf)) | exact xs_rfl | with_reducible apply restK_go | (apply and_body; focus assumption) | (apply and_body (by kernel_rfl)) | (with_reducible first | apply wr_raw | apply fl_raw) | ((with_reducible first | apply and_gd | apply and_sidxN | apply and_sidx | apply el_int | apply el_str | apply el_intI | apply el_strI | apply and_aidx | apply and_cellN | apply and_app1 | apply and_app2 | apply and_app3 | apply and_app4 | apply and_app5 | apply and_app6 | apply and_appFit | apply and_mkFit | apply and_strFit | apply and_noNm | apply and_eq); rotate_left) | ((with_reducible apply en_pv); (focus with_reducible exact SubP.refl _)) | (with_reducible first | apply en_int | apply en_bool | apply en_str)); try (conv => whnf))
      cases h : accF ms ls t with
      | false => simp
      | true =>
        have h1 := hcmp h
        have h2 : min (x.size : Int) (2000 + 1) ≤ min (t.size : Int) (2000 + 1) := by omega
        simp only [decide_true, cond_true, Bool.not_true, cond_false, decide_eq_true h2]
    · have hna : accF ms ls t = false := by
        cases h : accF ms ls t with
        | false => rfl
        | true =>
          obtain ⟨s, hs, hi⟩ := (accF_iff hm hl0 t).1 h
          obtain ⟨u, hu, _⟩ := stb_min hS hi (by omega)
          rw [hno s hs] at hu; cases hu
      rw [hna]
      (try (conv => whnf)); repeat ((first | (apply gd_dead; focus exact bl) | (with_reducible first | apply and_self | apply ln_map | apply gd_live | apply aln_int | apply ap_int | apply aln_map | apply and_tag | apply fl_one | apply fl_int | apply fl_str | apply fl_ints | apply fl_strs | apply ap_snoc | apply ap_maps | apply ap_nil | apply ap_raw | apply ways_t | apply ways_f | apply en_end | apply ln_raw) | ((with_reducible first | apply and_gd | apply wr_i64 | apply and_sidxN | apply and_sidx | apply el_int | apply el_str | apply aidx_int | apply ac_int | apply el_intI | apply el_strI | apply wr_u64 | apply wr_u8 | apply wr_i32 | apply and_aidx); focus exact sg) | ((with_reducible first | apply and_cellN | apply em_pos | apply and_noNm | apply and_app1 | apply and_app2 | apply and_app3 | apply and_app4 | apply and_app5 | apply and_app6 | apply and_appFit | apply and_mkFit | apply and_strFit); focus exact sn) | ((with_reducible apply em_zero); focus exact sn) | ((with_reducible apply ways_T); focus exact bl) | ((with_reducible apply ways_F); focus exact bl) | ((first | apply cl leaf_spec | apply cd leaf_spec | apply cg leaf_spec | apply cG leaf_spec); focus exact subs) | ((apply XCall.newArr leaf_spec); (focus (simp [SV.names]; done)); (focus exact namesL_arrC _ _)) | ((first | apply clH leaf_spec | apply cdH leaf_spec | apply cgH leaf_spec | apply cGH leaf_spec); (focus exact subs); focus exact sg) | ((first | apply clH leaf_spec | apply cdH leaf_spec | apply cgH leaf_spec | apply cGH leaf_spec); (focus exact subs); rotate_left) | ((first | apply cl one_spec | apply cd one_spec | apply cg one_spec | apply cG one_spec); focus exact subs) | ((apply XCall.newArr one_spec); (focus (simp [SV.names]; done)); (focus exact namesL_arrC _ _)) | ((first | apply clH one_spec | apply cdH one_spec | apply cgH one_spec | apply cGH one_spec); (focus exact subs); focus exact sg) | ((first | apply clH one_spec | apply cdH one_spec | apply cgH one_spec | apply cGH one_spec); (focus exact subs); rotate_left) | apply xp_join | (apply XAlt.mk <;> try (conv => whnf)) | exact xs_rfl | with_reducible apply restK_go | (apply and_body; focus assumption) | (apply and_body (by kernel_rfl)) | (with_reducible first | apply wr_raw | apply fl_raw) | ((with_reducible first | apply and_gd | apply and_sidxN | apply and_sidx | apply el_int | apply el_str | apply el_intI | apply el_strI | apply and_aidx | apply and_cellN | apply and_app1 | apply and_app2 | apply and_app3 | apply and_app4 | apply and_app5 | apply and_app6 | apply and_appFit | apply and_mkFit | apply and_strFit | apply and_noNm | apply and_eq); rotate_left) | ((with_reducible apply en_pv); (focus with_reducible exact SubP.refl _)) | (with_reducible first | apply en_int | apply en_bool | apply en_str)); try (conv => whnf))
      rfl
end Go.VL.A
