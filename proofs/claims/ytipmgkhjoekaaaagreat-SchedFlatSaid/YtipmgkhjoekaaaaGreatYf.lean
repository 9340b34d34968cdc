/- A part of a proof about a given program: rules, plain functions and walks. -/
import Derived.Deep.Slices
import Derived.SizedLaws
import Derived.Test.YtipmgkhjoekaaaaGreatProg
import Derived.Test.YtipmgkhjoekaaaaGreatYe
set_option maxHeartbeats 200000000
set_option linter.unusedVariables false
set_option linter.unusedSimpArgs false
namespace Go.Proofs.YtipmgkhjoekaaaaGreat
open Go Go.RowKit Go.Proofs Go.Proofs.YtipmgkhjoekaaaaGreat.Fw
attribute [local irreducible] Qt WL CW NX RX EX GX DL
namespace T
theorem ag73 : agg? Tryz.prog 73 = some true := by kernel_rfl
theorem ag77 : agg? Tryz.prog 77 = some true := by kernel_rfl
theorem fo73_1 : fld? Tryz.prog 73 1 = some (1, 1) := by kernel_rfl
theorem fo73_2 : fld? Tryz.prog 73 2 = some (2, 1) := by kernel_rfl
theorem fo73_3 : fld? Tryz.prog 73 3 = some (3, 2) := by kernel_rfl
theorem fo77_0 : fld? Tryz.prog 77 0 = some (0, 1) := by kernel_rfl
theorem fo77_1 : fld? Tryz.prog 77 1 = some (1, 1) := by kernel_rfl
theorem fo77_2 : fld? Tryz.prog 77 2 = some (2, 1) := by kernel_rfl
theorem fo77_3 : fld? Tryz.prog 77 3 = some (3, 2) := by kernel_rfl
theorem hb55 : hasBody Tryz.prog 55 = true := by kernel_rfl
theorem hb56 : hasBody Tryz.prog 56 = true := by kernel_rfl
theorem hb57 : hasBody Tryz.prog 57 = true := by kernel_rfl
theorem hb58 : hasBody Tryz.prog 58 = true := by kernel_rfl
theorem hb60 : hasBody Tryz.prog 60 = true := by kernel_rfl
theorem hb61 : hasBody Tryz.prog 61 = true := by kernel_rfl
theorem hb63 : hasBody Tryz.prog 63 = true := by kernel_rfl
theorem hb64 : hasBody Tryz.prog 64 = true := by kernel_rfl
end T
theorem arr_f {i j i' j' : Int} (h : (i == i' && j == j') = false) : ¬ (i = i' ∧ j = j') := by
  rintro ⟨rfl, rfl⟩; simp at h
theorem arr_t {i j i' j' : Int} (h : (i == i' && j == j') = true) : i = i' ∧ j = j' := by simpa using h
theorem rCheck_q {m : Imm} {es : List Value} {f : FFun} (hF : rFunc m es f) (lev : Int) : Quiet Tryz.prog 29 [.agg es.toArray, .int .i64 lev] m (.int .i64 (checkP f lev)) := by
 have hF_0 := hF
 obtain ⟨A90, c90, B90, d90, rfl, hq90, hb90, i90a⟩ := hF_0
 refine quiet_of Tryz.func29 rfl Tryz.ntmps29 rfl (fun w => ?_)
 refine sq (rg ?_)
 refine S_box (l := [_, _, _]) rfl rfl rfl (fun b1 => ?_)
 refine as_ ?_
 refine wn (kk3 [1,2,4] (sq (sq (rg ?_))))
 refine mv (bl (mv ?_))
 refine sp 18 ?_ ?_ <;> intro h2 <;> try simp only [tt] at h2
 refine ps (ps ?_)
 refine pt ?_
 refine wn (kk4 [1,2,4,21] ?_)
 refine CW_cond_t rfl ?_
 refine sq (rg ?_)
 refine as_ ?_
 refine wn (kk3 [1,2,4] ?_)
 refine C_ret (RX_then (RX_q1 rfl rfl ?_))
 refine congrArg (Value.int .i64) ?_
 exact (chk_arg (by omega)).symm
 refine tk (mv ?_)
 refine tk (bg (pf ?_))
 refine wn (kk4 [1,2,4,21] ?_)
 refine cd ?_ ?_ <;> intro h3 <;> try simp only [tt] at h3
 refine sq (rg ?_)
 refine as_ ?_
 refine wn (kk3 [1,2,4] ?_)
 refine C_ret (RX_then (RX_q1 rfl rfl ?_))
 refine congrArg (Value.int .i64) ?_
 exact (chk_arg (by omega)).symm
 refine sk (kk3 [1,2,4] (sq (sq (rg ?_))))
 refine W_q (r_loadbk 0 (vs := [_, _, _]) rfl T.ag25 T.sz25 rfl rfl rfl) rfl ?_
 refine W_quiet (rMay4_q hF) T.hb55 rfl rfl ?_
 refine nt ?_
 refine wn (kk4 [1,2,4,24] ?_)
 refine cd ?_ ?_ <;> intro h4 <;> try simp only [tt] at h4
 refine sq (rg ?_)
 refine as_ ?_
 refine wn (kk3 [1,2,4] ?_)
 refine C_ret (RX_then (RX_q1 rfl rfl ?_))
 refine congrArg (Value.int .i64) ?_
 exact (chk_size (by omega) (by omega) (by assumption)).symm
 refine sk (kk3 [1,2,4] (sq (sq (rg ?_))))
 refine W_q (r_loadbk 0 (vs := [_, _, _]) rfl T.ag25 T.sz25 rfl rfl rfl) rfl ?_
 refine W_quiet (rShape11_q hF) T.hb56 rfl rfl ?_
 refine nt ?_
 refine wn (kk4 [1,2,4,27] ?_)
 refine cd ?_ ?_ <;> intro h5 <;> try simp only [tt] at h5
 refine sq (rg ?_)
 refine as_ ?_
 refine wn (kk3 [1,2,4] ?_)
 refine C_ret (RX_then (RX_q1 rfl rfl ?_))
 refine congrArg (Value.int .i64) ?_
 exact (chk_shape (by omega) (by omega) (by assumption) (by assumption)).symm
 refine sk (kk3 [1,2,4] (sq (sq (rg ?_))))
 refine W_q (r_loadbk 0 (vs := [_, _, _]) rfl T.ag25 T.sz25 rfl rfl rfl) rfl ?_
 refine mv ?_
 refine W_quiet (rTyped_q hF _ (by omega) (by omega)) T.hb57 rfl rfl ?_
 refine nt ?_
 refine wn (kk3 [2,4,31] ?_)
 refine cd ?_ ?_ <;> intro h6 <;> try simp only [tt] at h6
 refine sq (rg ?_)
 refine as_ ?_
 refine wn (kk2 [2,4] ?_)
 refine C_ret (RX_then (RX_q1 rfl rfl ?_))
 refine congrArg (Value.int .i64) ?_
 exact (chk_typed (by omega) (by omega) (by assumption) (by assumption) (by assumption)).symm
 refine sk (kk2 [2,4] (sq (rg ?_)))
 refine W_q (r_loadbk 0 (vs := [_, _, _]) rfl T.ag25 T.sz25 rfl rfl rfl) rfl ?_
 have hm1 : mayF f = true := by assumption
 have hs1 : shapeP f = 0 := by assumption
 have ht1 : typedP f lev = 0 := by assumption
 have hph := shapeP_phis hs1
 obtain ⟨gr, hg, _⟩ := shapeP_zero hs1
 obtain ⟨hmg, hsu, hsl, hn1, hn2⟩ := ofP_some hg
 have hgo := mayG_ok hmg
 refine S_gives (rDefs_g hF (by assumption)) T.hb58 rfl rfl (fun m7 v7 le7 hv7 => ?_)
 replace hF := rFunc_mono _ _ _ _ le7 hF
 replace hq90 := hq90.mono rI_mono le7
 replace hb90 := hb90.mono rBlock_mono le7
 obtain ⟨Ad7, cd7, rfl, hd7⟩ := hv7
 refine as_ ?_
 refine wn (kk3 [2,4,5] (sq (sq (rg ?_))))
 refine as_ ?_
 refine wn (kk4 [2,4,5,6] (bk ?_))
 refine C_loop (Unit) ((defsL f).length) (fun k8 x8 => ∀ j, j < k8 → ∀ y, (defsL f)[j]? = some y → valueB y.1 = true ∧ findD (defsL f) y.1 = (j : Int)) (fun k8 x8 => [(6, .int .i64 (k8 : Int))]) (fun _ _ => []) [6] [2, 5] (F := [(2, _), (5, _)]) (()) (by simp) rfl rfl rfl (fun k8 x8 hk8 hJ8 => ?_)
 refine jj3 [2,5,6] (sq (sq (rg ?_)))
 have hdl := defs_len hm1
 refine mv (mv (ln Tryz.underlying69 (bl ?_)))
 refine wn (kk4 [2,5,6,37] ?_)
 refine cd ?_ ?_ <;> intro h9 <;> try simp only [tt] at h9
 refine sk (kk3 [2,5,6] (sq (bk (sq (rg ?_)))))
 refine mv (mv ?_)
 obtain ⟨ad10, hA10⟩ := hd7.ad (j := k8) (by omega)
 obtain ⟨z10, hz10⟩ := hd7.getz (j := k8) (by omega)
 refine W_q (r_index hA10 Tryz.underlying69 T.sz73 rfl rfl ⟨by omega, by omega⟩) rfl ?_
 refine W_q (r_field rfl T.fo73_0) rfl ?_
 obtain ⟨es11, f11, _, l11⟩ := Sl.get hd7 hA10 hz10
 obtain ⟨rfl, i11a, i11b, i11c, i11d, i11e⟩ := f11
 refine W_q (r_load_imm rfl T.ag3 (l11 0 _ rfl)) rfl ?_
 refine W_quiet (rValue_q _) T.hb59 rfl rfl ?_
 refine nt (mv ?_)
 refine sp 47 ?_ ?_ <;> intro h12 <;> try simp only [tt] at h12
 refine ps (ps (ps (ps (ps (ps (ps (ps (ps ?_))))))))
 refine pt ?_
 refine wn (kk4 [2,5,6,57] ?_)
 refine CW_cond_t rfl ?_
 refine sq (rg ?_)
 refine as_ ?_
 refine wn (kk4 [2,4,5,6] ?_)
 refine C_ret (RX_block (RX_then (RX_then (RX_block (RX_then (RX_q1 rfl rfl ?_))))))
 refine congrArg (Value.int .i64) ?_
 exact (chk_def (by omega) (by omega) (by assumption) (by assumption) (by assumption) (def_no (by assumption) (by assumption) hz10 (.inl (by assumption)))).symm
 refine tk (mv ?_)
 refine tk (mv ?_)
 refine tk (mv ?_)
 refine tk ?_
 obtain ⟨ad13, hA13⟩ := hd7.ad (j := k8) (by omega)
 refine W_q (r_index hA13 Tryz.underlying69 T.sz73 rfl rfl ⟨by omega, by omega⟩) rfl ?_
 refine tk ?_
 refine W_q (r_field rfl T.fo73_0) rfl ?_
 refine tk ?_
 obtain ⟨es14, f14, _, l14⟩ := Sl.get hd7 hA13 hz10
 obtain ⟨rfl, i14a, i14b, i14c, i14d, i14e⟩ := f14
 refine W_q (r_load_imm rfl T.ag3 (l14 0 _ rfl)) rfl ?_
 refine tk ?_
 refine W_quiet (rFind_q hd7 _) T.hb60 rfl rfl ?_
 refine tk (mv ?_)
 refine tk (bn (pf ?_))
 refine wn (kk4 [2,5,6,57] ?_)
 refine cd ?_ ?_ <;> intro h15 <;> try simp only [tt] at h15
 refine sq (rg ?_)
 refine as_ ?_
 refine wn (kk4 [2,4,5,6] ?_)
 refine C_ret (RX_block (RX_then (RX_then (RX_block (RX_then (RX_q1 rfl rfl ?_))))))
 refine congrArg (Value.int .i64) ?_
 exact (chk_def (by omega) (by omega) (by assumption) (by assumption) (by assumption) (def_no (by assumption) (by assumption) hz10 (.inr (by assumption)))).symm
 refine sk (nb (kk3 [2,5,6] (rg ?_)))
 refine mv ?_
 refine ad ?_
 refine as_ ?_
 refine wn ?_
 refine NX_rnd [6, 2, 5] (by omega) (()) ?_ rfl (List.Sublist.refl _) rfl (Imm.le_refl _)
 exact lt_succ_all hJ8 (fun y hy => by rw [hz10] at hy; cases hy; exact ⟨by assumption, by assumption⟩)
 refine C_exit (EX_then (EX_then (EX_hit (?_))))
 refine kk2 [2,5] (sq (rg ?_))
 have hdo : defOK f := def_yes hm1 ht1 (by
   have hk0 : k8 = (defsL f).length := by omega
   have hJ0 := hJ8
   rwa [hk0] at hJ0)
 refine W_q (r_loadbk 0 (vs := [_, _, _]) rfl T.ag25 T.sz25 rfl rfl rfl) rfl ?_
 refine S_gives (rUses_g hF (by assumption) (by assumption)) T.hb61 rfl rfl (fun m16 v16 le16 hv16 => ?_)
 replace hF := rFunc_mono _ _ _ _ le16 hF
 replace hq90 := hq90.mono rI_mono le16
 replace hb90 := hb90.mono rBlock_mono le16
 replace hd7 := hd7.mono rDef_mono le16
 obtain ⟨Au16, cu16, rfl, hu16⟩ := hv16
 refine as_ ?_
 refine wn (kk3 [2,5,7] (sq (sq (rg ?_))))
 refine as_ ?_
 refine wn (kk4 [2,5,7,8] (bk ?_))
 refine C_loop (Unit) ((usesR f).length) (fun k17 x17 => ∀ j, j < k17 → ∀ u, (usesR f)[j]? = some u → 0 ≤ findD (defsL f) u.1) (fun k17 x17 => [(8, .int .i64 (k17 : Int))]) (fun _ _ => []) [8] [2, 5, 7] (F := [(2, _), (5, _), (7, _)]) (()) (by simp) rfl rfl rfl (fun k17 x17 hk17 hJ17 => ?_)
 refine jj4 [2,5,7,8] (sq (sq (rg ?_)))
 have hul := uses_len hm1
 refine mv (mv (ln Tryz.underlying75 (bl ?_)))
 refine wn (kk5 [2,5,7,8,63] ?_)
 refine cd ?_ ?_ <;> intro h18 <;> try simp only [tt] at h18
 refine sk (kk4 [2,5,7,8] (sq (bk (sq (rg ?_)))))
 refine mv (mv (mv ?_))
 obtain ⟨ad19, hA19⟩ := hu16.ad (j := k17) (by omega)
 obtain ⟨z19, hz19⟩ := hu16.getz (j := k17) (by omega)
 refine W_q (r_index hA19 Tryz.underlying75 T.sz77 rfl rfl ⟨by omega, by omega⟩) rfl ?_
 refine W_q (r_field rfl T.fo77_0) rfl ?_
 obtain ⟨es20, f20, _, l20⟩ := Sl.get hu16 hA19 hz19
 obtain ⟨rfl, i20a, i20b, i20c, i20d, i20e⟩ := f20
 refine W_q (r_load_imm rfl T.ag3 (l20 0 _ rfl)) rfl ?_
 refine W_quiet (rFind_q hd7 _) T.hb60 rfl rfl ?_
 refine bl ?_
 refine wn (kk5 [2,5,7,8,73] ?_)
 refine cd ?_ ?_ <;> intro h21 <;> try simp only [tt] at h21
 refine sq (rg ?_)
 refine as_ ?_
 refine wn (kk5 [2,4,5,7,8] ?_)
 refine C_ret (RX_block (RX_then (RX_then (RX_block (RX_then (RX_q1 rfl rfl ?_))))))
 refine congrArg (Value.int .i64) ?_
 exact (chk_def (by omega) (by omega) (by assumption) (by assumption) (by assumption) (uses_no (by assumption) (by assumption) hdo hz19 (by assumption))).symm
 refine sk (nb (kk4 [2,5,7,8] (rg ?_)))
 refine mv ?_
 refine ad ?_
 refine as_ ?_
 refine wn ?_
 refine NX_rnd [8, 2, 5, 7] (by omega) (()) ?_ rfl (List.Sublist.refl _) rfl (Imm.le_refl _)
 exact lt_succ_all hJ17 (fun u hu => by rw [hz19] at hu; cases hu; omega)
 refine C_exit (EX_then (EX_then (EX_hit (?_))))
 refine kk3 [2,5,7] (sq (sq (rg ?_)))
 have hJ1e := hJ17
 rw [show k17 = (usesR f).length by omega] at hJ1e
 have hd0 : definedP f = 0 := uses_yes hm1 ht1 hdo hJ1e
 have hdf := fun j u (hu : (usesR f)[j]? = some u) => defined_find hm1 ht1 hd0 hu
 refine as_ ?_
 refine wn (kk4 [2,5,7,9] (bk ?_))
 refine C_loop (Unit) ((usesR f).length) (fun k22 x22 => ∀ j, j < k22 → ∀ u, (usesR f)[j]? = some u → askS f (upU u) = 0) (fun k22 x22 => [(9, .int .i64 (k22 : Int))]) (fun _ _ => []) [9] [2, 5, 7] (F := [(2, _), (5, _), (7, _)]) (()) (by simp) rfl rfl rfl (fun k22 x22 hk22 hJ22 => ?_)
 refine jj4 [2,5,7,9] (sq (sq (rg ?_)))
 refine mv (mv (ln Tryz.underlying75 (bl ?_)))
 refine wn (kk5 [2,5,7,9,77] ?_)
 refine cd ?_ ?_ <;> intro h23 <;> try simp only [tt] at h23
 refine sk (kk4 [2,5,7,9] (sq (bk (sq ?_))))
 refine C_drawn [(0, true), (1, true), (2, true), (3, true), (4, true), (5, true), (6, true), (7, true), (8, true), (9, true), (10, true), (11, true), (12, true), (13, true), (14, true), (15, true), (16, true)] (by kernel_rfl) rfl (by kernel_rfl) (by kernel_rfl) ?_
 refine dmv ?_
 refine dmv ?_
 refine dmv ?_
 refine dmv ?_
 obtain ⟨ad24, hA24⟩ := hu16.ad (j := k22) (by omega)
 obtain ⟨z24, hz24⟩ := hu16.getz (j := k22) (by omega)
 refine D_q rfl (r_index hA24 Tryz.underlying75 T.sz77 rfl rfl ⟨by omega, by omega⟩) rfl ?_
 refine D_q rfl (r_field rfl T.fo77_0) rfl ?_
 obtain ⟨es25, f25, _, l25⟩ := Sl.get hu16 hA24 hz24
 obtain ⟨rfl, i25a, i25b, i25c, i25d, i25e⟩ := f25
 refine D_q rfl (r_load_imm rfl T.ag3 (l25 0 _ rfl)) rfl ?_
 refine D_quiet rfl (rFind_q hd7 _) T.hb60 rfl rfl ?_
 have hu0 := hdf k22 z24 hz24
 obtain ⟨ad26, hA26⟩ := hd7.ad (j := (findD (defsL f) z24.1).toNat) (by have := findD_rng (l := defsL f) (v := z24.1); omega)
 obtain ⟨z26, hz26⟩ := hd7.getz (j := (findD (defsL f) z24.1).toNat) (by have := findD_rng (l := defsL f) (v := z24.1); omega)
 refine D_q rfl (r_index hA26 Tryz.underlying69 T.sz73 rfl rfl ⟨by omega, by have := findD_rng (l := defsL f) (v := z24.1); omega⟩) rfl ?_
 refine D_q rfl (r_field rfl T.fo73_3) rfl ?_
 obtain ⟨es27, f27, _, l27⟩ := Sl.get hd7 hA26 hz26
 obtain ⟨rfl, i27a, i27b, i27c, i27d, i27e⟩ := f27
 refine D_q rfl (r_load_immk (vs := [_, _]) rfl T.ag71 T.sz71 (cells_part l27 3 2 rfl)) rfl ?_
 refine dmv ?_
 refine dmv ?_
 obtain ⟨ad28, hA28⟩ := hu16.ad (j := k22) (by omega)
 refine D_q rfl (r_index hA28 Tryz.underlying75 T.sz77 rfl rfl ⟨by omega, by omega⟩) rfl ?_
 refine D_q rfl (r_field rfl T.fo77_3) rfl ?_
 obtain ⟨es29, f29, _, l29⟩ := Sl.get hu16 hA28 hz24
 obtain ⟨rfl, i29a, i29b, i29c, i29d, i29e⟩ := f29
 refine D_q rfl (r_load_immk (vs := [_, _]) rfl T.ag71 T.sz71 (cells_part l29 3 2 rfl)) rfl ?_
 refine D_q rfl (r_arrneq2 rfl rfl Tryz.underlying71 Tryz.underlying3 T.sz3 (by kernel_rfl)) rfl ?_
 refine D_end ?_
 refine kk5 [2,5,7,9,96] ?_
 refine cd ?_ ?_ <;> intro h30 <;> try simp only [tt] at h30
 refine sq (rg ?_)
 refine as_ ?_
 refine wn (kk5 [2,4,5,7,9] ?_)
 refine C_ret (RX_block (RX_then (RX_then (RX_block (RX_then (RX_q1 rfl rfl ?_))))))
 refine congrArg (Value.int .i64) ?_
 exact (chk_shapes (by omega) (by omega) (by assumption) (by assumption) (by assumption) hd0 (shapes_no (by assumption) (by assumption) hz24 hu0 hz26 (arr_f h30))).symm
 refine sk (nb (kk4 [2,5,7,9] (rg ?_)))
 refine mv ?_
 refine ad ?_
 refine as_ ?_
 refine wn ?_
 refine NX_rnd [9, 2, 5, 7] (by omega) (()) ?_ rfl (List.Sublist.refl _) rfl (Imm.le_refl _)
 exact lt_succ_all hJ22 (fun u hu => by rw [hz24] at hu; cases hu; exact askS_y hu0 hz26 (arr_t h30).1 (arr_t h30).2)
 refine C_exit (EX_then (EX_then (EX_hit (?_))))
 refine kk3 [2,5,7] (sq (rg ?_))
 have hJ2e := hJ22
 rw [show k22 = (usesR f).length by omega] at hJ2e
 have hs0 := shapes_yes hm1 ht1 hJ2e
 refine W_q (r_loadbk 0 (vs := [_, _, _]) rfl T.ag25 T.sz25 rfl rfl rfl) rfl ?_
 refine S_gives (rOf_g hF) T.hb62 rfl rfl (fun m31 v31 le31 hv31 => ?_)
 replace hF := rFunc_mono _ _ _ _ le31 hF
 replace hq90 := hq90.mono rI_mono le31
 replace hb90 := hb90.mono rBlock_mono le31
 replace hd7 := hd7.mono rDef_mono le31
 replace hu16 := hu16.mono rUse_mono le31
 rw [hg] at hv31
 obtain ⟨_, rfl, A31, c31, B31, d31, rfl, h31, g31⟩ := hv31
 have hGr : rGraph _ [_, _] gr := ⟨_, _, _, _, rfl, h31, g31⟩
 refine mv ?_
 refine W_q (r_extract rfl rfl) rfl ?_
 refine W_q (r_extract rfl rfl) rfl ?_
 refine S_alloc (l := [_, _]) T.ze79 rfl rfl (fun b32 => ?_)
 refine S_storeb 0 (l' := [_, _]) rfl rfl rfl T.sz79 rfl rfl rfl rfl ?_
 refine as_ ?_
 refine wn (kk3 [5,7,10] (sq (rg ?_)))
 refine W_q (r_loadbk 0 (vs := [_, _]) rfl T.ag79 T.sz79 rfl rfl rfl) rfl ?_
 refine S_gives (rTree_g hGr hmg (root := 0) (by omega) (by omega)) T.hb63 rfl rfl (fun m33 v33 le33 hv33 => ?_)
 replace hF := rFunc_mono _ _ _ _ le33 hF
 replace hq90 := hq90.mono rI_mono le33
 replace hb90 := hb90.mono rBlock_mono le33
 replace hd7 := hd7.mono rDef_mono le33
 replace hu16 := hu16.mono rUse_mono le33
 replace h31 := h31.mono (rS_mono rI_mono) le33
 replace g31 := g31.mono (rS_mono rI_mono) le33
 replace hGr := rGraph_mono _ _ _ _ le33 hGr
 obtain ⟨At33, ct33, rfl, ht33⟩ := hv33
 refine as_ ?_
 refine wn (kk3 [5,7,12] (sq (sq (rg ?_))))
 refine as_ ?_
 refine wn (kk4 [5,7,12,13] (bk ?_))
 refine C_loop (Unit) ((usesR f).length) (fun k34 x34 => ∀ j, j < k34 → ∀ u, (usesR f)[j]? = some u → askP f (treeP gr 0) (upU u) = 0) (fun k34 x34 => [(13, .int .i64 (k34 : Int))]) (fun _ _ => []) [13] [5, 7, 12] (F := [(5, _), (7, _), (12, _)]) (()) (by simp) rfl rfl rfl (fun k34 x34 hk34 hJ34 => ?_)
 refine jj4 [5,7,12,13] (sq (sq (rg ?_)))
 refine mv (mv (ln Tryz.underlying75 (bl ?_)))
 refine wn (kk5 [5,7,12,13,107] ?_)
 refine cd ?_ ?_ <;> intro h35 <;> try simp only [tt] at h35
 refine sk (kk4 [5,7,12,13] (sq (bk (sq (rg ?_)))))
 refine mv (mv ?_)
 obtain ⟨ad36, hA36⟩ := hu16.ad (j := k34) (by omega)
 obtain ⟨z36, hz36⟩ := hu16.getz (j := k34) (by omega)
 refine W_q (r_index hA36 Tryz.underlying75 T.sz77 rfl rfl ⟨by omega, by omega⟩) rfl ?_
 obtain ⟨es37, f37, _, l37⟩ := Sl.get hu16 hA36 hz36
 have F37 := f37
 obtain ⟨rfl, i37a, i37b, i37c, i37d, i37e⟩ := f37
 refine W_q (r_load_immk (vs := [_, _, _, _, _]) rfl T.ag77 T.sz77 l37) rfl ?_
 refine S_alloc (l := [_, _, _, _, _]) T.ze77 rfl rfl (fun b38 => ?_)
 refine S_storeb 0 (l' := [_, _, _, _, _]) rfl rfl rfl T.sz77 rfl rfl rfl rfl ?_
 refine wn (kk5 [5,7,12,13,14] (sq (rg ?_)))
 refine mv (mv (fb 0 T.fo77_0 (lb 0 T.ag3 ?_)))
 refine W_quiet (rFind_q hd7 _) T.hb60 rfl rfl ?_
 have hu0 := hdf k34 z36 hz36
 obtain ⟨ad39, hA39⟩ := hd7.ad (j := (findD (defsL f) z36.1).toNat) (by have := findD_rng (l := defsL f) (v := z36.1); omega)
 obtain ⟨z39, hz39⟩ := hd7.getz (j := (findD (defsL f) z36.1).toNat) (by have := findD_rng (l := defsL f) (v := z36.1); omega)
 refine W_q (r_index hA39 Tryz.underlying69 T.sz73 rfl rfl ⟨by omega, by have := findD_rng (l := defsL f) (v := z36.1); omega⟩) rfl ?_
 obtain ⟨es40, f40, _, l40⟩ := Sl.get hd7 hA39 hz39
 have F40 := f40
 obtain ⟨rfl, i40a, i40b, i40c, i40d, i40e⟩ := f40
 refine W_q (r_load_immk (vs := [_, _, _, _, _]) rfl T.ag73 T.sz73 l40) rfl ?_
 refine S_alloc (l := [_, _, _, _, _]) T.ze73 rfl rfl (fun b41 => ?_)
 refine S_storeb 0 (l' := [_, _, _, _, _]) rfl rfl rfl T.sz73 rfl rfl rfl rfl ?_
 refine wn (kk6 [5,7,12,13,14,15] (sq (sq (rg ?_))))
 refine fb 1 T.fo73_1 (lb 0 T.ag3 (bl (mv ?_)))
 refine sp 124 ?_ ?_ <;> intro h42 <;> try simp only [tt] at h42
 refine ps (ps (ps (ps (ps (ps ?_)))))
 refine WL_passu rfl rfl rfl ?_
 refine WL_passu rfl rfl rfl ?_
 refine WL_passu rfl rfl rfl ?_
 refine WL_passu rfl rfl rfl ?_
 refine WL_passu rfl rfl rfl ?_
 refine ps ?_
 refine pt ?_
 refine wn (kk7 [5,7,12,13,14,15,137] ?_)
 refine CW_cond_t rfl ?_
 refine C_exit (EX_then (EX_hit (?_)))
 refine kk4 [5,7,12,13] (rg ?_)
 refine mv ?_
 refine ad ?_
 refine as_ ?_
 refine wn ?_
 refine NX_rnd [13, 5, 7, 12] (by omega) (()) ?_ rfl (sub_drop 2 rfl) rfl (Imm.le_refl _)
 exact lt_succ_all hJ34 (fun u hu => by rw [hz36] at hu; cases hu; exact askP_y (by assumption) (by assumption) hg hz36 hu0 hz39 (.inl (by omega)))
 refine tk (fb 1 T.fo73_1 ?_)
 refine tk (lb 0 T.ag3 ?_)
 refine tk (fb 1 T.fo77_1 ?_)
 refine tk (lb 1 T.ag3 ?_)
 refine tk (be ?_)
 refine tk (mv ?_)
 refine sp 130 ?_ ?_ <;> intro h43 <;> try simp only [tt] at h43
 refine tk (fb 2 T.fo73_2 ?_)
 refine tk (lb 0 T.ag3 ?_)
 refine tk (fb 2 T.fo77_2 ?_)
 refine tk (lb 1 T.ag3 ?_)
 refine tk (bl ?_)
 refine tk (pt (pf ?_))
 refine wn (kk7 [5,7,12,13,14,15,137] ?_)
 refine cd ?_ ?_ <;> intro h44 <;> try simp only [tt] at h44
 refine C_exit (EX_then (EX_hit (?_)))
 refine kk4 [5,7,12,13] (rg ?_)
 refine mv ?_
 refine ad ?_
 refine as_ ?_
 refine wn ?_
 refine NX_rnd [13, 5, 7, 12] (by omega) (()) ?_ rfl (sub_drop 2 rfl) rfl (Imm.le_refl _)
 exact lt_succ_all hJ34 (fun u hu => by rw [hz36] at hu; cases hu; exact askP_y (by assumption) (by assumption) hg hz36 hu0 hz39 (.inr (.inl ⟨by omega, by omega⟩)))
 refine sk (kk6 [5,7,12,13,14,15] (sq ?_))
 refine C_drawn [(0, true), (1, true), (2, true), (3, true), (4, true), (5, true), (6, true), (7, true), (8, true), (9, true), (10, true), (11, true), (12, true), (13, true), (14, true), (15, true)] (by kernel_rfl) rfl (by kernel_rfl) (by kernel_rfl) ?_
 refine dfb 1 T.fo73_1 ?_
 refine dlb 0 T.ag3 ?_
 refine dfb 1 T.fo77_1 ?_
 refine dlb 1 T.ag3 ?_
 refine D_q rfl (r_bin rfl rfl (bin_eql _ _ _ _)) rfl ?_
 refine dmv ?_
 refine D_split (t := 143) rfl (fun h45 => ?_) (fun h45 => ?_)
 (try simp only [tt] at h45)
 refine dps ?_
 refine dps ?_
 refine dps ?_
 refine dps ?_
 refine dps ?_
 refine dps ?_
 refine dps ?_
 refine dps ?_
 refine dps ?_
 refine D_q rfl (r_pick_t rfl rfl) rfl ?_
 refine D_end ?_
 refine kk5 [5,7,12,13,153] ?_
 refine CW_cond_t rfl ?_
 refine sq (rg ?_)
 refine as_ ?_
 refine wn (kk5 [4,5,7,12,13] ?_)
 refine C_ret (RX_block (RX_then (RX_then (RX_block (RX_then (RX_q1 rfl rfl ?_))))))
 refine congrArg (Value.int .i64) ?_
 rw [chk_last (by omega) (by omega) (by assumption) (by assumption) (by assumption) hd0 hs0 hg]; exact (places_no (by assumption) (by assumption) (by assumption) hg hz36 hu0 hz39 (by omega) (by omega) (.inl (by omega))).symm
 (try simp only [tt] at h45)
 refine D_qt rfl rfl rfl (r_move rfl) rfl ?_
 refine D_qt rfl rfl rfl (r_fieldb (o' := 1) rfl T.fo73_1 rfl) rfl ?_
 refine D_qt rfl rfl rfl (r_loadb 0 rfl T.ag3 rfl rfl) rfl ?_
 refine D_qt rfl rfl rfl (r_fieldb (o' := 1) rfl T.fo77_1 rfl) rfl ?_
 refine D_qt rfl rfl rfl (r_loadb 1 rfl T.ag3 rfl rfl) rfl ?_
 refine D_quiett rfl rfl rfl (rMeet_q ht33 _ _ (by assumption) (by assumption) (by rw [(domTree_treeP hgo (root := 0) (by omega) (by omega)).len]; have := hgo.len; omega)) T.hb64 rfl rfl ?_
 refine D_qt rfl rfl rfl (r_fieldb (o' := 1) rfl T.fo73_1 rfl) rfl ?_
 refine D_qt rfl rfl rfl (r_loadb 0 rfl T.ag3 rfl rfl) rfl ?_
 refine D_qt rfl rfl rfl (r_bin rfl rfl (bin_neq _ _ _ _)) rfl ?_
 refine D_q rfl (r_pick_f rfl rfl) rfl ?_
 refine D_end ?_
 refine kk5 [5,7,12,13,153] ?_
 refine cd ?_ ?_ <;> intro h46 <;> try simp only [tt] at h46
 refine sq (rg ?_)
 refine as_ ?_
 refine wn (kk5 [4,5,7,12,13] ?_)
 refine C_ret (RX_block (RX_then (RX_then (RX_block (RX_then (RX_q1 rfl rfl ?_))))))
 refine congrArg (Value.int .i64) ?_
 rw [chk_last (by omega) (by omega) (by assumption) (by assumption) (by assumption) hd0 hs0 hg]; exact (places_no (by assumption) (by assumption) (by assumption) hg hz36 hu0 hz39 (by omega) (by omega) (.inl (by omega))).symm
 refine sk (nb (kk4 [5,7,12,13] (rg ?_)))
 refine mv ?_
 refine ad ?_
 refine as_ ?_
 refine wn ?_
 refine NX_rnd [13, 5, 7, 12] (by omega) (()) ?_ rfl (sub_drop 2 rfl) rfl (Imm.le_refl _)
 exact lt_succ_all hJ34 (fun u hu => by rw [hz36] at hu; cases hu; exact askP_y (by assumption) (by assumption) hg hz36 hu0 hz39 (.inl (by omega)))
 refine ps (ps (ps (ps (ps (tk (pf (pf ?_)))))))
 refine wn (kk7 [5,7,12,13,14,15,137] ?_)
 refine CW_cond_f rfl ?_
 refine sk (kk6 [5,7,12,13,14,15] (sq ?_))
 refine C_drawn [(0, true), (1, true), (2, true), (3, true), (4, true), (5, true), (6, true), (7, true), (8, true), (9, true), (10, true), (11, true), (12, true), (13, true), (14, true), (15, true)] (by kernel_rfl) rfl (by kernel_rfl) (by kernel_rfl) ?_
 refine dfb 1 T.fo73_1 ?_
 refine dlb 0 T.ag3 ?_
 refine dfb 1 T.fo77_1 ?_
 refine dlb 1 T.ag3 ?_
 refine D_q rfl (r_bin rfl rfl (bin_eql _ _ _ _)) rfl ?_
 refine dmv ?_
 refine D_split (t := 143) rfl (fun h47 => ?_) (fun h47 => ?_)
 (try simp only [tt] at h47)
 refine dps ?_
 refine dps ?_
 refine dps ?_
 refine dps ?_
 refine dps ?_
 refine dps ?_
 refine dps ?_
 refine dps ?_
 refine dps ?_
 refine D_q rfl (r_pick_t rfl rfl) rfl ?_
 refine D_end ?_
 refine kk5 [5,7,12,13,153] ?_
 refine CW_cond_t rfl ?_
 refine sq (rg ?_)
 refine as_ ?_
 refine wn (kk5 [4,5,7,12,13] ?_)
 refine C_ret (RX_block (RX_then (RX_then (RX_block (RX_then (RX_q1 rfl rfl ?_))))))
 refine congrArg (Value.int .i64) ?_
 rw [chk_last (by omega) (by omega) (by assumption) (by assumption) (by assumption) hd0 hs0 hg]; exact (places_no (by assumption) (by assumption) (by assumption) hg hz36 hu0 hz39 (by omega) (by omega) (.inl (by omega))).symm
 (try simp only [tt] at h47)
 refine D_qt rfl rfl rfl (r_move rfl) rfl ?_
 refine D_qt rfl rfl rfl (r_fieldb (o' := 1) rfl T.fo73_1 rfl) rfl ?_
 refine D_qt rfl rfl rfl (r_loadb 0 rfl T.ag3 rfl rfl) rfl ?_
 refine D_qt rfl rfl rfl (r_fieldb (o' := 1) rfl T.fo77_1 rfl) rfl ?_
 refine D_qt rfl rfl rfl (r_loadb 1 rfl T.ag3 rfl rfl) rfl ?_
 refine D_quiett rfl rfl rfl (rMeet_q ht33 _ _ (by assumption) (by assumption) (by rw [(domTree_treeP hgo (root := 0) (by omega) (by omega)).len]; have := hgo.len; omega)) T.hb64 rfl rfl ?_
 refine D_qt rfl rfl rfl (r_fieldb (o' := 1) rfl T.fo73_1 rfl) rfl ?_
 refine D_qt rfl rfl rfl (r_loadb 0 rfl T.ag3 rfl rfl) rfl ?_
 refine D_qt rfl rfl rfl (r_bin rfl rfl (bin_neq _ _ _ _)) rfl ?_
 refine D_q rfl (r_pick_f rfl rfl) rfl ?_
 refine D_end ?_
 refine kk5 [5,7,12,13,153] ?_
 refine cd ?_ ?_ <;> intro h48 <;> try simp only [tt] at h48
 refine sq (rg ?_)
 refine as_ ?_
 refine wn (kk5 [4,5,7,12,13] ?_)
 refine C_ret (RX_block (RX_then (RX_then (RX_block (RX_then (RX_q1 rfl rfl ?_))))))
 refine congrArg (Value.int .i64) ?_
 rw [chk_last (by omega) (by omega) (by assumption) (by assumption) (by assumption) hd0 hs0 hg]; exact (places_no (by assumption) (by assumption) (by assumption) hg hz36 hu0 hz39 (by omega) (by omega) (.inr (by assumption))).symm
 refine sk (nb (kk4 [5,7,12,13] (rg ?_)))
 refine mv ?_
 refine ad ?_
 refine as_ ?_
 refine wn ?_
 refine NX_rnd [13, 5, 7, 12] (by omega) (()) ?_ rfl (sub_drop 2 rfl) rfl (Imm.le_refl _)
 exact lt_succ_all hJ34 (fun u hu => by rw [hz36] at hu; cases hu; exact askP_y (by assumption) (by assumption) hg hz36 hu0 hz39 (.inr (.inr ⟨by omega, by assumption⟩)))
 refine C_exit (EX_then (EX_then (EX_hit (?_))))
 refine kk0 [] (sq (rg ?_))
 refine as_ ?_
 refine wn (kk1 [4] ?_)
 refine C_ret (RX_q1 rfl rfl ?_)
 refine congrArg (Value.int .i64) ?_
 rw [chk_last (by omega) (by omega) (by assumption) (by assumption) (by assumption) hd0 hs0 hg]
 have hk3 : k34 = (usesR f).length := by omega
 have hJ3 := hJ34
 rw [hk3] at hJ3
 exact (places_yes (by assumption) (by assumption) hJ3).symm
end Go.Proofs.YtipmgkhjoekaaaaGreat
set_option maxHeartbeats 200000000
set_option linter.unusedVariables false
set_option linter.unusedSimpArgs false
namespace Go.Proofs.YtipmgkhjoekaaaaGreat
open Go Go.RowKit Go.Proofs Go.Proofs.YtipmgkhjoekaaaaGreat.Fw
attribute [local irreducible] Qt WL CW NX RX EX GX DL
namespace T
theorem hb29 : hasBody Tryz.prog 29 = true := by kernel_rfl
theorem hb30 : hasBody Tryz.prog 30 = true := by kernel_rfl
end T
theorem SchedFlat_q {m : Imm} {es : List Value} {f : FFun} (hF : rFunc m es f) (block at_ : Int) (hib : I64 block) {A : Option Addr} {c : Nat} {order : List Int} (h : Ints m A c order)  : Quiet Tryz.prog 4 [.agg es.toArray, .agg #[.int .i64 block, .int .i64 at_, .slice A order.length c]] m (.bool true) := by
 have hF_0 := hF
 obtain ⟨A90, c90, B90, d90, rfl, hq90, hb90, i90a⟩ := hF_0
 have hbl := hb90.len
 have hlen := h.len
 refine quiet_of Tryz.func4 rfl Tryz.ntmps4 rfl (fun w => ?_)
 refine sq (rg ?_)
 refine S_box (l := [_, _, _]) rfl rfl rfl (fun b1 => ?_)
 refine S_box (l := [_, _, _]) rfl rfl rfl (fun b2 => ?_)
 refine as_ ?_
 refine wn (kk3 [2,3,4] (sq (sq (rg ?_))))
 refine W_quiet (awake19_q) T.hb14 rfl rfl ?_
 refine nt ?_
 refine wn (kk4 [2,3,4,15] ?_)
 refine CW_cond_f rfl ?_
 refine sk (kk3 [2,3,4] (sq (sq (rg ?_))))
 refine W_q (r_loadbk 1 (vs := [_, _, _]) rfl T.ag25 T.sz25 rfl rfl rfl) rfl ?_
 refine S_gives (Small11_g hF) T.hb15 rfl rfl (fun m3 v3 le3 hv3 => ?_)
 replace hF := rFunc_mono _ _ _ _ le3 hF
 replace hq90 := hq90.mono rI_mono le3
 replace hb90 := hb90.mono rBlock_mono le3
 replace h := h.mono rI_mono le3
 obtain ⟨qs3, rfl⟩ := hv3
 refine nt (mv ?_)
 refine sp 19 ?_ ?_ <;> intro h4 <;> try simp only [tt] at h4
 refine ps (ps (ps (ps ?_)))
 refine pt (mv ?_)
 refine ps (ps (ps ?_))
 refine pt (mv ?_)
 refine ps (ps (ps ?_))
 refine pt (mv ?_)
 refine ps (ps (ps (ps (ps (ps ?_)))))
 refine pt ?_
 refine wn (kk4 [2,3,4,42] ?_)
 refine CW_cond_t rfl ?_
 refine sq (rg ?_)
 refine as_ ?_
 refine wn (kk3 [2,3,4] ?_)
 refine C_ret (RX_then (RX_q1 rfl rfl ?_))
 rfl
 refine tk (fb 2 T.fo27_2 ?_)
 refine tk (lb 0 T.ag22 ?_)
 refine tk (ln Tryz.underlying22 ?_)
 refine tk (bg (pf (mv ?_)))
 refine sp 25 ?_ ?_ <;> intro h5 <;> try simp only [tt] at h5
 refine ps (ps (ps ?_))
 refine pt (mv ?_)
 refine ps (ps (ps ?_))
 refine pt (mv ?_)
 refine ps (ps (ps (ps (ps (ps ?_)))))
 refine pt ?_
 refine wn (kk4 [2,3,4,42] ?_)
 refine CW_cond_t rfl ?_
 refine sq (rg ?_)
 refine as_ ?_
 refine wn (kk3 [2,3,4] ?_)
 refine C_ret (RX_then (RX_q1 rfl rfl ?_))
 rfl
 refine tk ?_
 refine W_q (r_loadbk 1 (vs := [_, _, _]) rfl T.ag25 T.sz25 rfl rfl rfl) rfl ?_
 refine tk ?_
 refine W_quiet (rCheck_q hF _) T.hb29 rfl rfl ?_
 refine tk (bn (pf (mv ?_)))
 refine sp 30 ?_ ?_ <;> intro h6 <;> try simp only [tt] at h6
 refine ps (ps (ps ?_))
 refine pt (mv ?_)
 refine ps (ps (ps (ps (ps (ps ?_)))))
 refine pt ?_
 refine wn (kk4 [2,3,4,42] ?_)
 refine CW_cond_t rfl ?_
 refine sq (rg ?_)
 refine as_ ?_
 refine wn (kk3 [2,3,4] ?_)
 refine C_ret (RX_then (RX_q1 rfl rfl ?_))
 rfl
 refine tk (fb 0 T.fo27_0 ?_)
 refine tk (lb 0 T.ag3 ?_)
 refine tk (bl (pf (mv ?_)))
 refine sp 35 ?_ ?_ <;> intro h7 <;> try simp only [tt] at h7
 refine ps (ps (ps (ps (ps (ps ?_)))))
 refine pt ?_
 refine wn (kk4 [2,3,4,42] ?_)
 refine CW_cond_t rfl ?_
 refine sq (rg ?_)
 refine as_ ?_
 refine wn (kk3 [2,3,4] ?_)
 refine C_ret (RX_then (RX_q1 rfl rfl ?_))
 rfl
 refine tk (fb 0 T.fo27_0 ?_)
 refine tk (lb 0 T.ag3 ?_)
 refine tk (fb 2 T.fo25_2 ?_)
 refine tk (lb 1 T.ag23 ?_)
 refine tk (ln Tryz.underlying23 ?_)
 refine tk (bh (pf ?_))
 refine wn (kk4 [2,3,4,42] ?_)
 refine cd ?_ ?_ <;> intro h8 <;> try simp only [tt] at h8
 refine sq (rg ?_)
 refine as_ ?_
 refine wn (kk3 [2,3,4] ?_)
 refine C_ret (RX_then (RX_q1 rfl rfl ?_))
 rfl
 refine sk (kk3 [2,3,4] (sq (rg ?_)))
 refine fb 2 T.fo25_2 (lb 1 T.ag23 (fb 0 T.fo27_0 (lb 0 T.ag3 ?_)))
 obtain ⟨ad9, hA9⟩ := hb90.ad (j := block.toNat) (by omega)
 obtain ⟨z9, hz9⟩ := hb90.getz (j := block.toNat) (by omega)
 refine W_q (r_index hA9 Tryz.underlying23 T.sz44 rfl rfl ⟨by omega, by omega⟩) rfl ?_
 have hrt : rightP f block = true := by
   rw [rightP, decide_eq_true (show 0 ≤ block by omega), decide_eq_true (show block < (f.blocks.length : Int) by omega)]
   simpa using (by assumption : checkP f 2 = 0)
 have hol512 := (may_small (right_small hrt) (List.mem_of_getElem? hz9)).1
 refine W_q (r_field rfl T.fo44_1) rfl ?_
 obtain ⟨es10, f10, _, l10⟩ := Sl.get hb90 hA9 hz9
 obtain ⟨A10, c10, B10, d10, C10, e10, rfl, hp10, ho10, ht10, i10a, i10b⟩ := f10
 refine W_q (r_load_imm rfl T.ag40 (l10 1 _ rfl)) rfl ?_
 refine as_ ?_
 refine wn (kk4 [2,3,4,5] (sq (rg ?_)))
 refine as_ ?_
 refine wn (kk5 [2,3,4,5,6] (sq (sq (rg ?_))))
 refine as_ ?_
 refine wn (kk6 [2,3,4,5,6,7] (bk ?_))
 refine CW_nilRow 3 1 ?_
 refine C_loop (Option Nat × Nat × List Int) (z9.ops.length) (fun k11 x11 => x11.2.2 = iota k11 ∧ (0 < x11.2.2.length → ∃ b, x11.1 = some b)) (fun k11 x11 => [(6, slI x11.1 x11.2.1 x11.2.2), (7, .int .i64 (k11 : Int))]) (fun k11 x11 => [rowI 3 x11.1 x11.2.1 x11.2.2]) [6, 7] [2, 3, 4, 5] (F := [(2, _), (3, _), (4, _), (5, _)]) ((none, 0, [])) ⟨rfl, by simp⟩ rfl rfl rfl (fun k11 x11 hk11 hJ11 => ?_)
 obtain ⟨hx0, hgo⟩ := hJ11
 have hxl := congrArg List.length hx0
 rw [iota_len] at hxl
 refine jj6 [2,3,4,5,6,7] (sq (sq (rg ?_)))
 refine mv (mv (ln Tryz.underlying40 (bl ?_)))
 refine wn (kk7 [2,3,4,5,6,7,53] ?_)
 refine cd ?_ ?_ <;> intro h13 <;> try simp only [tt] at h13
 refine sk (kk6 [2,3,4,5,6,7] (sq (bk (rg ?_))))
 refine mv (mv ?_)
 refine S_litr (vs := [_]) (cs := [_]) Tryz.underlying22 T.sz3 T.ze3 rfl rfl rfl rfl rfl rfl rfl (fun b14 => ?_)
 refine S_appendI (l := x11.2.2) (g1 := x11.1) [_] 1 rfl rfl rfl Tryz.underlying22 T.sz3 T.ze3 T.by3 rfl rfl (.row 0 rfl) (by simp only [List.length_cons, List.length_nil]; omega) rfl (fun g15 c15 hg15 => ?_)
 refine as_ ?_
 refine wn (nb (kk6 [2,3,4,5,6,7] (rg ?_)))
 refine mv ?_
 refine ad ?_
 refine as_ ?_
 refine wn ?_
 refine NX_rnd [6, 7, 2, 3, 4, 5] (by omega) ((_, _, _)) ?_ rfl (sub_drop 1 rfl) rfl (Imm.le_refl _)
 exact ⟨by rw [hx0, iota_succ], hg15⟩
 refine C_exit (EX_then (EX_then (EX_hit (?_))))
 refine kk5 [2,3,4,5,6] (sq (rg ?_))
 have hkn : k11 = z9.ops.length := by omega
 have hsm := hx0
 rw [hkn] at hsm
 refine WL_know (k_rowI 0 rfl) (fun hr16 => ?_)
 refine WL_freeze 0 rfl (fun _ h => h) (fun mf16 le16 hf16 => ?_)
 replace hF := rFunc_mono _ _ _ _ le16 hF
 replace hq90 := hq90.mono rI_mono le16
 replace hb90 := hb90.mono rBlock_mono le16
 replace h := h.mono rI_mono le16
 replace hp10 := hp10.mono rPhi_mono le16
 replace ho10 := ho10.mono rOp_mono le16
 replace ht10 := ht10.mono rI_mono le16
 have hsame : Ints mf16 _ _ _ := Ints_frz hf16 hr16.1 hr16.2.1 (by rw [hsm, iota_len]; omega) hr16.2.2 (by rw [hsm]; intro z hz; have := mem_iota.1 hz; exact ⟨by omega, by omega⟩)
 have hlg1 : LegalP f block x11.2.2 = true := by rw [LegalP_t hrt hz9, hsm]; exact iota_legal z9
 have hfl := FlatP_t hrt hz9
 obtain ⟨hfl1, hfl2⟩ := flatP_legal z9
 have hlg2 : LegalP f block (FlatP f block) = true := by rw [LegalP_t hrt hz9, hfl]; exact hfl1
 have hflen : (FlatP f block).length = z9.ops.length := by rw [hfl, hfl2]
 refine W_q (r_loadbk 1 (vs := [_, _, _]) rfl T.ag25 T.sz25 rfl rfl rfl) rfl ?_
 refine fb 0 T.fo27_0 (lb 0 T.ag3 ?_)
 refine S_gives (Flat_g hF _) T.hb24 rfl rfl (fun m17 v17 le17 hv17 => ?_)
 replace hF := rFunc_mono _ _ _ _ le17 hF
 replace hq90 := hq90.mono rI_mono le17
 replace hb90 := hb90.mono rBlock_mono le17
 replace h := h.mono rI_mono le17
 replace hp10 := hp10.mono rPhi_mono le17
 replace ho10 := ho10.mono rOp_mono le17
 replace ht10 := ht10.mono rI_mono le17
 replace hsame := hsame.mono rI_mono le17
 obtain ⟨Ah17, ch17, rfl, hh17⟩ := hv17
 refine as_ ?_
 refine wn (kk6 [2,3,4,5,6,8] (sq (sq (rg ?_))))
 refine W_q (r_loadbk 1 (vs := [_, _, _]) rfl T.ag25 T.sz25 rfl rfl rfl) rfl ?_
 refine fb 0 T.fo27_0 (lb 0 T.ag3 (mv ?_))
 refine W_quiet (known_q (Legal_q hF block hsame) (hlg1)) T.hb19 rfl rfl ?_
 refine nt (mv ?_)
 refine tk ?_
 refine W_q (r_loadbk 1 (vs := [_, _, _]) rfl T.ag25 T.sz25 rfl rfl rfl) rfl ?_
 refine tk (fb 0 T.fo27_0 ?_)
 refine tk (lb 0 T.ag3 ?_)
 refine tk (mv ?_)
 refine tk ?_
 refine W_quiet (known_q (Legal_q hF block hh17) (hlg2)) T.hb19 rfl rfl ?_
 refine tk (nt (pf (mv ?_)))
 refine tk (mv ?_)
 refine tk (ln Tryz.underlying22 ?_)
 refine tk (mv ?_)
 refine tk (ln Tryz.underlying40 ?_)
 refine tk ?_
 refine W_q (r_nef rfl rfl (by rw [hflen])) rfl ?_
 refine pf ?_
 refine wn (kk6 [2,3,4,5,6,84] ?_)
 refine CW_cond_f rfl ?_
 refine sk (kk5 [2,3,4,5,6] (sq (sq (rg ?_))))
 refine W_q (r_loadbk 1 (vs := [_, _, _]) rfl T.ag25 T.sz25 rfl rfl rfl) rfl ?_
 refine fb 0 T.fo27_0 (lb 0 T.ag3 (fb 2 T.fo27_2 (lb 0 T.ag22 ?_)))
 refine W_quiet (Legal_q hF block h) T.hb19 rfl rfl ?_
 refine nt ?_
 refine wn (kk6 [2,3,4,5,6,91] ?_)
 refine cd ?_ ?_ <;> intro h18 <;> try simp only [tt] at h18
 refine sq (rg ?_)
 refine as_ ?_
 refine wn (kk5 [2,3,4,5,6] ?_)
 refine C_ret (RX_then (RX_q1 rfl rfl ?_))
 rfl
 refine sk (kk5 [2,3,4,5,6] (sq (rg ?_)))
 obtain ⟨h0b, b, hput, hpe⟩ := putOK_of (by assumption : LegalP f block order = true)
 have hbb : z9 = b := by
   have := hput.hb
   rw [hz9] at this
   exact Option.some.inj this
 subst hbb
 obtain ⟨hol, hls⟩ := legal_iff.1 hput.leg
 refine as_ ?_
 refine wn (kk6 [2,3,4,5,6,9] (sq (sq (rg ?_))))
 refine as_ ?_
 refine wn (kk7 [2,3,4,5,6,9,10] (bk ?_))
 refine C_loop (Int) (order.length) (fun k19 x19 => LastSt z9.ops order k19 x19) (fun k19 x19 => [(9, .int .i64 x19), (10, .int .i64 (k19 : Int))]) (fun _ _ => []) [9, 10] [2, 3, 5, 6] (F := [(2, _), (3, _), (5, _), (6, _)]) (_) (lastSt_init _ _) rfl rfl rfl (fun k19 x19 hk19 hJ19 => ?_)
 refine jj6 [2,3,5,6,9,10] (sq (sq (rg ?_)))
 refine mv (fb 2 T.fo27_2 (lb 0 T.ag22 (ln Tryz.underlying22 (bl ?_))))
 refine wn (kk7 [2,3,5,6,9,10,96] ?_)
 refine cd ?_ ?_ <;> intro h20 <;> try simp only [tt] at h20
 refine sk (kk6 [2,3,5,6,9,10] (sq (bk (sq (rg ?_)))))
 refine fb 2 T.fo27_2 (lb 0 T.ag22 (mv ?_))
 obtain ⟨ad21, hA21⟩ := h.ad (j := k19) (by omega)
 obtain ⟨z21, hz21⟩ := h.getz (j := k19) (by omega)
 refine W_q (r_index hA21 Tryz.underlying22 T.sz3 rfl rfl ⟨by omega, by omega⟩) rfl ?_
 obtain ⟨l22, r22⟩ := Sl.getI h hA21 hz21
 refine W_q (r_load_imm rfl T.ag3 l22) rfl ?_
 refine as_ ?_
 refine wn (kk7 [2,3,5,6,9,10,11] (sq (sq (rg ?_))))
 have hzr := hls.rng _ (List.mem_of_getElem? hz21)
 refine mv (bl (mv ?_))
 refine sp 106 ?_ ?_ <;> intro h23 <;> try simp only [tt] at h23
 refine ps (ps (ps (ps ?_)))
 refine pt ?_
 refine wn (kk8 [2,3,5,6,9,10,11,111] ?_)
 refine CW_cond_t rfl ?_
 refine sq (rg ?_)
 refine as_ ?_
 refine wn (kk8 [2,3,4,5,6,9,10,11] ?_)
 refine C_ret (RX_then (RX_block (RX_then (RX_then (RX_block (RX_then (RX_q1 rfl rfl ?_)))))))
 exfalso; omega
 refine tk (mv ?_)
 refine tk (mv ?_)
 refine tk (ln Tryz.underlying40 ?_)
 refine tk (bh (pf ?_))
 refine wn (kk8 [2,3,5,6,9,10,11,111] ?_)
 refine cd ?_ ?_ <;> intro h24 <;> try simp only [tt] at h24
 refine sq (rg ?_)
 refine as_ ?_
 refine wn (kk8 [2,3,4,5,6,9,10,11] ?_)
 refine C_ret (RX_then (RX_block (RX_then (RX_then (RX_block (RX_then (RX_q1 rfl rfl ?_)))))))
 exfalso; omega
 refine sk (kk7 [2,3,5,6,9,10,11] (sq (sq (rg ?_))))
 refine mv (mv ?_)
 obtain ⟨ad25, hA25⟩ := ho10.ad (j := z21.toNat) (by omega)
 obtain ⟨z25, hz25⟩ := ho10.getz (j := z21.toNat) (by omega)
 refine W_q (r_index hA25 Tryz.underlying40 T.sz51 rfl rfl ⟨by omega, by omega⟩) rfl ?_
 refine W_q (r_field rfl T.fo51_0) rfl ?_
 obtain ⟨es26, f26, _, l26⟩ := Sl.get ho10 hA25 hz25
 obtain ⟨A26, c26, rfl, h26, i26a, i26b, i26c, i26d, i26e⟩ := f26
 refine W_q (r_load_imm rfl T.ag3 (l26 0 _ rfl)) rfl ?_
 refine W_quiet (rPure_q _) T.hb30 rfl rfl ?_
 refine wn (kk8 [2,3,5,6,9,10,11,117] ?_)
 refine cd ?_ ?_ <;> intro h27 <;> try simp only [tt] at h27
 refine C_exit (EX_then (EX_hit (?_)))
 refine kk6 [2,3,5,6,9,10] (rg ?_)
 refine mv ?_
 refine ad ?_
 refine as_ ?_
 refine wn ?_
 refine NX_rnd [9, 10, 2, 3, 5, 6] (by omega) (_) ?_ rfl (List.Sublist.refl _) rfl (Imm.le_refl _)
 exact hJ19.skip hz21 hz25 (by assumption)
 refine sk (kk7 [2,3,5,6,9,10,11] (sq (sq (rg ?_))))
 refine mv (mv (bl ?_))
 refine wn (kk8 [2,3,5,6,9,10,11,120] ?_)
 refine cd ?_ ?_ <;> intro h28 <;> try simp only [tt] at h28
 refine sq (rg ?_)
 refine as_ ?_
 refine wn (kk8 [2,3,4,5,6,9,10,11] ?_)
 refine C_ret (RX_then (RX_block (RX_then (RX_then (RX_block (RX_then (RX_q1 rfl rfl ?_)))))))
 exact absurd (by assumption) (hJ19.over hls hol hz21 hz25 (by assumption))
 refine sk (kk7 [2,3,5,6,9,10,11] (rg ?_))
 refine mv (as_ ?_)
 refine wn (nb (kk6 [2,3,5,6,9,10] (rg ?_)))
 refine mv ?_
 refine ad ?_
 refine as_ ?_
 refine wn ?_
 refine NX_rnd [9, 10, 2, 3, 5, 6] (by omega) (_) ?_ rfl (List.Sublist.refl _) rfl (Imm.le_refl _)
 exact hJ19.put hls hol hz21 hz25 (by assumption)
 refine C_exit (EX_then (EX_then (EX_hit (?_))))
 refine kk4 [2,3,5,6] (sq (rg ?_))
 have hput_leg : LegalP f block order = true := by assumption
 refine W_q (r_loadbk 1 (vs := [_, _, _]) rfl T.ag25 T.sz25 rfl rfl rfl) rfl ?_
 refine fb 0 T.fo27_0 (lb 0 T.ag3 (fb 2 T.fo27_2 (lb 0 T.ag22 ?_)))
 refine S_gives (Put_g hF block h) T.hb16 rfl rfl (fun m29 v29 le29 hv29 => ?_)
 replace hF := rFunc_mono _ _ _ _ le29 hF
 replace hq90 := hq90.mono rI_mono le29
 replace hb90 := hb90.mono rBlock_mono le29
 replace h := h.mono rI_mono le29
 replace hp10 := hp10.mono rPhi_mono le29
 replace ho10 := ho10.mono rOp_mono le29
 replace ht10 := ht10.mono rI_mono le29
 replace hsame := hsame.mono rI_mono le29
 replace hh17 := hh17.mono rI_mono le29
 obtain ⟨_, esG29, rfl, hG29⟩ := hv29.resolve_right (fun h => absurd (Eq.trans (Eq.symm hput_leg) h.1) (by decide))
 rw [hpe] at hG29
 have hG101_0 := hG29
 obtain ⟨A101, c101, B101, d101, rfl, hq101, hb101, i101a⟩ := hG101_0
 refine mv ?_
 refine W_q (r_extract rfl rfl) rfl ?_
 refine W_q (r_extract rfl rfl) rfl ?_
 refine S_alloc (l := [_, _, _]) T.ze25 rfl rfl (fun b30 => ?_)
 refine S_storeb 0 (l' := [_, _, _]) rfl rfl rfl T.sz25 rfl rfl rfl rfl ?_
 refine as_ ?_
 refine wn (kk6 [2,3,5,6,12,13] (sq (rg ?_)))
 refine mv (be (mv ?_))
 refine tk (fb 2 T.fo25_2 ?_)
 refine tk (lb 0 T.ag23 ?_)
 refine tk (ln Tryz.underlying23 ?_)
 refine tk (fb 2 T.fo25_2 ?_)
 refine tk (lb 2 T.ag23 ?_)
 refine tk (ln Tryz.underlying23 ?_)
 refine tk ?_
 refine W_q (r_eqt rfl rfl (by simp only [putF, List.length_set])) rfl ?_
 refine pt (mv ?_)
 refine tk (fb 2 T.fo25_2 ?_)
 refine tk (lb 0 T.ag23 ?_)
 refine tk (fb 0 T.fo27_0 ?_)
 refine tk (lb 1 T.ag3 ?_)
 refine tk ?_
 have hzg : (putF f block.toNat z9 order).blocks[block.toNat]? = some (putB z9 order) := by rw [put_blocks hput, if_pos rfl]
 obtain ⟨ad31, hA31⟩ := hb101.ad (j := block.toNat) (by simp only [putF, List.length_set]; omega)
 refine W_q (r_index hA31 Tryz.underlying23 T.sz44 rfl rfl ⟨by omega, by simp only [putF, List.length_set]; omega⟩) rfl ?_
 refine tk ?_
 refine W_q (r_field rfl T.fo44_1) rfl ?_
 refine tk ?_
 obtain ⟨es32, f32, _, l32⟩ := Sl.get hb101 hA31 hzg
 obtain ⟨A32, c32, B32, d32, C32, e32, rfl, hp32, ho32, ht32, i32a, i32b⟩ := f32
 refine W_q (r_load_imm rfl T.ag40 (l32 1 _ rfl)) rfl ?_
 refine tk (ln Tryz.underlying40 ?_)
 refine tk (mv ?_)
 refine tk (ln Tryz.underlying40 ?_)
 refine tk ?_
 refine W_q (r_eqt rfl rfl (by simp only [putB, ordOps_len]; omega)) rfl ?_
 refine pt (mv ?_)
 refine tk (mv ?_)
 refine tk (mv ?_)
 refine tk ?_
 refine W_quiet (known_q (Ints_q hsame hsame) (beq_self_eq_true _)) T.hb21 rfl rfl ?_
 refine pt (as_ ?_)
 refine wn (kk1 [4] ?_)
 refine C_ret (RX_q1 rfl rfl ?_)
 rfl
end Go.Proofs.YtipmgkhjoekaaaaGreat
set_option linter.unusedVariables false
namespace Go.Proofs.YtipmgkhjoekaaaaGreat.Fw
open Go Go.RowKit Go.ChangeShapes Go.WideShapes Go.Deep
def memOf (W : World) : Imm := fun b => W.heap[b]?
theorem memOf_cell (W : World) (a : Addr) : (memOf W).cell? a = W.cell? a := rfl
theorem memOf_in (W : World) : In (memOf W) W := fun _ _ h => h
def Wt {H : Type} (P : Program) (t : TypeId) (d : DataW H) : Prop := (d.weights P t).all (· ≤ reachBytes) = true
def Rd (P : Program) (W : World) (t : TypeId) {α : Type} (r : Rep α) (sz : Nat) : Prop :=
  ∀ (H : Type) (enc : TypeId × Value → H) (fuel : Nat) (cs : List Value) (d : DataW H) (ps : List MemPlace), DataW.trod enc P W 0 (fun _ => true) true fuel t cs = some (d, ps) → Wt P t d → cs.length = sz ∧ ∃ z, r (memOf W) cs z
section
variable {P : Program} {W : World} {t e : TypeId}
theorem Rd.i64 (ht : P.underlying t = some (.int .i64)) : Rd P W t rI 1 := fun H enc fuel cs d ps h _ => by
  obtain ⟨n, rfl, _, hw⟩ := DataW.trod_int ht h
  simp only [Lit.wf, Bool.and_eq_true, decide_eq_true_eq] at hw
  exact ⟨rfl, n, rfl, hw.1, hw.2⟩
theorem Rd.u64 (ht : P.underlying t = some (.int .u64)) : Rd P W t rU 1 := fun H enc fuel cs d ps h _ => by
  obtain ⟨n, rfl, _, hw⟩ := DataW.trod_int ht h
  simp only [Lit.wf, Bool.and_eq_true, decide_eq_true_eq] at hw
  have h1 : IntKind.u64.min = 0 := rfl
  have h2 : IntKind.u64.max = 18446744073709551615 := rfl
  exact ⟨rfl, n, rfl, by rw [h1] at hw; exact hw.1, by rw [h2] at hw; omega⟩
theorem weightsAll_mem {H : Type} {l : List (DataW H)} {d : DataW H} (hd : d ∈ l) {x : Nat} (hx : x ∈ d.weights P e) : x ∈ DataW.weightsAll P e l := by
  induction l with
  | nil => cases hd
  | cons y r ih =>
    rw [DataW.weightsAll, List.mem_append]
    rcases List.mem_cons.1 hd with rfl | hd
    · exact .inl hx
    · exact .inr (ih hd)
theorem cells_get {a : Addr} {n : Nat} {cs : List Value} (h : W.cells? 0 a n = some cs) : cs.length = n ∧ ∀ k v, cs[k]? = some v → W.cell? (a.add k) = some v := by
  rw [World.cells?, if_pos (Nat.zero_le _)] at h
  have hl := mapM_some_length h
  rw [List.length_range] at hl
  refine ⟨hl, fun k v hk => ?_⟩
  have hkn : k < n := by rw [← hl]; exact (List.getElem?_eq_some_iff.1 hk).1
  have := mapM_some_get h k k (by rw [List.getElem?_range hkn])
  rw [this]; exact hk
theorem Rd.slice {α : Type} {r : Rep α} {sz : Nat} (ht : P.underlying t = some (.slice e)) (hc : P.cellsOf e = sz) (hb : Nat.ble 1 (P.bytesOf e) = true) (h : Rd P W e r sz) : Rd P W t (rS r sz) 1 := fun H enc fuel cs d ps hd hw => by
  rcases open_slice ht hd with ⟨rfl, hx⟩ | ⟨a, len, cap, m, n, D, Pl, rfl, _, hl, hm, hmc, hx, hel⟩
  · exact ⟨rfl, [], none, 0, rfl, Sl.nil _ _ _⟩
  · simp only [if_true] at hmc
    subst hmc
    obtain ⟨rfl, _⟩ := Prod.mk.inj hx
    refine ⟨rfl, ?_⟩
    have hw' := List.all_eq_true.1 hw
    have hwD : ∀ i, i < len → Wt P e (D i) := fun i hi => List.all_eq_true.2 fun x hx => hw' x (by
      rw [DataW.weights, ht]
      refine List.mem_cons_of_mem _ (List.mem_append.2 (.inl (weightsAll_mem (d := D i) ?_ hx)))
      exact List.mem_map.2 ⟨i, List.mem_range.2 hi, rfl⟩)
    have hlen : len ≤ 140737488355328 := by
      have := hw' (((List.range len).map D).length + ((List.range (m - len)).map fun j => D (len + j)).length |>.mul (P.bytesOf e)) (by rw [DataW.weights, ht]; exact List.mem_cons_self)
      simp only [List.length_map, List.length_range, decide_eq_true_eq] at this
      have h1 : 1 ≤ P.bytesOf e := Nat.le_of_ble_eq_true hb
      have h2 : len + (m - len) ≤ (len + (m - len)) * P.bytesOf e := Nat.le_mul_of_pos_right _ h1
      have h3 : (len + (m - len)).mul (P.bytesOf e) = (len + (m - len)) * P.bytesOf e := rfl
      rw [h3] at this
      have h4 : reachBytes = 140737488351232 := rfl
      omega
    have hall : ∀ k, k ≤ len → ∃ l : List α, l.length = k ∧ ∀ i z, l[i]? = some z → ∃ cs', W.cells? 0 (a.add (i * P.cellsOf e)) (P.cellsOf e) = some cs' ∧ r (memOf W) cs' z := by
      intro k
      induction k with
      | zero => intro _; exact ⟨[], rfl, by simp⟩
      | succ k ih =>
        intro hk
        obtain ⟨l, h1, h2⟩ := ih (by omega)
        obtain ⟨cs', h3, h4⟩ := hel k (by omega)
        obtain ⟨_, z, hz⟩ := h H enc n cs' (D k) (Pl k) h4 (hwD k (by omega))
        refine ⟨l ++ [z], by simp [h1], fun i y hy => ?_⟩
        by_cases hi : i < l.length
        · rw [List.getElem?_append_left hi] at hy; exact h2 i y hy
        · have hlt := (List.getElem?_eq_some_iff.1 hy).1
          rw [List.length_append, List.length_singleton] at hlt
          obtain rfl : i = l.length := by omega
          rw [List.getElem?_append_right (Nat.le_refl _), Nat.sub_self] at hy
          simp only [List.getElem?_cons_zero, Option.some.injEq] at hy
          subst hy
          rw [h1]; exact ⟨cs', h3, hz⟩
    obtain ⟨l, h1, h2⟩ := hall len (Nat.le_refl _)
    refine ⟨l, some a, m, by rw [h1], ⟨by omega, hm, by omega, fun j x hj => ?_⟩⟩
    obtain ⟨cs', h3, h4⟩ := h2 j x hj
    rw [hc] at h3
    obtain ⟨h5, h6⟩ := cells_get h3
    exact ⟨a, rfl, cs', h5, h4, fun k v hk => by rw [memOf_cell, ← Fw.add_add]; exact h6 k v hk⟩
theorem Rd.parts {fs : Array Field} (ht : P.underlying t = some (.struct fs)) {H : Type} {enc : TypeId × Value → H} {fuel : Nat} {cs : List Value} {d : DataW H} {ps : List MemPlace} (h : DataW.trod enc P W 0 (fun _ => true) true fuel t cs = some (d, ps)) (hw : Wt P t d) :
    cs.length = P.cellsOf t ∧ ∀ (i : Nat) (f : Field), fs[i]? = some f → ∃ n d' ps', DataW.trod enc P W 0 (fun _ => true) true n f.type ((cs.drop f.offset).take (P.cellsOf f.type)) = some (d', ps') ∧ Wt P f.type d' := by
  obtain ⟨xs, n, rfl, hx, hl, hxl, hp⟩ := DataW.trod_struct ht h
  obtain ⟨rfl, _⟩ := Prod.mk.inj hx
  refine ⟨hl, fun i f hf => ?_⟩
  have hi : i < xs.length := by rw [hxl]; exact (Array.getElem?_eq_some_iff.1 hf).1
  have h1 := hp i f hf
  rw [List.getElem?_eq_getElem hi] at h1
  refine ⟨n, xs[i].1, xs[i].2, h1, List.all_eq_true.2 fun x hx => List.all_eq_true.1 hw x ?_⟩
  rw [DataW.weights, ht]
  refine DataW.weights_mem_each (j := i) (t := f.type) (d := xs[i].1) ?_ ?_ x hx
  · rw [List.getElem?_map, Array.getElem?_toList, hf]; rfl
  · rw [List.getElem?_map, List.getElem?_eq_getElem hi]; rfl
theorem Rd.field {fs : Array Field} {α : Type} {r : Rep α} {sz : Nat} (ht : P.underlying t = some (.struct fs)) {H : Type} {enc : TypeId × Value → H} {fuel : Nat} {cs : List Value} {d : DataW H} {ps : List MemPlace} (h : DataW.trod enc P W 0 (fun _ => true) true fuel t cs = some (d, ps)) (hw : Wt P t d)
    (i : Nat) {f : Field} (hf : fs[i]? = some f) (hc : P.cellsOf f.type = sz) (hr : Rd P W f.type r sz) : ∃ z, r (memOf W) ((cs.drop f.offset).take sz) z := by
  obtain ⟨n, d', ps', h1, h2⟩ := (Rd.parts ht h hw).2 i f hf
  rw [hc] at h1
  exact (hr H enc n _ d' ps' h1 h2).2
end
end Go.Proofs.YtipmgkhjoekaaaaGreat.Fw
set_option linter.unusedVariables false
namespace Go.Proofs.YtipmgkhjoekaaaaGreat
open Go Go.RowKit Go.Proofs Go.ChangeShapes Go.WideShapes Go.Proofs.YtipmgkhjoekaaaaGreat.Fw
section
variable {W : World}
theorem rd_ints : Rd Tryz.prog W 22 (rS rI 1) 1 := Rd.slice Tryz.underlying22 (by kernel_rfl) (by kernel_rfl) (Rd.i64 Tryz.underlying3)
theorem rd_op : Rd Tryz.prog W 51 rOp 6 := fun H enc fuel cs d ps h hw => by
  have hl := (Rd.parts Tryz.underlying51 h hw).1
  rw [show Tryz.prog.cellsOf 51 = 6 by kernel_rfl] at hl
  obtain ⟨k, h0, i0⟩ := Rd.field Tryz.underlying51 h hw 0 rfl (sz := 1) (by kernel_rfl) (Rd.i64 Tryz.underlying3)
  obtain ⟨b, h1, i1⟩ := Rd.field Tryz.underlying51 h hw 1 rfl (sz := 1) (by kernel_rfl) (Rd.i64 Tryz.underlying3)
  obtain ⟨l, h2, i2⟩ := Rd.field Tryz.underlying51 h hw 2 rfl (sz := 1) (by kernel_rfl) (Rd.i64 Tryz.underlying3)
  obtain ⟨dst, h3, i3⟩ := Rd.field Tryz.underlying51 h hw 3 rfl (sz := 1) (by kernel_rfl) (Rd.i64 Tryz.underlying3)
  obtain ⟨as', A, c, h4, i4⟩ := Rd.field Tryz.underlying51 h hw 4 rfl (sz := 1) (by kernel_rfl) rd_ints
  obtain ⟨im, h5, i5⟩ := Rd.field Tryz.underlying51 h hw 5 rfl (sz := 1) (by kernel_rfl) (Rd.u64 Tryz.underlying49)
  refine ⟨hl, ⟨k, b, l, dst, as', im⟩, A, c, ?_, i4, i0, i1, i2, i3, i5⟩
  match cs, hl with
  | [c0, c1, c2, c3, c4, c5], _ =>
    simp at h0 h1 h2 h3 h4 h5
    rw [h0, h1, h2, h3, h4, h5]
theorem rd_phi : Rd Tryz.prog W 61 rPhi 4 := fun H enc fuel cs d ps h hw => by
  have hl := (Rd.parts Tryz.underlying61 h hw).1
  rw [show Tryz.prog.cellsOf 61 = 4 by kernel_rfl] at hl
  obtain ⟨k, h0, i0⟩ := Rd.field Tryz.underlying61 h hw 0 rfl (sz := 1) (by kernel_rfl) (Rd.i64 Tryz.underlying3)
  obtain ⟨b, h1, i1⟩ := Rd.field Tryz.underlying61 h hw 1 rfl (sz := 1) (by kernel_rfl) (Rd.i64 Tryz.underlying3)
  obtain ⟨fr, A, c, h2, i2⟩ := Rd.field Tryz.underlying61 h hw 2 rfl (sz := 1) (by kernel_rfl) rd_ints
  obtain ⟨ar, A', c', h3, i3⟩ := Rd.field Tryz.underlying61 h hw 3 rfl (sz := 1) (by kernel_rfl) rd_ints
  refine ⟨hl, ⟨k, b, fr, ar⟩, A, c, A', c', ?_, i2, i3, i0, i1⟩
  match cs, hl with
  | [c0, c1, c2, c3], _ =>
    simp at h0 h1 h2 h3
    rw [h0, h1, h2, h3]
def rEnd : Rep FEnd := fun m es e => ∃ A c, es = [.int .i64 e.kind, .int .i64 e.arg, .slice A e.to.length c] ∧ Ints m A c e.to ∧ I64 e.kind ∧ I64 e.arg
theorem rd_end : Rd Tryz.prog W 42 rEnd 3 := fun H enc fuel cs d ps h hw => by
  have hl := (Rd.parts Tryz.underlying42 h hw).1
  rw [show Tryz.prog.cellsOf 42 = 3 by kernel_rfl] at hl
  obtain ⟨k, h0, i0⟩ := Rd.field Tryz.underlying42 h hw 0 rfl (sz := 1) (by kernel_rfl) (Rd.i64 Tryz.underlying3)
  obtain ⟨b, h1, i1⟩ := Rd.field Tryz.underlying42 h hw 1 rfl (sz := 1) (by kernel_rfl) (Rd.i64 Tryz.underlying3)
  obtain ⟨to, A, c, h2, i2⟩ := Rd.field Tryz.underlying42 h hw 2 rfl (sz := 1) (by kernel_rfl) rd_ints
  refine ⟨hl, ⟨k, b, to⟩, A, c, ?_, i2, i0, i1⟩
  match cs, hl with
  | [c0, c1, c2], _ =>
    simp at h0 h1 h2
    rw [h0, h1, h2]
theorem rd_block : Rd Tryz.prog W 44 rBlock 5 := fun H enc fuel cs d ps h hw => by
  have hl := (Rd.parts Tryz.underlying44 h hw).1
  rw [show Tryz.prog.cellsOf 44 = 5 by kernel_rfl] at hl
  obtain ⟨ph, A, c, h0, i0⟩ := Rd.field Tryz.underlying44 h hw 0 rfl (sz := 1) (by kernel_rfl) (Rd.slice Tryz.underlying39 (sz := 4) (by kernel_rfl) (by kernel_rfl) rd_phi)
  obtain ⟨os, A', c', h1, i1⟩ := Rd.field Tryz.underlying44 h hw 1 rfl (sz := 1) (by kernel_rfl) (Rd.slice Tryz.underlying40 (sz := 6) (by kernel_rfl) (by kernel_rfl) rd_op)
  obtain ⟨e, A'', c'', h2, i2, i3, i4⟩ := Rd.field Tryz.underlying44 h hw 2 rfl (sz := 3) (by kernel_rfl) rd_end
  refine ⟨hl, ⟨ph, os, e⟩, A, c, A', c', A'', c'', ?_, i0, i1, i2, i3, i4⟩
  match cs, hl with
  | [c0, c1, c2, c3, c4], _ =>
    simp at h0 h1 h2
    rw [h0, h1, h2.1, h2.2.1, h2.2.2]
theorem rd_func : Rd Tryz.prog W 25 rFunc 3 := fun H enc fuel cs d ps h hw => by
  have hl := (Rd.parts Tryz.underlying25 h hw).1
  rw [show Tryz.prog.cellsOf 25 = 3 by kernel_rfl] at hl
  obtain ⟨ps', A, c, h0, i0⟩ := Rd.field Tryz.underlying25 h hw 0 rfl (sz := 1) (by kernel_rfl) rd_ints
  obtain ⟨r, h1, i1⟩ := Rd.field Tryz.underlying25 h hw 1 rfl (sz := 1) (by kernel_rfl) (Rd.i64 Tryz.underlying3)
  obtain ⟨bs, A', c', h2, i2⟩ := Rd.field Tryz.underlying25 h hw 2 rfl (sz := 1) (by kernel_rfl) (Rd.slice Tryz.underlying23 (sz := 5) (by kernel_rfl) (by kernel_rfl) rd_block)
  refine ⟨hl, ⟨ps', r, bs⟩, A, c, A', c', ?_, i0, i2, i1⟩
  match cs, hl with
  | [c0, c1, c2], _ =>
    simp at h0 h1 h2
    rw [h0, h1, h2]
structure FAsk where
  block : Int
  at_ : Int
  order : List Int
def rAsk : Rep FAsk := fun m es a => ∃ A c, es = [.int .i64 a.block, .int .i64 a.at_, .slice A a.order.length c] ∧ Ints m A c a.order ∧ I64 a.block ∧ I64 a.at_
theorem rd_ask : Rd Tryz.prog W 27 rAsk 3 := fun H enc fuel cs d ps h hw => by
  have hl := (Rd.parts Tryz.underlying27 h hw).1
  rw [show Tryz.prog.cellsOf 27 = 3 by kernel_rfl] at hl
  obtain ⟨k, h0, i0⟩ := Rd.field Tryz.underlying27 h hw 0 rfl (sz := 1) (by kernel_rfl) (Rd.i64 Tryz.underlying3)
  obtain ⟨b, h1, i1⟩ := Rd.field Tryz.underlying27 h hw 1 rfl (sz := 1) (by kernel_rfl) (Rd.i64 Tryz.underlying3)
  obtain ⟨to, A, c, h2, i2⟩ := Rd.field Tryz.underlying27 h hw 2 rfl (sz := 1) (by kernel_rfl) rd_ints
  refine ⟨hl, ⟨k, b, to⟩, A, c, ?_, i2, i0, i1⟩
  match cs, hl with
  | [c0, c1, c2], _ =>
    simp at h0 h1 h2
    rw [h0, h1, h2]
theorem arg_struct {P : Program} {t : TypeId} {fs : Array Field} {α : Type} {r : Rep α} {sz : Nat} {H : Type} {enc : TypeId × Value → H} {v : Value} {d : DataW H} {ps : List MemPlace} {rr : Reach} {b0 : Nat} (ht : P.underlying t = some (.struct fs)) (hv : Value.okWide P W rr b0 t v) (hd : DataW.Trod enc P W 0 (fun _ => true) true t v d ps) (hw : Wt P t d) (hR : Rd P W t r sz) :
    ∃ es z, v = .agg es.toArray ∧ r (memOf W) es z := by
  obtain ⟨cs, rfl, _⟩ := okWide_struct ht hv
  obtain ⟨fuel, hf⟩ := hd
  obtain ⟨_, z, hz⟩ := hR H enc fuel _ d ps hf hw
  exact ⟨_, z, by simp [Value.cells], hz⟩
theorem trod_places {P : Program} {t : TypeId} {H : Type} {enc : TypeId × Value → H} {v : Value} {d : DataW H} {ps : List MemPlace} (hd : DataW.Trod enc P W 0 (fun _ => true) true t v d ps) : ∀ x ∈ ps, x.block < W.heap.size := by
  obtain ⟨m, hm⟩ := hd; exact DataW.trod_lt m _ _ _ hm
theorem lawOwn : ownKnob Tryz.prog.godebug = none := by kernel_rfl
theorem lawLaidOut : laidOutB Tryz.prog = true := by kernel_rfl
end
end Go.Proofs.YtipmgkhjoekaaaaGreat
