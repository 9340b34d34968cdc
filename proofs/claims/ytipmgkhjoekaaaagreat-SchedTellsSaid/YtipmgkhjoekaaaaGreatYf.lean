/- A part of a proof about a given program: rules, plain functions and walks. -/
import Derived.Deep.Slices
import Derived.SizedLaws
import Derived.Test.YtipmgkhjoekaaaaGreatProg
import Derived.Test.YtipmgkhjoekaaaaGreatYe
set_option linter.unusedVariables false
set_option linter.unusedSimpArgs false
set_option maxHeartbeats 200000000
namespace Go.Proofs.YtipmgkhjoekaaaaGreat
open Go Go.RowKit Go.Proofs Go.Proofs.YtipmgkhjoekaaaaGreat.Fw
attribute [local irreducible] Qt WL CW NX RX EX GX DL
namespace T
theorem hb27 : hasBody Tryz.prog 27 = true := by kernel_rfl
theorem hb28 : hasBody Tryz.prog 28 = true := by kernel_rfl
end T
theorem ne_true_of {b : Bool} (h : b = false) : ¬ b = true := by rw [h]; decide
theorem r19_f1 {f : FFun} {block : Int} (h : ¬ checkP f 2 = 0) : rightP f block = false := Bool.eq_false_iff.2 fun hc => h (right_iff.1 hc).1
theorem r19_f2 {f : FFun} {block : Int} (h : ¬ 0 ≤ block) : rightP f block = false := Bool.eq_false_iff.2 fun hc => h (right_iff.1 hc).2.1
theorem r19_t {f : FFun} {block : Int} (h : checkP f 2 = 0) (h0 : 0 ≤ block) : rightP f block = decide (block < (f.blocks.length : Int)) := bool_ext (by
  rw [right_iff, decide_eq_true_eq]; exact ⟨fun h => h.2.2, fun h' => ⟨h, h0, h'⟩⟩)
section
variable {ops : List FOp} {a k : Nat} {x y : FOp}
theorem on_f {at_ k : Int} (h : at_ ≤ k) : hangB ops at_.toNat k.toNat = false := by
  rw [hangB, decide_eq_false (by omega)]; rfl
theorem on_t1 (h : k < a) (hx : ops[k]? = some x) (hy : ops[a]? = some y) (h1 : ¬ x.dst = 0) (h2 : y.args.contains x.dst = true) : hangB ops a k = true := by
  rw [hangB_of hx hy, decide_eq_true h, h2, beq_eq_false_iff_ne.2 h1]; rfl
theorem on_n0 (h : k < a) (hx : ops[k]? = some x) (hy : ops[a]? = some y) (h1 : x.dst = 0 ∨ y.args.contains x.dst = false) : hangB ops a k = (!(pureK x.kind) && !(pureK y.kind)) := by
  rw [hangB_of hx hy, decide_eq_true h]
  rcases h1 with h1 | h1
  · rw [beq_iff_eq.2 h1]; rfl
  · rw [h1, Bool.and_false]; rfl
theorem on_p (h : k < a) (hx : ops[k]? = some x) (hy : ops[a]? = some y) (h1 : x.dst = 0 ∨ y.args.contains x.dst = false) (hp : pureK x.kind = true) : hangB ops a k = false := by
  rw [on_n0 h hx hy h1, hp]; rfl
theorem on_n (h : k < a) (hx : ops[k]? = some x) (hy : ops[a]? = some y) (h1 : x.dst = 0 ∨ y.args.contains x.dst = false) (hp : pureK x.kind = false) : hangB ops a k = !(pureK y.kind) := by
  rw [on_n0 h hx hy h1, hp]; rfl
end
theorem rR19_q {m : Imm} {es : List Value} {f : FFun} (hF : rFunc m es f) (block : Int)  : Quiet Tryz.prog 27 [.agg es.toArray, .int .i64 block] m (.bool (rightP f block)) := by
 have hF_0 := hF
 obtain ⟨A90, c90, B90, d90, rfl, hq90, hb90, i90a⟩ := hF_0
 refine quiet_of Tryz.func27 rfl Tryz.ntmps27 rfl (fun w => ?_)
 refine sq (rg ?_)
 refine S_box (l := [_, _, _]) rfl rfl rfl (fun b1 => ?_)
 refine as_ ?_
 refine wn (kk3 [1,2,4] (sq (rg ?_)))
 refine W_q (r_loadbk 0 (vs := [_, _, _]) rfl T.ag25 T.sz25 rfl rfl rfl) rfl ?_
 refine W_quiet (rCheck_q hF _) T.hb29 rfl rfl ?_
 refine be (mv ?_)
 refine sp 8 ?_ ?_ <;> intro h2 <;> try simp only [tt] at h2
 refine tk (mv ?_)
 refine tk (bh (pt (mv ?_)))
 refine sp 12 ?_ ?_ <;> intro h3 <;> try simp only [tt] at h3
 refine tk (mv ?_)
 refine tk (fb 2 T.fo25_2 ?_)
 refine tk (lb 0 T.ag23 ?_)
 refine tk (ln Tryz.underlying23 ?_)
 refine tk (bl (pt (as_ ?_)))
 refine wn (kk1 [4] ?_)
 refine C_ret (RX_q1 rfl rfl ?_)
 refine congrArg Value.bool ?_
 · first
    | exact (r19_f1 (by assumption)).symm
    | exact (r19_f2 (by assumption)).symm
    | exact (r19_t (by assumption) (by assumption)).symm
 refine ps (ps (ps (ps (ps ?_))))
 refine pf (as_ ?_)
 refine wn (kk1 [4] ?_)
 refine C_ret (RX_q1 rfl rfl ?_)
 refine congrArg Value.bool ?_
 · first
    | exact (r19_f1 (by assumption)).symm
    | exact (r19_f2 (by assumption)).symm
    | exact (r19_t (by assumption) (by assumption)).symm
 refine ps (ps ?_)
 refine pf (mv ?_)
 refine ps (ps (ps (ps (ps ?_))))
 refine pf (as_ ?_)
 refine wn (kk1 [4] ?_)
 refine C_ret (RX_q1 rfl rfl ?_)
 refine congrArg Value.bool ?_
 · first
    | exact (r19_f1 (by assumption)).symm
    | exact (r19_f2 (by assumption)).symm
    | exact (r19_t (by assumption) (by assumption)).symm
theorem rOn_q {m : Imm} {es : List Value} {b : FBlk} (hB : rBlock m es b) (at_ k : Int) (h0 : 0 ≤ at_) (hl : at_ < (b.ops.length : Int)) (hk : 0 ≤ k) : Quiet Tryz.prog 28 [.agg es.toArray, .int .i64 at_, .int .i64 k] m (.bool (hangB b.ops at_.toNat k.toNat)) := by
 have hB_0 := hB
 obtain ⟨A92, c92, B92, d92, C92, e92, rfl, hp92, ho92, ht92, i92a, i92b⟩ := hB_0
 refine quiet_of Tryz.func28 rfl Tryz.ntmps28 rfl (fun w => ?_)
 refine sq (rg ?_)
 refine S_box (l := [_, _, _, _, _]) rfl rfl rfl (fun b1 => ?_)
 refine as_ ?_
 refine wn (kk4 [1,2,3,6] (sq (sq (rg ?_))))
 refine mv (mv (bh ?_))
 refine wn (kk5 [1,2,3,6,11] ?_)
 refine cd ?_ ?_ <;> intro h2 <;> try simp only [tt] at h2
 refine sq (rg ?_)
 refine as_ ?_
 refine wn (kk4 [1,2,3,6] ?_)
 refine C_ret (RX_then (RX_q1 rfl rfl ?_))
 refine congrArg Value.bool ?_
 · first
    | exact (on_f (by omega)).symm
    | exact (on_t1 (by omega) «hzx» «hzy» (by assumption) (by assumption)).symm
    | exact (on_p (by omega) «hzx» «hzy» (.inl (by omega)) (by assumption)).symm
    | exact (on_p (by omega) «hzx» «hzy» (.inr (by assumption)) (by assumption)).symm
    | exact (on_n (by omega) «hzx» «hzy» (.inl (by omega)) (by assumption)).symm
    | exact (on_n (by omega) «hzx» «hzy» (.inr (by assumption)) (by assumption)).symm
 refine sk (kk4 [1,2,3,6] (sq (rg ?_)))
 refine fb 1 T.fo44_1 (lb 0 T.ag40 (mv ?_))
 obtain ⟨ad3, hA3⟩ := ho92.ad (j := k.toNat) (by omega)
 obtain ⟨z3, hz3⟩ := ho92.getz (j := k.toNat) (by omega)
 refine ixz hA3 Tryz.underlying40 T.sz51 ?_
 obtain ⟨es4, f4, _, l4⟩ := Sl.get ho92 hA3 hz3
 have F4 := f4
 obtain ⟨A4, c4, rfl, h4, i4a, i4b, i4c, i4d, i4e⟩ := f4
 refine W_q (r_load_immk (vs := [_, _, _, _, _, _]) rfl T.ag51 T.sz51 l4) rfl ?_
 refine sa6 T.ze51 (fun b5 => ?_)
 refine sb6 0 T.sz51 ?_
 refine wn (kk4 [1,3,6,7] (sq (rg ?_)))
 refine fb 1 T.fo44_1 (lb 1 T.ag40 (mv ?_))
 obtain ⟨ad6, hA6⟩ := ho92.ad (j := at_.toNat) (by omega)
 obtain ⟨z6, hz6⟩ := ho92.getz (j := at_.toNat) (by omega)
 refine ixz hA6 Tryz.underlying40 T.sz51 ?_
 obtain ⟨es7, f7, _, l7⟩ := Sl.get ho92 hA6 hz6
 have F7 := f7
 obtain ⟨A7, c7, rfl, h7, i7a, i7b, i7c, i7d, i7e⟩ := f7
 refine W_q (r_load_immk (vs := [_, _, _, _, _, _]) rfl T.ag51 T.sz51 l7) rfl ?_
 refine sa6 T.ze51 (fun b8 => ?_)
 refine sb6 0 T.sz51 ?_
 refine wn (kk3 [6,7,8] (sq (sq (rg ?_))))
 refine fb 3 T.fo51_3 (lb 1 T.ag3 (bn (mv ?_)))
 refine sp 25 ?_ ?_ <;> intro h9 <;> try simp only [tt] at h9
 refine tk (fb 4 T.fo51_4 ?_)
 refine tk (lb 0 T.ag22 ?_)
 refine tk (fb 3 T.fo51_3 ?_)
 refine tk (lb 1 T.ag3 ?_)
 refine tk ?_
 refine W_quiet (rHas_q h7 _) T.hb51 rfl rfl ?_
 refine pt ?_
 refine wn (kk4 [6,7,8,31] ?_)
 refine cd ?_ ?_ <;> intro h10 <;> try simp only [tt] at h10
 refine sq (rg ?_)
 refine as_ ?_
 refine wn (kk3 [6,7,8] ?_)
 refine C_ret (RX_then (RX_q1 rfl rfl ?_))
 refine congrArg Value.bool ?_
 · first
    | exact (on_f (by omega)).symm
    | exact (on_t1 (by omega) hz3 hz6 (by assumption) (by assumption)).symm
    | exact (on_p (by omega) hz3 hz6 (.inl (by omega)) (by assumption)).symm
    | exact (on_p (by omega) hz3 hz6 (.inr (by assumption)) (by assumption)).symm
    | exact (on_n (by omega) hz3 hz6 (.inl (by omega)) (by assumption)).symm
    | exact (on_n (by omega) hz3 hz6 (.inr (by assumption)) (by assumption)).symm
 refine sk (kk3 [6,7,8] (sq (rg ?_)))
 refine fb 0 T.fo51_0 (lb 1 T.ag3 ?_)
 refine W_quiet (rPure_q _) T.hb30 rfl rfl ?_
 refine nt (mv ?_)
 refine sp 36 ?_ ?_ <;> intro h11 <;> try simp only [tt] at h11
 refine tk (fb 0 T.fo51_0 ?_)
 refine tk (lb 0 T.ag3 ?_)
 refine tk ?_
 refine W_quiet (rPure_q _) T.hb30 rfl rfl ?_
 refine tk (nt (pt (as_ ?_)))
 refine wn (kk1 [6] ?_)
 refine C_ret (RX_q1 rfl rfl ?_)
 refine congrArg Value.bool ?_
 · first
    | exact (on_f (by omega)).symm
    | exact (on_t1 (by omega) hz3 hz6 (by assumption) (by assumption)).symm
    | exact (on_p (by omega) hz3 hz6 (.inl (by omega)) (by assumption)).symm
    | exact (on_p (by omega) hz3 hz6 (.inr (by assumption)) (by assumption)).symm
    | exact (on_n (by omega) hz3 hz6 (.inl (by omega)) (by assumption)).symm
    | exact (on_n (by omega) hz3 hz6 (.inr (by assumption)) (by assumption)).symm
 refine ps (ps (ps (ps ?_)))
 refine pf (as_ ?_)
 refine wn (kk1 [6] ?_)
 refine C_ret (RX_q1 rfl rfl ?_)
 refine congrArg Value.bool ?_
 · first
    | exact (on_f (by omega)).symm
    | exact (on_t1 (by omega) hz3 hz6 (by assumption) (by assumption)).symm
    | exact (on_p (by omega) hz3 hz6 (.inl (by omega)) (by assumption)).symm
    | exact (on_p (by omega) hz3 hz6 (.inr (by assumption)) (by assumption)).symm
    | exact (on_n (by omega) hz3 hz6 (.inl (by omega)) (by assumption)).symm
    | exact (on_n (by omega) hz3 hz6 (.inr (by assumption)) (by assumption)).symm
 refine ps (ps (ps (ps (ps ?_))))
 refine pf ?_
 refine wn (kk4 [6,7,8,31] ?_)
 refine cfz (sk (kk3 [6,7,8] (sq (rg ?_))))
 refine fb 0 T.fo51_0 (lb 1 T.ag3 ?_)
 refine W_quiet (rPure_q _) T.hb30 rfl rfl ?_
 refine nt (mv ?_)
 refine sp 36 ?_ ?_ <;> intro h12 <;> try simp only [tt] at h12
 refine tk (fb 0 T.fo51_0 ?_)
 refine tk (lb 0 T.ag3 ?_)
 refine tk ?_
 refine W_quiet (rPure_q _) T.hb30 rfl rfl ?_
 refine tk (nt (pt (as_ ?_)))
 refine wn (kk1 [6] ?_)
 refine C_ret (RX_q1 rfl rfl ?_)
 refine congrArg Value.bool ?_
 · first
    | exact (on_f (by omega)).symm
    | exact (on_t1 (by omega) hz3 hz6 (by assumption) (by assumption)).symm
    | exact (on_p (by omega) hz3 hz6 (.inl (by omega)) (by assumption)).symm
    | exact (on_p (by omega) hz3 hz6 (.inr (by assumption)) (by assumption)).symm
    | exact (on_n (by omega) hz3 hz6 (.inl (by omega)) (by assumption)).symm
    | exact (on_n (by omega) hz3 hz6 (.inr (by assumption)) (by assumption)).symm
 refine ps (ps (ps (ps ?_)))
 refine pf (as_ ?_)
 refine wn (kk1 [6] ?_)
 refine C_ret (RX_q1 rfl rfl ?_)
 refine congrArg Value.bool ?_
 · first
    | exact (on_f (by omega)).symm
    | exact (on_t1 (by omega) hz3 hz6 (by assumption) (by assumption)).symm
    | exact (on_p (by omega) hz3 hz6 (.inl (by omega)) (by assumption)).symm
    | exact (on_p (by omega) hz3 hz6 (.inr (by assumption)) (by assumption)).symm
    | exact (on_n (by omega) hz3 hz6 (.inl (by omega)) (by assumption)).symm
    | exact (on_n (by omega) hz3 hz6 (.inr (by assumption)) (by assumption)).symm
theorem rHangs_g {m : Imm} {es : List Value} {f : FFun} (hF : rFunc m es f) (block : Int) (at_ : Int) : Gives Tryz.prog 23 [.agg es.toArray, .int .i64 block, .int .i64 at_] m (fun m' v => ∃ A' c', v = .slice A' (HangsP f block at_).length c' ∧ Ints m' A' c' (HangsP f block at_)) := by
 have hF_0 := hF
 obtain ⟨A90, c90, B90, d90, rfl, hq90, hb90, i90a⟩ := hF_0
 have hbl := hb90.len
 refine gives_of Tryz.func23 rfl Tryz.ntmps23 rfl (fun w => ?_)
 refine sq (rg ?_)
 refine S_box (l := [_, _, _]) rfl rfl rfl (fun b1 => ?_)
 refine as_ ?_
 refine wn (kk4 [1,2,3,6] (sq (rg ?_)))
 refine as_ ?_
 refine wn (kk5 [1,2,3,6,7] (sq (sq (rg ?_))))
 refine W_q (r_loadbk 0 (vs := [_, _, _]) rfl T.ag25 T.sz25 rfl rfl rfl) rfl ?_
 refine mv ?_
 refine W_quiet (rR19_q hF _) T.hb27 rfl rfl ?_
 refine nt (mv ?_)
 refine sp 13 ?_ ?_ <;> intro h2 <;> try simp only [tt] at h2
 refine ps (ps ?_)
 refine pt (mv ?_)
 refine ps (ps (ps (ps (ps (ps (ps (ps (ps ?_))))))))
 refine pt ?_
 refine wn (kk6 [1,2,3,6,7,27] ?_)
 refine ctz (sq (rg ?_))
 refine as_ ?_
 refine wn (kk5 [1,2,3,6,7] ?_)
 · first
    | exact C_ret (RX_then (RX_g1 rfl rfl (ints_nil (HangsP_f (by assumption)))))
    | exact C_ret (RX_then (RX_g1 rfl rfl (ints_nil (HangsP_f1 (by omega)))))
    | exact C_ret (RX_then (RX_g1 rfl rfl (ints_nil (HangsP_f2 «hzb» (by omega)))))
 refine tk (mv ?_)
 refine tk (bl (pf (mv ?_)))
 refine sp 17 ?_ ?_ <;> intro h3 <;> try simp only [tt] at h3
 refine ps (ps (ps (ps (ps (ps (ps (ps (ps ?_))))))))
 refine pt ?_
 refine wn (kk6 [1,2,3,6,7,27] ?_)
 refine ctz (sq (rg ?_))
 refine as_ ?_
 refine wn (kk5 [1,2,3,6,7] ?_)
 · first
    | exact C_ret (RX_then (RX_g1 rfl rfl (ints_nil (HangsP_f (by assumption)))))
    | exact C_ret (RX_then (RX_g1 rfl rfl (ints_nil (HangsP_f1 (by omega)))))
    | exact C_ret (RX_then (RX_g1 rfl rfl (ints_nil (HangsP_f2 «hzb» (by omega)))))
 refine tk (mv ?_)
 refine tk (fb 2 T.fo25_2 ?_)
 refine tk (lb 0 T.ag23 ?_)
 refine tk (mv ?_)
 refine tk ?_
 obtain ⟨ad4, hA4⟩ := hb90.ad (j := block.toNat) (by have := right_block (f := f) (block := block) (by assumption); omega)
 obtain ⟨z4, hz4⟩ := hb90.getz (j := block.toNat) (by have := right_block (f := f) (block := block) (by assumption); omega)
 refine W_q (r_index hA4 Tryz.underlying23 T.sz44 rfl rfl ⟨by have := right_block (f := f) (block := block) (by assumption); omega, by have := right_block (f := f) (block := block) (by assumption); omega⟩) rfl ?_
 refine tk ?_
 have hol512 := (may_small (right_small (f := f) (block := block) (by assumption)) (List.mem_of_getElem? hz4)).1
 refine W_q (r_field rfl T.fo44_1) rfl ?_
 refine tk ?_
 obtain ⟨es5, f5, _, l5⟩ := Sl.get hb90 hA4 hz4
 obtain ⟨A5, c5, B5, d5, C5, e5, rfl, hp5, ho5, ht5, i5a, i5b⟩ := f5
 refine liz T.ag40 (l5 1 _ rfl) ?_
 refine tk (ln Tryz.underlying40 ?_)
 refine tk (bh (pf ?_))
 refine wn (kk6 [1,2,3,6,7,27] ?_)
 refine cd ?_ ?_ <;> intro h6 <;> try simp only [tt] at h6
 refine sq (rg ?_)
 refine as_ ?_
 refine wn (kk5 [1,2,3,6,7] ?_)
 · first
    | exact C_ret (RX_then (RX_g1 rfl rfl (ints_nil (HangsP_f (by assumption)))))
    | exact C_ret (RX_then (RX_g1 rfl rfl (ints_nil (HangsP_f1 (by omega)))))
    | exact C_ret (RX_then (RX_g1 rfl rfl (ints_nil (HangsP_f2 hz4 (by omega)))))
 refine sk (kk5 [1,2,3,6,7] (sq (sq (rg ?_))))
 refine as_ ?_
 refine wn (kk6 [1,2,3,6,7,8] (bk ?_))
 refine CW_nilRow 3 1 ?_
 refine C_loop (Option Nat × Nat × List Int) (at_.toNat) (fun k7 x7 => x7.2.2 = onF2 z4.ops at_.toNat k7 ∧ (0 < x7.2.2.length → ∃ b, x7.1 = some b)) (fun k7 x7 => [(7, slI x7.1 x7.2.1 x7.2.2), (8, .int .i64 (k7 : Int))]) (fun k7 x7 => [rowI 3 x7.1 x7.2.1 x7.2.2]) [7, 8] [1, 2, 3, 6] (F := [(1, _), (2, _), (3, _), (6, _)]) ((none, 0, [])) ⟨rfl, by simp⟩ rfl rfl rfl (fun k7 x7 hk7 hJ7 => ?_)
 obtain ⟨hx0, hgo⟩ := hJ7
 have hxl := onF2_len z4.ops at_.toNat k7
 rw [← hx0] at hxl
 refine jj6 [1,2,3,6,7,8] (sq (sq (rg ?_)))
 refine mv (mv (bl ?_))
 refine wn (kk7 [1,2,3,6,7,8,30] ?_)
 refine cd ?_ ?_ <;> intro h9 <;> try simp only [tt] at h9
 refine sk (kk6 [1,2,3,6,7,8] (sq (bk (sq (rg ?_)))))
 refine fb 2 T.fo25_2 (lb 1 T.ag23 (mv ?_))
 obtain ⟨ad10, hA10⟩ := hb90.ad (j := block.toNat) (by have := right_block (f := f) (block := block) (by assumption); omega)
 refine W_q (r_index hA10 Tryz.underlying23 T.sz44 rfl rfl ⟨by have := right_block (f := f) (block := block) (by assumption); omega, by have := right_block (f := f) (block := block) (by assumption); omega⟩) rfl ?_
 obtain ⟨es11, f11, _, l11⟩ := Sl.get hb90 hA10 hz4
 have F11 := f11
 obtain ⟨A11, c11, B11, d11, C11, e11, rfl, hp11, ho11, ht11, i11a, i11b⟩ := f11
 refine W_q (r_load_immk (vs := [_, _, _, _, _]) rfl T.ag44 T.sz44 l11) rfl ?_
 refine mv (mv ?_)
 refine W_quiet (known_q (rOn_q F11 at_ (k7 : Int) (by omega) (by omega) (by omega)) (show _ = hangB z4.ops at_.toNat k7 by simp only [Int.toNat_natCast])) T.hb28 rfl rfl ?_
 refine wn (kk7 [1,2,3,6,7,8,40] ?_)
 refine cd ?_ ?_ <;> intro h12 <;> try simp only [tt] at h12
 refine rg ?_
 refine mv (mv ?_)
 refine S_litr (vs := [_]) (cs := [_]) Tryz.underlying22 T.sz3 T.ze3 rfl rfl rfl rfl rfl rfl rfl (fun b13 => ?_)
 refine S_appendI (l := x7.2.2) (g1 := x7.1) [_] 1 rfl rfl rfl Tryz.underlying22 T.sz3 T.ze3 T.by3 rfl rfl (.row 0 rfl) (by simp only [List.length_cons, List.length_nil]; omega) rfl (fun g14 c14 hg14 => ?_)
 refine as_ ?_
 refine wn (nb (kk6 [1,2,3,6,7,8] (rg ?_)))
 refine mv ?_
 refine ad ?_
 refine as_ ?_
 refine wn ?_
 refine NX_rnd [7, 8, 1, 2, 3, 6] (by omega) ((_, _, _)) ?_ rfl (sub_drop 1 rfl) rfl (Imm.le_refl _)
 · first
    | exact ⟨by rw [hx0, onF2_succ, if_pos (by assumption)], hg14⟩
    | exact ⟨by rw [hx0, onF2_succ, if_neg (ne_true_of (by assumption)), List.append_nil], hgo⟩
 refine sk (nb (kk6 [1,2,3,6,7,8] (rg ?_)))
 refine mv ?_
 refine ad ?_
 refine as_ ?_
 refine wn ?_
 refine NX_rnd [7, 8, 1, 2, 3, 6] (by omega) ((_, _, _)) ?_ rfl (List.Sublist.refl _) rfl (Imm.le_refl _)
 · first
    | exact ⟨by rw [hx0, onF2_succ, if_pos (by assumption)], hg14⟩
    | exact ⟨by rw [hx0, onF2_succ, if_neg (ne_true_of (by assumption)), List.append_nil], hgo⟩
 refine C_exit (EX_then (EX_then (EX_hit (?_))))
 refine kk2 [6,7] (sq (rg ?_))
 refine mv (as_ ?_)
 refine wn (kk1 [6] ?_)
 have hkn : k7 = at_.toNat := by omega
 rw [hkn] at hx0
 refine C_ret (RX_know (k_rowI 0 rfl) (fun hr => ?_))
 refine RX_freeze 0 rfl (fun _ h => h) (fun mf lef hf => ?_)
 have hfin : Ints mf _ _ _ := Ints_frz hf hr.1 hr.2.1 (by omega) hr.2.2 (fun z hz => by rw [hx0] at hz; have := onF2_rng z hz; exact ⟨by omega, by omega⟩)
 exact RX_g1 rfl rfl (ints_is (by rw [hx0]; exact (hangs19 (by assumption) hz4 (by omega) (by omega)).symm) hfin)
theorem rLegal_q {m : Imm} {es : List Value} {f : FFun} (hF : rFunc m es f) (block : Int) {A : Option Addr} {c : Nat} {order : List Int} (h : Ints m A c order) : Quiet Tryz.prog 20 [.agg es.toArray, .int .i64 block, .slice A order.length c] m (.bool (LegalP f block order)) := by
 have hF_0 := hF
 obtain ⟨A90, c90, B90, d90, rfl, hq90, hb90, i90a⟩ := hF_0
 have hbl := hb90.len
 have hlen := h.len
 refine quiet_of Tryz.func20 rfl Tryz.ntmps20 rfl (fun w => ?_)
 refine sq (rg ?_)
 refine S_box (l := [_, _, _]) rfl rfl rfl (fun b1 => ?_)
 refine as_ ?_
 refine wn (kk4 [1,2,3,6] (sq (sq (rg ?_))))
 refine W_q (r_loadbk 0 (vs := [_, _, _]) rfl T.ag25 T.sz25 rfl rfl rfl) rfl ?_
 refine mv ?_
 refine W_quiet (rR19_q hF _) T.hb27 rfl rfl ?_
 refine nt (mv ?_)
 refine sp 14 ?_ ?_ <;> intro h2 <;> try simp only [tt] at h2
 refine ps (ps (ps (ps (ps (ps (ps (ps (ps (ps ?_)))))))))
 refine pt ?_
 refine wn (kk5 [1,2,3,6,25] ?_)
 refine ctz (sq (rg ?_))
 refine as_ ?_
 refine wn (kk4 [1,2,3,6] ?_)
 refine C_ret (RX_then (RX_q1 rfl rfl ?_))
 refine congrArg Value.bool ?_
 · first
    | exact (LegalP_f (by assumption)).symm
    | exact (legal19_len (by assumption) «hzb» (by omega)).symm
    | exact (legal19_has (by assumption) «hzb» (by omega) (j := «k0») (by omega) (by assumption)).symm
    | exact (legal19_on (by assumption) «hzb» hol (by omega) «hzx» «hzy» (by assumption)).symm
    | (have hJ1e := «J1»
       rw [show «k1» = order.length by omega] at hJ1e
       exact (legal19 (by assumption) «hzb» hol hJ0e hJ1e).symm)
 refine tk (mv ?_)
 refine tk (ln Tryz.underlying22 ?_)
 refine tk (fb 2 T.fo25_2 ?_)
 refine tk (lb 0 T.ag23 ?_)
 refine tk (mv ?_)
 refine tk ?_
 obtain ⟨ad3, hA3⟩ := hb90.ad (j := block.toNat) (by have := right_block (f := f) (block := block) (by assumption); omega)
 obtain ⟨z3, hz3⟩ := hb90.getz (j := block.toNat) (by have := right_block (f := f) (block := block) (by assumption); omega)
 refine W_q (r_index hA3 Tryz.underlying23 T.sz44 rfl rfl ⟨by have := right_block (f := f) (block := block) (by assumption); omega, by have := right_block (f := f) (block := block) (by assumption); omega⟩) rfl ?_
 refine tk ?_
 have hol512 := (may_small (right_small (f := f) (block := block) (by assumption)) (List.mem_of_getElem? hz3)).1
 refine W_q (r_field rfl T.fo44_1) rfl ?_
 refine tk ?_
 obtain ⟨es4, f4, _, l4⟩ := Sl.get hb90 hA3 hz3
 obtain ⟨A4, c4, B4, d4, C4, e4, rfl, hp4, ho4, ht4, i4a, i4b⟩ := f4
 refine liz T.ag40 (l4 1 _ rfl) ?_
 refine tk (ln Tryz.underlying40 ?_)
 refine tk (bn (pf ?_))
 refine wn (kk5 [1,2,3,6,25] ?_)
 refine cd ?_ ?_ <;> intro h5 <;> try simp only [tt] at h5
 refine sq (rg ?_)
 refine as_ ?_
 refine wn (kk4 [1,2,3,6] ?_)
 refine C_ret (RX_then (RX_q1 rfl rfl ?_))
 refine congrArg Value.bool ?_
 · first
    | exact (LegalP_f (by assumption)).symm
    | exact (legal19_len (by assumption) hz3 (by omega)).symm
    | exact (legal19_has (by assumption) hz3 (by omega) (j := «k0») (by omega) (by assumption)).symm
    | exact (legal19_on (by assumption) hz3 hol (by omega) «hzx» «hzy» (by assumption)).symm
    | (have hJ1e := «J1»
       rw [show «k1» = order.length by omega] at hJ1e
       exact (legal19 (by assumption) hz3 hol hJ0e hJ1e).symm)
 refine sk (kk4 [1,2,3,6] (sq (sq (rg ?_))))
 refine as_ ?_
 refine wn (kk5 [1,2,3,6,7] (bk ?_))
 refine C_loop (Unit) (order.length) (fun k6 x6 => ∀ j, j < k6 → order.contains (j : Int) = true) (fun k6 x6 => [(7, .int .i64 (k6 : Int))]) (fun _ _ => []) [7] [1, 2, 3] (F := [(1, _), (2, _), (3, _)]) (()) (by simp) rfl rfl rfl (fun k6 x6 hk6 hJ6 => ?_)
 refine jj4 [1,2,3,7] (sq (sq (rg ?_)))
 refine mv (mv (ln Tryz.underlying22 (bl ?_)))
 refine wn (kk5 [1,2,3,7,29] ?_)
 refine cd ?_ ?_ <;> intro h7 <;> try simp only [tt] at h7
 refine sk (kk4 [1,2,3,7] (sq (bk (sq (rg ?_)))))
 refine mv (mv ?_)
 refine W_quiet (rHas_q h _) T.hb51 rfl rfl ?_
 refine nt ?_
 refine wn (kk5 [1,2,3,7,35] ?_)
 refine cd ?_ ?_ <;> intro h8 <;> try simp only [tt] at h8
 refine sq (rg ?_)
 refine as_ ?_
 refine wn (kk5 [1,2,3,6,7] ?_)
 refine C_ret (RX_block (RX_then (RX_then (RX_block (RX_then (RX_q1 rfl rfl ?_))))))
 refine congrArg Value.bool ?_
 · first
    | exact (LegalP_f (by assumption)).symm
    | exact (legal19_len (by assumption) hz3 (by omega)).symm
    | exact (legal19_has (by assumption) hz3 (by omega) (j := k6) (by omega) (by assumption)).symm
    | exact (legal19_on (by assumption) hz3 hol (by omega) «hzx» «hzy» (by assumption)).symm
    | (have hJ1e := «J1»
       rw [show «k1» = order.length by omega] at hJ1e
       exact (legal19 (by assumption) hz3 hol hJ0e hJ1e).symm)
 refine sk (nb (kk4 [1,2,3,7] (rg ?_)))
 refine mv ?_
 refine ad ?_
 refine as_ ?_
 refine wn ?_
 refine NX_rnd [7, 1, 2, 3] (by omega) (()) ?_ rfl (List.Sublist.refl _) rfl (Imm.le_refl _)
 exact lt_succ_all hJ6 (by assumption)
 refine C_exit (EX_then (EX_then (EX_hit (?_))))
 refine kk3 [1,2,3] (sq (sq (rg ?_)))
 have hol : order.length = z3.ops.length := by omega
 have hJ0e := hJ6
 rw [show k6 = order.length by omega] at hJ0e
 have hrng := perm_rng hol hJ0e
 refine as_ ?_
 refine wn (kk4 [1,2,3,8] (bk ?_))
 refine C_loop (Unit) (order.length) (fun k9 x9 => ∀ i, i < k9 → ∀ q, i < q → q < order.length → ∀ x y, order[i]? = some x → order[q]? = some y → hangB z3.ops x.toNat y.toNat = false) (fun k9 x9 => [(8, .int .i64 (k9 : Int))]) (fun _ _ => []) [8] [1, 2, 3] (F := [(1, _), (2, _), (3, _)]) (()) (fun i hi => absurd hi (by omega)) rfl rfl rfl (fun k9 x9 hk9 hJ9 => ?_)
 refine jj4 [1,2,3,8] (sq (sq (rg ?_)))
 refine mv (mv (ln Tryz.underlying22 (bl ?_)))
 refine wn (kk5 [1,2,3,8,39] ?_)
 refine cd ?_ ?_ <;> intro h10 <;> try simp only [tt] at h10
 refine sk (kk4 [1,2,3,8] (sq (bk (sq (rg ?_)))))
 refine mv ?_
 refine ad ?_
 refine as_ ?_
 refine wn (kk5 [1,2,3,8,9] (bk ?_))
 refine C_loop (Unit) ((order.length - (k9 + 1))) (fun k11 x11 => ∀ q, k9 < q → q < k9 + 1 + k11 → ∀ x y, order[k9]? = some x → order[q]? = some y → hangB z3.ops x.toNat y.toNat = false) (fun k11 x11 => [(9, .int .i64 ((k9 + 1 + k11 : Nat) : Int))]) (fun _ _ => []) [9] [1, 2, 3, 8] (F := [(1, _), (2, _), (3, _), (8, _)]) (()) (fun q h1 h2 => absurd h2 (by omega)) rfl rfl rfl (fun k11 x11 hk11 hJ11 => ?_)
 refine jj5 [1,2,3,8,9] (sq (sq (rg ?_)))
 refine mv (mv (ln Tryz.underlying22 (bl ?_)))
 refine wn (kk6 [1,2,3,8,9,47] ?_)
 refine cd ?_ ?_ <;> intro h12 <;> try simp only [tt] at h12
 refine sk (kk5 [1,2,3,8,9] (sq (bk (sq ?_))))
 refine C_drawn [(0, true), (1, true), (2, true), (3, true), (4, true), (5, true), (6, true), (7, true), (8, true), (9, true), (10, true), (11, true), (12, true), (13, true)] (by kernel_rfl) rfl (by kernel_rfl) (by kernel_rfl) ?_
 refine dfb 2 T.fo25_2 ?_
 refine dlb 0 T.ag23 ?_
 refine dmv ?_
 obtain ⟨ad13, hA13⟩ := hb90.ad (j := block.toNat) (by have := right_block (f := f) (block := block) (by assumption); omega)
 refine D_q rfl (r_index hA13 Tryz.underlying23 T.sz44 rfl rfl ⟨by have := right_block (f := f) (block := block) (by assumption); omega, by have := right_block (f := f) (block := block) (by assumption); omega⟩) rfl ?_
 obtain ⟨es14, f14, _, l14⟩ := Sl.get hb90 hA13 hz3
 have F14 := f14
 obtain ⟨A14, c14, B14, d14, C14, e14, rfl, hp14, ho14, ht14, i14a, i14b⟩ := f14
 refine D_q rfl (r_load_immk (vs := [_, _, _, _, _]) rfl T.ag44 T.sz44 l14) rfl ?_
 refine dmv ?_
 refine dmv ?_
 obtain ⟨ad15, hA15⟩ := h.ad (j := k9) (by omega)
 obtain ⟨z15, hz15⟩ := h.getz (j := k9) (by omega)
 refine D_q rfl (r_index hA15 Tryz.underlying22 T.sz3 rfl rfl ⟨by omega, by omega⟩) rfl ?_
 obtain ⟨l16, r16⟩ := Sl.getI h hA15 hz15
 refine D_q rfl (r_load_imm rfl T.ag3 l16) rfl ?_
 refine dmv ?_
 refine dmv ?_
 obtain ⟨ad17, hA17⟩ := h.ad (j := k9 + 1 + k11) (by omega)
 obtain ⟨z17, hz17⟩ := h.getz (j := k9 + 1 + k11) (by omega)
 refine D_q rfl (r_index hA17 Tryz.underlying22 T.sz3 rfl rfl ⟨by omega, by omega⟩) rfl ?_
 obtain ⟨l18, r18⟩ := Sl.getI h hA17 hz17
 refine D_q rfl (r_load_imm rfl T.ag3 l18) rfl ?_
 refine D_quiet rfl (known_q (rOn_q F14 z15 z17 (hrng _ (List.mem_of_getElem? hz15)).1 (hrng _ (List.mem_of_getElem? hz15)).2 (hrng _ (List.mem_of_getElem? hz17)).1) (show _ = hangB z3.ops z15.toNat z17.toNat by rfl)) T.hb28 rfl rfl ?_
 refine D_end ?_
 refine kk6 [1,2,3,8,9,63] ?_
 refine cd ?_ ?_ <;> intro h19 <;> try simp only [tt] at h19
 refine sq (rg ?_)
 refine as_ ?_
 refine wn (kk6 [1,2,3,6,8,9] ?_)
 refine C_ret (RX_block (RX_then (RX_then (RX_block (RX_block (RX_then (RX_then (RX_block (RX_then (RX_q1 rfl rfl ?_))))))))))
 refine congrArg Value.bool ?_
 · first
    | exact (LegalP_f (by assumption)).symm
    | exact (legal19_len (by assumption) hz3 (by omega)).symm
    | exact (legal19_has (by assumption) hz3 (by omega) (j := k6) (by omega) (by assumption)).symm
    | exact (legal19_on (by assumption) hz3 hol (by omega) hz15 hz17 (by assumption)).symm
    | (have hJ1e := hJ9
       rw [show k9 = order.length by omega] at hJ1e
       exact (legal19 (by assumption) hz3 hol hJ0e hJ1e).symm)
 refine sk (nb (kk5 [1,2,3,8,9] (rg ?_)))
 refine mv ?_
 refine W_q (r_add rfl rfl (by constructor <;> omega)) rfl ?_
 refine as_ ?_
 refine wn ?_
 refine NX_rnd [9, 1, 2, 3, 8] (by omega) (()) ?_ rfl (List.Sublist.refl _) rfl (Imm.le_refl _)
 intro q h1 h2 x y hx hy
 by_cases e : q = k9 + 1 + k11
 · subst e; rw [hz15] at hx; cases hx; rw [hz17] at hy; cases hy; assumption
 · exact hJ11 q h1 (by omega) x y hx hy
 refine C_exit (EX_then (EX_then (EX_hit (?_))))
 refine nb (kk4 [1,2,3,8] (rg ?_))
 refine mv ?_
 refine ad ?_
 refine as_ ?_
 refine wn ?_
 refine NX_rnd [8, 1, 2, 3] (by omega) (()) ?_ rfl (List.Sublist.refl _) rfl (Imm.le_refl _)
 exact lt_succ_all hJ9 (fun q h1 h2 x y hx hy => hJ11 q h1 (by omega) x y hx hy)
 refine C_exit (EX_then (EX_then (EX_hit (?_))))
 refine kk0 [] (sq (rg ?_))
 refine as_ ?_
 refine wn (kk1 [6] ?_)
 refine C_ret (RX_q1 rfl rfl ?_)
 refine congrArg Value.bool ?_
 · first
    | exact (LegalP_f (by assumption)).symm
    | exact (legal19_len (by assumption) hz3 (by omega)).symm
    | exact (legal19_has (by assumption) hz3 (by omega) (j := k6) (by omega) (by assumption)).symm
    | exact (legal19_on (by assumption) hz3 hol (by omega) hz15 hz17 (by assumption)).symm
    | (have hJ1e := hJ9
       rw [show k9 = order.length by omega] at hJ1e
       exact (legal19 (by assumption) hz3 hol hJ0e hJ1e).symm)
namespace T
theorem hb20 : hasBody Tryz.prog 20 = true := by kernel_rfl
end T
theorem getDo {l : List FOp} {k : Nat} {z d : FOp} (h : l[k]? = some z) : l.getD k d = z := by simp [List.getD, h]
theorem BestSt.lo {ops : List FOp} {out : List Int} {n : Nat} {best : Int} (h : BestSt ops out n best) : best = -1 ∨ (0 ≤ best ∧ best.toNat < n) := by
  by_cases hb : best = -1
  · exact .inl hb
  · exact .inr ⟨(h.some_ hb).1, (h.some_ hb).2.1⟩
section
variable {x p q : Bool}
theorem rs_f (h : x = false) : false = (x && (!p || q)) := by rw [h]; rfl
theorem rs_h (h : x = true) (hp : p = false) : true = (x && (!p || q)) := by rw [h, hp]; rfl
theorem rs_c (h : x = true) (hp : p = true) : q = (x && (!p || q)) := by rw [h, hp]; rfl
end
theorem rFlat_g {m : Imm} {es : List Value} {f : FFun} (hF : rFunc m es f) (block : Int)  : Gives Tryz.prog 25 [.agg es.toArray, .int .i64 block] m (fun m' v => ∃ A' c', v = .slice A' (FlatP f block).length c' ∧ Ints m' A' c' (FlatP f block)) := by
 have hF_0 := hF
 obtain ⟨A90, c90, B90, d90, rfl, hq90, hb90, i90a⟩ := hF_0
 have hbl := hb90.len
 refine gives_of Tryz.func25 rfl Tryz.ntmps25 rfl (fun w => ?_)
 refine sq (rg ?_)
 refine S_box (l := [_, _, _]) rfl rfl rfl (fun b1 => ?_)
 refine as_ ?_
 refine wn (kk3 [1,2,4] (sq (rg ?_)))
 refine as_ ?_
 refine wn (kk4 [1,2,4,5] (sq (sq (rg ?_))))
 refine W_q (r_loadbk 0 (vs := [_, _, _]) rfl T.ag25 T.sz25 rfl rfl rfl) rfl ?_
 refine mv ?_
 refine W_quiet (rR19_q hF _) T.hb27 rfl rfl ?_
 refine nt ?_
 refine wn (kk5 [1,2,4,5,14] ?_)
 refine cd ?_ ?_ <;> intro h2 <;> try simp only [tt] at h2
 refine sq (rg ?_)
 refine as_ ?_
 refine wn (kk4 [1,2,4,5] ?_)
 exact C_ret (RX_then (RX_g1 rfl rfl (ints_nil (FlatP_f (by assumption)))))
 refine sk (kk4 [1,2,4,5] (sq (rg ?_)))
 refine fb 2 T.fo25_2 (lb 0 T.ag23 (mv ?_))
 obtain ⟨ad3, hA3⟩ := hb90.ad (j := block.toNat) (by have := right_block (f := f) (block := block) (by assumption); omega)
 obtain ⟨z3, hz3⟩ := hb90.getz (j := block.toNat) (by have := right_block (f := f) (block := block) (by assumption); omega)
 refine W_q (r_index hA3 Tryz.underlying23 T.sz44 rfl rfl ⟨by have := right_block (f := f) (block := block) (by assumption); omega, by have := right_block (f := f) (block := block) (by assumption); omega⟩) rfl ?_
 have hol512 := (may_small (right_small (f := f) (block := block) (by assumption)) (List.mem_of_getElem? hz3)).1
 obtain ⟨es4, f4, _, l4⟩ := Sl.get hb90 hA3 hz3
 have F4 := f4
 obtain ⟨A4, c4, B4, d4, C4, e4, rfl, hp4, ho4, ht4, i4a, i4b⟩ := f4
 refine W_q (r_load_immk (vs := [_, _, _, _, _]) rfl T.ag44 T.sz44 l4) rfl ?_
 refine sa5 T.ze44 (fun b5 => ?_)
 refine sb5 0 T.sz44 ?_
 refine wn (kk3 [4,5,6] (sq (bk ?_)))
 refine CW_nilRow 3 1 ?_
 refine C_loop (Option Nat × Nat × List Int) (z3.ops.length) (fun k6 x6 => FlatR z3.ops x6.2.2 ∧ x6.2.2.length = k6 ∧ (0 < x6.2.2.length → ∃ b, x6.1 = some b)) (fun k6 x6 => [(5, slI x6.1 x6.2.1 x6.2.2)]) (fun k6 x6 => [rowI 3 x6.1 x6.2.1 x6.2.2]) [5] [4, 6] (F := [(4, _), (6, _)]) ((none, 0, [])) ⟨flatR_init _, rfl, by simp⟩ rfl rfl rfl (fun k6 x6 hk6 hJ6 => ?_)
 obtain ⟨hfr, hxl, hgo⟩ := hJ6
 have hri := hfr.leg.rng
 have hfl := hfr.len
 refine jj3 [4,5,6] (sq (sq (rg ?_)))
 refine mv (ln Tryz.underlying22 (fb 1 T.fo44_1 (lb 1 T.ag40 (ln Tryz.underlying40 (bl ?_)))))
 refine wn (kk4 [4,5,6,25] ?_)
 refine cd ?_ ?_ <;> intro h8 <;> try simp only [tt] at h8
 refine sk (kk3 [4,5,6] (bk (sq (rg ?_))))
 refine as_ ?_
 refine wn (kk4 [4,5,6,7] (sq (sq (rg ?_))))
 refine as_ ?_
 refine wn (kk5 [4,5,6,7,8] (bk ?_))
 refine C_loop (Int) (z3.ops.length) (fun k9 x9 => BestSt z3.ops x6.2.2 k9 x9) (fun k9 x9 => [(7, .int .i64 x9), (8, .int .i64 (k9 : Int))]) (fun _ _ => []) [7, 8] [4, 5, 6] (F := [(4, _), (5, _), (6, _)]) (_) (bestSt_init _ _) rfl rfl rfl (fun k9 x9 hk9 hJ9 => ?_)
 have hbx := hJ9.lo
 refine jj5 [4,5,6,7,8] (sq (sq (rg ?_)))
 refine mv (fb 1 T.fo44_1 (lb 1 T.ag40 (ln Tryz.underlying40 (bl ?_))))
 refine wn (kk6 [4,5,6,7,8,30] ?_)
 refine cd ?_ ?_ <;> intro h10 <;> try simp only [tt] at h10
 refine sk (kk5 [4,5,6,7,8] (sq (bk (sq (rg ?_)))))
 refine mv (mv ?_)
 refine W_q (r_quietI1 0 rfl (fun z hz => by have := hri z hz; exact ⟨by omega, by omega⟩) (by omega) (fun m1 le1 a1 => rHas_q a1 _) T.hb51 rfl) rfl ?_
 refine nt (as_ ?_)
 refine wn (kk6 [4,5,6,7,8,9] (sq (sq (rg ?_))))
 refine as_ ?_
 refine wn (kk7 [4,5,6,7,8,9,10] (bk ?_))
 refine C_loop (Bool) (k9) (fun k11 x11 => x11 = (!(x6.2.2.contains (k9 : Int)) && (List.range k11).all fun q => !(hangB z3.ops k9 q) || x6.2.2.contains (q : Int))) (fun k11 x11 => [(9, .bool x11), (10, .int .i64 (k11 : Int))]) (fun _ _ => []) [9, 10] [4, 5, 6, 7, 8] (F := [(4, _), (5, _), (6, _), (7, _), (8, _)]) (_) (by simp) rfl rfl rfl (fun k11 x11 hk11 hJ11 => ?_)
 refine jj7 [4,5,6,7,8,9,10] (sq (sq (rg ?_)))
 refine mv (mv (bl ?_))
 refine wn (kk8 [4,5,6,7,8,9,10,39] ?_)
 refine cd ?_ ?_ <;> intro h12 <;> try simp only [tt] at h12
 refine sk (kk7 [4,5,6,7,8,9,10] (sq (bk (rg ?_))))
 refine mv (mv ?_)
 refine sp 43 ?_ ?_ <;> intro h13 <;> try simp only [tt] at h13
 refine tk ?_
 refine W_q (r_loadbk 1 (vs := [_, _, _, _, _]) rfl T.ag44 T.sz44 rfl rfl rfl) rfl ?_
 refine tk (mv ?_)
 refine tk (mv ?_)
 refine tk ?_
 refine W_quiet (known_q (rOn_q F4 (k9 : Int) (k11 : Int) (by omega) (by omega) (by omega)) (show _ = hangB z3.ops k9 k11 by simp only [Int.toNat_natCast])) T.hb28 rfl rfl ?_
 refine tk (nt ?_)
 refine tk (mv ?_)
 refine sp 49 ?_ ?_ <;> intro h14 <;> try simp only [tt] at h14
 refine ps (ps (ps (tk (pt (pt (as_ ?_))))))
 refine wn (nb (kk7 [4,5,6,7,8,9,10] (rg ?_)))
 refine mv ?_
 refine ad ?_
 refine as_ ?_
 refine wn ?_
 refine NX_rnd [9, 10, 4, 5, 6, 7, 8] (by omega) (_) ?_ rfl (List.Sublist.refl _) rfl (Imm.le_refl _)
 · first
    | exact ready_step hJ11 (rs_f (by assumption))
    | exact ready_step hJ11 (rs_h (by assumption) (by assumption))
    | exact ready_step hJ11 (rs_c (by assumption) (by assumption))
 refine tk (mv ?_)
 refine tk (mv ?_)
 refine tk ?_
 refine W_q (r_quietI1 0 rfl (fun z hz => by have := hri z hz; exact ⟨by omega, by omega⟩) (by omega) (fun m1 le1 a1 => rHas_q a1 _) T.hb51 rfl) rfl ?_
 refine tk (pf (pt (as_ ?_)))
 refine wn (nb (kk7 [4,5,6,7,8,9,10] (rg ?_)))
 refine mv ?_
 refine ad ?_
 refine as_ ?_
 refine wn ?_
 refine NX_rnd [9, 10, 4, 5, 6, 7, 8] (by omega) (_) ?_ rfl (List.Sublist.refl _) rfl (Imm.le_refl _)
 · first
    | exact ready_step hJ11 (rs_f (by assumption))
    | exact ready_step hJ11 (rs_h (by assumption) (by assumption))
    | exact ready_step hJ11 (rs_c (by assumption) (by assumption))
 refine ps (ps (ps (ps (ps (ps (puz (puz (puz (ps ?_)))))))))
 refine pf (as_ ?_)
 refine wn (nb (kk7 [4,5,6,7,8,9,10] (rg ?_)))
 refine mv ?_
 refine ad ?_
 refine as_ ?_
 refine wn ?_
 refine NX_rnd [9, 10, 4, 5, 6, 7, 8] (by omega) (_) ?_ rfl (List.Sublist.refl _) rfl (Imm.le_refl _)
 · first
    | exact ready_step hJ11 (rs_f (by assumption))
    | exact ready_step hJ11 (rs_h (by assumption) (by assumption))
    | exact ready_step hJ11 (rs_c (by assumption) (by assumption))
 refine C_exit (EX_then (EX_then (EX_hit (?_))))
 refine kk6 [4,5,6,7,8,9] (sq (rg ?_))
 refine mv (mv ?_)
 refine sp 56 ?_ ?_ <;> intro h15 <;> try simp only [tt] at h15
 refine tk (mv ?_)
 refine tk (bl ?_)
 refine tk (mv ?_)
 refine sp 59 ?_ ?_ <;> intro h16 <;> try simp only [tt] at h16
 refine ps (ps (ps (ps (ps (ps (ps (ps (puz (puz (puz (puz (puz (puz (puz (puz (ps (tk (pt (pt ?_)))))))))))))))))))
 refine wn (kk6 [4,5,6,7,8,78] ?_)
 refine ctz (rg ?_)
 refine mv (as_ ?_)
 refine wn (nb (kk5 [4,5,6,7,8] (rg ?_)))
 refine mv ?_
 refine ad ?_
 refine as_ ?_
 refine wn ?_
 refine NX_rnd [7, 8, 4, 5, 6] (by omega) (_) ?_ rfl (List.Sublist.refl _) rfl (Imm.le_refl _)
 have hJr := hJ11
 rw [show k11 = k9 by omega] at hJr
 · first
    | exact hJ9.skip (hJr.symm.trans (by assumption))
    | exact hJ9.put (hJr.symm.trans (by assumption)) (.inl (by omega))
    | exact hJ9.put (hJr.symm.trans (by assumption)) (.inr ⟨by rw [getDo «hza»]; assumption, by rw [getDo «hzc»]; assumption⟩)
    | exact hJ9.keep (by omega) (.inl (by rw [getDo «hza»]; assumption))
    | exact hJ9.keep (by omega) (.inr (by rw [getDo «hzc»]; assumption))
 refine tk (fb 1 T.fo44_1 ?_)
 refine tk (lb 1 T.ag40 ?_)
 refine tk (mv ?_)
 refine tk ?_
 obtain ⟨ad17, hA17⟩ := ho4.ad (j := k9) (by omega)
 obtain ⟨z17, hz17⟩ := ho4.getz (j := k9) (by omega)
 refine ixz hA17 Tryz.underlying40 T.sz51 ?_
 refine tk ?_
 refine W_q (r_field rfl T.fo51_0) rfl ?_
 refine tk ?_
 obtain ⟨es18, f18, _, l18⟩ := Sl.get ho4 hA17 hz17
 obtain ⟨A18, c18, rfl, h18, i18a, i18b, i18c, i18d, i18e⟩ := f18
 refine liz T.ag3 (l18 0 _ rfl) ?_
 refine tk ?_
 refine W_quiet (rPure_q _) T.hb30 rfl rfl ?_
 refine tk (mv ?_)
 refine sp 67 ?_ ?_ <;> intro h19 <;> try simp only [tt] at h19
 refine tk (fb 1 T.fo44_1 ?_)
 refine tk (lb 1 T.ag40 ?_)
 refine tk (mv ?_)
 refine tk ?_
 obtain ⟨ad20, hA20⟩ := ho4.ad (j := x9.toNat) (by omega)
 obtain ⟨z20, hz20⟩ := ho4.getz (j := x9.toNat) (by omega)
 refine ixz hA20 Tryz.underlying40 T.sz51 ?_
 refine tk ?_
 refine W_q (r_field rfl T.fo51_0) rfl ?_
 refine tk ?_
 obtain ⟨es21, f21, _, l21⟩ := Sl.get ho4 hA20 hz20
 obtain ⟨A21, c21, rfl, h21, i21a, i21b, i21c, i21d, i21e⟩ := f21
 refine liz T.ag3 (l21 0 _ rfl) ?_
 refine tk ?_
 refine W_quiet (rPure_q _) T.hb30 rfl rfl ?_
 refine tk (nt ?_)
 refine tk (pt ?_)
 refine tk (pf (pt ?_))
 refine wn (kk6 [4,5,6,7,8,78] ?_)
 refine cd ?_ ?_ <;> intro h22 <;> try simp only [tt] at h22
 refine rg ?_
 refine mv (as_ ?_)
 refine wn (nb (kk5 [4,5,6,7,8] (rg ?_)))
 refine mv ?_
 refine ad ?_
 refine as_ ?_
 refine wn ?_
 refine NX_rnd [7, 8, 4, 5, 6] (by omega) (_) ?_ rfl (List.Sublist.refl _) rfl (Imm.le_refl _)
 have hJr := hJ11
 rw [show k11 = k9 by omega] at hJr
 · first
    | exact hJ9.skip (hJr.symm.trans (by assumption))
    | exact hJ9.put (hJr.symm.trans (by assumption)) (.inl (by omega))
    | exact hJ9.put (hJr.symm.trans (by assumption)) (.inr ⟨by rw [getDo hz17]; assumption, by rw [getDo hz20]; assumption⟩)
    | exact hJ9.keep (by omega) (.inl (by rw [getDo hz17]; assumption))
    | exact hJ9.keep (by omega) (.inr (by rw [getDo hz20]; assumption))
 refine sk (nb (kk5 [4,5,6,7,8] (rg ?_)))
 refine mv ?_
 refine ad ?_
 refine as_ ?_
 refine wn ?_
 refine NX_rnd [7, 8, 4, 5, 6] (by omega) (_) ?_ rfl (List.Sublist.refl _) rfl (Imm.le_refl _)
 have hJr := hJ11
 rw [show k11 = k9 by omega] at hJr
 · first
    | exact hJ9.skip (hJr.symm.trans (by assumption))
    | exact hJ9.put (hJr.symm.trans (by assumption)) (.inl (by omega))
    | exact hJ9.put (hJr.symm.trans (by assumption)) (.inr ⟨by rw [getDo hz17]; assumption, by rw [getDo hz20]; assumption⟩)
    | exact hJ9.keep (by omega) (.inl (by rw [getDo hz17]; assumption))
    | exact hJ9.keep (by omega) (.inr (by rw [getDo hz20]; assumption))
 refine ps (ps (ps (ps (ps (ps (ps (ps (tk (pf ?_)))))))))
 refine tk (pf (pt ?_))
 refine wn (kk6 [4,5,6,7,8,78] ?_)
 refine cfz (sk (nb (kk5 [4,5,6,7,8] (rg ?_))))
 refine mv ?_
 refine ad ?_
 refine as_ ?_
 refine wn ?_
 refine NX_rnd [7, 8, 4, 5, 6] (by omega) (_) ?_ rfl (List.Sublist.refl _) rfl (Imm.le_refl _)
 have hJr := hJ11
 rw [show k11 = k9 by omega] at hJr
 · first
    | exact hJ9.skip (hJr.symm.trans (by assumption))
    | exact hJ9.put (hJr.symm.trans (by assumption)) (.inl (by omega))
    | exact hJ9.put (hJr.symm.trans (by assumption)) (.inr ⟨by rw [getDo hz17]; assumption, by rw [getDo hz20]; assumption⟩)
    | exact hJ9.keep (by omega) (.inl (by rw [getDo hz17]; assumption))
    | exact hJ9.keep (by omega) (.inr (by rw [getDo hz20]; assumption))
 refine ps (ps (ps (puz (puz (puz (puz (puz (puz (puz (puz (puz (puz (puz (puz (puz (puz (puz (puz (puz (ps ?_))))))))))))))))))))
 refine pf ?_
 refine wn (kk6 [4,5,6,7,8,78] ?_)
 refine cfz (sk (nb (kk5 [4,5,6,7,8] (rg ?_))))
 refine mv ?_
 refine ad ?_
 refine as_ ?_
 refine wn ?_
 refine NX_rnd [7, 8, 4, 5, 6] (by omega) (_) ?_ rfl (List.Sublist.refl _) rfl (Imm.le_refl _)
 have hJr := hJ11
 rw [show k11 = k9 by omega] at hJr
 · first
    | exact hJ9.skip (hJr.symm.trans (by assumption))
    | exact hJ9.put (hJr.symm.trans (by assumption)) (.inl (by omega))
    | exact hJ9.put (hJr.symm.trans (by assumption)) (.inr ⟨by rw [getDo hz17]; assumption, by rw [getDo hz20]; assumption⟩)
    | exact hJ9.keep (by omega) (.inl (by rw [getDo hz17]; assumption))
    | exact hJ9.keep (by omega) (.inr (by rw [getDo hz20]; assumption))
 refine C_exit (EX_then (EX_then (EX_hit (?_))))
 refine kk4 [4,5,6,7] (rg ?_)
 refine mv (mv ?_)
 refine S_litr (vs := [_]) (cs := [_]) Tryz.underlying22 T.sz3 T.ze3 rfl rfl rfl rfl rfl rfl rfl (fun b23 => ?_)
 refine S_appendI (l := x6.2.2) (g1 := x6.1) [_] 1 rfl rfl rfl Tryz.underlying22 T.sz3 T.ze3 T.by3 rfl rfl (.row 0 rfl) (by simp only [List.length_cons, List.length_nil]; omega) rfl (fun g24 c24 hg24 => ?_)
 refine as_ ?_
 refine wn (nb (?_))
 refine NX_rnd [5, 4, 6] (by omega) ((_, _, _)) ?_ rfl (sub_drop 1 rfl) rfl (Imm.le_refl _)
 have hk1 : k9 = z3.ops.length := by omega
 have hbs := hJ9
 rw [hk1] at hbs
 exact ⟨hfr.step (by assumption) hz3 hbs (by omega), by rw [List.length_append, hxl]; rfl, hg24⟩
 refine C_exit (EX_then (EX_then (EX_hit (?_))))
 refine kk2 [4,5] (sq (rg ?_))
 refine mv (as_ ?_)
 refine wn (kk1 [4] ?_)
 refine C_ret (RX_know (k_rowI 0 rfl) (fun hr => ?_))
 refine RX_freeze 0 rfl (fun _ h => h) (fun mf lef hf => ?_)
 have hfin : Ints mf _ _ _ := Ints_frz hf hr.1 hr.2.1 (by omega) hr.2.2 (fun z hz => by have := hri z hz; exact ⟨by omega, by omega⟩)
 exact RX_g1 rfl rfl (ints_is (by rw [FlatP_t (by assumption) hz3, FlatR.done hfr (by omega)]) hfin)
theorem rPut_g {m : Imm} {es : List Value} {f : FFun} (hF : rFunc m es f) (block : Int) {A : Option Addr} {c : Nat} {order : List Int} (h : Ints m A c order) : Gives Tryz.prog 17 [.agg es.toArray, .int .i64 block, .slice A order.length c] m (PutΦ f block order) := by
 have hF_0 := hF
 obtain ⟨A90, c90, B90, d90, rfl, hq90, hb90, i90a⟩ := hF_0
 have hbl := hb90.len
 have hlen := h.len
 refine gives_of Tryz.func17 rfl Tryz.ntmps17 rfl (fun w => ?_)
 refine sq (rg ?_)
 refine S_box (l := [_, _, _]) rfl rfl rfl (fun b1 => ?_)
 refine sa3 T.ze25 (fun b2 => ?_)
 refine as_ ?_
 refine wn (kk5 [1,2,3,6,7] (sq (sq (rg ?_))))
 refine W_q (r_loadbk 1 (vs := [_, _, _]) rfl T.ag25 T.sz25 rfl rfl rfl) rfl ?_
 refine mv (mv ?_)
 refine W_quiet (rLegal_q hF _ h) T.hb20 rfl rfl ?_
 refine nt ?_
 refine wn (kk6 [1,2,3,6,7,14] ?_)
 refine cd ?_ ?_ <;> intro h3 <;> try simp only [tt] at h3
 refine sq (rg ?_)
 refine W_q (r_builds (cs := [_, _, _]) T.bl25 rfl rfl) rfl ?_
 refine sb3 0 T.sz25 ?_
 refine as_ ?_
 refine wn (kk5 [1,2,3,6,7] ?_)
 exact C_ret (RX_then (RX_gR (res_ct 0 rfl rfl rfl T.ag25 T.sz25 rfl) (.inr ⟨by assumption, rfl⟩)))
 refine sk (kk5 [1,2,3,6,7] ?_)
 refine CW_cut (Nat × Nat × Nat × List Value) (fun x4 => m) (fun x4 => [row (some x4.2.1) f.blocks.length x4.2.2.1 44 5 x4.2.2.2, bx x4.1 25 [.slice A90 f.params.length c90, .int .i64 f.ret, .slice (some ⟨x4.2.1, 0, none⟩) f.blocks.length x4.2.2.1], bx b2 25 [.slice none 0 0, .int .i64 0, .slice none 0 0], bx b1 25 [.slice A90 f.params.length c90, .int .i64 f.ret, .slice B90 f.blocks.length d90]]) (fun x4 => [(1, .int .i64 block), (2, .slice A order.length c), (3, .pointer (some ⟨b1, 0, none⟩)), (6, .pointer (some ⟨b2, 0, none⟩)), (7, .int .i64 0), (8, .pointer (some ⟨x4.1, 0, none⟩))]) (fun x4 => SRows rBlock 5 m x4.2.2.2 f.blocks) ?_ (fun x4 hC4 => ?_)
 refine C_drawnA 0 11 rfl (by kernel_rfl) (by kernel_rfl) ?_
 obtain ⟨hrt, bo, hbo, hlg⟩ := LegalP_ex (f := f) (block := block) (order := order) (by assumption)
 have hrb := right_block hrt
 obtain ⟨hol, hal, _⟩ := may_small (right_small hrt) (List.mem_of_getElem? hbo)
 have holen := legalP_len hlg
 have horg := legalP_rng hlg
 have hbl64 : f.blocks.length ≤ 64 := by have h := right_small hrt; simp only [mayF, Bool.and_eq_true, Bool.not_eq_true', Bool.or_eq_false_iff, decide_eq_false_iff_not] at h; omega
 obtain ⟨ad, hAd⟩ := hb90.ad (j := 0) (by omega)
 obtain ⟨ys, hy1, hy2, hy3⟩ := SRows.of_sl hb90 hAd one_block
 subst hAd
 refine A_q (i := 0) (by kernel_rfl) rfl (r_fieldb (o' := 0) rfl T.fo25_0 rfl) rfl ?_
 refine A_q (i := 1) (by kernel_rfl) rfl (r_loadb 1 rfl T.ag22 rfl rfl) rfl ?_
 refine A_q (i := 2) (by kernel_rfl) rfl (r_fieldb (o' := 1) rfl T.fo25_1 rfl) rfl ?_
 refine A_q (i := 3) (by kernel_rfl) rfl (r_loadb 1 rfl T.ag3 rfl rfl) rfl ?_
 refine A_q (i := 5) (by kernel_rfl) rfl (r_fieldb (o' := 2) rfl T.fo25_2 rfl) rfl ?_
 refine A_q (i := 6) (by kernel_rfl) rfl (r_loadb 1 rfl T.ag23 rfl rfl) rfl ?_
 refine A_two (i := 4) (j := 9) (by kernel_rfl) rfl rfl (fun hs5 => ?_) (fun hs5 => ?_)
 refine S_litr (vs := []) (cs := []) Tryz.underlying23 T.sz44 T.ze44 rfl rfl rfl rfl rfl rfl rfl (fun b6 => ?_)
 refine alz hs5 1 ?_
 refine A_two (i := 7) (j := 9) (by kernel_rfl) rfl rfl (fun hs7 => ?_) (fun hs7 => ?_)
 refine S_appendG (g1 := (some b6)) ys 0 rfl rfl rfl Tryz.underlying23 T.sz44 T.ze44 T.by44 rfl rfl hy1.len (Src.of_cells hy3) hy2 (by omega) (by unfold maxLen; omega) rfl (fun g8 c8 hg8 => ?_)
 simp only [Nat.zero_add, List.nil_append] at hg8 ⊢
 refine alz hs7 1 ?_
 refine A_q (i := 8) (by kernel_rfl) rfl (r_builds (cs := [_, _, _]) T.bl25 rfl rfl) rfl ?_
 refine aoz 9 (fun hs9 => ?_)
 refine sa3 T.ze25 (fun b10 => ?_)
 refine alz hs9 2 ?_
 refine aoz 10 (fun hs11 => ?_)
 refine sb3 0 T.sz25 ?_
 refine alz hs11 2 ?_
 refine A_end (by kernel_rfl) ?_
 obtain ⟨bb12, rfl⟩ := hg8 (by omega)
 refine NX_cut ((b10, bb12, c8, ys)) (hy1) [1, 2, 3, 6, 7, 8] rfl (perm_take 1 rfl (perm_take 0 rfl (perm_take 0 rfl (perm_take 0 rfl (List.Perm.refl _))))) rfl
 refine sa3 T.ze25 (fun b13 => ?_)
 refine alz hs7 2 ?_
 refine aoz 7 (fun hs14 => ?_)
 refine S_appendG (g1 := (some b6)) ys 1 rfl rfl rfl Tryz.underlying23 T.sz44 T.ze44 T.by44 rfl rfl hy1.len (Src.of_cells hy3) hy2 (by omega) (by unfold maxLen; omega) rfl (fun g15 c15 hg15 => ?_)
 simp only [Nat.zero_add, List.nil_append] at hg15 ⊢
 refine alz hs14 2 ?_
 refine A_q (i := 8) (by kernel_rfl) rfl (r_builds (cs := [_, _, _]) T.bl25 rfl rfl) rfl ?_
 refine aoz 10 (fun hs16 => ?_)
 refine sb3 0 T.sz25 ?_
 refine alz hs16 2 ?_
 refine A_end (by kernel_rfl) ?_
 obtain ⟨bb17, rfl⟩ := hg15 (by omega)
 refine NX_cut ((b13, bb17, c15, ys)) (hy1) [1, 2, 3, 6, 7, 8] rfl (perm_take 1 rfl (perm_take 0 rfl (perm_take 0 rfl (perm_take 0 rfl (List.Perm.refl _))))) rfl
 refine sa3 T.ze25 (fun b18 => ?_)
 refine alz hs5 1 ?_
 refine aoz 4 (fun hs19 => ?_)
 refine S_litr (vs := []) (cs := []) Tryz.underlying23 T.sz44 T.ze44 rfl rfl rfl rfl rfl rfl rfl (fun b20 => ?_)
 refine alz hs19 2 ?_
 refine aoz 7 (fun hs21 => ?_)
 refine S_appendG (g1 := (some b20)) ys 0 rfl rfl rfl Tryz.underlying23 T.sz44 T.ze44 T.by44 rfl rfl hy1.len (Src.of_cells hy3) hy2 (by omega) (by unfold maxLen; omega) rfl (fun g22 c22 hg22 => ?_)
 simp only [Nat.zero_add, List.nil_append] at hg22 ⊢
 refine alz hs21 2 ?_
 refine A_q (i := 8) (by kernel_rfl) rfl (r_builds (cs := [_, _, _]) T.bl25 rfl rfl) rfl ?_
 refine aoz 10 (fun hs23 => ?_)
 refine sb3 1 T.sz25 ?_
 refine alz hs23 2 ?_
 refine A_end (by kernel_rfl) ?_
 obtain ⟨bb24, rfl⟩ := hg22 (by omega)
 refine NX_cut ((b18, bb24, c22, ys)) (hy1) [1, 2, 3, 6, 7, 8] rfl (perm_take 0 rfl (perm_take 0 rfl (perm_take 0 rfl (perm_take 0 rfl (List.Perm.refl _))))) rfl
 obtain ⟨hrt, bo, hbo, hlg⟩ := LegalP_ex (f := f) (block := block) (order := order) (by assumption)
 have hrb := right_block hrt
 obtain ⟨hol, hal, _⟩ := may_small (right_small hrt) (List.mem_of_getElem? hbo)
 have holen := legalP_len hlg
 have horg := legalP_rng hlg
 have hbl64 : f.blocks.length ≤ 64 := by have h := right_small hrt; simp only [mayF, Bool.and_eq_true, Bool.not_eq_true', Bool.or_eq_false_iff, decide_eq_false_iff_not] at h; omega
 have hrows := hC4
 refine sq (rg ?_)
 refine fb 2 T.fo25_2 (lb 1 T.ag23 (mv ?_))
 refine W_q (r_indexr (o := (block.toNat * 5)) Tryz.underlying23 T.sz44 rfl rfl ⟨by omega, by omega⟩ (by omega)) rfl ?_
 refine W_q (r_fieldb (o' := (block.toNat * 5) + 1) rfl T.fo44_1 rfl) rfl ?_
 refine S_storerk 0 rfl rfl rfl rfl T.sz40 rfl (by rw [hrows.len]; omega) ?_
 refine wn (kk6 [1,2,3,6,7,8] (sq (sq (rg ?_))))
 refine as_ ?_
 refine wn (kk7 [1,2,3,6,7,8,9] (bk ?_))
 refine CW_nilRow 51 6 ?_
 refine C_loop (Option Nat × Nat × List Value × List Value) (order.length) (fun k26 x26 => SRows rOp 6 m x26.2.2.1 (ordOps bo (order.take k26)) ∧ (0 < k26 → ∃ b, x26.1 = some b) ∧ x26.2.2.2 = x4.2.2.2.set (block.toNat * 5 + 1) (.slice (rowA x26.1) k26 x26.2.1)) (fun k26 x26 => [(9, .int .i64 (k26 : Int))]) (fun k26 x26 => [row x26.1 k26 x26.2.1 51 6 x26.2.2.1, row (some x4.2.1) f.blocks.length x4.2.2.1 44 5 x26.2.2.2]) [9] [1, 2, 3, 6, 7, 8] (F := [(1, _), (2, _), (3, _), (6, _), (7, _), (8, _)]) ((none, 0, [], x4.2.2.2.set (block.toNat * 5 + 1) (.slice none 0 0))) ⟨SRows.nil, by omega, rfl⟩ rfl rfl rfl (fun k26 x26 hk26 hJ26 => ?_)
 obtain ⟨hro, hgo, hxb⟩ := hJ26
 refine jj7 [1,2,3,6,7,8,9] (sq (sq (rg ?_)))
 refine mv (mv (ln Tryz.underlying22 (bl ?_)))
 refine wn (kk8 [1,2,3,6,7,8,9,33] ?_)
 refine cd ?_ ?_ <;> intro h28 <;> try simp only [tt] at h28
 refine sk (kk7 [1,2,3,6,7,8,9] (sq (bk ?_)))
 refine C_drawnA 2 26 rfl (by kernel_rfl) (by kernel_rfl) ?_
 refine A_q (i := 0) (by kernel_rfl) rfl (r_fieldb (o' := 2) rfl T.fo25_2 rfl) rfl ?_
 refine A_q (i := 1) (by kernel_rfl) rfl (r_loadb 0 rfl T.ag23 rfl rfl) rfl ?_
 refine A_q (i := 2) (by kernel_rfl) rfl (r_move rfl) rfl ?_
 refine A_q (i := 3) (by kernel_rfl) rfl (r_fieldb (o' := 2) rfl T.fo25_2 rfl) rfl ?_
 refine A_q (i := 4) (by kernel_rfl) rfl (r_loadb 0 rfl T.ag23 rfl rfl) rfl ?_
 refine A_q (i := 5) (by kernel_rfl) rfl (r_move rfl) rfl ?_
 refine A_q (i := 6) (by kernel_rfl) rfl (r_indexr (o := (block.toNat * 5)) Tryz.underlying23 T.sz44 rfl rfl ⟨by omega, by omega⟩ (by omega)) rfl ?_
 refine A_q (i := 7) (by kernel_rfl) rfl (r_fieldb (o' := (block.toNat * 5) + 1) rfl T.fo44_1 rfl) rfl ?_
 refine A_q (i := 9) (by kernel_rfl) rfl (r_fieldb (o' := 2) rfl T.fo25_2 rfl) rfl ?_
 refine A_q (i := 10) (by kernel_rfl) rfl (r_loadb 2 rfl T.ag23 rfl rfl) rfl ?_
 refine A_q (i := 11) (by kernel_rfl) rfl (r_move rfl) rfl ?_
 obtain ⟨ad30, hA30⟩ := hb90.ad (j := block.toNat) (by omega)
 refine A_q (i := 12) (by kernel_rfl) rfl (r_index hA30 Tryz.underlying23 T.sz44 rfl rfl ⟨by omega, by omega⟩) rfl ?_
 refine A_q (i := 13) (by kernel_rfl) rfl (r_field rfl T.fo44_1) rfl ?_
 obtain ⟨es31, f31, _, l31⟩ := Sl.get hb90 hA30 hbo
 obtain ⟨A31, c31, B31, d31, C31, e31, rfl, hp31, ho31, ht31, i31a, i31b⟩ := f31
 refine A_q (i := 14) (by kernel_rfl) rfl (r_load_imm rfl T.ag40 (l31 1 _ rfl)) rfl ?_
 refine A_q (i := 15) (by kernel_rfl) rfl (r_move rfl) rfl ?_
 refine A_q (i := 16) (by kernel_rfl) rfl (r_move rfl) rfl ?_
 obtain ⟨ad32, hA32⟩ := h.ad (j := k26) (by omega)
 obtain ⟨z32, hz32⟩ := h.getz (j := k26) (by omega)
 refine A_q (i := 17) (by kernel_rfl) rfl (r_index hA32 Tryz.underlying22 T.sz3 rfl rfl ⟨by omega, by omega⟩) rfl ?_
 have hzr := horg z32 (List.mem_of_getElem? hz32)
 obtain ⟨l33, r33⟩ := Sl.getI h hA32 hz32
 refine A_q (i := 18) (by kernel_rfl) rfl (r_load_imm rfl T.ag3 l33) rfl ?_
 obtain ⟨ad34, hA34⟩ := ho31.ad (j := z32.toNat) (by omega)
 obtain ⟨z34, hz34⟩ := ho31.getz (j := z32.toNat) (by omega)
 refine A_q (i := 19) (by kernel_rfl) rfl (r_index hA34 Tryz.underlying40 T.sz51 rfl rfl ⟨by omega, by omega⟩) rfl ?_
 obtain ⟨es35, f35, _, l35⟩ := Sl.get ho31 hA34 hz34
 have F35 := f35
 obtain ⟨A35, c35, rfl, h35, i35a, i35b, i35c, i35d, i35e⟩ := f35
 refine A_q (i := 20) (by kernel_rfl) rfl (r_load_immk (vs := [_, _, _, _, _, _]) rfl T.ag51 T.sz51 l35) rfl ?_
 refine A_two (i := 8) (j := 21) (by kernel_rfl) rfl rfl (fun hs36 => ?_) (fun hs36 => ?_)
 refine W_q (r_loadr 1 rfl T.ag40 rfl (by rw [hxb]; exact List.getElem?_set_self (by rw [hrows.len]; omega))) rfl ?_
 refine alz hs36 2 ?_
 refine aoz 21 (fun hs37 => ?_)
 refine S_litr (vs := [_]) (cs := [_, _, _, _, _, _]) Tryz.underlying40 T.sz51 T.ze51 rfl rfl rfl rfl rfl rfl rfl (fun b38 => ?_)
 refine alz hs37 3 ?_
 refine aoz 22 (fun hs39 => ?_)
 refine S_appendG [_, _, _, _, _, _] 1 rfl rfl rfl Tryz.underlying40 T.sz51 T.ze51 T.by51 rfl rfl rfl (.row 0 rfl) rfl (by omega) (by unfold maxLen; omega) rfl (fun g40 c40 hg40 => ?_)
 refine alz hs39 3 ?_
 refine A_q (i := 23) (by kernel_rfl) rfl (r_indexr (o := (block.toNat * 5)) Tryz.underlying23 T.sz44 rfl rfl ⟨by omega, by omega⟩ (by omega)) rfl ?_
 refine A_q (i := 24) (by kernel_rfl) rfl (r_fieldb (o' := (block.toNat * 5) + 1) rfl T.fo44_1 rfl) rfl ?_
 refine aoz 25 (fun hs42 => ?_)
 refine S_storerk 2 rfl rfl rfl rfl T.sz40 rfl (by rw [hxb, List.length_set, hrows.len]; omega) ?_
 refine alz hs42 3 ?_
 refine A_end (by kernel_rfl) ?_
 refine nb (kk7 [1,2,3,6,7,8,9] (rg ?_))
 refine mv ?_
 refine ad ?_
 refine as_ ?_
 refine wn ?_
 refine NX_rnd [9, 1, 2, 3, 6, 7, 8] (by omega) ((_, _, _, _)) ?_ rfl (sub_drop 1 rfl) rfl (Imm.le_refl _)
 refine ⟨?_, hg40, ?_⟩
 · rw [ordOps_succ hz32 hz34]; exact hro.snoc rfl F35
 · rw [hxb, List.set_set]
 refine S_litr (vs := [_]) (cs := [_, _, _, _, _, _]) Tryz.underlying40 T.sz51 T.ze51 rfl rfl rfl rfl rfl rfl rfl (fun b43 => ?_)
 refine alz hs36 3 ?_
 refine aoz 8 (fun hs44 => ?_)
 refine W_q (r_loadr 2 rfl T.ag40 rfl (by rw [hxb]; exact List.getElem?_set_self (by rw [hrows.len]; omega))) rfl ?_
 refine alz hs44 3 ?_
 refine aoz 22 (fun hs45 => ?_)
 refine S_appendG [_, _, _, _, _, _] 1 rfl rfl rfl Tryz.underlying40 T.sz51 T.ze51 T.by51 rfl rfl rfl (.row 0 rfl) rfl (by omega) (by unfold maxLen; omega) rfl (fun g46 c46 hg46 => ?_)
 refine alz hs45 3 ?_
 refine A_q (i := 23) (by kernel_rfl) rfl (r_indexr (o := (block.toNat * 5)) Tryz.underlying23 T.sz44 rfl rfl ⟨by omega, by omega⟩ (by omega)) rfl ?_
 refine A_q (i := 24) (by kernel_rfl) rfl (r_fieldb (o' := (block.toNat * 5) + 1) rfl T.fo44_1 rfl) rfl ?_
 refine aoz 25 (fun hs48 => ?_)
 refine S_storerk 2 rfl rfl rfl rfl T.sz40 rfl (by rw [hxb, List.length_set, hrows.len]; omega) ?_
 refine alz hs48 3 ?_
 refine A_end (by kernel_rfl) ?_
 refine nb (kk7 [1,2,3,6,7,8,9] (rg ?_))
 refine mv ?_
 refine ad ?_
 refine as_ ?_
 refine wn ?_
 refine NX_rnd [9, 1, 2, 3, 6, 7, 8] (by omega) ((_, _, _, _)) ?_ rfl (sub_drop 1 rfl) rfl (Imm.le_refl _)
 refine ⟨?_, hg46, ?_⟩
 · rw [ordOps_succ hz32 hz34]; exact hro.snoc rfl F35
 · rw [hxb, List.set_set]
 refine C_exit (EX_then (EX_then (EX_hit (?_))))
 refine kk3 [6,7,8] (sq (rg ?_))
 have hkn : k26 = order.length := by omega
 rw [hkn] at hro hgo hxb
 rw [List.take_of_length_le (Nat.le_refl _)] at hro
 have hoo : (ordOps bo order).length = order.length := by simp [ordOps]
 refine WL_know (k_rowG 0 rfl) (fun hr49 => ?_)
 refine WL_freeze 0 rfl (fun _ h => h) (fun mf49 le49 hf49 => ?_)
 replace hF := rFunc_mono _ _ _ _ le49 hF
 replace hq90 := hq90.mono rI_mono le49
 replace hb90 := hb90.mono rBlock_mono le49
 replace h := h.mono rI_mono le49
 rw [hkn] at hr49
 have hops := (hro.mono rOp_mono le49).sl hf49 (by rw [hoo]; exact hr49.2.1) hr49.2.2.1 (by rw [hoo]; omega) (by rw [hoo]; exact hgo)
 have hrows2 := (hrows.mono rBlock_mono le49).set (k := 1) hbo (by omega) (fun es _ => block_ops hops es)
 rw [hoo] at hrows2
 skip
 refine W_q (r_loadbk 1 (vs := [_, _, _]) rfl T.ag25 T.sz25 rfl rfl rfl) rfl ?_
 refine sb3 2 T.sz25 ?_
 refine as_ ?_
 refine wn (kk2 [6,7] ?_)
 refine C_ret (RX_know (k_rowG 0 rfl) (fun hq => ?_))
 refine RX_freeze 0 rfl (fun _ h => h) (fun m50 le50 hf50 => ?_)
 replace hF := rFunc_mono _ _ _ _ le50 hF
 replace hq90 := hq90.mono rI_mono le50
 replace hb90 := hb90.mono rBlock_mono le50
 replace h := h.mono rI_mono le50
 rw [hxb] at hf50
 have hres := (hrows2.mono rBlock_mono le50).sl hf50 (by rw [List.length_set]; exact hq.2.1) hq.2.2.1 (by rw [List.length_set]; omega) (by rw [List.length_set]; exact hq.2.2.2)
 refine RX_gR (res_ct 1 rfl rfl rfl T.ag25 T.sz25 rfl) (.inl ⟨by assumption, _, rfl, ?_⟩)
 rw [putOps_set hbo]
 exact ⟨_, _, _, _, by simp only [List.length_set]; rfl, hq90, hres, i90a⟩
namespace T
theorem fo27_1 : fld? Tryz.prog 27 1 = some (1, 1) := by kernel_rfl
theorem hb17 : hasBody Tryz.prog 17 = true := by kernel_rfl
theorem hb23 : hasBody Tryz.prog 23 = true := by kernel_rfl
theorem hb25 : hasBody Tryz.prog 25 = true := by kernel_rfl
end T
noncomputable def putG (f : FFun) (block : Int) (order : List Int) : FFun := if LegalP f block order = true then putOps f block order else ⟨[], 0, []⟩
noncomputable def putC (f : FFun) (block : Int) (order : List Int) : Int := if LegalP f block order = true then 0 else 10
theorem putΦ_any {f : FFun} {block : Int} {order : List Int} {m : Imm} {v : Value} (h : PutΦ f block order m v) : ∃ es, v = .tuple #[.agg es.toArray, .int .i64 (putC f block order)] ∧ rFunc m es (putG f block order) := by
  rcases h with ⟨h, es, rfl, h2⟩ | ⟨h, rfl⟩
  · exact ⟨es, by rw [putC, if_pos h], by rw [putG, if_pos h]; exact h2⟩
  · exact ⟨[.slice none 0 0, .int .i64 0, .slice none 0 0], by rw [putC, if_neg (ne_true_of h)], by rw [putG, if_neg (ne_true_of h)]; exact ⟨_, _, _, _, rfl, Sl.nil _ _ _, Sl.nil _ _ _, ⟨by decide, by decide⟩⟩⟩
theorem r_boolnef {P : Program} {n : Nat} {m : Imm} {R : List Res} {L : Fw.Loc} {dst : Option Nat} {ty : TypeId} {pos : String} {af : Array Edge} {g : Option (Nat × Bool)} {x y : Operand} {T T' : TypeId} {p : Bool} (hx : ev L x = some (.bool p)) (hy : ev L y = some (.bool p)) (hT : P.underlying T = some .bool) : Qt P ⟨dst, .binOp .neq T x y T', ty, pos, af, g⟩ n m R L (.bool false) := by
  have h := r_boolneq (P := P) (n := n) (m := m) (R := R) (dst := dst) (ty := ty) (pos := pos) (af := af) (g := g) (T' := T') hx hy hT
  rwa [show (p != p) = false by cases p <;> rfl] at h
theorem SchedTells_q {m : Imm} {es : List Value} {f : FFun} (hF : rFunc m es f) (block at_ : Int) (hib : I64 block) {A : Option Addr} {c : Nat} {order : List Int} (h : Ints m A c order)  : Quiet Tryz.prog 3 [.agg es.toArray, .agg #[.int .i64 block, .int .i64 at_, .slice A order.length c]] m (.bool true) := by
 have hF_0 := hF
 obtain ⟨A90, c90, B90, d90, rfl, hq90, hb90, i90a⟩ := hF_0
 have hbl := hb90.len
 have hlen := h.len
 refine quiet_of Tryz.func3 rfl Tryz.ntmps3 rfl (fun w => ?_)
 refine sq (rg ?_)
 refine S_box (l := [_, _, _]) rfl rfl rfl (fun b1 => ?_)
 refine S_box (l := [_, _, _]) rfl rfl rfl (fun b2 => ?_)
 refine as_ ?_
 refine wn (kk3 [2,3,4] (sq (sq (rg ?_))))
 refine W_quiet (awake19_q) T.hb14 rfl rfl ?_
 refine nt ?_
 refine wn (kk4 [2,3,4,14] ?_)
 refine cfz (sk (kk3 [2,3,4] (sq (sq (rg ?_)))))
 refine W_q (r_loadbk 1 (vs := [_, _, _]) rfl T.ag25 T.sz25 rfl rfl rfl) rfl ?_
 refine S_gives (Small11_g hF) T.hb15 rfl rfl (fun m3 v3 le3 hv3 => ?_)
 replace hF := rFunc_mono _ _ _ _ le3 hF
 replace hq90 := hq90.mono rI_mono le3
 replace hb90 := hb90.mono rBlock_mono le3
 replace h := h.mono rI_mono le3
 obtain ⟨qs3, rfl⟩ := hv3
 refine nt (mv ?_)
 refine sp 18 ?_ ?_ <;> intro h4 <;> try simp only [tt] at h4
 refine ps (ps (ps (ps ?_)))
 refine pt ?_
 refine wn (kk4 [2,3,4,23] ?_)
 refine ctz (sq (rg ?_))
 refine as_ ?_
 refine wn (kk3 [2,3,4] ?_)
 refine C_ret (RX_then (RX_q1 rfl rfl ?_))
 rfl
 refine tk (fb 2 T.fo27_2 ?_)
 refine tk (lb 0 T.ag22 ?_)
 refine tk (ln Tryz.underlying22 ?_)
 refine tk (bg (pf ?_))
 refine wn (kk4 [2,3,4,23] ?_)
 refine cd ?_ ?_ <;> intro h5 <;> try simp only [tt] at h5
 refine sq (rg ?_)
 refine as_ ?_
 refine wn (kk3 [2,3,4] ?_)
 refine C_ret (RX_then (RX_q1 rfl rfl ?_))
 rfl
 refine sk (kk3 [2,3,4] (sq (rg ?_)))
 refine W_q (r_loadbk 1 (vs := [_, _, _]) rfl T.ag25 T.sz25 rfl rfl rfl) rfl ?_
 refine fb 0 T.fo27_0 (lb 0 T.ag3 (fb 2 T.fo27_2 (lb 0 T.ag22 ?_)))
 refine S_gives (Put_g hF block h) T.hb16 rfl rfl (fun m6 v6 le6 hv6 => ?_)
 replace hF := rFunc_mono _ _ _ _ le6 hF
 replace hq90 := hq90.mono rI_mono le6
 replace hb90 := hb90.mono rBlock_mono le6
 replace h := h.mono rI_mono le6
 obtain ⟨esG6, rfl, hG6⟩ := putΦ_any hv6
 have hG101_0 := hG6
 obtain ⟨A101, c101, B101, d101, rfl, hq101, hb101, i101a⟩ := hG101_0
 refine mv ?_
 refine W_q (r_extract rfl rfl) rfl ?_
 refine W_q (r_extract rfl rfl) rfl ?_
 refine sa3 T.ze25 (fun b7 => ?_)
 refine sb3 0 T.sz25 ?_
 refine as_ ?_
 refine wn (kk5 [2,3,4,5,6] (sq (rg ?_)))
 refine W_q (r_loadbk 2 (vs := [_, _, _]) rfl T.ag25 T.sz25 rfl rfl rfl) rfl ?_
 refine fb 0 T.fo27_0 (lb 1 T.ag3 (fb 2 T.fo27_2 (lb 1 T.ag22 ?_)))
 refine S_gives (rPut_g hF block h) T.hb17 rfl rfl (fun m8 v8 le8 hv8 => ?_)
 replace hF := rFunc_mono _ _ _ _ le8 hF
 replace hq90 := hq90.mono rI_mono le8
 replace hb90 := hb90.mono rBlock_mono le8
 replace h := h.mono rI_mono le8
 replace hG6 := rFunc_mono _ _ _ _ le8 hG6
 replace hq101 := hq101.mono rI_mono le8
 replace hb101 := hb101.mono rBlock_mono le8
 obtain ⟨esG8, rfl, hG8⟩ := putΦ_any hv8
 have hG102_0 := hG8
 obtain ⟨A102, c102, B102, d102, rfl, hq102, hb102, i102a⟩ := hG102_0
 refine mv ?_
 refine W_q (r_extract rfl rfl) rfl ?_
 refine W_q (r_extract rfl rfl) rfl ?_
 refine sa3 T.ze25 (fun b9 => ?_)
 refine sb3 0 T.sz25 ?_
 refine as_ ?_
 refine wn (kk7 [2,3,4,5,6,7,8] (sq (sq ?_)))
 refine C_drawn [(0, true), (1, true), (2, true), (3, true), (4, true), (5, true), (6, true), (7, true), (8, true), (9, true), (10, true), (11, true), (12, true), (13, true), (14, true), (15, true), (16, true), (17, true), (18, true), (19, true), (20, true), (21, true), (22, true), (23, true), (24, true), (25, true), (26, true), (27, true), (28, true), (29, true), (31, true), (32, true), (33, true), (34, true), (35, true), (30, false), (36, false), (37, false), (38, true), (39, true), (40, true), (41, true), (42, true), (43, true), (45, true), (46, true), (47, true), (44, false), (48, false), (49, false), (50, true), (51, true)] (by kernel_rfl) rfl (by kernel_rfl) (by kernel_rfl) ?_
 refine D_q rfl (r_loadbk 1 (vs := [_, _, _]) rfl T.ag25 T.sz25 rfl rfl rfl) rfl ?_
 refine D_q rfl (r_loadbk 0 (vs := [_, _, _]) rfl T.ag25 T.sz25 rfl rfl rfl) rfl ?_
 refine D_quiet rfl (Same_q hG6 hG8) T.hb18 rfl rfl ?_
 refine D_q rfl (r_not rfl) rfl ?_
 refine dmv ?_
 refine D_qt rfl rfl rfl (r_move rfl) rfl ?_
 refine D_qt rfl rfl rfl (r_move rfl) rfl ?_
 refine D_qt rfl rfl rfl (r_nef rfl rfl (rfl)) rfl ?_
 refine D_q rfl (r_pick_f rfl rfl) rfl ?_
 refine dmv ?_
 refine D_qt rfl rfl rfl (r_loadbk 3 (vs := [_, _, _]) rfl T.ag25 T.sz25 rfl rfl rfl) rfl ?_
 refine D_qt rfl rfl rfl (r_fieldb (o' := 0) rfl T.fo27_0 rfl) rfl ?_
 refine D_qt rfl rfl rfl (r_loadb 2 rfl T.ag3 rfl rfl) rfl ?_
 refine D_qt rfl rfl rfl (r_fieldb (o' := 2) rfl T.fo27_2 rfl) rfl ?_
 refine D_qt rfl rfl rfl (r_loadb 2 rfl T.ag22 rfl rfl) rfl ?_
 refine D_quiett rfl rfl rfl (Legal_q hF _ h) T.hb19 rfl rfl ?_
 refine D_qt rfl rfl rfl (r_loadbk 3 (vs := [_, _, _]) rfl T.ag25 T.sz25 rfl rfl rfl) rfl ?_
 refine D_qt rfl rfl rfl (r_fieldb (o' := 0) rfl T.fo27_0 rfl) rfl ?_
 refine D_qt rfl rfl rfl (r_loadb 2 rfl T.ag3 rfl rfl) rfl ?_
 refine D_qt rfl rfl rfl (r_fieldb (o' := 2) rfl T.fo27_2 rfl) rfl ?_
 refine D_qt rfl rfl rfl (r_loadb 2 rfl T.ag22 rfl rfl) rfl ?_
 refine D_quiett rfl rfl rfl (rLegal_q hF _ h) T.hb20 rfl rfl ?_
 refine D_qt rfl rfl rfl (r_boolnef rfl rfl Tryz.underlying4) rfl ?_
 refine D_q rfl (r_pick_f rfl rfl) rfl ?_
 refine dmv ?_
 refine D_qt rfl rfl rfl (r_loadbk 3 (vs := [_, _, _]) rfl T.ag25 T.sz25 rfl rfl rfl) rfl ?_
 refine D_qt rfl rfl rfl (r_fieldb (o' := 0) rfl T.fo27_0 rfl) rfl ?_
 refine D_qt rfl rfl rfl (r_loadb 2 rfl T.ag3 rfl rfl) rfl ?_
 refine D_qt rfl rfl rfl (r_fieldb (o' := 1) rfl T.fo27_1 rfl) rfl ?_
 refine D_qt rfl rfl rfl (r_loadb 2 rfl T.ag3 rfl rfl) rfl ?_
 refine D_qt rfl rfl rfl (r_loadbk 3 (vs := [_, _, _]) rfl T.ag25 T.sz25 rfl rfl rfl) rfl ?_
 refine D_qt rfl rfl rfl (r_fieldb (o' := 0) rfl T.fo27_0 rfl) rfl ?_
 refine D_qt rfl rfl rfl (r_loadb 2 rfl T.ag3 rfl rfl) rfl ?_
 refine D_qt rfl rfl rfl (r_fieldb (o' := 1) rfl T.fo27_1 rfl) rfl ?_
 refine D_qt rfl rfl rfl (r_loadb 2 rfl T.ag3 rfl rfl) rfl ?_
 refine D_f rfl (fun hs10 hc10 => ?_)
 refine tk ?_
 refine S_gives (Hangs_g hF _ _) T.hb22 rfl rfl (fun m11 v11 le11 hv11 => ?_)
 replace hF := rFunc_mono _ _ _ _ le11 hF
 replace hq90 := hq90.mono rI_mono le11
 replace hb90 := hb90.mono rBlock_mono le11
 replace h := h.mono rI_mono le11
 replace hG6 := rFunc_mono _ _ _ _ le11 hG6
 replace hq101 := hq101.mono rI_mono le11
 replace hb101 := hb101.mono rBlock_mono le11
 replace hG8 := rFunc_mono _ _ _ _ le11 hG8
 replace hq102 := hq102.mono rI_mono le11
 replace hb102 := hb102.mono rBlock_mono le11
 obtain ⟨Ah11, ch11, rfl, hh11⟩ := hv11
 refine W_leftw hs10 hc10 (le11) (List.Sublist.refl _) ?_
 refine D_f rfl (fun hs12 hc12 => ?_)
 refine tk ?_
 refine S_gives (rHangs_g hF _ _) T.hb23 rfl rfl (fun m13 v13 le13 hv13 => ?_)
 replace hF := rFunc_mono _ _ _ _ le13 hF
 replace hq90 := hq90.mono rI_mono le13
 replace hb90 := hb90.mono rBlock_mono le13
 replace h := h.mono rI_mono le13
 replace hG6 := rFunc_mono _ _ _ _ le13 hG6
 replace hq101 := hq101.mono rI_mono le13
 replace hb101 := hb101.mono rBlock_mono le13
 replace hG8 := rFunc_mono _ _ _ _ le13 hG8
 replace hq102 := hq102.mono rI_mono le13
 replace hb102 := hb102.mono rBlock_mono le13
 replace hh11 := hh11.mono rI_mono le13
 obtain ⟨Ah13, ch13, rfl, hh13⟩ := hv13
 refine W_leftw hs12 hc12 (Imm.le_trans (le11) le13) (List.Sublist.refl _) ?_
 refine D_f rfl (fun hs14 hc14 => ?_)
 refine tk ?_
 refine W_quiet (known_q (Ints_q hh11 hh13) (beq_self_eq_true _)) T.hb21 rfl rfl ?_
 refine W_leftw hs14 hc14 (Imm.le_trans (le11) le13) (List.Sublist.refl _) ?_
 refine D_qt rfl rfl rfl (r_not rfl) rfl ?_
 refine D_q rfl (r_pick_f rfl rfl) rfl ?_
 refine dmv ?_
 refine D_qt rfl rfl rfl (r_loadbk 3 (vs := [_, _, _]) rfl T.ag25 T.sz25 rfl rfl rfl) rfl ?_
 refine D_qt rfl rfl rfl (r_fieldb (o' := 0) rfl T.fo27_0 rfl) rfl ?_
 refine D_qt rfl rfl rfl (r_loadb 2 rfl T.ag3 rfl rfl) rfl ?_
 refine D_qt rfl rfl rfl (r_loadbk 3 (vs := [_, _, _]) rfl T.ag25 T.sz25 rfl rfl rfl) rfl ?_
 refine D_qt rfl rfl rfl (r_fieldb (o' := 0) rfl T.fo27_0 rfl) rfl ?_
 refine D_qt rfl rfl rfl (r_loadb 2 rfl T.ag3 rfl rfl) rfl ?_
 refine D_f rfl (fun hs15 hc15 => ?_)
 refine tk ?_
 refine S_gives (Flat_g hF _) T.hb24 rfl rfl (fun m16 v16 le16 hv16 => ?_)
 replace hF := rFunc_mono _ _ _ _ le16 hF
 replace hq90 := hq90.mono rI_mono le16
 replace hb90 := hb90.mono rBlock_mono le16
 replace h := h.mono rI_mono le16
 replace hG6 := rFunc_mono _ _ _ _ le16 hG6
 replace hq101 := hq101.mono rI_mono le16
 replace hb101 := hb101.mono rBlock_mono le16
 replace hG8 := rFunc_mono _ _ _ _ le16 hG8
 replace hq102 := hq102.mono rI_mono le16
 replace hb102 := hb102.mono rBlock_mono le16
 replace hh11 := hh11.mono rI_mono le16
 replace hh13 := hh13.mono rI_mono le16
 obtain ⟨Ah16, ch16, rfl, hh16⟩ := hv16
 refine W_leftw hs15 hc15 (Imm.le_trans (Imm.le_trans (le11) le13) le16) (List.Sublist.refl _) ?_
 refine D_f rfl (fun hs17 hc17 => ?_)
 refine tk ?_
 refine S_gives (rFlat_g hF _) T.hb25 rfl rfl (fun m18 v18 le18 hv18 => ?_)
 replace hF := rFunc_mono _ _ _ _ le18 hF
 replace hq90 := hq90.mono rI_mono le18
 replace hb90 := hb90.mono rBlock_mono le18
 replace h := h.mono rI_mono le18
 replace hG6 := rFunc_mono _ _ _ _ le18 hG6
 replace hq101 := hq101.mono rI_mono le18
 replace hb101 := hb101.mono rBlock_mono le18
 replace hG8 := rFunc_mono _ _ _ _ le18 hG8
 replace hq102 := hq102.mono rI_mono le18
 replace hb102 := hb102.mono rBlock_mono le18
 replace hh11 := hh11.mono rI_mono le18
 replace hh13 := hh13.mono rI_mono le18
 replace hh16 := hh16.mono rI_mono le18
 obtain ⟨Ah18, ch18, rfl, hh18⟩ := hv18
 refine W_leftw hs17 hc17 (Imm.le_trans (Imm.le_trans (Imm.le_trans (le11) le13) le16) le18) (List.Sublist.refl _) ?_
 refine D_f rfl (fun hs19 hc19 => ?_)
 refine tk ?_
 refine W_quiet (known_q (Ints_q hh16 hh18) (beq_self_eq_true _)) T.hb21 rfl rfl ?_
 refine W_leftw hs19 hc19 (Imm.le_trans (Imm.le_trans (Imm.le_trans (le11) le13) le16) le18) (List.Sublist.refl _) ?_
 refine D_qt rfl rfl rfl (r_not rfl) rfl ?_
 refine D_q rfl (r_pick_f rfl rfl) rfl ?_
 refine D_end ?_
 refine kk4 [2,3,4,93] ?_
 refine cfz (sk (kk3 [2,3,4] (sq (rg ?_))))
 refine W_q (r_loadbk 3 (vs := [_, _, _]) rfl T.ag25 T.sz25 rfl rfl rfl) rfl ?_
 refine fb 0 T.fo27_0 (lb 2 T.ag3 ?_)
 refine S_gives (Depth_g hF _) T.hb26 rfl rfl (fun m20 v20 le20 hv20 => ?_)
 replace hF := rFunc_mono _ _ _ _ le20 hF
 replace hq90 := hq90.mono rI_mono le20
 replace hb90 := hb90.mono rBlock_mono le20
 replace h := h.mono rI_mono le20
 replace hG6 := rFunc_mono _ _ _ _ le20 hG6
 replace hq101 := hq101.mono rI_mono le20
 replace hb101 := hb101.mono rBlock_mono le20
 replace hG8 := rFunc_mono _ _ _ _ le20 hG8
 replace hq102 := hq102.mono rI_mono le20
 replace hb102 := hb102.mono rBlock_mono le20
 replace hh11 := hh11.mono rI_mono le20
 replace hh13 := hh13.mono rI_mono le20
 replace hh16 := hh16.mono rI_mono le20
 replace hh18 := hh18.mono rI_mono le20
 obtain ⟨Ah20, ch20, rfl, hh20⟩ := hv20
 refine as_ ?_
 refine wn (kk4 [2,3,4,9] (sq (sq (rg ?_))))
 refine W_q (r_loadbk 3 (vs := [_, _, _]) rfl T.ag25 T.sz25 rfl rfl rfl) rfl ?_
 refine fb 0 T.fo27_0 (lb 2 T.ag3 ?_)
 refine W_quiet (rR19_q hF _) T.hb27 rfl rfl ?_
 refine nt ?_
 refine wn (kk5 [2,3,4,9,102] ?_)
 refine cd ?_ ?_ <;> intro h21 <;> try simp only [tt] at h21
 refine sq (rg ?_)
 refine mv (ln Tryz.underlying22 ?_)
 refine W_q (r_eqt rfl rfl (by rw [DepthP_f (by assumption)]; rfl)) rfl ?_
 refine as_ ?_
 refine wn (kk4 [2,3,4,9] ?_)
 refine C_ret (RX_then (RX_q1 rfl rfl ?_))
 rfl
 refine sk (kk4 [2,3,4,9] (sq (sq (rg ?_))))
 refine mv (ln Tryz.underlying22 (fb 2 T.fo25_2 ?_))
 have hkr := right_block (f := f) (block := block) (by assumption)
 have hbl64 : f.blocks.length ≤ 64 := by have h := right_small (f := f) (block := block) (by assumption); simp only [mayF, Bool.and_eq_true, Bool.not_eq_true', Bool.or_eq_false_iff, decide_eq_false_iff_not] at h; omega
 refine lb 3 T.ag23 (fb 0 T.fo27_0 (lb 2 T.ag3 ?_))
 obtain ⟨ad22, hA22⟩ := hb90.ad (j := block.toNat) (by omega)
 obtain ⟨z22, hz22⟩ := hb90.getz (j := block.toNat) (by omega)
 refine ixz hA22 Tryz.underlying23 T.sz44 ?_
 refine W_q (r_field rfl T.fo44_1) rfl ?_
 have hrt : rightP f block = true := by assumption
 obtain ⟨hde, hdl⟩ := DepthP_eq hrt hz22
 have hol512 := (may_small (right_small hrt) (List.mem_of_getElem? hz22)).1
 obtain ⟨es23, f23, _, l23⟩ := Sl.get hb90 hA22 hz22
 obtain ⟨A23, c23, B23, d23, C23, e23, rfl, hp23, ho23, ht23, i23a, i23b⟩ := f23
 refine liz T.ag40 (l23 1 _ rfl) ?_
 refine ln Tryz.underlying40 ?_
 refine W_q (r_nef rfl rfl (by rw [hdl])) rfl ?_
 refine wn (kk5 [2,3,4,9,116] ?_)
 refine cfz (sk (kk4 [2,3,4,9] (sq (sq (rg ?_)))))
 refine as_ ?_
 refine wn (kk5 [2,3,4,9,10] (bk ?_))
 refine C_loop (Unit) ((DepthP f block).length) (fun k24 x24 => True) (fun k24 x24 => [(10, .int .i64 (k24 : Int))]) (fun _ _ => []) [10] [2, 3, 9] (F := [(2, _), (3, _), (9, _)]) (()) trivial rfl rfl rfl (fun k24 x24 hk24 hJ24 => ?_)
 refine jj4 [2,3,9,10] (sq (sq (rg ?_)))
 refine mv (mv (ln Tryz.underlying22 (bl ?_)))
 refine wn (kk5 [2,3,9,10,120] ?_)
 refine cd ?_ ?_ <;> intro h25 <;> try simp only [tt] at h25
 refine sk (kk4 [2,3,9,10] (sq (bk (sq (rg ?_)))))
 refine as_ ?_
 refine wn (kk5 [2,3,9,10,11] (sq (sq (rg ?_))))
 refine as_ ?_
 refine wn (kk6 [2,3,9,10,11,12] (bk ?_))
 refine C_loop (Int) (k24) (fun k26 x26 => x26 = wantS z22.ops (DepthP f block) k24 k26) (fun k26 x26 => [(11, .int .i64 x26), (12, .int .i64 (k26 : Int))]) (fun _ _ => []) [11, 12] [2, 3, 9, 10] (F := [(2, _), (3, _), (9, _), (10, _)]) (_) rfl rfl rfl rfl (fun k26 x26 hk26 hJ26 => ?_)
 refine jj6 [2,3,9,10,11,12] (sq (sq (rg ?_)))
 refine mv (mv (bl ?_))
 refine wn (kk7 [2,3,9,10,11,12,125] ?_)
 refine cd ?_ ?_ <;> intro h27 <;> try simp only [tt] at h27
 refine sk (kk6 [2,3,9,10,11,12] (sq (bk (sq (rg ?_)))))
 refine fb 2 T.fo25_2 (lb 3 T.ag23 (fb 0 T.fo27_0 (lb 2 T.ag3 ?_)))
 obtain ⟨ad28, hA28⟩ := hb90.ad (j := block.toNat) (by omega)
 refine ixz hA28 Tryz.underlying23 T.sz44 ?_
 obtain ⟨es29, f29, _, l29⟩ := Sl.get hb90 hA28 hz22
 have F29 := f29
 obtain ⟨A29, c29, B29, d29, C29, e29, rfl, hp29, ho29, ht29, i29a, i29b⟩ := f29
 refine W_q (r_load_immk (vs := [_, _, _, _, _]) rfl T.ag44 T.sz44 l29) rfl ?_
 refine mv (mv ?_)
 refine W_quiet (known_q (rOn_q F29 (k24 : Int) (k26 : Int) (by omega) (by omega) (by omega)) (show _ = hangB z22.ops k24 k26 by simp only [Int.toNat_natCast])) T.hb28 rfl rfl ?_
 refine wn (kk7 [2,3,9,10,11,12,136] ?_)
 refine cd ?_ ?_ <;> intro h30 <;> try simp only [tt] at h30
 refine rg ?_
 refine mv (mv (mv ?_))
 obtain ⟨ad31, hA31⟩ := hh20.ad (j := k26) (by omega)
 obtain ⟨z31, hz31⟩ := hh20.getz (j := k26) (by omega)
 refine ixz hA31 Tryz.underlying22 T.sz3 ?_
 obtain ⟨l32, r32⟩ := Sl.getI hh20 hA31 hz31
 refine liz T.ag3 l32 ?_
 have hdz := depth_i64 hrt hz22 _ (List.mem_of_getElem? hz31)
 refine ad ?_
 refine W_q (r_max rfl rfl) rfl ?_
 refine as_ ?_
 refine wn (nb (kk6 [2,3,9,10,11,12] (rg ?_)))
 refine mv ?_
 refine ad ?_
 refine as_ ?_
 refine wn ?_
 refine NX_rnd [11, 12, 2, 3, 9, 10] (by omega) (_) ?_ rfl (List.Sublist.refl _) rfl (Imm.le_refl _)
 · first
    | (rw [hJ26, wantS_succ, if_pos h30, getD_of hz31]; done)
    | (rw [hJ26, wantS_succ, if_neg (ne_true_of h30)]; done)
 refine sk (nb (kk6 [2,3,9,10,11,12] (rg ?_)))
 refine mv ?_
 refine ad ?_
 refine as_ ?_
 refine wn ?_
 refine NX_rnd [11, 12, 2, 3, 9, 10] (by omega) (_) ?_ rfl (List.Sublist.refl _) rfl (Imm.le_refl _)
 · first
    | (rw [hJ26, wantS_succ, if_pos h30, getD_of hz31]; done)
    | (rw [hJ26, wantS_succ, if_neg (ne_true_of h30)]; done)
 refine C_exit (EX_then (EX_then (EX_hit (?_))))
 refine kk5 [2,3,9,10,11] (sq (rg ?_))
 refine mv (mv ?_)
 obtain ⟨ad33, hA33⟩ := hh20.ad (j := k24) (by omega)
 obtain ⟨z33, hz33⟩ := hh20.getz (j := k24) (by omega)
 refine ixz hA33 Tryz.underlying22 T.sz3 ?_
 obtain ⟨l34, r34⟩ := Sl.getI hh20 hA33 hz33
 refine liz T.ag3 l34 ?_
 refine mv ?_
 refine W_q (r_nef rfl rfl (by rw [want_end hrt hz22 hz33, hJ26, show k26 = k24 by omega])) rfl ?_
 refine wn (kk5 [2,3,9,10,149] ?_)
 refine cfz (sk (nb (kk4 [2,3,9,10] (rg ?_))))
 refine mv ?_
 refine ad ?_
 refine as_ ?_
 refine wn ?_
 refine NX_rnd [10, 2, 3, 9] (by omega) (()) ?_ rfl (List.Sublist.refl _) rfl (Imm.le_refl _)
 trivial
 refine C_exit (EX_then (EX_then (EX_hit (?_))))
 refine kk0 [] (sq (rg ?_))
 refine as_ ?_
 refine wn (kk1 [4] ?_)
 refine C_ret (RX_q1 rfl rfl ?_)
 rfl
end Go.Proofs.YtipmgkhjoekaaaaGreat
namespace Go.Proofs.YtipmgkhjoekaaaaGreat.Fw
open Go Go.RowKit Go.ChangeShapes Go.WideShapes Go.Deep
def memOf (W : World) : Imm := fun b => W.heap[b]?
theorem memOf_cell (W : World) (a : Addr) : (memOf W).cell? a = W.cell? a := rfl
theorem memOf_in (W : World) : In (memOf W) W := fun _ _ h => h
def Wt {H : Type} (P : Program) (t : TypeId) (d : DataW H) : Prop := (d.weights P t).all (· ≤ reachBytes) = true
def Rd (P : Program) (W : World) (t : TypeId) {α : Type} (r : Rep α) (sz : Nat) : Prop :=
  ∀ (H : Type) (enc : TypeId × Value → H) (fuel : Nat) (cs : List Value) (d : DataW H) (ps : List MemPlace), DataW.trod enc P W 0 (fun _ => true) true fuel t cs = some (d, ps) → Wt P t d → cs.length = sz ∧ ∃ z, r (memOf W) cs z
section
variable {P : Program} {W : World} {t e : TypeId}
theorem Rd.i64 (ht : P.underlying t = some (.int .i64)) : Rd P W t rI 1 := fun H enc fuel cs d ps h _ => by
  obtain ⟨n, rfl, _, hw⟩ := DataW.trod_int ht h
  simp only [Lit.wf, Bool.and_eq_true, decide_eq_true_eq] at hw
  exact ⟨rfl, n, rfl, hw.1, hw.2⟩
theorem Rd.u64 (ht : P.underlying t = some (.int .u64)) : Rd P W t rU 1 := fun H enc fuel cs d ps h _ => by
  obtain ⟨n, rfl, _, hw⟩ := DataW.trod_int ht h
  simp only [Lit.wf, Bool.and_eq_true, decide_eq_true_eq] at hw
  have h1 : IntKind.u64.min = 0 := rfl
  have h2 : IntKind.u64.max = 18446744073709551615 := rfl
  exact ⟨rfl, n, rfl, by rw [h1] at hw; exact hw.1, by rw [h2] at hw; omega⟩
theorem weightsAll_mem {H : Type} {l : List (DataW H)} {d : DataW H} (hd : d ∈ l) {x : Nat} (hx : x ∈ d.weights P e) : x ∈ DataW.weightsAll P e l := by
  induction l with
  | nil => cases hd
  | cons y r ih =>
    rw [DataW.weightsAll, List.mem_append]
    rcases List.mem_cons.1 hd with rfl | hd
    · exact .inl hx
    · exact .inr (ih hd)
theorem cells_get {a : Addr} {n : Nat} {cs : List Value} (h : W.cells? 0 a n = some cs) : cs.length = n ∧ ∀ k v, cs[k]? = some v → W.cell? (a.add k) = some v := by
  rw [World.cells?, if_pos (Nat.zero_le _)] at h
  have hl := mapM_some_length h
  rw [List.length_range] at hl
  refine ⟨hl, fun k v hk => ?_⟩
  have hkn : k < n := by rw [← hl]; exact (List.getElem?_eq_some_iff.1 hk).1
  have := mapM_some_get h k k (by rw [List.getElem?_range hkn])
  rw [this]; exact hk
theorem Rd.slice {α : Type} {r : Rep α} {sz : Nat} (ht : P.underlying t = some (.slice e)) (hc : P.cellsOf e = sz) (hb : Nat.ble 1 (P.bytesOf e) = true) (h : Rd P W e r sz) : Rd P W t (rS r sz) 1 := fun H enc fuel cs d ps hd hw => by
  rcases open_slice ht hd with ⟨rfl, hx⟩ | ⟨a, len, cap, m, n, D, Pl, rfl, _, hl, hm, hmc, hx, hel⟩
  · exact ⟨rfl, [], none, 0, rfl, Sl.nil _ _ _⟩
  · simp only [if_true] at hmc
    subst hmc
    obtain ⟨rfl, _⟩ := Prod.mk.inj hx
    refine ⟨rfl, ?_⟩
    have hw' := List.all_eq_true.1 hw
    have hwD : ∀ i, i < len → Wt P e (D i) := fun i hi => List.all_eq_true.2 fun x hx => hw' x (by
      rw [DataW.weights, ht]
      refine List.mem_cons_of_mem _ (List.mem_append.2 (.inl (weightsAll_mem (d := D i) ?_ hx)))
      exact List.mem_map.2 ⟨i, List.mem_range.2 hi, rfl⟩)
    have hlen : len ≤ 140737488355328 := by
      have := hw' (((List.range len).map D).length + ((List.range (m - len)).map fun j => D (len + j)).length |>.mul (P.bytesOf e)) (by rw [DataW.weights, ht]; exact List.mem_cons_self)
      simp only [List.length_map, List.length_range, decide_eq_true_eq] at this
      have h1 : 1 ≤ P.bytesOf e := Nat.le_of_ble_eq_true hb
      have h2 : len + (m - len) ≤ (len + (m - len)) * P.bytesOf e := Nat.le_mul_of_pos_right _ h1
      have h3 : (len + (m - len)).mul (P.bytesOf e) = (len + (m - len)) * P.bytesOf e := rfl
      rw [h3] at this
      have h4 : reachBytes = 140737488351232 := rfl
      omega
    have hall : ∀ k, k ≤ len → ∃ l : List α, l.length = k ∧ ∀ i z, l[i]? = some z → ∃ cs', W.cells? 0 (a.add (i * P.cellsOf e)) (P.cellsOf e) = some cs' ∧ r (memOf W) cs' z := by
      intro k
      induction k with
      | zero => intro _; exact ⟨[], rfl, by simp⟩
      | succ k ih =>
        intro hk
        obtain ⟨l, h1, h2⟩ := ih (by omega)
        obtain ⟨cs', h3, h4⟩ := hel k (by omega)
        obtain ⟨_, z, hz⟩ := h H enc n cs' (D k) (Pl k) h4 (hwD k (by omega))
        refine ⟨l ++ [z], by simp [h1], fun i y hy => ?_⟩
        by_cases hi : i < l.length
        · rw [List.getElem?_append_left hi] at hy; exact h2 i y hy
        · have hlt := (List.getElem?_eq_some_iff.1 hy).1
          rw [List.length_append, List.length_singleton] at hlt
          obtain rfl : i = l.length := by omega
          rw [List.getElem?_append_right (Nat.le_refl _), Nat.sub_self] at hy
          simp only [List.getElem?_cons_zero, Option.some.injEq] at hy
          subst hy
          rw [h1]; exact ⟨cs', h3, hz⟩
    obtain ⟨l, h1, h2⟩ := hall len (Nat.le_refl _)
    refine ⟨l, some a, m, by rw [h1], ⟨by omega, hm, by omega, fun j x hj => ?_⟩⟩
    obtain ⟨cs', h3, h4⟩ := h2 j x hj
    rw [hc] at h3
    obtain ⟨h5, h6⟩ := cells_get h3
    exact ⟨a, rfl, cs', h5, h4, fun k v hk => by rw [memOf_cell, ← Fw.add_add]; exact h6 k v hk⟩
theorem Rd.parts {fs : Array Field} (ht : P.underlying t = some (.struct fs)) {H : Type} {enc : TypeId × Value → H} {fuel : Nat} {cs : List Value} {d : DataW H} {ps : List MemPlace} (h : DataW.trod enc P W 0 (fun _ => true) true fuel t cs = some (d, ps)) (hw : Wt P t d) :
    cs.length = P.cellsOf t ∧ ∀ (i : Nat) (f : Field), fs[i]? = some f → ∃ n d' ps', DataW.trod enc P W 0 (fun _ => true) true n f.type ((cs.drop f.offset).take (P.cellsOf f.type)) = some (d', ps') ∧ Wt P f.type d' := by
  obtain ⟨xs, n, rfl, hx, hl, hxl, hp⟩ := DataW.trod_struct ht h
  obtain ⟨rfl, _⟩ := Prod.mk.inj hx
  refine ⟨hl, fun i f hf => ?_⟩
  have hi : i < xs.length := by rw [hxl]; exact (Array.getElem?_eq_some_iff.1 hf).1
  have h1 := hp i f hf
  rw [List.getElem?_eq_getElem hi] at h1
  refine ⟨n, xs[i].1, xs[i].2, h1, List.all_eq_true.2 fun x hx => List.all_eq_true.1 hw x ?_⟩
  rw [DataW.weights, ht]
  refine DataW.weights_mem_each (j := i) (t := f.type) (d := xs[i].1) ?_ ?_ x hx
  · rw [List.getElem?_map, Array.getElem?_toList, hf]; rfl
  · rw [List.getElem?_map, List.getElem?_eq_getElem hi]; rfl
theorem Rd.field {fs : Array Field} {α : Type} {r : Rep α} {sz : Nat} (ht : P.underlying t = some (.struct fs)) {H : Type} {enc : TypeId × Value → H} {fuel : Nat} {cs : List Value} {d : DataW H} {ps : List MemPlace} (h : DataW.trod enc P W 0 (fun _ => true) true fuel t cs = some (d, ps)) (hw : Wt P t d)
    (i : Nat) {f : Field} (hf : fs[i]? = some f) (hc : P.cellsOf f.type = sz) (hr : Rd P W f.type r sz) : ∃ z, r (memOf W) ((cs.drop f.offset).take sz) z := by
  obtain ⟨n, d', ps', h1, h2⟩ := (Rd.parts ht h hw).2 i f hf
  rw [hc] at h1
  exact (hr H enc n _ d' ps' h1 h2).2
end
end Go.Proofs.YtipmgkhjoekaaaaGreat.Fw
namespace Go.Proofs.YtipmgkhjoekaaaaGreat
open Go Go.RowKit Go.Proofs Go.ChangeShapes Go.WideShapes Go.Proofs.YtipmgkhjoekaaaaGreat.Fw
section
variable {W : World}
theorem rd_ints : Rd Tryz.prog W 22 (rS rI 1) 1 := Rd.slice Tryz.underlying22 (by kernel_rfl) (by kernel_rfl) (Rd.i64 Tryz.underlying3)
theorem rd_op : Rd Tryz.prog W 51 rOp 6 := fun H enc fuel cs d ps h hw => by
  have hl := (Rd.parts Tryz.underlying51 h hw).1
  rw [show Tryz.prog.cellsOf 51 = 6 by kernel_rfl] at hl
  obtain ⟨k, h0, i0⟩ := Rd.field Tryz.underlying51 h hw 0 rfl (sz := 1) (by kernel_rfl) (Rd.i64 Tryz.underlying3)
  obtain ⟨b, h1, i1⟩ := Rd.field Tryz.underlying51 h hw 1 rfl (sz := 1) (by kernel_rfl) (Rd.i64 Tryz.underlying3)
  obtain ⟨l, h2, i2⟩ := Rd.field Tryz.underlying51 h hw 2 rfl (sz := 1) (by kernel_rfl) (Rd.i64 Tryz.underlying3)
  obtain ⟨dst, h3, i3⟩ := Rd.field Tryz.underlying51 h hw 3 rfl (sz := 1) (by kernel_rfl) (Rd.i64 Tryz.underlying3)
  obtain ⟨as', A, c, h4, i4⟩ := Rd.field Tryz.underlying51 h hw 4 rfl (sz := 1) (by kernel_rfl) rd_ints
  obtain ⟨im, h5, i5⟩ := Rd.field Tryz.underlying51 h hw 5 rfl (sz := 1) (by kernel_rfl) (Rd.u64 Tryz.underlying49)
  refine ⟨hl, ⟨k, b, l, dst, as', im⟩, A, c, ?_, i4, i0, i1, i2, i3, i5⟩
  match cs, hl with
  | [c0, c1, c2, c3, c4, c5], _ =>
    simp at h0 h1 h2 h3 h4 h5
    rw [h0, h1, h2, h3, h4, h5]
theorem rd_phi : Rd Tryz.prog W 61 rPhi 4 := fun H enc fuel cs d ps h hw => by
  have hl := (Rd.parts Tryz.underlying61 h hw).1
  rw [show Tryz.prog.cellsOf 61 = 4 by kernel_rfl] at hl
  obtain ⟨k, h0, i0⟩ := Rd.field Tryz.underlying61 h hw 0 rfl (sz := 1) (by kernel_rfl) (Rd.i64 Tryz.underlying3)
  obtain ⟨b, h1, i1⟩ := Rd.field Tryz.underlying61 h hw 1 rfl (sz := 1) (by kernel_rfl) (Rd.i64 Tryz.underlying3)
  obtain ⟨fr, A, c, h2, i2⟩ := Rd.field Tryz.underlying61 h hw 2 rfl (sz := 1) (by kernel_rfl) rd_ints
  obtain ⟨ar, A', c', h3, i3⟩ := Rd.field Tryz.underlying61 h hw 3 rfl (sz := 1) (by kernel_rfl) rd_ints
  refine ⟨hl, ⟨k, b, fr, ar⟩, A, c, A', c', ?_, i2, i3, i0, i1⟩
  match cs, hl with
  | [c0, c1, c2, c3], _ =>
    simp at h0 h1 h2 h3
    rw [h0, h1, h2, h3]
def rEnd : Rep FEnd := fun m es e => ∃ A c, es = [.int .i64 e.kind, .int .i64 e.arg, .slice A e.to.length c] ∧ Ints m A c e.to ∧ I64 e.kind ∧ I64 e.arg
theorem rd_end : Rd Tryz.prog W 42 rEnd 3 := fun H enc fuel cs d ps h hw => by
  have hl := (Rd.parts Tryz.underlying42 h hw).1
  rw [show Tryz.prog.cellsOf 42 = 3 by kernel_rfl] at hl
  obtain ⟨k, h0, i0⟩ := Rd.field Tryz.underlying42 h hw 0 rfl (sz := 1) (by kernel_rfl) (Rd.i64 Tryz.underlying3)
  obtain ⟨b, h1, i1⟩ := Rd.field Tryz.underlying42 h hw 1 rfl (sz := 1) (by kernel_rfl) (Rd.i64 Tryz.underlying3)
  obtain ⟨to, A, c, h2, i2⟩ := Rd.field Tryz.underlying42 h hw 2 rfl (sz := 1) (by kernel_rfl) rd_ints
  refine ⟨hl, ⟨k, b, to⟩, A, c, ?_, i2, i0, i1⟩
  match cs, hl with
  | [c0, c1, c2], _ =>
    simp at h0 h1 h2
    rw [h0, h1, h2]
theorem rd_block : Rd Tryz.prog W 44 rBlock 5 := fun H enc fuel cs d ps h hw => by
  have hl := (Rd.parts Tryz.underlying44 h hw).1
  rw [show Tryz.prog.cellsOf 44 = 5 by kernel_rfl] at hl
  obtain ⟨ph, A, c, h0, i0⟩ := Rd.field Tryz.underlying44 h hw 0 rfl (sz := 1) (by kernel_rfl) (Rd.slice Tryz.underlying39 (sz := 4) (by kernel_rfl) (by kernel_rfl) rd_phi)
  obtain ⟨os, A', c', h1, i1⟩ := Rd.field Tryz.underlying44 h hw 1 rfl (sz := 1) (by kernel_rfl) (Rd.slice Tryz.underlying40 (sz := 6) (by kernel_rfl) (by kernel_rfl) rd_op)
  obtain ⟨e, A'', c'', h2, i2, i3, i4⟩ := Rd.field Tryz.underlying44 h hw 2 rfl (sz := 3) (by kernel_rfl) rd_end
  refine ⟨hl, ⟨ph, os, e⟩, A, c, A', c', A'', c'', ?_, i0, i1, i2, i3, i4⟩
  match cs, hl with
  | [c0, c1, c2, c3, c4], _ =>
    simp at h0 h1 h2
    rw [h0, h1, h2.1, h2.2.1, h2.2.2]
theorem rd_func : Rd Tryz.prog W 25 rFunc 3 := fun H enc fuel cs d ps h hw => by
  have hl := (Rd.parts Tryz.underlying25 h hw).1
  rw [show Tryz.prog.cellsOf 25 = 3 by kernel_rfl] at hl
  obtain ⟨ps', A, c, h0, i0⟩ := Rd.field Tryz.underlying25 h hw 0 rfl (sz := 1) (by kernel_rfl) rd_ints
  obtain ⟨r, h1, i1⟩ := Rd.field Tryz.underlying25 h hw 1 rfl (sz := 1) (by kernel_rfl) (Rd.i64 Tryz.underlying3)
  obtain ⟨bs, A', c', h2, i2⟩ := Rd.field Tryz.underlying25 h hw 2 rfl (sz := 1) (by kernel_rfl) (Rd.slice Tryz.underlying23 (sz := 5) (by kernel_rfl) (by kernel_rfl) rd_block)
  refine ⟨hl, ⟨ps', r, bs⟩, A, c, A', c', ?_, i0, i2, i1⟩
  match cs, hl with
  | [c0, c1, c2], _ =>
    simp at h0 h1 h2
    rw [h0, h1, h2]
structure FAsk where
  block : Int
  at_ : Int
  order : List Int
def rAsk : Rep FAsk := fun m es a => ∃ A c, es = [.int .i64 a.block, .int .i64 a.at_, .slice A a.order.length c] ∧ Ints m A c a.order ∧ I64 a.block ∧ I64 a.at_
theorem rd_ask : Rd Tryz.prog W 27 rAsk 3 := fun H enc fuel cs d ps h hw => by
  have hl := (Rd.parts Tryz.underlying27 h hw).1
  rw [show Tryz.prog.cellsOf 27 = 3 by kernel_rfl] at hl
  obtain ⟨k, h0, i0⟩ := Rd.field Tryz.underlying27 h hw 0 rfl (sz := 1) (by kernel_rfl) (Rd.i64 Tryz.underlying3)
  obtain ⟨b, h1, i1⟩ := Rd.field Tryz.underlying27 h hw 1 rfl (sz := 1) (by kernel_rfl) (Rd.i64 Tryz.underlying3)
  obtain ⟨to, A, c, h2, i2⟩ := Rd.field Tryz.underlying27 h hw 2 rfl (sz := 1) (by kernel_rfl) rd_ints
  refine ⟨hl, ⟨k, b, to⟩, A, c, ?_, i2, i0, i1⟩
  match cs, hl with
  | [c0, c1, c2], _ =>
    simp at h0 h1 h2
    rw [h0, h1, h2]
theorem arg_struct {P : Program} {t : TypeId} {fs : Array Field} {α : Type} {r : Rep α} {sz : Nat} {H : Type} {enc : TypeId × Value → H} {v : Value} {d : DataW H} {ps : List MemPlace} {rr : Reach} {b0 : Nat} (ht : P.underlying t = some (.struct fs)) (hv : Value.okWide P W rr b0 t v) (hd : DataW.Trod enc P W 0 (fun _ => true) true t v d ps) (hw : Wt P t d) (hR : Rd P W t r sz) :
    ∃ es z, v = .agg es.toArray ∧ r (memOf W) es z := by
  obtain ⟨cs, rfl, _⟩ := okWide_struct ht hv
  obtain ⟨fuel, hf⟩ := hd
  obtain ⟨_, z, hz⟩ := hR H enc fuel _ d ps hf hw
  exact ⟨_, z, by simp [Value.cells], hz⟩
theorem trod_places {P : Program} {t : TypeId} {H : Type} {enc : TypeId × Value → H} {v : Value} {d : DataW H} {ps : List MemPlace} (hd : DataW.Trod enc P W 0 (fun _ => true) true t v d ps) : ∀ x ∈ ps, x.block < W.heap.size := by
  obtain ⟨m, hm⟩ := hd; exact DataW.trod_lt m _ _ _ hm
theorem lawOwn : ownKnob Tryz.prog.godebug = none := by kernel_rfl
theorem lawLaidOut : laidOutB Tryz.prog = true := by kernel_rfl
end
end Go.Proofs.YtipmgkhjoekaaaaGreat
