/- A part of a proof about a given program: rules, plain functions and walks. -/
import Derived.Test.YtipmgkhjoekaaaaGreatYd
set_option linter.unusedVariables false
set_option linter.unusedSimpArgs false
set_option maxHeartbeats 200000000
namespace Go.Proofs.YtipmgkhjoekaaaaGreat
open Go Go.RowKit Go.Proofs Go.Proofs.YtipmgkhjoekaaaaGreat.Fw
attribute [local irreducible] Qt WL CW NX RX EX GX DL
namespace T
theorem hb127 : hasBody Tryz.prog 127 = true := by kernel_rfl
theorem hb128 : hasBody Tryz.prog 128 = true := by kernel_rfl
theorem hb129 : hasBody Tryz.prog 129 = true := by kernel_rfl
theorem hb179 : hasBody Tryz.prog 179 = true := by kernel_rfl
theorem hb59 : hasBody Tryz.prog 59 = true := by kernel_rfl
theorem hb93 : hasBody Tryz.prog 93 = true := by kernel_rfl
end T
theorem rArgs_q {m : Imm} {es : List Value} {o : FOp} (hO : rOp m es o) : Quiet Tryz.prog 128 [.agg es.toArray] m (.int .i64 (argsP o)) := by
 have hO_0 := hO
 obtain ⟨A90, c90, rfl, h90, i90a, i90b, i90c, i90d, i90e⟩ := hO_0
 refine quiet_of Tryz.func128 rfl Tryz.ntmps128 rfl (fun w => ?_)
 refine sq (rg ?_)
 refine S_box (l := [_, _, _, _, _, _]) rfl rfl rfl (fun b1 => ?_)
 refine as_ ?_
 refine wn (kk2 [1,2] (sq (sq (rg ?_))))
 refine fb 0 T.fo51_0 (lb 0 T.ag3 ?_)
 refine wn (kk3 [1,2,4] (bk (sq (rg ?_))))
 refine be (as_ ?_)
 refine wn (kk4 [1,2,4,5] ?_)
 refine cd ?_ ?_ <;> intro h2 <;> try simp only [tt] at h2
 refine sq (rg ?_)
 refine as_ ?_
 refine wn (kk1 [2] ?_)
 refine C_ret (RX_block (RX_then (RX_q1 rfl rfl ?_)))
 refine congrArg (Value.int .i64) ?_
 simp only [argsP]
 repeat (first | rw [if_pos (by omega)] | rw [if_neg (by omega)])
 refine sq (sq (rg ?_))
 refine be (as_ ?_)
 refine wn (kk4 [1,2,4,7] ?_)
 refine cd ?_ ?_ <;> intro h3 <;> try simp only [tt] at h3
 refine sk (kk4 [1,2,4,7] ?_)
 refine ctz (sq (rg ?_))
 refine as_ ?_
 refine wn (kk1 [2] ?_)
 refine C_ret (RX_block (RX_then (RX_q1 rfl rfl ?_)))
 refine congrArg (Value.int .i64) ?_
 simp only [argsP]
 repeat (first | rw [if_pos (by omega)] | rw [if_neg (by omega)])
 refine sq (rg ?_)
 refine be (as_ ?_)
 refine wn (kk4 [1,2,4,7] ?_)
 refine cd ?_ ?_ <;> intro h4 <;> try simp only [tt] at h4
 refine sk (kk4 [1,2,4,7] ?_)
 refine ctz (sq (rg ?_))
 refine as_ ?_
 refine wn (kk1 [2] ?_)
 refine C_ret (RX_block (RX_then (RX_q1 rfl rfl ?_)))
 refine congrArg (Value.int .i64) ?_
 simp only [argsP]
 repeat (first | rw [if_pos (by omega)] | rw [if_neg (by omega)])
 refine sq (rg ?_)
 refine be (as_ ?_)
 refine wn (kk4 [1,2,4,7] ?_)
 refine cd ?_ ?_ <;> intro h5 <;> try simp only [tt] at h5
 refine sk (kk4 [1,2,4,7] ?_)
 refine ctz (sq (rg ?_))
 refine as_ ?_
 refine wn (kk1 [2] ?_)
 refine C_ret (RX_block (RX_then (RX_q1 rfl rfl ?_)))
 refine congrArg (Value.int .i64) ?_
 simp only [argsP]
 repeat (first | rw [if_pos (by omega)] | rw [if_neg (by omega)])
 refine sq (rg ?_)
 refine be (as_ ?_)
 refine wn (kk4 [1,2,4,7] ?_)
 refine cd ?_ ?_ <;> intro h6 <;> try simp only [tt] at h6
 refine sk (kk4 [1,2,4,7] ?_)
 refine ctz (sq (rg ?_))
 refine as_ ?_
 refine wn (kk1 [2] ?_)
 refine C_ret (RX_block (RX_then (RX_q1 rfl rfl ?_)))
 refine congrArg (Value.int .i64) ?_
 simp only [argsP]
 repeat (first | rw [if_pos (by omega)] | rw [if_neg (by omega)])
 refine sq (rg ?_)
 refine be (as_ ?_)
 refine wn (kk4 [1,2,4,7] ?_)
 refine cd ?_ ?_ <;> intro h7 <;> try simp only [tt] at h7
 refine sk (kk4 [1,2,4,7] ?_)
 refine ctz (sq (rg ?_))
 refine as_ ?_
 refine wn (kk1 [2] ?_)
 refine C_ret (RX_block (RX_then (RX_q1 rfl rfl ?_)))
 refine congrArg (Value.int .i64) ?_
 simp only [argsP]
 repeat (first | rw [if_pos (by omega)] | rw [if_neg (by omega)])
 refine sq (rg ?_)
 refine be (as_ ?_)
 refine wn (kk4 [1,2,4,7] ?_)
 refine cd ?_ ?_ <;> intro h8 <;> try simp only [tt] at h8
 refine sk (kk4 [1,2,4,7] ?_)
 refine ctz (sq (rg ?_))
 refine as_ ?_
 refine wn (kk1 [2] ?_)
 refine C_ret (RX_block (RX_then (RX_q1 rfl rfl ?_)))
 refine congrArg (Value.int .i64) ?_
 simp only [argsP]
 repeat (first | rw [if_pos (by omega)] | rw [if_neg (by omega)])
 refine sq (rg ?_)
 refine be (as_ ?_)
 refine wn (kk4 [1,2,4,7] ?_)
 refine cd ?_ ?_ <;> intro h9 <;> try simp only [tt] at h9
 refine sk (kk4 [1,2,4,7] ?_)
 refine ctz (sq (rg ?_))
 refine as_ ?_
 refine wn (kk1 [2] ?_)
 refine C_ret (RX_block (RX_then (RX_q1 rfl rfl ?_)))
 refine congrArg (Value.int .i64) ?_
 simp only [argsP]
 repeat (first | rw [if_pos (by omega)] | rw [if_neg (by omega)])
 refine sq (rg ?_)
 refine be (as_ ?_)
 refine wn (kk4 [1,2,4,7] ?_)
 refine cd ?_ ?_ <;> intro h10 <;> try simp only [tt] at h10
 refine sk (kk4 [1,2,4,7] ?_)
 refine ctz (sq (rg ?_))
 refine as_ ?_
 refine wn (kk1 [2] ?_)
 refine C_ret (RX_block (RX_then (RX_q1 rfl rfl ?_)))
 refine congrArg (Value.int .i64) ?_
 simp only [argsP]
 repeat (first | rw [if_pos (by omega)] | rw [if_neg (by omega)])
 refine sq (rg ?_)
 refine be (as_ ?_)
 refine wn (kk4 [1,2,4,7] ?_)
 refine cd ?_ ?_ <;> intro h11 <;> try simp only [tt] at h11
 refine sk (kk4 [1,2,4,7] ?_)
 refine ctz (sq (rg ?_))
 refine as_ ?_
 refine wn (kk1 [2] ?_)
 refine C_ret (RX_block (RX_then (RX_q1 rfl rfl ?_)))
 refine congrArg (Value.int .i64) ?_
 simp only [argsP]
 repeat (first | rw [if_pos (by omega)] | rw [if_neg (by omega)])
 refine sq (rg ?_)
 refine be (as_ ?_)
 refine wn (kk4 [1,2,4,7] ?_)
 refine cd ?_ ?_ <;> intro h12 <;> try simp only [tt] at h12
 refine sk (kk4 [1,2,4,7] ?_)
 refine ctz (sq (rg ?_))
 refine as_ ?_
 refine wn (kk1 [2] ?_)
 refine C_ret (RX_block (RX_then (RX_q1 rfl rfl ?_)))
 refine congrArg (Value.int .i64) ?_
 simp only [argsP]
 repeat (first | rw [if_pos (by omega)] | rw [if_neg (by omega)])
 refine sq (rg ?_)
 refine be (as_ ?_)
 refine wn (kk4 [1,2,4,7] ?_)
 refine cd ?_ ?_ <;> intro h13 <;> try simp only [tt] at h13
 refine sk (kk4 [1,2,4,7] ?_)
 refine ctz (sq (rg ?_))
 refine as_ ?_
 refine wn (kk1 [2] ?_)
 refine C_ret (RX_block (RX_then (RX_q1 rfl rfl ?_)))
 refine congrArg (Value.int .i64) ?_
 simp only [argsP]
 repeat (first | rw [if_pos (by omega)] | rw [if_neg (by omega)])
 refine sq (rg ?_)
 refine be (as_ ?_)
 refine wn (kk4 [1,2,4,7] ?_)
 refine cd ?_ ?_ <;> intro h14 <;> try simp only [tt] at h14
 refine sk (kk4 [1,2,4,7] ?_)
 refine ctz (sq (rg ?_))
 refine as_ ?_
 refine wn (kk1 [2] ?_)
 refine C_ret (RX_block (RX_then (RX_q1 rfl rfl ?_)))
 refine congrArg (Value.int .i64) ?_
 simp only [argsP]
 repeat (first | rw [if_pos (by omega)] | rw [if_neg (by omega)])
 refine rg ?_
 refine be (as_ ?_)
 refine wn (kk4 [1,2,4,7] ?_)
 refine cd ?_ ?_ <;> intro h15 <;> try simp only [tt] at h15
 refine sq (rg ?_)
 refine as_ ?_
 refine wn (kk1 [2] ?_)
 refine C_ret (RX_block (RX_then (RX_q1 rfl rfl ?_)))
 refine congrArg (Value.int .i64) ?_
 simp only [argsP]
 repeat (first | rw [if_pos (by omega)] | rw [if_neg (by omega)])
 refine sq (sq (rg ?_))
 refine be (as_ ?_)
 refine wn (kk4 [1,2,4,21] ?_)
 refine cd ?_ ?_ <;> intro h16 <;> try simp only [tt] at h16
 refine sk (kk4 [1,2,4,21] ?_)
 refine ctz (sq (rg ?_))
 refine as_ ?_
 refine wn (kk1 [2] ?_)
 refine C_ret (RX_block (RX_then (RX_q1 rfl rfl ?_)))
 refine congrArg (Value.int .i64) ?_
 simp only [argsP]
 repeat (first | rw [if_pos (by omega)] | rw [if_neg (by omega)])
 refine sq (rg ?_)
 refine be (as_ ?_)
 refine wn (kk4 [1,2,4,21] ?_)
 refine cd ?_ ?_ <;> intro h17 <;> try simp only [tt] at h17
 refine sk (kk4 [1,2,4,21] ?_)
 refine ctz (sq (rg ?_))
 refine as_ ?_
 refine wn (kk1 [2] ?_)
 refine C_ret (RX_block (RX_then (RX_q1 rfl rfl ?_)))
 refine congrArg (Value.int .i64) ?_
 simp only [argsP]
 repeat (first | rw [if_pos (by omega)] | rw [if_neg (by omega)])
 refine rg ?_
 refine be (as_ ?_)
 refine wn (kk4 [1,2,4,21] ?_)
 refine cd ?_ ?_ <;> intro h18 <;> try simp only [tt] at h18
 refine sq (rg ?_)
 refine as_ ?_
 refine wn (kk1 [2] ?_)
 refine C_ret (RX_block (RX_then (RX_q1 rfl rfl ?_)))
 refine congrArg (Value.int .i64) ?_
 simp only [argsP]
 repeat (first | rw [if_pos (by omega)] | rw [if_neg (by omega)])
 refine sq (sq (rg ?_))
 refine be (as_ ?_)
 refine wn (kk4 [1,2,4,25] ?_)
 refine cd ?_ ?_ <;> intro h19 <;> try simp only [tt] at h19
 refine sk (kk4 [1,2,4,25] ?_)
 refine ctz (sq (rg ?_))
 refine as_ ?_
 refine wn (kk1 [2] ?_)
 refine C_ret (RX_block (RX_then (RX_q1 rfl rfl ?_)))
 refine congrArg (Value.int .i64) ?_
 simp only [argsP]
 repeat (first | rw [if_pos (by omega)] | rw [if_neg (by omega)])
 refine sq (rg ?_)
 refine be (as_ ?_)
 refine wn (kk4 [1,2,4,25] ?_)
 refine cd ?_ ?_ <;> intro h20 <;> try simp only [tt] at h20
 refine sk (kk4 [1,2,4,25] ?_)
 refine ctz (sq (rg ?_))
 refine as_ ?_
 refine wn (kk1 [2] ?_)
 refine C_ret (RX_block (RX_then (RX_q1 rfl rfl ?_)))
 refine congrArg (Value.int .i64) ?_
 simp only [argsP]
 repeat (first | rw [if_pos (by omega)] | rw [if_neg (by omega)])
 refine sq (rg ?_)
 refine be (as_ ?_)
 refine wn (kk4 [1,2,4,25] ?_)
 refine cd ?_ ?_ <;> intro h21 <;> try simp only [tt] at h21
 refine sk (kk4 [1,2,4,25] ?_)
 refine ctz (sq (rg ?_))
 refine as_ ?_
 refine wn (kk1 [2] ?_)
 refine C_ret (RX_block (RX_then (RX_q1 rfl rfl ?_)))
 refine congrArg (Value.int .i64) ?_
 simp only [argsP]
 repeat (first | rw [if_pos (by omega)] | rw [if_neg (by omega)])
 refine rg ?_
 refine be (as_ ?_)
 refine wn (kk4 [1,2,4,25] ?_)
 refine cd ?_ ?_ <;> intro h22 <;> try simp only [tt] at h22
 refine sq (rg ?_)
 refine as_ ?_
 refine wn (kk1 [2] ?_)
 refine C_ret (RX_block (RX_then (RX_q1 rfl rfl ?_)))
 refine congrArg (Value.int .i64) ?_
 simp only [argsP]
 repeat (first | rw [if_pos (by omega)] | rw [if_neg (by omega)])
 refine sq (rg ?_)
 refine be (as_ ?_)
 refine wn (kk4 [1,2,4,30] ?_)
 refine cd ?_ ?_ <;> intro h23 <;> try simp only [tt] at h23
 refine sq (rg ?_)
 refine as_ ?_
 refine wn (kk1 [2] ?_)
 refine C_ret (RX_block (RX_then (RX_q1 rfl rfl ?_)))
 refine congrArg (Value.int .i64) ?_
 simp only [argsP]
 repeat (first | rw [if_pos (by omega)] | rw [if_neg (by omega)])
 refine sq (rg ?_)
 refine be (as_ ?_)
 refine wn (kk3 [1,2,32] ?_)
 refine cd ?_ ?_ <;> intro h24 <;> try simp only [tt] at h24
 refine sq (rg ?_)
 refine fb 2 T.fo51_2 (lb 0 T.ag3 (as_ ?_))
 refine wn (kk1 [2] ?_)
 refine C_ret (RX_block (RX_then (RX_q1 rfl rfl ?_)))
 refine congrArg (Value.int .i64) ?_
 simp only [argsP]
 repeat (first | rw [if_pos (by omega)] | rw [if_neg (by omega)])
 refine sk (nb (kk1 [2] (sq (rg ?_))))
 refine as_ ?_
 refine wn (kk1 [2] ?_)
 refine C_ret (RX_q1 rfl rfl ?_)
 refine congrArg (Value.int .i64) ?_
 simp only [argsP]
 repeat (first | rw [if_pos (by omega)] | rw [if_neg (by omega)])
theorem rFits_q {m : Imm} {es : List Value} {o : FOp} (hO : rOp m es o) (hS : shapeB o.bits o.lanes = true) : Quiet Tryz.prog 129 [.agg es.toArray] m (.bool (fitsP o)) := by
 have hO_0 := hO
 obtain ⟨A90, c90, rfl, h90, i90a, i90b, i90c, i90d, i90e⟩ := hO_0
 have hb := shapeB_bits hS
 have hU : 0 ≤ o.imm ∧ o.imm ≤ 18446744073709551615 := i90e
 refine quiet_of Tryz.func129 rfl Tryz.ntmps129 rfl (fun w => ?_)
 refine sq (rg ?_)
 refine S_box (l := [_, _, _, _, _, _]) rfl rfl rfl (fun b1 => ?_)
 refine as_ ?_
 refine wn (kk2 [1,2] (sq (rg ?_)))
 refine fb 0 T.fo51_0 (lb 0 T.ag3 (as_ ?_))
 refine wn (kk3 [1,2,3] (sq ?_))
 refine CW_cutV (Value.bool) 31 [1, 2, 3] (F := [(1, _), (2, _), (3, _)]) rfl (fun x2 => x2 = oneL o.kind) ?_ (fun x2 hC2 => ?_)
 refine rg ?_
 refine mv (be (mv ?_))
 refine sp 8 ?_ ?_ <;> intro h3 <;> try simp only [tt] at h3
 refine ps (ps (ps (puz (puz (ps ?_)))))
 refine pt (mv ?_)
 refine ps (ps ?_)
 refine pt (mv ?_)
 refine ps (ps ?_)
 refine pt (mv ?_)
 refine ps (ps (ps (puz (puz (ps ?_)))))
 refine pt ?_
 refine wn ?_
 refine NX_cutV (true) [31, 1, 2, 3] rfl ?_
 simp [oneL, *]
 refine tk (mv ?_)
 refine tk (bh ?_)
 refine tk (mv ?_)
 refine sp 11 ?_ ?_ <;> intro h4 <;> try simp only [tt] at h4
 refine tk (mv ?_)
 refine tk (bq ?_)
 refine tk (pt (pf (mv ?_)))
 refine sp 16 ?_ ?_ <;> intro h5 <;> try simp only [tt] at h5
 refine ps (ps ?_)
 refine pt (mv ?_)
 refine ps (ps ?_)
 refine pt (mv ?_)
 refine ps (ps (ps (puz (puz (ps ?_)))))
 refine pt ?_
 refine wn ?_
 refine NX_cutV (true) [31, 1, 2, 3] rfl ?_
 simp [oneL, *]
 refine tk (mv ?_)
 refine tk (be (pf (mv ?_)))
 refine sp 20 ?_ ?_ <;> intro h6 <;> try simp only [tt] at h6
 refine ps (ps ?_)
 refine pt (mv ?_)
 refine ps (ps (ps (puz (puz (ps ?_)))))
 refine pt ?_
 refine wn ?_
 refine NX_cutV (true) [31, 1, 2, 3] rfl ?_
 simp [oneL, *]
 refine tk (mv ?_)
 refine tk (be (pf (mv ?_)))
 refine sp 24 ?_ ?_ <;> intro h7 <;> try simp only [tt] at h7
 refine ps (ps (ps (puz (puz (ps ?_)))))
 refine pt ?_
 refine wn ?_
 refine NX_cutV (true) [31, 1, 2, 3] rfl ?_
 simp [oneL, *]
 refine tk (mv ?_)
 refine tk (bh ?_)
 refine tk (mv ?_)
 refine sp 27 ?_ ?_ <;> intro h8 <;> try simp only [tt] at h8
 refine tk (mv ?_)
 refine tk (bq ?_)
 refine tk (pt (pf ?_))
 refine wn ?_
 refine NX_cutV (_) [31, 1, 2, 3] rfl ?_
 simp [oneL, *]
 refine ps (ps (tk (pf (pf ?_))))
 refine wn ?_
 refine NX_cutV (false) [31, 1, 2, 3] rfl ?_
 simp [oneL, *]
 refine ps (ps (tk (pf (pf (mv ?_)))))
 refine tk (mv ?_)
 refine tk (be (pf (mv ?_)))
 refine sp 20 ?_ ?_ <;> intro h9 <;> try simp only [tt] at h9
 refine ps (ps ?_)
 refine pt (mv ?_)
 refine ps (ps (ps (puz (puz (ps ?_)))))
 refine pt ?_
 refine wn ?_
 refine NX_cutV (true) [31, 1, 2, 3] rfl ?_
 simp [oneL, *]
 refine tk (mv ?_)
 refine tk (be (pf (mv ?_)))
 refine sp 24 ?_ ?_ <;> intro h10 <;> try simp only [tt] at h10
 refine ps (ps (ps (puz (puz (ps ?_)))))
 refine pt ?_
 refine wn ?_
 refine NX_cutV (true) [31, 1, 2, 3] rfl ?_
 simp [oneL, *]
 refine tk (mv ?_)
 refine tk (bh ?_)
 refine tk (mv ?_)
 refine sp 27 ?_ ?_ <;> intro h11 <;> try simp only [tt] at h11
 refine tk (mv ?_)
 refine tk (bq ?_)
 refine tk (pt (pf ?_))
 refine wn ?_
 refine NX_cutV (_) [31, 1, 2, 3] rfl ?_
 simp [oneL, *]
 refine ps (ps (tk (pf (pf ?_))))
 refine wn ?_
 refine NX_cutV (false) [31, 1, 2, 3] rfl ?_
 simp [oneL, *]
 refine cd ?_ ?_ <;> intro h12 <;> try simp only [tt] at h12
 refine sq (rg ?_)
 refine fb 2 T.fo51_2 (lb 0 T.ag3 (bn ?_))
 refine wn (kk4 [1,2,3,34] ?_)
 refine cd ?_ ?_ <;> intro h13 <;> try simp only [tt] at h13
 refine sq (rg ?_)
 refine as_ ?_
 refine wn (kk3 [1,2,3] ?_)
 refine C_ret (RX_then (RX_q1 rfl rfl ?_))
 refine congrArg Value.bool ?_
 simp_all [fitsP, immP]
 refine sk (kk3 [1,2,3] (sq ?_))
 refine CW_cutV (Value.bool) 54 [1, 2, 3] (F := [(1, _), (2, _), (3, _)]) rfl (fun x14 => x14 = lowB o) ?_ (fun x14 hC14 => ?_)
 refine rg ?_
 refine mv (bh (mv ?_))
 refine sp 37 ?_ ?_ <;> intro h15 <;> try simp only [tt] at h15
 refine tk (mv ?_)
 refine tk (bq (pt (mv ?_)))
 refine sp 41 ?_ ?_ <;> intro h16 <;> try simp only [tt] at h16
 refine tk (fb 1 T.fo51_1 ?_)
 refine tk (lb 0 T.ag3 ?_)
 refine tk (bl (pt (mv ?_)))
 refine sp 46 ?_ ?_ <;> intro h17 <;> try simp only [tt] at h17
 refine ps (ps (ps (puz (puz (puz (ps ?_))))))
 refine pt ?_
 refine wn ?_
 refine NX_cutV (true) [54, 1, 2, 3] rfl ?_
 simp [lowB, *]
 refine tk (mv ?_)
 refine tk (bh ?_)
 refine tk (mv ?_)
 refine sp 49 ?_ ?_ <;> intro h18 <;> try simp only [tt] at h18
 refine tk (fb 2 T.fo51_2 ?_)
 refine tk (lb 0 T.ag3 ?_)
 refine tk (bl ?_)
 refine tk (pt (pf ?_))
 refine wn ?_
 refine NX_cutV (_) [54, 1, 2, 3] rfl ?_
 simp [lowB, *]
 refine ps (ps (ps (tk (pf (pf ?_)))))
 refine wn ?_
 refine NX_cutV (false) [54, 1, 2, 3] rfl ?_
 simp [lowB, *]
 refine ps (ps (ps ?_))
 refine pf (mv ?_)
 refine tk (mv ?_)
 refine tk (bh ?_)
 refine tk (mv ?_)
 refine sp 49 ?_ ?_ <;> intro h19 <;> try simp only [tt] at h19
 refine tk (fb 2 T.fo51_2 ?_)
 refine tk (lb 0 T.ag3 ?_)
 refine tk (bl ?_)
 refine tk (pt (pf ?_))
 refine wn ?_
 refine NX_cutV (_) [54, 1, 2, 3] rfl ?_
 simp [lowB, *]
 refine ps (ps (ps (tk (pf (pf ?_)))))
 refine wn ?_
 refine NX_cutV (false) [54, 1, 2, 3] rfl ?_
 simp [lowB, *]
 refine ps (ps ?_)
 refine pf (mv ?_)
 refine ps (ps (ps ?_))
 refine pf (mv ?_)
 refine tk (mv ?_)
 refine tk (bh ?_)
 refine tk (mv ?_)
 refine sp 49 ?_ ?_ <;> intro h20 <;> try simp only [tt] at h20
 refine tk (fb 2 T.fo51_2 ?_)
 refine tk (lb 0 T.ag3 ?_)
 refine tk (bl ?_)
 refine tk (pt (pf ?_))
 refine wn ?_
 refine NX_cutV (_) [54, 1, 2, 3] rfl ?_
 simp [lowB, *]
 refine ps (ps (ps (tk (pf (pf ?_)))))
 refine wn ?_
 refine NX_cutV (false) [54, 1, 2, 3] rfl ?_
 simp [lowB, *]
 refine cd ?_ ?_ <;> intro h21 <;> try simp only [tt] at h21
 refine sq (rg ?_)
 refine as_ ?_
 refine wn (kk3 [1,2,3] ?_)
 refine C_ret (RX_then (RX_q1 rfl rfl ?_))
 refine congrArg Value.bool ?_
 simp_all [fitsP, immP]
 refine sk (kk3 [1,2,3] (sq (sq (rg ?_))))
 refine mv ?_
 refine wn (kk3 [1,2,55] (bk (sq (rg ?_))))
 refine be (as_ ?_)
 refine wn (kk4 [1,2,55,56] ?_)
 refine cd ?_ ?_ <;> intro h22 <;> try simp only [tt] at h22
 refine sq ?_
 refine C_drawn [(0, true), (1, true), (2, true), (3, true), (4, true), (5, true), (6, true), (7, true), (8, true)] (by kernel_rfl) rfl (by kernel_rfl) (by kernel_rfl) ?_
 refine dfb 5 T.fo51_5 ?_
 refine dlb 0 T.ag49 ?_
 refine dfb 1 T.fo51_1 ?_
 refine dlb 0 T.ag3 ?_
 refine D_quiet rfl (rCut_q _ _ (by assumption)) T.hb179 rfl rfl ?_
 refine dfb 5 T.fo51_5 ?_
 refine dlb 0 T.ag49 ?_
 refine D_q rfl (r_bin rfl rfl (bin_eql _ _ _ _)) rfl ?_
 refine das ?_
 refine D_end ?_
 refine kk2 [1,2] ?_
 refine C_ret (RX_block (RX_then (RX_q1 rfl rfl ?_)))
 refine congrArg Value.bool ?_
 simp_all [fitsP, immP]
 refine sq (rg ?_)
 refine be (as_ ?_)
 refine wn (kk4 [1,2,55,66] ?_)
 refine cd ?_ ?_ <;> intro h23 <;> try simp only [tt] at h23
 refine sq (rg ?_)
 refine fb 5 T.fo51_5 (lb 0 T.ag49 (fb 1 T.fo51_1 (lb 0 T.ag3 ?_)))
 refine W_q (r_convi Tryz.underlying3 Tryz.underlying49 rfl (u64_of _ ⟨by omega, by omega⟩)) rfl ?_
 refine bl (mv ?_)
 refine sp 74 ?_ ?_ <;> intro h24 <;> try simp only [tt] at h24
 refine tk (fb 5 T.fo51_5 ?_)
 refine tk (lb 0 T.ag49 ?_)
 refine tk ?_
 refine W_q (r_convi Tryz.underlying49 Tryz.underlying3 rfl (i64_of _ ⟨by omega, by omega⟩)) rfl ?_
 refine tk ?_
 refine W_quiet (rMayW_q _) T.hb92 rfl rfl ?_
 refine pt (as_ ?_)
 refine wn (kk2 [1,2] ?_)
 refine C_ret (RX_block (RX_then (RX_q1 rfl rfl ?_)))
 refine congrArg Value.bool ?_
 simp_all [fitsP, immP]
 refine ps (ps (ps (ps ?_)))
 refine pf (as_ ?_)
 refine wn (kk2 [1,2] ?_)
 refine C_ret (RX_block (RX_then (RX_q1 rfl rfl ?_)))
 refine congrArg Value.bool ?_
 refine bool_ext ?_; simp_all [fitsP, immP]; omega
 refine sq (rg ?_)
 refine be (as_ ?_)
 refine wn (kk4 [1,2,55,80] ?_)
 refine cd ?_ ?_ <;> intro h25 <;> try simp only [tt] at h25
 refine sq (rg ?_)
 refine fb 5 T.fo51_5 (lb 0 T.ag49 (fb 1 T.fo51_1 (lb 0 T.ag3 ?_)))
 refine W_q (r_convi Tryz.underlying3 Tryz.underlying49 rfl (u64_of _ ⟨by omega, by omega⟩)) rfl ?_
 refine bg (mv ?_)
 refine sp 88 ?_ ?_ <;> intro h26 <;> try simp only [tt] at h26
 refine tk (fb 5 T.fo51_5 ?_)
 refine tk (lb 0 T.ag49 ?_)
 refine tk (bq (pt (mv ?_)))
 refine sp 93 ?_ ?_ <;> intro h27 <;> try simp only [tt] at h27
 refine tk (fb 5 T.fo51_5 ?_)
 refine tk (lb 0 T.ag49 ?_)
 refine tk ?_
 refine W_q (r_convi Tryz.underlying49 Tryz.underlying3 rfl (i64_of _ ⟨by omega, by omega⟩)) rfl ?_
 refine tk ?_
 refine W_quiet (rMayW_q _) T.hb92 rfl rfl ?_
 refine pt (as_ ?_)
 refine wn (kk2 [1,2] ?_)
 refine C_ret (RX_block (RX_then (RX_q1 rfl rfl ?_)))
 refine congrArg Value.bool ?_
 simp_all [fitsP, immP]
 refine ps (ps (ps (ps ?_)))
 refine pf (as_ ?_)
 refine wn (kk2 [1,2] ?_)
 refine C_ret (RX_block (RX_then (RX_q1 rfl rfl ?_)))
 refine congrArg Value.bool ?_
 refine bool_ext ?_; simp_all [fitsP, immP]; omega
 refine ps (ps (ps ?_))
 refine pf (mv ?_)
 refine ps (ps (ps (ps ?_)))
 refine pf (as_ ?_)
 refine wn (kk2 [1,2] ?_)
 refine C_ret (RX_block (RX_then (RX_q1 rfl rfl ?_)))
 refine congrArg Value.bool ?_
 refine bool_ext ?_; simp_all [fitsP, immP]; omega
 refine sq (rg ?_)
 refine be (as_ ?_)
 refine wn (kk3 [1,2,99] ?_)
 refine cd ?_ ?_ <;> intro h28 <;> try simp only [tt] at h28
 refine sq (rg ?_)
 refine fb 5 T.fo51_5 (lb 0 T.ag49 (fb 2 T.fo51_2 (lb 0 T.ag3 ?_)))
 refine W_q (r_convi Tryz.underlying3 Tryz.underlying49 rfl (u64_of _ ⟨by omega, by omega⟩)) rfl ?_
 refine bl (as_ ?_)
 refine wn (kk2 [1,2] ?_)
 refine C_ret (RX_block (RX_then (RX_q1 rfl rfl ?_)))
 refine congrArg Value.bool ?_
 simp_all [fitsP, immP]
 refine sk (nb (kk2 [1,2] (sq (rg ?_))))
 refine fb 5 T.fo51_5 (lb 0 T.ag49 (be (as_ ?_)))
 refine wn (kk1 [2] ?_)
 refine C_ret (RX_q1 rfl rfl ?_)
 refine congrArg Value.bool ?_
 simp_all [fitsP, immP]
 refine sk (kk3 [1,2,3] (sq ?_))
 refine CW_cutV (Value.bool) 54 [1, 2, 3] (F := [(1, _), (2, _), (3, _)]) rfl (fun x29 => x29 = lowB o) ?_ (fun x29 hC29 => ?_)
 refine rg ?_
 refine mv (bh (mv ?_))
 refine sp 37 ?_ ?_ <;> intro h30 <;> try simp only [tt] at h30
 refine tk (mv ?_)
 refine tk (bq (pt (mv ?_)))
 refine sp 41 ?_ ?_ <;> intro h31 <;> try simp only [tt] at h31
 refine tk (fb 1 T.fo51_1 ?_)
 refine tk (lb 0 T.ag3 ?_)
 refine tk (bl (pt (mv ?_)))
 refine sp 46 ?_ ?_ <;> intro h32 <;> try simp only [tt] at h32
 refine ps (ps (ps (puz (puz (puz (ps ?_))))))
 refine pt ?_
 refine wn ?_
 refine NX_cutV (true) [54, 1, 2, 3] rfl ?_
 simp [lowB, *]
 refine tk (mv ?_)
 refine tk (bh ?_)
 refine tk (mv ?_)
 refine sp 49 ?_ ?_ <;> intro h33 <;> try simp only [tt] at h33
 refine tk (fb 2 T.fo51_2 ?_)
 refine tk (lb 0 T.ag3 ?_)
 refine tk (bl ?_)
 refine tk (pt (pf ?_))
 refine wn ?_
 refine NX_cutV (_) [54, 1, 2, 3] rfl ?_
 simp [lowB, *]
 refine ps (ps (ps (tk (pf (pf ?_)))))
 refine wn ?_
 refine NX_cutV (false) [54, 1, 2, 3] rfl ?_
 simp [lowB, *]
 refine ps (ps (ps ?_))
 refine pf (mv ?_)
 refine tk (mv ?_)
 refine tk (bh ?_)
 refine tk (mv ?_)
 refine sp 49 ?_ ?_ <;> intro h34 <;> try simp only [tt] at h34
 refine tk (fb 2 T.fo51_2 ?_)
 refine tk (lb 0 T.ag3 ?_)
 refine tk (bl ?_)
 refine tk (pt (pf ?_))
 refine wn ?_
 refine NX_cutV (_) [54, 1, 2, 3] rfl ?_
 simp [lowB, *]
 refine ps (ps (ps (tk (pf (pf ?_)))))
 refine wn ?_
 refine NX_cutV (false) [54, 1, 2, 3] rfl ?_
 simp [lowB, *]
 refine ps (ps ?_)
 refine pf (mv ?_)
 refine ps (ps (ps ?_))
 refine pf (mv ?_)
 refine tk (mv ?_)
 refine tk (bh ?_)
 refine tk (mv ?_)
 refine sp 49 ?_ ?_ <;> intro h35 <;> try simp only [tt] at h35
 refine tk (fb 2 T.fo51_2 ?_)
 refine tk (lb 0 T.ag3 ?_)
 refine tk (bl ?_)
 refine tk (pt (pf ?_))
 refine wn ?_
 refine NX_cutV (_) [54, 1, 2, 3] rfl ?_
 simp [lowB, *]
 refine ps (ps (ps (tk (pf (pf ?_)))))
 refine wn ?_
 refine NX_cutV (false) [54, 1, 2, 3] rfl ?_
 simp [lowB, *]
 refine cd ?_ ?_ <;> intro h36 <;> try simp only [tt] at h36
 refine sq (rg ?_)
 refine as_ ?_
 refine wn (kk3 [1,2,3] ?_)
 refine C_ret (RX_then (RX_q1 rfl rfl ?_))
 refine congrArg Value.bool ?_
 simp_all [fitsP, immP]
 refine sk (kk3 [1,2,3] (sq (sq (rg ?_))))
 refine mv ?_
 refine wn (kk3 [1,2,55] (bk (sq (rg ?_))))
 refine be (as_ ?_)
 refine wn (kk4 [1,2,55,56] ?_)
 refine cd ?_ ?_ <;> intro h37 <;> try simp only [tt] at h37
 refine sq ?_
 refine C_drawn [(0, true), (1, true), (2, true), (3, true), (4, true), (5, true), (6, true), (7, true), (8, true)] (by kernel_rfl) rfl (by kernel_rfl) (by kernel_rfl) ?_
 refine dfb 5 T.fo51_5 ?_
 refine dlb 0 T.ag49 ?_
 refine dfb 1 T.fo51_1 ?_
 refine dlb 0 T.ag3 ?_
 refine D_quiet rfl (rCut_q _ _ (by assumption)) T.hb179 rfl rfl ?_
 refine dfb 5 T.fo51_5 ?_
 refine dlb 0 T.ag49 ?_
 refine D_q rfl (r_bin rfl rfl (bin_eql _ _ _ _)) rfl ?_
 refine das ?_
 refine D_end ?_
 refine kk2 [1,2] ?_
 refine C_ret (RX_block (RX_then (RX_q1 rfl rfl ?_)))
 refine congrArg Value.bool ?_
 simp_all [fitsP, immP]
 refine sq (rg ?_)
 refine be (as_ ?_)
 refine wn (kk4 [1,2,55,66] ?_)
 refine cd ?_ ?_ <;> intro h38 <;> try simp only [tt] at h38
 refine sq (rg ?_)
 refine fb 5 T.fo51_5 (lb 0 T.ag49 (fb 1 T.fo51_1 (lb 0 T.ag3 ?_)))
 refine W_q (r_convi Tryz.underlying3 Tryz.underlying49 rfl (u64_of _ ⟨by omega, by omega⟩)) rfl ?_
 refine bl (mv ?_)
 refine sp 74 ?_ ?_ <;> intro h39 <;> try simp only [tt] at h39
 refine tk (fb 5 T.fo51_5 ?_)
 refine tk (lb 0 T.ag49 ?_)
 refine tk ?_
 refine W_q (r_convi Tryz.underlying49 Tryz.underlying3 rfl (i64_of _ ⟨by omega, by omega⟩)) rfl ?_
 refine tk ?_
 refine W_quiet (rMayW_q _) T.hb92 rfl rfl ?_
 refine pt (as_ ?_)
 refine wn (kk2 [1,2] ?_)
 refine C_ret (RX_block (RX_then (RX_q1 rfl rfl ?_)))
 refine congrArg Value.bool ?_
 simp_all [fitsP, immP]
 refine ps (ps (ps (ps ?_)))
 refine pf (as_ ?_)
 refine wn (kk2 [1,2] ?_)
 refine C_ret (RX_block (RX_then (RX_q1 rfl rfl ?_)))
 refine congrArg Value.bool ?_
 refine bool_ext ?_; simp_all [fitsP, immP]; omega
 refine sq (rg ?_)
 refine be (as_ ?_)
 refine wn (kk4 [1,2,55,80] ?_)
 refine cd ?_ ?_ <;> intro h40 <;> try simp only [tt] at h40
 refine sq (rg ?_)
 refine fb 5 T.fo51_5 (lb 0 T.ag49 (fb 1 T.fo51_1 (lb 0 T.ag3 ?_)))
 refine W_q (r_convi Tryz.underlying3 Tryz.underlying49 rfl (u64_of _ ⟨by omega, by omega⟩)) rfl ?_
 refine bg (mv ?_)
 refine sp 88 ?_ ?_ <;> intro h41 <;> try simp only [tt] at h41
 refine tk (fb 5 T.fo51_5 ?_)
 refine tk (lb 0 T.ag49 ?_)
 refine tk (bq (pt (mv ?_)))
 refine sp 93 ?_ ?_ <;> intro h42 <;> try simp only [tt] at h42
 refine tk (fb 5 T.fo51_5 ?_)
 refine tk (lb 0 T.ag49 ?_)
 refine tk ?_
 refine W_q (r_convi Tryz.underlying49 Tryz.underlying3 rfl (i64_of _ ⟨by omega, by omega⟩)) rfl ?_
 refine tk ?_
 refine W_quiet (rMayW_q _) T.hb92 rfl rfl ?_
 refine pt (as_ ?_)
 refine wn (kk2 [1,2] ?_)
 refine C_ret (RX_block (RX_then (RX_q1 rfl rfl ?_)))
 refine congrArg Value.bool ?_
 simp_all [fitsP, immP]
 refine ps (ps (ps (ps ?_)))
 refine pf (as_ ?_)
 refine wn (kk2 [1,2] ?_)
 refine C_ret (RX_block (RX_then (RX_q1 rfl rfl ?_)))
 refine congrArg Value.bool ?_
 refine bool_ext ?_; simp_all [fitsP, immP]; omega
 refine ps (ps (ps ?_))
 refine pf (mv ?_)
 refine ps (ps (ps (ps ?_)))
 refine pf (as_ ?_)
 refine wn (kk2 [1,2] ?_)
 refine C_ret (RX_block (RX_then (RX_q1 rfl rfl ?_)))
 refine congrArg Value.bool ?_
 refine bool_ext ?_; simp_all [fitsP, immP]; omega
 refine sq (rg ?_)
 refine be (as_ ?_)
 refine wn (kk3 [1,2,99] ?_)
 refine cd ?_ ?_ <;> intro h43 <;> try simp only [tt] at h43
 refine sq (rg ?_)
 refine fb 5 T.fo51_5 (lb 0 T.ag49 (fb 2 T.fo51_2 (lb 0 T.ag3 ?_)))
 refine W_q (r_convi Tryz.underlying3 Tryz.underlying49 rfl (u64_of _ ⟨by omega, by omega⟩)) rfl ?_
 refine bl (as_ ?_)
 refine wn (kk2 [1,2] ?_)
 refine C_ret (RX_block (RX_then (RX_q1 rfl rfl ?_)))
 refine congrArg Value.bool ?_
 simp_all [fitsP, immP]
 refine sk (nb (kk2 [1,2] (sq (rg ?_))))
 refine fb 5 T.fo51_5 (lb 0 T.ag49 (be (as_ ?_)))
 refine wn (kk1 [2] ?_)
 refine C_ret (RX_q1 rfl rfl ?_)
 refine congrArg Value.bool ?_
 simp_all [fitsP, immP]
theorem rMayOp_q {m : Imm} {es : List Value} {o : FOp} (hO : rOp m es o) : Quiet Tryz.prog 93 [.agg es.toArray] m (.bool (mayOpK o)) := by
 have hO_0 := hO
 obtain ⟨A90, c90, rfl, h90, i90a, i90b, i90c, i90d, i90e⟩ := hO_0
 have hal := h90.len
 refine quiet_of Tryz.func93 rfl Tryz.ntmps93 rfl (fun w => ?_)
 refine sq (rg ?_)
 refine S_box (l := [_, _, _, _, _, _]) rfl rfl rfl (fun b1 => ?_)
 refine as_ ?_
 refine wn (kk2 [1,2] (sq (sq ?_)))
 refine C_drawn [(0, true), (1, true), (2, true), (3, true), (4, true), (5, true), (6, true), (7, true), (8, true), (9, true), (10, true), (11, true), (12, true), (13, true), (14, true), (15, true), (16, true), (17, true), (18, true)] (by kernel_rfl) rfl (by kernel_rfl) (by kernel_rfl) ?_
 refine dfb 1 T.fo51_1 ?_
 refine dlb 0 T.ag3 ?_
 refine dfb 2 T.fo51_2 ?_
 refine dlb 0 T.ag3 ?_
 refine D_quiet rfl (rShape_q _ _) T.hb127 rfl rfl ?_
 refine D_q rfl (r_not rfl) rfl ?_
 refine dmv ?_
 refine D_split (t := 10) rfl (fun h2 => ?_) (fun h2 => ?_)
 (try simp only [tt] at h2)
 refine dps ?_
 refine dps ?_
 refine dps ?_
 refine dps ?_
 refine dps ?_
 refine dps ?_
 refine D_q rfl (r_pick_t rfl rfl) rfl ?_
 refine dmv ?_
 refine dps ?_
 refine dps ?_
 refine dps ?_
 refine D_q rfl (r_pick_t rfl rfl) rfl ?_
 refine D_end ?_
 refine kk3 [1,2,22] ?_
 refine ctz (sq (rg ?_))
 refine as_ ?_
 refine wn (kk2 [1,2] ?_)
 refine C_ret (RX_then (RX_q1 rfl rfl ?_))
 rw [← mayR_eq]
 simp [mayR, *]
 (try simp only [tt] at h2)
 refine D_qt rfl rfl rfl (r_loadbk 0 (vs := [_, _, _, _, _, _]) rfl T.ag51 T.sz51 rfl rfl rfl) rfl ?_
 refine D_quiett rfl rfl rfl (rArgs_q hO) T.hb128 rfl rfl ?_
 refine D_qt rfl rfl rfl (r_fieldb (o' := 4) rfl T.fo51_4 rfl) rfl ?_
 refine D_qt rfl rfl rfl (r_loadb 0 rfl T.ag22 rfl rfl) rfl ?_
 refine D_qt rfl rfl rfl (r_len Tryz.underlying22 rfl) rfl ?_
 refine D_qt rfl rfl rfl (r_bin rfl rfl (bin_neq _ _ _ _)) rfl ?_
 refine D_q rfl (r_pick_f rfl rfl) rfl ?_
 refine dmv ?_
 refine D_split (t := 18) rfl (fun h3 => ?_) (fun h3 => ?_)
 (try simp only [tt] at h3)
 refine dps ?_
 refine dps ?_
 refine dps ?_
 refine D_q rfl (r_pick_t rfl rfl) rfl ?_
 refine D_end ?_
 refine kk3 [1,2,22] ?_
 refine ctz (sq (rg ?_))
 refine as_ ?_
 refine wn (kk2 [1,2] ?_)
 refine C_ret (RX_then (RX_q1 rfl rfl ?_))
 rw [← mayR_eq]
 simp [mayR, *]
 (try simp only [tt] at h3)
 refine D_qt rfl rfl rfl (r_loadbk 0 (vs := [_, _, _, _, _, _]) rfl T.ag51 T.sz51 rfl rfl rfl) rfl ?_
 refine D_quiett rfl rfl rfl (rFits_q hO (by assumption)) T.hb129 rfl rfl ?_
 refine D_qt rfl rfl rfl (r_not rfl) rfl ?_
 refine D_q rfl (r_pick_f rfl rfl) rfl ?_
 refine D_end ?_
 refine kk3 [1,2,22] ?_
 refine cd ?_ ?_ <;> intro h4 <;> try simp only [tt] at h4
 refine sq (rg ?_)
 refine as_ ?_
 refine wn (kk2 [1,2] ?_)
 refine C_ret (RX_then (RX_q1 rfl rfl ?_))
 rw [← mayR_eq]
 simp [mayR, *]
 refine sk (kk2 [1,2] (sq (sq (rg ?_))))
 refine as_ ?_
 refine wn (kk3 [1,2,3] (bk ?_))
 refine C_loop (Unit) (o.args.length) (fun k5 x5 => ∀ j, j < k5 → ∀ y, o.args[j]? = some y → valueB y = true) (fun k5 x5 => [(3, .int .i64 (k5 : Int))]) (fun _ _ => []) [3] [1] (F := [(1, _)]) (()) (by simp) rfl rfl rfl (fun k5 x5 hk5 hJ5 => ?_)
 refine jj2 [1,3] (sq (sq (rg ?_)))
 refine mv (fb 4 T.fo51_4 (lb 0 T.ag22 (ln Tryz.underlying22 (bl ?_))))
 refine wn (kk3 [1,3,27] ?_)
 refine cd ?_ ?_ <;> intro h6 <;> try simp only [tt] at h6
 refine sk (kk2 [1,3] (sq (bk (sq (rg ?_)))))
 refine fb 4 T.fo51_4 (lb 0 T.ag22 (mv ?_))
 obtain ⟨ad7, hA7⟩ := h90.ad (j := k5) (by omega)
 obtain ⟨z7, hz7⟩ := h90.getz (j := k5) (by omega)
 refine ixz hA7 Tryz.underlying22 T.sz3 ?_
 obtain ⟨l8, r8⟩ := Sl.getI h90 hA7 hz7
 refine liz T.ag3 l8 ?_
 refine W_quiet (rValue_q _) T.hb59 rfl rfl ?_
 refine nt ?_
 refine wn (kk3 [1,3,36] ?_)
 refine cd ?_ ?_ <;> intro h9 <;> try simp only [tt] at h9
 refine sq (rg ?_)
 refine as_ ?_
 refine wn (kk3 [1,2,3] ?_)
 refine C_ret (RX_block (RX_then (RX_then (RX_block (RX_then (RX_q1 rfl rfl ?_))))))
 rw [← mayR_eq]
 have ha := all_false_of (p := valueB) hz7 (by assumption); simp [mayR, ha]
 refine sk (nb (kk2 [1,3] (rg ?_)))
 refine mv ?_
 refine ad ?_
 refine as_ ?_
 refine wn ?_
 refine NX_rnd [3, 1] (by omega) (()) ?_ rfl (List.Sublist.refl _) rfl (Imm.le_refl _)
 exact lt_succ_all hJ5 (fun y hy => by rw [hz7] at hy; cases hy; assumption)
 refine C_exit (EX_then (EX_then (EX_hit (?_))))
 refine kk1 [1] (sq (sq (rg ?_)))
 refine fb 0 T.fo51_0 (lb 0 T.ag3 (be (mv ?_)))
 refine sp 40 ?_ ?_ <;> intro h10 <;> try simp only [tt] at h10
 refine ps (ps (ps ?_))
 refine pt ?_
 refine wn (kk2 [1,44] ?_)
 refine ctz (sq (rg ?_))
 refine fb 3 T.fo51_3 (lb 0 T.ag3 (be (as_ ?_)))
 refine wn (kk2 [1,2] ?_)
 refine C_ret (RX_then (RX_q1 rfl rfl ?_))
 rw [← mayR_eq]
 have hkk : k5 = o.args.length := by omega
 subst hkk
 have ha := all_true_of hJ5
 simp_all [mayR, storesK]
 refine tk (fb 0 T.fo51_0 ?_)
 refine tk (lb 0 T.ag3 ?_)
 refine tk (be (pf ?_))
 refine wn (kk2 [1,44] ?_)
 refine cd ?_ ?_ <;> intro h11 <;> try simp only [tt] at h11
 refine sq (rg ?_)
 refine fb 3 T.fo51_3 (lb 0 T.ag3 (be (as_ ?_)))
 refine wn (kk2 [1,2] ?_)
 refine C_ret (RX_then (RX_q1 rfl rfl ?_))
 rw [← mayR_eq]
 have hkk : k5 = o.args.length := by omega
 subst hkk
 have ha := all_true_of hJ5
 simp_all [mayR, storesK]
 refine sk (kk1 [1] (sq (rg ?_)))
 refine fb 3 T.fo51_3 (lb 0 T.ag3 ?_)
 refine W_quiet (rValue_q _) T.hb59 rfl rfl ?_
 refine as_ ?_
 refine wn (kk1 [2] ?_)
 refine C_ret (RX_q1 rfl rfl ?_)
 rw [← mayR_eq]
 have hkk : k5 = o.args.length := by omega
 subst hkk
 have ha := all_true_of hJ5
 simp_all [mayR, storesK]
theorem rGives_q {m : Imm} {es : List Value} {o : FOp} (hO : rOp m es o) : Quiet Tryz.prog 94 [.agg es.toArray] m (.tuple #[.int .i64 (givesP o).1, .int .i64 (givesP o).2]) := by
 have hO_0 := hO
 obtain ⟨A90, c90, rfl, h90, i90a, i90b, i90c, i90d, i90e⟩ := hO_0
 refine quiet_of Tryz.func94 rfl Tryz.ntmps94 rfl (fun w => ?_)
 refine sq (rg ?_)
 refine S_box (l := [_, _, _, _, _, _]) rfl rfl rfl (fun b1 => ?_)
 refine as_ (as_ ?_)
 refine wn (kk3 [1,2,3] (sq (sq (rg ?_))))
 refine W_q (r_loadbk 0 (vs := [_, _, _, _, _, _]) rfl T.ag51 T.sz51 rfl rfl rfl) rfl ?_
 refine W_quiet (rMayOp_q hO) T.hb93 rfl rfl ?_
 refine nt (mv ?_)
 refine sp 7 ?_ ?_ <;> intro h2 <;> try simp only [tt] at h2
 refine ps (ps (ps ?_))
 refine pt (mv ?_)
 refine ps (ps (ps ?_))
 refine pt ?_
 refine wn (kk4 [1,2,3,16] ?_)
 refine ctz (sq (rg ?_))
 refine as_ (as_ ?_)
 refine wn (kk3 [1,2,3] ?_)
 refine C_ret (RX_then (RX_q2 rfl rfl rfl ?_ ?_))
 refine congrArg (Value.int .i64) ?_
 simp [givesP, storesK, *]
 refine congrArg (Value.int .i64) ?_
 simp [givesP, storesK, *]
 refine tk (fb 0 T.fo51_0 ?_)
 refine tk (lb 0 T.ag3 ?_)
 refine tk (be (pf (mv ?_)))
 refine sp 12 ?_ ?_ <;> intro h3 <;> try simp only [tt] at h3
 refine ps (ps (ps ?_))
 refine pt ?_
 refine wn (kk4 [1,2,3,16] ?_)
 refine ctz (sq (rg ?_))
 refine as_ (as_ ?_)
 refine wn (kk3 [1,2,3] ?_)
 refine C_ret (RX_then (RX_q2 rfl rfl rfl ?_ ?_))
 refine congrArg (Value.int .i64) ?_
 simp [givesP, storesK, *]
 refine congrArg (Value.int .i64) ?_
 simp [givesP, storesK, *]
 refine tk (fb 0 T.fo51_0 ?_)
 refine tk (lb 0 T.ag3 ?_)
 refine tk (be (pf ?_))
 refine wn (kk4 [1,2,3,16] ?_)
 refine cd ?_ ?_ <;> intro h4 <;> try simp only [tt] at h4
 refine sq (rg ?_)
 refine as_ (as_ ?_)
 refine wn (kk3 [1,2,3] ?_)
 refine C_ret (RX_then (RX_q2 rfl rfl rfl ?_ ?_))
 refine congrArg (Value.int .i64) ?_
 simp [givesP, storesK, *]
 refine congrArg (Value.int .i64) ?_
 simp [givesP, storesK, *]
 refine sk (kk3 [1,2,3] (sq (sq (rg ?_))))
 refine fb 0 T.fo51_0 (lb 0 T.ag3 (bh (mv ?_)))
 refine sp 20 ?_ ?_ <;> intro h5 <;> try simp only [tt] at h5
 refine tk (fb 0 T.fo51_0 ?_)
 refine tk (lb 0 T.ag3 ?_)
 refine tk (bq (pt ?_))
 refine wn (kk4 [1,2,3,24] ?_)
 refine cd ?_ ?_ <;> intro h6 <;> try simp only [tt] at h6
 refine sq (rg ?_)
 refine as_ (as_ ?_)
 refine wn (kk3 [1,2,3] ?_)
 refine C_ret (RX_then (RX_q2 rfl rfl rfl ?_ ?_))
 refine congrArg (Value.int .i64) ?_
 simp [givesP, storesK, *]
 refine congrArg (Value.int .i64) ?_
 simp [givesP, storesK, *]
 refine sk (kk3 [1,2,3] (sq (sq (rg ?_))))
 refine fb 0 T.fo51_0 (lb 0 T.ag3 (be ?_))
 refine wn (kk4 [1,2,3,27] ?_)
 refine cd ?_ ?_ <;> intro h7 <;> try simp only [tt] at h7
 refine sq (rg ?_)
 refine fb 1 T.fo51_1 (lb 0 T.ag3 (as_ (as_ ?_)))
 refine wn (kk3 [1,2,3] ?_)
 refine C_ret (RX_then (RX_q2 rfl rfl rfl ?_ ?_))
 refine congrArg (Value.int .i64) ?_
 simp [givesP, storesK, *]
 refine congrArg (Value.int .i64) ?_
 simp [givesP, storesK, *]
 refine sk (kk3 [1,2,3] (sq ?_))
 refine C_drawn [(0, true), (1, true), (2, true), (3, true), (4, true), (5, true)] (by kernel_rfl) rfl (by kernel_rfl) (by kernel_rfl) ?_
 refine dfb 1 T.fo51_1 ?_
 refine dlb 0 T.ag3 ?_
 refine dfb 2 T.fo51_2 ?_
 refine dlb 0 T.ag3 ?_
 refine das ?_
 refine das ?_
 refine D_end ?_
 refine kk2 [2,3] ?_
 refine C_ret (RX_q2 rfl rfl rfl ?_ ?_)
 refine congrArg (Value.int .i64) ?_
 simp [givesP, storesK, *]
 refine congrArg (Value.int .i64) ?_
 simp [givesP, storesK, *]
 refine ps (ps (ps ?_))
 refine pf ?_
 refine wn (kk4 [1,2,3,24] ?_)
 refine cfz (sk (kk3 [1,2,3] (sq (sq (rg ?_)))))
 refine fb 0 T.fo51_0 (lb 0 T.ag3 (be ?_))
 refine wn (kk4 [1,2,3,27] ?_)
 refine cd ?_ ?_ <;> intro h8 <;> try simp only [tt] at h8
 refine sq (rg ?_)
 refine fb 1 T.fo51_1 (lb 0 T.ag3 (as_ (as_ ?_)))
 refine wn (kk3 [1,2,3] ?_)
 refine C_ret (RX_then (RX_q2 rfl rfl rfl ?_ ?_))
 refine congrArg (Value.int .i64) ?_
 simp [givesP, storesK, *]
 refine congrArg (Value.int .i64) ?_
 simp [givesP, storesK, *]
 refine sk (kk3 [1,2,3] (sq ?_))
 refine C_drawn [(0, true), (1, true), (2, true), (3, true), (4, true), (5, true)] (by kernel_rfl) rfl (by kernel_rfl) (by kernel_rfl) ?_
 refine dfb 1 T.fo51_1 ?_
 refine dlb 0 T.ag3 ?_
 refine dfb 2 T.fo51_2 ?_
 refine dlb 0 T.ag3 ?_
 refine das ?_
 refine das ?_
 refine D_end ?_
 refine kk2 [2,3] ?_
 refine C_ret (RX_q2 rfl rfl rfl ?_ ?_)
 refine congrArg (Value.int .i64) ?_
 simp [givesP, storesK, *]
 refine congrArg (Value.int .i64) ?_
 simp [givesP, storesK, *]
theorem rTakes_g {m : Imm} {es : List Value} {o : FOp} (hO : rOp m es o) : Gives Tryz.prog 95 [.agg es.toArray] m (PairsΦ (takesK o)) := by
 have hO_0 := hO
 obtain ⟨A90, c90, rfl, h90, i90a, i90b, i90c, i90d, i90e⟩ := hO_0
 have hal := h90.len
 refine gives_of Tryz.func95 rfl Tryz.ntmps95 rfl (fun w => ?_)
 refine sq (rg ?_)
 refine S_box (l := [_, _, _, _, _, _]) rfl rfl rfl (fun b1 => ?_)
 refine as_ ?_
 refine wn (kk2 [1,2] (sq (rg ?_)))
 refine as_ ?_
 refine wn (kk3 [1,2,3] (sq (sq (rg ?_))))
 refine W_q (r_loadbk 0 (vs := [_, _, _, _, _, _]) rfl T.ag51 T.sz51 rfl rfl rfl) rfl ?_
 refine W_quiet (rMayOp_q hO) T.hb93 rfl rfl ?_
 refine nt ?_
 refine wn (kk4 [1,2,3,8] ?_)
 refine cd ?_ ?_ <;> intro h2 <;> try simp only [tt] at h2
 refine sq (rg ?_)
 refine as_ ?_
 refine wn (kk3 [1,2,3] ?_)
 exact C_ret (RX_then (RX_g1 rfl rfl ⟨none, 0, by rw [takesK_none (by assumption)]; rfl, by rw [takesK_none (by assumption)]; exact Sl.nil _ _ _⟩))
 refine sk (kk3 [1,2,3] (sq (sq (rg ?_))))
 have hmay : mayOpK o = true := by assumption
 have htl := may_args hmay
 have hl16 := may_len16 hmay
 have hsb := shapeB_bits (mayOpK_shape hmay)
 refine as_ ?_
 refine wn (kk4 [1,2,3,4] (bk ?_))
 refine CW_nilRow 71 2 ?_
 refine C_loop (Option Nat × Nat × List Value) (o.args.length) (fun k3 x3 => SRows rPair 2 m x3.2.2 ((takesK o).take k3) ∧ (0 < k3 → ∃ b, x3.1 = some b)) (fun k3 x3 => [(3, .slice (rowA x3.1) k3 x3.2.1), (4, .int .i64 (k3 : Int))]) (fun k3 x3 => [row x3.1 k3 x3.2.1 71 2 x3.2.2]) [3, 4] [1, 2] (F := [(1, _), (2, _)]) ((none, 0, [])) ⟨SRows.nil, by omega⟩ rfl rfl rfl (fun k3 x3 hk3 hJ3 => ?_)
 obtain ⟨hro, hgo⟩ := hJ3
 refine jj4 [1,2,3,4] (sq (sq (rg ?_)))
 refine mv (fb 4 T.fo51_4 (lb 1 T.ag22 (ln Tryz.underlying22 (bl ?_))))
 refine wn (kk5 [1,2,3,4,13] ?_)
 refine cd ?_ ?_ <;> intro h5 <;> try simp only [tt] at h5
 refine sk (kk4 [1,2,3,4] (sq (bk (sq (rg ?_)))))
 refine fb 1 T.fo51_1 (lb 1 T.ag3 (fb 2 T.fo51_2 (lb 1 T.ag3 ?_)))
 refine W_q (r_builda (zs := [_, _]) (cs := [_, _]) Tryz.underlying71 T.sz3 T.ze71 rfl rfl rfl) rfl ?_
 refine sa2 T.ze71 (fun b6 => ?_)
 refine sb2 0 T.sz71 ?_
 refine wn (kk5 [1,2,3,4,5] (sq (sq (rg ?_))))
 refine fb 0 T.fo51_0 (lb 2 T.ag3 ?_)
 refine wn (kk6 [1,2,3,4,5,22] (bk (sq (sq (rg ?_)))))
 refine be (as_ ?_)
 refine wn (kk7 [1,2,3,4,5,22,23] ?_)
 refine cd ?_ ?_ <;> intro h7 <;> try simp only [tt] at h7
 refine sk (kk7 [1,2,3,4,5,22,23] ?_)
 refine ctz (sq (rg ?_))
 refine mv (be ?_)
 refine wn (kk6 [1,2,3,4,5,27] ?_)
 refine cd ?_ ?_ <;> intro h8 <;> try simp only [tt] at h8
 refine rg ?_
 refine W_q (r_builda (zs := [_, _]) (cs := [_, _]) Tryz.underlying71 T.sz3 T.ze71 rfl rfl rfl) rfl ?_
 refine sb2 0 T.sz71 ?_
 refine wn (nb (kk5 [1,2,3,4,5] (rg ?_)))
 refine mv ?_
 refine W_q (r_loadbk 0 (vs := [_, _]) rfl T.ag71 T.sz71 rfl rfl rfl) rfl ?_
 refine S_litr (vs := [_]) (cs := [_, _]) Tryz.underlying113 T.sz71 T.ze71 rfl rfl rfl rfl rfl rfl rfl (fun b9 => ?_)
 refine S_appendG [_, _] 2 rfl rfl rfl Tryz.underlying113 T.sz71 T.ze71 T.by71 rfl rfl rfl (.row 0 rfl) rfl (by omega) (by unfold maxLen; omega) rfl (fun g10 c10 hg10 => ?_)
 refine as_ ?_
 refine wn (nb (kk4 [1,2,3,4] (rg ?_)))
 refine mv ?_
 refine ad ?_
 refine as_ ?_
 refine wn ?_
 refine NX_rnd [3, 4, 1, 2] (by omega) ((_, _, _)) ?_ rfl (sub_drop 2 rfl) rfl (Imm.le_refl _)
 refine ⟨?_, hg10⟩
 rw [takesK_take hmay (by omega)]
 refine hro.add (pair_of ?_ ?_ ?_)
 · first | (simp [takeEl, *]; done) | (simp [takeEl, *]; omega)
 · first | (have := imm_small hmay (by omega); constructor <;> omega) | (constructor <;> omega)
 · constructor <;> omega
 refine sk (nb (kk5 [1,2,3,4,5] (rg ?_)))
 refine mv ?_
 refine W_q (r_loadbk 0 (vs := [_, _]) rfl T.ag71 T.sz71 rfl rfl rfl) rfl ?_
 refine S_litr (vs := [_]) (cs := [_, _]) Tryz.underlying113 T.sz71 T.ze71 rfl rfl rfl rfl rfl rfl rfl (fun b11 => ?_)
 refine S_appendG [_, _] 2 rfl rfl rfl Tryz.underlying113 T.sz71 T.ze71 T.by71 rfl rfl rfl (.row 0 rfl) rfl (by omega) (by unfold maxLen; omega) rfl (fun g12 c12 hg12 => ?_)
 refine as_ ?_
 refine wn (nb (kk4 [1,2,3,4] (rg ?_)))
 refine mv ?_
 refine ad ?_
 refine as_ ?_
 refine wn ?_
 refine NX_rnd [3, 4, 1, 2] (by omega) ((_, _, _)) ?_ rfl (sub_drop 2 rfl) rfl (Imm.le_refl _)
 refine ⟨?_, hg12⟩
 rw [takesK_take hmay (by omega)]
 refine hro.add (pair_of ?_ ?_ ?_)
 · first | (simp [takeEl, *]; done) | (simp [takeEl, *]; omega)
 · first | (have := imm_small hmay (by omega); constructor <;> omega) | (constructor <;> omega)
 · constructor <;> omega
 refine rg ?_
 refine be (as_ ?_)
 refine wn (kk7 [1,2,3,4,5,22,23] ?_)
 refine cd ?_ ?_ <;> intro h13 <;> try simp only [tt] at h13
 refine sq (rg ?_)
 refine mv (be ?_)
 refine wn (kk6 [1,2,3,4,5,27] ?_)
 refine cd ?_ ?_ <;> intro h14 <;> try simp only [tt] at h14
 refine rg ?_
 refine W_q (r_builda (zs := [_, _]) (cs := [_, _]) Tryz.underlying71 T.sz3 T.ze71 rfl rfl rfl) rfl ?_
 refine sb2 0 T.sz71 ?_
 refine wn (nb (kk5 [1,2,3,4,5] (rg ?_)))
 refine mv ?_
 refine W_q (r_loadbk 0 (vs := [_, _]) rfl T.ag71 T.sz71 rfl rfl rfl) rfl ?_
 refine S_litr (vs := [_]) (cs := [_, _]) Tryz.underlying113 T.sz71 T.ze71 rfl rfl rfl rfl rfl rfl rfl (fun b15 => ?_)
 refine S_appendG [_, _] 2 rfl rfl rfl Tryz.underlying113 T.sz71 T.ze71 T.by71 rfl rfl rfl (.row 0 rfl) rfl (by omega) (by unfold maxLen; omega) rfl (fun g16 c16 hg16 => ?_)
 refine as_ ?_
 refine wn (nb (kk4 [1,2,3,4] (rg ?_)))
 refine mv ?_
 refine ad ?_
 refine as_ ?_
 refine wn ?_
 refine NX_rnd [3, 4, 1, 2] (by omega) ((_, _, _)) ?_ rfl (sub_drop 2 rfl) rfl (Imm.le_refl _)
 refine ⟨?_, hg16⟩
 rw [takesK_take hmay (by omega)]
 refine hro.add (pair_of ?_ ?_ ?_)
 · first | (simp [takeEl, *]; done) | (simp [takeEl, *]; omega)
 · first | (have := imm_small hmay (by omega); constructor <;> omega) | (constructor <;> omega)
 · constructor <;> omega
 refine sk (nb (kk5 [1,2,3,4,5] (rg ?_)))
 refine mv ?_
 refine W_q (r_loadbk 0 (vs := [_, _]) rfl T.ag71 T.sz71 rfl rfl rfl) rfl ?_
 refine S_litr (vs := [_]) (cs := [_, _]) Tryz.underlying113 T.sz71 T.ze71 rfl rfl rfl rfl rfl rfl rfl (fun b17 => ?_)
 refine S_appendG [_, _] 2 rfl rfl rfl Tryz.underlying113 T.sz71 T.ze71 T.by71 rfl rfl rfl (.row 0 rfl) rfl (by omega) (by unfold maxLen; omega) rfl (fun g18 c18 hg18 => ?_)
 refine as_ ?_
 refine wn (nb (kk4 [1,2,3,4] (rg ?_)))
 refine mv ?_
 refine ad ?_
 refine as_ ?_
 refine wn ?_
 refine NX_rnd [3, 4, 1, 2] (by omega) ((_, _, _)) ?_ rfl (sub_drop 2 rfl) rfl (Imm.le_refl _)
 refine ⟨?_, hg18⟩
 rw [takesK_take hmay (by omega)]
 refine hro.add (pair_of ?_ ?_ ?_)
 · first | (simp [takeEl, *]; done) | (simp [takeEl, *]; omega)
 · first | (have := imm_small hmay (by omega); constructor <;> omega) | (constructor <;> omega)
 · constructor <;> omega
 refine sq (sq (rg ?_))
 refine be (as_ ?_)
 refine wn (kk7 [1,2,3,4,5,22,29] ?_)
 refine cd ?_ ?_ <;> intro h19 <;> try simp only [tt] at h19
 refine sk (kk7 [1,2,3,4,5,22,29] ?_)
 refine ctz (rg ?_)
 refine fb 5 T.fo51_5 (lb 2 T.ag49 ?_)
 refine W_q (r_convi Tryz.underlying49 Tryz.underlying3 rfl (i64_of _ ⟨by have := imm_small hmay (by omega); omega, by have := imm_small hmay (by omega); omega⟩)) rfl ?_
 refine W_q (r_builda (zs := [_, _]) (cs := [_, _]) Tryz.underlying71 T.sz3 T.ze71 rfl rfl rfl) rfl ?_
 refine sb2 0 T.sz71 ?_
 refine wn (nb (kk5 [1,2,3,4,5] (rg ?_)))
 refine mv ?_
 refine W_q (r_loadbk 0 (vs := [_, _]) rfl T.ag71 T.sz71 rfl rfl rfl) rfl ?_
 refine S_litr (vs := [_]) (cs := [_, _]) Tryz.underlying113 T.sz71 T.ze71 rfl rfl rfl rfl rfl rfl rfl (fun b20 => ?_)
 refine S_appendG [_, _] 2 rfl rfl rfl Tryz.underlying113 T.sz71 T.ze71 T.by71 rfl rfl rfl (.row 0 rfl) rfl (by omega) (by unfold maxLen; omega) rfl (fun g21 c21 hg21 => ?_)
 refine as_ ?_
 refine wn (nb (kk4 [1,2,3,4] (rg ?_)))
 refine mv ?_
 refine ad ?_
 refine as_ ?_
 refine wn ?_
 refine NX_rnd [3, 4, 1, 2] (by omega) ((_, _, _)) ?_ rfl (sub_drop 2 rfl) rfl (Imm.le_refl _)
 refine ⟨?_, hg21⟩
 rw [takesK_take hmay (by omega)]
 refine hro.add (pair_of ?_ ?_ ?_)
 · first | (simp [takeEl, *]; done) | (simp [takeEl, *]; omega)
 · first | (have := imm_small hmay (by omega); constructor <;> omega) | (constructor <;> omega)
 · constructor <;> omega
 refine rg ?_
 refine be (as_ ?_)
 refine wn (kk7 [1,2,3,4,5,22,29] ?_)
 refine cd ?_ ?_ <;> intro h22 <;> try simp only [tt] at h22
 refine rg ?_
 refine fb 5 T.fo51_5 (lb 2 T.ag49 ?_)
 refine W_q (r_convi Tryz.underlying49 Tryz.underlying3 rfl (i64_of _ ⟨by have := imm_small hmay (by omega); omega, by have := imm_small hmay (by omega); omega⟩)) rfl ?_
 refine W_q (r_builda (zs := [_, _]) (cs := [_, _]) Tryz.underlying71 T.sz3 T.ze71 rfl rfl rfl) rfl ?_
 refine sb2 0 T.sz71 ?_
 refine wn (nb (kk5 [1,2,3,4,5] (rg ?_)))
 refine mv ?_
 refine W_q (r_loadbk 0 (vs := [_, _]) rfl T.ag71 T.sz71 rfl rfl rfl) rfl ?_
 refine S_litr (vs := [_]) (cs := [_, _]) Tryz.underlying113 T.sz71 T.ze71 rfl rfl rfl rfl rfl rfl rfl (fun b23 => ?_)
 refine S_appendG [_, _] 2 rfl rfl rfl Tryz.underlying113 T.sz71 T.ze71 T.by71 rfl rfl rfl (.row 0 rfl) rfl (by omega) (by unfold maxLen; omega) rfl (fun g24 c24 hg24 => ?_)
 refine as_ ?_
 refine wn (nb (kk4 [1,2,3,4] (rg ?_)))
 refine mv ?_
 refine ad ?_
 refine as_ ?_
 refine wn ?_
 refine NX_rnd [3, 4, 1, 2] (by omega) ((_, _, _)) ?_ rfl (sub_drop 2 rfl) rfl (Imm.le_refl _)
 refine ⟨?_, hg24⟩
 rw [takesK_take hmay (by omega)]
 refine hro.add (pair_of ?_ ?_ ?_)
 · first | (simp [takeEl, *]; done) | (simp [takeEl, *]; omega)
 · first | (have := imm_small hmay (by omega); constructor <;> omega) | (constructor <;> omega)
 · constructor <;> omega
 refine sq (sq (rg ?_))
 refine be (as_ ?_)
 refine wn (kk7 [1,2,3,4,5,22,36] ?_)
 refine cd ?_ ?_ <;> intro h25 <;> try simp only [tt] at h25
 refine sk (kk7 [1,2,3,4,5,22,36] ?_)
 refine ctz (sq (rg ?_))
 refine mv (be ?_)
 refine wn (kk6 [1,2,3,4,5,40] ?_)
 refine cd ?_ ?_ <;> intro h26 <;> try simp only [tt] at h26
 refine rg ?_
 refine W_q (r_builda (zs := [_, _]) (cs := [_, _]) Tryz.underlying71 T.sz3 T.ze71 rfl rfl rfl) rfl ?_
 refine sb2 0 T.sz71 ?_
 refine wn (nb (kk5 [1,2,3,4,5] (rg ?_)))
 refine mv ?_
 refine W_q (r_loadbk 0 (vs := [_, _]) rfl T.ag71 T.sz71 rfl rfl rfl) rfl ?_
 refine S_litr (vs := [_]) (cs := [_, _]) Tryz.underlying113 T.sz71 T.ze71 rfl rfl rfl rfl rfl rfl rfl (fun b27 => ?_)
 refine S_appendG [_, _] 2 rfl rfl rfl Tryz.underlying113 T.sz71 T.ze71 T.by71 rfl rfl rfl (.row 0 rfl) rfl (by omega) (by unfold maxLen; omega) rfl (fun g28 c28 hg28 => ?_)
 refine as_ ?_
 refine wn (nb (kk4 [1,2,3,4] (rg ?_)))
 refine mv ?_
 refine ad ?_
 refine as_ ?_
 refine wn ?_
 refine NX_rnd [3, 4, 1, 2] (by omega) ((_, _, _)) ?_ rfl (sub_drop 2 rfl) rfl (Imm.le_refl _)
 refine ⟨?_, hg28⟩
 rw [takesK_take hmay (by omega)]
 refine hro.add (pair_of ?_ ?_ ?_)
 · first | (simp [takeEl, *]; done) | (simp [takeEl, *]; omega)
 · first | (have := imm_small hmay (by omega); constructor <;> omega) | (constructor <;> omega)
 · constructor <;> omega
 refine sk (nb (kk5 [1,2,3,4,5] (rg ?_)))
 refine mv ?_
 refine W_q (r_loadbk 0 (vs := [_, _]) rfl T.ag71 T.sz71 rfl rfl rfl) rfl ?_
 refine S_litr (vs := [_]) (cs := [_, _]) Tryz.underlying113 T.sz71 T.ze71 rfl rfl rfl rfl rfl rfl rfl (fun b29 => ?_)
 refine S_appendG [_, _] 2 rfl rfl rfl Tryz.underlying113 T.sz71 T.ze71 T.by71 rfl rfl rfl (.row 0 rfl) rfl (by omega) (by unfold maxLen; omega) rfl (fun g30 c30 hg30 => ?_)
 refine as_ ?_
 refine wn (nb (kk4 [1,2,3,4] (rg ?_)))
 refine mv ?_
 refine ad ?_
 refine as_ ?_
 refine wn ?_
 refine NX_rnd [3, 4, 1, 2] (by omega) ((_, _, _)) ?_ rfl (sub_drop 2 rfl) rfl (Imm.le_refl _)
 refine ⟨?_, hg30⟩
 rw [takesK_take hmay (by omega)]
 refine hro.add (pair_of ?_ ?_ ?_)
 · first | (simp [takeEl, *]; done) | (simp [takeEl, *]; omega)
 · first | (have := imm_small hmay (by omega); constructor <;> omega) | (constructor <;> omega)
 · constructor <;> omega
 refine rg ?_
 refine be (as_ ?_)
 refine wn (kk7 [1,2,3,4,5,22,36] ?_)
 refine cd ?_ ?_ <;> intro h31 <;> try simp only [tt] at h31
 refine sq (rg ?_)
 refine mv (be ?_)
 refine wn (kk6 [1,2,3,4,5,40] ?_)
 refine cd ?_ ?_ <;> intro h32 <;> try simp only [tt] at h32
 refine rg ?_
 refine W_q (r_builda (zs := [_, _]) (cs := [_, _]) Tryz.underlying71 T.sz3 T.ze71 rfl rfl rfl) rfl ?_
 refine sb2 0 T.sz71 ?_
 refine wn (nb (kk5 [1,2,3,4,5] (rg ?_)))
 refine mv ?_
 refine W_q (r_loadbk 0 (vs := [_, _]) rfl T.ag71 T.sz71 rfl rfl rfl) rfl ?_
 refine S_litr (vs := [_]) (cs := [_, _]) Tryz.underlying113 T.sz71 T.ze71 rfl rfl rfl rfl rfl rfl rfl (fun b33 => ?_)
 refine S_appendG [_, _] 2 rfl rfl rfl Tryz.underlying113 T.sz71 T.ze71 T.by71 rfl rfl rfl (.row 0 rfl) rfl (by omega) (by unfold maxLen; omega) rfl (fun g34 c34 hg34 => ?_)
 refine as_ ?_
 refine wn (nb (kk4 [1,2,3,4] (rg ?_)))
 refine mv ?_
 refine ad ?_
 refine as_ ?_
 refine wn ?_
 refine NX_rnd [3, 4, 1, 2] (by omega) ((_, _, _)) ?_ rfl (sub_drop 2 rfl) rfl (Imm.le_refl _)
 refine ⟨?_, hg34⟩
 rw [takesK_take hmay (by omega)]
 refine hro.add (pair_of ?_ ?_ ?_)
 · first | (simp [takeEl, *]; done) | (simp [takeEl, *]; omega)
 · first | (have := imm_small hmay (by omega); constructor <;> omega) | (constructor <;> omega)
 · constructor <;> omega
 refine sk (nb (kk5 [1,2,3,4,5] (rg ?_)))
 refine mv ?_
 refine W_q (r_loadbk 0 (vs := [_, _]) rfl T.ag71 T.sz71 rfl rfl rfl) rfl ?_
 refine S_litr (vs := [_]) (cs := [_, _]) Tryz.underlying113 T.sz71 T.ze71 rfl rfl rfl rfl rfl rfl rfl (fun b35 => ?_)
 refine S_appendG [_, _] 2 rfl rfl rfl Tryz.underlying113 T.sz71 T.ze71 T.by71 rfl rfl rfl (.row 0 rfl) rfl (by omega) (by unfold maxLen; omega) rfl (fun g36 c36 hg36 => ?_)
 refine as_ ?_
 refine wn (nb (kk4 [1,2,3,4] (rg ?_)))
 refine mv ?_
 refine ad ?_
 refine as_ ?_
 refine wn ?_
 refine NX_rnd [3, 4, 1, 2] (by omega) ((_, _, _)) ?_ rfl (sub_drop 2 rfl) rfl (Imm.le_refl _)
 refine ⟨?_, hg36⟩
 rw [takesK_take hmay (by omega)]
 refine hro.add (pair_of ?_ ?_ ?_)
 · first | (simp [takeEl, *]; done) | (simp [takeEl, *]; omega)
 · first | (have := imm_small hmay (by omega); constructor <;> omega) | (constructor <;> omega)
 · constructor <;> omega
 refine sq (sq (rg ?_))
 refine be (as_ ?_)
 refine wn (kk7 [1,2,3,4,5,22,42] ?_)
 refine cd ?_ ?_ <;> intro h37 <;> try simp only [tt] at h37
 refine sk (kk7 [1,2,3,4,5,22,42] ?_)
 refine ctz (sq (sq (rg ?_)))
 refine mv (be ?_)
 refine wn (kk6 [1,2,3,4,5,46] ?_)
 refine cd ?_ ?_ <;> intro h38 <;> try simp only [tt] at h38
 refine rg ?_
 refine W_q (r_builda (zs := [_, _]) (cs := [_, _]) Tryz.underlying71 T.sz3 T.ze71 rfl rfl rfl) rfl ?_
 refine sb2 0 T.sz71 ?_
 refine wn (kk5 [1,2,3,4,5] (sq (rg ?_)))
 refine mv (be ?_)
 refine wn (kk6 [1,2,3,4,5,49] ?_)
 refine cd ?_ ?_ <;> intro h39 <;> try simp only [tt] at h39
 refine rg ?_
 refine W_q (r_builda (zs := [_, _]) (cs := [_, _]) Tryz.underlying71 T.sz3 T.ze71 rfl rfl rfl) rfl ?_
 refine sb2 0 T.sz71 ?_
 refine wn (nb (kk5 [1,2,3,4,5] (rg ?_)))
 refine mv ?_
 refine W_q (r_loadbk 0 (vs := [_, _]) rfl T.ag71 T.sz71 rfl rfl rfl) rfl ?_
 refine S_litr (vs := [_]) (cs := [_, _]) Tryz.underlying113 T.sz71 T.ze71 rfl rfl rfl rfl rfl rfl rfl (fun b40 => ?_)
 refine S_appendG [_, _] 2 rfl rfl rfl Tryz.underlying113 T.sz71 T.ze71 T.by71 rfl rfl rfl (.row 0 rfl) rfl (by omega) (by unfold maxLen; omega) rfl (fun g41 c41 hg41 => ?_)
 refine as_ ?_
 refine wn (nb (kk4 [1,2,3,4] (rg ?_)))
 refine mv ?_
 refine ad ?_
 refine as_ ?_
 refine wn ?_
 refine NX_rnd [3, 4, 1, 2] (by omega) ((_, _, _)) ?_ rfl (sub_drop 2 rfl) rfl (Imm.le_refl _)
 refine ⟨?_, hg41⟩
 rw [takesK_take hmay (by omega)]
 refine hro.add (pair_of ?_ ?_ ?_)
 · first | (simp [takeEl, *]; done) | (simp [takeEl, *]; omega)
 · first | (have := imm_small hmay (by omega); constructor <;> omega) | (constructor <;> omega)
 · constructor <;> omega
 refine sk (nb (kk5 [1,2,3,4,5] (rg ?_)))
 refine mv ?_
 refine W_q (r_loadbk 0 (vs := [_, _]) rfl T.ag71 T.sz71 rfl rfl rfl) rfl ?_
 refine S_litr (vs := [_]) (cs := [_, _]) Tryz.underlying113 T.sz71 T.ze71 rfl rfl rfl rfl rfl rfl rfl (fun b42 => ?_)
 refine S_appendG [_, _] 2 rfl rfl rfl Tryz.underlying113 T.sz71 T.ze71 T.by71 rfl rfl rfl (.row 0 rfl) rfl (by omega) (by unfold maxLen; omega) rfl (fun g43 c43 hg43 => ?_)
 refine as_ ?_
 refine wn (nb (kk4 [1,2,3,4] (rg ?_)))
 refine mv ?_
 refine ad ?_
 refine as_ ?_
 refine wn ?_
 refine NX_rnd [3, 4, 1, 2] (by omega) ((_, _, _)) ?_ rfl (sub_drop 2 rfl) rfl (Imm.le_refl _)
 refine ⟨?_, hg43⟩
 rw [takesK_take hmay (by omega)]
 refine hro.add (pair_of ?_ ?_ ?_)
 · first | (simp [takeEl, *]; done) | (simp [takeEl, *]; omega)
 · first | (have := imm_small hmay (by omega); constructor <;> omega) | (constructor <;> omega)
 · constructor <;> omega
 refine sk (kk5 [1,2,3,4,5] (sq (rg ?_)))
 refine mv (be ?_)
 refine wn (kk6 [1,2,3,4,5,49] ?_)
 refine cd ?_ ?_ <;> intro h44 <;> try simp only [tt] at h44
 refine rg ?_
 refine W_q (r_builda (zs := [_, _]) (cs := [_, _]) Tryz.underlying71 T.sz3 T.ze71 rfl rfl rfl) rfl ?_
 refine sb2 0 T.sz71 ?_
 refine wn (nb (kk5 [1,2,3,4,5] (rg ?_)))
 refine mv ?_
 refine W_q (r_loadbk 0 (vs := [_, _]) rfl T.ag71 T.sz71 rfl rfl rfl) rfl ?_
 refine S_litr (vs := [_]) (cs := [_, _]) Tryz.underlying113 T.sz71 T.ze71 rfl rfl rfl rfl rfl rfl rfl (fun b45 => ?_)
 refine S_appendG [_, _] 2 rfl rfl rfl Tryz.underlying113 T.sz71 T.ze71 T.by71 rfl rfl rfl (.row 0 rfl) rfl (by omega) (by unfold maxLen; omega) rfl (fun g46 c46 hg46 => ?_)
 refine as_ ?_
 refine wn (nb (kk4 [1,2,3,4] (rg ?_)))
 refine mv ?_
 refine ad ?_
 refine as_ ?_
 refine wn ?_
 refine NX_rnd [3, 4, 1, 2] (by omega) ((_, _, _)) ?_ rfl (sub_drop 2 rfl) rfl (Imm.le_refl _)
 refine ⟨?_, hg46⟩
 rw [takesK_take hmay (by omega)]
 refine hro.add (pair_of ?_ ?_ ?_)
 · first | (simp [takeEl, *]; done) | (simp [takeEl, *]; omega)
 · first | (have := imm_small hmay (by omega); constructor <;> omega) | (constructor <;> omega)
 · constructor <;> omega
 refine sk (nb (kk5 [1,2,3,4,5] (rg ?_)))
 refine mv ?_
 refine W_q (r_loadbk 0 (vs := [_, _]) rfl T.ag71 T.sz71 rfl rfl rfl) rfl ?_
 refine S_litr (vs := [_]) (cs := [_, _]) Tryz.underlying113 T.sz71 T.ze71 rfl rfl rfl rfl rfl rfl rfl (fun b47 => ?_)
 refine S_appendG [_, _] 2 rfl rfl rfl Tryz.underlying113 T.sz71 T.ze71 T.by71 rfl rfl rfl (.row 0 rfl) rfl (by omega) (by unfold maxLen; omega) rfl (fun g48 c48 hg48 => ?_)
 refine as_ ?_
 refine wn (nb (kk4 [1,2,3,4] (rg ?_)))
 refine mv ?_
 refine ad ?_
 refine as_ ?_
 refine wn ?_
 refine NX_rnd [3, 4, 1, 2] (by omega) ((_, _, _)) ?_ rfl (sub_drop 2 rfl) rfl (Imm.le_refl _)
 refine ⟨?_, hg48⟩
 rw [takesK_take hmay (by omega)]
 refine hro.add (pair_of ?_ ?_ ?_)
 · first | (simp [takeEl, *]; done) | (simp [takeEl, *]; omega)
 · first | (have := imm_small hmay (by omega); constructor <;> omega) | (constructor <;> omega)
 · constructor <;> omega
 refine rg ?_
 refine be (as_ ?_)
 refine wn (kk7 [1,2,3,4,5,22,42] ?_)
 refine cd ?_ ?_ <;> intro h49 <;> try simp only [tt] at h49
 refine sq (sq (rg ?_))
 refine mv (be ?_)
 refine wn (kk6 [1,2,3,4,5,46] ?_)
 refine cd ?_ ?_ <;> intro h50 <;> try simp only [tt] at h50
 refine rg ?_
 refine W_q (r_builda (zs := [_, _]) (cs := [_, _]) Tryz.underlying71 T.sz3 T.ze71 rfl rfl rfl) rfl ?_
 refine sb2 0 T.sz71 ?_
 refine wn (kk5 [1,2,3,4,5] (sq (rg ?_)))
 refine mv (be ?_)
 refine wn (kk6 [1,2,3,4,5,49] ?_)
 refine cd ?_ ?_ <;> intro h51 <;> try simp only [tt] at h51
 refine rg ?_
 refine W_q (r_builda (zs := [_, _]) (cs := [_, _]) Tryz.underlying71 T.sz3 T.ze71 rfl rfl rfl) rfl ?_
 refine sb2 0 T.sz71 ?_
 refine wn (nb (kk5 [1,2,3,4,5] (rg ?_)))
 refine mv ?_
 refine W_q (r_loadbk 0 (vs := [_, _]) rfl T.ag71 T.sz71 rfl rfl rfl) rfl ?_
 refine S_litr (vs := [_]) (cs := [_, _]) Tryz.underlying113 T.sz71 T.ze71 rfl rfl rfl rfl rfl rfl rfl (fun b52 => ?_)
 refine S_appendG [_, _] 2 rfl rfl rfl Tryz.underlying113 T.sz71 T.ze71 T.by71 rfl rfl rfl (.row 0 rfl) rfl (by omega) (by unfold maxLen; omega) rfl (fun g53 c53 hg53 => ?_)
 refine as_ ?_
 refine wn (nb (kk4 [1,2,3,4] (rg ?_)))
 refine mv ?_
 refine ad ?_
 refine as_ ?_
 refine wn ?_
 refine NX_rnd [3, 4, 1, 2] (by omega) ((_, _, _)) ?_ rfl (sub_drop 2 rfl) rfl (Imm.le_refl _)
 refine ⟨?_, hg53⟩
 rw [takesK_take hmay (by omega)]
 refine hro.add (pair_of ?_ ?_ ?_)
 · first | (simp [takeEl, *]; done) | (simp [takeEl, *]; omega)
 · first | (have := imm_small hmay (by omega); constructor <;> omega) | (constructor <;> omega)
 · constructor <;> omega
 refine sk (nb (kk5 [1,2,3,4,5] (rg ?_)))
 refine mv ?_
 refine W_q (r_loadbk 0 (vs := [_, _]) rfl T.ag71 T.sz71 rfl rfl rfl) rfl ?_
 refine S_litr (vs := [_]) (cs := [_, _]) Tryz.underlying113 T.sz71 T.ze71 rfl rfl rfl rfl rfl rfl rfl (fun b54 => ?_)
 refine S_appendG [_, _] 2 rfl rfl rfl Tryz.underlying113 T.sz71 T.ze71 T.by71 rfl rfl rfl (.row 0 rfl) rfl (by omega) (by unfold maxLen; omega) rfl (fun g55 c55 hg55 => ?_)
 refine as_ ?_
 refine wn (nb (kk4 [1,2,3,4] (rg ?_)))
 refine mv ?_
 refine ad ?_
 refine as_ ?_
 refine wn ?_
 refine NX_rnd [3, 4, 1, 2] (by omega) ((_, _, _)) ?_ rfl (sub_drop 2 rfl) rfl (Imm.le_refl _)
 refine ⟨?_, hg55⟩
 rw [takesK_take hmay (by omega)]
 refine hro.add (pair_of ?_ ?_ ?_)
 · first | (simp [takeEl, *]; done) | (simp [takeEl, *]; omega)
 · first | (have := imm_small hmay (by omega); constructor <;> omega) | (constructor <;> omega)
 · constructor <;> omega
 refine sk (kk5 [1,2,3,4,5] (sq (rg ?_)))
 refine mv (be ?_)
 refine wn (kk6 [1,2,3,4,5,49] ?_)
 refine cd ?_ ?_ <;> intro h56 <;> try simp only [tt] at h56
 refine rg ?_
 refine W_q (r_builda (zs := [_, _]) (cs := [_, _]) Tryz.underlying71 T.sz3 T.ze71 rfl rfl rfl) rfl ?_
 refine sb2 0 T.sz71 ?_
 refine wn (nb (kk5 [1,2,3,4,5] (rg ?_)))
 refine mv ?_
 refine W_q (r_loadbk 0 (vs := [_, _]) rfl T.ag71 T.sz71 rfl rfl rfl) rfl ?_
 refine S_litr (vs := [_]) (cs := [_, _]) Tryz.underlying113 T.sz71 T.ze71 rfl rfl rfl rfl rfl rfl rfl (fun b57 => ?_)
 refine S_appendG [_, _] 2 rfl rfl rfl Tryz.underlying113 T.sz71 T.ze71 T.by71 rfl rfl rfl (.row 0 rfl) rfl (by omega) (by unfold maxLen; omega) rfl (fun g58 c58 hg58 => ?_)
 refine as_ ?_
 refine wn (nb (kk4 [1,2,3,4] (rg ?_)))
 refine mv ?_
 refine ad ?_
 refine as_ ?_
 refine wn ?_
 refine NX_rnd [3, 4, 1, 2] (by omega) ((_, _, _)) ?_ rfl (sub_drop 2 rfl) rfl (Imm.le_refl _)
 refine ⟨?_, hg58⟩
 rw [takesK_take hmay (by omega)]
 refine hro.add (pair_of ?_ ?_ ?_)
 · first | (simp [takeEl, *]; done) | (simp [takeEl, *]; omega)
 · first | (have := imm_small hmay (by omega); constructor <;> omega) | (constructor <;> omega)
 · constructor <;> omega
 refine sk (nb (kk5 [1,2,3,4,5] (rg ?_)))
 refine mv ?_
 refine W_q (r_loadbk 0 (vs := [_, _]) rfl T.ag71 T.sz71 rfl rfl rfl) rfl ?_
 refine S_litr (vs := [_]) (cs := [_, _]) Tryz.underlying113 T.sz71 T.ze71 rfl rfl rfl rfl rfl rfl rfl (fun b59 => ?_)
 refine S_appendG [_, _] 2 rfl rfl rfl Tryz.underlying113 T.sz71 T.ze71 T.by71 rfl rfl rfl (.row 0 rfl) rfl (by omega) (by unfold maxLen; omega) rfl (fun g60 c60 hg60 => ?_)
 refine as_ ?_
 refine wn (nb (kk4 [1,2,3,4] (rg ?_)))
 refine mv ?_
 refine ad ?_
 refine as_ ?_
 refine wn ?_
 refine NX_rnd [3, 4, 1, 2] (by omega) ((_, _, _)) ?_ rfl (sub_drop 2 rfl) rfl (Imm.le_refl _)
 refine ⟨?_, hg60⟩
 rw [takesK_take hmay (by omega)]
 refine hro.add (pair_of ?_ ?_ ?_)
 · first | (simp [takeEl, *]; done) | (simp [takeEl, *]; omega)
 · first | (have := imm_small hmay (by omega); constructor <;> omega) | (constructor <;> omega)
 · constructor <;> omega
 refine sq (rg ?_)
 refine be (as_ ?_)
 refine wn (kk6 [1,2,3,4,5,51] ?_)
 refine cd ?_ ?_ <;> intro h61 <;> try simp only [tt] at h61
 refine rg ?_
 refine fb 1 T.fo51_1 (lb 2 T.ag3 ?_)
 refine W_q (r_builda (zs := [_, _]) (cs := [_, _]) Tryz.underlying71 T.sz3 T.ze71 rfl rfl rfl) rfl ?_
 refine sb2 0 T.sz71 ?_
 refine wn (nb (kk5 [1,2,3,4,5] (rg ?_)))
 refine mv ?_
 refine W_q (r_loadbk 0 (vs := [_, _]) rfl T.ag71 T.sz71 rfl rfl rfl) rfl ?_
 refine S_litr (vs := [_]) (cs := [_, _]) Tryz.underlying113 T.sz71 T.ze71 rfl rfl rfl rfl rfl rfl rfl (fun b62 => ?_)
 refine S_appendG [_, _] 2 rfl rfl rfl Tryz.underlying113 T.sz71 T.ze71 T.by71 rfl rfl rfl (.row 0 rfl) rfl (by omega) (by unfold maxLen; omega) rfl (fun g63 c63 hg63 => ?_)
 refine as_ ?_
 refine wn (nb (kk4 [1,2,3,4] (rg ?_)))
 refine mv ?_
 refine ad ?_
 refine as_ ?_
 refine wn ?_
 refine NX_rnd [3, 4, 1, 2] (by omega) ((_, _, _)) ?_ rfl (sub_drop 2 rfl) rfl (Imm.le_refl _)
 refine ⟨?_, hg63⟩
 rw [takesK_take hmay (by omega)]
 refine hro.add (pair_of ?_ ?_ ?_)
 · first | (simp [takeEl, *]; done) | (simp [takeEl, *]; omega)
 · first | (have := imm_small hmay (by omega); constructor <;> omega) | (constructor <;> omega)
 · constructor <;> omega
 refine sk (nb (kk5 [1,2,3,4,5] (rg ?_)))
 refine mv ?_
 refine W_q (r_loadbk 0 (vs := [_, _]) rfl T.ag71 T.sz71 rfl rfl rfl) rfl ?_
 refine S_litr (vs := [_]) (cs := [_, _]) Tryz.underlying113 T.sz71 T.ze71 rfl rfl rfl rfl rfl rfl rfl (fun b64 => ?_)
 refine S_appendG [_, _] 2 rfl rfl rfl Tryz.underlying113 T.sz71 T.ze71 T.by71 rfl rfl rfl (.row 0 rfl) rfl (by omega) (by unfold maxLen; omega) rfl (fun g65 c65 hg65 => ?_)
 refine as_ ?_
 refine wn (nb (kk4 [1,2,3,4] (rg ?_)))
 refine mv ?_
 refine ad ?_
 refine as_ ?_
 refine wn ?_
 refine NX_rnd [3, 4, 1, 2] (by omega) ((_, _, _)) ?_ rfl (sub_drop 2 rfl) rfl (Imm.le_refl _)
 refine ⟨?_, hg65⟩
 rw [takesK_take hmay (by omega)]
 refine hro.add (pair_of ?_ ?_ ?_)
 · first | (simp [takeEl, *]; done) | (simp [takeEl, *]; omega)
 · first | (have := imm_small hmay (by omega); constructor <;> omega) | (constructor <;> omega)
 · constructor <;> omega
 refine C_exit (EX_then (EX_then (EX_hit (?_))))
 refine kk2 [2,3] (sq (rg ?_))
 refine mv (as_ ?_)
 refine wn (kk1 [2] ?_)
 have hkn : k3 = o.args.length := by omega
 subst hkn
 refine C_ret (RX_know (k_rowG 0 rfl) (fun hr => ?_))
 refine RX_freeze 0 rfl (fun _ h => h) (fun mf lef hf => ?_)
 rw [List.take_of_length_le (by omega)] at hro
 have hfin := (hro.mono rPair_mono lef).sl hf (by rw [htl]; exact hr.2.1) hr.2.2.1 (by rw [htl]; omega) (by rw [htl]; exact hgo)
 exact RX_g1 rfl rfl ⟨_, _, by rw [htl], hfin⟩
namespace T
theorem hb88 : hasBody Tryz.prog 88 = true := by kernel_rfl
theorem hb89 : hasBody Tryz.prog 89 = true := by kernel_rfl
theorem hb90 : hasBody Tryz.prog 90 = true := by kernel_rfl
end T
theorem size4_rng {m : Imm} {B : Option Addr} {d : Nat} {f : FFun} (h : Sl rBlock 5 m B d f.blocks) (hn : f.blocks.length ≤ 64) (k : Nat) (hk : k < f.blocks.length) : 0 ≤ size4 f k ∧ 0 ≤ size4 f (k + 1) ∧ size4 f (k + 1) ≤ 20000000000000000 := by
  have hb : ∀ b ∈ f.blocks, b.phis.length ≤ 140737488355328 ∧ b.ops.length ≤ 140737488355328 := fun b hb => by
    obtain ⟨j, hj⟩ := List.mem_iff_getElem?.1 hb
    obtain ⟨ad, _, es, _, ⟨A, c, A', c', A'', c'', _, h1, h2, _⟩, _⟩ := h.at_ j b hj
    exact ⟨h1.len, h2.len⟩
  have hz : f.blocks[k]? = some f.blocks[k] := List.getElem?_eq_getElem hk
  have h1 : ∀ k, k ≤ f.blocks.length → 0 ≤ size4 f k := by
    intro k
    induction k with
    | zero => intro _; rw [size4_zero]; omega
    | succ k ih => intro hk; rw [size4_succ (List.getElem?_eq_getElem (show k < f.blocks.length by omega))]; have := ih (by omega); omega
  have h2 := (sizeK_le f (k + 1) (by omega) hb).1
  have h3 := h1 k (by omega)
  have h4 := h1 (k + 1) (by omega)
  refine ⟨h3, h4, ?_⟩
  rw [size4]; omega
theorem rNum_q {m : Imm} (n : Int) : Quiet Tryz.prog 89 [.int .i64 n] m (.bool (numB n)) := by
 refine quiet_of Tryz.func89 rfl Tryz.ntmps89 rfl (fun w => ?_)
 refine sq (rg ?_)
 refine as_ ?_
 refine wn (kk2 [0,2] (sq (rg ?_)))
 refine mv (bh (mv ?_))
 refine sp 5 ?_ ?_ <;> intro h1 <;> try simp only [tt] at h1
 refine tk (mv ?_)
 refine tk (bq (pt (as_ ?_)))
 refine wn (kk1 [2] ?_)
 refine C_ret (RX_q1 rfl rfl ?_)
 simp [numB, *]
 refine ps (ps ?_)
 refine pf (as_ ?_)
 refine wn (kk1 [2] ?_)
 refine C_ret (RX_q1 rfl rfl ?_)
 simp [numB, *]
theorem rList_q {m : Imm} {A : Option Addr} {c : Nat} {l : List Int} (h : Ints m A c l) : Quiet Tryz.prog 88 [.slice A l.length c] m (.bool (listN l)) := by
 have hlen := h.len
 refine quiet_of Tryz.func88 rfl Tryz.ntmps88 rfl (fun w => ?_)
 refine sq (rg ?_)
 refine as_ ?_
 refine wn (kk2 [0,2] (sq (sq (rg ?_))))
 refine as_ ?_
 refine wn (kk3 [0,2,3] (bk ?_))
 refine C_loop (Unit) (l.length) (fun k1 x1 => ∀ j, j < k1 → ∀ y, l[j]? = some y → numB y = true) (fun k1 x1 => [(3, .int .i64 (k1 : Int))]) (fun _ _ => []) [3] [0] (F := [(0, _)]) (()) (by simp) rfl rfl rfl (fun k1 x1 hk1 hJ1 => ?_)
 refine jj2 [0,3] (sq (sq (rg ?_)))
 refine mv (mv (ln Tryz.underlying22 (bl ?_)))
 refine wn (kk3 [0,3,7] ?_)
 refine cd ?_ ?_ <;> intro h2 <;> try simp only [tt] at h2
 refine sk (kk2 [0,3] (sq (bk (sq (rg ?_)))))
 refine mv (mv ?_)
 obtain ⟨ad3, hA3⟩ := h.ad (j := k1) (by omega)
 obtain ⟨z3, hz3⟩ := h.getz (j := k1) (by omega)
 refine ixz hA3 Tryz.underlying22 T.sz3 ?_
 obtain ⟨l4, r4⟩ := Sl.getI h hA3 hz3
 refine liz T.ag3 l4 ?_
 refine W_quiet (rNum_q _) T.hb89 rfl rfl ?_
 refine nt ?_
 refine wn (kk3 [0,3,15] ?_)
 refine cd ?_ ?_ <;> intro h5 <;> try simp only [tt] at h5
 refine sq (rg ?_)
 refine as_ ?_
 refine wn (kk3 [0,2,3] ?_)
 refine C_ret (RX_block (RX_then (RX_then (RX_block (RX_then (RX_q1 rfl rfl ?_))))))
 have ha := all_false_of (p := numB) hz3 (by assumption)
 simp [listN, ha]
 refine sk (nb (kk2 [0,3] (rg ?_)))
 refine mv ?_
 refine ad ?_
 refine as_ ?_
 refine wn ?_
 refine NX_rnd [3, 0] (by omega) (()) ?_ rfl (List.Sublist.refl _) rfl (Imm.le_refl _)
 exact lt_succ_all hJ1 (fun y hy => by rw [hz3] at hy; cases hy; assumption)
 refine C_exit (EX_then (EX_then (EX_hit (?_))))
 refine kk1 [0] (sq (rg ?_))
 refine mv (ln Tryz.underlying22 (bq (as_ ?_)))
 refine wn (kk1 [2] ?_)
 refine C_ret (RX_q1 rfl rfl ?_)
 have hkk : k1 = l.length := by omega
 subst hkk
 have ha := all_true_of hJ1
 refine congrArg Value.bool (bool_ext ?_)
 simp only [listN, ha, Bool.true_and, decide_eq_true_eq]
 omega
theorem rSize_q {m : Imm} {es : List Value} {f : FFun} (hF : rFunc m es f) (hn : f.blocks.length ≤ 64) : Quiet Tryz.prog 90 [.agg es.toArray] m (.int .i64 (sizeF f)) := by
 have hF_0 := hF
 obtain ⟨A90, c90, B90, d90, rfl, hq90, hb90, i90a⟩ := hF_0
 refine quiet_of Tryz.func90 rfl Tryz.ntmps90 rfl (fun w => ?_)
 refine sq (rg ?_)
 refine S_box (l := [_, _, _]) rfl rfl rfl (fun b1 => ?_)
 refine as_ ?_
 refine wn (kk2 [1,2] (sq (rg ?_)))
 refine as_ ?_
 refine wn (kk3 [1,2,3] (sq (sq (rg ?_))))
 refine as_ ?_
 refine wn (kk4 [1,2,3,4] (bk ?_))
 refine C_loop (Int) (f.blocks.length) (fun k2 x2 => x2 = size4 f k2) (fun k2 x2 => [(3, .int .i64 x2), (4, .int .i64 (k2 : Int))]) (fun _ _ => []) [3, 4] [1, 2] (F := [(1, _), (2, _)]) (0) (size4_zero f).symm rfl rfl rfl (fun k2 x2 hk2 hJ2 => ?_)
 refine jj4 [1,2,3,4] (sq (sq (rg ?_)))
 refine mv (fb 2 T.fo25_2 (lb 0 T.ag23 (ln Tryz.underlying23 (bl ?_))))
 refine wn (kk5 [1,2,3,4,9] ?_)
 refine cd ?_ ?_ <;> intro h3 <;> try simp only [tt] at h3
 refine sk (kk4 [1,2,3,4] (sq (bk ?_)))
 refine C_drawn [(0, true), (1, true), (2, true), (3, true), (4, true), (5, true), (6, true), (7, true), (8, true), (9, true), (10, true), (11, true), (12, true), (13, true), (14, true), (15, true), (16, true), (17, true), (18, true)] (by kernel_rfl) rfl (by kernel_rfl) (by kernel_rfl) ?_
 refine dmv ?_
 refine dfb 2 T.fo25_2 ?_
 refine dlb 0 T.ag23 ?_
 refine dmv ?_
 obtain ⟨ad4, hA4⟩ := hb90.ad (j := k2) (by omega)
 obtain ⟨z4, hz4⟩ := hb90.getz (j := k2) (by omega)
 refine D_q rfl (r_index hA4 Tryz.underlying23 T.sz44 rfl rfl ⟨by omega, by omega⟩) rfl ?_
 refine D_q rfl (r_field rfl T.fo44_0) rfl ?_
 obtain ⟨es5, f5, _, l5⟩ := Sl.get hb90 hA4 hz4
 obtain ⟨A5, c5, B5, d5, C5, e5, rfl, hp5, ho5, ht5, i5a, i5b⟩ := f5
 refine D_q rfl (r_load_imm rfl T.ag39 (l5 0 _ rfl)) rfl ?_
 refine D_q rfl (r_len Tryz.underlying39 rfl) rfl ?_
 refine D_q rfl (r_add rfl rfl (by have hs := size4_rng hb90 hn k2 (by omega); rw [size4_succ hz4] at hs; constructor <;> omega)) rfl ?_
 refine dfb 2 T.fo25_2 ?_
 refine dlb 0 T.ag23 ?_
 refine dmv ?_
 obtain ⟨ad6, hA6⟩ := hb90.ad (j := k2) (by omega)
 refine D_q rfl (r_index hA6 Tryz.underlying23 T.sz44 rfl rfl ⟨by omega, by omega⟩) rfl ?_
 refine D_q rfl (r_field rfl T.fo44_1) rfl ?_
 obtain ⟨es7, f7, _, l7⟩ := Sl.get hb90 hA6 hz4
 obtain ⟨A7, c7, B7, d7, C7, e7, rfl, hp7, ho7, ht7, i7a, i7b⟩ := f7
 refine D_q rfl (r_load_imm rfl T.ag40 (l7 1 _ rfl)) rfl ?_
 refine D_q rfl (r_len Tryz.underlying40 rfl) rfl ?_
 refine D_q rfl (r_add rfl rfl (by have hs := size4_rng hb90 hn k2 (by omega); rw [size4_succ hz4] at hs; constructor <;> omega)) rfl ?_
 refine D_q rfl (r_add rfl rfl (by have hs := size4_rng hb90 hn k2 (by omega); rw [size4_succ hz4] at hs; constructor <;> omega)) rfl ?_
 refine das ?_
 refine D_end ?_
 refine nb (kk4 [1,2,3,4] (rg ?_))
 refine mv ?_
 refine ad ?_
 refine as_ ?_
 refine wn ?_
 refine NX_rnd [3, 4, 1, 2] (by omega) (_) ?_ rfl (List.Sublist.refl _) rfl (Imm.le_refl _)
 rw [hJ2, size4_succ hz4]
 refine C_exit (EX_then (EX_then (EX_hit (?_))))
 refine kk2 [2,3] (sq (rg ?_))
 refine mv (as_ ?_)
 refine wn (kk1 [2] ?_)
 refine C_ret (RX_q1 rfl rfl ?_)
 have hkk : k2 = f.blocks.length := by omega
 subst hkk
 rw [hJ2, size4_end]
theorem rMay4_q {m : Imm} {es : List Value} {f : FFun} (hF : rFunc m es f) : Quiet Tryz.prog 55 [.agg es.toArray] m (.bool (mayF f)) := by
 have hF_0 := hF
 obtain ⟨A90, c90, B90, d90, rfl, hq90, hb90, i90a⟩ := hF_0
 have hbl := hb90.len
 refine quiet_of Tryz.func55 rfl Tryz.ntmps55 rfl (fun w => ?_)
 refine sq (rg ?_)
 refine S_box (l := [_, _, _]) rfl rfl rfl (fun b1 => ?_)
 refine as_ ?_
 refine wn (kk2 [1,2] (sq (sq (rg ?_))))
 refine fb 2 T.fo25_2 (lb 0 T.ag23 (ln Tryz.underlying23 (be (mv ?_))))
 refine sp 13 ?_ ?_ <;> intro h2 <;> try simp only [tt] at h2
 refine ps (ps (ps (ps ?_)))
 refine pt (mv ?_)
 refine ps (ps (ps (ps ?_)))
 refine pt (mv ?_)
 refine ps (ps (ps (ps ?_)))
 refine pt (mv ?_)
 refine ps (ps (ps (ps ?_)))
 refine pt (mv ?_)
 refine ps (ps (ps ?_))
 refine pt ?_
 refine wn (kk3 [1,2,41] ?_)
 refine ctz (sq (rg ?_))
 refine as_ ?_
 refine wn (kk2 [1,2] ?_)
 refine C_ret (RX_then (RX_q1 rfl rfl ?_))
 rw [← may4_eq]
 exact congrArg Value.bool (may4_f (by omega)).symm
 refine tk (fb 2 T.fo25_2 ?_)
 refine tk (lb 0 T.ag23 ?_)
 refine tk (ln Tryz.underlying23 ?_)
 refine tk (bg (pf (mv ?_)))
 refine sp 19 ?_ ?_ <;> intro h3 <;> try simp only [tt] at h3
 refine ps (ps (ps (ps ?_)))
 refine pt (mv ?_)
 refine ps (ps (ps (ps ?_)))
 refine pt (mv ?_)
 refine ps (ps (ps (ps ?_)))
 refine pt (mv ?_)
 refine ps (ps (ps ?_))
 refine pt ?_
 refine wn (kk3 [1,2,41] ?_)
 refine ctz (sq (rg ?_))
 refine as_ ?_
 refine wn (kk2 [1,2] ?_)
 refine C_ret (RX_then (RX_q1 rfl rfl ?_))
 rw [← may4_eq]
 exact congrArg Value.bool (may4_f (by omega)).symm
 refine tk (fb 0 T.fo25_0 ?_)
 refine tk (lb 0 T.ag22 ?_)
 refine tk (ln Tryz.underlying22 ?_)
 refine tk (bg (pf (mv ?_)))
 refine sp 25 ?_ ?_ <;> intro h4 <;> try simp only [tt] at h4
 refine ps (ps (ps (ps ?_)))
 refine pt (mv ?_)
 refine ps (ps (ps (ps ?_)))
 refine pt (mv ?_)
 refine ps (ps (ps ?_))
 refine pt ?_
 refine wn (kk3 [1,2,41] ?_)
 refine ctz (sq (rg ?_))
 refine as_ ?_
 refine wn (kk2 [1,2] ?_)
 refine C_ret (RX_then (RX_q1 rfl rfl ?_))
 rw [← may4_eq]
 exact congrArg Value.bool (may4_f (by omega)).symm
 refine tk (fb 0 T.fo25_0 ?_)
 refine tk (lb 0 T.ag22 ?_)
 refine tk ?_
 refine W_quiet (rList_q hq90) T.hb88 rfl rfl ?_
 refine tk (nt (pf (mv ?_)))
 refine sp 31 ?_ ?_ <;> intro h5 <;> try simp only [tt] at h5
 refine ps (ps (ps (ps ?_)))
 refine pt (mv ?_)
 refine ps (ps (ps ?_))
 refine pt ?_
 refine wn (kk3 [1,2,41] ?_)
 refine ctz (sq (rg ?_))
 refine as_ ?_
 refine wn (kk2 [1,2] ?_)
 refine C_ret (RX_then (RX_q1 rfl rfl ?_))
 rw [← may4_eq]
 simp [may4, *]
 refine tk (fb 1 T.fo25_1 ?_)
 refine tk (lb 0 T.ag3 ?_)
 refine tk ?_
 refine W_quiet (rNum_q _) T.hb89 rfl rfl ?_
 refine tk (nt (pf (mv ?_)))
 refine sp 37 ?_ ?_ <;> intro h6 <;> try simp only [tt] at h6
 refine ps (ps (ps ?_))
 refine pt ?_
 refine wn (kk3 [1,2,41] ?_)
 refine ctz (sq (rg ?_))
 refine as_ ?_
 refine wn (kk2 [1,2] ?_)
 refine C_ret (RX_then (RX_q1 rfl rfl ?_))
 rw [← may4_eq]
 simp [may4, *]
 refine tk ?_
 refine W_q (r_loadbk 0 (vs := [_, _, _]) rfl T.ag25 T.sz25 rfl rfl rfl) rfl ?_
 refine tk ?_
 refine W_quiet (rSize_q hF (by omega)) T.hb90 rfl rfl ?_
 refine tk (bg (pf ?_))
 refine wn (kk3 [1,2,41] ?_)
 refine cd ?_ ?_ <;> intro h7 <;> try simp only [tt] at h7
 refine sq (rg ?_)
 refine as_ ?_
 refine wn (kk2 [1,2] ?_)
 refine C_ret (RX_then (RX_q1 rfl rfl ?_))
 rw [← may4_eq]
 exact congrArg Value.bool (may4_f (by omega)).symm
 refine sk (kk2 [1,2] (sq (sq (rg ?_))))
 refine as_ ?_
 refine wn (kk3 [1,2,3] (bk ?_))
 refine C_loop (Unit) (f.blocks.length) (fun k8 x8 => ∀ j, j < k8 → ∀ y, f.blocks[j]? = some y → may4B y = true) (fun k8 x8 => [(3, .int .i64 (k8 : Int))]) (fun _ _ => []) [3] [1] (F := [(1, _)]) (()) (by simp) rfl rfl rfl (fun k8 x8 hk8 hJ8 => ?_)
 refine jj2 [1,3] (sq (sq (rg ?_)))
 refine mv (fb 2 T.fo25_2 (lb 0 T.ag23 (ln Tryz.underlying23 (bl ?_))))
 refine wn (kk3 [1,3,46] ?_)
 refine cd ?_ ?_ <;> intro h9 <;> try simp only [tt] at h9
 refine sk (kk2 [1,3] (sq (bk (sq (rg ?_)))))
 refine fb 2 T.fo25_2 (lb 0 T.ag23 (mv ?_))
 obtain ⟨ad10, hA10⟩ := hb90.ad (j := k8) (by omega)
 obtain ⟨z10, hz10⟩ := hb90.getz (j := k8) (by omega)
 refine ixz hA10 Tryz.underlying23 T.sz44 ?_
 obtain ⟨es11, f11, _, l11⟩ := Sl.get hb90 hA10 hz10
 have F11 := f11
 obtain ⟨A11, c11, B11, d11, C11, e11, rfl, hp11, ho11, ht11, i11a, i11b⟩ := f11
 refine W_q (r_load_immk (vs := [_, _, _, _, _]) rfl T.ag44 T.sz44 l11) rfl ?_
 refine sa5 T.ze44 (fun b12 => ?_)
 refine sb5 0 T.sz44 ?_
 refine wn (kk3 [1,3,4] (sq (sq (rg ?_))))
 refine as_ ?_
 refine wn (kk4 [1,3,4,5] (bk ?_))
 refine C_loop (Unit) (z10.phis.length) (fun k13 x13 => ∀ j, j < k13 → ∀ y, z10.phis[j]? = some y → may4P y = true) (fun k13 x13 => [(5, .int .i64 (k13 : Int))]) (fun _ _ => []) [5] [1, 3, 4] (F := [(1, _), (3, _), (4, _)]) (()) (by simp) rfl rfl rfl (fun k13 x13 hk13 hJ13 => ?_)
 refine jj4 [1,3,4,5] (sq (sq (rg ?_)))
 refine mv (fb 0 T.fo44_0 (lb 0 T.ag39 (ln Tryz.underlying39 (bl ?_))))
 refine wn (kk5 [1,3,4,5,58] ?_)
 refine cd ?_ ?_ <;> intro h14 <;> try simp only [tt] at h14
 refine sk (kk4 [1,3,4,5] (sq (bk (sq (rg ?_)))))
 refine fb 0 T.fo44_0 (lb 0 T.ag39 (mv ?_))
 obtain ⟨ad15, hA15⟩ := hp11.ad (j := k13) (by omega)
 obtain ⟨z15, hz15⟩ := hp11.getz (j := k13) (by omega)
 refine ixz hA15 Tryz.underlying39 T.sz61 ?_
 obtain ⟨es16, f16, _, l16⟩ := Sl.get hp11 hA15 hz15
 have F16 := f16
 obtain ⟨A16, c16, B16, d16, rfl, h16, g16, i16a, i16b⟩ := f16
 refine W_q (r_load_immk (vs := [_, _, _, _]) rfl T.ag61 T.sz61 l16) rfl ?_
 refine sa4 T.ze61 (fun b17 => ?_)
 refine sb4 0 T.sz61 ?_
 refine wn (kk5 [1,3,4,5,6] (sq (rg ?_)))
 refine fb 0 T.fo61_0 (lb 0 T.ag3 ?_)
 refine W_quiet (rNum_q _) T.hb89 rfl rfl ?_
 refine nt (mv ?_)
 refine sp 70 ?_ ?_ <;> intro h18 <;> try simp only [tt] at h18
 refine ps (ps (ps (ps ?_)))
 refine pt (mv ?_)
 refine ps (ps (ps (ps ?_)))
 refine pt (mv ?_)
 refine ps (ps (ps (ps ?_)))
 refine pt ?_
 refine wn (kk5 [1,3,4,5,87] ?_)
 refine ctz (sq (rg ?_))
 refine as_ ?_
 refine wn (kk5 [1,2,3,4,5] ?_)
 refine C_ret (RX_block (RX_then (RX_then (RX_block (RX_then (RX_block (RX_then (RX_then (RX_block (RX_then (RX_q1 rfl rfl ?_)))))))))))
 rw [← may4_eq]
 have ha := all_false_of (p := may4P) hz15 (by simp [may4P, *])
 have hb := all_false_of (p := may4B) hz10 (by simp [may4B, ha])
 simp [may4, hb]
 refine tk (fb 1 T.fo61_1 ?_)
 refine tk (lb 0 T.ag3 ?_)
 refine tk ?_
 refine W_quiet (rNum_q _) T.hb89 rfl rfl ?_
 refine tk (nt (pf (mv ?_)))
 refine sp 76 ?_ ?_ <;> intro h19 <;> try simp only [tt] at h19
 refine ps (ps (ps (ps ?_)))
 refine pt (mv ?_)
 refine ps (ps (ps (ps ?_)))
 refine pt ?_
 refine wn (kk5 [1,3,4,5,87] ?_)
 refine ctz (sq (rg ?_))
 refine as_ ?_
 refine wn (kk5 [1,2,3,4,5] ?_)
 refine C_ret (RX_block (RX_then (RX_then (RX_block (RX_then (RX_block (RX_then (RX_then (RX_block (RX_then (RX_q1 rfl rfl ?_)))))))))))
 rw [← may4_eq]
 have ha := all_false_of (p := may4P) hz15 (by simp [may4P, *])
 have hb := all_false_of (p := may4B) hz10 (by simp [may4B, ha])
 simp [may4, hb]
 refine tk (fb 2 T.fo61_2 ?_)
 refine tk (lb 0 T.ag22 ?_)
 refine tk ?_
 refine W_quiet (rList_q h16) T.hb88 rfl rfl ?_
 refine tk (nt (pf (mv ?_)))
 refine sp 82 ?_ ?_ <;> intro h20 <;> try simp only [tt] at h20
 refine ps (ps (ps (ps ?_)))
 refine pt ?_
 refine wn (kk5 [1,3,4,5,87] ?_)
 refine ctz (sq (rg ?_))
 refine as_ ?_
 refine wn (kk5 [1,2,3,4,5] ?_)
 refine C_ret (RX_block (RX_then (RX_then (RX_block (RX_then (RX_block (RX_then (RX_then (RX_block (RX_then (RX_q1 rfl rfl ?_)))))))))))
 rw [← may4_eq]
 have ha := all_false_of (p := may4P) hz15 (by simp [may4P, *])
 have hb := all_false_of (p := may4B) hz10 (by simp [may4B, ha])
 simp [may4, hb]
 refine tk (fb 3 T.fo61_3 ?_)
 refine tk (lb 0 T.ag22 ?_)
 refine tk ?_
 refine W_quiet (rList_q g16) T.hb88 rfl rfl ?_
 refine tk (nt (pf ?_))
 refine wn (kk5 [1,3,4,5,87] ?_)
 refine cd ?_ ?_ <;> intro h21 <;> try simp only [tt] at h21
 refine sq (rg ?_)
 refine as_ ?_
 refine wn (kk5 [1,2,3,4,5] ?_)
 refine C_ret (RX_block (RX_then (RX_then (RX_block (RX_then (RX_block (RX_then (RX_then (RX_block (RX_then (RX_q1 rfl rfl ?_)))))))))))
 rw [← may4_eq]
 have ha := all_false_of (p := may4P) hz15 (by simp [may4P, *])
 have hb := all_false_of (p := may4B) hz10 (by simp [may4B, ha])
 simp [may4, hb]
 refine sk (nb (kk4 [1,3,4,5] (rg ?_)))
 refine mv ?_
 refine W_q (r_add rfl rfl (by have := Sl.len (r := rPhi) (sz := 4) (xs := z10.phis) (by assumption); constructor <;> omega)) rfl ?_
 refine as_ ?_
 refine wn ?_
 refine NX_rnd [5, 1, 3, 4] (by omega) (()) ?_ rfl (sub_drop 1 rfl) rfl (Imm.le_refl _)
 exact lt_succ_all hJ13 (fun y hy => by rw [hz15] at hy; cases hy; simp [may4P, *])
 refine C_exit (EX_then (EX_then (EX_hit (?_))))
 refine kk3 [1,3,4] (sq (sq (rg ?_)))
 refine as_ ?_
 refine wn (kk4 [1,3,4,7] (bk ?_))
 refine C_loop (Unit) (z10.ops.length) (fun k22 x22 => ∀ j, j < k22 → ∀ y, z10.ops[j]? = some y → may4O y = true) (fun k22 x22 => [(7, .int .i64 (k22 : Int))]) (fun _ _ => []) [7] [1, 3, 4] (F := [(1, _), (3, _), (4, _)]) (()) (by simp) rfl rfl rfl (fun k22 x22 hk22 hJ22 => ?_)
 refine jj4 [1,3,4,7] (sq (sq (rg ?_)))
 refine mv (fb 1 T.fo44_1 (lb 0 T.ag40 (ln Tryz.underlying40 (bl ?_))))
 refine wn (kk5 [1,3,4,7,92] ?_)
 refine cd ?_ ?_ <;> intro h23 <;> try simp only [tt] at h23
 refine sk (kk4 [1,3,4,7] (sq (bk (sq (rg ?_)))))
 refine fb 1 T.fo44_1 (lb 0 T.ag40 (mv ?_))
 obtain ⟨ad24, hA24⟩ := ho11.ad (j := k22) (by omega)
 obtain ⟨z24, hz24⟩ := ho11.getz (j := k22) (by omega)
 refine ixz hA24 Tryz.underlying40 T.sz51 ?_
 obtain ⟨es25, f25, _, l25⟩ := Sl.get ho11 hA24 hz24
 have F25 := f25
 obtain ⟨A25, c25, rfl, h25, i25a, i25b, i25c, i25d, i25e⟩ := f25
 refine W_q (r_load_immk (vs := [_, _, _, _, _, _]) rfl T.ag51 T.sz51 l25) rfl ?_
 refine sa6 T.ze51 (fun b26 => ?_)
 refine sb6 0 T.sz51 ?_
 refine wn (kk5 [1,3,4,7,8] (sq (rg ?_)))
 refine fb 0 T.fo51_0 (lb 0 T.ag3 ?_)
 refine W_quiet (rNum_q _) T.hb89 rfl rfl ?_
 refine nt (mv ?_)
 refine sp 104 ?_ ?_ <;> intro h27 <;> try simp only [tt] at h27
 refine ps (ps (ps (ps ?_)))
 refine pt (mv ?_)
 refine ps (ps (ps (ps ?_)))
 refine pt (mv ?_)
 refine ps (ps (ps (ps ?_)))
 refine pt (mv ?_)
 refine ps (ps (ps (ps ?_)))
 refine pt ?_
 refine wn (kk5 [1,3,4,7,127] ?_)
 refine ctz (sq (rg ?_))
 refine as_ ?_
 refine wn (kk5 [1,2,3,4,7] ?_)
 refine C_ret (RX_block (RX_then (RX_then (RX_block (RX_then (RX_block (RX_then (RX_then (RX_block (RX_then (RX_q1 rfl rfl ?_)))))))))))
 rw [← may4_eq]
 have ha := all_false_of (p := may4O) hz24 (by simp [may4O, *])
 have hb := all_false_of (p := may4B) hz10 (by simp [may4B, ha])
 simp [may4, hb]
 refine tk (fb 1 T.fo51_1 ?_)
 refine tk (lb 0 T.ag3 ?_)
 refine tk ?_
 refine W_quiet (rNum_q _) T.hb89 rfl rfl ?_
 refine tk (nt (pf (mv ?_)))
 refine sp 110 ?_ ?_ <;> intro h28 <;> try simp only [tt] at h28
 refine ps (ps (ps (ps ?_)))
 refine pt (mv ?_)
 refine ps (ps (ps (ps ?_)))
 refine pt (mv ?_)
 refine ps (ps (ps (ps ?_)))
 refine pt ?_
 refine wn (kk5 [1,3,4,7,127] ?_)
 refine ctz (sq (rg ?_))
 refine as_ ?_
 refine wn (kk5 [1,2,3,4,7] ?_)
 refine C_ret (RX_block (RX_then (RX_then (RX_block (RX_then (RX_block (RX_then (RX_then (RX_block (RX_then (RX_q1 rfl rfl ?_)))))))))))
 rw [← may4_eq]
 have ha := all_false_of (p := may4O) hz24 (by simp [may4O, *])
 have hb := all_false_of (p := may4B) hz10 (by simp [may4B, ha])
 simp [may4, hb]
 refine tk (fb 2 T.fo51_2 ?_)
 refine tk (lb 0 T.ag3 ?_)
 refine tk ?_
 refine W_quiet (rNum_q _) T.hb89 rfl rfl ?_
 refine tk (nt (pf (mv ?_)))
 refine sp 116 ?_ ?_ <;> intro h29 <;> try simp only [tt] at h29
 refine ps (ps (ps (ps ?_)))
 refine pt (mv ?_)
 refine ps (ps (ps (ps ?_)))
 refine pt ?_
 refine wn (kk5 [1,3,4,7,127] ?_)
 refine ctz (sq (rg ?_))
 refine as_ ?_
 refine wn (kk5 [1,2,3,4,7] ?_)
 refine C_ret (RX_block (RX_then (RX_then (RX_block (RX_then (RX_block (RX_then (RX_then (RX_block (RX_then (RX_q1 rfl rfl ?_)))))))))))
 rw [← may4_eq]
 have ha := all_false_of (p := may4O) hz24 (by simp [may4O, *])
 have hb := all_false_of (p := may4B) hz10 (by simp [may4B, ha])
 simp [may4, hb]
 refine tk (fb 3 T.fo51_3 ?_)
 refine tk (lb 0 T.ag3 ?_)
 refine tk ?_
 refine W_quiet (rNum_q _) T.hb89 rfl rfl ?_
 refine tk (nt (pf (mv ?_)))
 refine sp 122 ?_ ?_ <;> intro h30 <;> try simp only [tt] at h30
 refine ps (ps (ps (ps ?_)))
 refine pt ?_
 refine wn (kk5 [1,3,4,7,127] ?_)
 refine ctz (sq (rg ?_))
 refine as_ ?_
 refine wn (kk5 [1,2,3,4,7] ?_)
 refine C_ret (RX_block (RX_then (RX_then (RX_block (RX_then (RX_block (RX_then (RX_then (RX_block (RX_then (RX_q1 rfl rfl ?_)))))))))))
 rw [← may4_eq]
 have ha := all_false_of (p := may4O) hz24 (by simp [may4O, *])
 have hb := all_false_of (p := may4B) hz10 (by simp [may4B, ha])
 simp [may4, hb]
 refine tk (fb 4 T.fo51_4 ?_)
 refine tk (lb 0 T.ag22 ?_)
 refine tk ?_
 refine W_quiet (rList_q h25) T.hb88 rfl rfl ?_
 refine tk (nt (pf ?_))
 refine wn (kk5 [1,3,4,7,127] ?_)
 refine cd ?_ ?_ <;> intro h31 <;> try simp only [tt] at h31
 refine sq (rg ?_)
 refine as_ ?_
 refine wn (kk5 [1,2,3,4,7] ?_)
 refine C_ret (RX_block (RX_then (RX_then (RX_block (RX_then (RX_block (RX_then (RX_then (RX_block (RX_then (RX_q1 rfl rfl ?_)))))))))))
 rw [← may4_eq]
 have ha := all_false_of (p := may4O) hz24 (by simp [may4O, *])
 have hb := all_false_of (p := may4B) hz10 (by simp [may4B, ha])
 simp [may4, hb]
 refine sk (nb (kk4 [1,3,4,7] (rg ?_)))
 refine mv ?_
 refine W_q (r_add rfl rfl (by have := Sl.len (r := rOp) (sz := 6) (xs := z10.ops) (by assumption); constructor <;> omega)) rfl ?_
 refine as_ ?_
 refine wn ?_
 refine NX_rnd [7, 1, 3, 4] (by omega) (()) ?_ rfl (sub_drop 1 rfl) rfl (Imm.le_refl _)
 exact lt_succ_all hJ22 (fun y hy => by rw [hz24] at hy; cases hy; simp [may4O, *])
 refine C_exit (EX_then (EX_then (EX_hit (?_))))
 refine kk3 [1,3,4] (sq (rg ?_))
 refine fb 2 T.fo44_2 (fb 2 T.fo42_0 (lb 0 T.ag3 ?_))
 refine W_quiet (rNum_q _) T.hb89 rfl rfl ?_
 refine nt (mv ?_)
 refine sp 133 ?_ ?_ <;> intro h32 <;> try simp only [tt] at h32
 refine ps (ps (ps (ps (ps ?_))))
 refine pt (mv ?_)
 refine ps (ps (ps (ps (ps ?_))))
 refine pt ?_
 refine wn (kk3 [1,3,146] ?_)
 refine ctz (sq (rg ?_))
 refine as_ ?_
 refine wn (kk3 [1,2,3] ?_)
 refine C_ret (RX_block (RX_then (RX_then (RX_block (RX_then (RX_q1 rfl rfl ?_))))))
 rw [← may4_eq]
 have hb := all_false_of (p := may4B) hz10 (by simp [may4B, may4E, *])
 simp [may4, hb]
 refine tk (fb 2 T.fo44_2 ?_)
 refine tk (fb 3 T.fo42_1 ?_)
 refine tk (lb 0 T.ag3 ?_)
 refine tk ?_
 refine W_quiet (rNum_q _) T.hb89 rfl rfl ?_
 refine tk (nt (pf (mv ?_)))
 refine sp 140 ?_ ?_ <;> intro h33 <;> try simp only [tt] at h33
 refine ps (ps (ps (ps (ps ?_))))
 refine pt ?_
 refine wn (kk3 [1,3,146] ?_)
 refine ctz (sq (rg ?_))
 refine as_ ?_
 refine wn (kk3 [1,2,3] ?_)
 refine C_ret (RX_block (RX_then (RX_then (RX_block (RX_then (RX_q1 rfl rfl ?_))))))
 rw [← may4_eq]
 have hb := all_false_of (p := may4B) hz10 (by simp [may4B, may4E, *])
 simp [may4, hb]
 refine tk (fb 2 T.fo44_2 ?_)
 refine tk (fb 4 T.fo42_2 ?_)
 refine tk (lb 0 T.ag22 ?_)
 refine tk ?_
 refine W_quiet (rList_q ht11) T.hb88 rfl rfl ?_
 refine tk (nt (pf ?_))
 refine wn (kk3 [1,3,146] ?_)
 refine cd ?_ ?_ <;> intro h34 <;> try simp only [tt] at h34
 refine sq (rg ?_)
 refine as_ ?_
 refine wn (kk3 [1,2,3] ?_)
 refine C_ret (RX_block (RX_then (RX_then (RX_block (RX_then (RX_q1 rfl rfl ?_))))))
 rw [← may4_eq]
 have hb := all_false_of (p := may4B) hz10 (by simp [may4B, may4E, *])
 simp [may4, hb]
 refine sk (nb (kk2 [1,3] (rg ?_)))
 refine mv ?_
 refine ad ?_
 refine as_ ?_
 refine wn ?_
 refine NX_rnd [3, 1] (by omega) (()) ?_ rfl (sub_drop 1 rfl) rfl (Imm.le_refl _)
 have hk1 : k13 = z10.phis.length := by omega
 have hk2 : k22 = z10.ops.length := by omega
 subst hk1 hk2
 have ha1 := all_true_of hJ13
 have ha2 := all_true_of hJ22
 exact lt_succ_all hJ8 (fun y hy => by rw [hz10] at hy; cases hy; simp [may4B, may4E, *])
 refine C_exit (EX_then (EX_then (EX_hit (?_))))
 refine kk0 [] (sq (rg ?_))
 refine as_ ?_
 refine wn (kk1 [2] ?_)
 refine C_ret (RX_q1 rfl rfl ?_)
 rw [← may4_eq]
 have hkk : k8 = f.blocks.length := by omega
 subst hkk
 have ha := all_true_of hJ8
 exact congrArg Value.bool (may4_t (by omega) (by omega) (by omega) (by assumption) (by assumption) (by omega) ha).symm
theorem rReach_g {m : Imm} {es : List Value} {g : FGraph} (hG : rGraph m es g) (hgo : GOk g) {root : Int} (w0 : Int) (hr0 : 0 ≤ root) (hrl : root < g.succ.length) : Gives Tryz.prog 91 [.agg es.toArray, .int .i64 root, .int .i64 w0] m (ReachΦ g root w0) := by
 have hG_0 := hG
 obtain ⟨A94, c94, B94, d94, rfl, hs94, hp94⟩ := hG_0
 have hgl := hgo.len
 refine gives_of Tryz.func91 rfl Tryz.ntmps91 rfl (fun w => ?_)
 refine sq (rg ?_)
 refine S_box (l := [_, _]) rfl rfl rfl (fun b1 => ?_)
 refine as_ ?_
 refine wn (kk4 [1,2,3,6] (sq (rg ?_)))
 refine fb 0 T.fo79_0 (lb 0 T.ag65 (ln Tryz.underlying65 ?_))
 refine S_make1 g.succ.length Tryz.underlying54 T.sz4 T.ze4 T.by4 rfl rfl rfl rfl rfl (by omega) (by unfold maxLen; omega) rfl (fun b2 => ?_)
 refine as_ ?_
 refine wn (kk5 [1,2,3,6,7] (sq (sq (rg ?_))))
 refine mv (mv (be ?_))
 refine wn (kk6 [1,2,3,6,7,17] ?_)
 refine cd ?_ ?_ <;> intro h3 <;> try simp only [tt] at h3
 refine sq (rg ?_)
 refine mv (as_ ?_)
 refine wn (kk5 [1,2,3,6,7] ?_)
 refine C_ret (RX_then (RX_know (k_rowG 0 rfl) (fun hr => ?_)))
 refine RX_freeze 0 rfl (fun _ h => h) (fun mf lef hf => ?_)
 have hf2 : Frz (some b2) ((List.replicate g.succ.length false).map Value.bool) mf := by simpa using hf
 exact RX_g1 rfl rfl (reachΦ_mk (Bools_frz hf2 (by simp) hr.2.2.1 (by simp; omega) (fun _ => ⟨_, rfl⟩)) (reach_none (by assumption)) (by simp))
 refine sk (kk5 [1,2,3,6,7] (sq (rg ?_)))
 refine mv (mv ?_)
 refine W_q (r_indexr (o := root.toNat) Tryz.underlying54 T.sz4 rfl rfl ⟨by omega, by omega⟩ (by omega)) rfl ?_
 refine S_storer1 0 rfl rfl rfl rfl T.sz4 rfl (by simp; omega) ?_
 refine wn (kk4 [2,3,6,7] (sq (sq (rg ?_))))
 refine as_ ?_
 refine wn (kk5 [2,3,6,7,8] (bk ?_))
 refine CW_front 0 rfl rfl ?_
 refine C_loop (List Value) (g.succ.length) (fun k5 x5 => ∃ bs, x5 = bs.map Value.bool ∧ ReachSt g root w0 bs ∧ (k5 < trues bs ∨ ∀ i : Nat, bs[i]? = some true → closedAt g w0 bs i)) (fun k5 x5 => [(8, .int .i64 (k5 : Int))]) (fun k5 x5 => [row (some b2) g.succ.length g.succ.length 4 1 x5]) [8] [2, 3, 6, 7] (F := [(2, _), (3, _), (6, _), (7, _)]) (_) ⟨(List.replicate g.succ.length false).set root.toNat true, by simp [List.map_set], reach_init hr0 hrl (by assumption), .inl (trues_pos (reach_init hr0 hrl (by assumption)).top)⟩ rfl rfl rfl (fun k5 x5 hk5 hJ5 => ?_)
 obtain ⟨bs, hx0, hst, hcl⟩ := hJ5
 refine jj5 [2,3,6,7,8] (sq (sq (rg ?_)))
 refine mv (mv (ln Tryz.underlying54 (bl ?_)))
 refine wn (kk6 [2,3,6,7,8,25] ?_)
 refine cd ?_ ?_ <;> intro h6 <;> try simp only [tt] at h6
 refine sk (kk5 [2,3,6,7,8] (sq (bk (sq (rg ?_)))))
 refine as_ ?_
 refine wn (kk6 [2,3,6,7,8,9] (bk ?_))
 refine CW_front 0 rfl rfl ?_
 refine C_loop (List Value) (g.succ.length) (fun k7 x7 => ∃ b1, x7 = b1.map Value.bool ∧ RoundSt g root w0 bs b1 k7) (fun k7 x7 => [(9, .int .i64 (k7 : Int))]) (fun k7 x7 => [row (some b2) g.succ.length g.succ.length 4 1 x7]) [9] [2, 3, 6, 7, 8] (F := [(2, _), (3, _), (6, _), (7, _), (8, _)]) (_) ⟨bs, hx0, roundSt_init hst⟩ rfl rfl rfl (fun k7 x7 hk7 hJ7 => ?_)
 have hJ1 := hJ7
 refine jj6 [2,3,6,7,8,9] (sq (sq (rg ?_)))
 refine mv (mv (ln Tryz.underlying54 (bl ?_)))
 refine wn (kk7 [2,3,6,7,8,9,31] ?_)
 refine cd ?_ ?_ <;> intro h8 <;> try simp only [tt] at h8
 refine sk (kk6 [2,3,6,7,8,9] (sq (bk (sq (rg ?_)))))
 refine as_ ?_
 refine wn (kk7 [2,3,6,7,8,9,10] (bk ?_))
 refine CW_front 0 rfl rfl ?_
 refine C_loop (List Value) ((g.succ.getD k7 []).length) (fun k9 x9 => ∃ b2, x9 = b2.map Value.bool ∧ StepSt g root w0 bs b2 k7 k9) (fun k9 x9 => [(10, .int .i64 (k9 : Int))]) (fun k9 x9 => [row (some b2) g.succ.length g.succ.length 4 1 x9]) [10] [2, 3, 6, 7, 8, 9] (F := [(2, _), (3, _), (6, _), (7, _), (8, _), (9, _)]) (_) (by obtain ⟨b1, hx1, hs1⟩ := hJ7; exact ⟨b1, hx1, stepSt_init hs1⟩) rfl rfl rfl (fun k9 x9 hk9 hJ9 => ?_)
 obtain ⟨b2, hx2, hs2⟩ := hJ9
 refine jj7 [2,3,6,7,8,9,10] (sq (sq (rg ?_)))
 refine mv (mv ?_)
 obtain ⟨ub, hub⟩ : ∃ b, b2[k7]? = some b := ⟨_, List.getElem?_eq_getElem (by rw [hs2.rs.st.len]; omega)⟩
 refine W_q (r_indexr (o := k7) Tryz.underlying54 T.sz4 rfl rfl ⟨by omega, by omega⟩ (by omega)) rfl ?_
 refine W_q (r_loadr 0 rfl T.ag4 rfl (by rw [hx2, List.getElem?_map, hub]; rfl)) rfl ?_
 refine mv ?_
 refine sp 38 ?_ ?_ <;> intro h11 <;> try simp only [tt] at h11
 refine tk (mv ?_)
 refine tk (fb 0 T.fo79_0 ?_)
 refine tk (lb 1 T.ag65 ?_)
 refine tk (mv ?_)
 refine tk ?_
 obtain ⟨ad12, hA12⟩ := hs94.ad (j := k7) (by omega)
 obtain ⟨z12, hz12⟩ := hs94.getz (j := k7) (by omega)
 refine ixz hA12 Tryz.underlying65 T.sz22 ?_
 refine tk ?_
 obtain ⟨A13, c13, l13, h13⟩ := Sl.getS hs94 hA12 hz12
 refine liz T.ag22 l13 ?_
 refine tk (ln Tryz.underlying22 ?_)
 refine tk ?_
 have hzl : g.succ.getD k7 [] = z12 := getDl_of hz12
 refine bl (pt ?_)
 refine wn (kk8 [2,3,6,7,8,9,10,47] ?_)
 refine cd ?_ ?_ <;> intro h14 <;> try simp only [tt] at h14
 refine sk (kk7 [2,3,6,7,8,9,10] (sq (bk (sq (rg ?_)))))
 refine fb 0 T.fo79_0 (lb 1 T.ag65 (mv ?_))
 obtain ⟨ad15, hA15⟩ := hs94.ad (j := k7) (by omega)
 refine ixz hA15 Tryz.underlying65 T.sz22 ?_
 obtain ⟨A16, c16, l16, h16⟩ := Sl.getS hs94 hA15 hz12
 refine liz T.ag22 l16 ?_
 refine mv ?_
 obtain ⟨ad17, hA17⟩ := h16.ad (j := k9) (by omega)
 obtain ⟨z17, hz17⟩ := h16.getz (j := k9) (by omega)
 refine ixz hA17 Tryz.underlying22 T.sz3 ?_
 obtain ⟨l18, r18⟩ := Sl.getI h16 hA17 hz17
 refine liz T.ag3 l18 ?_
 refine mv (bn ?_)
 refine wn (kk8 [2,3,6,7,8,9,10,59] ?_)
 refine cd ?_ ?_ <;> intro h19 <;> try simp only [tt] at h19
 refine rg ?_
 refine mv (fb 0 T.fo79_0 (lb 1 T.ag65 (mv ?_)))
 obtain ⟨ad20, hA20⟩ := hs94.ad (j := k7) (by omega)
 refine ixz hA20 Tryz.underlying65 T.sz22 ?_
 obtain ⟨A21, c21, l21, h21⟩ := Sl.getS hs94 hA20 hz12
 refine liz T.ag22 l21 ?_
 refine mv ?_
 obtain ⟨ad22, hA22⟩ := h21.ad (j := k9) (by omega)
 refine ixz hA22 Tryz.underlying22 T.sz3 ?_
 obtain ⟨l23, r23⟩ := Sl.getI h21 hA22 hz17
 refine liz T.ag3 l23 ?_
 refine W_q (r_indexr (o := z17.toNat) Tryz.underlying54 T.sz4 rfl rfl ⟨by have := rising_mem (hgo.rise _ (List.mem_of_getElem? hz12)) (List.mem_of_getElem? hz17); omega, by have := rising_mem (hgo.rise _ (List.mem_of_getElem? hz12)) (List.mem_of_getElem? hz17); omega⟩ (by omega)) rfl ?_
 refine S_storer1 0 rfl rfl rfl rfl T.sz4 rfl (by have := rising_mem (hgo.rise _ (List.mem_of_getElem? hz12)) (List.mem_of_getElem? hz17); rw [hx2, List.length_map, hs2.rs.st.len]; omega) ?_
 refine wn (nb (kk7 [2,3,6,7,8,9,10] (rg ?_)))
 refine mv ?_
 refine W_q (r_add rfl rfl (by have := rising_len (hgo.rise _ (List.mem_of_getElem? hz12)); constructor <;> omega)) rfl ?_
 refine as_ ?_
 refine wn ?_
 refine NX_rnd [10, 2, 3, 6, 7, 8, 9] (by rw [hzl]; omega) (_) ?_ rfl (List.Sublist.refl _) rfl (Imm.le_refl _)
 exact ⟨setT b2 z17, by rw [hx2, setT, List.map_set], hs2.put hgo (by rw [hub]; exact congrArg some (by assumption)) (by rw [hzl]; exact hz17) (by omega)⟩
 refine sk (nb (kk7 [2,3,6,7,8,9,10] (rg ?_)))
 refine mv ?_
 refine W_q (r_add rfl rfl (by have := rising_len (hgo.rise _ (List.mem_of_getElem? hz12)); constructor <;> omega)) rfl ?_
 refine as_ ?_
 refine wn ?_
 refine NX_rnd [10, 2, 3, 6, 7, 8, 9] (by rw [hzl]; omega) (_) ?_ rfl (List.Sublist.refl _) rfl (Imm.le_refl _)
 exact ⟨b2, hx2, hs2.skip (by rw [hub]; exact congrArg some (by assumption)) (by rw [hzl]; exact hz17) (by omega)⟩
 refine C_exit (EX_then (EX_then (EX_hit (?_))))
 refine nb (kk6 [2,3,6,7,8,9] (rg ?_))
 refine mv ?_
 refine ad ?_
 refine as_ ?_
 refine wn ?_
 refine NX_rnd [9, 2, 3, 6, 7, 8] (by omega) (_) ?_ rfl (List.Sublist.refl _) rfl (Imm.le_refl _)
 exact ⟨b2, hx2, hs2.done (.inr (by rw [hzl]; omega))⟩
 refine ps (ps (ps (ps (ps (ps (ps (ps ?_)))))))
 refine pf ?_
 refine wn (kk8 [2,3,6,7,8,9,10,47] ?_)
 refine cfz ?_
 refine C_exit (EX_then (EX_then (EX_hit (?_))))
 refine nb (kk6 [2,3,6,7,8,9] (rg ?_))
 refine mv ?_
 refine ad ?_
 refine as_ ?_
 refine wn ?_
 refine NX_rnd [9, 2, 3, 6, 7, 8] (by omega) (_) ?_ rfl (List.Sublist.refl _) rfl (Imm.le_refl _)
 exact ⟨b2, hx2, hs2.done (.inl (by rw [hub, h11]))⟩
 refine C_exit (EX_then (EX_then (EX_hit (?_))))
 refine nb (kk5 [2,3,6,7,8] (rg ?_))
 refine mv ?_
 refine ad ?_
 refine as_ ?_
 refine wn ?_
 refine NX_rnd [8, 2, 3, 6, 7] (by omega) (_) ?_ rfl (List.Sublist.refl _) rfl (Imm.le_refl _)
 obtain ⟨b1, hx1, hs1⟩ := hJ7
 have hkn : k7 = g.succ.length := by omega
 subst hkn
 exact ⟨b1, hx1, hs1.st, hs1.next hst hgo hr0 hcl⟩
 refine C_exit (EX_then (EX_then (EX_hit (?_))))
 refine kk2 [6,7] (sq (rg ?_))
 refine mv (as_ ?_)
 refine wn (kk1 [6] ?_)
 refine C_ret (RX_know (k_rowG 0 rfl) (fun hr => ?_))
 refine RX_freeze 0 rfl (fun _ h => h) (fun mf lef hf => ?_)
 rw [hx0] at hf
 exact RX_g1 rfl rfl (reachΦ_mk (Bools_frz hf (by rw [hst.len]; exact hr.2.1) hr.2.2.1 (by rw [hst.len]; omega) (fun _ => ⟨_, rfl⟩)) (reach_done hst hgo hr0 (by omega) hcl) (by rw [hst.len]))
namespace T
theorem hb51 : hasBody Tryz.prog 51 = true := by kernel_rfl
end T
theorem prev_of {l : List Int} {k : Nat} {y : Int} (h : l[((k : Int) - 1).toNat]? = some y) (hk : 0 < k) : l[k - 1]? = some y := by
  rw [show k - 1 = ((k : Int) - 1).toNat by omega]; exact h
theorem rHas_q {m : Imm} {A : Option Addr} {c : Nat} {l : List Int} (h : Ints m A c l) (x : Int) : Quiet Tryz.prog 51 [.slice A l.length c, .int .i64 x] m (.bool (l.contains x)) := by
 have hlen := h.len
 refine quiet_of Tryz.func51 rfl Tryz.ntmps51 rfl (fun w => ?_)
 refine sq (rg ?_)
 refine as_ ?_
 refine wn (kk3 [0,1,4] (sq (sq (rg ?_))))
 refine as_ ?_
 refine wn (kk4 [0,1,4,5] (bk ?_))
 refine C_loop (Unit) (l.length) (fun k1 x1 => ∀ j, j < k1 → ∀ y, l[j]? = some y → y ≠ x) (fun k1 x1 => [(5, .int .i64 (k1 : Int))]) (fun _ _ => []) [5] [0, 1] (F := [(0, _), (1, _)]) (()) (by simp) rfl rfl rfl (fun k1 x1 hk1 hJ1 => ?_)
 refine jj3 [0,1,5] (sq (sq (rg ?_)))
 refine mv (mv (ln Tryz.underlying22 (bl ?_)))
 refine wn (kk4 [0,1,5,9] ?_)
 refine cd ?_ ?_ <;> intro h2 <;> try simp only [tt] at h2
 refine sk (kk3 [0,1,5] (sq (bk (sq (rg ?_)))))
 refine mv (mv ?_)
 obtain ⟨ad3, hA3⟩ := h.ad (j := k1) (by omega)
 obtain ⟨z3, hz3⟩ := h.getz (j := k1) (by omega)
 refine ixz hA3 Tryz.underlying22 T.sz3 ?_
 obtain ⟨l4, r4⟩ := Sl.getI h hA3 hz3
 refine liz T.ag3 l4 ?_
 refine mv (be ?_)
 refine wn (kk4 [0,1,5,17] ?_)
 refine cd ?_ ?_ <;> intro h5 <;> try simp only [tt] at h5
 refine sq (rg ?_)
 refine as_ ?_
 refine wn (kk4 [0,1,4,5] ?_)
 refine C_ret (RX_block (RX_then (RX_then (RX_block (RX_then (RX_q1 rfl rfl ?_))))))
 rw [has_t hz3 (by assumption)]
 refine sk (nb (kk3 [0,1,5] (rg ?_)))
 refine mv ?_
 refine ad ?_
 refine as_ ?_
 refine wn ?_
 refine NX_rnd [5, 0, 1] (by omega) (()) ?_ rfl (List.Sublist.refl _) rfl (Imm.le_refl _)
 exact lt_succ_all hJ1 (fun y hy => by rw [hz3] at hy; cases hy; assumption)
 refine C_exit (EX_then (EX_then (EX_hit (?_))))
 refine kk0 [] (sq (rg ?_))
 refine as_ ?_
 refine wn (kk1 [4] ?_)
 refine C_ret (RX_q1 rfl rfl ?_)
 have hkk : k1 = l.length := by omega
 subst hkk
 rw [has_f hJ1]
theorem rMake_g {m : Imm} {A : Option Addr} {c : Nat} {succ : List (List Int)} (h : Sl (rS rI 1) 1 m A c succ) : Gives Tryz.prog 96 [.slice A succ.length c] m (GraphΦ (makeP succ)) := by
 have hlen := h.len
 refine gives_of Tryz.func96 rfl Tryz.ntmps96 rfl (fun w => ?_)
 refine sq (rg ?_)
 refine sa2 T.ze79 (fun b1 => ?_)
 refine as_ ?_
 refine wn (kk3 [0,2,3] (sq (rg ?_)))
 refine mv (ln Tryz.underlying65 (as_ ?_))
 refine wn (kk4 [0,2,3,4] (sq (sq (rg ?_))))
 refine mv (be (mv ?_))
 refine sp 14 ?_ ?_ <;> intro h2 <;> try simp only [tt] at h2
 refine ps (ps ?_)
 refine pt ?_
 refine wn (kk5 [0,2,3,4,17] ?_)
 refine ctz (sq (rg ?_))
 refine W_q (r_builds (cs := [_, _]) T.bl79 rfl rfl) rfl ?_
 refine sb2 0 T.sz79 ?_
 refine as_ ?_
 refine wn (kk4 [0,2,3,4] ?_)
 refine C_ret (RX_then (RX_gR (res_ct 0 rfl rfl rfl T.ag79 T.sz79 rfl) (graphΦ_none ?_)))
 exact makeP_f0 (by omega)
 refine tk (mv ?_)
 refine tk (bg (pf ?_))
 refine wn (kk5 [0,2,3,4,17] ?_)
 refine cd ?_ ?_ <;> intro h3 <;> try simp only [tt] at h3
 refine sq (rg ?_)
 refine W_q (r_builds (cs := [_, _]) T.bl79 rfl rfl) rfl ?_
 refine sb2 0 T.sz79 ?_
 refine as_ ?_
 refine wn (kk4 [0,2,3,4] ?_)
 refine C_ret (RX_then (RX_gR (res_ct 0 rfl rfl rfl T.ag79 T.sz79 rfl) (graphΦ_none ?_)))
 exact makeP_f0 (by omega)
 refine sk (kk4 [0,2,3,4] (sq (sq (rg ?_))))
 refine as_ ?_
 refine wn (kk5 [0,2,3,4,5] (bk ?_))
 refine C_loop (Unit) (succ.length) (fun k4 x4 => ∀ j, j < k4 → ∀ l, succ[j]? = some l → risingP l succ.length = true) (fun k4 x4 => [(5, .int .i64 (k4 : Int))]) (fun _ _ => []) [5] [0, 2, 4] (F := [(0, _), (2, _), (4, _)]) (()) (by simp) rfl rfl rfl (fun k4 x4 hk4 hJ4 => ?_)
 refine jj4 [0,2,4,5] (sq (sq (rg ?_)))
 refine mv (mv (bl ?_))
 refine wn (kk5 [0,2,4,5,21] ?_)
 refine cd ?_ ?_ <;> intro h5 <;> try simp only [tt] at h5
 refine sk (kk4 [0,2,4,5] (sq (bk (sq (rg ?_)))))
 refine as_ ?_
 refine wn (kk5 [0,2,4,5,6] (bk ?_))
 refine C_loop (Unit) ((succ.getD k4 []).length) (fun k6 x6 => ∀ j, j < k6 → okR (succ.getD k4 []) succ.length j = true) (fun k6 x6 => [(6, .int .i64 (k6 : Int))]) (fun _ _ => []) [6] [0, 2, 4, 5] (F := [(0, _), (2, _), (4, _), (5, _)]) (()) (fun j hj => absurd hj (by omega)) rfl rfl rfl (fun k6 x6 hk6 hJ6 => ?_)
 refine jj5 [0,2,4,5,6] (sq (sq (rg ?_)))
 have hrow : ∃ l, succ[k4]? = some l := ⟨_, List.getElem?_eq_getElem (by omega)⟩
 refine mv (mv (mv ?_))
 obtain ⟨ad7, hA7⟩ := h.ad (j := k4) (by omega)
 obtain ⟨z7, hz7⟩ := h.getz (j := k4) (by omega)
 refine ixz hA7 Tryz.underlying65 T.sz22 ?_
 obtain ⟨A8, c8, l8, h8⟩ := Sl.getS h hA7 hz7
 refine liz T.ag22 l8 ?_
 refine ln Tryz.underlying22 (bl ?_)
 refine wn (kk6 [0,2,4,5,6,30] ?_)
 refine cd ?_ ?_ <;> intro h9 <;> try simp only [tt] at h9
 refine sk (kk5 [0,2,4,5,6] (sq (bk (sq ?_))))
 refine C_drawn [(0, true), (1, true), (2, true), (3, true), (4, true), (5, true), (6, true), (7, true), (8, true), (9, true), (10, true), (11, true), (12, true), (13, true), (14, true), (15, true), (16, true), (17, true), (18, true), (19, true), (20, true), (21, true), (22, true), (23, true), (24, true), (25, true), (26, true), (27, true), (28, true), (29, true), (30, true), (31, true), (32, true), (33, true), (34, true), (35, true), (36, true), (37, true), (38, true), (39, true), (40, true)] (by kernel_rfl) rfl (by kernel_rfl) (by kernel_rfl) ?_
 refine dmv ?_
 have hzll : z7.length ≤ 140737488355328 := Sl.len (r := rI) (sz := 1) (xs := z7) (by assumption)
 have hJz : ∀ j, j < k6 → okR z7 succ.length j = true := by
   have := hJ6
   rwa [getDl_of hz7] at this
 refine dmv ?_
 obtain ⟨ad10, hA10⟩ := h.ad (j := k4) (by omega)
 refine D_q rfl (r_index hA10 Tryz.underlying65 T.sz22 rfl rfl ⟨by omega, by omega⟩) rfl ?_
 obtain ⟨A11, c11, l11, h11⟩ := Sl.getS h hA10 hz7
 refine D_q rfl (r_load_imm rfl T.ag22 l11) rfl ?_
 refine dmv ?_
 obtain ⟨ad12, hA12⟩ := h11.ad (j := k6) (by omega)
 obtain ⟨z12, hz12⟩ := h11.getz (j := k6) (by omega)
 refine D_q rfl (r_index hA12 Tryz.underlying22 T.sz3 rfl rfl ⟨by omega, by omega⟩) rfl ?_
 obtain ⟨l13, r13⟩ := Sl.getI h11 hA12 hz12
 refine D_q rfl (r_load_imm rfl T.ag3 l13) rfl ?_
 refine D_q rfl (r_bin rfl rfl (bin_lss _ _ _ _)) rfl ?_
 refine dmv ?_
 refine D_split (t := 41) rfl (fun h14 => ?_) (fun h14 => ?_)
 (try simp only [tt] at h14)
 refine dps ?_
 refine dps ?_
 refine dps ?_
 refine dps ?_
 refine dps ?_
 refine dps ?_
 refine dps ?_
 refine dps ?_
 refine dps ?_
 refine D_q rfl (r_pick_t rfl rfl) rfl ?_
 refine dmv ?_
 refine dps ?_
 refine dps ?_
 refine dps ?_
 refine D_passu rfl rfl rfl rfl ?_
 refine D_passu rfl rfl rfl rfl ?_
 refine D_passu rfl rfl rfl rfl ?_
 refine D_passu rfl rfl rfl rfl ?_
 refine D_passu rfl rfl rfl rfl ?_
 refine D_passu rfl rfl rfl rfl ?_
 refine D_passu rfl rfl rfl rfl ?_
 refine D_passu rfl rfl rfl rfl ?_
 refine D_passu rfl rfl rfl rfl ?_
 refine D_passu rfl rfl rfl rfl ?_
 refine D_passu rfl rfl rfl rfl ?_
 refine D_passu rfl rfl rfl rfl ?_
 refine D_passu rfl rfl rfl rfl ?_
 refine D_passu rfl rfl rfl rfl ?_
 refine D_passu rfl rfl rfl rfl ?_
 refine D_passu rfl rfl rfl rfl ?_
 refine dps ?_
 refine D_q rfl (r_pick_t rfl rfl) rfl ?_
 refine D_end ?_
 refine kk6 [0,2,4,5,6,73] ?_
 refine ctz (sq (rg ?_))
 refine W_q (r_builds (cs := [_, _]) T.bl79 rfl rfl) rfl ?_
 refine sb2 0 T.sz79 ?_
 refine as_ ?_
 refine wn (kk6 [0,2,3,4,5,6] ?_)
 refine C_ret (RX_block (RX_then (RX_then (RX_block (RX_block (RX_then (RX_then (RX_block (RX_then (RX_gR (res_ct 0 rfl rfl rfl T.ag79 T.sz79 rfl) (graphΦ_none ?_)))))))))))
 exact makeP_f hz7 (k := k6) (by omega) (okR_f hJz hz12 (.inl (by omega)))
 (try simp only [tt] at h14)
 refine D_qt rfl rfl rfl (r_move rfl) rfl ?_
 refine D_qt rfl rfl rfl (r_move rfl) rfl ?_
 obtain ⟨ad15, hA15⟩ := h.ad (j := k4) (by omega)
 refine D_qt rfl rfl rfl (r_index hA15 Tryz.underlying65 T.sz22 rfl rfl ⟨by omega, by omega⟩) rfl ?_
 obtain ⟨A16, c16, l16, h16⟩ := Sl.getS h hA15 hz7
 refine D_qt rfl rfl rfl (r_load_imm rfl T.ag22 l16) rfl ?_
 refine D_qt rfl rfl rfl (r_move rfl) rfl ?_
 obtain ⟨ad17, hA17⟩ := h16.ad (j := k6) (by omega)
 refine D_qt rfl rfl rfl (r_index hA17 Tryz.underlying22 T.sz3 rfl rfl ⟨by omega, by omega⟩) rfl ?_
 obtain ⟨l18, r18⟩ := Sl.getI h16 hA17 hz12
 refine D_qt rfl rfl rfl (r_load_imm rfl T.ag3 l18) rfl ?_
 refine D_qt rfl rfl rfl (r_move rfl) rfl ?_
 refine D_qt rfl rfl rfl (r_bin rfl rfl (bin_geq _ _ _ _)) rfl ?_
 refine D_q rfl (r_pick_f rfl rfl) rfl ?_
 refine dmv ?_
 refine D_split (t := 52) rfl (fun h19 => ?_) (fun h19 => ?_)
 (try simp only [tt] at h19)
 refine dps ?_
 refine dps ?_
 refine dps ?_
 refine D_passu rfl rfl rfl rfl ?_
 refine D_passu rfl rfl rfl rfl ?_
 refine D_passu rfl rfl rfl rfl ?_
 refine D_passu rfl rfl rfl rfl ?_
 refine D_passu rfl rfl rfl rfl ?_
 refine D_passu rfl rfl rfl rfl ?_
 refine D_passu rfl rfl rfl rfl ?_
 refine D_passu rfl rfl rfl rfl ?_
 refine D_passu rfl rfl rfl rfl ?_
 refine D_passu rfl rfl rfl rfl ?_
 refine D_passu rfl rfl rfl rfl ?_
 refine D_passu rfl rfl rfl rfl ?_
 refine D_passu rfl rfl rfl rfl ?_
 refine D_passu rfl rfl rfl rfl ?_
 refine D_passu rfl rfl rfl rfl ?_
 refine D_passu rfl rfl rfl rfl ?_
 refine dps ?_
 refine D_q rfl (r_pick_t rfl rfl) rfl ?_
 refine D_end ?_
 refine kk6 [0,2,4,5,6,73] ?_
 refine ctz (sq (rg ?_))
 refine W_q (r_builds (cs := [_, _]) T.bl79 rfl rfl) rfl ?_
 refine sb2 0 T.sz79 ?_
 refine as_ ?_
 refine wn (kk6 [0,2,3,4,5,6] ?_)
 refine C_ret (RX_block (RX_then (RX_then (RX_block (RX_block (RX_then (RX_then (RX_block (RX_then (RX_gR (res_ct 0 rfl rfl rfl T.ag79 T.sz79 rfl) (graphΦ_none ?_)))))))))))
 exact makeP_f hz7 (k := k6) (by omega) (okR_f hJz hz12 (.inr (.inl (by omega))))
 (try simp only [tt] at h19)
 refine D_qt rfl rfl rfl (r_move rfl) rfl ?_
 refine D_qt rfl rfl rfl (r_bin rfl rfl (bin_gtr _ _ _ _)) rfl ?_
 refine D_qt rfl rfl rfl (r_move rfl) rfl ?_
 refine D_split (t := 55) rfl (fun h20 => ?_) (fun h20 => ?_)
 (try simp only [tt] at h20)
 refine D_qt rfl rfl rfl (r_move rfl) rfl ?_
 refine D_qt rfl rfl rfl (r_move rfl) rfl ?_
 obtain ⟨ad21, hA21⟩ := h.ad (j := k4) (by omega)
 refine D_qt rfl rfl rfl (r_index hA21 Tryz.underlying65 T.sz22 rfl rfl ⟨by omega, by omega⟩) rfl ?_
 obtain ⟨A22, c22, l22, h22⟩ := Sl.getS h hA21 hz7
 refine D_qt rfl rfl rfl (r_load_imm rfl T.ag22 l22) rfl ?_
 refine D_qt rfl rfl rfl (r_move rfl) rfl ?_
 obtain ⟨ad23, hA23⟩ := h22.ad (j := k6) (by omega)
 refine D_qt rfl rfl rfl (r_index hA23 Tryz.underlying22 T.sz3 rfl rfl ⟨by omega, by omega⟩) rfl ?_
 obtain ⟨l24, r24⟩ := Sl.getI h22 hA23 hz12
 refine D_qt rfl rfl rfl (r_load_imm rfl T.ag3 l24) rfl ?_
 refine D_qt rfl rfl rfl (r_move rfl) rfl ?_
 refine D_qt rfl rfl rfl (r_move rfl) rfl ?_
 obtain ⟨ad25, hA25⟩ := h.ad (j := k4) (by omega)
 refine D_qt rfl rfl rfl (r_index hA25 Tryz.underlying65 T.sz22 rfl rfl ⟨by omega, by omega⟩) rfl ?_
 obtain ⟨A26, c26, l26, h26⟩ := Sl.getS h hA25 hz7
 refine D_qt rfl rfl rfl (r_load_imm rfl T.ag22 l26) rfl ?_
 refine D_qt rfl rfl rfl (r_move rfl) rfl ?_
 refine D_qt rfl rfl rfl (r_sub rfl rfl (by unfold I64 at *; omega)) rfl ?_
 obtain ⟨ad27, hA27⟩ := h26.ad (j := ((k6 : Int) - 1).toNat) (by omega)
 obtain ⟨z27, hz27⟩ := h26.getz (j := ((k6 : Int) - 1).toNat) (by omega)
 refine D_qt rfl rfl rfl (r_index hA27 Tryz.underlying22 T.sz3 rfl rfl ⟨by omega, by omega⟩) rfl ?_
 obtain ⟨l28, r28⟩ := Sl.getI h26 hA27 hz27
 refine D_qt rfl rfl rfl (r_load_imm rfl T.ag3 l28) rfl ?_
 refine D_qt rfl rfl rfl (r_bin rfl rfl (bin_leq _ _ _ _)) rfl ?_
 refine D_qt rfl rfl rfl (r_pick_t rfl rfl) rfl ?_
 refine D_q rfl (r_pick_f rfl rfl) rfl ?_
 refine D_end ?_
 refine kk6 [0,2,4,5,6,73] ?_
 refine cd ?_ ?_ <;> intro h29 <;> try simp only [tt] at h29
 refine sq (rg ?_)
 refine W_q (r_builds (cs := [_, _]) T.bl79 rfl rfl) rfl ?_
 refine sb2 0 T.sz79 ?_
 refine as_ ?_
 refine wn (kk6 [0,2,3,4,5,6] ?_)
 refine C_ret (RX_block (RX_then (RX_then (RX_block (RX_block (RX_then (RX_then (RX_block (RX_then (RX_gR (res_ct 0 rfl rfl rfl T.ag79 T.sz79 rfl) (graphΦ_none ?_)))))))))))
 exact makeP_f hz7 (k := k6) (by omega) (okR_f hJz hz12 (.inr (.inr ⟨_, by omega, prev_of hz27 (by omega), by omega⟩)))
 refine sk (nb (kk5 [0,2,4,5,6] (rg ?_)))
 refine mv ?_
 refine ad ?_
 refine as_ ?_
 refine wn ?_
 refine NX_rnd [6, 0, 2, 4, 5] (by rw [getDl_of hz7]; omega) (()) ?_ rfl (List.Sublist.refl _) rfl (Imm.le_refl _)
 refine lt_succ_all hJ6 ?_
 rw [getDl_of hz7]
 exact okR_t hJz hz12 (by omega) (by omega) (fun y h1 h2 => by rw [prev_of hz27 (by omega)] at h2; cases h2; omega)
 (try simp only [tt] at h20)
 refine dps ?_
 refine dps ?_
 refine dps ?_
 refine dps ?_
 refine dps ?_
 refine dps ?_
 refine dps ?_
 refine dps ?_
 refine dps ?_
 refine dps ?_
 refine dps ?_
 refine dps ?_
 refine dps ?_
 refine dps ?_
 refine dps ?_
 refine dps ?_
 refine D_qt rfl rfl rfl (r_pick_f rfl rfl) rfl ?_
 refine D_q rfl (r_pick_f rfl rfl) rfl ?_
 refine D_end ?_
 refine kk6 [0,2,4,5,6,73] ?_
 refine cfz (sk (nb (kk5 [0,2,4,5,6] (rg ?_))))
 refine mv ?_
 refine ad ?_
 refine as_ ?_
 refine wn ?_
 refine NX_rnd [6, 0, 2, 4, 5] (by rw [getDl_of hz7]; omega) (()) ?_ rfl (List.Sublist.refl _) rfl (Imm.le_refl _)
 refine lt_succ_all hJ6 ?_
 rw [getDl_of hz7]
 exact okR_t hJz hz12 (by omega) (by omega) (fun y h1 h2 => by omega)
 refine C_exit (EX_then (EX_then (EX_hit (?_))))
 refine nb (kk4 [0,2,4,5] (rg ?_))
 refine mv ?_
 refine ad ?_
 refine as_ ?_
 refine wn ?_
 refine NX_rnd [5, 0, 2, 4] (by omega) (()) ?_ rfl (List.Sublist.refl _) rfl (Imm.le_refl _)
 have hkl1 : k6 ≤ z7.length := by
   have := hk6
   rwa [getDl_of hz7] at this
 have hk1 : k6 = z7.length := by omega
 subst hk1
 have hJ1 := hJ6
 rw [getDl_of hz7] at hJ1
 exact lt_succ_all hJ4 (fun l hl => by rw [hz7] at hl; cases hl; exact rising_of hJ1)
 refine C_exit (EX_then (EX_then (EX_hit (?_))))
 refine kk3 [0,2,4] (sq (rg ?_))
 refine mv (mv ?_)
 have hall : ∀ j, j < succ.length → ∀ l, succ[j]? = some l → risingP l succ.length = true := by
   have hkk : k4 = succ.length := by omega
   subst hkk
   exact hJ4
 refine S_make1 succ.length Tryz.underlying65 T.sz22 T.ze22 T.by22 rfl rfl rfl rfl rfl (by omega) (by unfold maxLen; omega) rfl (fun b30 => ?_)
 refine W_q (r_builds (cs := [_, _]) T.bl79 rfl rfl) rfl ?_
 refine sa2 T.ze79 (fun b31 => ?_)
 refine sb2 0 T.sz79 ?_
 refine wn (kk4 [0,2,4,7] (sq (sq (rg ?_))))
 refine as_ ?_
 refine wn (kk5 [0,2,4,7,8] (bk ?_))
 refine CW_matrixC 3 1 rfl ?_
 refine CW_front 1 rfl rfl ?_
 refine C_loop (List IRow) (succ.length) (fun k32 x32 => MatSt succ x32 k32 0) (fun k32 x32 => [(8, .int .i64 (k32 : Int))]) (fun k32 x32 => [matR 3 22 b30 succ.length succ.length x32]) [8] [0, 2, 4, 7] (F := [(0, _), (2, _), (4, _), (7, _)]) (_) (matSt_init succ) rfl rfl rfl (fun k32 x32 hk32 hJ32 => ?_)
 refine jj5 [0,2,4,7,8] (sq (sq (rg ?_)))
 refine mv (mv (bl ?_))
 refine wn (kk6 [0,2,4,7,8,81] ?_)
 refine cd ?_ ?_ <;> intro h33 <;> try simp only [tt] at h33
 refine sk (kk5 [0,2,4,7,8] (sq (bk (sq (rg ?_)))))
 refine as_ ?_
 refine wn (kk6 [0,2,4,7,8,9] (bk ?_))
 refine CW_front 0 rfl rfl ?_
 refine C_loop (List IRow) (succ.length) (fun k34 x34 => MatSt succ x34 k32 k34) (fun k34 x34 => [(9, .int .i64 (k34 : Int))]) (fun k34 x34 => [matR 3 22 b30 succ.length succ.length x34]) [9] [0, 2, 4, 7, 8] (F := [(0, _), (2, _), (4, _), (7, _), (8, _)]) (_) hJ32 rfl rfl rfl (fun k34 x34 hk34 hJ34 => ?_)
 refine jj6 [0,2,4,7,8,9] (sq (sq (rg ?_)))
 refine mv (mv (bl ?_))
 refine wn (kk7 [0,2,4,7,8,9,86] ?_)
 refine cd ?_ ?_ <;> intro h35 <;> try simp only [tt] at h35
 refine sk (kk6 [0,2,4,7,8,9] (sq (bk (sq (rg ?_)))))
 refine mv (mv ?_)
 obtain ⟨ad36, hA36⟩ := h.ad (j := k34) (by omega)
 obtain ⟨z36, hz36⟩ := h.getz (j := k34) (by omega)
 refine ixz hA36 Tryz.underlying65 T.sz22 ?_
 obtain ⟨A37, c37, l37, h37⟩ := Sl.getS h hA36 hz36
 refine liz T.ag22 l37 ?_
 refine mv ?_
 refine W_quiet (rHas_q h37 _) T.hb51 rfl rfl ?_
 refine wn (kk7 [0,2,4,7,8,9,94] ?_)
 refine cd ?_ ?_ <;> intro h38 <;> try simp only [tt] at h38
 refine C_drawnA 1 13 rfl (by kernel_rfl) (by kernel_rfl) ?_
 refine A_q (i := 0) (by kernel_rfl) rfl (r_fieldb (o' := 1) rfl T.fo79_1 rfl) rfl ?_
 refine A_q (i := 1) (by kernel_rfl) rfl (r_loadb 0 rfl T.ag65 rfl rfl) rfl ?_
 refine A_q (i := 2) (by kernel_rfl) rfl (r_move rfl) rfl ?_
 refine A_q (i := 3) (by kernel_rfl) rfl (r_fieldb (o' := 1) rfl T.fo79_1 rfl) rfl ?_
 refine A_q (i := 4) (by kernel_rfl) rfl (r_loadb 0 rfl T.ag65 rfl rfl) rfl ?_
 refine A_q (i := 5) (by kernel_rfl) rfl (r_move rfl) rfl ?_
 refine A_q (i := 6) (by kernel_rfl) rfl (r_indexr (o := k32) Tryz.underlying65 T.sz22 rfl rfl ⟨by omega, by omega⟩ (by omega)) rfl ?_
 refine A_q (i := 8) (by kernel_rfl) rfl (r_move rfl) rfl ?_
 refine A_two (i := 7) (j := 9) (by kernel_rfl) rfl rfl (fun hs40 => ?_) (fun hs40 => ?_)
 obtain ⟨itm, hitm⟩ : ∃ it, x34[k32]? = some it := ⟨_, List.getElem?_eq_getElem (by rw [hJ34.len]; omega)⟩
 have hits := hJ34.small (by omega) _ (List.mem_of_getElem? hitm)
 refine W_q (r_loadrM 0 rfl T.ag22 rfl (it := itm) hitm) rfl ?_
 refine alz hs40 1 ?_
 refine aoz 9 (fun hs41 => ?_)
 refine S_litr (vs := [_]) (cs := [_]) Tryz.underlying22 T.sz3 T.ze3 rfl rfl rfl rfl rfl rfl rfl (fun b42 => ?_)
 refine alz hs41 2 ?_
 refine aoz 10 (fun hs43 => ?_)
 refine S_appendMC [_] 1 rfl hitm rfl rfl Tryz.underlying22 T.sz3 T.ze3 T.by3 rfl rfl (.row 0 rfl) (by simp only [List.length_cons, List.length_nil]; omega) rfl (fun gm cm hgm => ?_)
 refine alz hs43 2 ?_
 refine A_q (i := 11) (by kernel_rfl) rfl (r_indexr (o := k32) Tryz.underlying65 T.sz22 rfl rfl ⟨by omega, by omega⟩ (by omega)) rfl ?_
 refine aoz 12 (fun hs45 => ?_)
 refine S_storeMC 1 rfl rfl T.sz22 rfl (by rw [hJ34.len]; omega) rfl ?_
 refine alz hs45 2 ?_
 refine A_end (by kernel_rfl) ?_
 refine nb (kk6 [0,2,4,7,8,9] (rg ?_))
 refine mv ?_
 refine ad ?_
 refine as_ ?_
 refine wn ?_
 refine NX_rnd [9, 0, 2, 4, 7, 8] (by omega) (_) ?_ rfl (sub_drop 1 rfl) rfl (Imm.le_refl _)
 exact hJ34.put hitm hz36 (by assumption)
 refine S_litr (vs := [_]) (cs := [_]) Tryz.underlying22 T.sz3 T.ze3 rfl rfl rfl rfl rfl rfl rfl (fun b46 => ?_)
 refine alz hs40 2 ?_
 refine aoz 7 (fun hs47 => ?_)
 obtain ⟨itm, hitm⟩ : ∃ it, x34[k32]? = some it := ⟨_, List.getElem?_eq_getElem (by rw [hJ34.len]; omega)⟩
 have hits := hJ34.small (by omega) _ (List.mem_of_getElem? hitm)
 refine W_q (r_loadrM 1 rfl T.ag22 rfl (it := itm) hitm) rfl ?_
 refine alz hs47 2 ?_
 refine aoz 10 (fun hs48 => ?_)
 refine S_appendMC [_] 1 rfl hitm rfl rfl Tryz.underlying22 T.sz3 T.ze3 T.by3 rfl rfl (.row 0 rfl) (by simp only [List.length_cons, List.length_nil]; omega) rfl (fun gm cm hgm => ?_)
 refine alz hs48 2 ?_
 refine A_q (i := 11) (by kernel_rfl) rfl (r_indexr (o := k32) Tryz.underlying65 T.sz22 rfl rfl ⟨by omega, by omega⟩ (by omega)) rfl ?_
 refine aoz 12 (fun hs50 => ?_)
 refine S_storeMC 1 rfl rfl T.sz22 rfl (by rw [hJ34.len]; omega) rfl ?_
 refine alz hs50 2 ?_
 refine A_end (by kernel_rfl) ?_
 refine nb (kk6 [0,2,4,7,8,9] (rg ?_))
 refine mv ?_
 refine ad ?_
 refine as_ ?_
 refine wn ?_
 refine NX_rnd [9, 0, 2, 4, 7, 8] (by omega) (_) ?_ rfl (sub_drop 1 rfl) rfl (Imm.le_refl _)
 exact hJ34.put hitm hz36 (by assumption)
 refine sk (nb (kk6 [0,2,4,7,8,9] (rg ?_)))
 refine mv ?_
 refine ad ?_
 refine as_ ?_
 refine wn ?_
 refine NX_rnd [9, 0, 2, 4, 7, 8] (by omega) (_) ?_ rfl (List.Sublist.refl _) rfl (Imm.le_refl _)
 exact hJ34.skip hz36 (by assumption)
 refine C_exit (EX_then (EX_then (EX_hit (?_))))
 refine nb (kk5 [0,2,4,7,8] (rg ?_))
 refine mv ?_
 refine ad ?_
 refine as_ ?_
 refine wn ?_
 refine NX_rnd [8, 0, 2, 4, 7] (by omega) (_) ?_ rfl (List.Sublist.refl _) rfl (Imm.le_refl _)
 have hk3 : k34 = succ.length := by omega
 subst hk3
 exact hJ34.next
 refine C_exit (EX_then (EX_then (EX_hit (?_))))
 refine kk2 [2,7] (sq (rg ?_))
 refine W_q (r_loadbk 1 (vs := [_, _]) rfl T.ag79 T.sz79 rfl rfl rfl) rfl ?_
 refine sb2 2 T.sz79 ?_
 refine as_ ?_
 refine wn (kk2 [2,3] ?_)
 have hk2 : k32 = succ.length := by omega
 subst hk2
 have hdn := hJ32.done
 refine C_ret (RX_freezeMC 0 rfl (fun _ h => h) (hJ32.i64 (by omega) (by omega)) (fun y hy => by have := hJ32.small (by omega) y hy; omega) (by rw [hJ32.len]; omega) (fun mf lef hfin hn => ?_))
 rw [hdn] at hfin
 exact RX_gR (res_ct 1 rfl rfl rfl T.ag79 T.sz79 rfl) (graphΦ_some (makeP_t (by omega) (by omega) hall) (h.mono (rS_mono rI_mono) lef) hfin)
namespace T
theorem ag42 : agg? Tryz.prog 42 = some true := by kernel_rfl
theorem hb130 : hasBody Tryz.prog 130 = true := by kernel_rfl
theorem hb96 : hasBody Tryz.prog 96 = true := by kernel_rfl
theorem ze42 : zero? Tryz.prog 42 = some (.agg #[(.int .i64 0), (.int .i64 0), (.slice none 0 0)]) := by kernel_rfl
end T
theorem onF_put {l : List Int} {k : Nat} (h : l.contains ((k : Int) + 1) = true) : onF l (k + 1) ++ [(k : Int) + 1] = onF l (k + 1 + 1) := by
  have e : ((k + 1 : Nat) : Int) = (k : Int) + 1 := by omega
  rw [onF_succ l (k + 1), e, h]; simp
theorem onF_skip {l : List Int} {k : Nat} (h : l.contains ((k : Int) + 1) = false) : onF l (k + 1) = onF l (k + 1 + 1) := by
  have e : ((k + 1 : Nat) : Int) = (k : Int) + 1 := by omega
  rw [onF_succ l (k + 1), e, h]; simp
theorem rSameG_q {m : Imm} {es es2 : List Value} {a b : FGraph} (hG : rGraph m es a) (hG2 : rGraph m es2 b) : Quiet Tryz.prog 130 [.agg es.toArray, .agg es2.toArray] m (.bool (a.succ == b.succ && a.pred == b.pred)) := by
 have hG_0 := hG
 obtain ⟨A94, c94, B94, d94, rfl, hs94, hp94⟩ := hG_0
 have hG2_0 := hG2
 obtain ⟨A95, c95, B95, d95, rfl, hs95, hp95⟩ := hG2_0
 have hl1 := hs94.len
 have hl2 := hp94.len
 refine quiet_of Tryz.func130 rfl Tryz.ntmps130 rfl (fun w => ?_)
 refine sq (rg ?_)
 refine S_box (l := [_, _]) rfl rfl rfl (fun b1 => ?_)
 refine S_box (l := [_, _]) rfl rfl rfl (fun b2 => ?_)
 refine as_ ?_
 refine wn (kk3 [2,3,4] (sq (sq (rg ?_))))
 refine fb 0 T.fo79_0 (lb 1 T.ag65 (ln Tryz.underlying65 (fb 0 T.fo79_0 (lb 0 T.ag65 (ln Tryz.underlying65 (bn (mv ?_)))))))
 refine sp 14 ?_ ?_ <;> intro h3 <;> try simp only [tt] at h3
 refine ps (ps (ps (ps (ps (ps (ps ?_))))))
 refine pt ?_
 refine wn (kk4 [2,3,4,22] ?_)
 refine ctz (sq (rg ?_))
 refine as_ ?_
 refine wn (kk3 [2,3,4] ?_)
 refine C_ret (RX_then (RX_q1 rfl rfl ?_))
 refine congrArg Value.bool ?_
 exact (andG_f1 (lists_len (by omega))).symm
 refine tk (fb 1 T.fo79_1 ?_)
 refine tk (lb 1 T.ag65 ?_)
 refine tk (ln Tryz.underlying65 ?_)
 refine tk (fb 1 T.fo79_1 ?_)
 refine tk (lb 0 T.ag65 ?_)
 refine tk (ln Tryz.underlying65 ?_)
 refine tk (bn (pf ?_))
 refine wn (kk4 [2,3,4,22] ?_)
 refine cd ?_ ?_ <;> intro h4 <;> try simp only [tt] at h4
 refine sq (rg ?_)
 refine as_ ?_
 refine wn (kk3 [2,3,4] ?_)
 refine C_ret (RX_then (RX_q1 rfl rfl ?_))
 refine congrArg Value.bool ?_
 exact (andG_f2 (lists_len (by omega))).symm
 refine sk (kk3 [2,3,4] (sq (sq (rg ?_))))
 refine as_ ?_
 refine wn (kk4 [2,3,4,5] (bk ?_))
 refine C_loop (Unit) (a.succ.length) (fun k5 x5 => ∀ j, j < k5 → a.succ[j]? = b.succ[j]?) (fun k5 x5 => [(5, .int .i64 (k5 : Int))]) (fun _ _ => []) [5] [2, 3] (F := [(2, _), (3, _)]) (()) (by simp) rfl rfl rfl (fun k5 x5 hk5 hJ5 => ?_)
 refine jj3 [2,3,5] (sq (sq (rg ?_)))
 refine mv (fb 0 T.fo79_0 (lb 1 T.ag65 (ln Tryz.underlying65 (bl ?_))))
 refine wn (kk4 [2,3,5,27] ?_)
 refine cd ?_ ?_ <;> intro h6 <;> try simp only [tt] at h6
 refine sk (kk3 [2,3,5] (sq (bk (sq ?_))))
 refine C_drawn [(0, true), (1, true), (2, true), (3, true), (4, true), (5, true), (6, true), (7, true), (8, true), (9, true), (10, true), (11, true)] (by kernel_rfl) rfl (by kernel_rfl) (by kernel_rfl) ?_
 refine dfb 0 T.fo79_0 ?_
 refine dlb 1 T.ag65 ?_
 refine dmv ?_
 obtain ⟨ad7, hA7⟩ := hs94.ad (j := k5) (by omega)
 obtain ⟨z7, hz7⟩ := hs94.getz (j := k5) (by omega)
 refine D_q rfl (r_index hA7 Tryz.underlying65 T.sz22 rfl rfl ⟨by omega, by omega⟩) rfl ?_
 obtain ⟨A8, c8, l8, h8⟩ := Sl.getS hs94 hA7 hz7
 refine D_q rfl (r_load_imm rfl T.ag22 l8) rfl ?_
 refine dfb 0 T.fo79_0 ?_
 refine dlb 0 T.ag65 ?_
 refine dmv ?_
 obtain ⟨ad9, hA9⟩ := hs95.ad (j := k5) (by omega)
 obtain ⟨z9, hz9⟩ := hs95.getz (j := k5) (by omega)
 refine D_q rfl (r_index hA9 Tryz.underlying65 T.sz22 rfl rfl ⟨by omega, by omega⟩) rfl ?_
 obtain ⟨A10, c10, l10, h10⟩ := Sl.getS hs95 hA9 hz9
 refine D_q rfl (r_load_imm rfl T.ag22 l10) rfl ?_
 refine D_quiet rfl (Ints_q h8 h10) T.hb21 rfl rfl ?_
 refine D_q rfl (r_not rfl) rfl ?_
 refine D_end ?_
 refine kk4 [2,3,5,41] ?_
 refine cd ?_ ?_ <;> intro h11 <;> try simp only [tt] at h11
 refine sq (rg ?_)
 refine as_ ?_
 refine wn (kk4 [2,3,4,5] ?_)
 refine C_ret (RX_block (RX_then (RX_then (RX_block (RX_then (RX_q1 rfl rfl ?_))))))
 refine congrArg Value.bool ?_
 exact (andG_f1 (lists_n hz7 hz9 (by assumption))).symm
 refine sk (nb (kk3 [2,3,5] (rg ?_)))
 refine mv ?_
 refine ad ?_
 refine as_ ?_
 refine wn ?_
 refine NX_rnd [5, 2, 3] (by omega) (()) ?_ rfl (List.Sublist.refl _) rfl (Imm.le_refl _)
 exact lt_succ_all hJ5 (eq_get hz7 hz9 (by assumption))
 refine C_exit (EX_then (EX_then (EX_hit (?_))))
 refine kk2 [2,3] (sq (sq (rg ?_)))
 refine as_ ?_
 refine wn (kk3 [2,3,6] (bk ?_))
 refine C_loop (Unit) (a.pred.length) (fun k12 x12 => ∀ j, j < k12 → a.pred[j]? = b.pred[j]?) (fun k12 x12 => [(6, .int .i64 (k12 : Int))]) (fun _ _ => []) [6] [2, 3] (F := [(2, _), (3, _)]) (()) (by simp) rfl rfl rfl (fun k12 x12 hk12 hJ12 => ?_)
 refine jj3 [2,3,6] (sq (sq (rg ?_)))
 refine mv (fb 1 T.fo79_1 (lb 1 T.ag65 (ln Tryz.underlying65 (bl ?_))))
 refine wn (kk4 [2,3,6,46] ?_)
 refine cd ?_ ?_ <;> intro h13 <;> try simp only [tt] at h13
 refine sk (kk3 [2,3,6] (sq (bk (sq ?_))))
 refine C_drawn [(0, true), (1, true), (2, true), (3, true), (4, true), (5, true), (6, true), (7, true), (8, true), (9, true), (10, true), (11, true)] (by kernel_rfl) rfl (by kernel_rfl) (by kernel_rfl) ?_
 refine dfb 1 T.fo79_1 ?_
 refine dlb 1 T.ag65 ?_
 refine dmv ?_
 obtain ⟨ad14, hA14⟩ := hp94.ad (j := k12) (by omega)
 obtain ⟨z14, hz14⟩ := hp94.getz (j := k12) (by omega)
 refine D_q rfl (r_index hA14 Tryz.underlying65 T.sz22 rfl rfl ⟨by omega, by omega⟩) rfl ?_
 obtain ⟨A15, c15, l15, h15⟩ := Sl.getS hp94 hA14 hz14
 refine D_q rfl (r_load_imm rfl T.ag22 l15) rfl ?_
 refine dfb 1 T.fo79_1 ?_
 refine dlb 0 T.ag65 ?_
 refine dmv ?_
 obtain ⟨ad16, hA16⟩ := hp95.ad (j := k12) (by omega)
 obtain ⟨z16, hz16⟩ := hp95.getz (j := k12) (by omega)
 refine D_q rfl (r_index hA16 Tryz.underlying65 T.sz22 rfl rfl ⟨by omega, by omega⟩) rfl ?_
 obtain ⟨A17, c17, l17, h17⟩ := Sl.getS hp95 hA16 hz16
 refine D_q rfl (r_load_imm rfl T.ag22 l17) rfl ?_
 refine D_quiet rfl (Ints_q h15 h17) T.hb21 rfl rfl ?_
 refine D_q rfl (r_not rfl) rfl ?_
 refine D_end ?_
 refine kk4 [2,3,6,60] ?_
 refine cd ?_ ?_ <;> intro h18 <;> try simp only [tt] at h18
 refine sq (rg ?_)
 refine as_ ?_
 refine wn (kk4 [2,3,4,6] ?_)
 refine C_ret (RX_block (RX_then (RX_then (RX_block (RX_then (RX_q1 rfl rfl ?_))))))
 refine congrArg Value.bool ?_
 exact (andG_f2 (lists_n hz14 hz16 (by assumption))).symm
 refine sk (nb (kk3 [2,3,6] (rg ?_)))
 refine mv ?_
 refine ad ?_
 refine as_ ?_
 refine wn ?_
 refine NX_rnd [6, 2, 3] (by omega) (()) ?_ rfl (List.Sublist.refl _) rfl (Imm.le_refl _)
 exact lt_succ_all hJ12 (eq_get hz14 hz16 (by assumption))
 refine C_exit (EX_then (EX_then (EX_hit (?_))))
 refine kk0 [] (sq (rg ?_))
 refine as_ ?_
 refine wn (kk1 [4] ?_)
 refine C_ret (RX_q1 rfl rfl ?_)
 refine congrArg Value.bool ?_
 have hk0 : k5 = a.succ.length := by omega
 have hk1 : k12 = a.pred.length := by omega
 subst hk0 hk1
 exact (andG_t (lists_t (by omega) hJ5) (lists_t (by omega) hJ12)).symm
theorem rMayG_q {m : Imm} {es : List Value} {g : FGraph} (hG : rGraph m es g) : Quiet Tryz.prog 97 [.agg es.toArray] m (.bool (mayG g)) := by
 have hG_0 := hG
 obtain ⟨A94, c94, B94, d94, rfl, hs94, hp94⟩ := hG_0
 refine quiet_of Tryz.func97 rfl Tryz.ntmps97 rfl (fun w => ?_)
 refine sq (rg ?_)
 refine S_box (l := [_, _]) rfl rfl rfl (fun b1 => ?_)
 refine as_ ?_
 refine wn (kk2 [1,2] (sq (rg ?_)))
 refine fb 0 T.fo79_0 (lb 0 T.ag65 ?_)
 refine S_gives (rMake_g hs94) T.hb96 rfl rfl (fun m2 v2 le2 hv2 => ?_)
 replace hG := rGraph_mono _ _ _ _ le2 hG
 replace hs94 := hs94.mono (rS_mono rI_mono) le2
 replace hp94 := hp94.mono (rS_mono rI_mono) le2
 obtain ⟨_, rfl, A2, c2, B2, d2, rfl, h2, g2⟩ := hv2
 generalize hgq : graphQ (makeP g.succ) = gq at *
 have hGr : rGraph _ [_, _] gq.1 := ⟨_, _, _, _, rfl, h2, g2⟩
 refine mv ?_
 refine W_q (r_extract rfl rfl) rfl ?_
 refine W_q (r_extract rfl rfl) rfl ?_
 refine sa2 T.ze79 (fun b3 => ?_)
 refine sb2 0 T.sz79 ?_
 refine as_ ?_
 refine wn (kk4 [1,2,3,4] (sq (rg ?_)))
 refine mv (be (mv ?_))
 refine sp 13 ?_ ?_ <;> intro h4 <;> try simp only [tt] at h4
 refine tk ?_
 refine W_q (r_loadbk 0 (vs := [_, _]) rfl T.ag79 T.sz79 rfl rfl rfl) rfl ?_
 refine tk ?_
 refine W_q (r_loadbk 1 (vs := [_, _]) rfl T.ag79 T.sz79 rfl rfl rfl) rfl ?_
 refine tk ?_
 refine W_quiet (rSameG_q hGr hG) T.hb130 rfl rfl ?_
 refine pt (as_ ?_)
 refine wn (kk1 [2] ?_)
 refine C_ret (RX_q1 rfl rfl ?_)
 refine congrArg Value.bool ?_
 exact may_mayG (m := m) hgq (by assumption)
 refine ps (ps (ps ?_))
 refine pf (as_ ?_)
 refine wn (kk1 [2] ?_)
 refine C_ret (RX_q1 rfl rfl ?_)
 refine congrArg Value.bool ?_
 exact (may_mayG0 (by rw [hgq]; assumption)).symm
theorem rOf_g {m : Imm} {es : List Value} {f : FFun} (hF : rFunc m es f) : Gives Tryz.prog 62 [.agg es.toArray] m (GraphΦ (ofP f)) := by
 have hF_0 := hF
 obtain ⟨A90, c90, B90, d90, rfl, hq90, hb90, i90a⟩ := hF_0
 have hbl := hb90.len
 refine gives_of Tryz.func62 rfl Tryz.ntmps62 rfl (fun w => ?_)
 refine sq (rg ?_)
 refine S_box (l := [_, _, _]) rfl rfl rfl (fun b1 => ?_)
 refine sa2 T.ze79 (fun b2 => ?_)
 refine as_ ?_
 refine wn (kk3 [1,2,3] (sq (rg ?_)))
 refine fb 2 T.fo25_2 (lb 1 T.ag23 (ln Tryz.underlying23 (as_ ?_)))
 refine wn (kk4 [1,2,3,4] (sq (sq (rg ?_))))
 refine mv (be (mv ?_))
 refine sp 16 ?_ ?_ <;> intro h3 <;> try simp only [tt] at h3
 refine ps (ps ?_)
 refine pt ?_
 refine wn (kk5 [1,2,3,4,19] ?_)
 refine ctz (sq (rg ?_))
 refine W_q (r_builds (cs := [_, _]) T.bl79 rfl rfl) rfl ?_
 refine sb2 0 T.sz79 ?_
 refine as_ ?_
 refine wn (kk4 [1,2,3,4] ?_)
 refine C_ret (RX_then (RX_gR (res_ct 0 rfl rfl rfl T.ag79 T.sz79 rfl) (graphΦ_no ?_)))
 exact ofP_nil (by omega)
 refine tk (mv ?_)
 refine tk (bg (pf ?_))
 refine wn (kk5 [1,2,3,4,19] ?_)
 refine cd ?_ ?_ <;> intro h4 <;> try simp only [tt] at h4
 refine sq (rg ?_)
 refine W_q (r_builds (cs := [_, _]) T.bl79 rfl rfl) rfl ?_
 refine sb2 0 T.sz79 ?_
 refine as_ ?_
 refine wn (kk4 [1,2,3,4] ?_)
 refine C_ret (RX_then (RX_gR (res_ct 0 rfl rfl rfl T.ag79 T.sz79 rfl) (graphΦ_no ?_)))
 exact ofP_big (by omega)
 refine sk (kk4 [1,2,3,4] (sq (rg ?_)))
 refine as_ ?_
 refine wn (kk5 [1,2,3,4,5] (sq (sq (rg ?_))))
 refine as_ ?_
 refine wn (kk6 [1,2,3,4,5,6] (bk ?_))
 refine CW_nilRow 22 1 ?_
 refine C_loopM (Option Nat × Nat × List Value) (f.blocks.length) (fun k5 mk5 x5 => m.le mk5 ∧ ((∀ j b, j < k5 → f.blocks[j]? = some b → badB f.blocks.length b = false) ∧ SlCells mk5 x5.2.2 ((f.blocks.take k5).map fun b => onF b.fin.to f.blocks.length) ∧ (0 < k5 → ∃ b, x5.1 = some b))) (fun k5 x5 => [(5, .slice (rowA x5.1) k5 x5.2.1), (6, .int .i64 (k5 : Int))]) (fun k5 x5 => [row x5.1 k5 x5.2.1 22 1 x5.2.2]) [5, 6] [1, 2, 4] (F := [(1, _), (2, _), (4, _)]) ((none, 0, [])) ⟨Imm.le_refl _, ⟨fun j b h => by omega, SlCells.nil _, by omega⟩⟩ rfl rfl rfl (fun k5 mk5 x5 hk5 hJ5 => ?_)
 obtain ⟨hle5, hJ5⟩ := hJ5
 replace hF := rFunc_mono _ _ _ _ hle5 hF
 replace hq90 := hq90.mono rI_mono hle5
 replace hb90 := hb90.mono rBlock_mono hle5
 obtain ⟨hJ1, hJ2, hgo⟩ := hJ5
 refine jj5 [1,2,4,5,6] (sq (sq (rg ?_)))
 refine mv (mv (bl ?_))
 refine wn (kk6 [1,2,4,5,6,23] ?_)
 refine cd ?_ ?_ <;> intro h7 <;> try simp only [tt] at h7
 refine sk (kk5 [1,2,4,5,6] (sq (bk (sq (rg ?_)))))
 refine fb 2 T.fo25_2 (lb 2 T.ag23 (mv ?_))
 obtain ⟨ad8, hA8⟩ := hb90.ad (j := k5) (by omega)
 obtain ⟨z8, hz8⟩ := hb90.getz (j := k5) (by omega)
 refine ixz hA8 Tryz.underlying23 T.sz44 ?_
 refine W_q (r_field rfl T.fo44_2) rfl ?_
 obtain ⟨es9, f9, _, l9⟩ := Sl.get hb90 hA8 hz8
 obtain ⟨A9, c9, B9, d9, C9, e9, rfl, hp9, ho9, ht9, i9a, i9b⟩ := f9
 refine W_q (r_load_immk (vs := [_, _, _]) rfl T.ag42 T.sz42 (cells_part l9 2 3 rfl)) rfl ?_
 refine sa3 T.ze42 (fun b10 => ?_)
 refine sb3 0 T.sz42 ?_
 refine wn (kk6 [1,2,4,5,6,7] (sq (sq ?_)))
 refine C_drawn [(0, true), (1, true), (2, true), (3, true), (4, true), (5, true), (6, true), (7, true), (8, true), (9, true), (10, true), (11, true), (13, true), (14, true), (12, false), (15, true), (16, false), (17, true), (18, true)] (by kernel_rfl) rfl (by kernel_rfl) (by kernel_rfl) ?_
 refine dfb 0 T.fo42_0 ?_
 refine dlb 0 T.ag3 ?_
 refine D_q rfl (r_bin rfl rfl (bin_lss _ _ _ _)) rfl ?_
 refine dmv ?_
 refine D_split (t := 35) rfl (fun h11 => ?_) (fun h11 => ?_)
 (try simp only [tt] at h11)
 refine dps ?_
 refine dps ?_
 refine dps ?_
 refine D_q rfl (r_pick_t rfl rfl) rfl ?_
 refine dmv ?_
 refine dps ?_
 refine dps ?_
 refine dps ?_
 refine dps ?_
 refine dps ?_
 refine D_f rfl (fun hs12 hc12 => ?_)
 refine ps ?_
 refine W_leftw hs12 hc12 (Imm.le_refl _) (List.Sublist.refl _) ?_
 refine dps ?_
 refine D_f rfl (fun hs13 hc13 => ?_)
 refine ps ?_
 refine W_leftw hs13 hc13 (Imm.le_refl _) (List.Sublist.refl _) ?_
 refine dps ?_
 refine D_q rfl (r_pick_t rfl rfl) rfl ?_
 refine D_end ?_
 refine kk7 [1,2,4,5,6,7,50] ?_
 refine ctz (sq (rg ?_))
 refine W_q (r_builds (cs := [_, _]) T.bl79 rfl rfl) rfl ?_
 refine sb2 2 T.sz79 ?_
 refine as_ ?_
 refine wn (kk7 [1,2,3,4,5,6,7] ?_)
 refine C_ret (RX_then (RX_block (RX_then (RX_then (RX_block (RX_then (RX_gR (res_ct 2 rfl rfl rfl T.ag79 T.sz79 rfl) (graphΦ_no ?_))))))))
 exact ofP_bad hz8 (badB_t1 (by omega))
 (try simp only [tt] at h11)
 refine D_qt rfl rfl rfl (r_fieldb (o' := 0) rfl T.fo42_0 rfl) rfl ?_
 refine D_qt rfl rfl rfl (r_loadb 0 rfl T.ag3 rfl rfl) rfl ?_
 refine D_qt rfl rfl rfl (r_bin rfl rfl (bin_gtr _ _ _ _)) rfl ?_
 refine D_q rfl (r_pick_f rfl rfl) rfl ?_
 refine dmv ?_
 refine D_split (t := 40) rfl (fun h14 => ?_) (fun h14 => ?_)
 (try simp only [tt] at h14)
 refine dps ?_
 refine dps ?_
 refine dps ?_
 refine dps ?_
 refine dps ?_
 refine D_f rfl (fun hs15 hc15 => ?_)
 refine ps ?_
 refine W_leftw hs15 hc15 (Imm.le_refl _) (List.Sublist.refl _) ?_
 refine dps ?_
 refine D_f rfl (fun hs16 hc16 => ?_)
 refine ps ?_
 refine W_leftw hs16 hc16 (Imm.le_refl _) (List.Sublist.refl _) ?_
 refine dps ?_
 refine D_q rfl (r_pick_t rfl rfl) rfl ?_
 refine D_end ?_
 refine kk7 [1,2,4,5,6,7,50] ?_
 refine ctz (sq (rg ?_))
 refine W_q (r_builds (cs := [_, _]) T.bl79 rfl rfl) rfl ?_
 refine sb2 2 T.sz79 ?_
 refine as_ ?_
 refine wn (kk7 [1,2,3,4,5,6,7] ?_)
 refine C_ret (RX_then (RX_block (RX_then (RX_then (RX_block (RX_then (RX_gR (res_ct 2 rfl rfl rfl T.ag79 T.sz79 rfl) (graphΦ_no ?_))))))))
 exact ofP_bad hz8 (badB_t1 (by omega))
 (try simp only [tt] at h14)
 refine D_qt rfl rfl rfl (r_fieldb (o' := 2) rfl T.fo42_2 rfl) rfl ?_
 refine D_qt rfl rfl rfl (r_loadb 0 rfl T.ag22 rfl rfl) rfl ?_
 refine D_qt rfl rfl rfl (r_len Tryz.underlying22 rfl) rfl ?_
 refine D_qt rfl rfl rfl (r_fieldb (o' := 0) rfl T.fo42_0 rfl) rfl ?_
 refine D_qt rfl rfl rfl (r_loadb 0 rfl T.ag3 rfl rfl) rfl ?_
 refine D_f rfl (fun hs17 hc17 => ?_)
 refine tk ?_
 refine S_lit (vs := [_, _, _, _]) (cs := [_, _, _, _]) Tryz.underlying22 T.sz3 T.ze3 rfl rfl rfl rfl rfl rfl (fun m18 ad18 le18 l18 => ?_)
 replace hF := rFunc_mono _ _ _ _ le18 hF
 replace hq90 := hq90.mono rI_mono le18
 replace hb90 := hb90.mono rBlock_mono le18
 replace hp9 := hp9.mono rPhi_mono le18
 replace ho9 := ho9.mono rOp_mono le18
 replace ht9 := ht9.mono rI_mono le18
 have h18 : Ints m18 (some ad18) 4 _ := Ints_lit [_, _, _, _] l18 (i64s_cons (by first | assumption | exact ⟨by omega, by omega⟩) (i64s_cons (by first | assumption | exact ⟨by omega, by omega⟩) (i64s_cons (by first | assumption | exact ⟨by omega, by omega⟩) (i64s_cons (by first | assumption | exact ⟨by omega, by omega⟩) i64s_nil))))
 refine W_leftw hs17 hc17 (le18) (List.Sublist.refl _) ?_
 obtain ⟨ad19, hA19⟩ := h18.ad (j := z8.fin.kind.toNat) (by simp only [List.length_cons, List.length_nil]; omega)
 obtain ⟨z19, hz19⟩ := h18.getz (j := z8.fin.kind.toNat) (by simp only [List.length_cons, List.length_nil]; omega)
 refine D_qt rfl rfl rfl (r_index hA19 Tryz.underlying22 T.sz3 rfl rfl ⟨by omega, by omega⟩) rfl ?_
 refine D_f rfl (fun hs20 hc20 => ?_)
 refine tk ?_
 obtain ⟨l21, r21⟩ := Sl.getI h18 hA19 hz19
 refine liz T.ag3 l21 ?_
 refine W_leftw hs20 hc20 (le18) (List.Sublist.refl _) ?_
 refine D_qt rfl rfl rfl (r_bin rfl rfl (bin_neq _ _ _ _)) rfl ?_
 refine D_q rfl (r_pick_f rfl rfl) rfl ?_
 refine D_end ?_
 refine kk7 [1,2,4,5,6,7,50] ?_
 refine cd ?_ ?_ <;> intro h22 <;> try simp only [tt] at h22
 refine sq (rg ?_)
 refine W_q (r_builds (cs := [_, _]) T.bl79 rfl rfl) rfl ?_
 refine sb2 2 T.sz79 ?_
 refine as_ ?_
 refine wn (kk7 [1,2,3,4,5,6,7] ?_)
 refine C_ret (RX_then (RX_block (RX_then (RX_then (RX_block (RX_then (RX_gR (res_ct 2 rfl rfl rfl T.ag79 T.sz79 rfl) (graphΦ_no ?_))))))))
 exact ofP_bad hz8 (badB_t2 (by omega) (by omega) hz19 (by omega))
 refine sk (kk6 [1,2,4,5,6,7] (sq (rg ?_)))
 refine as_ ?_
 refine wn (kk7 [1,2,4,5,6,7,8] (sq (sq (rg ?_))))
 refine as_ ?_
 refine wn (kk8 [1,2,4,5,6,7,8,9] (bk ?_))
 refine C_loop (Unit) (z8.fin.to.length) (fun k23 x23 => ∀ j, j < k23 → ∀ y, z8.fin.to[j]? = some y → 1 ≤ y ∧ y < (f.blocks.length : Int)) (fun k23 x23 => [(9, .int .i64 (k23 : Int))]) (fun _ _ => []) [9] [1, 2, 4, 5, 6, 7, 8] (F := [(1, _), (2, _), (4, _), (5, _), (6, _), (7, _), (8, _)]) (()) (by simp) rfl rfl rfl (fun k23 x23 hk23 hJ23 => ?_)
 refine jj8 [1,2,4,5,6,7,8,9] (sq (sq (rg ?_)))
 have htol := Sl.len (r := rI) (sz := 1) (xs := z8.fin.to) (by assumption)
 refine mv (fb 2 T.fo42_2 (lb 0 T.ag22 (ln Tryz.underlying22 (bl ?_))))
 refine wn (kk9 [1,2,4,5,6,7,8,9,56] ?_)
 refine cd ?_ ?_ <;> intro h24 <;> try simp only [tt] at h24
 refine sk (kk8 [1,2,4,5,6,7,8,9] (sq (bk (sq (rg ?_)))))
 refine fb 2 T.fo42_2 (lb 0 T.ag22 (mv ?_))
 obtain ⟨ad25, hA25⟩ := ht9.ad (j := k23) (by omega)
 obtain ⟨z25, hz25⟩ := ht9.getz (j := k23) (by omega)
 refine ixz hA25 Tryz.underlying22 T.sz3 ?_
 obtain ⟨l26, r26⟩ := Sl.getI ht9 hA25 hz25
 refine liz T.ag3 l26 ?_
 refine bq (mv ?_)
 refine sp 65 ?_ ?_ <;> intro h27 <;> try simp only [tt] at h27
 refine ps (ps (ps (ps (ps (ps (ps ?_))))))
 refine pt ?_
 refine wn (kk9 [1,2,4,5,6,7,8,9,73] ?_)
 refine ctz (sq (rg ?_))
 refine W_q (r_builds (cs := [_, _]) T.bl79 rfl rfl) rfl ?_
 refine sb2 2 T.sz79 ?_
 refine as_ ?_
 refine wn (kk9 [1,2,3,4,5,6,7,8,9] ?_)
 refine C_ret (RX_block (RX_then (RX_then (RX_block (RX_then (RX_block (RX_then (RX_then (RX_block (RX_then (RX_gR (res_ct 2 rfl rfl rfl T.ag79 T.sz79 rfl) (graphΦ_no ?_))))))))))))
 exact ofP_bad hz8 (badB_t3 hz25 (by omega))
 refine tk (fb 2 T.fo42_2 ?_)
 refine tk (lb 0 T.ag22 ?_)
 refine tk (mv ?_)
 refine tk ?_
 obtain ⟨ad28, hA28⟩ := ht9.ad (j := k23) (by omega)
 refine ixz hA28 Tryz.underlying22 T.sz3 ?_
 refine tk ?_
 obtain ⟨l29, r29⟩ := Sl.getI ht9 hA28 hz25
 refine liz T.ag3 l29 ?_
 refine tk (mv ?_)
 refine tk (bh (pf ?_))
 refine wn (kk9 [1,2,4,5,6,7,8,9,73] ?_)
 refine cd ?_ ?_ <;> intro h30 <;> try simp only [tt] at h30
 refine sq (rg ?_)
 refine W_q (r_builds (cs := [_, _]) T.bl79 rfl rfl) rfl ?_
 refine sb2 2 T.sz79 ?_
 refine as_ ?_
 refine wn (kk9 [1,2,3,4,5,6,7,8,9] ?_)
 refine C_ret (RX_block (RX_then (RX_then (RX_block (RX_then (RX_block (RX_then (RX_then (RX_block (RX_then (RX_gR (res_ct 2 rfl rfl rfl T.ag79 T.sz79 rfl) (graphΦ_no ?_))))))))))))
 exact ofP_bad hz8 (badB_t3 hz25 (by omega))
 refine sk (nb (kk8 [1,2,4,5,6,7,8,9] (rg ?_)))
 refine mv ?_
 refine ad ?_
 refine as_ ?_
 refine wn ?_
 refine NX_rnd [9, 1, 2, 4, 5, 6, 7, 8] (by omega) (()) ?_ rfl (List.Sublist.refl _) rfl (Imm.le_refl _)
 exact lt_succ_all hJ23 (fun y hy => by rw [hz25] at hy; cases hy; omega)
 refine C_exit (EX_then (EX_then (EX_hit (?_))))
 refine kk7 [1,2,4,5,6,7,8] (sq (sq (rg ?_)))
 refine as_ ?_
 refine wn (kk8 [1,2,4,5,6,7,8,10] (bk ?_))
 refine CW_nilRow 3 1 ?_
 refine C_loop (Option Nat × Nat × List Int) ((f.blocks.length - 1)) (fun k31 x31 => x31.2.2 = onF z8.fin.to (k31 + 1) ∧ (0 < x31.2.2.length → ∃ b, x31.1 = some b)) (fun k31 x31 => [(8, slI x31.1 x31.2.1 x31.2.2), (10, .int .i64 ((k31 : Int) + 1))]) (fun k31 x31 => [rowI 3 x31.1 x31.2.1 x31.2.2]) [8, 10] [1, 2, 4, 5, 6, 7] (F := [(1, _), (2, _), (4, _), (5, _), (6, _), (7, _)]) ((none, 0, [])) ⟨rfl, by simp⟩ rfl rfl rfl (fun k31 x31 hk31 hJ31 => ?_)
 obtain ⟨hJr, hgi⟩ := hJ31
 have hxl : x31.2.2.length ≤ k31 + 1 := by rw [hJr]; exact onF_len _ _
 refine jj8 [1,2,4,5,6,7,8,10] (sq (sq (rg ?_)))
 have hkb1 := hk5
 refine mv (mv (bl ?_))
 refine wn (kk9 [1,2,4,5,6,7,8,10,77] ?_)
 refine cd ?_ ?_ <;> intro h33 <;> try simp only [tt] at h33
 refine sk (kk8 [1,2,4,5,6,7,8,10] (sq (bk (sq (rg ?_)))))
 refine fb 2 T.fo42_2 (lb 1 T.ag22 (mv ?_))
 refine W_quiet (rHas_q ht9 _) T.hb51 rfl rfl ?_
 refine wn (kk9 [1,2,4,5,6,7,8,10,83] ?_)
 refine cd ?_ ?_ <;> intro h34 <;> try simp only [tt] at h34
 refine rg ?_
 refine mv (mv ?_)
 refine S_litr (vs := [_]) (cs := [_]) Tryz.underlying22 T.sz3 T.ze3 rfl rfl rfl rfl rfl rfl rfl (fun b35 => ?_)
 refine S_appendI (l := x31.2.2) (g1 := x31.1) [_] 1 rfl rfl rfl Tryz.underlying22 T.sz3 T.ze3 T.by3 rfl rfl (.row 0 rfl) (by simp only [List.length_cons, List.length_nil]; omega) rfl (fun g36 c36 hg36 => ?_)
 refine as_ ?_
 refine wn (nb (kk8 [1,2,4,5,6,7,8,10] (rg ?_)))
 refine mv ?_
 refine ad ?_
 refine as_ ?_
 refine wn ?_
 refine NX_rnd [8, 10, 1, 2, 4, 5, 6, 7] (by omega) ((_, _, _)) ?_ rfl (sub_drop 1 rfl) rfl (Imm.le_refl _)
 exact ⟨by rw [hJr, onF_put (by assumption)], hg36⟩
 refine sk (nb (kk8 [1,2,4,5,6,7,8,10] (rg ?_)))
 refine mv ?_
 refine ad ?_
 refine as_ ?_
 refine wn ?_
 refine NX_rnd [8, 10, 1, 2, 4, 5, 6, 7] (by omega) ((_, _, _)) ?_ rfl (List.Sublist.refl _) rfl (Imm.le_refl _)
 exact ⟨by rw [hJr, onF_skip (by assumption)], hgi⟩
 refine C_exit (EX_then (EX_then (EX_hit (?_))))
 refine kk6 [1,2,4,5,6,8] (rg ?_)
 have hk2n : k31 + 1 = f.blocks.length := by omega
 have hk1 : k23 = z8.fin.to.length := by omega
 rw [hk2n] at hJr
 have hrngb := hJ23
 rw [hk1] at hrngb
 have hbad : badB f.blocks.length z8 = false := badB_f (by omega) (by omega) hz19 (by omega) hrngb
 refine WL_know (k_rowI 0 rfl) (fun hr37 => ?_)
 refine WL_freeze 0 rfl (fun _ h => h) (fun mf37 le37 hf37 => ?_)
 replace hF := rFunc_mono _ _ _ _ le37 hF
 replace hq90 := hq90.mono rI_mono le37
 replace hb90 := hb90.mono rBlock_mono le37
 replace hp9 := hp9.mono rPhi_mono le37
 replace ho9 := ho9.mono rOp_mono le37
 replace ht9 := ht9.mono rI_mono le37
 replace h18 := h18.mono rI_mono le37
 have hin : Ints mf37 _ _ x31.2.2 := Ints_frz hf37 hr37.1 hr37.2.1 (by have := onF_len z8.fin.to f.blocks.length; rw [hJr]; omega) hr37.2.2 (by rw [hJr]; intro z hz; have := onF_rng z hz; exact ⟨by omega, by omega⟩)
 refine mv (mv ?_)
 refine S_litr (vs := [_]) (cs := [_]) Tryz.underlying65 T.sz22 T.ze22 rfl rfl rfl rfl rfl rfl rfl (fun b38 => ?_)
 refine S_appendG [_] 2 rfl rfl rfl Tryz.underlying65 T.sz22 T.ze22 T.by22 rfl rfl rfl (.row 0 rfl) rfl (by omega) (by unfold maxLen; omega) rfl (fun g39 c39 hg39 => ?_)
 refine as_ ?_
 refine wn (nb (kk5 [1,2,4,5,6] (rg ?_)))
 refine mv ?_
 refine ad ?_
 refine as_ ?_
 refine wn ?_
 refine NX_rndM [5, 6, 1, 2, 4] (by omega) ((_, _, _)) ⟨Imm.le_trans (Imm.le_trans (hle5) le18) le37, ?_⟩ rfl (sub_drop 2 rfl) rfl
 refine ⟨fun j b h1 h2 => ?_, ?_, hg39⟩
 · by_cases e : j = k5
   · subst e; rw [hz8] at h2; cases h2; exact hbad
   · exact hJ1 j b (by omega) h2
 · rw [take_map_succ hz8, ← hJr]
   exact (hJ2.mono (Imm.le_trans (le18) le37)).snoc hin
 refine C_exit (EX_then (EX_then (EX_hit (?_))))
 refine kk2 [2,5] (sq (rg ?_))
 have hJa := hJ1
 have hJb := hJ2
 have hkn : k5 = f.blocks.length := by omega
 subst hkn
 rw [List.take_of_length_le (Nat.le_refl _)] at hJb
 refine WL_know (k_rowG 0 rfl) (fun hr40 => ?_)
 refine WL_freeze 0 rfl (fun _ h => h) (fun mf40 le40 hf40 => ?_)
 replace hF := rFunc_mono _ _ _ _ le40 hF
 replace hq90 := hq90.mono rI_mono le40
 replace hb90 := hb90.mono rBlock_mono le40
 have hsu := (hJb.mono le40).sl hf40 (by rw [List.length_map]; have := hr40.2.1; omega) hr40.2.2.1 (by rw [List.length_map]; omega) (by rw [List.length_map]; intro hq; exact hr40.2.2.2 (by omega))
 refine mv ?_
 have hmk := rMake_g hsu
 rw [List.length_map] at hmk
 refine S_gives hmk T.hb96 rfl rfl (fun m41 v41 le41 hv41 => ?_)
 replace hF := rFunc_mono _ _ _ _ le41 hF
 replace hq90 := hq90.mono rI_mono le41
 replace hb90 := hb90.mono rBlock_mono le41
 replace hsu := hsu.mono (rS_mono rI_mono) le41
 obtain ⟨_, rfl, A41, c41, B41, d41, rfl, h41, g41⟩ := hv41
 refine W_q (r_extract rfl rfl) rfl ?_
 refine W_q (r_extract rfl rfl) rfl ?_
 refine sb2 0 T.sz79 ?_
 refine as_ ?_
 refine wn (kk2 [2,3] ?_)
 refine C_ret (RX_gR (res_ct 0 rfl rfl rfl T.ag79 T.sz79 rfl) ?_)
 rw [ofR_eq (by omega) hJa]
 exact ⟨_, rfl, _, _, _, _, rfl, h41, g41⟩
namespace T
theorem hb98 : hasBody Tryz.prog 98 = true := by kernel_rfl
theorem hb99 : hasBody Tryz.prog 99 = true := by kernel_rfl
end T
theorem i64_snoc {l : List Int} {a : Int} (h : ∀ z ∈ l, I64 z) (ha : I64 a) : ∀ z ∈ l ++ [a], I64 z := by
  intro z hz
  rcases List.mem_append.1 hz with hz | hz
  · exact h z hz
  · simp at hz; subst hz; exact ha
theorem meetR_f {t : List Int} {a b : Int} (h : rightR t = false) : meetR t a b = -2 := by rw [meetR, if_neg (by simp [h])]
theorem find_first {p : Int → Bool} {l : List Int} {k : Nat} {z : Int} (h : ∀ j, j < k → ∀ y, l[j]? = some y → p y = false) (hz : l[k]? = some z) (hp : p z = true) : l.find? p = some z := by
  induction l generalizing k with
  | nil => simp at hz
  | cons x r ih =>
    cases k with
    | zero => simp at hz; subst hz; rw [List.find?_cons, hp]
    | succ k =>
      have := h 0 (by omega) x rfl
      rw [List.find?_cons, this]
      exact ih (k := k) (fun j hj y hy => h (j + 1) (by omega) y (by simpa using hy)) (by simpa using hz)
theorem meetR_t {t : List Int} {a b : Int} {k : Nat} {z : Int} (hr : rightR t = true) (h : ∀ j, j < k → ∀ y, (pathR t a)[j]? = some y → (pathR t b).contains y = false) (hz : (pathR t a)[k]? = some z) (hc : (pathR t b).contains z = true) : meetR t a b = z := by
  rw [meetR, if_pos hr, find_first h hz hc]; rfl
theorem meetR_n {t : List Int} {a b : Int} (hr : rightR t = true) (h : ∀ j, j < (pathR t a).length → ∀ y, (pathR t a)[j]? = some y → (pathR t b).contains y = false) : meetR t a b = -2 := by
  rw [meetR, if_pos hr]
  have : (pathR t a).find? (fun p => (pathR t b).contains p) = none := List.find?_eq_none.2 fun y hy => by
    obtain ⟨j, hj⟩ := List.mem_iff_getElem?.1 hy
    rw [h j (List.getElem?_eq_some_iff.1 hj).1 y hj]; simp
  rw [this]; rfl
theorem rPath_g {m : Imm} {A : Option Addr} {c : Nat} {t : List Int} (h : Ints m A c t) (a : Int) (ha : I64 a) (hl : t.length ≤ 1000) : Gives Tryz.prog 99 [.slice A t.length c, .int .i64 a] m (fun m' v => ∃ A' c', v = .slice A' (pathR t a).length c' ∧ Ints m' A' c' (pathR t a)) := by
 have hlen := h.len
 refine gives_of Tryz.func99 rfl Tryz.ntmps99 rfl (fun w => ?_)
 refine sq (rg ?_)
 refine as_ ?_
 refine wn (kk3 [0,1,4] (sq (rg ?_)))
 refine as_ ?_
 refine wn (kk4 [0,1,4,5] (sq (bk ?_)))
 refine CW_nilRow 3 1 ?_
 refine C_loop (Option Nat × Nat × List Int × Int) (t.length) (fun k1 x1 => PathSt t a k1 x1.2.2.1 x1.2.2.2 ∧ I64 x1.2.2.2 ∧ (0 < x1.2.2.1.length → ∃ b, x1.1 = some b)) (fun k1 x1 => [(5, slI x1.1 x1.2.1 x1.2.2.1), (1, .int .i64 x1.2.2.2)]) (fun k1 x1 => [rowI 3 x1.1 x1.2.1 x1.2.2.1]) [5, 1] [0] (F := [(0, _)]) ((none, 0, [], a)) ⟨pathSt_init t a, ha, by simp⟩ rfl rfl rfl (fun k1 x1 hk1 hJ1 => ?_)
 obtain ⟨hps, hx64, hgo⟩ := hJ1
 have hpl := hps.len
 refine jj3 [0,1,5] (sq (sq (rg ?_)))
 refine mv (ln Tryz.underlying22 (mv (ln Tryz.underlying22 (bl (mv ?_)))))
 refine sp 11 ?_ ?_ <;> intro h3 <;> try simp only [tt] at h3
 refine tk (mv ?_)
 refine tk (bh (pt (mv ?_)))
 refine sp 15 ?_ ?_ <;> intro h4 <;> try simp only [tt] at h4
 refine tk (mv ?_)
 refine tk (mv ?_)
 refine tk (ln Tryz.underlying22 ?_)
 refine tk (bl (pt ?_))
 refine wn (kk4 [0,1,5,20] ?_)
 refine cd ?_ ?_ <;> intro h5 <;> try simp only [tt] at h5
 refine sk (kk3 [0,1,5] (bk (sq (rg ?_))))
 refine mv (mv ?_)
 refine S_litr (vs := [_]) (cs := [_]) Tryz.underlying22 T.sz3 T.ze3 rfl rfl rfl rfl rfl rfl rfl (fun b6 => ?_)
 refine S_appendI (l := x1.2.2.1) (g1 := x1.1) [_] 1 rfl rfl rfl Tryz.underlying22 T.sz3 T.ze3 T.by3 rfl rfl (.row 0 rfl) (by simp only [List.length_cons, List.length_nil]; omega) rfl (fun g7 c7 hg7 => ?_)
 refine as_ ?_
 refine wn (kk3 [0,1,5] (sq (sq (rg ?_))))
 refine mv (mv ?_)
 obtain ⟨ad8, hA8⟩ := h.ad (j := x1.2.2.2.toNat) (by omega)
 obtain ⟨z8, hz8⟩ := h.getz (j := x1.2.2.2.toNat) (by omega)
 refine ixz hA8 Tryz.underlying22 T.sz3 ?_
 obtain ⟨l9, r9⟩ := Sl.getI h hA8 hz8
 refine liz T.ag3 l9 ?_
 refine be ?_
 refine wn (kk4 [0,1,5,29] ?_)
 refine cd ?_ ?_ <;> intro h10 <;> try simp only [tt] at h10
 refine sq (rg ?_)
 refine mv (as_ ?_)
 refine wn (kk4 [0,1,4,5] ?_)
 have hpn := hps.top (by omega) (by omega) (by omega) (by rw [hz8]; exact congrArg some (by omega))
 have hpl : (pathR t a).length = x1.2.2.1.length + 1 := by rw [hpn]; simp
 refine C_ret (RX_then (RX_block (RX_then (RX_block (RX_then (RX_know (k_rowI 1 rfl) (fun hr => ?_)))))))
 refine RX_freeze 1 rfl (fun _ h => h) (fun mf lef hf => ?_)
 have hfin : Ints mf _ _ _ := Ints_frz hf hr.1 hr.2.1 (by rw [← hpn]; omega) hr.2.2 (i64_snoc (fun z hz => by have := hps.rng z hz; exact ⟨by omega, by omega⟩) ⟨by omega, by omega⟩)
 exact RX_g1 rfl rfl ⟨_, _, by rw [hpn], by rw [hpn]; exact hfin⟩
 refine sk (kk3 [0,1,5] (rg ?_))
 refine mv (mv ?_)
 obtain ⟨ad11, hA11⟩ := h.ad (j := x1.2.2.2.toNat) (by omega)
 refine ixz hA11 Tryz.underlying22 T.sz3 ?_
 obtain ⟨l12, r12⟩ := Sl.getI h hA11 hz8
 refine liz T.ag3 l12 ?_
 refine as_ ?_
 refine wn (nb (?_))
 refine NX_rnd [5, 1, 0] (by omega) ((_, _, _, _)) ?_ rfl (sub_drop 1 rfl) rfl (Imm.le_refl _)
 exact ⟨hps.step (by omega) (by omega) (by omega) hz8 (by omega), Ints_all h _ (List.mem_of_getElem? hz8), hg7⟩
 refine C_exit (EX_then (EX_then (EX_hit (?_))))
 refine kk0 [] (sq (rg ?_))
 refine as_ ?_
 refine wn (kk1 [4] ?_)
 have hpn := hps.out (by omega)
 exact C_ret (RX_g1 rfl rfl ⟨none, 0, by rw [hpn]; rfl, by rw [hpn]; exact Sl.nil _ _ _⟩)
 refine ps (ps (ps (ps ?_)))
 refine pf ?_
 refine wn (kk4 [0,1,5,20] ?_)
 refine cfz ?_
 refine C_exit (EX_then (EX_then (EX_hit (?_))))
 refine kk0 [] (sq (rg ?_))
 refine as_ ?_
 refine wn (kk1 [4] ?_)
 have hpn := hps.out (by omega)
 exact C_ret (RX_g1 rfl rfl ⟨none, 0, by rw [hpn]; rfl, by rw [hpn]; exact Sl.nil _ _ _⟩)
 refine ps (ps ?_)
 refine pf (mv ?_)
 refine ps (ps (ps (ps ?_)))
 refine pf ?_
 refine wn (kk4 [0,1,5,20] ?_)
 refine cfz ?_
 refine C_exit (EX_then (EX_then (EX_hit (?_))))
 refine kk0 [] (sq (rg ?_))
 refine as_ ?_
 refine wn (kk1 [4] ?_)
 have hpn := hps.out (by omega)
 exact C_ret (RX_g1 rfl rfl ⟨none, 0, by rw [hpn]; rfl, by rw [hpn]; exact Sl.nil _ _ _⟩)
theorem rRight_q {m : Imm} {A : Option Addr} {c : Nat} {t : List Int} (h : Ints m A c t) (hl : t.length ≤ 1000) : Quiet Tryz.prog 98 [.slice A t.length c] m (.bool (rightR t)) := by
 have hlen := h.len
 refine quiet_of Tryz.func98 rfl Tryz.ntmps98 rfl (fun w => ?_)
 refine sq (rg ?_)
 refine as_ ?_
 refine wn (kk2 [0,2] (sq (rg ?_)))
 refine as_ ?_
 refine wn (kk3 [0,2,3] (sq (sq (rg ?_))))
 refine as_ ?_
 refine wn (kk4 [0,2,3,4] (bk ?_))
 refine C_loopM (Unit) (t.length) (fun k1 mk1 x1 => m.le mk1 ∧ (∀ j, j < k1 → okPt t j = true)) (fun k1 x1 => [(3, .int .i64 (topsK t k1)), (4, .int .i64 (k1 : Int))]) (fun _ _ => []) [3, 4] [0] (F := [(0, _)]) (()) ⟨Imm.le_refl _, (by simp)⟩ rfl rfl rfl (fun k1 mk1 x1 hk1 hJ1 => ?_)
 obtain ⟨hle1, hJ1⟩ := hJ1
 replace h := h.mono rI_mono hle1
 refine jj3 [0,3,4] (sq (sq (rg ?_)))
 refine mv (mv (ln Tryz.underlying22 (bl ?_)))
 refine wn (kk4 [0,3,4,8] ?_)
 refine cd ?_ ?_ <;> intro h2 <;> try simp only [tt] at h2
 refine sk (kk3 [0,3,4] (sq (bk (sq (sq (rg ?_))))))
 refine mv (mv ?_)
 obtain ⟨ad3, hA3⟩ := h.ad (j := k1) (by omega)
 obtain ⟨z3, hz3⟩ := h.getz (j := k1) (by omega)
 refine ixz hA3 Tryz.underlying22 T.sz3 ?_
 obtain ⟨l4, r4⟩ := Sl.getI h hA3 hz3
 refine liz T.ag3 l4 ?_
 refine be ?_
 refine wn (kk4 [0,3,4,15] ?_)
 refine cd ?_ ?_ <;> intro h5 <;> try simp only [tt] at h5
 refine rg ?_
 refine mv ?_
 refine W_q (r_add rfl rfl (by have := topsK_le t k1; constructor <;> omega)) rfl ?_
 refine as_ ?_
 refine wn (kk3 [0,3,4] (sq (rg ?_)))
 refine mv (mv ?_)
 obtain ⟨ad6, hA6⟩ := h.ad (j := k1) (by omega)
 refine ixz hA6 Tryz.underlying22 T.sz3 ?_
 obtain ⟨l7, r7⟩ := Sl.getI h hA6 hz3
 refine liz T.ag3 l7 ?_
 refine bn (mv ?_)
 refine sp 23 ?_ ?_ <;> intro h8 <;> try simp only [tt] at h8
 refine tk (mv ?_)
 refine tk (mv ?_)
 refine tk ?_
 refine S_gives (rPath_g h _ ⟨by omega, by omega⟩ (by omega)) T.hb99 rfl rfl (fun m9 v9 le9 hv9 => ?_)
 replace h := h.mono rI_mono le9
 obtain ⟨A9, c9, rfl, hp9⟩ := hv9
 refine tk (ln Tryz.underlying22 ?_)
 refine tk (be (pt ?_))
 refine wn (kk4 [0,3,4,29] ?_)
 refine cd ?_ ?_ <;> intro h10 <;> try simp only [tt] at h10
 refine sq (rg ?_)
 refine as_ ?_
 refine wn (kk4 [0,2,3,4] ?_)
 refine C_ret (RX_block (RX_then (RX_then (RX_block (RX_then (RX_q1 rfl rfl ?_))))))
 rw [rightR, range_all_false (show k1 < t.length by omega) (by have e1 := getD_of (d := 0) hz3; simp_all [okPt])]; rfl
 refine sk (nb (kk3 [0,3,4] (rg ?_)))
 refine mv ?_
 refine ad ?_
 refine as_ ?_
 refine wn ?_
 have e0 := topsK_succ hz3
 first | rw [if_pos (by assumption)] at e0 | rw [if_neg (by assumption)] at e0
 rw [← e0]
 refine NX_rndM [3, 4, 0] (by omega) (()) ⟨Imm.le_trans (hle1) le9, ?_⟩ rfl (List.Sublist.refl _) rfl
 refine lt_succ_all hJ1 ?_
 have e1 := getD_of (d := 0) hz3
 simp_all [okPt]
 refine ps (ps (ps (ps (ps ?_))))
 refine pf ?_
 refine wn (kk4 [0,3,4,29] ?_)
 refine cfz (sk (nb (kk3 [0,3,4] (rg ?_))))
 refine mv ?_
 refine ad ?_
 refine as_ ?_
 refine wn ?_
 have e0 := topsK_succ hz3
 first | rw [if_pos (by assumption)] at e0 | rw [if_neg (by assumption)] at e0
 rw [← e0]
 refine NX_rndM [3, 4, 0] (by omega) (()) ⟨hle1, ?_⟩ rfl (List.Sublist.refl _) rfl
 refine lt_succ_all hJ1 ?_
 have e1 := getD_of (d := 0) hz3
 simp_all [okPt]
 refine sk (kk3 [0,3,4] (sq (rg ?_)))
 refine mv (mv ?_)
 obtain ⟨ad11, hA11⟩ := h.ad (j := k1) (by omega)
 refine ixz hA11 Tryz.underlying22 T.sz3 ?_
 obtain ⟨l12, r12⟩ := Sl.getI h hA11 hz3
 refine liz T.ag3 l12 ?_
 refine bn (mv ?_)
 refine sp 23 ?_ ?_ <;> intro h13 <;> try simp only [tt] at h13
 refine tk (mv ?_)
 refine tk (mv ?_)
 refine tk ?_
 refine S_gives (rPath_g h _ ⟨by omega, by omega⟩ (by omega)) T.hb99 rfl rfl (fun m14 v14 le14 hv14 => ?_)
 replace h := h.mono rI_mono le14
 obtain ⟨A14, c14, rfl, hp14⟩ := hv14
 refine tk (ln Tryz.underlying22 ?_)
 refine tk (be (pt ?_))
 refine wn (kk4 [0,3,4,29] ?_)
 refine cd ?_ ?_ <;> intro h15 <;> try simp only [tt] at h15
 refine sq (rg ?_)
 refine as_ ?_
 refine wn (kk4 [0,2,3,4] ?_)
 refine C_ret (RX_block (RX_then (RX_then (RX_block (RX_then (RX_q1 rfl rfl ?_))))))
 rw [rightR, range_all_false (show k1 < t.length by omega) (by have e1 := getD_of (d := 0) hz3; simp_all [okPt])]; rfl
 refine sk (nb (kk3 [0,3,4] (rg ?_)))
 refine mv ?_
 refine ad ?_
 refine as_ ?_
 refine wn ?_
 have e0 := topsK_succ hz3
 first | rw [if_pos (by assumption)] at e0 | rw [if_neg (by assumption)] at e0
 rw [← e0]
 refine NX_rndM [3, 4, 0] (by omega) (()) ⟨Imm.le_trans (hle1) le14, ?_⟩ rfl (List.Sublist.refl _) rfl
 refine lt_succ_all hJ1 ?_
 have e1 := getD_of (d := 0) hz3
 simp_all [okPt]
 refine ps (ps (ps (ps (ps ?_))))
 refine pf ?_
 refine wn (kk4 [0,3,4,29] ?_)
 refine cfz (sk (nb (kk3 [0,3,4] (rg ?_))))
 refine mv ?_
 refine ad ?_
 refine as_ ?_
 refine wn ?_
 have e0 := topsK_succ hz3
 first | rw [if_pos (by assumption)] at e0 | rw [if_neg (by assumption)] at e0
 rw [← e0]
 refine NX_rndM [3, 4, 0] (by omega) (()) ⟨hle1, ?_⟩ rfl (List.Sublist.refl _) rfl
 refine lt_succ_all hJ1 ?_
 have e1 := getD_of (d := 0) hz3
 simp_all [okPt]
 refine C_exit (EX_then (EX_then (EX_hit (?_))))
 refine kk1 [3] (sq (rg ?_))
 refine mv (be (as_ ?_))
 refine wn (kk1 [2] ?_)
 refine C_ret (RX_q1 rfl rfl ?_)
 have hkk : k1 = t.length := by omega
 subst hkk
 rw [rightR, range_all_true hJ1]; simp
theorem rMeet_q {m : Imm} {A : Option Addr} {c : Nat} {t : List Int} (h : Ints m A c t) (a b : Int) (ha : I64 a) (hb : I64 b) (hl : t.length ≤ 1000) : Quiet Tryz.prog 64 [.slice A t.length c, .int .i64 a, .int .i64 b] m (.int .i64 (meetR t a b)) := by
 have hlen := h.len
 unfold I64 at ha hb
 refine quiet_of Tryz.func64 rfl Tryz.ntmps64 rfl (fun w => ?_)
 refine sq (rg ?_)
 refine as_ ?_
 refine wn (kk4 [0,1,2,6] (sq (sq (rg ?_))))
 refine mv ?_
 refine W_quiet (rRight_q h (by omega)) T.hb98 rfl rfl ?_
 refine nt ?_
 refine wn (kk5 [0,1,2,6,12] ?_)
 refine cd ?_ ?_ <;> intro h1 <;> try simp only [tt] at h1
 refine sq (rg ?_)
 refine as_ ?_
 refine wn (kk4 [0,1,2,6] ?_)
 refine C_ret (RX_then (RX_q1 rfl rfl ?_))
 refine congrArg (Value.int .i64) ?_
 exact (meetR_f (by assumption)).symm
 refine sk (kk4 [0,1,2,6] (sq (rg ?_)))
 refine mv (mv ?_)
 refine S_gives (rPath_g h _ ⟨by omega, by omega⟩ (by omega)) T.hb99 rfl rfl (fun m2 v2 le2 hv2 => ?_)
 replace h := h.mono rI_mono le2
 obtain ⟨A2, c2, rfl, hp2⟩ := hv2
 refine as_ ?_
 refine wn (kk4 [0,2,6,7] (sq (rg ?_)))
 refine mv (mv ?_)
 refine S_gives (rPath_g h _ ⟨by omega, by omega⟩ (by omega)) T.hb99 rfl rfl (fun m3 v3 le3 hv3 => ?_)
 replace h := h.mono rI_mono le3
 replace hp2 := hp2.mono rI_mono le3
 obtain ⟨A3, c3, rfl, hp3⟩ := hv3
 refine as_ ?_
 refine wn (kk3 [6,7,8] (sq (sq (rg ?_))))
 refine as_ ?_
 refine wn (kk4 [6,7,8,9] (bk ?_))
 refine C_loop (Unit) ((pathR t a).length) (fun k4 x4 => ∀ j, j < k4 → ∀ y, (pathR t a)[j]? = some y → (pathR t b).contains y = false) (fun k4 x4 => [(9, .int .i64 (k4 : Int))]) (fun _ _ => []) [9] [7, 8] (F := [(7, _), (8, _)]) (()) (by simp) rfl rfl rfl (fun k4 x4 hk4 hJ4 => ?_)
 refine jj3 [7,8,9] (sq (sq (rg ?_)))
 refine mv (mv ?_)
 have hpl := Sl.len (r := rI) (sz := 1) (xs := pathR t a) (by assumption)
 refine ln Tryz.underlying22 (bl ?_)
 refine wn (kk4 [7,8,9,22] ?_)
 refine cd ?_ ?_ <;> intro h5 <;> try simp only [tt] at h5
 refine sk (kk3 [7,8,9] (sq (bk (sq (rg ?_)))))
 refine mv (mv (mv ?_))
 obtain ⟨ad6, hA6⟩ := hp2.ad (j := k4) (by omega)
 obtain ⟨z6, hz6⟩ := hp2.getz (j := k4) (by omega)
 refine ixz hA6 Tryz.underlying22 T.sz3 ?_
 obtain ⟨l7, r7⟩ := Sl.getI hp2 hA6 hz6
 refine liz T.ag3 l7 ?_
 refine W_quiet (rHas_q hp3 _) T.hb51 rfl rfl ?_
 refine wn (kk4 [7,8,9,30] ?_)
 refine cd ?_ ?_ <;> intro h8 <;> try simp only [tt] at h8
 refine sq (rg ?_)
 refine mv (mv ?_)
 obtain ⟨ad9, hA9⟩ := hp2.ad (j := k4) (by omega)
 refine ixz hA9 Tryz.underlying22 T.sz3 ?_
 obtain ⟨l10, r10⟩ := Sl.getI hp2 hA9 hz6
 refine liz T.ag3 l10 ?_
 refine as_ ?_
 refine wn (kk4 [6,7,8,9] ?_)
 refine C_ret (RX_block (RX_then (RX_then (RX_block (RX_then (RX_q1 rfl rfl ?_))))))
 refine congrArg (Value.int .i64) ?_
 exact (meetR_t (by assumption) hJ4 hz6 (by assumption)).symm
 refine sk (nb (kk3 [7,8,9] (rg ?_)))
 refine mv ?_
 refine ad ?_
 refine as_ ?_
 refine wn ?_
 refine NX_rnd [9, 7, 8] (by omega) (()) ?_ rfl (List.Sublist.refl _) rfl (Imm.le_refl _)
 exact lt_succ_all hJ4 (fun y hy => by rw [hz6] at hy; cases hy; assumption)
 refine C_exit (EX_then (EX_then (EX_hit (?_))))
 refine kk0 [] (sq (rg ?_))
 refine as_ ?_
 refine wn (kk1 [6] ?_)
 refine C_ret (RX_q1 rfl rfl ?_)
 refine congrArg (Value.int .i64) ?_
 have hkk : k4 = (pathR t a).length := by omega
 have hJe := hJ4
 rw [hkk] at hJe
 exact (meetR_n (by assumption) hJe).symm
namespace T
theorem ag54 : agg? Tryz.prog 54 = some false := by kernel_rfl
theorem by54 : byt? Tryz.prog 54 = some 24 := by kernel_rfl
theorem hb91 : hasBody Tryz.prog 91 = true := by kernel_rfl
theorem hb97 : hasBody Tryz.prog 97 = true := by kernel_rfl
theorem sz54 : sz? Tryz.prog 54 = some 1 := by kernel_rfl
theorem ze54 : zero? Tryz.prog 54 = some (.slice none 0 0) := by kernel_rfl
end T
theorem not_ov2 {g : FGraph} {root : Int} (hg : GOk g) (hr0 : 0 ≤ root) (hrl : root < g.succ.length) {a b : Nat} {z : List Bool} {q : Bool} (h : (ovP g root)[a]? = some z) (h' : z[b]? = some q) (hq : q = false) : ¬ Ov g root a b := fun hc => by
  have := (ov_at hg hr0 hrl h h').2 hc
  rw [hq] at this; cases this
theorem not_ov {g : FGraph} {root : Int} (hg : GOk g) (hr0 : 0 ≤ root) (hrl : root < g.succ.length) {a b : Nat} {z : List Bool} {q : Bool} (h : (ovP g root)[a]? = some z) (h' : z[b]? = some q) (hq : q = false) : ¬ Cand g root a b := fun hc => not_ov2 hg hr0 hrl h h' hq (cand_ov hc)
theorem near_no {N : Nat → Prop} {x : Bool} {k : Nat} (h : x = true ↔ ∀ c, c < k → N c) (hx : x = false) (ha : ∀ c : Nat, N c) : False := by
  rw [hx] at h; exact absurd (h.2 fun c _ => ha c) (by simp)
theorem near_q {g : FGraph} {root : Int} {a b c : Nat} {q : Bool} (h1 : ¬ (c : Int) = (b : Int)) (h2 : Ov g root c b) (h3 : q = true ↔ Ov g root c a) : q = true ↔ Near g root (a : Int) (b : Int) (c : Int) := by
  rw [h3, Near]
  constructor
  · exact fun h => .inr (.inr h)
  · rintro (h | h | h)
    · exact absurd h h1
    · exact absurd h2 h
    · exact h
theorem rTree_g {m : Imm} {es : List Value} {g : FGraph} (hG : rGraph m es g) (hm : mayG g = true) {root : Int} (hr0 : 0 ≤ root) (hrl : root < g.succ.length) : Gives Tryz.prog 63 [.agg es.toArray, .int .i64 root] m (fun m' v => ∃ A c, v = .slice A (treeP g root).length c ∧ Ints m' A c (treeP g root)) := by
 have hG_0 := hG
 obtain ⟨A94, c94, B94, d94, rfl, hs94, hp94⟩ := hG_0
 have hgo := mayG_ok hm
 have hgl := hgo.len
 refine gives_of Tryz.func63 rfl Tryz.ntmps63 rfl (fun w => ?_)
 refine sq (rg ?_)
 refine S_box (l := [_, _]) rfl rfl rfl (fun b1 => ?_)
 refine as_ ?_
 refine wn (kk3 [1,2,4] (sq (sq (rg ?_))))
 refine W_q (r_loadbk 0 (vs := [_, _]) rfl T.ag79 T.sz79 rfl rfl rfl) rfl ?_
 refine W_quiet (known_q (rMayG_q hG) hm) T.hb97 rfl rfl ?_
 refine nt (mv ?_)
 refine tk (mv ?_)
 refine tk (bl (pf (mv ?_)))
 refine sp 23 ?_ ?_ <;> intro h2 <;> try simp only [tt] at h2
 refine ps (ps (ps (ps (ps ?_))))
 refine pt ?_
 refine wn (kk4 [1,2,4,29] ?_)
 refine ctz (sq (rg ?_))
 refine as_ ?_
 refine wn (kk3 [1,2,4] ?_)
 exfalso; omega
 refine tk (mv ?_)
 refine tk (fb 0 T.fo79_0 ?_)
 refine tk (lb 0 T.ag65 ?_)
 refine tk (ln Tryz.underlying65 ?_)
 refine tk (bh (pf ?_))
 refine wn (kk4 [1,2,4,29] ?_)
 refine cd ?_ ?_ <;> intro h3 <;> try simp only [tt] at h3
 refine sq (rg ?_)
 refine as_ ?_
 refine wn (kk3 [1,2,4] ?_)
 exfalso; omega
 refine sk (kk3 [1,2,4] (sq (rg ?_)))
 refine fb 0 T.fo79_0 (lb 0 T.ag65 (ln Tryz.underlying65 (as_ ?_)))
 refine wn (kk4 [1,2,4,5] (sq (rg ?_)))
 refine W_q (r_loadbk 0 (vs := [_, _]) rfl T.ag79 T.sz79 rfl rfl rfl) rfl ?_
 refine mv ?_
 refine S_gives (rReach_g hG (by assumption) _ (by omega) (by omega)) T.hb91 rfl rfl (fun m4 v4 le4 hv4 => ?_)
 replace hG := rGraph_mono _ _ _ _ le4 hG
 replace hs94 := hs94.mono (rS_mono rI_mono) le4
 replace hp94 := hp94.mono (rS_mono rI_mono) le4
 obtain ⟨Ar4, cr4, rfl, hr4⟩ := hv4
 refine as_ ?_
 refine wn (kk5 [1,2,4,5,6] (sq (rg ?_)))
 refine mv ?_
 refine S_make1 g.succ.length Tryz.underlying117 T.sz54 T.ze54 T.by54 rfl rfl rfl rfl rfl (by omega) (by unfold maxLen; omega) rfl (fun b5 => ?_)
 refine as_ ?_
 refine wn (kk6 [1,2,4,5,6,7] (sq (sq (rg ?_))))
 refine as_ ?_
 refine wn (kk7 [1,2,4,5,6,7,8] (bk ?_))
 refine CW_front 0 rfl rfl ?_
 refine C_loopM (List Value) (g.succ.length) (fun k6 mk6 x6 => m4.le mk6 ∧ (OvSt g root mk6 x6 k6)) (fun k6 x6 => [(8, .int .i64 (k6 : Int))]) (fun k6 x6 => [row (some b5) g.succ.length g.succ.length 54 1 x6]) [8] [1, 2, 4, 5, 6, 7] (F := [(1, _), (2, _), (4, _), (5, _), (6, _), (7, _)]) (_) ⟨Imm.le_refl _, ovSt_init _⟩ rfl rfl rfl (fun k6 mk6 x6 hk6 hJ6 => ?_)
 obtain ⟨hle6, hJ6⟩ := hJ6
 replace hG := rGraph_mono _ _ _ _ hle6 hG
 replace hs94 := hs94.mono (rS_mono rI_mono) hle6
 replace hp94 := hp94.mono (rS_mono rI_mono) hle6
 replace hr4 := hr4.mono rB_mono hle6
 have hJv := hJ6
 refine jj7 [1,2,4,5,6,7,8] (sq (sq (rg ?_)))
 refine mv (mv (bl ?_))
 refine wn (kk8 [1,2,4,5,6,7,8,40] ?_)
 refine cd ?_ ?_ <;> intro h7 <;> try simp only [tt] at h7
 refine sk (kk7 [1,2,4,5,6,7,8] (sq (bk (sq (rg ?_)))))
 refine mv (mv (mv ?_))
 refine S_make1 g.succ.length Tryz.underlying54 T.sz4 T.ze4 T.by4 rfl rfl rfl rfl rfl (by omega) (by unfold maxLen; omega) rfl (fun b8 => ?_)
 refine W_q (r_indexr (o := k6) Tryz.underlying117 T.sz54 rfl rfl ⟨by omega, by omega⟩ (by omega)) rfl ?_
 refine S_storer1 1 rfl rfl rfl rfl T.sz54 rfl (by have := hJv.1; omega) ?_
 refine wn (kk7 [1,2,4,5,6,7,8] (sq (rg ?_)))
 refine W_q (r_loadbk 2 (vs := [_, _]) rfl T.ag79 T.sz79 rfl rfl rfl) rfl ?_
 refine mv (mv ?_)
 refine S_gives (rReach_g hG (by assumption) _ (by omega) (by omega)) T.hb91 rfl rfl (fun m10 v10 le10 hv10 => ?_)
 replace hG := rGraph_mono _ _ _ _ le10 hG
 replace hs94 := hs94.mono (rS_mono rI_mono) le10
 replace hp94 := hp94.mono (rS_mono rI_mono) le10
 replace hr4 := hr4.mono rB_mono le10
 obtain ⟨Ar10, cr10, rfl, hr10⟩ := hv10
 refine as_ ?_
 refine wn (kk8 [1,2,4,5,6,7,8,9] (sq (rg ?_)))
 refine as_ ?_
 refine wn (kk9 [1,2,4,5,6,7,8,9,10] (bk ?_))
 refine CW_front 0 rfl rfl ?_
 refine C_loop (List Value) (g.succ.length) (fun k11 x11 => RowSt (overB g root (k6 : Int)) x11 k11) (fun k11 x11 => [(10, .int .i64 (k11 : Int))]) (fun k11 x11 => [row (some b8) g.succ.length g.succ.length 4 1 x11]) [10] [1, 2, 4, 5, 6, 7, 8, 9] (F := [(1, _), (2, _), (4, _), (5, _), (6, _), (7, _), (8, _), (9, _)]) (_) (rowSt_init _ overB_len.symm) rfl rfl rfl (fun k11 x11 hk11 hJ11 => ?_)
 refine jj9 [1,2,4,5,6,7,8,9,10] (sq (sq (rg ?_)))
 refine mv (mv (bl ?_))
 refine wn (kk10 [1,2,4,5,6,7,8,9,10,54] ?_)
 refine cd ?_ ?_ <;> intro h12 <;> try simp only [tt] at h12
 refine sk (kk9 [1,2,4,5,6,7,8,9,10] (sq (bk ?_)))
 refine C_drawnk 1 [(0, true), (1, true), (2, true), (3, true), (4, true), (5, true), (6, true), (7, true), (8, true), (9, true), (10, true), (11, true), (12, true), (13, true), (14, true), (15, true), (16, true), (17, false)] (by kernel_rfl) rfl (by kernel_rfl) (by kernel_rfl) ?_
 refine dmv ?_
 refine dmv ?_
 refine D_q rfl (r_indexr (o := k6) Tryz.underlying117 T.sz54 rfl rfl ⟨by omega, by omega⟩ (by omega)) rfl ?_
 refine D_q rfl (r_loadr 0 rfl T.ag54 rfl (by rw [List.getElem?_set_self (by have := hJv.1; omega)])) rfl ?_
 refine dmv ?_
 refine dmv ?_
 refine dmv ?_
 obtain ⟨ad14, hA14⟩ := hr4.ad (j := k11) (by rw [reachP_len]; omega)
 obtain ⟨z14, hz14⟩ := hr4.getz (j := k11) (by rw [reachP_len]; omega)
 refine D_q rfl (r_index hA14 Tryz.underlying54 T.sz4 rfl rfl ⟨by omega, by rw [reachP_len]; omega⟩) rfl ?_
 refine D_q rfl (r_load_imm rfl T.ag4 (Sl.getB hr4 hA14 hz14)) rfl ?_
 refine dmv ?_
 refine D_split (t := 66) rfl (fun h16 => ?_) (fun h16 => ?_)
 (try simp only [tt] at h16)
 refine D_qt rfl rfl rfl (r_move rfl) rfl ?_
 refine D_qt rfl rfl rfl (r_move rfl) rfl ?_
 obtain ⟨ad17, hA17⟩ := hr10.ad (j := k11) (by rw [reachP_len]; omega)
 obtain ⟨z17, hz17⟩ := hr10.getz (j := k11) (by rw [reachP_len]; omega)
 refine D_qt rfl rfl rfl (r_index hA17 Tryz.underlying54 T.sz4 rfl rfl ⟨by omega, by rw [reachP_len]; omega⟩) rfl ?_
 refine D_qt rfl rfl rfl (r_load_imm rfl T.ag4 (Sl.getB hr10 hA17 hz17)) rfl ?_
 refine D_qt rfl rfl rfl (r_not rfl) rfl ?_
 refine D_q rfl (r_pick_t rfl rfl) rfl ?_
 refine D_q rfl (r_indexr (o := k11) Tryz.underlying54 T.sz4 rfl rfl ⟨by omega, by omega⟩ (by omega)) rfl ?_
 refine D_f rfl (fun hs20 hc20 => ?_)
 refine S_storer1 0 rfl rfl rfl rfl T.sz4 rfl (by have := hJ11.len; rw [overB_len] at this; omega) ?_
 refine W_leftw hs20 hc20 (Imm.le_refl _) (sub_drop 1 rfl) ?_
 refine D_end ?_
 refine nb (kk9 [1,2,4,5,6,7,8,9,10] (rg ?_))
 refine mv ?_
 refine ad ?_
 refine as_ ?_
 refine wn ?_
 refine NX_rnd [10, 1, 2, 4, 5, 6, 7, 8, 9] (by omega) (_) ?_ rfl (List.Sublist.refl _) rfl (Imm.le_refl _)
 exact hJ11.put (ovB_t (by rw [hz14]; exact congrArg some (by assumption)) hz17)
 (try simp only [tt] at h16)
 refine dps ?_
 refine dps ?_
 refine dps ?_
 refine dps ?_
 refine dps ?_
 refine D_q rfl (r_pick_f rfl rfl) rfl ?_
 refine D_q rfl (r_indexr (o := k11) Tryz.underlying54 T.sz4 rfl rfl ⟨by omega, by omega⟩ (by omega)) rfl ?_
 refine D_f rfl (fun hs22 hc22 => ?_)
 refine S_storer1 0 rfl rfl rfl rfl T.sz4 rfl (by have := hJ11.len; rw [overB_len] at this; omega) ?_
 refine W_leftw hs22 hc22 (Imm.le_refl _) (sub_drop 1 rfl) ?_
 refine D_end ?_
 refine nb (kk9 [1,2,4,5,6,7,8,9,10] (rg ?_))
 refine mv ?_
 refine ad ?_
 refine as_ ?_
 refine wn ?_
 refine NX_rnd [10, 1, 2, 4, 5, 6, 7, 8, 9] (by omega) (_) ?_ rfl (List.Sublist.refl _) rfl (Imm.le_refl _)
 exact hJ11.put (ovB_f (by rw [hz14]; exact congrArg some (by assumption)))
 refine C_exit (EX_then (EX_then (EX_hit (?_))))
 refine nb (kk7 [1,2,4,5,6,7,8] (rg ?_))
 have hkb : k11 = g.succ.length := by omega
 have hJr := hJ11
 rw [hkb, ← overB_len (g := g) (root := root) (a := (k6 : Int))] at hJr
 have hxb := hJr.done
 skip
 refine WL_know (k_rowG 0 rfl) (fun hr23 => ?_)
 refine WL_freeze 0 rfl (fun _ h => h) (fun mf23 le23 hf23 => ?_)
 replace hG := rGraph_mono _ _ _ _ le23 hG
 replace hs94 := hs94.mono (rS_mono rI_mono) le23
 replace hp94 := hp94.mono (rS_mono rI_mono) le23
 replace hr4 := hr4.mono rB_mono le23
 replace hr10 := hr10.mono rB_mono le23
 rw [hxb] at hf23
 have hov : Sl rB 1 mf23 (some ⟨b8, 0, none⟩) _ (overB g root (k6 : Int)) := Bools_frz hf23 (by rw [overB_len]; exact hr23.2.1) hr23.2.2.1 (by rw [overB_len]; omega) (fun _ => ⟨_, rfl⟩)
 refine mv ?_
 refine ad ?_
 refine as_ ?_
 refine wn ?_
 refine NX_rndM [8, 1, 2, 4, 5, 6, 7] (by omega) (_) ⟨Imm.le_trans (Imm.le_trans (hle6) le10) le23, ?_⟩ rfl (List.Sublist.refl _) rfl
 exact (hJv.mono (Imm.le_trans (le10) le23)).put (by omega) hov
 refine C_exit (EX_then (EX_then (EX_hit (?_))))
 refine kk4 [1,4,5,7] (sq (rg ?_))
 have hkn : k6 = g.succ.length := by omega
 have hJo := hJv
 rw [hkn] at hJo
 refine WL_know (k_rowG 0 rfl) (fun hr24 => ?_)
 refine WL_freeze 0 rfl (fun _ h => h) (fun mf24 le24 hf24 => ?_)
 replace hG := rGraph_mono _ _ _ _ le24 hG
 replace hs94 := hs94.mono (rS_mono rI_mono) le24
 replace hp94 := hp94.mono (rS_mono rI_mono) le24
 replace hr4 := hr4.mono rB_mono le24
 have htab := (hJo.mono le24).sl hf24 hr24.2.1 hr24.2.2.1 (by omega)
 have htl := ovP_len (g := g) (root := root)
 refine mv ?_
 refine S_makeI g.succ.length Tryz.underlying22 T.sz3 T.ze3 T.by3 rfl rfl rfl rfl (by omega) (by unfold maxLen; omega) rfl (fun b25 => ?_)
 refine as_ ?_
 refine wn (kk5 [1,4,5,7,11] (sq (sq (rg ?_))))
 refine as_ ?_
 refine wn (kk6 [1,4,5,7,11,12] (bk ?_))
 refine CW_front 0 rfl rfl ?_
 refine C_loop (List Int) (g.succ.length) (fun k26 x26 => OutSt g root x26 k26) (fun k26 x26 => [(12, .int .i64 (k26 : Int))]) (fun k26 x26 => [rowI 3 (some b25) g.succ.length x26]) [12] [1, 4, 5, 7, 11] (F := [(1, _), (4, _), (5, _), (7, _), (11, _)]) (_) (outSt_init hgl) rfl rfl rfl (fun k26 x26 hk26 hJ26 => ?_)
 have hout := hJ26
 refine jj6 [1,4,5,7,11,12] (sq (sq (rg ?_)))
 refine mv (mv (bl ?_))
 refine wn (kk7 [1,4,5,7,11,12,78] ?_)
 refine cd ?_ ?_ <;> intro h27 <;> try simp only [tt] at h27
 refine sk (kk6 [1,4,5,7,11,12] (sq (bk (sq (rg ?_)))))
 refine mv (mv ?_)
 refine W_q (r_indexr (o := k26) Tryz.underlying22 T.sz3 rfl rfl ⟨by omega, by simp only [List.length_replicate]; omega⟩ (by omega)) rfl ?_
 refine S_storerI 0 rfl rfl T.sz3 rfl (by have := hout.len; omega) ?_
 refine wn (kk6 [1,4,5,7,11,12] (sq (sq (rg ?_))))
 refine mv (mv (be ?_))
 refine wn (kk7 [1,4,5,7,11,12,86] ?_)
 refine cd ?_ ?_ <;> intro h29 <;> try simp only [tt] at h29
 refine rg ?_
 refine mv (mv ?_)
 refine W_q (r_indexr (o := k26) Tryz.underlying22 T.sz3 rfl rfl ⟨by omega, by simp only [List.length_replicate]; omega⟩ (by omega)) rfl ?_
 refine S_storerI 0 rfl rfl T.sz3 rfl (by have := hout.len; simp only [List.length_set]; omega) ?_
 refine wn (kk6 [1,4,5,7,11,12] (sq (rg ?_)))
 refine as_ ?_
 refine wn (kk7 [1,4,5,7,11,12,13] (bk ?_))
 refine CW_front 0 rfl rfl ?_
 refine C_loop (List Int) (g.succ.length) (fun k31 x31 => SearchSt g root x31 k26 k31) (fun k31 x31 => [(13, .int .i64 (k31 : Int))]) (fun k31 x31 => [rowI 3 (some b25) g.succ.length x31]) [13] [1, 4, 5, 7, 11, 12] (F := [(1, _), (4, _), (5, _), (7, _), (11, _), (12, _)]) (_) (searchSt_root hJ26 (by omega) (by omega)) rfl rfl rfl (fun k31 x31 hk31 hJ31 => ?_)
 have hse := hJ31
 have hsl := hJ31.out.len
 refine jj7 [1,4,5,7,11,12,13] (sq (sq (rg ?_)))
 refine mv (mv (bl (mv ?_)))
 refine sp 93 ?_ ?_ <;> intro h32 <;> try simp only [tt] at h32
 refine tk (mv ?_)
 refine tk (mv ?_)
 refine tk (bn (pt ?_))
 refine wn (kk8 [1,4,5,7,11,12,13,97] ?_)
 refine cd ?_ ?_ <;> intro h33 <;> try simp only [tt] at h33
 refine sk (kk7 [1,4,5,7,11,12,13] (sq (bk (sq (sq (rg ?_))))))
 refine mv (mv (be (mv ?_)))
 refine sp 103 ?_ ?_ <;> intro h34 <;> try simp only [tt] at h34
 refine ps (ps (ps (ps (ps (ps (ps (ps ?_)))))))
 refine pt ?_
 refine wn (kk8 [1,4,5,7,11,12,13,112] ?_)
 refine ctz ?_
 refine C_exit (EX_then (EX_hit (?_)))
 refine kk7 [1,4,5,7,11,12,13] (rg ?_)
 refine mv ?_
 refine ad ?_
 refine as_ ?_
 refine wn ?_
 refine NX_rnd [13, 1, 4, 5, 7, 11, 12] (by omega) (_) ?_ rfl (List.Sublist.refl _) rfl (Imm.le_refl _)
 exact hse.skip (fun hc => cand_ne hc (by omega))
 refine tk (mv ?_)
 refine tk (mv ?_)
 refine tk ?_
 obtain ⟨ad35, hA35⟩ := htab.ad (j := k31) (by rw [ovP_len]; omega)
 obtain ⟨z35, hz35⟩ := htab.getz (j := k31) (by rw [ovP_len]; omega)
 refine ixz hA35 Tryz.underlying117 T.sz54 ?_
 refine tk ?_
 obtain ⟨A36, c36, l36, h36⟩ := Sl.getS htab hA35 hz35
 refine liz T.ag54 l36 ?_
 refine tk (mv ?_)
 refine tk ?_
 obtain ⟨ad37, hA37⟩ := h36.ad (j := k26) (by rw [ovP_row hz35]; omega)
 obtain ⟨z37, hz37⟩ := h36.getz (j := k26) (by rw [ovP_row hz35]; omega)
 refine W_q (r_index hA37 Tryz.underlying54 T.sz4 rfl rfl ⟨by omega, by rw [ovP_row hz35]; omega⟩) rfl ?_
 refine tk ?_
 refine liz T.ag4 (Sl.getB h36 hA37 hz37) ?_
 refine tk (nt (pf ?_))
 refine wn (kk8 [1,4,5,7,11,12,13,112] ?_)
 refine cd ?_ ?_ <;> intro h39 <;> try simp only [tt] at h39
 refine C_exit (EX_then (EX_hit (?_)))
 refine kk7 [1,4,5,7,11,12,13] (rg ?_)
 refine mv ?_
 refine ad ?_
 refine as_ ?_
 refine wn ?_
 refine NX_rnd [13, 1, 4, 5, 7, 11, 12] (by omega) (_) ?_ rfl (List.Sublist.refl _) rfl (Imm.le_refl _)
 exact hse.skip (fun hc => cand_ne hc (by omega))
 refine sk (kk7 [1,4,5,7,11,12,13] (sq (rg ?_)))
 refine as_ ?_
 refine wn (kk8 [1,4,5,7,11,12,13,14] (sq (sq (rg ?_))))
 refine as_ ?_
 refine wn (kk9 [1,4,5,7,11,12,13,14,15] (bk ?_))
 refine C_loop (Bool) (g.succ.length) (fun k40 x40 => x40 = true ↔ ∀ c : Nat, c < k40 → Near g root (k31 : Int) (k26 : Int) (c : Int)) (fun k40 x40 => [(14, .bool x40), (15, .int .i64 (k40 : Int))]) (fun _ _ => []) [14, 15] [1, 4, 5, 7, 11, 12, 13] (F := [(1, _), (4, _), (5, _), (7, _), (11, _), (12, _), (13, _)]) (true) (by simp) rfl rfl rfl (fun k40 x40 hk40 hJ40 => ?_)
 refine jj9 [1,4,5,7,11,12,13,14,15] (sq (sq (rg ?_)))
 refine mv (mv (bl ?_))
 refine wn (kk10 [1,4,5,7,11,12,13,14,15,115] ?_)
 refine cd ?_ ?_ <;> intro h41 <;> try simp only [tt] at h41
 refine sk (kk9 [1,4,5,7,11,12,13,14,15] (sq (bk (rg ?_))))
 refine mv (mv ?_)
 refine sp 119 ?_ ?_ <;> intro h42 <;> try simp only [tt] at h42
 refine tk (mv ?_)
 refine tk (mv ?_)
 refine tk (be ?_)
 refine tk (mv ?_)
 refine sp 123 ?_ ?_ <;> intro h43 <;> try simp only [tt] at h43
 refine ps (ps (ps (ps (ps (ps (ps (ps (tk (pt ?_)))))))))
 refine tk (mv ?_)
 refine ps (ps (ps (ps (ps (ps (ps (tk (pt (pt (as_ ?_))))))))))
 refine wn (nb (kk9 [1,4,5,7,11,12,13,14,15] (rg ?_)))
 refine mv ?_
 refine ad ?_
 refine as_ ?_
 refine wn ?_
 refine NX_rnd [14, 15, 1, 4, 5, 7, 11, 12, 13] (by omega) (_) ?_ rfl (List.Sublist.refl _) rfl (Imm.le_refl _)
 exact near_t hJ40 (by assumption) (.inl (by omega))
 refine tk (mv ?_)
 refine tk (mv ?_)
 refine tk ?_
 obtain ⟨ad44, hA44⟩ := htab.ad (j := k40) (by rw [ovP_len]; omega)
 obtain ⟨z44, hz44⟩ := htab.getz (j := k40) (by rw [ovP_len]; omega)
 refine ixz hA44 Tryz.underlying117 T.sz54 ?_
 refine tk ?_
 obtain ⟨A45, c45, l45, h45⟩ := Sl.getS htab hA44 hz44
 refine liz T.ag54 l45 ?_
 refine tk (mv ?_)
 refine tk ?_
 obtain ⟨ad46, hA46⟩ := h45.ad (j := k26) (by rw [ovP_row hz44]; omega)
 obtain ⟨z46, hz46⟩ := h45.getz (j := k26) (by rw [ovP_row hz44]; omega)
 refine W_q (r_index hA46 Tryz.underlying54 T.sz4 rfl rfl ⟨by omega, by rw [ovP_row hz44]; omega⟩) rfl ?_
 refine tk ?_
 refine liz T.ag4 (Sl.getB h45 hA46 hz46) ?_
 refine tk (nt ?_)
 refine tk (pf ?_)
 refine tk (mv ?_)
 refine sp 133 ?_ ?_ <;> intro h48 <;> try simp only [tt] at h48
 refine ps (ps (ps (ps (ps (ps (ps (tk (pt (pt (as_ ?_))))))))))
 refine wn (nb (kk9 [1,4,5,7,11,12,13,14,15] (rg ?_)))
 refine mv ?_
 refine ad ?_
 refine as_ ?_
 refine wn ?_
 refine NX_rnd [14, 15, 1, 4, 5, 7, 11, 12, 13] (by omega) (_) ?_ rfl (List.Sublist.refl _) rfl (Imm.le_refl _)
 exact near_t hJ40 (by assumption) (.inl (by omega))
 refine tk (mv ?_)
 refine tk (mv ?_)
 refine tk ?_
 obtain ⟨ad49, hA49⟩ := htab.ad (j := k40) (by rw [ovP_len]; omega)
 refine ixz hA49 Tryz.underlying117 T.sz54 ?_
 refine tk ?_
 obtain ⟨A50, c50, l50, h50⟩ := Sl.getS htab hA49 hz44
 refine liz T.ag54 l50 ?_
 refine tk (mv ?_)
 refine tk ?_
 obtain ⟨ad51, hA51⟩ := h50.ad (j := k31) (by rw [ovP_row hz44]; omega)
 obtain ⟨z51, hz51⟩ := h50.getz (j := k31) (by rw [ovP_row hz44]; omega)
 refine W_q (r_index hA51 Tryz.underlying54 T.sz4 rfl rfl ⟨by omega, by rw [ovP_row hz44]; omega⟩) rfl ?_
 refine tk ?_
 refine liz T.ag4 (Sl.getB h50 hA51 hz51) ?_
 refine tk (pf (pt (as_ ?_)))
 refine wn (nb (kk9 [1,4,5,7,11,12,13,14,15] (rg ?_)))
 refine mv ?_
 refine ad ?_
 refine as_ ?_
 refine wn ?_
 refine NX_rnd [14, 15, 1, 4, 5, 7, 11, 12, 13] (by omega) (_) ?_ rfl (List.Sublist.refl _) rfl (Imm.le_refl _)
 exact near_v hJ40 (by assumption) (near_q (by omega) ((ov_at hgo hr0 hrl hz44 hz46).1 (by assumption)) (ov_at hgo hr0 hrl hz44 hz51))
 refine ps (ps (ps (ps (puz (puz (puz (puz (puz (puz (puz (puz (ps (ps (puz (puz (puz (puz (puz (puz (puz (ps ?_)))))))))))))))))))))
 refine pf (as_ ?_)
 refine wn (nb (kk9 [1,4,5,7,11,12,13,14,15] (rg ?_)))
 refine mv ?_
 refine ad ?_
 refine as_ ?_
 refine wn ?_
 refine NX_rnd [14, 15, 1, 4, 5, 7, 11, 12, 13] (by omega) (_) ?_ rfl (List.Sublist.refl _) rfl (Imm.le_refl _)
 exact near_f hJ40 (by assumption)
 refine C_exit (EX_then (EX_then (EX_hit (?_))))
 refine kk8 [1,4,5,7,11,12,13,14] (sq (rg ?_))
 refine mv ?_
 refine wn (kk8 [1,4,5,7,11,12,13,143] ?_)
 refine cd ?_ ?_ <;> intro h53 <;> try simp only [tt] at h53
 refine rg ?_
 refine mv (mv (mv ?_))
 refine W_q (r_indexr (o := k26) Tryz.underlying22 T.sz3 rfl rfl ⟨by omega, by simp only [List.length_replicate]; omega⟩ (by omega)) rfl ?_
 refine S_storerI 0 rfl rfl T.sz3 rfl (by omega) ?_
 refine wn (nb (kk7 [1,4,5,7,11,12,13] (rg ?_)))
 refine mv ?_
 refine ad ?_
 refine as_ ?_
 refine wn ?_
 refine NX_rnd [13, 1, 4, 5, 7, 11, 12] (by omega) (_) ?_ rfl (List.Sublist.refl _) rfl (Imm.le_refl _)
 exact hse.hit (by omega) (by omega) (by omega) (by omega) (cand_of hgo hr0 hrl (by omega) ((ov_at hgo hr0 hrl hz35 hz37).1 (by assumption)) (fun c hc => (hJ40.1 (by assumption)) c (by omega)))
 refine sk (nb (kk7 [1,4,5,7,11,12,13] (rg ?_)))
 refine mv ?_
 refine ad ?_
 refine as_ ?_
 refine wn ?_
 refine NX_rnd [13, 1, 4, 5, 7, 11, 12] (by omega) (_) ?_ rfl (List.Sublist.refl _) rfl (Imm.le_refl _)
 exact hse.skip (fun hc => cand_ne hc (by omega))
 refine C_exit (EX_then (EX_then (EX_hit (?_))))
 refine nb (kk6 [1,4,5,7,11,12] (rg ?_))
 refine mv ?_
 refine ad ?_
 refine as_ ?_
 refine wn ?_
 refine NX_rnd [12, 1, 4, 5, 7, 11] (by omega) (_) ?_ rfl (List.Sublist.refl _) rfl (Imm.le_refl _)
 exact hse.done hgo hr0 hrl (by omega)
 refine ps (ps (ps ?_))
 refine pf ?_
 refine wn (kk8 [1,4,5,7,11,12,13,97] ?_)
 refine cfz ?_
 refine C_exit (EX_then (EX_then (EX_hit (?_))))
 refine nb (kk6 [1,4,5,7,11,12] (rg ?_))
 refine mv ?_
 refine ad ?_
 refine as_ ?_
 refine wn ?_
 refine NX_rnd [12, 1, 4, 5, 7, 11] (by omega) (_) ?_ rfl (List.Sublist.refl _) rfl (Imm.le_refl _)
 exact hse.done hgo hr0 hrl (by omega)
 refine sk (kk6 [1,4,5,7,11,12] (sq (rg ?_)))
 refine as_ ?_
 refine wn (kk7 [1,4,5,7,11,12,13] (bk ?_))
 refine CW_front 0 rfl rfl ?_
 refine C_loop (List Int) (g.succ.length) (fun k55 x55 => SearchSt g root x55 k26 k55) (fun k55 x55 => [(13, .int .i64 (k55 : Int))]) (fun k55 x55 => [rowI 3 (some b25) g.succ.length x55]) [13] [1, 4, 5, 7, 11, 12] (F := [(1, _), (4, _), (5, _), (7, _), (11, _), (12, _)]) (_) (searchSt_ne hJ26 (by omega) (by omega)) rfl rfl rfl (fun k55 x55 hk55 hJ55 => ?_)
 have hse := hJ55
 have hsl := hJ55.out.len
 refine jj7 [1,4,5,7,11,12,13] (sq (sq (rg ?_)))
 refine mv (mv (bl (mv ?_)))
 refine sp 93 ?_ ?_ <;> intro h56 <;> try simp only [tt] at h56
 refine tk (mv ?_)
 refine tk (mv ?_)
 refine tk (bn (pt ?_))
 refine wn (kk8 [1,4,5,7,11,12,13,97] ?_)
 refine cd ?_ ?_ <;> intro h57 <;> try simp only [tt] at h57
 refine sk (kk7 [1,4,5,7,11,12,13] (sq (bk (sq (sq (rg ?_))))))
 refine mv (mv (be (mv ?_)))
 refine sp 103 ?_ ?_ <;> intro h58 <;> try simp only [tt] at h58
 refine ps (ps (ps (ps (ps (ps (ps (ps ?_)))))))
 refine pt ?_
 refine wn (kk8 [1,4,5,7,11,12,13,112] ?_)
 refine ctz ?_
 refine C_exit (EX_then (EX_hit (?_)))
 refine kk7 [1,4,5,7,11,12,13] (rg ?_)
 refine mv ?_
 refine ad ?_
 refine as_ ?_
 refine wn ?_
 refine NX_rnd [13, 1, 4, 5, 7, 11, 12] (by omega) (_) ?_ rfl (List.Sublist.refl _) rfl (Imm.le_refl _)
 exact hse.skip (fun hc => cand_ne hc (by omega))
 refine tk (mv ?_)
 refine tk (mv ?_)
 refine tk ?_
 obtain ⟨ad59, hA59⟩ := htab.ad (j := k55) (by rw [ovP_len]; omega)
 obtain ⟨z59, hz59⟩ := htab.getz (j := k55) (by rw [ovP_len]; omega)
 refine ixz hA59 Tryz.underlying117 T.sz54 ?_
 refine tk ?_
 obtain ⟨A60, c60, l60, h60⟩ := Sl.getS htab hA59 hz59
 refine liz T.ag54 l60 ?_
 refine tk (mv ?_)
 refine tk ?_
 obtain ⟨ad61, hA61⟩ := h60.ad (j := k26) (by rw [ovP_row hz59]; omega)
 obtain ⟨z61, hz61⟩ := h60.getz (j := k26) (by rw [ovP_row hz59]; omega)
 refine W_q (r_index hA61 Tryz.underlying54 T.sz4 rfl rfl ⟨by omega, by rw [ovP_row hz59]; omega⟩) rfl ?_
 refine tk ?_
 refine liz T.ag4 (Sl.getB h60 hA61 hz61) ?_
 refine tk (nt (pf ?_))
 refine wn (kk8 [1,4,5,7,11,12,13,112] ?_)
 refine cd ?_ ?_ <;> intro h63 <;> try simp only [tt] at h63
 refine C_exit (EX_then (EX_hit (?_)))
 refine kk7 [1,4,5,7,11,12,13] (rg ?_)
 refine mv ?_
 refine ad ?_
 refine as_ ?_
 refine wn ?_
 refine NX_rnd [13, 1, 4, 5, 7, 11, 12] (by omega) (_) ?_ rfl (List.Sublist.refl _) rfl (Imm.le_refl _)
 exact hse.skip (not_ov hgo hr0 hrl hz59 hz61 (by assumption))
 refine sk (kk7 [1,4,5,7,11,12,13] (sq (rg ?_)))
 refine as_ ?_
 refine wn (kk8 [1,4,5,7,11,12,13,14] (sq (sq (rg ?_))))
 refine as_ ?_
 refine wn (kk9 [1,4,5,7,11,12,13,14,15] (bk ?_))
 refine C_loop (Bool) (g.succ.length) (fun k64 x64 => x64 = true ↔ ∀ c : Nat, c < k64 → Near g root (k55 : Int) (k26 : Int) (c : Int)) (fun k64 x64 => [(14, .bool x64), (15, .int .i64 (k64 : Int))]) (fun _ _ => []) [14, 15] [1, 4, 5, 7, 11, 12, 13] (F := [(1, _), (4, _), (5, _), (7, _), (11, _), (12, _), (13, _)]) (true) (by simp) rfl rfl rfl (fun k64 x64 hk64 hJ64 => ?_)
 refine jj9 [1,4,5,7,11,12,13,14,15] (sq (sq (rg ?_)))
 refine mv (mv (bl ?_))
 refine wn (kk10 [1,4,5,7,11,12,13,14,15,115] ?_)
 refine cd ?_ ?_ <;> intro h65 <;> try simp only [tt] at h65
 refine sk (kk9 [1,4,5,7,11,12,13,14,15] (sq (bk (rg ?_))))
 refine mv (mv ?_)
 refine sp 119 ?_ ?_ <;> intro h66 <;> try simp only [tt] at h66
 refine tk (mv ?_)
 refine tk (mv ?_)
 refine tk (be ?_)
 refine tk (mv ?_)
 refine sp 123 ?_ ?_ <;> intro h67 <;> try simp only [tt] at h67
 refine ps (ps (ps (ps (ps (ps (ps (ps (tk (pt ?_)))))))))
 refine tk (mv ?_)
 refine ps (ps (ps (ps (ps (ps (ps (tk (pt (pt (as_ ?_))))))))))
 refine wn (nb (kk9 [1,4,5,7,11,12,13,14,15] (rg ?_)))
 refine mv ?_
 refine ad ?_
 refine as_ ?_
 refine wn ?_
 refine NX_rnd [14, 15, 1, 4, 5, 7, 11, 12, 13] (by omega) (_) ?_ rfl (List.Sublist.refl _) rfl (Imm.le_refl _)
 exact near_t hJ64 (by assumption) (.inl (by omega))
 refine tk (mv ?_)
 refine tk (mv ?_)
 refine tk ?_
 obtain ⟨ad68, hA68⟩ := htab.ad (j := k64) (by rw [ovP_len]; omega)
 obtain ⟨z68, hz68⟩ := htab.getz (j := k64) (by rw [ovP_len]; omega)
 refine ixz hA68 Tryz.underlying117 T.sz54 ?_
 refine tk ?_
 obtain ⟨A69, c69, l69, h69⟩ := Sl.getS htab hA68 hz68
 refine liz T.ag54 l69 ?_
 refine tk (mv ?_)
 refine tk ?_
 obtain ⟨ad70, hA70⟩ := h69.ad (j := k26) (by rw [ovP_row hz68]; omega)
 obtain ⟨z70, hz70⟩ := h69.getz (j := k26) (by rw [ovP_row hz68]; omega)
 refine W_q (r_index hA70 Tryz.underlying54 T.sz4 rfl rfl ⟨by omega, by rw [ovP_row hz68]; omega⟩) rfl ?_
 refine tk ?_
 refine liz T.ag4 (Sl.getB h69 hA70 hz70) ?_
 refine tk (nt ?_)
 refine tk (pf ?_)
 refine tk (mv ?_)
 refine sp 133 ?_ ?_ <;> intro h72 <;> try simp only [tt] at h72
 refine ps (ps (ps (ps (ps (ps (ps (tk (pt (pt (as_ ?_))))))))))
 refine wn (nb (kk9 [1,4,5,7,11,12,13,14,15] (rg ?_)))
 refine mv ?_
 refine ad ?_
 refine as_ ?_
 refine wn ?_
 refine NX_rnd [14, 15, 1, 4, 5, 7, 11, 12, 13] (by omega) (_) ?_ rfl (List.Sublist.refl _) rfl (Imm.le_refl _)
 exact near_t hJ64 (by assumption) (.inr (.inl (not_ov2 hgo hr0 hrl hz68 hz70 (by assumption))))
 refine tk (mv ?_)
 refine tk (mv ?_)
 refine tk ?_
 obtain ⟨ad73, hA73⟩ := htab.ad (j := k64) (by rw [ovP_len]; omega)
 refine ixz hA73 Tryz.underlying117 T.sz54 ?_
 refine tk ?_
 obtain ⟨A74, c74, l74, h74⟩ := Sl.getS htab hA73 hz68
 refine liz T.ag54 l74 ?_
 refine tk (mv ?_)
 refine tk ?_
 obtain ⟨ad75, hA75⟩ := h74.ad (j := k55) (by rw [ovP_row hz68]; omega)
 obtain ⟨z75, hz75⟩ := h74.getz (j := k55) (by rw [ovP_row hz68]; omega)
 refine W_q (r_index hA75 Tryz.underlying54 T.sz4 rfl rfl ⟨by omega, by rw [ovP_row hz68]; omega⟩) rfl ?_
 refine tk ?_
 refine liz T.ag4 (Sl.getB h74 hA75 hz75) ?_
 refine tk (pf (pt (as_ ?_)))
 refine wn (nb (kk9 [1,4,5,7,11,12,13,14,15] (rg ?_)))
 refine mv ?_
 refine ad ?_
 refine as_ ?_
 refine wn ?_
 refine NX_rnd [14, 15, 1, 4, 5, 7, 11, 12, 13] (by omega) (_) ?_ rfl (List.Sublist.refl _) rfl (Imm.le_refl _)
 exact near_v hJ64 (by assumption) (near_q (by omega) ((ov_at hgo hr0 hrl hz68 hz70).1 (by assumption)) (ov_at hgo hr0 hrl hz68 hz75))
 refine ps (ps (ps (ps (puz (puz (puz (puz (puz (puz (puz (puz (ps (ps (puz (puz (puz (puz (puz (puz (puz (ps ?_)))))))))))))))))))))
 refine pf (as_ ?_)
 refine wn (nb (kk9 [1,4,5,7,11,12,13,14,15] (rg ?_)))
 refine mv ?_
 refine ad ?_
 refine as_ ?_
 refine wn ?_
 refine NX_rnd [14, 15, 1, 4, 5, 7, 11, 12, 13] (by omega) (_) ?_ rfl (List.Sublist.refl _) rfl (Imm.le_refl _)
 exact near_f hJ64 (by assumption)
 refine C_exit (EX_then (EX_then (EX_hit (?_))))
 refine kk8 [1,4,5,7,11,12,13,14] (sq (rg ?_))
 refine mv ?_
 refine wn (kk8 [1,4,5,7,11,12,13,143] ?_)
 refine cd ?_ ?_ <;> intro h77 <;> try simp only [tt] at h77
 refine rg ?_
 refine mv (mv (mv ?_))
 refine W_q (r_indexr (o := k26) Tryz.underlying22 T.sz3 rfl rfl ⟨by omega, by simp only [List.length_replicate]; omega⟩ (by omega)) rfl ?_
 refine S_storerI 0 rfl rfl T.sz3 rfl (by omega) ?_
 refine wn (nb (kk7 [1,4,5,7,11,12,13] (rg ?_)))
 refine mv ?_
 refine ad ?_
 refine as_ ?_
 refine wn ?_
 refine NX_rnd [13, 1, 4, 5, 7, 11, 12] (by omega) (_) ?_ rfl (List.Sublist.refl _) rfl (Imm.le_refl _)
 exact hse.hit (by omega) (by omega) (by omega) (by omega) (cand_of hgo hr0 hrl (by omega) ((ov_at hgo hr0 hrl hz59 hz61).1 (by assumption)) (fun c hc => (hJ64.1 (by assumption)) c (by omega)))
 refine sk (nb (kk7 [1,4,5,7,11,12,13] (rg ?_)))
 refine mv ?_
 refine ad ?_
 refine as_ ?_
 refine wn ?_
 refine NX_rnd [13, 1, 4, 5, 7, 11, 12] (by omega) (_) ?_ rfl (List.Sublist.refl _) rfl (Imm.le_refl _)
 exact hse.skip (fun hc => near_no hJ64 (by assumption) (fun c => near_of hc (c : Int)))
 refine C_exit (EX_then (EX_then (EX_hit (?_))))
 refine nb (kk6 [1,4,5,7,11,12] (rg ?_))
 refine mv ?_
 refine ad ?_
 refine as_ ?_
 refine wn ?_
 refine NX_rnd [12, 1, 4, 5, 7, 11] (by omega) (_) ?_ rfl (List.Sublist.refl _) rfl (Imm.le_refl _)
 exact hse.done hgo hr0 hrl (by omega)
 refine ps (ps (ps ?_))
 refine pf ?_
 refine wn (kk8 [1,4,5,7,11,12,13,97] ?_)
 refine cfz ?_
 refine C_exit (EX_then (EX_then (EX_hit (?_))))
 refine nb (kk6 [1,4,5,7,11,12] (rg ?_))
 refine mv ?_
 refine ad ?_
 refine as_ ?_
 refine wn ?_
 refine NX_rnd [12, 1, 4, 5, 7, 11] (by omega) (_) ?_ rfl (List.Sublist.refl _) rfl (Imm.le_refl _)
 exact hse.done hgo hr0 hrl (by omega)
 refine C_exit (EX_then (EX_then (EX_hit (?_))))
 refine kk2 [4,11] (sq (rg ?_))
 refine mv (as_ ?_)
 refine wn (kk1 [4] ?_)
 have hkn2 : k26 = g.succ.length := by omega
 have hJ2 := hJ26
 rw [hkn2] at hJ2
 have htree := hJ2.tree hgo hr0 hrl
 refine C_ret (RX_know (k_rowI 0 rfl) (fun hr => ?_))
 refine RX_freeze 0 rfl (fun _ h => h) (fun mf lef hf => ?_)
 have hfin : Ints mf _ _ _ := Ints_frz hf hr.1 hr.2.1 (by rw [hJ2.len]; omega) hr.2.2 hJ2.i64
 rw [htree] at hfin
 exact RX_g1 rfl rfl ⟨_, _, by rw [(domTree_treeP hgo hr0 hrl).len]; simp only [slI, List.length_replicate], hfin⟩
namespace T
theorem bl73 : bls? Tryz.prog 73 = some ([(0, 1), (1, 1), (2, 1), (3, 2)], ([(.int .i64 0), (.int .i64 0), (.int .i64 0), (.int .i64 0), (.int .i64 0)] : List Value)) := by kernel_rfl
theorem by73 : byt? Tryz.prog 73 = some 40 := by kernel_rfl
theorem fo73_0 : fld? Tryz.prog 73 0 = some (0, 1) := by kernel_rfl
theorem hb94 : hasBody Tryz.prog 94 = true := by kernel_rfl
theorem sz73 : sz? Tryz.prog 73 = some 5 := by kernel_rfl
theorem ze73 : zero? Tryz.prog 73 = some (.agg #[(.int .i64 0), (.int .i64 0), (.int .i64 0), (.int .i64 0), (.int .i64 0)]) := by kernel_rfl
end T
theorem gives_rng {o : FOp} (hb : I64 o.bits) (hl : I64 o.lanes) : I64 (givesP o).1 ∧ I64 (givesP o).2 := by
  have h0 : I64 0 := ⟨by omega, by omega⟩
  have h1 : I64 1 := ⟨by omega, by omega⟩
  unfold givesP
  repeat' split
  all_goals exact ⟨by assumption, by assumption⟩
theorem rFind_q {m : Imm} {A : Option Addr} {c : Nat} {l : List (Int × Def)} (h : Sl rDef 5 m A c l) (v : Int) : Quiet Tryz.prog 60 [.slice A l.length c, .int .i64 v] m (.int .i64 (findD l v)) := by
 have hlen := h.len
 refine quiet_of Tryz.func60 rfl Tryz.ntmps60 rfl (fun w => ?_)
 refine sq (rg ?_)
 refine as_ ?_
 refine wn (kk3 [0,1,4] (sq (sq (rg ?_))))
 refine as_ ?_
 refine wn (kk4 [0,1,4,5] (bk ?_))
 refine C_loop (Unit) (l.length) (fun k1 x1 => ∀ j, j < k1 → ∀ y, l[j]? = some y → y.1 ≠ v) (fun k1 x1 => [(5, .int .i64 (k1 : Int))]) (fun _ _ => []) [5] [0, 1] (F := [(0, _), (1, _)]) (()) (by simp) rfl rfl rfl (fun k1 x1 hk1 hJ1 => ?_)
 refine jj3 [0,1,5] (sq (sq (rg ?_)))
 refine mv (mv (ln Tryz.underlying69 (bl ?_)))
 refine wn (kk4 [0,1,5,9] ?_)
 refine cd ?_ ?_ <;> intro h2 <;> try simp only [tt] at h2
 refine sk (kk3 [0,1,5] (sq (bk (sq (rg ?_)))))
 refine mv (mv ?_)
 obtain ⟨ad3, hA3⟩ := h.ad (j := k1) (by omega)
 obtain ⟨z3, hz3⟩ := h.getz (j := k1) (by omega)
 refine ixz hA3 Tryz.underlying69 T.sz73 ?_
 refine W_q (r_field rfl T.fo73_0) rfl ?_
 obtain ⟨es4, f4, _, l4⟩ := Sl.get h hA3 hz3
 obtain ⟨rfl, i4a, i4b, i4c, i4d, i4e⟩ := f4
 refine liz T.ag3 (l4 0 _ rfl) ?_
 refine mv (be ?_)
 refine wn (kk4 [0,1,5,18] ?_)
 refine cd ?_ ?_ <;> intro h5 <;> try simp only [tt] at h5
 refine sq (rg ?_)
 refine mv (as_ ?_)
 refine wn (kk4 [0,1,4,5] ?_)
 refine C_ret (RX_block (RX_then (RX_then (RX_block (RX_then (RX_q1 rfl rfl ?_))))))
 rw [findD_at hJ1 hz3 (by assumption)]
 refine sk (nb (kk3 [0,1,5] (rg ?_)))
 refine mv ?_
 refine ad ?_
 refine as_ ?_
 refine wn ?_
 refine NX_rnd [5, 0, 1] (by omega) (()) ?_ rfl (List.Sublist.refl _) rfl (Imm.le_refl _)
 exact lt_succ_all hJ1 (fun y hy => by rw [hz3] at hy; cases hy; assumption)
 refine C_exit (EX_then (EX_then (EX_hit (?_))))
 refine kk0 [] (sq (rg ?_))
 refine as_ ?_
 refine wn (kk1 [4] ?_)
 refine C_ret (RX_q1 rfl rfl ?_)
 have hkk : k1 = l.length := by omega
 subst hkk
 rw [findD_no hJ1]
theorem rDefs_g {m : Imm} {es : List Value} {f : FFun} (hF : rFunc m es f) (hm : mayF f = true) : Gives Tryz.prog 58 [.agg es.toArray] m (fun m' v => ∃ A c, v = .slice A (defsL f).length c ∧ Sl rDef 5 m' A c (defsL f)) := by
 have hF_0 := hF
 obtain ⟨A90, c90, B90, d90, rfl, hq90, hb90, i90a⟩ := hF_0
 have hbl := hb90.len
 have hql := hq90.len
 obtain ⟨hs16, hs64, hs512⟩ := may_sums hm
 refine gives_of Tryz.func58 rfl Tryz.ntmps58 rfl (fun w => ?_)
 refine sq (rg ?_)
 refine S_box (l := [_, _, _]) rfl rfl rfl (fun b1 => ?_)
 refine as_ ?_
 refine wn (kk2 [1,2] (sq (rg ?_)))
 refine as_ ?_
 refine wn (kk3 [1,2,3] (sq (sq (rg ?_))))
 refine as_ ?_
 refine wn (kk4 [1,2,3,4] (bk ?_))
 refine CW_nilRow 73 5 ?_
 refine C_loop (GRow) (f.params.length) (fun k2 x2 => RSt rDef 5 m x2 (pP f k2)) (fun k2 x2 => [(3, .slice (rowA x2.1) x2.2.1 x2.2.2.1), (4, .int .i64 (k2 : Int))]) (fun k2 x2 => [row x2.1 x2.2.1 x2.2.2.1 73 5 x2.2.2.2]) [3, 4] [1, 2] (F := [(1, _), (2, _)]) (_) (by rw [pP_zero]; exact RSt.nil) rfl rfl rfl (fun k2 x2 hk2 hJ2 => ?_)
 have hxn := hJ2.n
 have hxl := pP_len (f := f) (k := k2) (by omega)
 refine jj4 [1,2,3,4] (sq (sq (rg ?_)))
 refine mv (fb 0 T.fo25_0 (lb 1 T.ag22 (ln Tryz.underlying22 (bl ?_))))
 refine wn (kk5 [1,2,3,4,15] ?_)
 refine cd ?_ ?_ <;> intro h4 <;> try simp only [tt] at h4
 refine sk (kk4 [1,2,3,4] (sq (bk (rg ?_))))
 refine mv (mv ?_)
 refine ad ?_
 refine fb 0 T.fo25_0 (lb 1 T.ag22 (mv ?_))
 obtain ⟨ad5, hA5⟩ := hq90.ad (j := k2) (by omega)
 obtain ⟨z5, hz5⟩ := hq90.getz (j := k2) (by omega)
 refine ixz hA5 Tryz.underlying22 T.sz3 ?_
 obtain ⟨l6, r6⟩ := Sl.getI hq90 hA5 hz5
 refine liz T.ag3 l6 ?_
 refine W_q (r_builda (zs := [_, _]) (cs := [_, _]) Tryz.underlying71 T.sz3 T.ze71 rfl rfl rfl) rfl ?_
 refine W_q (r_builds (cs := [_, _, _, _, _]) T.bl73 rfl rfl) rfl ?_
 refine S_litr (vs := [_]) (cs := [_, _, _, _, _]) Tryz.underlying69 T.sz73 T.ze73 rfl rfl rfl rfl rfl rfl rfl (fun b7 => ?_)
 refine S_appendG [_, _, _, _, _] 1 rfl rfl rfl Tryz.underlying69 T.sz73 T.ze73 T.by73 rfl rfl rfl (.row 0 rfl) rfl (by omega) (by unfold maxLen; omega) rfl (fun g8 c8 hg8 => ?_)
 refine as_ ?_
 refine wn (nb (kk4 [1,2,3,4] (rg ?_)))
 refine mv ?_
 refine ad ?_
 refine as_ ?_
 refine wn ?_
 refine NX_rnd [3, 4, 1, 2] (by omega) ((_, _, _, _)) ?_ rfl (sub_drop 1 rfl) rfl (Imm.le_refl _)
 exact (hJ2.snoc (z := ((k2 : Int) + 1, (-1, 0, _, 1))) ⟨rfl, ⟨by dsimp only; omega, by dsimp only; omega⟩, ⟨by dsimp only; omega, by dsimp only; omega⟩, ⟨by dsimp only; omega, by dsimp only; omega⟩, Ints_all hq90 _ (List.mem_of_getElem? hz5), ⟨by dsimp only; omega, by dsimp only; omega⟩⟩ hg8 rfl).to (pP_succ hz5).symm
 refine C_exit (EX_then (EX_then (EX_hit (?_))))
 refine kk3 [1,2,3] (sq (sq (rg ?_)))
 refine as_ ?_
 refine wn (kk4 [1,2,3,5] (bk ?_))
 refine CW_front 0 rfl rfl ?_
 refine C_loop (GRow) (f.blocks.length) (fun k9 x9 => RSt rDef 5 m x9 (dP f k9)) (fun k9 x9 => [(3, .slice (rowA x9.1) x9.2.1 x9.2.2.1), (5, .int .i64 (k9 : Int))]) (fun k9 x9 => [row x9.1 x9.2.1 x9.2.2.1 73 5 x9.2.2.2]) [3, 5] [1, 2] (F := [(1, _), (2, _)]) (_) (hJ2.to (by rw [show k2 = f.params.length by omega, pP_end])) rfl rfl rfl (fun k9 x9 hk9 hJ9 => ?_)
 have hxn := hJ9.n
 have hxl1 := dP_len (k1 := k9) hm
 refine jj4 [1,2,3,5] (sq (sq (rg ?_)))
 refine mv (fb 2 T.fo25_2 (lb 1 T.ag23 (ln Tryz.underlying23 (bl ?_))))
 refine wn (kk5 [1,2,3,5,34] ?_)
 refine cd ?_ ?_ <;> intro h10 <;> try simp only [tt] at h10
 refine sk (kk4 [1,2,3,5] (sq (bk (sq (rg ?_)))))
 refine fb 2 T.fo25_2 (lb 1 T.ag23 (mv ?_))
 obtain ⟨ad11, hA11⟩ := hb90.ad (j := k9) (by omega)
 obtain ⟨z11, hz11⟩ := hb90.getz (j := k9) (by omega)
 refine ixz hA11 Tryz.underlying23 T.sz44 ?_
 obtain ⟨es12, f12, _, l12⟩ := Sl.get hb90 hA11 hz11
 have F12 := f12
 obtain ⟨A12, c12, B12, d12, C12, e12, rfl, hp12, ho12, ht12, i12a, i12b⟩ := f12
 refine W_q (r_load_immk (vs := [_, _, _, _, _]) rfl T.ag44 T.sz44 l12) rfl ?_
 refine sa5 T.ze44 (fun b13 => ?_)
 refine sb5 0 T.sz44 ?_
 refine wn (kk5 [1,2,3,5,6] (sq (sq (rg ?_))))
 refine as_ ?_
 refine wn (kk6 [1,2,3,5,6,7] (bk ?_))
 refine CW_front 1 rfl rfl ?_
 refine C_loop (GRow) (z11.phis.length) (fun k14 x14 => RSt rDef 5 m x14 (dQ f k9 z11 k14)) (fun k14 x14 => [(3, .slice (rowA x14.1) x14.2.1 x14.2.2.1), (7, .int .i64 (k14 : Int))]) (fun k14 x14 => [row x14.1 x14.2.1 x14.2.2.1 73 5 x14.2.2.2]) [3, 7] [1, 2, 5, 6] (F := [(1, _), (2, _), (5, _), (6, _)]) (_) (hJ9.to dQ_zero) rfl rfl rfl (fun k14 x14 hk14 hJ14 => ?_)
 have hxn2 := hJ14.n
 have hxl2 := dQ_len (k2 := k14) hm hz11
 refine jj6 [1,2,3,5,6,7] (sq (sq (rg ?_)))
 refine mv (fb 0 T.fo44_0 ?_)
 have hphl : z11.phis.length ≤ 140737488355328 := Sl.len (r := rPhi) (sz := 4) (xs := z11.phis) (by assumption)
 refine lb 1 T.ag39 (ln Tryz.underlying39 (bl ?_))
 refine wn (kk7 [1,2,3,5,6,7,46] ?_)
 refine cd ?_ ?_ <;> intro h15 <;> try simp only [tt] at h15
 refine sk (kk6 [1,2,3,5,6,7] (sq (bk ?_)))
 refine C_drawnk 1 [(0, true), (1, true), (2, true), (3, true), (4, true), (5, true), (6, true), (7, true), (8, true), (9, true), (10, true), (11, true), (12, true), (13, true), (14, true), (15, true), (16, false), (17, false), (18, true)] (by kernel_rfl) rfl (by kernel_rfl) (by kernel_rfl) ?_
 refine dmv ?_
 refine dfb 0 T.fo44_0 ?_
 refine dlb 0 T.ag39 ?_
 refine dmv ?_
 obtain ⟨ad16, hA16⟩ := hp12.ad (j := k14) (by omega)
 obtain ⟨z16, hz16⟩ := hp12.getz (j := k14) (by omega)
 refine D_q rfl (r_index hA16 Tryz.underlying39 T.sz61 rfl rfl ⟨by omega, by omega⟩) rfl ?_
 refine D_q rfl (r_field rfl T.fo61_1) rfl ?_
 obtain ⟨es17, f17, _, l17⟩ := Sl.get hp12 hA16 hz16
 obtain ⟨A17, c17, B17, d17, rfl, h17, g17, i17a, i17b⟩ := f17
 refine D_q rfl (r_load_imm rfl T.ag3 (l17 1 _ rfl)) rfl ?_
 refine dmv ?_
 refine dfb 0 T.fo44_0 ?_
 refine dlb 0 T.ag39 ?_
 refine dmv ?_
 obtain ⟨ad18, hA18⟩ := hp12.ad (j := k14) (by omega)
 refine D_q rfl (r_index hA18 Tryz.underlying39 T.sz61 rfl rfl ⟨by omega, by omega⟩) rfl ?_
 refine D_q rfl (r_field rfl T.fo61_0) rfl ?_
 obtain ⟨es19, f19, _, l19⟩ := Sl.get hp12 hA18 hz16
 obtain ⟨A19, c19, B19, d19, rfl, h19, g19, i19a, i19b⟩ := f19
 refine D_q rfl (r_load_imm rfl T.ag3 (l19 0 _ rfl)) rfl ?_
 refine D_q rfl (r_builda (zs := [_, _]) (cs := [_, _]) Tryz.underlying71 T.sz3 T.ze71 rfl rfl rfl) rfl ?_
 refine D_q rfl (r_builds (cs := [_, _, _, _, _]) T.bl73 rfl rfl) rfl ?_
 refine D_f rfl (fun hs20 hc20 => ?_)
 refine S_litr (vs := [_]) (cs := [_, _, _, _, _]) Tryz.underlying69 T.sz73 T.ze73 rfl rfl rfl rfl rfl rfl rfl (fun b21 => ?_)
 refine W_leftw hs20 hc20 (Imm.le_refl _) (sub_drop 2 rfl) ?_
 refine D_f rfl (fun hs22 hc22 => ?_)
 refine S_appendG [_, _, _, _, _] 1 rfl rfl rfl Tryz.underlying69 T.sz73 T.ze73 T.by73 rfl rfl rfl (.row 0 rfl) rfl (by omega) (by unfold maxLen; omega) rfl (fun g23 c23 hg23 => ?_)
 refine W_leftw hs22 hc22 (Imm.le_refl _) (sub_drop 2 rfl) ?_
 refine das ?_
 refine D_end ?_
 refine nb (kk6 [1,2,3,5,6,7] (rg ?_))
 refine mv ?_
 refine ad ?_
 refine as_ ?_
 refine wn ?_
 refine NX_rnd [3, 7, 1, 2, 5, 6] (by omega) ((_, _, _, _)) ?_ rfl (sub_drop 1 rfl) rfl (Imm.le_refl _)
 exact (hJ14.snoc (z := (z16.dst, ((k9 : Int), -1, z16.bits, 1))) ⟨rfl, by assumption, ⟨by dsimp only; omega, by dsimp only; omega⟩, ⟨by dsimp only; omega, by dsimp only; omega⟩, by assumption, ⟨by dsimp only; omega, by dsimp only; omega⟩⟩ hg23 rfl).to (dQ_succ hz16).symm
 refine C_exit (EX_then (EX_then (EX_hit (?_))))
 refine kk5 [1,2,3,5,6] (sq (rg ?_))
 refine as_ ?_
 refine wn (kk6 [1,2,3,5,6,8] (bk ?_))
 refine CW_front 0 rfl rfl ?_
 refine C_loop (GRow) (z11.ops.length) (fun k24 x24 => RSt rDef 5 m x24 (dR f k9 z11 k24)) (fun k24 x24 => [(3, .slice (rowA x24.1) x24.2.1 x24.2.2.1), (8, .int .i64 (k24 : Int))]) (fun k24 x24 => [row x24.1 x24.2.1 x24.2.2.1 73 5 x24.2.2.2]) [3, 8] [1, 2, 5, 6] (F := [(1, _), (2, _), (5, _), (6, _)]) (_) (hJ14.to (by rw [show k14 = z11.phis.length by omega, dR_zero])) rfl rfl rfl (fun k24 x24 hk24 hJ24 => ?_)
 have hxn3 := hJ24.n
 have hxl3 := dR_len (k3 := k24) hm hz11
 refine jj6 [1,2,3,5,6,8] (sq (sq (rg ?_)))
 refine mv (fb 1 T.fo44_1 ?_)
 have hopl : z11.ops.length ≤ 140737488355328 := Sl.len (r := rOp) (sz := 6) (xs := z11.ops) (by assumption)
 refine lb 1 T.ag40 (ln Tryz.underlying40 (bl ?_))
 refine wn (kk7 [1,2,3,5,6,8,71] ?_)
 refine cd ?_ ?_ <;> intro h25 <;> try simp only [tt] at h25
 refine sk (kk6 [1,2,3,5,6,8] (sq (bk (sq (rg ?_)))))
 refine fb 1 T.fo44_1 (lb 1 T.ag40 (mv ?_))
 obtain ⟨ad26, hA26⟩ := ho12.ad (j := k24) (by omega)
 obtain ⟨z26, hz26⟩ := ho12.getz (j := k24) (by omega)
 refine ixz hA26 Tryz.underlying40 T.sz51 ?_
 obtain ⟨es27, f27, _, l27⟩ := Sl.get ho12 hA26 hz26
 have F27 := f27
 obtain ⟨A27, c27, rfl, h27, i27a, i27b, i27c, i27d, i27e⟩ := f27
 refine W_q (r_load_immk (vs := [_, _, _, _, _, _]) rfl T.ag51 T.sz51 l27) rfl ?_
 refine W_quiet (rGives_q F27) T.hb94 rfl rfl ?_
 refine mv ?_
 refine W_q (r_extract rfl rfl) rfl ?_
 refine W_q (r_extract rfl rfl) rfl ?_
 refine as_ (as_ ?_)
 refine wn (kk8 [1,2,3,5,6,8,9,10] (sq (rg ?_)))
 have hgb := gives_rng (o := z26) (by assumption) (by assumption)
 refine mv (bg ?_)
 refine wn (kk9 [1,2,3,5,6,8,9,10,84] ?_)
 refine cd ?_ ?_ <;> intro h28 <;> try simp only [tt] at h28
 refine rg ?_
 refine mv (fb 1 T.fo44_1 (lb 1 T.ag40 (mv ?_)))
 obtain ⟨ad29, hA29⟩ := ho12.ad (j := k24) (by omega)
 refine ixz hA29 Tryz.underlying40 T.sz51 ?_
 refine W_q (r_field rfl T.fo51_3) rfl ?_
 obtain ⟨es30, f30, _, l30⟩ := Sl.get ho12 hA29 hz26
 obtain ⟨A30, c30, rfl, h30, i30a, i30b, i30c, i30d, i30e⟩ := f30
 refine liz T.ag3 (l30 3 _ rfl) ?_
 refine mv (mv (mv (mv ?_)))
 refine W_q (r_builda (zs := [_, _]) (cs := [_, _]) Tryz.underlying71 T.sz3 T.ze71 rfl rfl rfl) rfl ?_
 refine W_q (r_builds (cs := [_, _, _, _, _]) T.bl73 rfl rfl) rfl ?_
 refine S_litr (vs := [_]) (cs := [_, _, _, _, _]) Tryz.underlying69 T.sz73 T.ze73 rfl rfl rfl rfl rfl rfl rfl (fun b31 => ?_)
 refine S_appendG [_, _, _, _, _] 1 rfl rfl rfl Tryz.underlying69 T.sz73 T.ze73 T.by73 rfl rfl rfl (.row 0 rfl) rfl (by omega) (by unfold maxLen; omega) rfl (fun g32 c32 hg32 => ?_)
 refine as_ ?_
 refine wn (nb (kk6 [1,2,3,5,6,8] (rg ?_)))
 refine mv ?_
 refine ad ?_
 refine as_ ?_
 refine wn ?_
 refine NX_rnd [3, 8, 1, 2, 5, 6] (by omega) ((_, _, _, _)) ?_ rfl (sub_drop 1 rfl) rfl (Imm.le_refl _)
 exact (hJ24.snoc (z := (z26.dst, ((k9 : Int), (k24 : Int), (givesP z26).1, (givesP z26).2))) ⟨rfl, by assumption, ⟨by dsimp only; omega, by dsimp only; omega⟩, ⟨by dsimp only; omega, by dsimp only; omega⟩, hgb.1, hgb.2⟩ hg32 rfl).to (by rw [dR_succ hz26, opD_1 (by assumption)])
 refine sk (nb (kk6 [1,2,3,5,6,8] (rg ?_)))
 refine mv ?_
 refine ad ?_
 refine as_ ?_
 refine wn ?_
 refine NX_rnd [3, 8, 1, 2, 5, 6] (by omega) ((_, _, _, _)) ?_ rfl (List.Sublist.refl _) rfl (Imm.le_refl _)
 exact hJ24.to (by rw [dR_succ hz26, opD_0 (by omega), List.append_nil])
 refine C_exit (EX_then (EX_then (EX_hit (?_))))
 refine nb (kk4 [1,2,3,5] (rg ?_))
 refine mv ?_
 refine ad ?_
 refine as_ ?_
 refine wn ?_
 refine NX_rnd [3, 5, 1, 2] (by omega) (_) ?_ rfl (List.Sublist.cons_cons _ (sub_drop 1 rfl)) rfl (Imm.le_refl _)
 have hk3 : k24 = z11.ops.length := by omega
 have hJ3 := hJ24
 rw [hk3, dR_end hz11] at hJ3
 exact hJ3
 refine C_exit (EX_then (EX_then (EX_hit (?_))))
 refine kk2 [2,3] (sq (rg ?_))
 refine mv (as_ ?_)
 refine wn (kk1 [2] ?_)
 have hJe := hJ9
 have hkn : k9 = f.blocks.length := by omega
 rw [hkn, dP_end] at hJe
 refine C_ret (RX_know (k_rowG 0 rfl) (fun hr => ?_))
 refine RX_freeze 0 rfl (fun _ h => h) (fun mf lef hf => ?_)
 have hJm := hJe.mono lef
 have hfin := hJm.sl hf hr.2.1 hr.2.2.1 (by have := defs_len hm; omega)
 exact RX_g1 rfl rfl ⟨_, _, by rw [hJe.n], hfin⟩
namespace T
theorem bl77 : bls? Tryz.prog 77 = some ([(0, 1), (1, 1), (2, 1), (3, 2)], ([(.int .i64 0), (.int .i64 0), (.int .i64 0), (.int .i64 0), (.int .i64 0)] : List Value)) := by kernel_rfl
theorem by77 : byt? Tryz.prog 77 = some 40 := by kernel_rfl
theorem hb95 : hasBody Tryz.prog 95 = true := by kernel_rfl
theorem sz77 : sz? Tryz.prog 77 = some 5 := by kernel_rfl
theorem ze77 : zero? Tryz.prog 77 = some (.agg #[(.int .i64 0), (.int .i64 0), (.int .i64 0), (.int .i64 0), (.int .i64 0)]) := by kernel_rfl
end T
theorem rUses_g {m : Imm} {es : List Value} {f : FFun} (hF : rFunc m es f) (hm : mayF f = true) (hph : ∀ b ∈ f.blocks, ∀ p ∈ b.phis, p.args.length ≤ p.fr.length) : Gives Tryz.prog 61 [.agg es.toArray] m (fun m' v => ∃ A c, v = .slice A (usesR f).length c ∧ Sl rUse 5 m' A c (usesR f)) := by
 have hF_0 := hF
 obtain ⟨A90, c90, B90, d90, rfl, hq90, hb90, i90a⟩ := hF_0
 have hbl := hb90.len
 have hql := hq90.len
 obtain ⟨hs16, hs64, hs512⟩ := may_sums hm
 refine gives_of Tryz.func61 rfl Tryz.ntmps61 rfl (fun w => ?_)
 refine sq (rg ?_)
 refine S_box (l := [_, _, _]) rfl rfl rfl (fun b1 => ?_)
 refine as_ ?_
 refine wn (kk2 [1,2] (sq (rg ?_)))
 refine as_ ?_
 refine wn (kk3 [1,2,3] (sq (sq (rg ?_))))
 refine as_ ?_
 refine wn (kk4 [1,2,3,4] (bk ?_))
 refine CW_nilRow 77 5 ?_
 refine C_loopM (GRow) (f.blocks.length) (fun k2 mk2 x2 => m.le mk2 ∧ (RSt rUse 5 mk2 x2 (uP f k2))) (fun k2 x2 => [(3, .slice (rowA x2.1) x2.2.1 x2.2.2.1), (4, .int .i64 (k2 : Int))]) (fun k2 x2 => [row x2.1 x2.2.1 x2.2.2.1 77 5 x2.2.2.2]) [3, 4] [1, 2] (F := [(1, _), (2, _)]) (_) ⟨Imm.le_refl _, (by rw [uP_zero]; exact RSt.nil)⟩ rfl rfl rfl (fun k2 mk2 x2 hk2 hJ2 => ?_)
 obtain ⟨hle2, hJ2⟩ := hJ2
 replace hF := rFunc_mono _ _ _ _ hle2 hF
 replace hq90 := hq90.mono rI_mono hle2
 replace hb90 := hb90.mono rBlock_mono hle2
 refine jj4 [1,2,3,4] (sq (sq (rg ?_)))
 refine mv (fb 2 T.fo25_2 (lb 1 T.ag23 (ln Tryz.underlying23 (bl ?_))))
 refine wn (kk5 [1,2,3,4,16] ?_)
 refine cd ?_ ?_ <;> intro h4 <;> try simp only [tt] at h4
 refine sk (kk4 [1,2,3,4] (sq (bk (sq (rg ?_)))))
 refine fb 2 T.fo25_2 (lb 1 T.ag23 (mv ?_))
 obtain ⟨ad5, hA5⟩ := hb90.ad (j := k2) (by omega)
 obtain ⟨z5, hz5⟩ := hb90.getz (j := k2) (by omega)
 refine ixz hA5 Tryz.underlying23 T.sz44 ?_
 obtain ⟨es6, f6, _, l6⟩ := Sl.get hb90 hA5 hz5
 have F6 := f6
 obtain ⟨A6, c6, B6, d6, C6, e6, rfl, hp6, ho6, ht6, i6a, i6b⟩ := f6
 refine W_q (r_load_immk (vs := [_, _, _, _, _]) rfl T.ag44 T.sz44 l6) rfl ?_
 refine sa5 T.ze44 (fun b7 => ?_)
 refine sb5 0 T.sz44 ?_
 refine wn (kk5 [1,2,3,4,5] (sq (sq (rg ?_))))
 refine as_ ?_
 refine wn (kk6 [1,2,3,4,5,6] (bk ?_))
 refine CW_front 1 rfl rfl ?_
 refine C_loop (GRow) (z5.phis.length) (fun k8 x8 => RSt rUse 5 mk2 x8 (uQ f k2 z5 k8)) (fun k8 x8 => [(3, .slice (rowA x8.1) x8.2.1 x8.2.2.1), (6, .int .i64 (k8 : Int))]) (fun k8 x8 => [row x8.1 x8.2.1 x8.2.2.1 77 5 x8.2.2.2]) [3, 6] [1, 2, 4, 5] (F := [(1, _), (2, _), (4, _), (5, _)]) (_) (hJ2.to uQ_zero) rfl rfl rfl (fun k8 x8 hk8 hJ8 => ?_)
 refine jj6 [1,2,3,4,5,6] (sq (sq (rg ?_)))
 refine mv (fb 0 T.fo44_0 ?_)
 have hphl : z5.phis.length ≤ 140737488355328 := Sl.len (r := rPhi) (sz := 4) (xs := z5.phis) (by assumption)
 refine lb 1 T.ag39 (ln Tryz.underlying39 (bl ?_))
 refine wn (kk7 [1,2,3,4,5,6,28] ?_)
 refine cd ?_ ?_ <;> intro h9 <;> try simp only [tt] at h9
 refine sk (kk6 [1,2,3,4,5,6] (sq (bk (sq (rg ?_)))))
 refine fb 0 T.fo44_0 (lb 1 T.ag39 (mv ?_))
 obtain ⟨ad10, hA10⟩ := hp6.ad (j := k8) (by omega)
 obtain ⟨z10, hz10⟩ := hp6.getz (j := k8) (by omega)
 refine ixz hA10 Tryz.underlying39 T.sz61 ?_
 obtain ⟨es11, f11, _, l11⟩ := Sl.get hp6 hA10 hz10
 have F11 := f11
 obtain ⟨A11, c11, B11, d11, rfl, h11, g11, i11a, i11b⟩ := f11
 refine W_q (r_load_immk (vs := [_, _, _, _]) rfl T.ag61 T.sz61 l11) rfl ?_
 refine sa4 T.ze61 (fun b12 => ?_)
 refine sb4 0 T.sz61 ?_
 refine wn (kk7 [1,2,3,4,5,6,7] (sq (rg ?_)))
 refine as_ ?_
 refine wn (kk8 [1,2,3,4,5,6,7,8] (bk ?_))
 refine CW_front 1 rfl rfl ?_
 refine C_loop (GRow) (z10.args.length) (fun k13 x13 => RSt rUse 5 mk2 x13 (uA f k2 z5 k8 z10 k13)) (fun k13 x13 => [(3, .slice (rowA x13.1) x13.2.1 x13.2.2.1), (8, .int .i64 (k13 : Int))]) (fun k13 x13 => [row x13.1 x13.2.1 x13.2.2.1 77 5 x13.2.2.2]) [3, 8] [1, 2, 4, 5, 6, 7] (F := [(1, _), (2, _), (4, _), (5, _), (6, _), (7, _)]) (_) (hJ8.to uA_zero) rfl rfl rfl (fun k13 x13 hk13 hJ13 => ?_)
 have hxn := hJ13.n
 have hxl := uA_len (k3 := k13) hm hz5 hz10
 refine jj8 [1,2,3,4,5,6,7,8] (sq (sq (rg ?_)))
 refine mv (fb 3 T.fo61_3 ?_)
 have hal64 := ((may_lists hm (List.mem_of_getElem? hz5)).1 _ (List.mem_of_getElem? hz10)).1
 refine lb 1 T.ag22 (ln Tryz.underlying22 (bl ?_))
 refine wn (kk9 [1,2,3,4,5,6,7,8,40] ?_)
 refine cd ?_ ?_ <;> intro h14 <;> try simp only [tt] at h14
 refine sk (kk8 [1,2,3,4,5,6,7,8] (sq (bk ?_)))
 refine C_drawnk 1 [(0, true), (1, true), (2, true), (3, true), (4, true), (5, true), (6, true), (7, true), (8, true), (9, true), (10, true), (11, true), (12, true), (13, true), (14, true), (15, false), (16, false), (17, true)] (by kernel_rfl) rfl (by kernel_rfl) (by kernel_rfl) ?_
 refine dmv ?_
 refine dfb 3 T.fo61_3 ?_
 refine dlb 0 T.ag22 ?_
 refine dmv ?_
 obtain ⟨ad15, hA15⟩ := g11.ad (j := k13) (by omega)
 obtain ⟨z15, hz15⟩ := g11.getz (j := k13) (by omega)
 refine D_q rfl (r_index hA15 Tryz.underlying22 T.sz3 rfl rfl ⟨by omega, by omega⟩) rfl ?_
 obtain ⟨l16, r16⟩ := Sl.getI g11 hA15 hz15
 refine D_q rfl (r_load_imm rfl T.ag3 l16) rfl ?_
 refine dfb 2 T.fo61_2 ?_
 refine dlb 0 T.ag22 ?_
 refine dmv ?_
 have hfl := hph _ (List.mem_of_getElem? hz5) _ (List.mem_of_getElem? hz10)
 obtain ⟨ad17, hA17⟩ := h11.ad (j := k13) (by omega)
 obtain ⟨z17, hz17⟩ := h11.getz (j := k13) (by omega)
 refine D_q rfl (r_index hA17 Tryz.underlying22 T.sz3 rfl rfl ⟨by omega, by omega⟩) rfl ?_
 obtain ⟨l18, r18⟩ := Sl.getI h11 hA17 hz17
 refine D_q rfl (r_load_imm rfl T.ag3 l18) rfl ?_
 refine dfb 0 T.fo61_0 ?_
 refine dlb 0 T.ag3 ?_
 refine D_q rfl (r_builda (zs := [_, _]) (cs := [_, _]) Tryz.underlying71 T.sz3 T.ze71 rfl rfl rfl) rfl ?_
 refine D_q rfl (r_builds (cs := [_, _, _, _, _]) T.bl77 rfl rfl) rfl ?_
 refine D_f rfl (fun hs19 hc19 => ?_)
 refine S_litr (vs := [_]) (cs := [_, _, _, _, _]) Tryz.underlying75 T.sz77 T.ze77 rfl rfl rfl rfl rfl rfl rfl (fun b20 => ?_)
 refine W_leftw hs19 hc19 (Imm.le_refl _) (sub_drop 2 rfl) ?_
 refine D_f rfl (fun hs21 hc21 => ?_)
 refine S_appendG [_, _, _, _, _] 1 rfl rfl rfl Tryz.underlying75 T.sz77 T.ze77 T.by77 rfl rfl rfl (.row 0 rfl) rfl (by omega) (by unfold maxLen; omega) rfl (fun g22 c22 hg22 => ?_)
 refine W_leftw hs21 hc21 (Imm.le_refl _) (sub_drop 2 rfl) ?_
 refine das ?_
 refine D_end ?_
 refine nb (kk8 [1,2,3,4,5,6,7,8] (rg ?_))
 refine mv ?_
 refine ad ?_
 refine as_ ?_
 refine wn ?_
 refine NX_rnd [3, 8, 1, 2, 4, 5, 6, 7] (by omega) ((_, _, _, _)) ?_ rfl (sub_drop 1 rfl) rfl (Imm.le_refl _)
 exact (hJ13.snoc (z := (_, (z10.bits, 1), _, 1000)) ⟨rfl, by assumption, by assumption, ⟨by dsimp only; omega, by dsimp only; omega⟩, by assumption, ⟨by dsimp only; omega, by dsimp only; omega⟩⟩ hg22 rfl).to (uA_succ hz15 hz17).symm
 refine C_exit (EX_then (EX_then (EX_hit (?_))))
 refine nb (kk6 [1,2,3,4,5,6] (rg ?_))
 refine mv ?_
 refine ad ?_
 refine as_ ?_
 refine wn ?_
 refine NX_rnd [3, 6, 1, 2, 4, 5] (by omega) (_) ?_ rfl (List.Sublist.cons_cons _ (sub_drop 1 rfl)) rfl (Imm.le_refl _)
 exact hJ13.to (by rw [show k13 = z10.args.length by omega, uA_end hz10])
 refine C_exit (EX_then (EX_then (EX_hit (?_))))
 refine kk5 [1,2,3,4,5] (sq (sq (rg ?_)))
 refine as_ ?_
 refine wn (kk6 [1,2,3,4,5,9] (bk ?_))
 refine CW_front 0 rfl rfl ?_
 refine C_loopM (GRow) (z5.ops.length) (fun k23 mk23 x23 => mk2.le mk23 ∧ (RSt rUse 5 mk23 x23 (uO f k2 z5 k23))) (fun k23 x23 => [(3, .slice (rowA x23.1) x23.2.1 x23.2.2.1), (9, .int .i64 (k23 : Int))]) (fun k23 x23 => [row x23.1 x23.2.1 x23.2.2.1 77 5 x23.2.2.2]) [3, 9] [1, 2, 4, 5] (F := [(1, _), (2, _), (4, _), (5, _)]) (_) ⟨Imm.le_refl _, (hJ8.to (by rw [show k8 = z5.phis.length by omega, uO_zero]))⟩ rfl rfl rfl (fun k23 mk23 x23 hk23 hJ23 => ?_)
 obtain ⟨hle23, hJ23⟩ := hJ23
 replace hF := rFunc_mono _ _ _ _ hle23 hF
 replace hq90 := hq90.mono rI_mono hle23
 replace hb90 := hb90.mono rBlock_mono hle23
 replace F6 := rBlock_mono _ _ _ _ hle23 F6
 replace hp6 := hp6.mono rPhi_mono hle23
 replace ho6 := ho6.mono rOp_mono hle23
 replace ht6 := ht6.mono rI_mono hle23
 have hxn3 := hJ23.n
 have huo := uO_len (k4 := k23) hm hz5
 refine jj6 [1,2,3,4,5,9] (sq (sq (rg ?_)))
 refine mv (fb 1 T.fo44_1 ?_)
 have hopl : z5.ops.length ≤ 140737488355328 := Sl.len (r := rOp) (sz := 6) (xs := z5.ops) (by assumption)
 refine lb 1 T.ag40 (ln Tryz.underlying40 (bl ?_))
 refine wn (kk7 [1,2,3,4,5,9,64] ?_)
 refine cd ?_ ?_ <;> intro h24 <;> try simp only [tt] at h24
 refine sk (kk6 [1,2,3,4,5,9] (sq (bk (sq (rg ?_)))))
 refine fb 1 T.fo44_1 (lb 1 T.ag40 (mv ?_))
 obtain ⟨ad25, hA25⟩ := ho6.ad (j := k23) (by omega)
 obtain ⟨z25, hz25⟩ := ho6.getz (j := k23) (by omega)
 refine ixz hA25 Tryz.underlying40 T.sz51 ?_
 obtain ⟨es26, f26, _, l26⟩ := Sl.get ho6 hA25 hz25
 have F26 := f26
 obtain ⟨A26, c26, rfl, h26, i26a, i26b, i26c, i26d, i26e⟩ := f26
 refine W_q (r_load_immk (vs := [_, _, _, _, _, _]) rfl T.ag51 T.sz51 l26) rfl ?_
 refine S_gives (rTakes_g F26) T.hb95 rfl rfl (fun m27 v27 le27 hv27 => ?_)
 replace hF := rFunc_mono _ _ _ _ le27 hF
 replace hq90 := hq90.mono rI_mono le27
 replace hb90 := hb90.mono rBlock_mono le27
 replace F6 := rBlock_mono _ _ _ _ le27 F6
 replace hp6 := hp6.mono rPhi_mono le27
 replace ho6 := ho6.mono rOp_mono le27
 replace ht6 := ht6.mono rI_mono le27
 replace hJ23 := hJ23.mono (le27)
 replace F26 := rOp_mono _ _ _ _ le27 F26
 replace h26 := h26.mono rI_mono le27
 obtain ⟨At27, ct27, rfl, ht27⟩ := hv27
 refine as_ ?_
 refine wn (kk7 [1,2,3,4,5,9,10] (sq (rg ?_)))
 refine as_ ?_
 refine wn (kk8 [1,2,3,4,5,9,10,11] (bk ?_))
 refine CW_front 0 rfl rfl ?_
 refine C_loop (GRow) ((takesK z25).length) (fun k28 x28 => RSt rUse 5 m27 x28 (uT f k2 z5 k23 z25 k28)) (fun k28 x28 => [(3, .slice (rowA x28.1) x28.2.1 x28.2.2.1), (11, .int .i64 (k28 : Int))]) (fun k28 x28 => [row x28.1 x28.2.1 x28.2.2.1 77 5 x28.2.2.2]) [3, 11] [1, 2, 4, 5, 9, 10] (F := [(1, _), (2, _), (4, _), (5, _), (9, _), (10, _)]) (_) (hJ23.to uT_zero) rfl rfl rfl (fun k28 x28 hk28 hJ28 => ?_)
 have hxn := hJ28.n
 have hxl := uT_len (k5 := k28) hm hz5 hz25
 refine jj8 [1,2,3,4,5,9,10,11] (sq (sq (rg ?_)))
 refine mv ?_
 have htk := takesK_len z25
 have hol64 := (may_lists hm (List.mem_of_getElem? hz5)).2 _ (List.mem_of_getElem? hz25)
 refine mv (ln Tryz.underlying113 (bl ?_))
 refine wn (kk9 [1,2,3,4,5,9,10,11,76] ?_)
 refine cd ?_ ?_ <;> intro h29 <;> try simp only [tt] at h29
 refine sk (kk8 [1,2,3,4,5,9,10,11] (sq (bk ?_)))
 refine C_drawnk 1 [(0, true), (1, true), (2, true), (3, true), (4, true), (5, true), (6, true), (7, true), (8, true), (9, true), (10, true), (11, true), (12, true), (13, true), (14, true), (15, true), (16, true), (17, false), (18, false), (19, true)] (by kernel_rfl) rfl (by kernel_rfl) (by kernel_rfl) ?_
 refine dmv ?_
 refine dfb 1 T.fo44_1 ?_
 refine dlb 0 T.ag40 ?_
 refine dmv ?_
 obtain ⟨ad30, hA30⟩ := ho6.ad (j := k23) (by omega)
 refine D_q rfl (r_index hA30 Tryz.underlying40 T.sz51 rfl rfl ⟨by omega, by omega⟩) rfl ?_
 refine D_q rfl (r_field rfl T.fo51_4) rfl ?_
 obtain ⟨es31, f31, _, l31⟩ := Sl.get ho6 hA30 hz25
 obtain ⟨A31, c31, rfl, h31, i31a, i31b, i31c, i31d, i31e⟩ := f31
 refine D_q rfl (r_load_imm rfl T.ag22 (l31 4 _ rfl)) rfl ?_
 refine dmv ?_
 obtain ⟨ad32, hA32⟩ := h31.ad (j := k28) (by omega)
 obtain ⟨z32, hz32⟩ := h31.getz (j := k28) (by omega)
 refine D_q rfl (r_index hA32 Tryz.underlying22 T.sz3 rfl rfl ⟨by omega, by omega⟩) rfl ?_
 obtain ⟨l33, r33⟩ := Sl.getI h31 hA32 hz32
 refine D_q rfl (r_load_imm rfl T.ag3 l33) rfl ?_
 refine dmv ?_
 refine dmv ?_
 refine dmv ?_
 refine dmv ?_
 obtain ⟨ad34, hA34⟩ := ht27.ad (j := k28) (by omega)
 obtain ⟨z34, hz34⟩ := ht27.getz (j := k28) (by omega)
 refine D_q rfl (r_index hA34 Tryz.underlying113 T.sz71 rfl rfl ⟨by omega, by omega⟩) rfl ?_
 obtain ⟨es35, f35, _, l35⟩ := Sl.get ht27 hA34 hz34
 have F35 := f35
 obtain ⟨rfl, i35a, i35b⟩ := f35
 refine D_q rfl (r_load_immk (vs := [_, _]) rfl T.ag71 T.sz71 l35) rfl ?_
 refine D_q rfl (r_builds (cs := [_, _, _, _, _]) T.bl77 rfl rfl) rfl ?_
 refine D_f rfl (fun hs36 hc36 => ?_)
 refine S_litr (vs := [_]) (cs := [_, _, _, _, _]) Tryz.underlying75 T.sz77 T.ze77 rfl rfl rfl rfl rfl rfl rfl (fun b37 => ?_)
 refine W_leftw hs36 hc36 (Imm.le_refl _) (sub_drop 2 rfl) ?_
 refine D_f rfl (fun hs38 hc38 => ?_)
 refine S_appendG [_, _, _, _, _] 1 rfl rfl rfl Tryz.underlying75 T.sz77 T.ze77 T.by77 rfl rfl rfl (.row 0 rfl) rfl (by omega) (by unfold maxLen; omega) rfl (fun g39 c39 hg39 => ?_)
 refine W_leftw hs38 hc38 (Imm.le_refl _) (sub_drop 2 rfl) ?_
 refine das ?_
 refine D_end ?_
 refine nb (kk8 [1,2,3,4,5,9,10,11] (rg ?_))
 refine mv ?_
 refine ad ?_
 refine as_ ?_
 refine wn ?_
 refine NX_rnd [3, 11, 1, 2, 4, 5, 9, 10] (by omega) ((_, _, _, _)) ?_ rfl (sub_drop 1 rfl) rfl (Imm.le_refl _)
 exact (hJ28.snoc (z := (_, _, (k2 : Int), (k23 : Int))) ⟨rfl, by assumption, ⟨by dsimp only; omega, by dsimp only; omega⟩, ⟨by dsimp only; omega, by dsimp only; omega⟩, by assumption, by assumption⟩ hg39 rfl).to (uT_succ hz32 hz34).symm
 refine C_exit (EX_then (EX_then (EX_hit (?_))))
 refine nb (kk6 [1,2,3,4,5,9] (rg ?_))
 refine mv ?_
 refine ad ?_
 refine as_ ?_
 refine wn ?_
 refine NX_rndM [3, 9, 1, 2, 4, 5] (by omega) (_) ⟨Imm.le_trans (hle23) le27, ?_⟩ rfl (List.Sublist.refl _) rfl
 exact hJ28.to (by rw [show k28 = (takesK z25).length by omega, uT_end hz25])
 refine C_exit (EX_then (EX_then (EX_hit (?_))))
 refine kk5 [1,2,3,4,5] (sq (sq (rg ?_)))
 refine fb 2 T.fo44_2 (fb 2 T.fo42_0 (lb 1 T.ag3 (be ?_)))
 refine wn (kk6 [1,2,3,4,5,101] ?_)
 refine cd ?_ ?_ <;> intro h40 <;> try simp only [tt] at h40
 refine rg ?_
 refine mv (fb 2 T.fo44_2 (fb 3 T.fo42_1 (lb 1 T.ag3 (mv (fb 1 T.fo25_1 (lb 2 T.ag3 ?_))))))
 refine W_q (r_builda (zs := [_, _]) (cs := [_, _]) Tryz.underlying71 T.sz3 T.ze71 rfl rfl rfl) rfl ?_
 refine W_q (r_builds (cs := [_, _, _, _, _]) T.bl77 rfl rfl) rfl ?_
 refine S_litr (vs := [_]) (cs := [_, _, _, _, _]) Tryz.underlying75 T.sz77 T.ze77 rfl rfl rfl rfl rfl rfl rfl (fun b41 => ?_)
 refine S_appendG [_, _, _, _, _] 1 rfl rfl rfl Tryz.underlying75 T.sz77 T.ze77 T.by77 rfl rfl rfl (.row 0 rfl) rfl (by omega) (by unfold maxLen; omega) rfl (fun g42 c42 hg42 => ?_)
 refine as_ ?_
 refine wn (kk5 [1,2,3,4,5] (sq (rg ?_)))
 refine fb 2 T.fo44_2 (fb 2 T.fo42_0 (lb 2 T.ag3 (be ?_)))
 refine wn (kk6 [1,2,3,4,5,116] ?_)
 refine cd ?_ ?_ <;> intro h43 <;> try simp only [tt] at h43
 refine rg ?_
 refine mv (fb 2 T.fo44_2 (fb 3 T.fo42_1 (lb 2 T.ag3 (mv ?_))))
 refine W_q (r_builda (zs := [_, _]) (cs := [_, _]) Tryz.underlying71 T.sz3 T.ze71 rfl rfl rfl) rfl ?_
 refine W_q (r_builds (cs := [_, _, _, _, _]) T.bl77 rfl rfl) rfl ?_
 refine S_litr (vs := [_]) (cs := [_, _, _, _, _]) Tryz.underlying75 T.sz77 T.ze77 rfl rfl rfl rfl rfl rfl rfl (fun b44 => ?_)
 refine S_appendG [_, _, _, _, _] 2 rfl rfl rfl Tryz.underlying75 T.sz77 T.ze77 T.by77 rfl rfl rfl (.row 0 rfl) rfl (by omega) (by unfold maxLen; omega) rfl (fun g45 c45 hg45 => ?_)
 refine as_ ?_
 refine wn (nb (kk4 [1,2,3,4] (rg ?_)))
 refine mv ?_
 refine ad ?_
 refine as_ ?_
 refine wn ?_
 refine NX_rndM [3, 4, 1, 2] (by omega) ((_, _, _, _)) ⟨Imm.le_trans (hle2) hle23, ?_⟩ rfl (List.Sublist.cons _ (List.Sublist.cons _ (List.Sublist.cons_cons _ (sub_drop 1 rfl)))) rfl
 have hJ3 := hJ23
 rw [show k23 = z5.ops.length by omega] at hJ3
 exfalso; omega
 refine sk (nb (kk4 [1,2,3,4] (rg ?_)))
 refine mv ?_
 refine ad ?_
 refine as_ ?_
 refine wn ?_
 refine NX_rndM [3, 4, 1, 2] (by omega) ((_, _, _, _)) ⟨Imm.le_trans (hle2) hle23, ?_⟩ rfl (List.Sublist.cons _ (List.Sublist.cons_cons _ (sub_drop 1 rfl))) rfl
 have hJ3 := hJ23
 rw [show k23 = z5.ops.length by omega] at hJ3
 exact (hJ3.snoc (z := (z5.fin.arg, (f.ret, 1), (k2 : Int), 1000)) ⟨rfl, by assumption, ⟨by dsimp only; omega, by dsimp only; omega⟩, ⟨by dsimp only; omega, by dsimp only; omega⟩, by assumption, ⟨by dsimp only; omega, by dsimp only; omega⟩⟩ hg42 rfl).to (by rw [← uO_end hz5, endR_0 (by assumption)])
 refine sk (kk5 [1,2,3,4,5] (sq (rg ?_)))
 refine fb 2 T.fo44_2 (fb 2 T.fo42_0 (lb 1 T.ag3 (be ?_)))
 refine wn (kk6 [1,2,3,4,5,116] ?_)
 refine cd ?_ ?_ <;> intro h46 <;> try simp only [tt] at h46
 refine rg ?_
 refine mv (fb 2 T.fo44_2 (fb 3 T.fo42_1 (lb 1 T.ag3 (mv ?_))))
 refine W_q (r_builda (zs := [_, _]) (cs := [_, _]) Tryz.underlying71 T.sz3 T.ze71 rfl rfl rfl) rfl ?_
 refine W_q (r_builds (cs := [_, _, _, _, _]) T.bl77 rfl rfl) rfl ?_
 refine S_litr (vs := [_]) (cs := [_, _, _, _, _]) Tryz.underlying75 T.sz77 T.ze77 rfl rfl rfl rfl rfl rfl rfl (fun b47 => ?_)
 refine S_appendG [_, _, _, _, _] 1 rfl rfl rfl Tryz.underlying75 T.sz77 T.ze77 T.by77 rfl rfl rfl (.row 0 rfl) rfl (by omega) (by unfold maxLen; omega) rfl (fun g48 c48 hg48 => ?_)
 refine as_ ?_
 refine wn (nb (kk4 [1,2,3,4] (rg ?_)))
 refine mv ?_
 refine ad ?_
 refine as_ ?_
 refine wn ?_
 refine NX_rndM [3, 4, 1, 2] (by omega) ((_, _, _, _)) ⟨Imm.le_trans (hle2) hle23, ?_⟩ rfl (List.Sublist.cons _ (List.Sublist.cons_cons _ (sub_drop 1 rfl))) rfl
 have hJ3 := hJ23
 rw [show k23 = z5.ops.length by omega] at hJ3
 exact (hJ3.snoc (z := (z5.fin.arg, (1, 1), (k2 : Int), 1000)) ⟨rfl, by assumption, ⟨by dsimp only; omega, by dsimp only; omega⟩, ⟨by dsimp only; omega, by dsimp only; omega⟩, ⟨by dsimp only; omega, by dsimp only; omega⟩, ⟨by dsimp only; omega, by dsimp only; omega⟩⟩ hg48 rfl).to (by rw [← uO_end hz5, endR_2 (by assumption)])
 refine sk (nb (kk4 [1,2,3,4] (rg ?_)))
 refine mv ?_
 refine ad ?_
 refine as_ ?_
 refine wn ?_
 refine NX_rndM [3, 4, 1, 2] (by omega) ((_, _, _, _)) ⟨Imm.le_trans (hle2) hle23, ?_⟩ rfl (List.Sublist.cons_cons _ (sub_drop 1 rfl)) rfl
 have hJ3 := hJ23
 rw [show k23 = z5.ops.length by omega] at hJ3
 have hJ4 := hJ3.to (show _ = uP f (k2 + 1) by rw [← uO_end hz5, endR_n (by assumption) (by assumption), List.append_nil])
 exact hJ4
 refine C_exit (EX_then (EX_then (EX_hit (?_))))
 refine kk2 [2,3] (sq (rg ?_))
 refine mv (as_ ?_)
 refine wn (kk1 [2] ?_)
 have hJe := hJ2
 have hkn : k2 = f.blocks.length := by omega
 rw [hkn, uP_end] at hJe
 refine C_ret (RX_know (k_rowG 0 rfl) (fun hr => ?_))
 refine RX_freeze 0 rfl (fun _ h => h) (fun mf lef hf => ?_)
 have hJm := hJe.mono lef
 have hfin := hJm.sl hf hr.2.1 hr.2.2.1 (by have := uses_len hm; omega)
 exact RX_g1 rfl rfl ⟨_, _, by rw [hJe.n], hfin⟩
namespace T
theorem hb62 : hasBody Tryz.prog 62 = true := by kernel_rfl
end T
theorem okShape_fz {g : FGraph} {b : FBlk} {i : Nat} {zr x : Bool} (hg : GOk g) (hz : (reachP g 0 (-1))[i]? = some zr) (hx : x = true) (h : x = (!zr || ((b.fin.kind == 1 || b.fin.kind == 3) && !(b.fin.arg == 0)))) : okShape g (treeP g 0) i b = false := by
  rw [hx] at h
  cases zr with
  | false => exact okShape_f1 (over_reach hg hz)
  | true =>
    simp only [Bool.not_true, Bool.false_or, eq_comm (a := true), Bool.and_eq_true, Bool.or_eq_true, beq_iff_eq, Bool.not_eq_true', beq_eq_false_iff_ne] at h
    exact okShape_f3 h.1 h.2
theorem okShape_tz {g : FGraph} {b : FBlk} {i : Nat} {zr x : Bool} {pr : List Int} (hg : GOk g) (hpr : g.pred[i]? = some pr) (hz : (reachP g 0 (-1))[i]? = some zr) (hx : x = false) (h : x = (!zr || ((b.fin.kind == 1 || b.fin.kind == 3) && !(b.fin.arg == 0)))) (h2 : ∀ (j : Nat) p, j < b.phis.length → b.phis[j]? = some p → okPhi pr p = true) : okShape g (treeP g 0) i b = true := by
  rw [hx] at h
  cases zr with
  | false => simp at h
  | true =>
    refine okShape_t hpr (over_reach hg hz) h2 fun hk => ?_
    have hk' : (b.fin.kind == 1 || b.fin.kind == 3) = true := by simpa using hk
    rw [hk'] at h
    simpa using h.symm
theorem okTyped_n1 {lev : Int} {b : FBlk} {k : Nat} {p : FPhi} (h : b.phis[k]? = some p) (hp : mayW p.bits = false) : okTyped lev b = false := by
  rw [okTyped, all_false_of (p := fun p : FPhi => mayW p.bits) h hp]; rfl
theorem okTyped_n2 {lev : Int} {b : FBlk} {k : Nat} {o : FOp} (h : b.ops[k]? = some o) (ho : ofK lev o = false) : okTyped lev b = false := by
  rw [okTyped, all_false_of h ho]; simp
theorem okTyped_y {lev : Int} {b : FBlk} (h1 : (b.phis.all fun p : FPhi => mayW p.bits) = true) (h2 : b.ops.all (ofK lev) = true) : okTyped lev b = true := by
  rw [okTyped, h1, h2]; rfl
theorem ofK_n {lev : Int} {o : FOp} (h0 : 0 ≤ lev) (h : (lev < 2 ∧ (1 < o.lanes ∨ 20 < o.kind)) ∨ (lev < 1 ∧ 17 < o.kind)) : ofK lev o = false := by
  rcases h with h | h
  · exact ofK_f1 h.1 h.2
  · exact ofK_f2 h.1 h.2
theorem typed_ret {f : FFun} {lev : Int} (h1 : f.params.all mayW = true) (h2 : f.blocks.all (okTyped lev) = true) : decide (typedP f lev = 0) = mayW f.ret := by
  refine bool_ext ?_
  rw [decide_eq_true_eq, typedP_zero]
  exact ⟨fun h => h.1, fun h => ⟨h, h1, h2⟩⟩
theorem rShape11_q {m : Imm} {es : List Value} {f : FFun} (hF : rFunc m es f) : Quiet Tryz.prog 56 [.agg es.toArray] m (.bool (decide (shapeP f = 0))) := by
 have hF_0 := hF
 obtain ⟨A90, c90, B90, d90, rfl, hq90, hb90, i90a⟩ := hF_0
 have hbl := hb90.len
 refine quiet_of Tryz.func56 rfl Tryz.ntmps56 rfl (fun w => ?_)
 refine sq (rg ?_)
 refine S_box (l := [_, _, _]) rfl rfl rfl (fun b1 => ?_)
 refine as_ ?_
 refine wn (kk2 [1,2] (sq (rg ?_)))
 refine W_q (r_loadbk 0 (vs := [_, _, _]) rfl T.ag25 T.sz25 rfl rfl rfl) rfl ?_
 refine S_gives (rOf_g hF) T.hb62 rfl rfl (fun m2 v2 le2 hv2 => ?_)
 replace hF := rFunc_mono _ _ _ _ le2 hF
 replace hq90 := hq90.mono rI_mono le2
 replace hb90 := hb90.mono rBlock_mono le2
 obtain ⟨_, rfl, A2, c2, B2, d2, rfl, h2, g2⟩ := hv2
 generalize hgq : graphQ (ofP f) = gq at *
 have hGr : rGraph _ [_, _] gq.1 := ⟨_, _, _, _, rfl, h2, g2⟩
 refine mv ?_
 refine W_q (r_extract rfl rfl) rfl ?_
 refine W_q (r_extract rfl rfl) rfl ?_
 refine sa2 T.ze79 (fun b3 => ?_)
 refine sb2 0 T.sz79 ?_
 refine as_ ?_
 refine wn (kk4 [1,2,3,4] (sq (sq (rg ?_))))
 refine mv (bn ?_)
 refine wn (kk4 [1,2,3,15] ?_)
 refine cd ?_ ?_ <;> intro h4 <;> try simp only [tt] at h4
 refine sq (rg ?_)
 refine as_ ?_
 refine wn (kk3 [1,2,3] ?_)
 refine C_ret (RX_then (RX_q1 rfl rfl ?_))
 refine congrArg Value.bool ?_
 exact (shape_dec (shapeP_none (graphQ_non hgq (by assumption)))).symm
 refine sk (kk3 [1,2,3] (sq (rg ?_)))
 refine W_q (r_loadbk 0 (vs := [_, _]) rfl T.ag79 T.sz79 rfl rfl rfl) rfl ?_
 have hg := graphQ_zero hgq (by assumption)
 obtain ⟨hmg, hsu, hsl, hn1, hn2⟩ := ofP_some hg
 have hgo := mayG_ok hmg
 have hpl : gq.1.pred.length = f.blocks.length := by rw [hgo.pred, predsP_length, hsl]
 refine S_gives (rReach_g hGr hgo (root := 0) (-1) (by omega) (by omega)) T.hb91 rfl rfl (fun m5 v5 le5 hv5 => ?_)
 replace hF := rFunc_mono _ _ _ _ le5 hF
 replace hq90 := hq90.mono rI_mono le5
 replace hb90 := hb90.mono rBlock_mono le5
 replace h2 := h2.mono (rS_mono rI_mono) le5
 replace g2 := g2.mono (rS_mono rI_mono) le5
 replace hGr := rGraph_mono _ _ _ _ le5 hGr
 obtain ⟨Ar5, cr5, rfl, hr5⟩ := hv5
 refine as_ ?_
 refine wn (kk4 [1,2,3,5] (sq (sq (rg ?_))))
 refine as_ ?_
 refine wn (kk5 [1,2,3,5,6] (bk ?_))
 refine C_loop (Unit) (f.blocks.length) (fun k6 x6 => ∀ (j : Nat) b, j < k6 → f.blocks[j]? = some b → okShape gq.1 (treeP gq.1 0) j b = true) (fun k6 x6 => [(6, .int .i64 (k6 : Int))]) (fun _ _ => []) [6] [1, 3, 5] (F := [(1, _), (3, _), (5, _)]) (()) (fun j b h => absurd h (by omega)) rfl rfl rfl (fun k6 x6 hk6 hJ6 => ?_)
 refine jj4 [1,3,5,6] (sq (sq (rg ?_)))
 refine mv (fb 2 T.fo25_2 (lb 1 T.ag23 (ln Tryz.underlying23 (bl ?_))))
 refine wn (kk5 [1,3,5,6,22] ?_)
 refine cd ?_ ?_ <;> intro h7 <;> try simp only [tt] at h7
 refine sk (kk4 [1,3,5,6] (sq (bk (sq (rg ?_)))))
 refine fb 2 T.fo25_2 (lb 1 T.ag23 (mv ?_))
 obtain ⟨ad8, hA8⟩ := hb90.ad (j := k6) (by omega)
 obtain ⟨z8, hz8⟩ := hb90.getz (j := k6) (by omega)
 refine ixz hA8 Tryz.underlying23 T.sz44 ?_
 obtain ⟨es9, f9, _, l9⟩ := Sl.get hb90 hA8 hz8
 have F9 := f9
 obtain ⟨A9, c9, B9, d9, C9, e9, rfl, hp9, ho9, ht9, i9a, i9b⟩ := f9
 refine W_q (r_load_immk (vs := [_, _, _, _, _]) rfl T.ag44 T.sz44 l9) rfl ?_
 obtain ⟨zr1, hzr1⟩ : ∃ z, (reachP gq.1 0 (-1))[k6]? = some z := ⟨_, List.getElem?_eq_getElem (by rw [reachP_len]; omega)⟩
 refine sa5 T.ze44 (fun b10 => ?_)
 refine sb5 0 T.sz44 ?_
 refine wn (kk5 [1,3,5,6,7] (sq ?_))
 refine CW_cutV (Value.bool) 52 [1, 3, 5, 6, 7] (F := [(1, _), (3, _), (5, _), (6, _), (7, _)]) rfl (fun x11 => x11 = (!zr1 || ((z8.fin.kind == 1 || z8.fin.kind == 3) && !(z8.fin.arg == 0)))) ?_ (fun x11 hC11 => ?_)
 refine rg ?_
 refine mv (mv ?_)
 obtain ⟨ad12, hA12⟩ := hr5.ad (j := k6) (by rw [reachP_len]; omega)
 refine W_q (r_index hA12 Tryz.underlying54 T.sz4 rfl rfl ⟨by omega, by rw [reachP_len]; omega⟩) rfl ?_
 refine liz T.ag4 (Sl.getB hr5 hA12 hzr1) ?_
 refine nt (mv ?_)
 refine sp 35 ?_ ?_ <;> intro h14 <;> try simp only [tt] at h14
 refine ps (ps (ps (ps (ps (puz (puz (puz (puz (ps (ps (puz (puz (puz (puz (ps ?_)))))))))))))))
 refine pt ?_
 refine wn ?_
 refine NX_cutV (true) [52, 1, 3, 5, 6, 7] rfl ?_
 simp [*]
 refine tk (fb 2 T.fo44_2 ?_)
 refine tk (fb 2 T.fo42_0 ?_)
 refine tk (lb 0 T.ag3 ?_)
 refine tk (be ?_)
 refine tk (mv ?_)
 refine sp 40 ?_ ?_ <;> intro h15 <;> try simp only [tt] at h15
 refine ps (ps (ps (ps (tk (pt ?_)))))
 refine tk (mv ?_)
 refine tk (fb 2 T.fo44_2 ?_)
 refine tk (fb 3 T.fo42_1 ?_)
 refine tk (lb 0 T.ag3 ?_)
 refine tk (bn ?_)
 refine tk (pt (pf ?_))
 refine wn ?_
 refine NX_cutV (_) [52, 1, 3, 5, 6, 7] rfl ?_
 refine bool_ext ?_; simp_all
 refine tk (fb 2 T.fo44_2 ?_)
 refine tk (fb 2 T.fo42_0 ?_)
 refine tk (lb 0 T.ag3 ?_)
 refine tk (be ?_)
 refine tk (pf ?_)
 refine tk (mv ?_)
 refine sp 46 ?_ ?_ <;> intro h16 <;> try simp only [tt] at h16
 refine tk (fb 2 T.fo44_2 ?_)
 refine tk (fb 3 T.fo42_1 ?_)
 refine tk (lb 0 T.ag3 ?_)
 refine tk (bn ?_)
 refine tk (pt (pf ?_))
 refine wn ?_
 refine NX_cutV (_) [52, 1, 3, 5, 6, 7] rfl ?_
 refine bool_ext ?_; simp_all
 refine ps (ps (ps (ps (tk (pf (pf ?_))))))
 refine wn ?_
 refine NX_cutV (false) [52, 1, 3, 5, 6, 7] rfl ?_
 simp [*]
 refine cd ?_ ?_ <;> intro h17 <;> try simp only [tt] at h17
 refine sq (rg ?_)
 refine as_ ?_
 refine wn (kk6 [1,2,3,5,6,7] ?_)
 refine C_ret (RX_then (RX_block (RX_then (RX_then (RX_block (RX_then (RX_q1 rfl rfl ?_)))))))
 refine congrArg Value.bool ?_
 exact (shape_dec (shapeP_bad hg hz8 (okShape_fz hgo hzr1 (by assumption) (by assumption)))).symm
 refine sk (kk5 [1,3,5,6,7] (sq (rg ?_)))
 refine as_ ?_
 refine wn (kk6 [1,3,5,6,7,8] (bk ?_))
 refine C_loop (Unit) (z8.phis.length) (fun k18 x18 => ∀ (j : Nat) p, j < k18 → z8.phis[j]? = some p → ∀ pr, gq.1.pred[k6]? = some pr → okPhi pr p = true) (fun k18 x18 => [(8, .int .i64 (k18 : Int))]) (fun _ _ => []) [8] [1, 3, 5, 6, 7] (F := [(1, _), (3, _), (5, _), (6, _), (7, _)]) (()) (fun j p h => absurd h (by omega)) rfl rfl rfl (fun k18 x18 hk18 hJ18 => ?_)
 refine jj6 [1,3,5,6,7,8] (sq (sq (rg ?_)))
 have hphl : z8.phis.length ≤ 140737488355328 := Sl.len (r := rPhi) (sz := 4) (xs := z8.phis) (by assumption)
 refine mv (fb 0 T.fo44_0 (lb 0 T.ag39 (ln Tryz.underlying39 (bl ?_))))
 refine wn (kk7 [1,3,5,6,7,8,57] ?_)
 refine cd ?_ ?_ <;> intro h19 <;> try simp only [tt] at h19
 refine sk (kk6 [1,3,5,6,7,8] (sq (bk (sq ?_))))
 refine C_drawn [(0, true), (1, true), (2, true), (3, true), (4, true), (5, true), (6, true), (7, true), (8, true), (9, true), (10, true), (11, true), (12, true), (13, true), (14, true), (15, true), (16, true), (17, true), (18, true), (19, true), (20, true), (21, true), (22, true), (23, true), (24, true), (25, true), (26, true), (27, true), (28, true), (29, true), (30, true), (31, true), (32, true), (33, true), (34, true), (35, true), (36, true), (37, true)] (by kernel_rfl) rfl (by kernel_rfl) (by kernel_rfl) ?_
 refine dfb 1 T.fo79_1 ?_
 refine dlb 1 T.ag65 ?_
 obtain ⟨zp1, hzp1⟩ : ∃ z, z8.phis[k18]? = some z := ⟨_, List.getElem?_eq_getElem (by omega)⟩
 refine dmv ?_
 obtain ⟨ad20, hA20⟩ := g2.ad (j := k6) (by omega)
 obtain ⟨z20, hz20⟩ := g2.getz (j := k6) (by omega)
 refine D_q rfl (r_index hA20 Tryz.underlying65 T.sz22 rfl rfl ⟨by omega, by omega⟩) rfl ?_
 obtain ⟨A21, c21, l21, h21⟩ := Sl.getS g2 hA20 hz20
 refine D_q rfl (r_load_imm rfl T.ag22 l21) rfl ?_
 refine D_q rfl (r_len Tryz.underlying22 rfl) rfl ?_
 refine D_q rfl (r_bin rfl rfl (bin_eql _ _ _ _)) rfl ?_
 refine dmv ?_
 refine D_split (t := 67) rfl (fun h22 => ?_) (fun h22 => ?_)
 (try simp only [tt] at h22)
 refine dps ?_
 refine dps ?_
 refine dps ?_
 refine dps ?_
 refine dps ?_
 refine dps ?_
 refine dps ?_
 refine dps ?_
 refine dps ?_
 refine dps ?_
 refine dps ?_
 refine dps ?_
 refine dps ?_
 refine D_q rfl (r_pick_t rfl rfl) rfl ?_
 refine dmv ?_
 refine dps ?_
 refine dps ?_
 refine dps ?_
 refine dps ?_
 refine dps ?_
 refine dps ?_
 refine dps ?_
 refine dps ?_
 refine dps ?_
 refine dps ?_
 refine dps ?_
 refine dps ?_
 refine dps ?_
 refine dps ?_
 refine D_q rfl (r_pick_t rfl rfl) rfl ?_
 refine D_end ?_
 refine kk7 [1,3,5,6,7,8,97] ?_
 refine ctz (sq (rg ?_))
 refine as_ ?_
 refine wn (kk7 [1,2,3,5,6,7,8] ?_)
 refine C_ret (RX_block (RX_then (RX_then (RX_block (RX_block (RX_then (RX_then (RX_block (RX_then (RX_q1 rfl rfl ?_))))))))))
 refine congrArg Value.bool ?_
 exact (shape_dec (shapeP_bad hg hz8 (okShape_f2 hz20 hzp1 (okPhi_f0 (by omega))))).symm
 (try simp only [tt] at h22)
 refine D_qt rfl rfl rfl (r_fieldb (o' := 0) rfl T.fo44_0 rfl) rfl ?_
 refine D_qt rfl rfl rfl (r_loadb 0 rfl T.ag39 rfl rfl) rfl ?_
 refine D_qt rfl rfl rfl (r_move rfl) rfl ?_
 obtain ⟨ad23, hA23⟩ := hp9.ad (j := k18) (by omega)
 refine D_qt rfl rfl rfl (r_index hA23 Tryz.underlying39 T.sz61 rfl rfl ⟨by omega, by omega⟩) rfl ?_
 refine D_qt rfl rfl rfl (r_field rfl T.fo61_2) rfl ?_
 obtain ⟨es24, f24, _, l24⟩ := Sl.get hp9 hA23 hzp1
 obtain ⟨A24, c24, B24, d24, rfl, h24, g24, i24a, i24b⟩ := f24
 refine D_qt rfl rfl rfl (r_load_imm rfl T.ag22 (l24 2 _ rfl)) rfl ?_
 refine D_qt rfl rfl rfl (r_fieldb (o' := 1) rfl T.fo79_1 rfl) rfl ?_
 refine D_qt rfl rfl rfl (r_loadb 1 rfl T.ag65 rfl rfl) rfl ?_
 refine D_qt rfl rfl rfl (r_move rfl) rfl ?_
 obtain ⟨ad25, hA25⟩ := g2.ad (j := k6) (by omega)
 refine D_qt rfl rfl rfl (r_index hA25 Tryz.underlying65 T.sz22 rfl rfl ⟨by omega, by omega⟩) rfl ?_
 obtain ⟨A26, c26, l26, h26⟩ := Sl.getS g2 hA25 hz20
 refine D_qt rfl rfl rfl (r_load_imm rfl T.ag22 l26) rfl ?_
 refine D_quiett rfl rfl rfl (Ints_q h24 h26) T.hb21 rfl rfl ?_
 refine D_qt rfl rfl rfl (r_not rfl) rfl ?_
 refine D_q rfl (r_pick_f rfl rfl) rfl ?_
 refine dmv ?_
 refine D_split (t := 82) rfl (fun h27 => ?_) (fun h27 => ?_)
 (try simp only [tt] at h27)
 refine dps ?_
 refine dps ?_
 refine dps ?_
 refine dps ?_
 refine dps ?_
 refine dps ?_
 refine dps ?_
 refine dps ?_
 refine dps ?_
 refine dps ?_
 refine dps ?_
 refine dps ?_
 refine dps ?_
 refine dps ?_
 refine D_q rfl (r_pick_t rfl rfl) rfl ?_
 refine D_end ?_
 refine kk7 [1,3,5,6,7,8,97] ?_
 refine ctz (sq (rg ?_))
 refine as_ ?_
 refine wn (kk7 [1,2,3,5,6,7,8] ?_)
 refine C_ret (RX_block (RX_then (RX_then (RX_block (RX_block (RX_then (RX_then (RX_block (RX_then (RX_q1 rfl rfl ?_))))))))))
 refine congrArg Value.bool ?_
 exact (shape_dec (shapeP_bad hg hz8 (okShape_f2 hz20 hzp1 (okPhi_fa (by assumption))))).symm
 (try simp only [tt] at h27)
 refine D_qt rfl rfl rfl (r_fieldb (o' := 0) rfl T.fo44_0 rfl) rfl ?_
 refine D_qt rfl rfl rfl (r_loadb 0 rfl T.ag39 rfl rfl) rfl ?_
 refine D_qt rfl rfl rfl (r_move rfl) rfl ?_
 obtain ⟨ad28, hA28⟩ := hp9.ad (j := k18) (by omega)
 refine D_qt rfl rfl rfl (r_index hA28 Tryz.underlying39 T.sz61 rfl rfl ⟨by omega, by omega⟩) rfl ?_
 refine D_qt rfl rfl rfl (r_field rfl T.fo61_3) rfl ?_
 obtain ⟨es29, f29, _, l29⟩ := Sl.get hp9 hA28 hzp1
 obtain ⟨A29, c29, B29, d29, rfl, h29, g29, i29a, i29b⟩ := f29
 refine D_qt rfl rfl rfl (r_load_imm rfl T.ag22 (l29 3 _ rfl)) rfl ?_
 refine D_qt rfl rfl rfl (r_len Tryz.underlying22 rfl) rfl ?_
 refine D_qt rfl rfl rfl (r_fieldb (o' := 1) rfl T.fo79_1 rfl) rfl ?_
 refine D_qt rfl rfl rfl (r_loadb 1 rfl T.ag65 rfl rfl) rfl ?_
 refine D_qt rfl rfl rfl (r_move rfl) rfl ?_
 obtain ⟨ad30, hA30⟩ := g2.ad (j := k6) (by omega)
 refine D_qt rfl rfl rfl (r_index hA30 Tryz.underlying65 T.sz22 rfl rfl ⟨by omega, by omega⟩) rfl ?_
 obtain ⟨A31, c31, l31, h31⟩ := Sl.getS g2 hA30 hz20
 refine D_qt rfl rfl rfl (r_load_imm rfl T.ag22 l31) rfl ?_
 refine D_qt rfl rfl rfl (r_len Tryz.underlying22 rfl) rfl ?_
 refine D_qt rfl rfl rfl (r_bin rfl rfl (bin_neq _ _ _ _)) rfl ?_
 refine D_q rfl (r_pick_f rfl rfl) rfl ?_
 refine D_end ?_
 refine kk7 [1,3,5,6,7,8,97] ?_
 refine cd ?_ ?_ <;> intro h32 <;> try simp only [tt] at h32
 refine sq (rg ?_)
 refine as_ ?_
 refine wn (kk7 [1,2,3,5,6,7,8] ?_)
 refine C_ret (RX_block (RX_then (RX_then (RX_block (RX_block (RX_then (RX_then (RX_block (RX_then (RX_q1 rfl rfl ?_))))))))))
 refine congrArg Value.bool ?_
 exact (shape_dec (shapeP_bad hg hz8 (okShape_f2 hz20 hzp1 (okPhi_fb (by assumption) (by omega))))).symm
 refine sk (nb (kk6 [1,3,5,6,7,8] (rg ?_)))
 refine mv ?_
 refine ad ?_
 refine as_ ?_
 refine wn ?_
 refine NX_rnd [8, 1, 3, 5, 6, 7] (by omega) (()) ?_ rfl (List.Sublist.refl _) rfl (Imm.le_refl _)
 intro j p h1 h2 pr hpr
 by_cases e : j = k18
 · subst e; rw [hzp1] at h2; cases h2; rw [hz20] at hpr; cases hpr; exact okPhi_ta (by omega) (by assumption) (by omega)
 · exact hJ18 j p (by omega) h2 pr hpr
 refine C_exit (EX_then (EX_then (EX_hit (?_))))
 refine nb (kk4 [1,3,5,6] (rg ?_))
 refine mv ?_
 refine ad ?_
 refine as_ ?_
 refine wn ?_
 refine NX_rnd [6, 1, 3, 5] (by omega) (()) ?_ rfl (sub_drop 1 rfl) rfl (Imm.le_refl _)
 have hk1 : k18 = z8.phis.length := by omega
 have hJ1 := hJ18
 rw [hk1] at hJ1
 obtain ⟨pr, hpr⟩ : ∃ pr, gq.1.pred[k6]? = some pr := ⟨_, List.getElem?_eq_getElem (by omega)⟩
 intro j b h1 h2
 by_cases e : j = k6
 · subst e; rw [hz8] at h2; cases h2; exact okShape_tz hgo hpr hzr1 (by assumption) (by assumption) (fun j p h1 h2 => hJ1 j p h1 h2 pr hpr)
 · exact hJ6 j b (by omega) h2
 refine C_exit (EX_then (EX_then (EX_hit (?_))))
 refine kk0 [] (sq (rg ?_))
 refine as_ ?_
 refine wn (kk1 [2] ?_)
 refine C_ret (RX_q1 rfl rfl ?_)
 refine congrArg Value.bool ?_
 have hkk : k6 = f.blocks.length := by omega
 have hJe := hJ6
 rw [hkk] at hJe
 exact (shape_dec0 (shapeP_ok hg (fun i b hi => hJe i b (List.getElem?_eq_some_iff.1 hi).1 hi))).symm
theorem rTyped_q {m : Imm} {es : List Value} {f : FFun} (hF : rFunc m es f) (lev : Int) (h0 : 0 ≤ lev) (h2 : lev ≤ 2) : Quiet Tryz.prog 57 [.agg es.toArray, .int .i64 lev] m (.bool (decide (typedP f lev = 0))) := by
 have hF_0 := hF
 obtain ⟨A90, c90, B90, d90, rfl, hq90, hb90, i90a⟩ := hF_0
 have hbl := hb90.len
 have hql := hq90.len
 refine quiet_of Tryz.func57 rfl Tryz.ntmps57 rfl (fun w => ?_)
 refine sq (rg ?_)
 refine S_box (l := [_, _, _]) rfl rfl rfl (fun b1 => ?_)
 refine as_ ?_
 refine wn (kk3 [1,2,4] (sq (sq (rg ?_))))
 refine as_ ?_
 refine wn (kk4 [1,2,4,5] (bk ?_))
 refine C_loop (Unit) (f.params.length) (fun k2 x2 => ∀ j, j < k2 → ∀ y, f.params[j]? = some y → mayW y = true) (fun k2 x2 => [(5, .int .i64 (k2 : Int))]) (fun _ _ => []) [5] [1, 2] (F := [(1, _), (2, _)]) (()) (by simp) rfl rfl rfl (fun k2 x2 hk2 hJ2 => ?_)
 refine jj3 [1,2,5] (sq (sq (rg ?_)))
 refine mv (fb 0 T.fo25_0 (lb 0 T.ag22 (ln Tryz.underlying22 (bl ?_))))
 refine wn (kk4 [1,2,5,15] ?_)
 refine cd ?_ ?_ <;> intro h3 <;> try simp only [tt] at h3
 refine sk (kk3 [1,2,5] (sq (bk (sq (rg ?_)))))
 refine fb 0 T.fo25_0 (lb 0 T.ag22 (mv ?_))
 obtain ⟨ad4, hA4⟩ := hq90.ad (j := k2) (by omega)
 obtain ⟨z4, hz4⟩ := hq90.getz (j := k2) (by omega)
 refine ixz hA4 Tryz.underlying22 T.sz3 ?_
 obtain ⟨l5, r5⟩ := Sl.getI hq90 hA4 hz4
 refine liz T.ag3 l5 ?_
 refine W_quiet (rMayW_q _) T.hb92 rfl rfl ?_
 refine nt ?_
 refine wn (kk4 [1,2,5,24] ?_)
 refine cd ?_ ?_ <;> intro h6 <;> try simp only [tt] at h6
 refine sq (rg ?_)
 refine as_ ?_
 refine wn (kk4 [1,2,4,5] ?_)
 refine C_ret (RX_block (RX_then (RX_then (RX_block (RX_then (RX_q1 rfl rfl ?_))))))
 refine congrArg Value.bool ?_
 exact (typed_dec (typed_no (fun hc => by rw [all_false_of hz4 (by assumption)] at hc; exact absurd hc.2.1 (by decide)))).symm
 refine sk (nb (kk3 [1,2,5] (rg ?_)))
 refine mv ?_
 refine ad ?_
 refine as_ ?_
 refine wn ?_
 refine NX_rnd [5, 1, 2] (by omega) (()) ?_ rfl (List.Sublist.refl _) rfl (Imm.le_refl _)
 exact lt_succ_all hJ2 (fun y hy => by rw [hz4] at hy; cases hy; assumption)
 refine C_exit (EX_then (EX_then (EX_hit (?_))))
 refine kk2 [1,2] (sq (sq (rg ?_)))
 refine as_ ?_
 refine wn (kk3 [1,2,6] (bk ?_))
 refine C_loop (Unit) (f.blocks.length) (fun k7 x7 => ∀ j, j < k7 → ∀ y, f.blocks[j]? = some y → okTyped lev y = true) (fun k7 x7 => [(6, .int .i64 (k7 : Int))]) (fun _ _ => []) [6] [1, 2] (F := [(1, _), (2, _)]) (()) (by simp) rfl rfl rfl (fun k7 x7 hk7 hJ7 => ?_)
 refine jj3 [1,2,6] (sq (sq (rg ?_)))
 refine mv (fb 2 T.fo25_2 (lb 0 T.ag23 (ln Tryz.underlying23 (bl ?_))))
 refine wn (kk4 [1,2,6,29] ?_)
 refine cd ?_ ?_ <;> intro h8 <;> try simp only [tt] at h8
 refine sk (kk3 [1,2,6] (sq (bk (sq (sq (rg ?_))))))
 obtain ⟨zb1, hzb1⟩ : ∃ z, f.blocks[k7]? = some z := ⟨_, List.getElem?_eq_getElem (by omega)⟩
 refine as_ ?_
 refine wn (kk4 [1,2,6,7] (bk ?_))
 refine C_loop (Unit) (zb1.phis.length) (fun k9 x9 => ∀ j, j < k9 → ∀ y, zb1.phis[j]? = some y → (fun p : FPhi => mayW p.bits) y = true) (fun k9 x9 => [(7, .int .i64 (k9 : Int))]) (fun _ _ => []) [7] [1, 2, 6] (F := [(1, _), (2, _), (6, _)]) (()) (by simp) rfl rfl rfl (fun k9 x9 hk9 hJ9 => ?_)
 refine jj4 [1,2,6,7] (sq (sq (rg ?_)))
 refine mv (fb 2 T.fo25_2 (lb 0 T.ag23 (mv ?_)))
 obtain ⟨ad10, hA10⟩ := hb90.ad (j := k7) (by omega)
 refine ixz hA10 Tryz.underlying23 T.sz44 ?_
 refine W_q (r_field rfl T.fo44_0) rfl ?_
 obtain ⟨es11, f11, _, l11⟩ := Sl.get hb90 hA10 hzb1
 obtain ⟨A11, c11, B11, d11, C11, e11, rfl, hp11, ho11, ht11, i11a, i11b⟩ := f11
 refine liz T.ag39 (l11 0 _ rfl) ?_
 refine ln Tryz.underlying39 (bl ?_)
 refine wn (kk5 [1,2,6,7,40] ?_)
 refine cd ?_ ?_ <;> intro h12 <;> try simp only [tt] at h12
 refine sk (kk4 [1,2,6,7] (sq (bk (sq (rg ?_)))))
 refine fb 2 T.fo25_2 (lb 0 T.ag23 (mv ?_))
 obtain ⟨ad13, hA13⟩ := hb90.ad (j := k7) (by omega)
 refine ixz hA13 Tryz.underlying23 T.sz44 ?_
 refine W_q (r_field rfl T.fo44_0) rfl ?_
 obtain ⟨es14, f14, _, l14⟩ := Sl.get hb90 hA13 hzb1
 obtain ⟨A14, c14, B14, d14, C14, e14, rfl, hp14, ho14, ht14, i14a, i14b⟩ := f14
 refine liz T.ag39 (l14 0 _ rfl) ?_
 refine mv ?_
 obtain ⟨ad15, hA15⟩ := hp14.ad (j := k9) (by omega)
 obtain ⟨z15, hz15⟩ := hp14.getz (j := k9) (by omega)
 refine ixz hA15 Tryz.underlying39 T.sz61 ?_
 refine W_q (r_field rfl T.fo61_0) rfl ?_
 obtain ⟨es16, f16, _, l16⟩ := Sl.get hp14 hA15 hz15
 obtain ⟨A16, c16, B16, d16, rfl, h16, g16, i16a, i16b⟩ := f16
 refine liz T.ag3 (l16 0 _ rfl) ?_
 refine W_quiet (rMayW_q _) T.hb92 rfl rfl ?_
 refine nt ?_
 refine wn (kk5 [1,2,6,7,54] ?_)
 refine cd ?_ ?_ <;> intro h17 <;> try simp only [tt] at h17
 refine sq (rg ?_)
 refine as_ ?_
 refine wn (kk5 [1,2,4,6,7] ?_)
 refine C_ret (RX_block (RX_then (RX_then (RX_block (RX_then (RX_block (RX_then (RX_then (RX_block (RX_then (RX_q1 rfl rfl ?_)))))))))))
 refine congrArg Value.bool ?_
 exact (typed_dec (typed_no (fun hc => by rw [all_false_of hzb1 (okTyped_n1 hz15 (by assumption))] at hc; exact absurd hc.2.2 (by decide)))).symm
 refine sk (nb (kk4 [1,2,6,7] (rg ?_)))
 refine mv ?_
 refine W_q (r_add rfl rfl (by have := Sl.len (r := rPhi) (sz := 4) (xs := zb1.phis) (by assumption); constructor <;> omega)) rfl ?_
 refine as_ ?_
 refine wn ?_
 refine NX_rnd [7, 1, 2, 6] (by omega) (()) ?_ rfl (List.Sublist.refl _) rfl (Imm.le_refl _)
 exact lt_succ_all hJ9 (fun y hy => by rw [hz15] at hy; cases hy; assumption)
 refine C_exit (EX_then (EX_then (EX_hit (?_))))
 refine kk3 [1,2,6] (sq (rg ?_))
 refine as_ ?_
 refine wn (kk4 [1,2,6,8] (bk ?_))
 refine C_loop (Unit) (zb1.ops.length) (fun k18 x18 => ∀ j, j < k18 → ∀ y, zb1.ops[j]? = some y → ofK lev y = true) (fun k18 x18 => [(8, .int .i64 (k18 : Int))]) (fun _ _ => []) [8] [1, 2, 6] (F := [(1, _), (2, _), (6, _)]) (()) (by simp) rfl rfl rfl (fun k18 x18 hk18 hJ18 => ?_)
 refine jj4 [1,2,6,8] (sq (sq (rg ?_)))
 refine mv (fb 2 T.fo25_2 (lb 0 T.ag23 (mv ?_)))
 obtain ⟨ad19, hA19⟩ := hb90.ad (j := k7) (by omega)
 refine ixz hA19 Tryz.underlying23 T.sz44 ?_
 refine W_q (r_field rfl T.fo44_1) rfl ?_
 obtain ⟨es20, f20, _, l20⟩ := Sl.get hb90 hA19 hzb1
 obtain ⟨A20, c20, B20, d20, C20, e20, rfl, hp20, ho20, ht20, i20a, i20b⟩ := f20
 refine liz T.ag40 (l20 1 _ rfl) ?_
 refine ln Tryz.underlying40 (bl ?_)
 refine wn (kk5 [1,2,6,8,63] ?_)
 refine cd ?_ ?_ <;> intro h21 <;> try simp only [tt] at h21
 refine sk (kk4 [1,2,6,8] (sq (bk (sq (rg ?_)))))
 refine fb 2 T.fo25_2 (lb 0 T.ag23 (mv ?_))
 obtain ⟨ad22, hA22⟩ := hb90.ad (j := k7) (by omega)
 refine ixz hA22 Tryz.underlying23 T.sz44 ?_
 refine W_q (r_field rfl T.fo44_1) rfl ?_
 obtain ⟨es23, f23, _, l23⟩ := Sl.get hb90 hA22 hzb1
 obtain ⟨A23, c23, B23, d23, C23, e23, rfl, hp23, ho23, ht23, i23a, i23b⟩ := f23
 refine liz T.ag40 (l23 1 _ rfl) ?_
 refine mv ?_
 obtain ⟨ad24, hA24⟩ := ho23.ad (j := k18) (by omega)
 obtain ⟨z24, hz24⟩ := ho23.getz (j := k18) (by omega)
 refine ixz hA24 Tryz.underlying40 T.sz51 ?_
 obtain ⟨es25, f25, _, l25⟩ := Sl.get ho23 hA24 hz24
 have F25 := f25
 obtain ⟨A25, c25, rfl, h25, i25a, i25b, i25c, i25d, i25e⟩ := f25
 refine W_q (r_load_immk (vs := [_, _, _, _, _, _]) rfl T.ag51 T.sz51 l25) rfl ?_
 refine sa6 T.ze51 (fun b26 => ?_)
 refine sb6 0 T.sz51 ?_
 refine wn (kk5 [1,2,6,8,9] (sq (rg ?_)))
 refine as_ ?_
 refine wn (kk6 [1,2,6,8,9,10] (sq (sq (rg ?_))))
 refine mv (be ?_)
 refine wn (kk7 [1,2,6,8,9,10,76] ?_)
 refine cd ?_ ?_ <;> intro h27 <;> try simp only [tt] at h27
 refine rg ?_
 refine as_ ?_
 refine wn (kk6 [1,2,6,8,9,10] (sq (sq (rg ?_))))
 refine mv (be ?_)
 refine wn (kk7 [1,2,6,8,9,10,78] ?_)
 refine cd ?_ ?_ <;> intro h28 <;> try simp only [tt] at h28
 refine rg ?_
 refine as_ ?_
 refine wn (kk6 [1,2,6,8,9,10] (sq (rg ?_)))
 refine W_q (r_loadbk 0 (vs := [_, _, _, _, _, _]) rfl T.ag51 T.sz51 rfl rfl rfl) rfl ?_
 refine W_quiet (rMayOp_q F25) T.hb93 rfl rfl ?_
 refine nt (mv ?_)
 refine sp 82 ?_ ?_ <;> intro h29 <;> try simp only [tt] at h29
 refine ps (ps (ps (ps ?_)))
 refine pt (mv ?_)
 refine ps (ps (ps (puz (puz (puz (ps ?_))))))
 refine pt ?_
 refine wn (kk5 [1,2,6,8,96] ?_)
 refine ctz (sq (rg ?_))
 refine as_ ?_
 refine wn (kk5 [1,2,4,6,8] ?_)
 refine C_ret (RX_block (RX_then (RX_then (RX_block (RX_block (RX_then (RX_then (RX_block (RX_then (RX_q1 rfl rfl ?_))))))))))
 refine congrArg Value.bool ?_
 exact (typed_dec (typed_no (fun hc => by rw [all_false_of hzb1 (okTyped_n2 hz24 (ofK_f0 (by assumption)))] at hc; exact absurd hc.2.2 (by decide)))).symm
 refine tk (fb 0 T.fo51_0 ?_)
 refine tk (lb 0 T.ag3 ?_)
 refine tk (mv ?_)
 refine tk (bg (pf (mv ?_)))
 refine sp 88 ?_ ?_ <;> intro h30 <;> try simp only [tt] at h30
 refine ps (ps (ps (puz (puz (puz (ps ?_))))))
 refine pt ?_
 refine wn (kk5 [1,2,6,8,96] ?_)
 refine ctz (sq (rg ?_))
 refine as_ ?_
 refine wn (kk5 [1,2,4,6,8] ?_)
 refine C_ret (RX_block (RX_then (RX_then (RX_block (RX_block (RX_then (RX_then (RX_block (RX_then (RX_q1 rfl rfl ?_))))))))))
 refine congrArg Value.bool ?_
 exact (typed_dec (typed_no (fun hc => by rw [all_false_of hzb1 (okTyped_n2 hz24 (ofK_n (by omega) (by omega)))] at hc; exact absurd hc.2.2 (by decide)))).symm
 refine tk (mv ?_)
 refine tk (bl ?_)
 refine tk (mv ?_)
 refine sp 91 ?_ ?_ <;> intro h31 <;> try simp only [tt] at h31
 refine tk (fb 2 T.fo51_2 ?_)
 refine tk (lb 0 T.ag3 ?_)
 refine tk (bg ?_)
 refine tk (pt (pf ?_))
 refine wn (kk5 [1,2,6,8,96] ?_)
 refine cd ?_ ?_ <;> intro h32 <;> try simp only [tt] at h32
 refine sq (rg ?_)
 refine as_ ?_
 refine wn (kk5 [1,2,4,6,8] ?_)
 refine C_ret (RX_block (RX_then (RX_then (RX_block (RX_block (RX_then (RX_then (RX_block (RX_then (RX_q1 rfl rfl ?_))))))))))
 refine congrArg Value.bool ?_
 exact (typed_dec (typed_no (fun hc => by rw [all_false_of hzb1 (okTyped_n2 hz24 (ofK_n (by omega) (by omega)))] at hc; exact absurd hc.2.2 (by decide)))).symm
 refine sk (nb (kk4 [1,2,6,8] (rg ?_)))
 refine mv ?_
 refine W_q (r_add rfl rfl (by have := Sl.len (r := rOp) (sz := 6) (xs := zb1.ops) (by assumption); constructor <;> omega)) rfl ?_
 refine as_ ?_
 refine wn ?_
 refine NX_rnd [8, 1, 2, 6] (by omega) (()) ?_ rfl (sub_drop 1 rfl) rfl (Imm.le_refl _)
 exact lt_succ_all hJ18 (fun y hy => by rw [hz24] at hy; cases hy; rw [ofK_t (by omega) (by omega)]; assumption)
 refine ps (ps (ps (tk (pf (pf ?_)))))
 refine wn (kk5 [1,2,6,8,96] ?_)
 refine cfz (sk (nb (kk4 [1,2,6,8] (rg ?_))))
 refine mv ?_
 refine W_q (r_add rfl rfl (by have := Sl.len (r := rOp) (sz := 6) (xs := zb1.ops) (by assumption); constructor <;> omega)) rfl ?_
 refine as_ ?_
 refine wn ?_
 refine NX_rnd [8, 1, 2, 6] (by omega) (()) ?_ rfl (sub_drop 1 rfl) rfl (Imm.le_refl _)
 exact lt_succ_all hJ18 (fun y hy => by rw [hz24] at hy; cases hy; rw [ofK_t (by omega) (by omega)]; assumption)
 refine sk (kk6 [1,2,6,8,9,10] (sq (rg ?_)))
 refine W_q (r_loadbk 0 (vs := [_, _, _, _, _, _]) rfl T.ag51 T.sz51 rfl rfl rfl) rfl ?_
 refine W_quiet (rMayOp_q F25) T.hb93 rfl rfl ?_
 refine nt (mv ?_)
 refine sp 82 ?_ ?_ <;> intro h33 <;> try simp only [tt] at h33
 refine ps (ps (ps (ps ?_)))
 refine pt (mv ?_)
 refine ps (ps (ps (puz (puz (puz (ps ?_))))))
 refine pt ?_
 refine wn (kk5 [1,2,6,8,96] ?_)
 refine ctz (sq (rg ?_))
 refine as_ ?_
 refine wn (kk5 [1,2,4,6,8] ?_)
 refine C_ret (RX_block (RX_then (RX_then (RX_block (RX_block (RX_then (RX_then (RX_block (RX_then (RX_q1 rfl rfl ?_))))))))))
 refine congrArg Value.bool ?_
 exact (typed_dec (typed_no (fun hc => by rw [all_false_of hzb1 (okTyped_n2 hz24 (ofK_f0 (by assumption)))] at hc; exact absurd hc.2.2 (by decide)))).symm
 refine tk (fb 0 T.fo51_0 ?_)
 refine tk (lb 0 T.ag3 ?_)
 refine tk (mv ?_)
 refine tk (bg (pf (mv ?_)))
 refine sp 88 ?_ ?_ <;> intro h34 <;> try simp only [tt] at h34
 refine ps (ps (ps (puz (puz (puz (ps ?_))))))
 refine pt ?_
 refine wn (kk5 [1,2,6,8,96] ?_)
 refine ctz (sq (rg ?_))
 refine as_ ?_
 refine wn (kk5 [1,2,4,6,8] ?_)
 refine C_ret (RX_block (RX_then (RX_then (RX_block (RX_block (RX_then (RX_then (RX_block (RX_then (RX_q1 rfl rfl ?_))))))))))
 refine congrArg Value.bool ?_
 exact (typed_dec (typed_no (fun hc => by rw [all_false_of hzb1 (okTyped_n2 hz24 (ofK_n (by omega) (by omega)))] at hc; exact absurd hc.2.2 (by decide)))).symm
 refine tk (mv ?_)
 refine tk (bl ?_)
 refine tk (mv ?_)
 refine sp 91 ?_ ?_ <;> intro h35 <;> try simp only [tt] at h35
 refine tk (fb 2 T.fo51_2 ?_)
 refine tk (lb 0 T.ag3 ?_)
 refine tk (bg ?_)
 refine tk (pt (pf ?_))
 refine wn (kk5 [1,2,6,8,96] ?_)
 refine cd ?_ ?_ <;> intro h36 <;> try simp only [tt] at h36
 refine sq (rg ?_)
 refine as_ ?_
 refine wn (kk5 [1,2,4,6,8] ?_)
 refine C_ret (RX_block (RX_then (RX_then (RX_block (RX_block (RX_then (RX_then (RX_block (RX_then (RX_q1 rfl rfl ?_))))))))))
 refine congrArg Value.bool ?_
 exact (typed_dec (typed_no (fun hc => by rw [all_false_of hzb1 (okTyped_n2 hz24 (ofK_n (by omega) (by omega)))] at hc; exact absurd hc.2.2 (by decide)))).symm
 refine sk (nb (kk4 [1,2,6,8] (rg ?_)))
 refine mv ?_
 refine W_q (r_add rfl rfl (by have := Sl.len (r := rOp) (sz := 6) (xs := zb1.ops) (by assumption); constructor <;> omega)) rfl ?_
 refine as_ ?_
 refine wn ?_
 refine NX_rnd [8, 1, 2, 6] (by omega) (()) ?_ rfl (sub_drop 1 rfl) rfl (Imm.le_refl _)
 exact lt_succ_all hJ18 (fun y hy => by rw [hz24] at hy; cases hy; rw [ofK_t (by omega) (by omega)]; assumption)
 refine ps (ps (ps (tk (pf (pf ?_)))))
 refine wn (kk5 [1,2,6,8,96] ?_)
 refine cfz (sk (nb (kk4 [1,2,6,8] (rg ?_))))
 refine mv ?_
 refine W_q (r_add rfl rfl (by have := Sl.len (r := rOp) (sz := 6) (xs := zb1.ops) (by assumption); constructor <;> omega)) rfl ?_
 refine as_ ?_
 refine wn ?_
 refine NX_rnd [8, 1, 2, 6] (by omega) (()) ?_ rfl (sub_drop 1 rfl) rfl (Imm.le_refl _)
 exact lt_succ_all hJ18 (fun y hy => by rw [hz24] at hy; cases hy; rw [ofK_t (by omega) (by omega)]; assumption)
 refine sk (kk6 [1,2,6,8,9,10] (sq (sq (rg ?_))))
 refine mv (be ?_)
 refine wn (kk7 [1,2,6,8,9,10,78] ?_)
 refine cd ?_ ?_ <;> intro h37 <;> try simp only [tt] at h37
 refine rg ?_
 refine as_ ?_
 refine wn (kk6 [1,2,6,8,9,10] (sq (rg ?_)))
 refine W_q (r_loadbk 0 (vs := [_, _, _, _, _, _]) rfl T.ag51 T.sz51 rfl rfl rfl) rfl ?_
 refine W_quiet (rMayOp_q F25) T.hb93 rfl rfl ?_
 refine nt (mv ?_)
 refine sp 82 ?_ ?_ <;> intro h38 <;> try simp only [tt] at h38
 refine ps (ps (ps (ps ?_)))
 refine pt (mv ?_)
 refine ps (ps (ps (puz (puz (puz (ps ?_))))))
 refine pt ?_
 refine wn (kk5 [1,2,6,8,96] ?_)
 refine ctz (sq (rg ?_))
 refine as_ ?_
 refine wn (kk5 [1,2,4,6,8] ?_)
 refine C_ret (RX_block (RX_then (RX_then (RX_block (RX_block (RX_then (RX_then (RX_block (RX_then (RX_q1 rfl rfl ?_))))))))))
 refine congrArg Value.bool ?_
 exact (typed_dec (typed_no (fun hc => by rw [all_false_of hzb1 (okTyped_n2 hz24 (ofK_f0 (by assumption)))] at hc; exact absurd hc.2.2 (by decide)))).symm
 refine tk (fb 0 T.fo51_0 ?_)
 refine tk (lb 0 T.ag3 ?_)
 refine tk (mv ?_)
 refine tk (bg (pf (mv ?_)))
 refine sp 88 ?_ ?_ <;> intro h39 <;> try simp only [tt] at h39
 refine ps (ps (ps (puz (puz (puz (ps ?_))))))
 refine pt ?_
 refine wn (kk5 [1,2,6,8,96] ?_)
 refine ctz (sq (rg ?_))
 refine as_ ?_
 refine wn (kk5 [1,2,4,6,8] ?_)
 refine C_ret (RX_block (RX_then (RX_then (RX_block (RX_block (RX_then (RX_then (RX_block (RX_then (RX_q1 rfl rfl ?_))))))))))
 refine congrArg Value.bool ?_
 exact (typed_dec (typed_no (fun hc => by rw [all_false_of hzb1 (okTyped_n2 hz24 (ofK_n (by omega) (by omega)))] at hc; exact absurd hc.2.2 (by decide)))).symm
 refine tk (mv ?_)
 refine tk (bl ?_)
 refine tk (mv ?_)
 refine sp 91 ?_ ?_ <;> intro h40 <;> try simp only [tt] at h40
 refine tk (fb 2 T.fo51_2 ?_)
 refine tk (lb 0 T.ag3 ?_)
 refine tk (bg ?_)
 refine tk (pt (pf ?_))
 refine wn (kk5 [1,2,6,8,96] ?_)
 refine cd ?_ ?_ <;> intro h41 <;> try simp only [tt] at h41
 refine sq (rg ?_)
 refine as_ ?_
 refine wn (kk5 [1,2,4,6,8] ?_)
 refine C_ret (RX_block (RX_then (RX_then (RX_block (RX_block (RX_then (RX_then (RX_block (RX_then (RX_q1 rfl rfl ?_))))))))))
 refine congrArg Value.bool ?_
 exact (typed_dec (typed_no (fun hc => by rw [all_false_of hzb1 (okTyped_n2 hz24 (ofK_n (by omega) (by omega)))] at hc; exact absurd hc.2.2 (by decide)))).symm
 refine sk (nb (kk4 [1,2,6,8] (rg ?_)))
 refine mv ?_
 refine W_q (r_add rfl rfl (by have := Sl.len (r := rOp) (sz := 6) (xs := zb1.ops) (by assumption); constructor <;> omega)) rfl ?_
 refine as_ ?_
 refine wn ?_
 refine NX_rnd [8, 1, 2, 6] (by omega) (()) ?_ rfl (sub_drop 1 rfl) rfl (Imm.le_refl _)
 exact lt_succ_all hJ18 (fun y hy => by rw [hz24] at hy; cases hy; rw [ofK_t (by omega) (by omega)]; assumption)
 refine ps (ps (ps (tk (pf (pf ?_)))))
 refine wn (kk5 [1,2,6,8,96] ?_)
 refine cfz (sk (nb (kk4 [1,2,6,8] (rg ?_))))
 refine mv ?_
 refine W_q (r_add rfl rfl (by have := Sl.len (r := rOp) (sz := 6) (xs := zb1.ops) (by assumption); constructor <;> omega)) rfl ?_
 refine as_ ?_
 refine wn ?_
 refine NX_rnd [8, 1, 2, 6] (by omega) (()) ?_ rfl (sub_drop 1 rfl) rfl (Imm.le_refl _)
 exact lt_succ_all hJ18 (fun y hy => by rw [hz24] at hy; cases hy; rw [ofK_t (by omega) (by omega)]; assumption)
 refine sk (kk6 [1,2,6,8,9,10] (sq (rg ?_)))
 refine W_q (r_loadbk 0 (vs := [_, _, _, _, _, _]) rfl T.ag51 T.sz51 rfl rfl rfl) rfl ?_
 refine W_quiet (rMayOp_q F25) T.hb93 rfl rfl ?_
 refine nt (mv ?_)
 refine sp 82 ?_ ?_ <;> intro h42 <;> try simp only [tt] at h42
 refine ps (ps (ps (ps ?_)))
 refine pt (mv ?_)
 refine ps (ps (ps (puz (puz (puz (ps ?_))))))
 refine pt ?_
 refine wn (kk5 [1,2,6,8,96] ?_)
 refine ctz (sq (rg ?_))
 refine as_ ?_
 refine wn (kk5 [1,2,4,6,8] ?_)
 refine C_ret (RX_block (RX_then (RX_then (RX_block (RX_block (RX_then (RX_then (RX_block (RX_then (RX_q1 rfl rfl ?_))))))))))
 refine congrArg Value.bool ?_
 exact (typed_dec (typed_no (fun hc => by rw [all_false_of hzb1 (okTyped_n2 hz24 (ofK_f0 (by assumption)))] at hc; exact absurd hc.2.2 (by decide)))).symm
 refine tk (fb 0 T.fo51_0 ?_)
 refine tk (lb 0 T.ag3 ?_)
 refine tk (mv ?_)
 refine tk (bg (pf (mv ?_)))
 refine sp 88 ?_ ?_ <;> intro h43 <;> try simp only [tt] at h43
 refine ps (ps (ps (puz (puz (puz (ps ?_))))))
 refine pt ?_
 refine wn (kk5 [1,2,6,8,96] ?_)
 refine ctz (sq (rg ?_))
 refine as_ ?_
 refine wn (kk5 [1,2,4,6,8] ?_)
 refine C_ret (RX_block (RX_then (RX_then (RX_block (RX_block (RX_then (RX_then (RX_block (RX_then (RX_q1 rfl rfl ?_))))))))))
 refine congrArg Value.bool ?_
 exfalso; have := may_kind (by assumption : mayOpK z24 = true); omega
 refine tk (mv ?_)
 refine tk (bl ?_)
 refine tk (mv ?_)
 refine sp 91 ?_ ?_ <;> intro h44 <;> try simp only [tt] at h44
 refine tk (fb 2 T.fo51_2 ?_)
 refine tk (lb 0 T.ag3 ?_)
 refine tk (bg ?_)
 refine tk (pt (pf ?_))
 refine wn (kk5 [1,2,6,8,96] ?_)
 refine cd ?_ ?_ <;> intro h45 <;> try simp only [tt] at h45
 refine sq (rg ?_)
 refine as_ ?_
 refine wn (kk5 [1,2,4,6,8] ?_)
 refine C_ret (RX_block (RX_then (RX_then (RX_block (RX_block (RX_then (RX_then (RX_block (RX_then (RX_q1 rfl rfl ?_))))))))))
 refine congrArg Value.bool ?_
 exact (typed_dec (typed_no (fun hc => by rw [all_false_of hzb1 (okTyped_n2 hz24 (ofK_n (by omega) (by omega)))] at hc; exact absurd hc.2.2 (by decide)))).symm
 refine sk (nb (kk4 [1,2,6,8] (rg ?_)))
 refine mv ?_
 refine W_q (r_add rfl rfl (by have := Sl.len (r := rOp) (sz := 6) (xs := zb1.ops) (by assumption); constructor <;> omega)) rfl ?_
 refine as_ ?_
 refine wn ?_
 refine NX_rnd [8, 1, 2, 6] (by omega) (()) ?_ rfl (sub_drop 1 rfl) rfl (Imm.le_refl _)
 exact lt_succ_all hJ18 (fun y hy => by rw [hz24] at hy; cases hy; rw [ofK_t (by omega) (by omega)]; assumption)
 refine ps (ps (ps (tk (pf (pf ?_)))))
 refine wn (kk5 [1,2,6,8,96] ?_)
 refine cfz (sk (nb (kk4 [1,2,6,8] (rg ?_))))
 refine mv ?_
 refine W_q (r_add rfl rfl (by have := Sl.len (r := rOp) (sz := 6) (xs := zb1.ops) (by assumption); constructor <;> omega)) rfl ?_
 refine as_ ?_
 refine wn ?_
 refine NX_rnd [8, 1, 2, 6] (by omega) (()) ?_ rfl (sub_drop 1 rfl) rfl (Imm.le_refl _)
 exact lt_succ_all hJ18 (fun y hy => by rw [hz24] at hy; cases hy; rw [ofK_t (by omega) (by omega)]; assumption)
 refine C_exit (EX_then (EX_then (EX_hit (?_))))
 refine nb (kk3 [1,2,6] (rg ?_))
 refine mv ?_
 refine ad ?_
 refine as_ ?_
 refine wn ?_
 refine NX_rnd [6, 1, 2] (by omega) (()) ?_ rfl (List.Sublist.refl _) rfl (Imm.le_refl _)
 have hk2 : k9 = zb1.phis.length := by omega
 have hk3 : k18 = zb1.ops.length := by omega
 have hJ2 := hJ9
 have hJ3 := hJ18
 rw [hk2] at hJ2
 rw [hk3] at hJ3
 exact lt_succ_all hJ7 (fun y hy => by rw [hzb1] at hy; cases hy; exact okTyped_y (all_true_of hJ2) (all_true_of hJ3))
 refine C_exit (EX_then (EX_then (EX_hit (?_))))
 refine kk1 [2] (sq (rg ?_))
 refine fb 1 T.fo25_1 (lb 0 T.ag3 ?_)
 refine W_quiet (rMayW_q _) T.hb92 rfl rfl ?_
 refine as_ ?_
 refine wn (kk1 [4] ?_)
 refine C_ret (RX_q1 rfl rfl ?_)
 refine congrArg Value.bool ?_
 have hk0 : k2 = f.params.length := by omega
 have hk1 : k7 = f.blocks.length := by omega
 have hJ0 := hJ2
 have hJ1 := hJ7
 rw [hk0] at hJ0
 rw [hk1] at hJ1
 have h1 := all_true_of hJ0
 have h2 := all_true_of hJ1
 exact (typed_ret h1 h2).symm
namespace T
theorem ag73 : agg? Tryz.prog 73 = some true := by kernel_rfl
theorem ag77 : agg? Tryz.prog 77 = some true := by kernel_rfl
theorem fo73_1 : fld? Tryz.prog 73 1 = some (1, 1) := by kernel_rfl
theorem fo73_2 : fld? Tryz.prog 73 2 = some (2, 1) := by kernel_rfl
theorem fo73_3 : fld? Tryz.prog 73 3 = some (3, 2) := by kernel_rfl
theorem fo77_0 : fld? Tryz.prog 77 0 = some (0, 1) := by kernel_rfl
theorem fo77_1 : fld? Tryz.prog 77 1 = some (1, 1) := by kernel_rfl
theorem fo77_2 : fld? Tryz.prog 77 2 = some (2, 1) := by kernel_rfl
theorem fo77_3 : fld? Tryz.prog 77 3 = some (3, 2) := by kernel_rfl
theorem hb55 : hasBody Tryz.prog 55 = true := by kernel_rfl
theorem hb56 : hasBody Tryz.prog 56 = true := by kernel_rfl
theorem hb57 : hasBody Tryz.prog 57 = true := by kernel_rfl
theorem hb58 : hasBody Tryz.prog 58 = true := by kernel_rfl
theorem hb60 : hasBody Tryz.prog 60 = true := by kernel_rfl
theorem hb61 : hasBody Tryz.prog 61 = true := by kernel_rfl
theorem hb63 : hasBody Tryz.prog 63 = true := by kernel_rfl
theorem hb64 : hasBody Tryz.prog 64 = true := by kernel_rfl
end T
theorem arr_f {i j i' j' : Int} (h : (i == i' && j == j') = false) : ¬ (i = i' ∧ j = j') := by
  rintro ⟨rfl, rfl⟩; simp at h
theorem arr_t {i j i' j' : Int} (h : (i == i' && j == j') = true) : i = i' ∧ j = j' := by simpa using h
theorem rCheck_q {m : Imm} {es : List Value} {f : FFun} (hF : rFunc m es f) (lev : Int) : Quiet Tryz.prog 29 [.agg es.toArray, .int .i64 lev] m (.int .i64 (checkP f lev)) := by
 have hF_0 := hF
 obtain ⟨A90, c90, B90, d90, rfl, hq90, hb90, i90a⟩ := hF_0
 refine quiet_of Tryz.func29 rfl Tryz.ntmps29 rfl (fun w => ?_)
 refine sq (rg ?_)
 refine S_box (l := [_, _, _]) rfl rfl rfl (fun b1 => ?_)
 refine as_ ?_
 refine wn (kk3 [1,2,4] (sq (sq (rg ?_))))
 refine mv (bl (mv ?_))
 refine sp 18 ?_ ?_ <;> intro h2 <;> try simp only [tt] at h2
 refine ps (ps ?_)
 refine pt ?_
 refine wn (kk4 [1,2,4,21] ?_)
 refine ctz (sq (rg ?_))
 refine as_ ?_
 refine wn (kk3 [1,2,4] ?_)
 refine C_ret (RX_then (RX_q1 rfl rfl ?_))
 refine congrArg (Value.int .i64) ?_
 exact (chk_arg (by omega)).symm
 refine tk (mv ?_)
 refine tk (bg (pf ?_))
 refine wn (kk4 [1,2,4,21] ?_)
 refine cd ?_ ?_ <;> intro h3 <;> try simp only [tt] at h3
 refine sq (rg ?_)
 refine as_ ?_
 refine wn (kk3 [1,2,4] ?_)
 refine C_ret (RX_then (RX_q1 rfl rfl ?_))
 refine congrArg (Value.int .i64) ?_
 exact (chk_arg (by omega)).symm
 refine sk (kk3 [1,2,4] (sq (sq (rg ?_))))
 refine W_q (r_loadbk 0 (vs := [_, _, _]) rfl T.ag25 T.sz25 rfl rfl rfl) rfl ?_
 refine W_quiet (rMay4_q hF) T.hb55 rfl rfl ?_
 refine nt ?_
 refine wn (kk4 [1,2,4,24] ?_)
 refine cd ?_ ?_ <;> intro h4 <;> try simp only [tt] at h4
 refine sq (rg ?_)
 refine as_ ?_
 refine wn (kk3 [1,2,4] ?_)
 refine C_ret (RX_then (RX_q1 rfl rfl ?_))
 refine congrArg (Value.int .i64) ?_
 exact (chk_size (by omega) (by omega) (by assumption)).symm
 refine sk (kk3 [1,2,4] (sq (sq (rg ?_))))
 refine W_q (r_loadbk 0 (vs := [_, _, _]) rfl T.ag25 T.sz25 rfl rfl rfl) rfl ?_
 refine W_quiet (rShape11_q hF) T.hb56 rfl rfl ?_
 refine nt ?_
 refine wn (kk4 [1,2,4,27] ?_)
 refine cd ?_ ?_ <;> intro h5 <;> try simp only [tt] at h5
 refine sq (rg ?_)
 refine as_ ?_
 refine wn (kk3 [1,2,4] ?_)
 refine C_ret (RX_then (RX_q1 rfl rfl ?_))
 refine congrArg (Value.int .i64) ?_
 exact (chk_shape (by omega) (by omega) (by assumption) (by assumption)).symm
 refine sk (kk3 [1,2,4] (sq (sq (rg ?_))))
 refine W_q (r_loadbk 0 (vs := [_, _, _]) rfl T.ag25 T.sz25 rfl rfl rfl) rfl ?_
 refine mv ?_
 refine W_quiet (rTyped_q hF _ (by omega) (by omega)) T.hb57 rfl rfl ?_
 refine nt ?_
 refine wn (kk3 [2,4,31] ?_)
 refine cd ?_ ?_ <;> intro h6 <;> try simp only [tt] at h6
 refine sq (rg ?_)
 refine as_ ?_
 refine wn (kk2 [2,4] ?_)
 refine C_ret (RX_then (RX_q1 rfl rfl ?_))
 refine congrArg (Value.int .i64) ?_
 exact (chk_typed (by omega) (by omega) (by assumption) (by assumption) (by assumption)).symm
 refine sk (kk2 [2,4] (sq (rg ?_)))
 refine W_q (r_loadbk 0 (vs := [_, _, _]) rfl T.ag25 T.sz25 rfl rfl rfl) rfl ?_
 have hm1 : mayF f = true := by assumption
 have hs1 : shapeP f = 0 := by assumption
 have ht1 : typedP f lev = 0 := by assumption
 have hph := shapeP_phis hs1
 obtain ⟨gr, hg, _⟩ := shapeP_zero hs1
 obtain ⟨hmg, hsu, hsl, hn1, hn2⟩ := ofP_some hg
 have hgo := mayG_ok hmg
 refine S_gives (rDefs_g hF (by assumption)) T.hb58 rfl rfl (fun m7 v7 le7 hv7 => ?_)
 replace hF := rFunc_mono _ _ _ _ le7 hF
 replace hq90 := hq90.mono rI_mono le7
 replace hb90 := hb90.mono rBlock_mono le7
 obtain ⟨Ad7, cd7, rfl, hd7⟩ := hv7
 refine as_ ?_
 refine wn (kk3 [2,4,5] (sq (sq (rg ?_))))
 refine as_ ?_
 refine wn (kk4 [2,4,5,6] (bk ?_))
 refine C_loop (Unit) ((defsL f).length) (fun k8 x8 => ∀ j, j < k8 → ∀ y, (defsL f)[j]? = some y → valueB y.1 = true ∧ findD (defsL f) y.1 = (j : Int)) (fun k8 x8 => [(6, .int .i64 (k8 : Int))]) (fun _ _ => []) [6] [2, 5] (F := [(2, _), (5, _)]) (()) (by simp) rfl rfl rfl (fun k8 x8 hk8 hJ8 => ?_)
 refine jj3 [2,5,6] (sq (sq (rg ?_)))
 have hdl := defs_len hm1
 refine mv (mv (ln Tryz.underlying69 (bl ?_)))
 refine wn (kk4 [2,5,6,37] ?_)
 refine cd ?_ ?_ <;> intro h9 <;> try simp only [tt] at h9
 refine sk (kk3 [2,5,6] (sq (bk (sq (rg ?_)))))
 refine mv (mv ?_)
 obtain ⟨ad10, hA10⟩ := hd7.ad (j := k8) (by omega)
 obtain ⟨z10, hz10⟩ := hd7.getz (j := k8) (by omega)
 refine ixz hA10 Tryz.underlying69 T.sz73 ?_
 refine W_q (r_field rfl T.fo73_0) rfl ?_
 obtain ⟨es11, f11, _, l11⟩ := Sl.get hd7 hA10 hz10
 obtain ⟨rfl, i11a, i11b, i11c, i11d, i11e⟩ := f11
 refine liz T.ag3 (l11 0 _ rfl) ?_
 refine W_quiet (rValue_q _) T.hb59 rfl rfl ?_
 refine nt (mv ?_)
 refine sp 47 ?_ ?_ <;> intro h12 <;> try simp only [tt] at h12
 refine ps (ps (ps (ps (ps (ps (ps (ps (ps ?_))))))))
 refine pt ?_
 refine wn (kk4 [2,5,6,57] ?_)
 refine ctz (sq (rg ?_))
 refine as_ ?_
 refine wn (kk4 [2,4,5,6] ?_)
 refine C_ret (RX_block (RX_then (RX_then (RX_block (RX_then (RX_q1 rfl rfl ?_))))))
 refine congrArg (Value.int .i64) ?_
 exact (chk_def (by omega) (by omega) (by assumption) (by assumption) (by assumption) (def_no (by assumption) (by assumption) hz10 (.inl (by assumption)))).symm
 refine tk (mv ?_)
 refine tk (mv ?_)
 refine tk (mv ?_)
 refine tk ?_
 obtain ⟨ad13, hA13⟩ := hd7.ad (j := k8) (by omega)
 refine ixz hA13 Tryz.underlying69 T.sz73 ?_
 refine tk ?_
 refine W_q (r_field rfl T.fo73_0) rfl ?_
 refine tk ?_
 obtain ⟨es14, f14, _, l14⟩ := Sl.get hd7 hA13 hz10
 obtain ⟨rfl, i14a, i14b, i14c, i14d, i14e⟩ := f14
 refine liz T.ag3 (l14 0 _ rfl) ?_
 refine tk ?_
 refine W_quiet (rFind_q hd7 _) T.hb60 rfl rfl ?_
 refine tk (mv ?_)
 refine tk (bn (pf ?_))
 refine wn (kk4 [2,5,6,57] ?_)
 refine cd ?_ ?_ <;> intro h15 <;> try simp only [tt] at h15
 refine sq (rg ?_)
 refine as_ ?_
 refine wn (kk4 [2,4,5,6] ?_)
 refine C_ret (RX_block (RX_then (RX_then (RX_block (RX_then (RX_q1 rfl rfl ?_))))))
 refine congrArg (Value.int .i64) ?_
 exact (chk_def (by omega) (by omega) (by assumption) (by assumption) (by assumption) (def_no (by assumption) (by assumption) hz10 (.inr (by assumption)))).symm
 refine sk (nb (kk3 [2,5,6] (rg ?_)))
 refine mv ?_
 refine ad ?_
 refine as_ ?_
 refine wn ?_
 refine NX_rnd [6, 2, 5] (by omega) (()) ?_ rfl (List.Sublist.refl _) rfl (Imm.le_refl _)
 exact lt_succ_all hJ8 (fun y hy => by rw [hz10] at hy; cases hy; exact ⟨by assumption, by assumption⟩)
 refine C_exit (EX_then (EX_then (EX_hit (?_))))
 refine kk2 [2,5] (sq (rg ?_))
 have hdo : defOK f := def_yes hm1 ht1 (by
   have hk0 : k8 = (defsL f).length := by omega
   have hJ0 := hJ8
   rwa [hk0] at hJ0)
 refine W_q (r_loadbk 0 (vs := [_, _, _]) rfl T.ag25 T.sz25 rfl rfl rfl) rfl ?_
 refine S_gives (rUses_g hF (by assumption) (by assumption)) T.hb61 rfl rfl (fun m16 v16 le16 hv16 => ?_)
 replace hF := rFunc_mono _ _ _ _ le16 hF
 replace hq90 := hq90.mono rI_mono le16
 replace hb90 := hb90.mono rBlock_mono le16
 replace hd7 := hd7.mono rDef_mono le16
 obtain ⟨Au16, cu16, rfl, hu16⟩ := hv16
 refine as_ ?_
 refine wn (kk3 [2,5,7] (sq (sq (rg ?_))))
 refine as_ ?_
 refine wn (kk4 [2,5,7,8] (bk ?_))
 refine C_loop (Unit) ((usesR f).length) (fun k17 x17 => ∀ j, j < k17 → ∀ u, (usesR f)[j]? = some u → 0 ≤ findD (defsL f) u.1) (fun k17 x17 => [(8, .int .i64 (k17 : Int))]) (fun _ _ => []) [8] [2, 5, 7] (F := [(2, _), (5, _), (7, _)]) (()) (by simp) rfl rfl rfl (fun k17 x17 hk17 hJ17 => ?_)
 refine jj4 [2,5,7,8] (sq (sq (rg ?_)))
 have hul := uses_len hm1
 refine mv (mv (ln Tryz.underlying75 (bl ?_)))
 refine wn (kk5 [2,5,7,8,63] ?_)
 refine cd ?_ ?_ <;> intro h18 <;> try simp only [tt] at h18
 refine sk (kk4 [2,5,7,8] (sq (bk (sq (rg ?_)))))
 refine mv (mv (mv ?_))
 obtain ⟨ad19, hA19⟩ := hu16.ad (j := k17) (by omega)
 obtain ⟨z19, hz19⟩ := hu16.getz (j := k17) (by omega)
 refine ixz hA19 Tryz.underlying75 T.sz77 ?_
 refine W_q (r_field rfl T.fo77_0) rfl ?_
 obtain ⟨es20, f20, _, l20⟩ := Sl.get hu16 hA19 hz19
 obtain ⟨rfl, i20a, i20b, i20c, i20d, i20e⟩ := f20
 refine liz T.ag3 (l20 0 _ rfl) ?_
 refine W_quiet (rFind_q hd7 _) T.hb60 rfl rfl ?_
 refine bl ?_
 refine wn (kk5 [2,5,7,8,73] ?_)
 refine cd ?_ ?_ <;> intro h21 <;> try simp only [tt] at h21
 refine sq (rg ?_)
 refine as_ ?_
 refine wn (kk5 [2,4,5,7,8] ?_)
 refine C_ret (RX_block (RX_then (RX_then (RX_block (RX_then (RX_q1 rfl rfl ?_))))))
 refine congrArg (Value.int .i64) ?_
 exact (chk_def (by omega) (by omega) (by assumption) (by assumption) (by assumption) (uses_no (by assumption) (by assumption) hdo hz19 (by assumption))).symm
 refine sk (nb (kk4 [2,5,7,8] (rg ?_)))
 refine mv ?_
 refine ad ?_
 refine as_ ?_
 refine wn ?_
 refine NX_rnd [8, 2, 5, 7] (by omega) (()) ?_ rfl (List.Sublist.refl _) rfl (Imm.le_refl _)
 exact lt_succ_all hJ17 (fun u hu => by rw [hz19] at hu; cases hu; omega)
 refine C_exit (EX_then (EX_then (EX_hit (?_))))
 refine kk3 [2,5,7] (sq (sq (rg ?_)))
 have hJ1e := hJ17
 rw [show k17 = (usesR f).length by omega] at hJ1e
 have hd0 : definedP f = 0 := uses_yes hm1 ht1 hdo hJ1e
 have hdf := fun j u (hu : (usesR f)[j]? = some u) => defined_find hm1 ht1 hd0 hu
 refine as_ ?_
 refine wn (kk4 [2,5,7,9] (bk ?_))
 refine C_loop (Unit) ((usesR f).length) (fun k22 x22 => ∀ j, j < k22 → ∀ u, (usesR f)[j]? = some u → askS f (upU u) = 0) (fun k22 x22 => [(9, .int .i64 (k22 : Int))]) (fun _ _ => []) [9] [2, 5, 7] (F := [(2, _), (5, _), (7, _)]) (()) (by simp) rfl rfl rfl (fun k22 x22 hk22 hJ22 => ?_)
 refine jj4 [2,5,7,9] (sq (sq (rg ?_)))
 refine mv (mv (ln Tryz.underlying75 (bl ?_)))
 refine wn (kk5 [2,5,7,9,77] ?_)
 refine cd ?_ ?_ <;> intro h23 <;> try simp only [tt] at h23
 refine sk (kk4 [2,5,7,9] (sq (bk (sq ?_))))
 refine C_drawn [(0, true), (1, true), (2, true), (3, true), (4, true), (5, true), (6, true), (7, true), (8, true), (9, true), (10, true), (11, true), (12, true), (13, true), (14, true), (15, true), (16, true)] (by kernel_rfl) rfl (by kernel_rfl) (by kernel_rfl) ?_
 refine dmv ?_
 refine dmv ?_
 refine dmv ?_
 refine dmv ?_
 obtain ⟨ad24, hA24⟩ := hu16.ad (j := k22) (by omega)
 obtain ⟨z24, hz24⟩ := hu16.getz (j := k22) (by omega)
 refine D_q rfl (r_index hA24 Tryz.underlying75 T.sz77 rfl rfl ⟨by omega, by omega⟩) rfl ?_
 refine D_q rfl (r_field rfl T.fo77_0) rfl ?_
 obtain ⟨es25, f25, _, l25⟩ := Sl.get hu16 hA24 hz24
 obtain ⟨rfl, i25a, i25b, i25c, i25d, i25e⟩ := f25
 refine D_q rfl (r_load_imm rfl T.ag3 (l25 0 _ rfl)) rfl ?_
 refine D_quiet rfl (rFind_q hd7 _) T.hb60 rfl rfl ?_
 have hu0 := hdf k22 z24 hz24
 obtain ⟨ad26, hA26⟩ := hd7.ad (j := (findD (defsL f) z24.1).toNat) (by have := findD_rng (l := defsL f) (v := z24.1); omega)
 obtain ⟨z26, hz26⟩ := hd7.getz (j := (findD (defsL f) z24.1).toNat) (by have := findD_rng (l := defsL f) (v := z24.1); omega)
 refine D_q rfl (r_index hA26 Tryz.underlying69 T.sz73 rfl rfl ⟨by omega, by have := findD_rng (l := defsL f) (v := z24.1); omega⟩) rfl ?_
 refine D_q rfl (r_field rfl T.fo73_3) rfl ?_
 obtain ⟨es27, f27, _, l27⟩ := Sl.get hd7 hA26 hz26
 obtain ⟨rfl, i27a, i27b, i27c, i27d, i27e⟩ := f27
 refine D_q rfl (r_load_immk (vs := [_, _]) rfl T.ag71 T.sz71 (cells_part l27 3 2 rfl)) rfl ?_
 refine dmv ?_
 refine dmv ?_
 obtain ⟨ad28, hA28⟩ := hu16.ad (j := k22) (by omega)
 refine D_q rfl (r_index hA28 Tryz.underlying75 T.sz77 rfl rfl ⟨by omega, by omega⟩) rfl ?_
 refine D_q rfl (r_field rfl T.fo77_3) rfl ?_
 obtain ⟨es29, f29, _, l29⟩ := Sl.get hu16 hA28 hz24
 obtain ⟨rfl, i29a, i29b, i29c, i29d, i29e⟩ := f29
 refine D_q rfl (r_load_immk (vs := [_, _]) rfl T.ag71 T.sz71 (cells_part l29 3 2 rfl)) rfl ?_
 refine D_q rfl (r_arrneq2 rfl rfl Tryz.underlying71 Tryz.underlying3 T.sz3 (by kernel_rfl)) rfl ?_
 refine D_end ?_
 refine kk5 [2,5,7,9,96] ?_
 refine cd ?_ ?_ <;> intro h30 <;> try simp only [tt] at h30
 refine sq (rg ?_)
 refine as_ ?_
 refine wn (kk5 [2,4,5,7,9] ?_)
 refine C_ret (RX_block (RX_then (RX_then (RX_block (RX_then (RX_q1 rfl rfl ?_))))))
 refine congrArg (Value.int .i64) ?_
 exact (chk_shapes (by omega) (by omega) (by assumption) (by assumption) (by assumption) hd0 (shapes_no (by assumption) (by assumption) hz24 hu0 hz26 (arr_f h30))).symm
 refine sk (nb (kk4 [2,5,7,9] (rg ?_)))
 refine mv ?_
 refine ad ?_
 refine as_ ?_
 refine wn ?_
 refine NX_rnd [9, 2, 5, 7] (by omega) (()) ?_ rfl (List.Sublist.refl _) rfl (Imm.le_refl _)
 exact lt_succ_all hJ22 (fun u hu => by rw [hz24] at hu; cases hu; exact askS_y hu0 hz26 (arr_t h30).1 (arr_t h30).2)
 refine C_exit (EX_then (EX_then (EX_hit (?_))))
 refine kk3 [2,5,7] (sq (rg ?_))
 have hJ2e := hJ22
 rw [show k22 = (usesR f).length by omega] at hJ2e
 have hs0 := shapes_yes hm1 ht1 hJ2e
 refine W_q (r_loadbk 0 (vs := [_, _, _]) rfl T.ag25 T.sz25 rfl rfl rfl) rfl ?_
 refine S_gives (rOf_g hF) T.hb62 rfl rfl (fun m31 v31 le31 hv31 => ?_)
 replace hF := rFunc_mono _ _ _ _ le31 hF
 replace hq90 := hq90.mono rI_mono le31
 replace hb90 := hb90.mono rBlock_mono le31
 replace hd7 := hd7.mono rDef_mono le31
 replace hu16 := hu16.mono rUse_mono le31
 rw [hg] at hv31
 obtain ⟨_, rfl, A31, c31, B31, d31, rfl, h31, g31⟩ := hv31
 have hGr : rGraph _ [_, _] gr := ⟨_, _, _, _, rfl, h31, g31⟩
 refine mv ?_
 refine W_q (r_extract rfl rfl) rfl ?_
 refine W_q (r_extract rfl rfl) rfl ?_
 refine sa2 T.ze79 (fun b32 => ?_)
 refine sb2 0 T.sz79 ?_
 refine as_ ?_
 refine wn (kk3 [5,7,10] (sq (rg ?_)))
 refine W_q (r_loadbk 0 (vs := [_, _]) rfl T.ag79 T.sz79 rfl rfl rfl) rfl ?_
 refine S_gives (rTree_g hGr hmg (root := 0) (by omega) (by omega)) T.hb63 rfl rfl (fun m33 v33 le33 hv33 => ?_)
 replace hF := rFunc_mono _ _ _ _ le33 hF
 replace hq90 := hq90.mono rI_mono le33
 replace hb90 := hb90.mono rBlock_mono le33
 replace hd7 := hd7.mono rDef_mono le33
 replace hu16 := hu16.mono rUse_mono le33
 replace h31 := h31.mono (rS_mono rI_mono) le33
 replace g31 := g31.mono (rS_mono rI_mono) le33
 replace hGr := rGraph_mono _ _ _ _ le33 hGr
 obtain ⟨At33, ct33, rfl, ht33⟩ := hv33
 refine as_ ?_
 refine wn (kk3 [5,7,12] (sq (sq (rg ?_))))
 refine as_ ?_
 refine wn (kk4 [5,7,12,13] (bk ?_))
 refine C_loop (Unit) ((usesR f).length) (fun k34 x34 => ∀ j, j < k34 → ∀ u, (usesR f)[j]? = some u → askP f (treeP gr 0) (upU u) = 0) (fun k34 x34 => [(13, .int .i64 (k34 : Int))]) (fun _ _ => []) [13] [5, 7, 12] (F := [(5, _), (7, _), (12, _)]) (()) (by simp) rfl rfl rfl (fun k34 x34 hk34 hJ34 => ?_)
 refine jj4 [5,7,12,13] (sq (sq (rg ?_)))
 refine mv (mv (ln Tryz.underlying75 (bl ?_)))
 refine wn (kk5 [5,7,12,13,107] ?_)
 refine cd ?_ ?_ <;> intro h35 <;> try simp only [tt] at h35
 refine sk (kk4 [5,7,12,13] (sq (bk (sq (rg ?_)))))
 refine mv (mv ?_)
 obtain ⟨ad36, hA36⟩ := hu16.ad (j := k34) (by omega)
 obtain ⟨z36, hz36⟩ := hu16.getz (j := k34) (by omega)
 refine ixz hA36 Tryz.underlying75 T.sz77 ?_
 obtain ⟨es37, f37, _, l37⟩ := Sl.get hu16 hA36 hz36
 have F37 := f37
 obtain ⟨rfl, i37a, i37b, i37c, i37d, i37e⟩ := f37
 refine W_q (r_load_immk (vs := [_, _, _, _, _]) rfl T.ag77 T.sz77 l37) rfl ?_
 refine sa5 T.ze77 (fun b38 => ?_)
 refine sb5 0 T.sz77 ?_
 refine wn (kk5 [5,7,12,13,14] (sq (rg ?_)))
 refine mv (mv (fb 0 T.fo77_0 (lb 0 T.ag3 ?_)))
 refine W_quiet (rFind_q hd7 _) T.hb60 rfl rfl ?_
 have hu0 := hdf k34 z36 hz36
 obtain ⟨ad39, hA39⟩ := hd7.ad (j := (findD (defsL f) z36.1).toNat) (by have := findD_rng (l := defsL f) (v := z36.1); omega)
 obtain ⟨z39, hz39⟩ := hd7.getz (j := (findD (defsL f) z36.1).toNat) (by have := findD_rng (l := defsL f) (v := z36.1); omega)
 refine W_q (r_index hA39 Tryz.underlying69 T.sz73 rfl rfl ⟨by omega, by have := findD_rng (l := defsL f) (v := z36.1); omega⟩) rfl ?_
 obtain ⟨es40, f40, _, l40⟩ := Sl.get hd7 hA39 hz39
 have F40 := f40
 obtain ⟨rfl, i40a, i40b, i40c, i40d, i40e⟩ := f40
 refine W_q (r_load_immk (vs := [_, _, _, _, _]) rfl T.ag73 T.sz73 l40) rfl ?_
 refine sa5 T.ze73 (fun b41 => ?_)
 refine sb5 0 T.sz73 ?_
 refine wn (kk6 [5,7,12,13,14,15] (sq (sq (rg ?_))))
 refine fb 1 T.fo73_1 (lb 0 T.ag3 (bl (mv ?_)))
 refine sp 124 ?_ ?_ <;> intro h42 <;> try simp only [tt] at h42
 refine ps (ps (ps (ps (ps (ps (puz (puz (puz (puz (puz (ps ?_)))))))))))
 refine pt ?_
 refine wn (kk7 [5,7,12,13,14,15,137] ?_)
 refine ctz ?_
 refine C_exit (EX_then (EX_hit (?_)))
 refine kk4 [5,7,12,13] (rg ?_)
 refine mv ?_
 refine ad ?_
 refine as_ ?_
 refine wn ?_
 refine NX_rnd [13, 5, 7, 12] (by omega) (()) ?_ rfl (sub_drop 2 rfl) rfl (Imm.le_refl _)
 exact lt_succ_all hJ34 (fun u hu => by rw [hz36] at hu; cases hu; exact askP_y (by assumption) (by assumption) hg hz36 hu0 hz39 (.inl (by omega)))
 refine tk (fb 1 T.fo73_1 ?_)
 refine tk (lb 0 T.ag3 ?_)
 refine tk (fb 1 T.fo77_1 ?_)
 refine tk (lb 1 T.ag3 ?_)
 refine tk (be ?_)
 refine tk (mv ?_)
 refine sp 130 ?_ ?_ <;> intro h43 <;> try simp only [tt] at h43
 refine tk (fb 2 T.fo73_2 ?_)
 refine tk (lb 0 T.ag3 ?_)
 refine tk (fb 2 T.fo77_2 ?_)
 refine tk (lb 1 T.ag3 ?_)
 refine tk (bl ?_)
 refine tk (pt (pf ?_))
 refine wn (kk7 [5,7,12,13,14,15,137] ?_)
 refine cd ?_ ?_ <;> intro h44 <;> try simp only [tt] at h44
 refine C_exit (EX_then (EX_hit (?_)))
 refine kk4 [5,7,12,13] (rg ?_)
 refine mv ?_
 refine ad ?_
 refine as_ ?_
 refine wn ?_
 refine NX_rnd [13, 5, 7, 12] (by omega) (()) ?_ rfl (sub_drop 2 rfl) rfl (Imm.le_refl _)
 exact lt_succ_all hJ34 (fun u hu => by rw [hz36] at hu; cases hu; exact askP_y (by assumption) (by assumption) hg hz36 hu0 hz39 (.inr (.inl ⟨by omega, by omega⟩)))
 refine sk (kk6 [5,7,12,13,14,15] (sq ?_))
 refine C_drawn [(0, true), (1, true), (2, true), (3, true), (4, true), (5, true), (6, true), (7, true), (8, true), (9, true), (10, true), (11, true), (12, true), (13, true), (14, true), (15, true)] (by kernel_rfl) rfl (by kernel_rfl) (by kernel_rfl) ?_
 refine dfb 1 T.fo73_1 ?_
 refine dlb 0 T.ag3 ?_
 refine dfb 1 T.fo77_1 ?_
 refine dlb 1 T.ag3 ?_
 refine D_q rfl (r_bin rfl rfl (bin_eql _ _ _ _)) rfl ?_
 refine dmv ?_
 refine D_split (t := 143) rfl (fun h45 => ?_) (fun h45 => ?_)
 (try simp only [tt] at h45)
 refine dps ?_
 refine dps ?_
 refine dps ?_
 refine dps ?_
 refine dps ?_
 refine dps ?_
 refine dps ?_
 refine dps ?_
 refine dps ?_
 refine D_q rfl (r_pick_t rfl rfl) rfl ?_
 refine D_end ?_
 refine kk5 [5,7,12,13,153] ?_
 refine ctz (sq (rg ?_))
 refine as_ ?_
 refine wn (kk5 [4,5,7,12,13] ?_)
 refine C_ret (RX_block (RX_then (RX_then (RX_block (RX_then (RX_q1 rfl rfl ?_))))))
 refine congrArg (Value.int .i64) ?_
 rw [chk_last (by omega) (by omega) (by assumption) (by assumption) (by assumption) hd0 hs0 hg]; exact (places_no (by assumption) (by assumption) (by assumption) hg hz36 hu0 hz39 (by omega) (by omega) (.inl (by omega))).symm
 (try simp only [tt] at h45)
 refine D_qt rfl rfl rfl (r_move rfl) rfl ?_
 refine D_qt rfl rfl rfl (r_fieldb (o' := 1) rfl T.fo73_1 rfl) rfl ?_
 refine D_qt rfl rfl rfl (r_loadb 0 rfl T.ag3 rfl rfl) rfl ?_
 refine D_qt rfl rfl rfl (r_fieldb (o' := 1) rfl T.fo77_1 rfl) rfl ?_
 refine D_qt rfl rfl rfl (r_loadb 1 rfl T.ag3 rfl rfl) rfl ?_
 refine D_quiett rfl rfl rfl (rMeet_q ht33 _ _ (by assumption) (by assumption) (by rw [(domTree_treeP hgo (root := 0) (by omega) (by omega)).len]; have := hgo.len; omega)) T.hb64 rfl rfl ?_
 refine D_qt rfl rfl rfl (r_fieldb (o' := 1) rfl T.fo73_1 rfl) rfl ?_
 refine D_qt rfl rfl rfl (r_loadb 0 rfl T.ag3 rfl rfl) rfl ?_
 refine D_qt rfl rfl rfl (r_bin rfl rfl (bin_neq _ _ _ _)) rfl ?_
 refine D_q rfl (r_pick_f rfl rfl) rfl ?_
 refine D_end ?_
 refine kk5 [5,7,12,13,153] ?_
 refine cd ?_ ?_ <;> intro h46 <;> try simp only [tt] at h46
 refine sq (rg ?_)
 refine as_ ?_
 refine wn (kk5 [4,5,7,12,13] ?_)
 refine C_ret (RX_block (RX_then (RX_then (RX_block (RX_then (RX_q1 rfl rfl ?_))))))
 refine congrArg (Value.int .i64) ?_
 rw [chk_last (by omega) (by omega) (by assumption) (by assumption) (by assumption) hd0 hs0 hg]; exact (places_no (by assumption) (by assumption) (by assumption) hg hz36 hu0 hz39 (by omega) (by omega) (.inl (by omega))).symm
 refine sk (nb (kk4 [5,7,12,13] (rg ?_)))
 refine mv ?_
 refine ad ?_
 refine as_ ?_
 refine wn ?_
 refine NX_rnd [13, 5, 7, 12] (by omega) (()) ?_ rfl (sub_drop 2 rfl) rfl (Imm.le_refl _)
 exact lt_succ_all hJ34 (fun u hu => by rw [hz36] at hu; cases hu; exact askP_y (by assumption) (by assumption) hg hz36 hu0 hz39 (.inl (by omega)))
 refine ps (ps (ps (ps (ps (tk (pf (pf ?_)))))))
 refine wn (kk7 [5,7,12,13,14,15,137] ?_)
 refine cfz (sk (kk6 [5,7,12,13,14,15] (sq ?_)))
 refine C_drawn [(0, true), (1, true), (2, true), (3, true), (4, true), (5, true), (6, true), (7, true), (8, true), (9, true), (10, true), (11, true), (12, true), (13, true), (14, true), (15, true)] (by kernel_rfl) rfl (by kernel_rfl) (by kernel_rfl) ?_
 refine dfb 1 T.fo73_1 ?_
 refine dlb 0 T.ag3 ?_
 refine dfb 1 T.fo77_1 ?_
 refine dlb 1 T.ag3 ?_
 refine D_q rfl (r_bin rfl rfl (bin_eql _ _ _ _)) rfl ?_
 refine dmv ?_
 refine D_split (t := 143) rfl (fun h47 => ?_) (fun h47 => ?_)
 (try simp only [tt] at h47)
 refine dps ?_
 refine dps ?_
 refine dps ?_
 refine dps ?_
 refine dps ?_
 refine dps ?_
 refine dps ?_
 refine dps ?_
 refine dps ?_
 refine D_q rfl (r_pick_t rfl rfl) rfl ?_
 refine D_end ?_
 refine kk5 [5,7,12,13,153] ?_
 refine ctz (sq (rg ?_))
 refine as_ ?_
 refine wn (kk5 [4,5,7,12,13] ?_)
 refine C_ret (RX_block (RX_then (RX_then (RX_block (RX_then (RX_q1 rfl rfl ?_))))))
 refine congrArg (Value.int .i64) ?_
 rw [chk_last (by omega) (by omega) (by assumption) (by assumption) (by assumption) hd0 hs0 hg]; exact (places_no (by assumption) (by assumption) (by assumption) hg hz36 hu0 hz39 (by omega) (by omega) (.inl (by omega))).symm
 (try simp only [tt] at h47)
 refine D_qt rfl rfl rfl (r_move rfl) rfl ?_
 refine D_qt rfl rfl rfl (r_fieldb (o' := 1) rfl T.fo73_1 rfl) rfl ?_
 refine D_qt rfl rfl rfl (r_loadb 0 rfl T.ag3 rfl rfl) rfl ?_
 refine D_qt rfl rfl rfl (r_fieldb (o' := 1) rfl T.fo77_1 rfl) rfl ?_
 refine D_qt rfl rfl rfl (r_loadb 1 rfl T.ag3 rfl rfl) rfl ?_
 refine D_quiett rfl rfl rfl (rMeet_q ht33 _ _ (by assumption) (by assumption) (by rw [(domTree_treeP hgo (root := 0) (by omega) (by omega)).len]; have := hgo.len; omega)) T.hb64 rfl rfl ?_
 refine D_qt rfl rfl rfl (r_fieldb (o' := 1) rfl T.fo73_1 rfl) rfl ?_
 refine D_qt rfl rfl rfl (r_loadb 0 rfl T.ag3 rfl rfl) rfl ?_
 refine D_qt rfl rfl rfl (r_bin rfl rfl (bin_neq _ _ _ _)) rfl ?_
 refine D_q rfl (r_pick_f rfl rfl) rfl ?_
 refine D_end ?_
 refine kk5 [5,7,12,13,153] ?_
 refine cd ?_ ?_ <;> intro h48 <;> try simp only [tt] at h48
 refine sq (rg ?_)
 refine as_ ?_
 refine wn (kk5 [4,5,7,12,13] ?_)
 refine C_ret (RX_block (RX_then (RX_then (RX_block (RX_then (RX_q1 rfl rfl ?_))))))
 refine congrArg (Value.int .i64) ?_
 rw [chk_last (by omega) (by omega) (by assumption) (by assumption) (by assumption) hd0 hs0 hg]; exact (places_no (by assumption) (by assumption) (by assumption) hg hz36 hu0 hz39 (by omega) (by omega) (.inr (by assumption))).symm
 refine sk (nb (kk4 [5,7,12,13] (rg ?_)))
 refine mv ?_
 refine ad ?_
 refine as_ ?_
 refine wn ?_
 refine NX_rnd [13, 5, 7, 12] (by omega) (()) ?_ rfl (sub_drop 2 rfl) rfl (Imm.le_refl _)
 exact lt_succ_all hJ34 (fun u hu => by rw [hz36] at hu; cases hu; exact askP_y (by assumption) (by assumption) hg hz36 hu0 hz39 (.inr (.inr ⟨by omega, by assumption⟩)))
 refine C_exit (EX_then (EX_then (EX_hit (?_))))
 refine kk0 [] (sq (rg ?_))
 refine as_ ?_
 refine wn (kk1 [4] ?_)
 refine C_ret (RX_q1 rfl rfl ?_)
 refine congrArg (Value.int .i64) ?_
 rw [chk_last (by omega) (by omega) (by assumption) (by assumption) (by assumption) hd0 hs0 hg]
 have hk3 : k34 = (usesR f).length := by omega
 have hJ3 := hJ34
 rw [hk3] at hJ3
 exact (places_yes (by assumption) (by assumption) hJ3).symm
namespace T
theorem hb29 : hasBody Tryz.prog 29 = true := by kernel_rfl
theorem hb30 : hasBody Tryz.prog 30 = true := by kernel_rfl
end T
end Go.Proofs.YtipmgkhjoekaaaaGreat
