/- A part of a proof about a given program: rules, plain functions and walks. -/
import Derived.Test.YtipmgkhjoekaaaaGreatProg
import Derived.Test.YtipmgkhjoekaaaaGreatXa
set_option linter.unusedVariables false
set_option linter.unusedSimpArgs false
namespace Go.Proofs.YtipmgkhjoekaaaaGreat
open Go Go.RowKit Go.Proofs Go.Proofs.YtipmgkhjoekaaaaGreat.Fw
attribute [local irreducible] Qt WL CW NX RX EX GX DL
namespace T
theorem ag22 : agg? Tryz.prog 22 = some false := by kernel_rfl
theorem ag3 : agg? Tryz.prog 3 = some false := by kernel_rfl
theorem ag44 : agg? Tryz.prog 44 = some true := by kernel_rfl
theorem ag51 : agg? Tryz.prog 51 = some true := by kernel_rfl
theorem ag61 : agg? Tryz.prog 61 = some true := by kernel_rfl
theorem hb126 : hasBody Tryz.prog 126 = true := by kernel_rfl
theorem hb148 : hasBody Tryz.prog 148 = true := by kernel_rfl
theorem hb152 : hasBody Tryz.prog 152 = true := by kernel_rfl
theorem hb181 : hasBody Tryz.prog 181 = true := by kernel_rfl
theorem hb188 : hasBody Tryz.prog 188 = true := by kernel_rfl
theorem hb189 : hasBody Tryz.prog 189 = true := by kernel_rfl
theorem sz22 : sz? Tryz.prog 22 = some 1 := by kernel_rfl
theorem sz3 : sz? Tryz.prog 3 = some 1 := by kernel_rfl
theorem sz44 : sz? Tryz.prog 44 = some 5 := by kernel_rfl
theorem sz51 : sz? Tryz.prog 51 = some 6 := by kernel_rfl
theorem sz61 : sz? Tryz.prog 61 = some 4 := by kernel_rfl
end T
set_option maxHeartbeats 4000000 in
/-- word.May -/
theorem May_q {m : Imm} (b : Int) : Quiet Tryz.prog 152 [.int .i64 b] m (.bool (mayW b)) := by
 refine quiet_of Tryz.func152 rfl Tryz.ntmps152 rfl (fun w => ?_)
 refine CW_seq ?_
 refine CW_region ?_
 refine W_q (r_assign rfl) rfl ?_
 refine W_nil ?_
 refine NX_as (L' := [(0, _), (2, _)]) [0, 2] rfl ?_
 refine CW_seq ?_
 refine CW_seq ?_
 refine CW_region ?_
 refine W_q (r_move rfl) rfl ?_
 refine W_nil ?_
 refine NX_as (L' := [(2, _), (3, _)]) [2, 3] rfl ?_
 refine CW_block ?_
 refine CW_seq ?_
 refine CW_seq ?_
 refine CW_region ?_
 refine W_q (r_bin rfl rfl (bin_eql _ _ _ _)) rfl ?_
 refine W_q (r_assign rfl) rfl ?_
 refine W_nil ?_
 refine NX_as (L' := [(2, _), (3, _), (4, _)]) [2, 3, 4] rfl ?_
 refine CW_condk rfl (fun h1 => ?_) (fun h1 => ?_)
 ·(try simp only [tA, tB, tC, tD, tE, tF, tG, tH, tI, tJ, tK, tL] at h1)
  refine C_skip ?_
  refine NX_as (L' := [(2, _), (4, _)]) [2, 4] rfl ?_
  refine CW_cond_t rfl ?_
  refine CW_seq ?_
  refine CW_region ?_
  refine W_q (r_assign rfl) rfl ?_
  refine W_nil ?_
  refine NX_as (L' := [(2, _)]) [2] rfl ?_
  refine C_ret (RX_block (RX_then (RX_q1 rfl rfl ?_)))
  simp [mayW, *]
 ·(try simp only [tA, tB, tC, tD, tE, tF, tG, tH, tI, tJ, tK, tL] at h1)
  refine CW_seq ?_
  refine CW_region ?_
  refine W_q (r_bin rfl rfl (bin_eql _ _ _ _)) rfl ?_
  refine W_q (r_assign rfl) rfl ?_
  refine W_nil ?_
  refine NX_as (L' := [(2, _), (3, _), (4, _)]) [2, 3, 4] rfl ?_
  refine CW_condk rfl (fun h2 => ?_) (fun h2 => ?_)
  ·(try simp only [tA, tB, tC, tD, tE, tF, tG, tH, tI, tJ, tK, tL] at h2)
   refine C_skip ?_
   refine NX_as (L' := [(2, _), (4, _)]) [2, 4] rfl ?_
   refine CW_cond_t rfl ?_
   refine CW_seq ?_
   refine CW_region ?_
   refine W_q (r_assign rfl) rfl ?_
   refine W_nil ?_
   refine NX_as (L' := [(2, _)]) [2] rfl ?_
   refine C_ret (RX_block (RX_then (RX_q1 rfl rfl ?_)))
   simp [mayW, *]
  ·(try simp only [tA, tB, tC, tD, tE, tF, tG, tH, tI, tJ, tK, tL] at h2)
   refine CW_seq ?_
   refine CW_region ?_
   refine W_q (r_bin rfl rfl (bin_eql _ _ _ _)) rfl ?_
   refine W_q (r_assign rfl) rfl ?_
   refine W_nil ?_
   refine NX_as (L' := [(2, _), (3, _), (4, _)]) [2, 3, 4] rfl ?_
   refine CW_condk rfl (fun h3 => ?_) (fun h3 => ?_)
   ·(try simp only [tA, tB, tC, tD, tE, tF, tG, tH, tI, tJ, tK, tL] at h3)
    refine C_skip ?_
    refine NX_as (L' := [(2, _), (4, _)]) [2, 4] rfl ?_
    refine CW_cond_t rfl ?_
    refine CW_seq ?_
    refine CW_region ?_
    refine W_q (r_assign rfl) rfl ?_
    refine W_nil ?_
    refine NX_as (L' := [(2, _)]) [2] rfl ?_
    refine C_ret (RX_block (RX_then (RX_q1 rfl rfl ?_)))
    simp [mayW, *]
   ·(try simp only [tA, tB, tC, tD, tE, tF, tG, tH, tI, tJ, tK, tL] at h3)
    refine CW_seq ?_
    refine CW_region ?_
    refine W_q (r_bin rfl rfl (bin_eql _ _ _ _)) rfl ?_
    refine W_q (r_assign rfl) rfl ?_
    refine W_nil ?_
    refine NX_as (L' := [(2, _), (3, _), (4, _)]) [2, 3, 4] rfl ?_
    refine CW_condk rfl (fun h4 => ?_) (fun h4 => ?_)
    ·(try simp only [tA, tB, tC, tD, tE, tF, tG, tH, tI, tJ, tK, tL] at h4)
     refine C_skip ?_
     refine NX_as (L' := [(2, _), (4, _)]) [2, 4] rfl ?_
     refine CW_cond_t rfl ?_
     refine CW_seq ?_
     refine CW_region ?_
     refine W_q (r_assign rfl) rfl ?_
     refine W_nil ?_
     refine NX_as (L' := [(2, _)]) [2] rfl ?_
     refine C_ret (RX_block (RX_then (RX_q1 rfl rfl ?_)))
     simp [mayW, *]
    ·(try simp only [tA, tB, tC, tD, tE, tF, tG, tH, tI, tJ, tK, tL] at h4)
     refine CW_region ?_
     refine W_q (r_bin rfl rfl (bin_eql _ _ _ _)) rfl ?_
     refine W_q (r_assign rfl) rfl ?_
     refine W_nil ?_
     refine NX_as (L' := [(2, _), (4, _)]) [2, 4] rfl ?_
     refine CW_condk rfl (fun h5 => ?_) (fun h5 => ?_)
     ·(try simp only [tA, tB, tC, tD, tE, tF, tG, tH, tI, tJ, tK, tL] at h5)
      refine CW_seq ?_
      refine CW_region ?_
      refine W_q (r_assign rfl) rfl ?_
      refine W_nil ?_
      refine NX_as (L' := [(2, _)]) [2] rfl ?_
      refine C_ret (RX_block (RX_then (RX_q1 rfl rfl ?_)))
      simp [mayW, *]
     ·(try simp only [tA, tB, tC, tD, tE, tF, tG, tH, tI, tJ, tK, tL] at h5)
      refine C_skip ?_
      refine NX_block (NX_as (L' := [(2, _)]) [2] rfl ?_)
      refine CW_seq ?_
      refine CW_region ?_
      refine W_q (r_assign rfl) rfl ?_
      refine W_nil ?_
      refine NX_as (L' := [(2, _)]) [2] rfl ?_
      refine C_ret (RX_q1 rfl rfl ?_)
      simp [mayW, *]

set_option maxHeartbeats 4000000 in
/-- kind.value -/
theorem value_q {m : Imm} (v : Int) : Quiet Tryz.prog 207 [.int .i64 v] m (.bool (valueB v)) := by
 refine quiet_of Tryz.func207 rfl Tryz.ntmps207 rfl (fun w => ?_)
 refine CW_seq ?_
 refine CW_region ?_
 refine W_q (r_assign rfl) rfl ?_
 refine W_nil ?_
 refine NX_as (L' := [(0, _), (2, _)]) [0, 2] rfl ?_
 refine CW_seq ?_
 refine CW_region ?_
 refine W_q (r_move rfl) rfl ?_
 refine W_q (r_bin rfl rfl (bin_geq _ _ _ _)) rfl ?_
 refine W_q (r_move rfl) rfl ?_
 refine WL_split (t := 5) rfl (fun h1 => ?_) (fun h1 => ?_)
 ·(try simp only [tA, tB, tC, tD, tE, tF, tG, tH, tI, tJ, tK, tL] at h1)
  refine WL_take rfl rfl ?_
  refine W_q (r_move rfl) rfl ?_
  refine WL_take rfl rfl ?_
  refine W_q (r_bin rfl rfl (bin_leq _ _ _ _)) rfl ?_
  refine W_q (r_pick_t rfl rfl) rfl ?_
  refine W_q (r_assign rfl) rfl ?_
  refine W_nil ?_
  refine NX_as (L' := [(2, _)]) [2] rfl ?_
  refine C_ret (RX_q1 rfl rfl ?_)
  simp [valueB, *]
 ·(try simp only [tA, tB, tC, tD, tE, tF, tG, tH, tI, tJ, tK, tL] at h1)
  refine WL_pass rfl rfl rfl rfl ?_
  refine WL_pass rfl rfl rfl rfl ?_
  refine W_q (r_pick_f rfl rfl) rfl ?_
  refine W_q (r_assign rfl) rfl ?_
  refine W_nil ?_
  refine NX_as (L' := [(2, _)]) [2] rfl ?_
  refine C_ret (RX_q1 rfl rfl ?_)
  simp [valueB, *]

set_option maxHeartbeats 4000000 in
/-- kind.Pure -/
theorem Pure_q {m : Imm} (k : Int) : Quiet Tryz.prog 53 [.int .i64 k] m (.bool (pureK k)) := by
 refine quiet_of Tryz.func53 rfl Tryz.ntmps53 rfl (fun w => ?_)
 refine CW_seq ?_
 refine CW_region ?_
 refine W_q (r_assign rfl) rfl ?_
 refine W_nil ?_
 refine NX_as (L' := [(0, _), (2, _)]) [0, 2] rfl ?_
 refine CW_seq ?_
 refine CW_seq ?_
 refine CW_region ?_
 refine W_q (r_move rfl) rfl ?_
 refine W_nil ?_
 refine NX_as (L' := [(0, _), (2, _), (3, _)]) [0, 2, 3] rfl ?_
 refine CW_block ?_
 refine CW_seq ?_
 refine CW_seq ?_
 refine CW_region ?_
 refine W_q (r_bin rfl rfl (bin_eql _ _ _ _)) rfl ?_
 refine W_q (r_assign rfl) rfl ?_
 refine W_nil ?_
 refine NX_as (L' := [(0, _), (2, _), (3, _), (4, _)]) [0, 2, 3, 4] rfl ?_
 refine CW_condk rfl (fun h1 => ?_) (fun h1 => ?_)
 ·(try simp only [tA, tB, tC, tD, tE, tF, tG, tH, tI, tJ, tK, tL] at h1)
  refine C_skip ?_
  refine NX_as (L' := [(0, _), (2, _), (4, _)]) [0, 2, 4] rfl ?_
  refine CW_cond_t rfl ?_
  refine CW_seq ?_
  refine CW_region ?_
  refine W_q (r_assign rfl) rfl ?_
  refine W_nil ?_
  refine NX_as (L' := [(0, _), (2, _)]) [0, 2] rfl ?_
  refine C_ret (RX_block (RX_then (RX_q1 rfl rfl ?_)))
  simp [pureK, *]
 ·(try simp only [tA, tB, tC, tD, tE, tF, tG, tH, tI, tJ, tK, tL] at h1)
  refine CW_seq ?_
  refine CW_region ?_
  refine W_q (r_bin rfl rfl (bin_eql _ _ _ _)) rfl ?_
  refine W_q (r_assign rfl) rfl ?_
  refine W_nil ?_
  refine NX_as (L' := [(0, _), (2, _), (3, _), (4, _)]) [0, 2, 3, 4] rfl ?_
  refine CW_condk rfl (fun h2 => ?_) (fun h2 => ?_)
  ·(try simp only [tA, tB, tC, tD, tE, tF, tG, tH, tI, tJ, tK, tL] at h2)
   refine C_skip ?_
   refine NX_as (L' := [(0, _), (2, _), (4, _)]) [0, 2, 4] rfl ?_
   refine CW_cond_t rfl ?_
   refine CW_seq ?_
   refine CW_region ?_
   refine W_q (r_assign rfl) rfl ?_
   refine W_nil ?_
   refine NX_as (L' := [(0, _), (2, _)]) [0, 2] rfl ?_
   refine C_ret (RX_block (RX_then (RX_q1 rfl rfl ?_)))
   simp [pureK, *]
  ·(try simp only [tA, tB, tC, tD, tE, tF, tG, tH, tI, tJ, tK, tL] at h2)
   refine CW_seq ?_
   refine CW_region ?_
   refine W_q (r_bin rfl rfl (bin_eql _ _ _ _)) rfl ?_
   refine W_q (r_assign rfl) rfl ?_
   refine W_nil ?_
   refine NX_as (L' := [(0, _), (2, _), (3, _), (4, _)]) [0, 2, 3, 4] rfl ?_
   refine CW_condk rfl (fun h3 => ?_) (fun h3 => ?_)
   ·(try simp only [tA, tB, tC, tD, tE, tF, tG, tH, tI, tJ, tK, tL] at h3)
    refine C_skip ?_
    refine NX_as (L' := [(0, _), (2, _), (4, _)]) [0, 2, 4] rfl ?_
    refine CW_cond_t rfl ?_
    refine CW_seq ?_
    refine CW_region ?_
    refine W_q (r_assign rfl) rfl ?_
    refine W_nil ?_
    refine NX_as (L' := [(0, _), (2, _)]) [0, 2] rfl ?_
    refine C_ret (RX_block (RX_then (RX_q1 rfl rfl ?_)))
    simp [pureK, *]
   ·(try simp only [tA, tB, tC, tD, tE, tF, tG, tH, tI, tJ, tK, tL] at h3)
    refine CW_seq ?_
    refine CW_region ?_
    refine W_q (r_bin rfl rfl (bin_eql _ _ _ _)) rfl ?_
    refine W_q (r_assign rfl) rfl ?_
    refine W_nil ?_
    refine NX_as (L' := [(0, _), (2, _), (3, _), (4, _)]) [0, 2, 3, 4] rfl ?_
    refine CW_condk rfl (fun h4 => ?_) (fun h4 => ?_)
    ·(try simp only [tA, tB, tC, tD, tE, tF, tG, tH, tI, tJ, tK, tL] at h4)
     refine C_skip ?_
     refine NX_as (L' := [(0, _), (2, _), (4, _)]) [0, 2, 4] rfl ?_
     refine CW_cond_t rfl ?_
     refine CW_seq ?_
     refine CW_region ?_
     refine W_q (r_assign rfl) rfl ?_
     refine W_nil ?_
     refine NX_as (L' := [(0, _), (2, _)]) [0, 2] rfl ?_
     refine C_ret (RX_block (RX_then (RX_q1 rfl rfl ?_)))
     simp [pureK, *]
    ·(try simp only [tA, tB, tC, tD, tE, tF, tG, tH, tI, tJ, tK, tL] at h4)
     refine CW_seq ?_
     refine CW_region ?_
     refine W_q (r_bin rfl rfl (bin_eql _ _ _ _)) rfl ?_
     refine W_q (r_assign rfl) rfl ?_
     refine W_nil ?_
     refine NX_as (L' := [(0, _), (2, _), (3, _), (4, _)]) [0, 2, 3, 4] rfl ?_
     refine CW_condk rfl (fun h5 => ?_) (fun h5 => ?_)
     ·(try simp only [tA, tB, tC, tD, tE, tF, tG, tH, tI, tJ, tK, tL] at h5)
      refine C_skip ?_
      refine NX_as (L' := [(0, _), (2, _), (4, _)]) [0, 2, 4] rfl ?_
      refine CW_cond_t rfl ?_
      refine CW_seq ?_
      refine CW_region ?_
      refine W_q (r_assign rfl) rfl ?_
      refine W_nil ?_
      refine NX_as (L' := [(0, _), (2, _)]) [0, 2] rfl ?_
      refine C_ret (RX_block (RX_then (RX_q1 rfl rfl ?_)))
      simp [pureK, *]
     ·(try simp only [tA, tB, tC, tD, tE, tF, tG, tH, tI, tJ, tK, tL] at h5)
      refine CW_region ?_
      refine W_q (r_bin rfl rfl (bin_eql _ _ _ _)) rfl ?_
      refine W_q (r_assign rfl) rfl ?_
      refine W_nil ?_
      refine NX_as (L' := [(0, _), (2, _), (4, _)]) [0, 2, 4] rfl ?_
      refine CW_condk rfl (fun h6 => ?_) (fun h6 => ?_)
      ·(try simp only [tA, tB, tC, tD, tE, tF, tG, tH, tI, tJ, tK, tL] at h6)
       refine CW_seq ?_
       refine CW_region ?_
       refine W_q (r_assign rfl) rfl ?_
       refine W_nil ?_
       refine NX_as (L' := [(0, _), (2, _)]) [0, 2] rfl ?_
       refine C_ret (RX_block (RX_then (RX_q1 rfl rfl ?_)))
       simp [pureK, *]
      ·(try simp only [tA, tB, tC, tD, tE, tF, tG, tH, tI, tJ, tK, tL] at h6)
       refine C_skip ?_
       refine NX_block (NX_as (L' := [(0, _), (2, _)]) [0, 2] rfl ?_)
       refine CW_seq ?_
       refine CW_region ?_
       refine W_q (r_move rfl) rfl ?_
       refine W_q (r_bin rfl rfl (bin_geq _ _ _ _)) rfl ?_
       refine W_q (r_move rfl) rfl ?_
       refine WL_split (t := 13) rfl (fun h7 => ?_) (fun h7 => ?_)
       ·(try simp only [tA, tB, tC, tD, tE, tF, tG, tH, tI, tJ, tK, tL] at h7)
        refine WL_take rfl rfl ?_
        refine W_q (r_move rfl) rfl ?_
        refine WL_take rfl rfl ?_
        refine W_q (r_bin rfl rfl (bin_leq _ _ _ _)) rfl ?_
        refine W_q (r_pick_t rfl rfl) rfl ?_
        refine W_q (r_assign rfl) rfl ?_
        refine W_nil ?_
        refine NX_as (L' := [(2, _)]) [2] rfl ?_
        refine C_ret (RX_q1 rfl rfl ?_)
        simp [pureK, *]
       ·(try simp only [tA, tB, tC, tD, tE, tF, tG, tH, tI, tJ, tK, tL] at h7)
        refine WL_pass rfl rfl rfl rfl ?_
        refine WL_pass rfl rfl rfl rfl ?_
        refine W_q (r_pick_f rfl rfl) rfl ?_
        refine W_q (r_assign rfl) rfl ?_
        refine W_nil ?_
        refine NX_as (L' := [(2, _)]) [2] rfl ?_
        refine C_ret (RX_q1 rfl rfl ?_)
        simp [pureK, *]

set_option maxHeartbeats 4000000 in
/-- kind.stores -/
theorem stores_q {m : Imm} (k : Int) : Quiet Tryz.prog 191 [.int .i64 k] m (.bool (storesK k)) := by
 refine quiet_of Tryz.func191 rfl Tryz.ntmps191 rfl (fun w => ?_)
 refine CW_seq ?_
 refine CW_region ?_
 refine W_q (r_assign rfl) rfl ?_
 refine W_nil ?_
 refine NX_as (L' := [(0, _), (2, _)]) [0, 2] rfl ?_
 refine CW_seq ?_
 refine CW_region ?_
 refine W_q (r_move rfl) rfl ?_
 refine W_q (r_bin rfl rfl (bin_eql _ _ _ _)) rfl ?_
 refine W_q (r_move rfl) rfl ?_
 refine WL_split (t := 5) rfl (fun h1 => ?_) (fun h1 => ?_)
 ·(try simp only [tA, tB, tC, tD, tE, tF, tG, tH, tI, tJ, tK, tL] at h1)
  refine WL_pass rfl rfl rfl rfl ?_
  refine WL_pass rfl rfl rfl rfl ?_
  refine W_q (r_pick_t rfl rfl) rfl ?_
  refine W_q (r_assign rfl) rfl ?_
  refine W_nil ?_
  refine NX_as (L' := [(2, _)]) [2] rfl ?_
  refine C_ret (RX_q1 rfl rfl ?_)
  simp [storesK, *]
 ·(try simp only [tA, tB, tC, tD, tE, tF, tG, tH, tI, tJ, tK, tL] at h1)
  refine WL_take rfl rfl ?_
  refine W_q (r_move rfl) rfl ?_
  refine WL_take rfl rfl ?_
  refine W_q (r_bin rfl rfl (bin_eql _ _ _ _)) rfl ?_
  refine W_q (r_pick_f rfl rfl) rfl ?_
  refine W_q (r_assign rfl) rfl ?_
  refine W_nil ?_
  refine NX_as (L' := [(2, _)]) [2] rfl ?_
  refine C_ret (RX_q1 rfl rfl ?_)
  simp [storesK, *]

set_option maxHeartbeats 4000000 in
/-- code.in$1 -/
theorem in1_q {m : Imm} (n : Int) : Quiet Tryz.prog 147 [.int .i64 n] m (.bool (outN n)) := by
 refine quiet_of Tryz.func147 rfl Tryz.ntmps147 rfl (fun w => ?_)
 refine CW_seq ?_
 refine CW_region ?_
 refine W_q (r_assign rfl) rfl ?_
 refine W_nil ?_
 refine NX_as (L' := [(0, _), (2, _)]) [0, 2] rfl ?_
 refine CW_seq ?_
 refine CW_region ?_
 refine W_q (r_move rfl) rfl ?_
 refine W_q (r_bin rfl rfl (bin_lss _ _ _ _)) rfl ?_
 refine W_q (r_move rfl) rfl ?_
 refine WL_split (t := 5) rfl (fun h1 => ?_) (fun h1 => ?_)
 ·(try simp only [tA, tB, tC, tD, tE, tF, tG, tH, tI, tJ, tK, tL] at h1)
  refine WL_pass rfl rfl rfl rfl ?_
  refine WL_pass rfl rfl rfl rfl ?_
  refine W_q (r_pick_t rfl rfl) rfl ?_
  refine W_q (r_assign rfl) rfl ?_
  refine W_nil ?_
  refine NX_as (L' := [(2, _)]) [2] rfl ?_
  refine C_ret (RX_q1 rfl rfl ?_)
  simp [outN, *]
 ·(try simp only [tA, tB, tC, tD, tE, tF, tG, tH, tI, tJ, tK, tL] at h1)
  refine WL_take rfl rfl ?_
  refine W_q (r_move rfl) rfl ?_
  refine WL_take rfl rfl ?_
  refine W_q (r_bin rfl rfl (bin_gtr _ _ _ _)) rfl ?_
  refine W_q (r_pick_f rfl rfl) rfl ?_
  refine W_q (r_assign rfl) rfl ?_
  refine W_nil ?_
  refine NX_as (L' := [(2, _)]) [2] rfl ?_
  refine C_ret (RX_q1 rfl rfl ?_)
  simp [outN, *]

set_option maxHeartbeats 4000000 in
/-- kind.Shape -/
theorem Shape_q {m : Imm} (b l : Int) : Quiet Tryz.prog 205 [.int .i64 b, .int .i64 l] m (.bool (shapeB b l)) := by
 refine quiet_of Tryz.func205 rfl Tryz.ntmps205 rfl (fun w => ?_)
 refine CW_seq ?_
 refine CW_region ?_
 refine W_q (r_assign rfl) rfl ?_
 refine W_nil ?_
 refine NX_as (L' := [(0, _), (1, _), (4, _)]) [0, 1, 4] rfl ?_
 refine CW_seq ?_
 refine CW_seq ?_
 refine CW_region ?_
 refine W_q (r_move rfl) rfl ?_
 refine W_quiet (May_q _) T.hb152 rfl rfl ?_
 refine W_q (r_not rfl) rfl ?_
 refine W_nil ?_
 refine NX_as (L' := [(0, _), (1, _), (4, _), (7, _)]) [0, 1, 4, 7] rfl ?_
 refine CW_condk rfl (fun h1 => ?_) (fun h1 => ?_)
 ·(try simp only [tA, tB, tC, tD, tE, tF, tG, tH, tI, tJ, tK, tL] at h1)
  refine CW_seq ?_
  refine CW_region ?_
  refine W_q (r_assign rfl) rfl ?_
  refine W_nil ?_
  refine NX_as (L' := [(0, _), (1, _), (4, _)]) [0, 1, 4] rfl ?_
  refine C_ret (RX_then (RX_q1 rfl rfl ?_))
  first
    | (simp [shapeB, *]; done)
    | (have hb := mayW_le h1; subst_vars; rw [i64_of _ ⟨by omega, by omega⟩]; simp [shapeB, *])
 ·(try simp only [tA, tB, tC, tD, tE, tF, tG, tH, tI, tJ, tK, tL] at h1)
  refine C_skip ?_
  refine NX_as (L' := [(0, _), (1, _), (4, _)]) [0, 1, 4] rfl ?_
  refine CW_seq ?_
  refine CW_seq ?_
  refine CW_region ?_
  refine W_q (r_move rfl) rfl ?_
  refine W_nil ?_
  refine NX_as (L' := [(0, _), (1, _), (4, _), (8, _)]) [0, 1, 4, 8] rfl ?_
  refine CW_block ?_
  refine CW_seq ?_
  refine CW_region ?_
  refine W_q (r_bin rfl rfl (bin_eql _ _ _ _)) rfl ?_
  refine W_q (r_assign rfl) rfl ?_
  refine W_nil ?_
  refine NX_as (L' := [(0, _), (1, _), (4, _), (8, _), (9, _)]) [0, 1, 4, 8, 9] rfl ?_
  refine CW_condk rfl (fun h2 => ?_) (fun h2 => ?_)
  ·(try simp only [tA, tB, tC, tD, tE, tF, tG, tH, tI, tJ, tK, tL] at h2)
   refine CW_seq ?_
   refine CW_region ?_
   refine W_q (r_assign rfl) rfl ?_
   refine W_nil ?_
   refine NX_as (L' := [(4, _)]) [4] rfl ?_
   refine C_ret (RX_block (RX_then (RX_q1 rfl rfl ?_)))
   first
     | (simp [shapeB, *]; done)
     | (have hb := mayW_le h1; subst_vars; rw [i64_of _ ⟨by omega, by omega⟩]; simp [shapeB, *])
  ·(try simp only [tA, tB, tC, tD, tE, tF, tG, tH, tI, tJ, tK, tL] at h2)
   refine CW_seq ?_
   refine CW_seq ?_
   refine CW_region ?_
   refine W_q (r_bin rfl rfl (bin_eql _ _ _ _)) rfl ?_
   refine W_q (r_assign rfl) rfl ?_
   refine W_nil ?_
   refine NX_as (L' := [(0, _), (1, _), (4, _), (8, _), (11, _)]) [0, 1, 4, 8, 11] rfl ?_
   refine CW_condk rfl (fun h3 => ?_) (fun h3 => ?_)
   ·(try simp only [tA, tB, tC, tD, tE, tF, tG, tH, tI, tJ, tK, tL] at h3)
    refine C_skip ?_
    refine NX_as (L' := [(0, _), (1, _), (4, _), (11, _)]) [0, 1, 4, 11] rfl ?_
    refine CW_cond_t rfl ?_
    refine CW_seq ?_
    refine CW_region ?_
    refine W_q (r_move rfl) rfl ?_
    refine W_q (r_bin rfl rfl (bin_geq _ _ _ _)) rfl ?_
    refine W_q (r_move rfl) rfl ?_
    refine WL_split (t := 18) rfl (fun h4 => ?_) (fun h4 => ?_)
    ·(try simp only [tA, tB, tC, tD, tE, tF, tG, tH, tI, tJ, tK, tL] at h4)
     refine WL_take rfl rfl ?_
     refine W_q (r_move rfl) rfl ?_
     refine WL_take rfl rfl ?_
     refine W_q (r_move rfl) rfl ?_
     refine WL_take rfl rfl ?_
     refine W_q (r_bin rfl rfl (bin_mul _ _ _ _)) rfl ?_
     refine WL_take rfl rfl ?_
     refine W_q (r_bin rfl rfl (bin_leq _ _ _ _)) rfl ?_
     refine W_q (r_pick_t rfl rfl) rfl ?_
     refine W_q (r_assign rfl) rfl ?_
     refine W_nil ?_
     refine NX_as (L' := [(4, _)]) [4] rfl ?_
     refine C_ret (RX_block (RX_then (RX_q1 rfl rfl ?_)))
     first
       | (simp [shapeB, *]; done)
       | (have hb := mayW_le h1; subst_vars; rw [i64_of _ ⟨by omega, by omega⟩]; simp [shapeB, *])
    ·(try simp only [tA, tB, tC, tD, tE, tF, tG, tH, tI, tJ, tK, tL] at h4)
     refine WL_pass rfl rfl rfl rfl ?_
     refine WL_pass rfl rfl rfl rfl ?_
     refine WL_pass rfl rfl rfl rfl ?_
     refine WL_pass rfl rfl rfl rfl ?_
     refine W_q (r_pick_f rfl rfl) rfl ?_
     refine W_q (r_assign rfl) rfl ?_
     refine W_nil ?_
     refine NX_as (L' := [(4, _)]) [4] rfl ?_
     refine C_ret (RX_block (RX_then (RX_q1 rfl rfl ?_)))
     first
       | (simp [shapeB, *]; done)
       | (have hb := mayW_le h1; subst_vars; rw [i64_of _ ⟨by omega, by omega⟩]; simp [shapeB, *])
   ·(try simp only [tA, tB, tC, tD, tE, tF, tG, tH, tI, tJ, tK, tL] at h3)
    refine CW_seq ?_
    refine CW_region ?_
    refine W_q (r_bin rfl rfl (bin_eql _ _ _ _)) rfl ?_
    refine W_q (r_assign rfl) rfl ?_
    refine W_nil ?_
    refine NX_as (L' := [(0, _), (1, _), (4, _), (8, _), (11, _)]) [0, 1, 4, 8, 11] rfl ?_
    refine CW_condk rfl (fun h5 => ?_) (fun h5 => ?_)
    ·(try simp only [tA, tB, tC, tD, tE, tF, tG, tH, tI, tJ, tK, tL] at h5)
     refine C_skip ?_
     refine NX_as (L' := [(0, _), (1, _), (4, _), (11, _)]) [0, 1, 4, 11] rfl ?_
     refine CW_cond_t rfl ?_
     refine CW_seq ?_
     refine CW_region ?_
     refine W_q (r_move rfl) rfl ?_
     refine W_q (r_bin rfl rfl (bin_geq _ _ _ _)) rfl ?_
     refine W_q (r_move rfl) rfl ?_
     refine WL_split (t := 18) rfl (fun h6 => ?_) (fun h6 => ?_)
     ·(try simp only [tA, tB, tC, tD, tE, tF, tG, tH, tI, tJ, tK, tL] at h6)
      refine WL_take rfl rfl ?_
      refine W_q (r_move rfl) rfl ?_
      refine WL_take rfl rfl ?_
      refine W_q (r_move rfl) rfl ?_
      refine WL_take rfl rfl ?_
      refine W_q (r_bin rfl rfl (bin_mul _ _ _ _)) rfl ?_
      refine WL_take rfl rfl ?_
      refine W_q (r_bin rfl rfl (bin_leq _ _ _ _)) rfl ?_
      refine W_q (r_pick_t rfl rfl) rfl ?_
      refine W_q (r_assign rfl) rfl ?_
      refine W_nil ?_
      refine NX_as (L' := [(4, _)]) [4] rfl ?_
      refine C_ret (RX_block (RX_then (RX_q1 rfl rfl ?_)))
      first
        | (simp [shapeB, *]; done)
        | (have hb := mayW_le h1; subst_vars; rw [i64_of _ ⟨by omega, by omega⟩]; simp [shapeB, *])
     ·(try simp only [tA, tB, tC, tD, tE, tF, tG, tH, tI, tJ, tK, tL] at h6)
      refine WL_pass rfl rfl rfl rfl ?_
      refine WL_pass rfl rfl rfl rfl ?_
      refine WL_pass rfl rfl rfl rfl ?_
      refine WL_pass rfl rfl rfl rfl ?_
      refine W_q (r_pick_f rfl rfl) rfl ?_
      refine W_q (r_assign rfl) rfl ?_
      refine W_nil ?_
      refine NX_as (L' := [(4, _)]) [4] rfl ?_
      refine C_ret (RX_block (RX_then (RX_q1 rfl rfl ?_)))
      first
        | (simp [shapeB, *]; done)
        | (have hb := mayW_le h1; subst_vars; rw [i64_of _ ⟨by omega, by omega⟩]; simp [shapeB, *])
    ·(try simp only [tA, tB, tC, tD, tE, tF, tG, tH, tI, tJ, tK, tL] at h5)
     refine CW_seq ?_
     refine CW_region ?_
     refine W_q (r_bin rfl rfl (bin_eql _ _ _ _)) rfl ?_
     refine W_q (r_assign rfl) rfl ?_
     refine W_nil ?_
     refine NX_as (L' := [(0, _), (1, _), (4, _), (8, _), (11, _)]) [0, 1, 4, 8, 11] rfl ?_
     refine CW_condk rfl (fun h7 => ?_) (fun h7 => ?_)
     ·(try simp only [tA, tB, tC, tD, tE, tF, tG, tH, tI, tJ, tK, tL] at h7)
      refine C_skip ?_
      refine NX_as (L' := [(0, _), (1, _), (4, _), (11, _)]) [0, 1, 4, 11] rfl ?_
      refine CW_cond_t rfl ?_
      refine CW_seq ?_
      refine CW_region ?_
      refine W_q (r_move rfl) rfl ?_
      refine W_q (r_bin rfl rfl (bin_geq _ _ _ _)) rfl ?_
      refine W_q (r_move rfl) rfl ?_
      refine WL_split (t := 18) rfl (fun h8 => ?_) (fun h8 => ?_)
      ·(try simp only [tA, tB, tC, tD, tE, tF, tG, tH, tI, tJ, tK, tL] at h8)
       refine WL_take rfl rfl ?_
       refine W_q (r_move rfl) rfl ?_
       refine WL_take rfl rfl ?_
       refine W_q (r_move rfl) rfl ?_
       refine WL_take rfl rfl ?_
       refine W_q (r_bin rfl rfl (bin_mul _ _ _ _)) rfl ?_
       refine WL_take rfl rfl ?_
       refine W_q (r_bin rfl rfl (bin_leq _ _ _ _)) rfl ?_
       refine W_q (r_pick_t rfl rfl) rfl ?_
       refine W_q (r_assign rfl) rfl ?_
       refine W_nil ?_
       refine NX_as (L' := [(4, _)]) [4] rfl ?_
       refine C_ret (RX_block (RX_then (RX_q1 rfl rfl ?_)))
       first
         | (simp [shapeB, *]; done)
         | (have hb := mayW_le h1; subst_vars; rw [i64_of _ ⟨by omega, by omega⟩]; simp [shapeB, *])
      ·(try simp only [tA, tB, tC, tD, tE, tF, tG, tH, tI, tJ, tK, tL] at h8)
       refine WL_pass rfl rfl rfl rfl ?_
       refine WL_pass rfl rfl rfl rfl ?_
       refine WL_pass rfl rfl rfl rfl ?_
       refine WL_pass rfl rfl rfl rfl ?_
       refine W_q (r_pick_f rfl rfl) rfl ?_
       refine W_q (r_assign rfl) rfl ?_
       refine W_nil ?_
       refine NX_as (L' := [(4, _)]) [4] rfl ?_
       refine C_ret (RX_block (RX_then (RX_q1 rfl rfl ?_)))
       first
         | (simp [shapeB, *]; done)
         | (have hb := mayW_le h1; subst_vars; rw [i64_of _ ⟨by omega, by omega⟩]; simp [shapeB, *])
     ·(try simp only [tA, tB, tC, tD, tE, tF, tG, tH, tI, tJ, tK, tL] at h7)
      refine CW_region ?_
      refine W_q (r_bin rfl rfl (bin_eql _ _ _ _)) rfl ?_
      refine W_q (r_assign rfl) rfl ?_
      refine W_nil ?_
      refine NX_as (L' := [(0, _), (1, _), (4, _), (11, _)]) [0, 1, 4, 11] rfl ?_
      refine CW_condk rfl (fun h9 => ?_) (fun h9 => ?_)
      ·(try simp only [tA, tB, tC, tD, tE, tF, tG, tH, tI, tJ, tK, tL] at h9)
       refine CW_seq ?_
       refine CW_region ?_
       refine W_q (r_move rfl) rfl ?_
       refine W_q (r_bin rfl rfl (bin_geq _ _ _ _)) rfl ?_
       refine W_q (r_move rfl) rfl ?_
       refine WL_split (t := 18) rfl (fun h10 => ?_) (fun h10 => ?_)
       ·(try simp only [tA, tB, tC, tD, tE, tF, tG, tH, tI, tJ, tK, tL] at h10)
        refine WL_take rfl rfl ?_
        refine W_q (r_move rfl) rfl ?_
        refine WL_take rfl rfl ?_
        refine W_q (r_move rfl) rfl ?_
        refine WL_take rfl rfl ?_
        refine W_q (r_bin rfl rfl (bin_mul _ _ _ _)) rfl ?_
        refine WL_take rfl rfl ?_
        refine W_q (r_bin rfl rfl (bin_leq _ _ _ _)) rfl ?_
        refine W_q (r_pick_t rfl rfl) rfl ?_
        refine W_q (r_assign rfl) rfl ?_
        refine W_nil ?_
        refine NX_as (L' := [(4, _)]) [4] rfl ?_
        refine C_ret (RX_block (RX_then (RX_q1 rfl rfl ?_)))
        first
          | (simp [shapeB, *]; done)
          | (have hb := mayW_le h1; subst_vars; rw [i64_of _ ⟨by omega, by omega⟩]; simp [shapeB, *])
       ·(try simp only [tA, tB, tC, tD, tE, tF, tG, tH, tI, tJ, tK, tL] at h10)
        refine WL_pass rfl rfl rfl rfl ?_
        refine WL_pass rfl rfl rfl rfl ?_
        refine WL_pass rfl rfl rfl rfl ?_
        refine WL_pass rfl rfl rfl rfl ?_
        refine W_q (r_pick_f rfl rfl) rfl ?_
        refine W_q (r_assign rfl) rfl ?_
        refine W_nil ?_
        refine NX_as (L' := [(4, _)]) [4] rfl ?_
        refine C_ret (RX_block (RX_then (RX_q1 rfl rfl ?_)))
        first
          | (simp [shapeB, *]; done)
          | (have hb := mayW_le h1; subst_vars; rw [i64_of _ ⟨by omega, by omega⟩]; simp [shapeB, *])
      ·(try simp only [tA, tB, tC, tD, tE, tF, tG, tH, tI, tJ, tK, tL] at h9)
       refine C_skip ?_
       refine NX_block (NX_as (L' := [(4, _)]) [4] rfl ?_)
       refine CW_seq ?_
       refine CW_region ?_
       refine W_q (r_assign rfl) rfl ?_
       refine W_nil ?_
       refine NX_as (L' := [(4, _)]) [4] rfl ?_
       refine C_ret (RX_q1 rfl rfl ?_)
       first
         | (simp [shapeB, *]; done)
         | (have hb := mayW_le h1; subst_vars; rw [i64_of _ ⟨by omega, by omega⟩]; simp [shapeB, *])

set_option maxHeartbeats 4000000 in
/-- graph.goes -/
theorem goes_q {m : Imm} (k : Int) : Quiet Tryz.prog 100 [.int .i64 k] m (.int .i64 (goesK k)) := by
 refine quiet_of Tryz.func100 rfl Tryz.ntmps100 rfl (fun w => ?_)
 refine CW_seq ?_
 refine CW_region ?_
 refine W_q (r_assign rfl) rfl ?_
 refine W_nil ?_
 refine NX_as (L' := [(0, _), (2, _)]) [0, 2] rfl ?_
 refine CW_seq ?_
 refine CW_seq ?_
 refine CW_region ?_
 refine W_q (r_move rfl) rfl ?_
 refine W_nil ?_
 refine NX_as (L' := [(2, _), (3, _)]) [2, 3] rfl ?_
 refine CW_block ?_
 refine CW_seq ?_
 refine CW_seq ?_
 refine CW_region ?_
 refine W_q (r_bin rfl rfl (bin_eql _ _ _ _)) rfl ?_
 refine W_q (r_assign rfl) rfl ?_
 refine W_nil ?_
 refine NX_as (L' := [(2, _), (3, _), (4, _)]) [2, 3, 4] rfl ?_
 refine CW_condk rfl (fun h1 => ?_) (fun h1 => ?_)
 ·(try simp only [tA, tB, tC, tD, tE, tF, tG, tH, tI, tJ, tK, tL] at h1)
  refine C_skip ?_
  refine NX_as (L' := [(2, _), (3, _), (4, _)]) [2, 3, 4] rfl ?_
  refine CW_cond_t rfl ?_
  refine CW_seq ?_
  refine CW_region ?_
  refine W_q (r_assign rfl) rfl ?_
  refine W_nil ?_
  refine NX_as (L' := [(2, _)]) [2] rfl ?_
  refine C_ret (RX_block (RX_then (RX_q1 rfl rfl ?_)))
  simp [goesK, *]
 ·(try simp only [tA, tB, tC, tD, tE, tF, tG, tH, tI, tJ, tK, tL] at h1)
  refine CW_region ?_
  refine W_q (r_bin rfl rfl (bin_eql _ _ _ _)) rfl ?_
  refine W_q (r_assign rfl) rfl ?_
  refine W_nil ?_
  refine NX_as (L' := [(2, _), (3, _), (4, _)]) [2, 3, 4] rfl ?_
  refine CW_condk rfl (fun h2 => ?_) (fun h2 => ?_)
  ·(try simp only [tA, tB, tC, tD, tE, tF, tG, tH, tI, tJ, tK, tL] at h2)
   refine CW_seq ?_
   refine CW_region ?_
   refine W_q (r_assign rfl) rfl ?_
   refine W_nil ?_
   refine NX_as (L' := [(2, _)]) [2] rfl ?_
   refine C_ret (RX_block (RX_then (RX_q1 rfl rfl ?_)))
   simp [goesK, *]
  ·(try simp only [tA, tB, tC, tD, tE, tF, tG, tH, tI, tJ, tK, tL] at h2)
   refine CW_seq ?_
   refine CW_region ?_
   refine W_q (r_bin rfl rfl (bin_eql _ _ _ _)) rfl ?_
   refine W_q (r_assign rfl) rfl ?_
   refine W_nil ?_
   refine NX_as (L' := [(2, _), (3, _), (7, _)]) [2, 3, 7] rfl ?_
   refine CW_condk rfl (fun h3 => ?_) (fun h3 => ?_)
   ·(try simp only [tA, tB, tC, tD, tE, tF, tG, tH, tI, tJ, tK, tL] at h3)
    refine CW_seq ?_
    refine CW_region ?_
    refine W_q (r_assign rfl) rfl ?_
    refine W_nil ?_
    refine NX_as (L' := [(2, _)]) [2] rfl ?_
    refine C_ret (RX_block (RX_then (RX_q1 rfl rfl ?_)))
    simp [goesK, *]
   ·(try simp only [tA, tB, tC, tD, tE, tF, tG, tH, tI, tJ, tK, tL] at h3)
    refine CW_seq ?_
    refine CW_region ?_
    refine W_q (r_bin rfl rfl (bin_eql _ _ _ _)) rfl ?_
    refine W_q (r_assign rfl) rfl ?_
    refine W_nil ?_
    refine NX_as (L' := [(2, _), (9, _)]) [2, 9] rfl ?_
    refine CW_condk rfl (fun h4 => ?_) (fun h4 => ?_)
    ·(try simp only [tA, tB, tC, tD, tE, tF, tG, tH, tI, tJ, tK, tL] at h4)
     refine CW_seq ?_
     refine CW_region ?_
     refine W_q (r_assign rfl) rfl ?_
     refine W_nil ?_
     refine NX_as (L' := [(2, _)]) [2] rfl ?_
     refine C_ret (RX_block (RX_then (RX_q1 rfl rfl ?_)))
     simp [goesK, *]
    ·(try simp only [tA, tB, tC, tD, tE, tF, tG, tH, tI, tJ, tK, tL] at h4)
     refine C_skip ?_
     refine NX_block (NX_as (L' := [(2, _)]) [2] rfl ?_)
     refine CW_seq ?_
     refine CW_region ?_
     refine W_q (r_assign rfl) rfl ?_
     refine W_nil ?_
     refine NX_as (L' := [(2, _)]) [2] rfl ?_
     refine C_ret (RX_q1 rfl rfl ?_)
     simp [goesK, *]

set_option maxHeartbeats 4000000 in
/-- lockstepref06.Has -/
theorem Has_q {m : Imm} {A : Option Addr} {c : Nat} {l : List Int} (h : Ints m A c l) (x : Int) : Quiet Tryz.prog 51 [.slice A l.length c, .int .i64 x] m (.bool (l.contains x)) := by
 have hlen := h.len
 refine quiet_of Tryz.func51 rfl Tryz.ntmps51 rfl (fun w => ?_)
 refine CW_seq ?_
 refine CW_region ?_
 refine W_q (r_assign rfl) rfl ?_
 refine W_nil ?_
 refine NX_as (L' := [(0, _), (1, _), (4, _)]) [0, 1, 4] rfl ?_
 refine CW_seq ?_
 refine CW_seq ?_
 refine CW_region ?_
 refine W_q (r_assign rfl) rfl ?_
 refine W_nil ?_
 refine NX_as (L' := [(0, _), (1, _), (4, _), (5, _)]) [0, 1, 4, 5] rfl ?_
 refine CW_block ?_
 refine C_loop (Unit) (l.length) (fun k1 x1 => ∀ j, j < k1 → l[j]? ≠ some x) (fun k1 x1 => [(5, .int .i64 (k1 : Int))]) (fun _ _ => []) [5] [0, 1] (F := [(0, _), (1, _)]) (()) (by simp) rfl rfl rfl (fun k1 x1 hk1 hJ1 => ?_)
 refine CW_as (L' := [(0, _), (1, _), (5, _)]) [0, 1, 5] rfl ?_
 refine CW_seq ?_
 refine CW_seq ?_
 refine CW_region ?_
 refine W_q (r_move rfl) rfl ?_
 refine W_q (r_move rfl) rfl ?_
 refine W_q (r_len Tryz.underlying22 rfl) rfl ?_
 refine W_q (r_bin rfl rfl (bin_lss _ _ _ _)) rfl ?_
 refine W_nil ?_
 refine NX_as (L' := [(0, _), (1, _), (5, _), (9, _)]) [0, 1, 5, 9] rfl ?_
 refine CW_condk rfl (fun h2 => ?_) (fun h2 => ?_)
 ·(try simp only [tA, tB, tC, tD, tE, tF, tG, tH, tI, tJ, tK, tL] at h2)
  refine C_skip ?_
  refine NX_as (L' := [(0, _), (1, _), (5, _)]) [0, 1, 5] rfl ?_
  refine CW_seq ?_
  refine CW_block ?_
  refine CW_seq ?_
  refine CW_region ?_
  refine W_q (r_move rfl) rfl ?_
  refine W_q (r_move rfl) rfl ?_
  obtain ⟨ad3, hA3⟩ := h.ad (j := k1) (by omega)
  obtain ⟨z3, hz3⟩ := h.getz (j := k1) (by omega)
  refine W_q (r_index hA3 Tryz.underlying22 T.sz3 rfl rfl ⟨by omega, by omega⟩) rfl ?_
  obtain ⟨l4, r4⟩ := Sl.getI h hA3 hz3
  refine W_q (r_load_imm rfl T.ag3 l4) rfl ?_
  refine W_q (r_move rfl) rfl ?_
  refine W_q (r_bin rfl rfl (bin_eql _ _ _ _)) rfl ?_
  refine W_nil ?_
  refine NX_as (L' := [(0, _), (1, _), (5, _), (17, _)]) [0, 1, 5, 17] rfl ?_
  refine CW_condk rfl (fun h5 => ?_) (fun h5 => ?_)
  ·(try simp only [tA, tB, tC, tD, tE, tF, tG, tH, tI, tJ, tK, tL] at h5)
   refine CW_seq ?_
   refine CW_region ?_
   refine W_q (r_assign rfl) rfl ?_
   refine W_nil ?_
   refine NX_as (L' := [(0, _), (1, _), (4, _), (5, _)]) [0, 1, 4, 5] rfl ?_
   refine C_ret (RX_block (RX_then (RX_then (RX_block (RX_then (RX_q1 rfl rfl ?_))))))
   have := List.mem_of_getElem? hz3; simp_all
  ·(try simp only [tA, tB, tC, tD, tE, tF, tG, tH, tI, tJ, tK, tL] at h5)
   refine C_skip ?_
   refine NX_block (NX_as (L' := [(0, _), (1, _), (5, _)]) [0, 1, 5] rfl ?_)
   refine CW_region ?_
   refine W_q (r_move rfl) rfl ?_
   refine W_q (r_add rfl rfl (by unfold I64 at *; omega)) rfl ?_
   refine W_q (r_assign rfl) rfl ?_
   refine W_nil ?_
   refine NX_rnd [5, 0, 1] (by omega) (()) ?_ rfl (List.Sublist.refl _) rfl (Imm.le_refl _)
   exact lt_succ_all hJ1 (by rw [hz3]; simpa using h5)
 ·(try simp only [tA, tB, tC, tD, tE, tF, tG, tH, tI, tJ, tK, tL] at h2)
  refine C_exit (EX_then (EX_then (EX_hit (?_))))
  refine NX_as (L' := []) [] rfl ?_
  refine CW_seq ?_
  refine CW_region ?_
  refine W_q (r_assign rfl) rfl ?_
  refine W_nil ?_
  refine NX_as (L' := [(4, _)]) [4] rfl ?_
  refine C_ret (RX_q1 rfl rfl ?_)
  have : k1 = l.length := by omega
  subst this; rw [contains_false_of hJ1]

set_option maxHeartbeats 4000000 in
/-- lockstepref02.Ints -/
theorem Ints_q {m : Imm} {A : Option Addr} {c : Nat} {l : List Int} (h : Ints m A c l) {A' : Option Addr} {c' : Nat} {l' : List Int} (h' : Ints m A' c' l') : Quiet Tryz.prog 21 [.slice A l.length c, .slice A' l'.length c'] m (.bool (l == l')) := by
 have hlen := h.len
 have hlen' := h'.len
 refine quiet_of Tryz.func21 rfl Tryz.ntmps21 rfl (fun w => ?_)
 refine CW_seq ?_
 refine CW_region ?_
 refine W_q (r_assign rfl) rfl ?_
 refine W_nil ?_
 refine NX_as (L' := [(0, _), (1, _), (4, _)]) [0, 1, 4] rfl ?_
 refine CW_seq ?_
 refine CW_seq ?_
 refine CW_region ?_
 refine W_q (r_move rfl) rfl ?_
 refine W_q (r_len Tryz.underlying22 rfl) rfl ?_
 refine W_q (r_move rfl) rfl ?_
 refine W_q (r_len Tryz.underlying22 rfl) rfl ?_
 refine W_q (r_bin rfl rfl (bin_neq _ _ _ _)) rfl ?_
 refine W_nil ?_
 refine NX_as (L' := [(0, _), (1, _), (4, _), (10, _)]) [0, 1, 4, 10] rfl ?_
 refine CW_condk rfl (fun h1 => ?_) (fun h1 => ?_)
 ·(try simp only [tA, tB, tC, tD, tE, tF, tG, tH, tI, tJ, tK, tL] at h1)
  refine CW_seq ?_
  refine CW_region ?_
  refine W_q (r_assign rfl) rfl ?_
  refine W_nil ?_
  refine NX_as (L' := [(0, _), (1, _), (4, _)]) [0, 1, 4] rfl ?_
  refine C_ret (RX_then (RX_q1 rfl rfl ?_))
  have : l ≠ l' := by rintro rfl; omega
  simp [this]
 ·(try simp only [tA, tB, tC, tD, tE, tF, tG, tH, tI, tJ, tK, tL] at h1)
  refine C_skip ?_
  refine NX_as (L' := [(0, _), (1, _), (4, _)]) [0, 1, 4] rfl ?_
  refine CW_seq ?_
  refine CW_seq ?_
  refine CW_region ?_
  refine W_q (r_assign rfl) rfl ?_
  refine W_nil ?_
  refine NX_as (L' := [(0, _), (1, _), (4, _), (5, _)]) [0, 1, 4, 5] rfl ?_
  refine CW_block ?_
  refine C_loop (Unit) (l.length) (fun k2 x2 => ∀ j, j < k2 → l[j]? = l'[j]?) (fun k2 x2 => [(5, .int .i64 (k2 : Int))]) (fun _ _ => []) [5] [0, 1] (F := [(0, _), (1, _)]) (()) (by simp) rfl rfl rfl (fun k2 x2 hk2 hJ2 => ?_)
  refine CW_as (L' := [(0, _), (1, _), (5, _)]) [0, 1, 5] rfl ?_
  refine CW_seq ?_
  refine CW_seq ?_
  refine CW_region ?_
  refine W_q (r_move rfl) rfl ?_
  refine W_q (r_move rfl) rfl ?_
  refine W_q (r_len Tryz.underlying22 rfl) rfl ?_
  refine W_q (r_bin rfl rfl (bin_lss _ _ _ _)) rfl ?_
  refine W_nil ?_
  refine NX_as (L' := [(0, _), (1, _), (5, _), (14, _)]) [0, 1, 5, 14] rfl ?_
  refine CW_condk rfl (fun h3 => ?_) (fun h3 => ?_)
  ·(try simp only [tA, tB, tC, tD, tE, tF, tG, tH, tI, tJ, tK, tL] at h3)
   refine C_skip ?_
   refine NX_as (L' := [(0, _), (1, _), (5, _)]) [0, 1, 5] rfl ?_
   refine CW_seq ?_
   refine CW_block ?_
   refine CW_seq ?_
   refine C_drawn [(0, true), (1, true), (2, true), (3, true), (4, true), (5, true), (6, true), (7, true), (8, true)] (by kernel_rfl) rfl (by kernel_rfl) (by kernel_rfl) ?_
   refine D_q rfl (r_move rfl) rfl ?_
   refine D_q rfl (r_move rfl) rfl ?_
   obtain ⟨ad4, hA4⟩ := h.ad (j := k2) (by omega)
   obtain ⟨z4, hz4⟩ := h.getz (j := k2) (by omega)
   refine D_q rfl (r_index hA4 Tryz.underlying22 T.sz3 rfl rfl ⟨by omega, by omega⟩) rfl ?_
   obtain ⟨l5, r5⟩ := Sl.getI h hA4 hz4
   refine D_q rfl (r_load_imm rfl T.ag3 l5) rfl ?_
   refine D_q rfl (r_move rfl) rfl ?_
   refine D_q rfl (r_move rfl) rfl ?_
   obtain ⟨ad6, hA6⟩ := h'.ad (j := k2) (by omega)
   obtain ⟨z6, hz6⟩ := h'.getz (j := k2) (by omega)
   refine D_q rfl (r_index hA6 Tryz.underlying22 T.sz3 rfl rfl ⟨by omega, by omega⟩) rfl ?_
   obtain ⟨l7, r7⟩ := Sl.getI h' hA6 hz6
   refine D_q rfl (r_load_imm rfl T.ag3 l7) rfl ?_
   refine D_q rfl (r_bin rfl rfl (bin_neq _ _ _ _)) rfl ?_
   refine D_end ?_
   refine NX_as (L' := [(0, _), (1, _), (5, _), (25, _)]) [0, 1, 5, 25] rfl ?_
   refine CW_condk rfl (fun h8 => ?_) (fun h8 => ?_)
   ·(try simp only [tA, tB, tC, tD, tE, tF, tG, tH, tI, tJ, tK, tL] at h8)
    refine CW_seq ?_
    refine CW_region ?_
    refine W_q (r_assign rfl) rfl ?_
    refine W_nil ?_
    refine NX_as (L' := [(0, _), (1, _), (4, _), (5, _)]) [0, 1, 4, 5] rfl ?_
    refine C_ret (RX_block (RX_then (RX_then (RX_block (RX_then (RX_q1 rfl rfl ?_))))))
    have : l ≠ l' := by rintro rfl; rw [hz4] at hz6; simp at hz6; omega
    simp [this]
   ·(try simp only [tA, tB, tC, tD, tE, tF, tG, tH, tI, tJ, tK, tL] at h8)
    refine C_skip ?_
    refine NX_block (NX_as (L' := [(0, _), (1, _), (5, _)]) [0, 1, 5] rfl ?_)
    refine CW_region ?_
    refine W_q (r_move rfl) rfl ?_
    refine W_q (r_add rfl rfl (by unfold I64 at *; omega)) rfl ?_
    refine W_q (r_assign rfl) rfl ?_
    refine W_nil ?_
    refine NX_rnd [5, 0, 1] (by omega) (()) ?_ rfl (List.Sublist.refl _) rfl (Imm.le_refl _)
    exact lt_succ_all hJ2 (by rw [hz4, hz6]; simpa using h8)
  ·(try simp only [tA, tB, tC, tD, tE, tF, tG, tH, tI, tJ, tK, tL] at h3)
   refine C_exit (EX_then (EX_then (EX_hit (?_))))
   refine NX_as (L' := []) [] rfl ?_
   refine CW_seq ?_
   refine CW_region ?_
   refine W_q (r_assign rfl) rfl ?_
   refine W_nil ?_
   refine NX_as (L' := [(4, _)]) [4] rfl ?_
   refine C_ret (RX_q1 rfl rfl ?_)
   have : k2 = l.length := by omega
   subst this
   rw [eq_of_all (by omega) hJ2]; simp

set_option maxHeartbeats 4000000 in
/-- slices.IndexFunc[[]int,int] -/
theorem IndexFuncI_q {m : Imm} {A : Option Addr} {c : Nat} {l : List (Int)} (h : Sl rI 1 m A c l) {p : Int → Bool} {K : Nat} {cap : Array Value} (hK : hasBody Tryz.prog K = true)
    (hp : ∀ {j : Nat} (z : Int), l[j]? = some z → Quiet Tryz.prog K ([.int .i64 z] ++ cap.toList) m (.bool (p z))) : Quiet Tryz.prog 126 [.slice A l.length c, .func (.func K) #[] cap] m (.int .i64 (idxF p l)) := by
 have hlen := h.len
 refine quiet_of Tryz.func126 rfl Tryz.ntmps126 rfl (fun w => ?_)
 refine CW_seq ?_
 refine CW_region ?_
 refine W_q (r_assign rfl) rfl ?_
 refine W_nil ?_
 refine NX_as (L' := [(0, _), (1, _), (4, _)]) [0, 1, 4] rfl ?_
 refine CW_seq ?_
 refine CW_seq ?_
 refine CW_region ?_
 refine W_q (r_move rfl) rfl ?_
 refine W_q (r_len Tryz.underlying22 rfl) rfl ?_
 refine W_q (r_move rfl) rfl ?_
 refine W_nil ?_
 refine NX_as (L' := [(0, _), (1, _), (4, _), (7, _), (8, _)]) [0, 1, 4, 7, 8] rfl ?_
 refine C_range (Unit) (l.length) (fun k1 x1 => ∀ j, j < k1 → ∀ y, l[j]? = some y → p y = false) (fun k1 x1 => []) (fun _ _ => []) [] [0, 1] (F := [(0, _), (1, _)]) (()) rfl rfl (by omega) (by simp) rfl rfl rfl rfl rfl rfl rfl (fun _ _ => rfl) (fun _ _ => rfl) (fun k1 x1 hk1 hJ1 => ?_) (fun x1 hJ1 => ?_)
 ·refine CW_as (L' := [(0, _), (1, _), (7, _), (8, _)]) [0, 1, 7, 8] rfl ?_
  refine CW_seq ?_
  refine CW_region ?_
  refine W_q (r_move rfl) rfl ?_
  refine W_q (r_assign rfl) rfl ?_
  refine W_nil ?_
  refine NX_as (L' := [(0, _), (1, _), (5, _), (7, _), (8, _)]) [0, 1, 5, 7, 8] rfl ?_
  refine CW_seq ?_
  refine CW_region ?_
  refine W_q (r_move rfl) rfl ?_
  refine W_q (r_move rfl) rfl ?_
  refine W_q (r_move rfl) rfl ?_
  obtain ⟨ad2, hA2⟩ := h.ad (j := k1) (by omega)
  obtain ⟨z2, hz2⟩ := h.getz (j := k1) (by omega)
  refine W_q (r_index hA2 Tryz.underlying22 T.sz3 rfl rfl ⟨by omega, by omega⟩) rfl ?_
  obtain ⟨l3, r3⟩ := Sl.getI h hA2 hz2
  refine W_q (r_load_imm rfl T.ag3 l3) rfl ?_
  refine W_callv rfl rfl (hp _ hz2) hK rfl ?_
  refine W_nil ?_
  refine NX_as (L' := [(0, _), (1, _), (5, _), (7, _), (8, _), (16, _)]) [0, 1, 5, 7, 8, 16] rfl ?_
  refine CW_condk rfl (fun h4 => ?_) (fun h4 => ?_)
  ·(try simp only [tA, tB, tC, tD, tE, tF, tG, tH, tI, tJ, tK, tL] at h4)
   refine CW_seq ?_
   refine CW_region ?_
   refine W_q (r_move rfl) rfl ?_
   refine W_q (r_assign rfl) rfl ?_
   refine W_nil ?_
   refine NX_as (L' := [(0, _), (1, _), (4, _), (7, _), (8, _)]) [0, 1, 4, 7, 8] rfl ?_
   refine C_ret (RX_block (RX_then (RX_block (RX_then (RX_q1 rfl rfl ?_)))))
   rw [idxF_at hJ1 hz2 h4]
  ·(try simp only [tA, tB, tC, tD, tE, tF, tG, tH, tI, tJ, tK, tL] at h4)
   refine C_skip ?_
   refine NX_block (?_)
   refine NX_rng [0, 1] (()) ?_ rfl (List.Sublist.refl _) rfl (Imm.le_refl _)
   exact lt_succ_all hJ1 (fun y hy => by rw [hz2] at hy; simp only [Option.some.injEq] at hy; subst hy; exact h4)
 ·refine NX_as (L' := []) [] rfl ?_
  refine CW_seq ?_
  refine CW_region ?_
  refine W_q (r_assign rfl) rfl ?_
  refine W_nil ?_
  refine NX_as (L' := [(4, _)]) [4] rfl ?_
  refine C_ret (RX_q1 rfl rfl ?_)
  rw [idxF_none hJ1]

set_option maxHeartbeats 4000000 in
/-- slices.ContainsFunc[[]int,int] -/
theorem ContainsFuncI_q {m : Imm} {A : Option Addr} {c : Nat} {l : List (Int)} (h : Sl rI 1 m A c l) {p : Int → Bool} {K : Nat} {cap : Array Value} (hK : hasBody Tryz.prog K = true)
    (hp : ∀ {j : Nat} (z : Int), l[j]? = some z → Quiet Tryz.prog K ([.int .i64 z] ++ cap.toList) m (.bool (p z))) : Quiet Tryz.prog 86 [.slice A l.length c, .func (.func K) #[] cap] m (.bool (l.any p)) := by
 refine quiet_of Tryz.func86 rfl Tryz.ntmps86 rfl (fun w => ?_)
 refine CW_seq ?_
 refine CW_region ?_
 refine W_q (r_assign rfl) rfl ?_
 refine W_nil ?_
 refine NX_as (L' := [(0, _), (1, _), (4, _)]) [0, 1, 4] rfl ?_
 refine CW_seq ?_
 refine CW_region ?_
 refine W_q (r_move rfl) rfl ?_
 refine W_q (r_move rfl) rfl ?_
 refine W_quiet (IndexFuncI_q h hK hp) T.hb126 rfl rfl ?_
 refine W_q (r_bin rfl rfl (bin_geq _ _ _ _)) rfl ?_
 refine W_q (r_assign rfl) rfl ?_
 refine W_nil ?_
 refine NX_as (L' := [(4, _)]) [4] rfl ?_
 refine C_ret (RX_q1 rfl rfl ?_)
 rw [idxF_any]

set_option maxHeartbeats 4000000 in
/-- slices.IndexFunc[[]api.Block,api.Block] -/
theorem IndexFuncB_q {m : Imm} {A : Option Addr} {c : Nat} {l : List (FBlk)} (h : Sl rBlock 5 m A c l) {p : FBlk → Bool} {K : Nat} {cap : Array Value} (hK : hasBody Tryz.prog K = true)
    (hp : ∀ {j : Nat} (z : FBlk), l[j]? = some z → ∀ es, rBlock m es z → Quiet Tryz.prog K ([.agg es.toArray] ++ cap.toList) m (.bool (p z))) : Quiet Tryz.prog 148 [.slice A l.length c, .func (.func K) #[] cap] m (.int .i64 (idxF p l)) := by
 have hlen := h.len
 refine quiet_of Tryz.func148 rfl Tryz.ntmps148 rfl (fun w => ?_)
 refine CW_seq ?_
 refine CW_region ?_
 refine W_q (r_assign rfl) rfl ?_
 refine W_nil ?_
 refine NX_as (L' := [(0, _), (1, _), (4, _)]) [0, 1, 4] rfl ?_
 refine CW_seq ?_
 refine CW_seq ?_
 refine CW_region ?_
 refine W_q (r_move rfl) rfl ?_
 refine W_q (r_len Tryz.underlying23 rfl) rfl ?_
 refine W_q (r_move rfl) rfl ?_
 refine W_nil ?_
 refine NX_as (L' := [(0, _), (1, _), (4, _), (7, _), (8, _)]) [0, 1, 4, 7, 8] rfl ?_
 refine C_range (Unit) (l.length) (fun k1 x1 => ∀ j, j < k1 → ∀ y, l[j]? = some y → p y = false) (fun k1 x1 => []) (fun _ _ => []) [] [0, 1] (F := [(0, _), (1, _)]) (()) rfl rfl (by omega) (by simp) rfl rfl rfl rfl rfl rfl rfl (fun _ _ => rfl) (fun _ _ => rfl) (fun k1 x1 hk1 hJ1 => ?_) (fun x1 hJ1 => ?_)
 ·refine CW_as (L' := [(0, _), (1, _), (7, _), (8, _)]) [0, 1, 7, 8] rfl ?_
  refine CW_seq ?_
  refine CW_region ?_
  refine W_q (r_move rfl) rfl ?_
  refine W_q (r_assign rfl) rfl ?_
  refine W_nil ?_
  refine NX_as (L' := [(0, _), (1, _), (5, _), (7, _), (8, _)]) [0, 1, 5, 7, 8] rfl ?_
  refine CW_seq ?_
  refine CW_region ?_
  refine W_q (r_move rfl) rfl ?_
  refine W_q (r_move rfl) rfl ?_
  refine W_q (r_move rfl) rfl ?_
  obtain ⟨ad2, hA2⟩ := h.ad (j := k1) (by omega)
  obtain ⟨z2, hz2⟩ := h.getz (j := k1) (by omega)
  refine W_q (r_index hA2 Tryz.underlying23 T.sz44 rfl rfl ⟨by omega, by omega⟩) rfl ?_
  obtain ⟨es3, f3, _, l3⟩ := Sl.get h hA2 hz2
  have F3 := f3
  obtain ⟨A3, c3, B3, d3, C3, e3, rfl, hp3, ho3, ht3, i3a, i3b⟩ := f3
  refine W_q (r_load_immk (vs := [_, _, _, _, _]) rfl T.ag44 T.sz44 l3) rfl ?_
  refine W_callv rfl rfl (hp _ hz2 _ F3) hK rfl ?_
  refine W_nil ?_
  refine NX_as (L' := [(0, _), (1, _), (5, _), (7, _), (8, _), (16, _)]) [0, 1, 5, 7, 8, 16] rfl ?_
  refine CW_condk rfl (fun h4 => ?_) (fun h4 => ?_)
  ·(try simp only [tA, tB, tC, tD, tE, tF, tG, tH, tI, tJ, tK, tL] at h4)
   refine CW_seq ?_
   refine CW_region ?_
   refine W_q (r_move rfl) rfl ?_
   refine W_q (r_assign rfl) rfl ?_
   refine W_nil ?_
   refine NX_as (L' := [(0, _), (1, _), (4, _), (7, _), (8, _)]) [0, 1, 4, 7, 8] rfl ?_
   refine C_ret (RX_block (RX_then (RX_block (RX_then (RX_q1 rfl rfl ?_)))))
   rw [idxF_at hJ1 hz2 h4]
  ·(try simp only [tA, tB, tC, tD, tE, tF, tG, tH, tI, tJ, tK, tL] at h4)
   refine C_skip ?_
   refine NX_block (?_)
   refine NX_rng [0, 1] (()) ?_ rfl (List.Sublist.refl _) rfl (Imm.le_refl _)
   exact lt_succ_all hJ1 (fun y hy => by rw [hz2] at hy; simp only [Option.some.injEq] at hy; subst hy; exact h4)
 ·refine NX_as (L' := []) [] rfl ?_
  refine CW_seq ?_
  refine CW_region ?_
  refine W_q (r_assign rfl) rfl ?_
  refine W_nil ?_
  refine NX_as (L' := [(4, _)]) [4] rfl ?_
  refine C_ret (RX_q1 rfl rfl ?_)
  rw [idxF_none hJ1]

set_option maxHeartbeats 4000000 in
/-- slices.ContainsFunc[[]api.Block,api.Block] -/
theorem ContainsFuncB_q {m : Imm} {A : Option Addr} {c : Nat} {l : List (FBlk)} (h : Sl rBlock 5 m A c l) {p : FBlk → Bool} {K : Nat} {cap : Array Value} (hK : hasBody Tryz.prog K = true)
    (hp : ∀ {j : Nat} (z : FBlk), l[j]? = some z → ∀ es, rBlock m es z → Quiet Tryz.prog K ([.agg es.toArray] ++ cap.toList) m (.bool (p z))) : Quiet Tryz.prog 110 [.slice A l.length c, .func (.func K) #[] cap] m (.bool (l.any p)) := by
 refine quiet_of Tryz.func110 rfl Tryz.ntmps110 rfl (fun w => ?_)
 refine CW_seq ?_
 refine CW_region ?_
 refine W_q (r_assign rfl) rfl ?_
 refine W_nil ?_
 refine NX_as (L' := [(0, _), (1, _), (4, _)]) [0, 1, 4] rfl ?_
 refine CW_seq ?_
 refine CW_region ?_
 refine W_q (r_move rfl) rfl ?_
 refine W_q (r_move rfl) rfl ?_
 refine W_quiet (IndexFuncB_q h hK hp) T.hb148 rfl rfl ?_
 refine W_q (r_bin rfl rfl (bin_geq _ _ _ _)) rfl ?_
 refine W_q (r_assign rfl) rfl ?_
 refine W_nil ?_
 refine NX_as (L' := [(4, _)]) [4] rfl ?_
 refine C_ret (RX_q1 rfl rfl ?_)
 rw [idxF_any]

set_option maxHeartbeats 4000000 in
/-- slices.IndexFunc[[]api.Phi,api.Phi] -/
theorem IndexFuncP_q {m : Imm} {A : Option Addr} {c : Nat} {l : List (FPhi)} (h : Sl rPhi 4 m A c l) {p : FPhi → Bool} {K : Nat} {cap : Array Value} (hK : hasBody Tryz.prog K = true)
    (hp : ∀ {j : Nat} (z : FPhi), l[j]? = some z → ∀ es, rPhi m es z → Quiet Tryz.prog K ([.agg es.toArray] ++ cap.toList) m (.bool (p z))) : Quiet Tryz.prog 188 [.slice A l.length c, .func (.func K) #[] cap] m (.int .i64 (idxF p l)) := by
 have hlen := h.len
 refine quiet_of Tryz.func188 rfl Tryz.ntmps188 rfl (fun w => ?_)
 refine CW_seq ?_
 refine CW_region ?_
 refine W_q (r_assign rfl) rfl ?_
 refine W_nil ?_
 refine NX_as (L' := [(0, _), (1, _), (4, _)]) [0, 1, 4] rfl ?_
 refine CW_seq ?_
 refine CW_seq ?_
 refine CW_region ?_
 refine W_q (r_move rfl) rfl ?_
 refine W_q (r_len Tryz.underlying39 rfl) rfl ?_
 refine W_q (r_move rfl) rfl ?_
 refine W_nil ?_
 refine NX_as (L' := [(0, _), (1, _), (4, _), (7, _), (8, _)]) [0, 1, 4, 7, 8] rfl ?_
 refine C_range (Unit) (l.length) (fun k1 x1 => ∀ j, j < k1 → ∀ y, l[j]? = some y → p y = false) (fun k1 x1 => []) (fun _ _ => []) [] [0, 1] (F := [(0, _), (1, _)]) (()) rfl rfl (by omega) (by simp) rfl rfl rfl rfl rfl rfl rfl (fun _ _ => rfl) (fun _ _ => rfl) (fun k1 x1 hk1 hJ1 => ?_) (fun x1 hJ1 => ?_)
 ·refine CW_as (L' := [(0, _), (1, _), (7, _), (8, _)]) [0, 1, 7, 8] rfl ?_
  refine CW_seq ?_
  refine CW_region ?_
  refine W_q (r_move rfl) rfl ?_
  refine W_q (r_assign rfl) rfl ?_
  refine W_nil ?_
  refine NX_as (L' := [(0, _), (1, _), (5, _), (7, _), (8, _)]) [0, 1, 5, 7, 8] rfl ?_
  refine CW_seq ?_
  refine CW_region ?_
  refine W_q (r_move rfl) rfl ?_
  refine W_q (r_move rfl) rfl ?_
  refine W_q (r_move rfl) rfl ?_
  obtain ⟨ad2, hA2⟩ := h.ad (j := k1) (by omega)
  obtain ⟨z2, hz2⟩ := h.getz (j := k1) (by omega)
  refine W_q (r_index hA2 Tryz.underlying39 T.sz61 rfl rfl ⟨by omega, by omega⟩) rfl ?_
  obtain ⟨es3, f3, _, l3⟩ := Sl.get h hA2 hz2
  have F3 := f3
  obtain ⟨A3, c3, B3, d3, rfl, h3, g3, i3a, i3b⟩ := f3
  refine W_q (r_load_immk (vs := [_, _, _, _]) rfl T.ag61 T.sz61 l3) rfl ?_
  refine W_callv rfl rfl (hp _ hz2 _ F3) hK rfl ?_
  refine W_nil ?_
  refine NX_as (L' := [(0, _), (1, _), (5, _), (7, _), (8, _), (16, _)]) [0, 1, 5, 7, 8, 16] rfl ?_
  refine CW_condk rfl (fun h4 => ?_) (fun h4 => ?_)
  ·(try simp only [tA, tB, tC, tD, tE, tF, tG, tH, tI, tJ, tK, tL] at h4)
   refine CW_seq ?_
   refine CW_region ?_
   refine W_q (r_move rfl) rfl ?_
   refine W_q (r_assign rfl) rfl ?_
   refine W_nil ?_
   refine NX_as (L' := [(0, _), (1, _), (4, _), (7, _), (8, _)]) [0, 1, 4, 7, 8] rfl ?_
   refine C_ret (RX_block (RX_then (RX_block (RX_then (RX_q1 rfl rfl ?_)))))
   rw [idxF_at hJ1 hz2 h4]
  ·(try simp only [tA, tB, tC, tD, tE, tF, tG, tH, tI, tJ, tK, tL] at h4)
   refine C_skip ?_
   refine NX_block (?_)
   refine NX_rng [0, 1] (()) ?_ rfl (List.Sublist.refl _) rfl (Imm.le_refl _)
   exact lt_succ_all hJ1 (fun y hy => by rw [hz2] at hy; simp only [Option.some.injEq] at hy; subst hy; exact h4)
 ·refine NX_as (L' := []) [] rfl ?_
  refine CW_seq ?_
  refine CW_region ?_
  refine W_q (r_assign rfl) rfl ?_
  refine W_nil ?_
  refine NX_as (L' := [(4, _)]) [4] rfl ?_
  refine C_ret (RX_q1 rfl rfl ?_)
  rw [idxF_none hJ1]

set_option maxHeartbeats 4000000 in
/-- slices.ContainsFunc[[]api.Phi,api.Phi] -/
theorem ContainsFuncP_q {m : Imm} {A : Option Addr} {c : Nat} {l : List (FPhi)} (h : Sl rPhi 4 m A c l) {p : FPhi → Bool} {K : Nat} {cap : Array Value} (hK : hasBody Tryz.prog K = true)
    (hp : ∀ {j : Nat} (z : FPhi), l[j]? = some z → ∀ es, rPhi m es z → Quiet Tryz.prog K ([.agg es.toArray] ++ cap.toList) m (.bool (p z))) : Quiet Tryz.prog 154 [.slice A l.length c, .func (.func K) #[] cap] m (.bool (l.any p)) := by
 refine quiet_of Tryz.func154 rfl Tryz.ntmps154 rfl (fun w => ?_)
 refine CW_seq ?_
 refine CW_region ?_
 refine W_q (r_assign rfl) rfl ?_
 refine W_nil ?_
 refine NX_as (L' := [(0, _), (1, _), (4, _)]) [0, 1, 4] rfl ?_
 refine CW_seq ?_
 refine CW_region ?_
 refine W_q (r_move rfl) rfl ?_
 refine W_q (r_move rfl) rfl ?_
 refine W_quiet (IndexFuncP_q h hK hp) T.hb188 rfl rfl ?_
 refine W_q (r_bin rfl rfl (bin_geq _ _ _ _)) rfl ?_
 refine W_q (r_assign rfl) rfl ?_
 refine W_nil ?_
 refine NX_as (L' := [(4, _)]) [4] rfl ?_
 refine C_ret (RX_q1 rfl rfl ?_)
 rw [idxF_any]

set_option maxHeartbeats 4000000 in
/-- slices.IndexFunc[[]api.Op,api.Op] -/
theorem IndexFuncO_q {m : Imm} {A : Option Addr} {c : Nat} {l : List (FOp)} (h : Sl rOp 6 m A c l) {p : FOp → Bool} {K : Nat} {cap : Array Value} (hK : hasBody Tryz.prog K = true)
    (hp : ∀ {j : Nat} (z : FOp), l[j]? = some z → ∀ es, rOp m es z → Quiet Tryz.prog K ([.agg es.toArray] ++ cap.toList) m (.bool (p z))) : Quiet Tryz.prog 189 [.slice A l.length c, .func (.func K) #[] cap] m (.int .i64 (idxF p l)) := by
 have hlen := h.len
 refine quiet_of Tryz.func189 rfl Tryz.ntmps189 rfl (fun w => ?_)
 refine CW_seq ?_
 refine CW_region ?_
 refine W_q (r_assign rfl) rfl ?_
 refine W_nil ?_
 refine NX_as (L' := [(0, _), (1, _), (4, _)]) [0, 1, 4] rfl ?_
 refine CW_seq ?_
 refine CW_seq ?_
 refine CW_region ?_
 refine W_q (r_move rfl) rfl ?_
 refine W_q (r_len Tryz.underlying40 rfl) rfl ?_
 refine W_q (r_move rfl) rfl ?_
 refine W_nil ?_
 refine NX_as (L' := [(0, _), (1, _), (4, _), (7, _), (8, _)]) [0, 1, 4, 7, 8] rfl ?_
 refine C_range (Unit) (l.length) (fun k1 x1 => ∀ j, j < k1 → ∀ y, l[j]? = some y → p y = false) (fun k1 x1 => []) (fun _ _ => []) [] [0, 1] (F := [(0, _), (1, _)]) (()) rfl rfl (by omega) (by simp) rfl rfl rfl rfl rfl rfl rfl (fun _ _ => rfl) (fun _ _ => rfl) (fun k1 x1 hk1 hJ1 => ?_) (fun x1 hJ1 => ?_)
 ·refine CW_as (L' := [(0, _), (1, _), (7, _), (8, _)]) [0, 1, 7, 8] rfl ?_
  refine CW_seq ?_
  refine CW_region ?_
  refine W_q (r_move rfl) rfl ?_
  refine W_q (r_assign rfl) rfl ?_
  refine W_nil ?_
  refine NX_as (L' := [(0, _), (1, _), (5, _), (7, _), (8, _)]) [0, 1, 5, 7, 8] rfl ?_
  refine CW_seq ?_
  refine CW_region ?_
  refine W_q (r_move rfl) rfl ?_
  refine W_q (r_move rfl) rfl ?_
  refine W_q (r_move rfl) rfl ?_
  obtain ⟨ad2, hA2⟩ := h.ad (j := k1) (by omega)
  obtain ⟨z2, hz2⟩ := h.getz (j := k1) (by omega)
  refine W_q (r_index hA2 Tryz.underlying40 T.sz51 rfl rfl ⟨by omega, by omega⟩) rfl ?_
  obtain ⟨es3, f3, _, l3⟩ := Sl.get h hA2 hz2
  have F3 := f3
  obtain ⟨A3, c3, rfl, h3, i3a, i3b, i3c, i3d, i3e⟩ := f3
  refine W_q (r_load_immk (vs := [_, _, _, _, _, _]) rfl T.ag51 T.sz51 l3) rfl ?_
  refine W_callv rfl rfl (hp _ hz2 _ F3) hK rfl ?_
  refine W_nil ?_
  refine NX_as (L' := [(0, _), (1, _), (5, _), (7, _), (8, _), (16, _)]) [0, 1, 5, 7, 8, 16] rfl ?_
  refine CW_condk rfl (fun h4 => ?_) (fun h4 => ?_)
  ·(try simp only [tA, tB, tC, tD, tE, tF, tG, tH, tI, tJ, tK, tL] at h4)
   refine CW_seq ?_
   refine CW_region ?_
   refine W_q (r_move rfl) rfl ?_
   refine W_q (r_assign rfl) rfl ?_
   refine W_nil ?_
   refine NX_as (L' := [(0, _), (1, _), (4, _), (7, _), (8, _)]) [0, 1, 4, 7, 8] rfl ?_
   refine C_ret (RX_block (RX_then (RX_block (RX_then (RX_q1 rfl rfl ?_)))))
   rw [idxF_at hJ1 hz2 h4]
  ·(try simp only [tA, tB, tC, tD, tE, tF, tG, tH, tI, tJ, tK, tL] at h4)
   refine C_skip ?_
   refine NX_block (?_)
   refine NX_rng [0, 1] (()) ?_ rfl (List.Sublist.refl _) rfl (Imm.le_refl _)
   exact lt_succ_all hJ1 (fun y hy => by rw [hz2] at hy; simp only [Option.some.injEq] at hy; subst hy; exact h4)
 ·refine NX_as (L' := []) [] rfl ?_
  refine CW_seq ?_
  refine CW_region ?_
  refine W_q (r_assign rfl) rfl ?_
  refine W_nil ?_
  refine NX_as (L' := [(4, _)]) [4] rfl ?_
  refine C_ret (RX_q1 rfl rfl ?_)
  rw [idxF_none hJ1]

set_option maxHeartbeats 4000000 in
/-- slices.ContainsFunc[[]api.Op,api.Op] -/
theorem ContainsFuncO_q {m : Imm} {A : Option Addr} {c : Nat} {l : List (FOp)} (h : Sl rOp 6 m A c l) {p : FOp → Bool} {K : Nat} {cap : Array Value} (hK : hasBody Tryz.prog K = true)
    (hp : ∀ {j : Nat} (z : FOp), l[j]? = some z → ∀ es, rOp m es z → Quiet Tryz.prog K ([.agg es.toArray] ++ cap.toList) m (.bool (p z))) : Quiet Tryz.prog 156 [.slice A l.length c, .func (.func K) #[] cap] m (.bool (l.any p)) := by
 refine quiet_of Tryz.func156 rfl Tryz.ntmps156 rfl (fun w => ?_)
 refine CW_seq ?_
 refine CW_region ?_
 refine W_q (r_assign rfl) rfl ?_
 refine W_nil ?_
 refine NX_as (L' := [(0, _), (1, _), (4, _)]) [0, 1, 4] rfl ?_
 refine CW_seq ?_
 refine CW_region ?_
 refine W_q (r_move rfl) rfl ?_
 refine W_q (r_move rfl) rfl ?_
 refine W_quiet (IndexFuncO_q h hK hp) T.hb189 rfl rfl ?_
 refine W_q (r_bin rfl rfl (bin_geq _ _ _ _)) rfl ?_
 refine W_q (r_assign rfl) rfl ?_
 refine W_nil ?_
 refine NX_as (L' := [(4, _)]) [4] rfl ?_
 refine C_ret (RX_q1 rfl rfl ?_)
 rw [idxF_any]

set_option maxHeartbeats 4000000 in
/-- slices.IndexFunc[[][]int,[]int] -/
theorem IndexFuncS_q {m : Imm} {A : Option Addr} {c : Nat} {l : List (List Int)} (h : Sl (rS rI 1) 1 m A c l) {p : List Int → Bool} {K : Nat} {cap : Array Value} (hK : hasBody Tryz.prog K = true)
    (hp : ∀ {j : Nat} (z : List Int), l[j]? = some z → ∀ A' c', Ints m A' c' z → Quiet Tryz.prog K ([.slice A' z.length c'] ++ cap.toList) m (.bool (p z))) : Quiet Tryz.prog 181 [.slice A l.length c, .func (.func K) #[] cap] m (.int .i64 (idxF p l)) := by
 have hlen := h.len
 refine quiet_of Tryz.func181 rfl Tryz.ntmps181 rfl (fun w => ?_)
 refine CW_seq ?_
 refine CW_region ?_
 refine W_q (r_assign rfl) rfl ?_
 refine W_nil ?_
 refine NX_as (L' := [(0, _), (1, _), (4, _)]) [0, 1, 4] rfl ?_
 refine CW_seq ?_
 refine CW_seq ?_
 refine CW_region ?_
 refine W_q (r_move rfl) rfl ?_
 refine W_q (r_len Tryz.underlying65 rfl) rfl ?_
 refine W_q (r_move rfl) rfl ?_
 refine W_nil ?_
 refine NX_as (L' := [(0, _), (1, _), (4, _), (7, _), (8, _)]) [0, 1, 4, 7, 8] rfl ?_
 refine C_range (Unit) (l.length) (fun k1 x1 => ∀ j, j < k1 → ∀ y, l[j]? = some y → p y = false) (fun k1 x1 => []) (fun _ _ => []) [] [0, 1] (F := [(0, _), (1, _)]) (()) rfl rfl (by omega) (by simp) rfl rfl rfl rfl rfl rfl rfl (fun _ _ => rfl) (fun _ _ => rfl) (fun k1 x1 hk1 hJ1 => ?_) (fun x1 hJ1 => ?_)
 ·refine CW_as (L' := [(0, _), (1, _), (7, _), (8, _)]) [0, 1, 7, 8] rfl ?_
  refine CW_seq ?_
  refine CW_region ?_
  refine W_q (r_move rfl) rfl ?_
  refine W_q (r_assign rfl) rfl ?_
  refine W_nil ?_
  refine NX_as (L' := [(0, _), (1, _), (5, _), (7, _), (8, _)]) [0, 1, 5, 7, 8] rfl ?_
  refine CW_seq ?_
  refine CW_region ?_
  refine W_q (r_move rfl) rfl ?_
  refine W_q (r_move rfl) rfl ?_
  refine W_q (r_move rfl) rfl ?_
  obtain ⟨ad2, hA2⟩ := h.ad (j := k1) (by omega)
  obtain ⟨z2, hz2⟩ := h.getz (j := k1) (by omega)
  refine W_q (r_index hA2 Tryz.underlying65 T.sz22 rfl rfl ⟨by omega, by omega⟩) rfl ?_
  obtain ⟨A3, c3, l3, h3⟩ := Sl.getS h hA2 hz2
  refine W_q (r_load_imm rfl T.ag22 l3) rfl ?_
  refine W_callv rfl rfl (hp _ hz2 _ _ h3) hK rfl ?_
  refine W_nil ?_
  refine NX_as (L' := [(0, _), (1, _), (5, _), (7, _), (8, _), (16, _)]) [0, 1, 5, 7, 8, 16] rfl ?_
  refine CW_condk rfl (fun h4 => ?_) (fun h4 => ?_)
  ·(try simp only [tA, tB, tC, tD, tE, tF, tG, tH, tI, tJ, tK, tL] at h4)
   refine CW_seq ?_
   refine CW_region ?_
   refine W_q (r_move rfl) rfl ?_
   refine W_q (r_assign rfl) rfl ?_
   refine W_nil ?_
   refine NX_as (L' := [(0, _), (1, _), (4, _), (7, _), (8, _)]) [0, 1, 4, 7, 8] rfl ?_
   refine C_ret (RX_block (RX_then (RX_block (RX_then (RX_q1 rfl rfl ?_)))))
   rw [idxF_at hJ1 hz2 h4]
  ·(try simp only [tA, tB, tC, tD, tE, tF, tG, tH, tI, tJ, tK, tL] at h4)
   refine C_skip ?_
   refine NX_block (?_)
   refine NX_rng [0, 1] (()) ?_ rfl (List.Sublist.refl _) rfl (Imm.le_refl _)
   exact lt_succ_all hJ1 (fun y hy => by rw [hz2] at hy; simp only [Option.some.injEq] at hy; subst hy; exact h4)
 ·refine NX_as (L' := []) [] rfl ?_
  refine CW_seq ?_
  refine CW_region ?_
  refine W_q (r_assign rfl) rfl ?_
  refine W_nil ?_
  refine NX_as (L' := [(4, _)]) [4] rfl ?_
  refine C_ret (RX_q1 rfl rfl ?_)
  rw [idxF_none hJ1]

set_option maxHeartbeats 4000000 in
/-- slices.ContainsFunc[[][]int,[]int] -/
theorem ContainsFuncS_q {m : Imm} {A : Option Addr} {c : Nat} {l : List (List Int)} (h : Sl (rS rI 1) 1 m A c l) {p : List Int → Bool} {K : Nat} {cap : Array Value} (hK : hasBody Tryz.prog K = true)
    (hp : ∀ {j : Nat} (z : List Int), l[j]? = some z → ∀ A' c', Ints m A' c' z → Quiet Tryz.prog K ([.slice A' z.length c'] ++ cap.toList) m (.bool (p z))) : Quiet Tryz.prog 133 [.slice A l.length c, .func (.func K) #[] cap] m (.bool (l.any p)) := by
 refine quiet_of Tryz.func133 rfl Tryz.ntmps133 rfl (fun w => ?_)
 refine CW_seq ?_
 refine CW_region ?_
 refine W_q (r_assign rfl) rfl ?_
 refine W_nil ?_
 refine NX_as (L' := [(0, _), (1, _), (4, _)]) [0, 1, 4] rfl ?_
 refine CW_seq ?_
 refine CW_region ?_
 refine W_q (r_move rfl) rfl ?_
 refine W_q (r_move rfl) rfl ?_
 refine W_quiet (IndexFuncS_q h hK hp) T.hb181 rfl rfl ?_
 refine W_q (r_bin rfl rfl (bin_geq _ _ _ _)) rfl ?_
 refine W_q (r_assign rfl) rfl ?_
 refine W_nil ?_
 refine NX_as (L' := [(4, _)]) [4] rfl ?_
 refine C_ret (RX_q1 rfl rfl ?_)
 rw [idxF_any]

end Go.Proofs.YtipmgkhjoekaaaaGreat

set_option linter.unusedVariables false
set_option linter.unusedSimpArgs false
namespace Go.Proofs.YtipmgkhjoekaaaaGreat
open Go Go.RowKit Go.Proofs Go.Proofs.YtipmgkhjoekaaaaGreat.Fw
attribute [local irreducible] Qt WL CW NX RX EX GX DL
namespace T
theorem ag23 : agg? Tryz.prog 23 = some false := by kernel_rfl
theorem ag25 : agg? Tryz.prog 25 = some true := by kernel_rfl
theorem ag39 : agg? Tryz.prog 39 = some false := by kernel_rfl
theorem ag40 : agg? Tryz.prog 40 = some false := by kernel_rfl
theorem fo25_0 : fld? Tryz.prog 25 0 = some (0, 1) := by kernel_rfl
theorem fo25_1 : fld? Tryz.prog 25 1 = some (1, 1) := by kernel_rfl
theorem fo25_2 : fld? Tryz.prog 25 2 = some (2, 1) := by kernel_rfl
theorem fo42_0 : fld? Tryz.prog 42 0 = some (0, 1) := by kernel_rfl
theorem fo42_1 : fld? Tryz.prog 42 1 = some (1, 1) := by kernel_rfl
theorem fo42_2 : fld? Tryz.prog 42 2 = some (2, 1) := by kernel_rfl
theorem fo44_0 : fld? Tryz.prog 44 0 = some (0, 1) := by kernel_rfl
theorem fo44_1 : fld? Tryz.prog 44 1 = some (1, 1) := by kernel_rfl
theorem fo44_2 : fld? Tryz.prog 44 2 = some (2, 3) := by kernel_rfl
theorem fo51_0 : fld? Tryz.prog 51 0 = some (0, 1) := by kernel_rfl
theorem fo51_1 : fld? Tryz.prog 51 1 = some (1, 1) := by kernel_rfl
theorem fo51_2 : fld? Tryz.prog 51 2 = some (2, 1) := by kernel_rfl
theorem fo51_3 : fld? Tryz.prog 51 3 = some (3, 1) := by kernel_rfl
theorem fo51_4 : fld? Tryz.prog 51 4 = some (4, 1) := by kernel_rfl
theorem fo61_0 : fld? Tryz.prog 61 0 = some (0, 1) := by kernel_rfl
theorem fo61_1 : fld? Tryz.prog 61 1 = some (1, 1) := by kernel_rfl
theorem fo61_2 : fld? Tryz.prog 61 2 = some (2, 1) := by kernel_rfl
theorem fo61_3 : fld? Tryz.prog 61 3 = some (3, 1) := by kernel_rfl
theorem hb108 : hasBody Tryz.prog 108 = true := by kernel_rfl
theorem hb109 : hasBody Tryz.prog 109 = true := by kernel_rfl
theorem hb110 : hasBody Tryz.prog 110 = true := by kernel_rfl
theorem hb111 : hasBody Tryz.prog 111 = true := by kernel_rfl
theorem hb112 : hasBody Tryz.prog 112 = true := by kernel_rfl
theorem hb147 : hasBody Tryz.prog 147 = true := by kernel_rfl
theorem hb149 : hasBody Tryz.prog 149 = true := by kernel_rfl
theorem hb86 : hasBody Tryz.prog 86 = true := by kernel_rfl
theorem sz25 : sz? Tryz.prog 25 = some 3 := by kernel_rfl
theorem ze22 : zero? Tryz.prog 22 = some (.slice none 0 0) := by kernel_rfl
theorem ze3 : zero? Tryz.prog 3 = some (.int .i64 0) := by kernel_rfl
theorem ze44 : zero? Tryz.prog 44 = some (.agg #[(.slice none 0 0), (.slice none 0 0), (.int .i64 0), (.int .i64 0), (.slice none 0 0)]) := by kernel_rfl
theorem ze51 : zero? Tryz.prog 51 = some (.agg #[(.int .i64 0), (.int .i64 0), (.int .i64 0), (.int .i64 0), (.slice none 0 0), (.int .u64 0)]) := by kernel_rfl
theorem ze61 : zero? Tryz.prog 61 = some (.agg #[(.int .i64 0), (.int .i64 0), (.slice none 0 0), (.slice none 0 0)]) := by kernel_rfl
end T
set_option maxHeartbeats 4000000 in
/-- code.in -/
theorem in_q {m : Imm} {A : Option Addr} {c : Nat} {l : List Int} (h : Ints m A c l) : Quiet Tryz.prog 109 [.slice A l.length c] m (.bool (inB l)) := by
 refine quiet_of Tryz.func109 rfl Tryz.ntmps109 rfl (fun w => ?_)
 refine CW_seq ?_
 refine CW_region ?_
 refine W_q (r_assign rfl) rfl ?_
 refine W_nil ?_
 refine NX_as (L' := [(0, _), (2, _)]) [0, 2] rfl ?_
 refine CW_seq ?_
 refine CW_region ?_
 refine W_q (r_move rfl) rfl ?_
 refine W_quiet (ContainsFuncI_q h (p := outN) (K := 147) T.hb147 (fun z _ => in1_q z)) T.hb86 rfl rfl ?_
 refine W_q (r_not rfl) rfl ?_
 refine W_q (r_assign rfl) rfl ?_
 refine W_nil ?_
 refine NX_as (L' := [(2, _)]) [2] rfl ?_
 refine C_ret (RX_q1 rfl rfl ?_)
 rw [inB]

set_option maxHeartbeats 4000000 in
/-- code.lists -/
theorem lists_q {m : Imm} {A : Option Addr} {c : Nat} {ll : List (List Int)} (h : Sl (rS rI 1) 1 m A c ll) : Quiet Tryz.prog 149 [.slice A ll.length c] m (.bool (listsB ll)) := by
 have hlen := h.len
 refine quiet_of Tryz.func149 rfl Tryz.ntmps149 rfl (fun w => ?_)
 refine CW_seq ?_
 refine CW_region ?_
 refine W_q (r_assign rfl) rfl ?_
 refine W_nil ?_
 refine NX_as (L' := [(0, _), (2, _)]) [0, 2] rfl ?_
 refine CW_seq ?_
 refine CW_seq ?_
 refine CW_region ?_
 refine W_q (r_move rfl) rfl ?_
 refine W_q (r_len Tryz.underlying65 rfl) rfl ?_
 refine W_q (r_move rfl) rfl ?_
 refine W_nil ?_
 refine NX_as (L' := [(2, _), (5, _), (6, _), (7, _)]) [2, 5, 6, 7] rfl ?_
 refine C_range (Unit) (ll.length) (fun k1 x1 => ∀ j, j < k1 → ∀ y, ll[j]? = some y → (!(decide (64 < (y.length : Int)) || !(inB y))) = true) (fun k1 x1 => []) (fun _ _ => []) [] [5] (F := [(5, _)]) (()) rfl rfl (by omega) (by simp) rfl rfl rfl rfl rfl rfl rfl (fun _ _ => rfl) (fun _ _ => rfl) (fun k1 x1 hk1 hJ1 => ?_) (fun x1 hJ1 => ?_)
 ·refine CW_as (L' := [(5, _), (6, _), (7, _)]) [5, 6, 7] rfl ?_
  refine CW_seq ?_
  refine CW_region ?_
  obtain ⟨ad2, hA2⟩ := h.ad (j := k1) (by omega)
  obtain ⟨z2, hz2⟩ := h.getz (j := k1) (by omega)
  refine W_q (r_index hA2 Tryz.underlying65 T.sz22 rfl rfl ⟨by omega, by omega⟩) rfl ?_
  obtain ⟨A3, c3, l3, h3⟩ := Sl.getS h hA2 hz2
  refine W_q (r_load_imm rfl T.ag22 l3) rfl ?_
  refine W_q (r_assign rfl) rfl ?_
  refine W_nil ?_
  refine NX_as (L' := [(4, _), (5, _), (6, _), (7, _)]) [4, 5, 6, 7] rfl ?_
  refine CW_seq ?_
  refine CW_region ?_
  refine W_q (r_move rfl) rfl ?_
  refine W_q (r_len Tryz.underlying22 rfl) rfl ?_
  refine W_q (r_bin rfl rfl (bin_gtr _ _ _ _)) rfl ?_
  refine W_q (r_move rfl) rfl ?_
  refine WL_split (t := 14) rfl (fun h4 => ?_) (fun h4 => ?_)
  ·(try simp only [tA, tB, tC, tD, tE, tF, tG, tH, tI, tJ, tK, tL] at h4)
   refine WL_pass rfl rfl rfl rfl ?_
   refine WL_pass rfl rfl rfl rfl ?_
   refine WL_pass rfl rfl rfl rfl ?_
   refine W_q (r_pick_t rfl rfl) rfl ?_
   refine W_nil ?_
   refine NX_as (L' := [(5, _), (6, _), (7, _), (18, _)]) [5, 6, 7, 18] rfl ?_
   refine CW_cond_t rfl ?_
   refine CW_seq ?_
   refine CW_region ?_
   refine W_q (r_assign rfl) rfl ?_
   refine W_nil ?_
   refine NX_as (L' := [(2, _), (5, _), (6, _), (7, _)]) [2, 5, 6, 7] rfl ?_
   refine C_ret (RX_block (RX_then (RX_block (RX_then (RX_q1 rfl rfl ?_)))))
   first
     | (rw [listsB, all_false_of hz2 (by simp_all)]; done)
     | (rw [listsB, all_true_of hJ1])
  ·(try simp only [tA, tB, tC, tD, tE, tF, tG, tH, tI, tJ, tK, tL] at h4)
   refine WL_take rfl rfl ?_
   refine W_q (r_move rfl) rfl ?_
   refine WL_take rfl rfl ?_
   refine W_quiet (in_q h3) T.hb109 rfl rfl ?_
   refine WL_take rfl rfl ?_
   refine W_q (r_not rfl) rfl ?_
   refine W_q (r_pick_f rfl rfl) rfl ?_
   refine W_nil ?_
   refine NX_as (L' := [(5, _), (6, _), (7, _), (18, _)]) [5, 6, 7, 18] rfl ?_
   refine CW_condk rfl (fun h5 => ?_) (fun h5 => ?_)
   ·(try simp only [tA, tB, tC, tD, tE, tF, tG, tH, tI, tJ, tK, tL] at h5)
    refine CW_seq ?_
    refine CW_region ?_
    refine W_q (r_assign rfl) rfl ?_
    refine W_nil ?_
    refine NX_as (L' := [(2, _), (5, _), (6, _), (7, _)]) [2, 5, 6, 7] rfl ?_
    refine C_ret (RX_block (RX_then (RX_block (RX_then (RX_q1 rfl rfl ?_)))))
    first
      | (rw [listsB, all_false_of hz2 (by simp_all)]; done)
      | (rw [listsB, all_true_of hJ1])
   ·(try simp only [tA, tB, tC, tD, tE, tF, tG, tH, tI, tJ, tK, tL] at h5)
    refine C_skip ?_
    refine NX_block (?_)
    refine NX_rng [5] (()) ?_ rfl (List.Sublist.refl _) rfl (Imm.le_refl _)
    exact lt_succ_all hJ1 (fun y hy => by rw [hz2] at hy; simp only [Option.some.injEq] at hy; subst hy; simp_all)
 ·refine NX_as (L' := []) [] rfl ?_
  refine CW_seq ?_
  refine CW_region ?_
  refine W_q (r_assign rfl) rfl ?_
  refine W_nil ?_
  refine NX_as (L' := [(2, _)]) [2] rfl ?_
  refine C_ret (RX_q1 rfl rfl ?_)
  first
    | (rw [listsB, all_false_of hz2 (by simp_all)]; done)
    | (rw [listsB, all_true_of hJ1])

set_option maxHeartbeats 4000000 in
/-- code.mayBlock -/
theorem mayBlock_q {m : Imm} {es : List Value} {b : FBlk} (hB : rBlock m es b) : Quiet Tryz.prog 112 [.agg es.toArray] m (.bool (mayBlock b)) := by
 have hB_0 := hB
 obtain ⟨A90, c90, B90, d90, C90, e90, rfl, hp90, ho90, ht90, i90a, i90b⟩ := hB_0
 have hlen := hp90.len
 have hlen2 := ho90.len
 refine quiet_of Tryz.func112 rfl Tryz.ntmps112 rfl (fun w => ?_)
 refine CW_seq ?_
 refine CW_region ?_
 refine S_box (l := [_, _, _, _, _]) rfl rfl rfl (fun b1 => ?_)
 refine W_q (r_assign rfl) rfl ?_
 refine W_nil ?_
 refine NX_as (L' := [(1, _), (2, _)]) [1, 2] rfl ?_
 refine CW_seq ?_
 refine CW_seq ?_
 refine CW_region ?_
 refine W_q (r_fieldb (o' := 0) rfl T.fo44_0 rfl) rfl ?_
 refine W_q (r_loadb 0 rfl T.ag39 rfl rfl) rfl ?_
 refine W_q (r_len Tryz.underlying39 rfl) rfl ?_
 refine W_q (r_move rfl) rfl ?_
 refine W_nil ?_
 refine NX_as (L' := [(1, _), (2, _), (8, _), (9, _), (10, _)]) [1, 2, 8, 9, 10] rfl ?_
 refine C_range (Unit) (b.phis.length) (fun k2 x2 => ∀ j, j < k2 → ∀ y, b.phis[j]? = some y → mayPhi y = true) (fun k2 x2 => []) (fun _ _ => []) [] [1, 8] (F := [(1, _), (8, _)]) (()) rfl rfl (by omega) (by simp) rfl rfl rfl rfl rfl rfl rfl (fun _ _ => rfl) (fun _ _ => rfl) (fun k2 x2 hk2 hJ2 => ?_) (fun x2 hJ2 => ?_)
 ·refine CW_as (L' := [(1, _), (8, _), (9, _), (10, _)]) [1, 8, 9, 10] rfl ?_
  refine CW_seq ?_
  refine CW_region ?_
  obtain ⟨ad3, hA3⟩ := hp90.ad (j := k2) (by omega)
  obtain ⟨z3, hz3⟩ := hp90.getz (j := k2) (by omega)
  refine W_q (r_index hA3 Tryz.underlying39 T.sz61 rfl rfl ⟨by omega, by omega⟩) rfl ?_
  obtain ⟨es4, f4, _, l4⟩ := Sl.get hp90 hA3 hz3
  have F4 := f4
  obtain ⟨A4, c4, B4, d4, rfl, h4, g4, i4a, i4b⟩ := f4
  refine W_q (r_load_immk (vs := [_, _, _, _]) rfl T.ag61 T.sz61 l4) rfl ?_
  refine S_alloc (l := [_, _, _, _]) T.ze61 rfl rfl (fun b5 => ?_)
  refine S_storeb 0 (l' := [_, _, _, _]) rfl rfl rfl T.sz61 rfl rfl rfl rfl ?_
  refine W_nil ?_
  refine NX_as (L' := [(1, _), (4, _), (8, _), (9, _), (10, _)]) [1, 4, 8, 9, 10] rfl ?_
  refine CW_seq ?_
  refine CW_region ?_
  refine W_q (r_fieldb (o' := 0) rfl T.fo61_0 rfl) rfl ?_
  refine W_q (r_loadb 0 rfl T.ag3 rfl rfl) rfl ?_
  refine W_q (r_fieldb (o' := 1) rfl T.fo61_1 rfl) rfl ?_
  refine W_q (r_loadb 0 rfl T.ag3 rfl rfl) rfl ?_
  refine S_lit (vs := [_, _]) (cs := [_, _]) Tryz.underlying22 T.sz3 T.ze3 rfl rfl rfl rfl rfl rfl (fun m6 ad6 le6 l6 => ?_)
  replace hB := rBlock_mono _ _ _ _ le6 hB
  replace hp90 := hp90.mono rPhi_mono le6
  replace ho90 := ho90.mono rOp_mono le6
  replace ht90 := ht90.mono rI_mono le6
  replace F4 := rPhi_mono _ _ _ _ le6 F4
  replace h4 := h4.mono rI_mono le6
  replace g4 := g4.mono rI_mono le6
  have h6 : Ints m6 (some ad6) 2 _ := Ints_lit [_, _] l6 (i64s_cons (by first | assumption | exact ⟨by omega, by omega⟩) (i64s_cons (by first | assumption | exact ⟨by omega, by omega⟩) i64s_nil))
  refine W_quiet (in_q h6) T.hb109 rfl rfl ?_
  refine W_q (r_not rfl) rfl ?_
  refine W_q (r_move rfl) rfl ?_
  refine WL_split (t := 21) rfl (fun h7 => ?_) (fun h7 => ?_)
  ·(try simp only [tA, tB, tC, tD, tE, tF, tG, tH, tI, tJ, tK, tL] at h7)
   refine WL_pass rfl rfl rfl rfl ?_
   refine WL_pass rfl rfl rfl rfl ?_
   refine WL_pass rfl rfl rfl rfl ?_
   refine WL_pass rfl rfl rfl rfl ?_
   refine WL_pass rfl rfl rfl rfl ?_
   refine WL_pass rfl rfl rfl rfl ?_
   refine WL_pass rfl rfl rfl rfl ?_
   refine W_q (r_pick_t rfl rfl) rfl ?_
   refine W_nil ?_
   refine NX_as (L' := [(1, _), (8, _), (9, _), (10, _), (29, _)]) [1, 8, 9, 10, 29] rfl ?_
   refine CW_cond_t rfl ?_
   refine CW_seq ?_
   refine CW_region ?_
   refine W_q (r_assign rfl) rfl ?_
   refine W_nil ?_
   refine NX_as (L' := [(1, _), (2, _), (8, _), (9, _), (10, _)]) [1, 2, 8, 9, 10] rfl ?_
   refine C_ret (RX_block (RX_then (RX_block (RX_then (RX_q1 rfl rfl ?_)))))
   first
     | (rw [mayBlock, all_false_of hz3 (by simp_all [mayPhi])]; rfl)
     | (rw [mayBlock, all_true_of hJ2, all_false_of hz3 (by simp_all [mayOpC])]; rfl)
     | (rw [mayBlock, all_true_of hJ2, all_true_of «J1»]; simp_all)
  ·(try simp only [tA, tB, tC, tD, tE, tF, tG, tH, tI, tJ, tK, tL] at h7)
   refine WL_take rfl rfl ?_
   refine W_q (r_fieldb (o' := 2) rfl T.fo61_2 rfl) rfl ?_
   refine WL_take rfl rfl ?_
   refine W_q (r_loadb 0 rfl T.ag22 rfl rfl) rfl ?_
   refine WL_take rfl rfl ?_
   refine W_q (r_fieldb (o' := 3) rfl T.fo61_3 rfl) rfl ?_
   refine WL_take rfl rfl ?_
   refine W_q (r_loadb 0 rfl T.ag22 rfl rfl) rfl ?_
   refine WL_take rfl rfl ?_
   refine S_lit (vs := [_, _]) (cs := [_, _]) Tryz.underlying65 T.sz22 T.ze22 rfl rfl rfl rfl rfl rfl (fun m8 ad8 le8 l8 => ?_)
   replace hB := rBlock_mono _ _ _ _ le8 hB
   replace hp90 := hp90.mono rPhi_mono le8
   replace ho90 := ho90.mono rOp_mono le8
   replace ht90 := ht90.mono rI_mono le8
   replace F4 := rPhi_mono _ _ _ _ le8 F4
   replace h4 := h4.mono rI_mono le8
   replace g4 := g4.mono rI_mono le8
   replace h6 := h6.mono rI_mono le8
   have h8 := slS_lit2 h4 g4 l8
   refine WL_take rfl rfl ?_
   refine W_quiet (lists_q h8) T.hb149 rfl rfl ?_
   refine WL_take rfl rfl ?_
   refine W_q (r_not rfl) rfl ?_
   refine W_q (r_pick_f rfl rfl) rfl ?_
   refine W_nil ?_
   refine NX_as (L' := [(1, _), (8, _), (9, _), (10, _), (29, _)]) [1, 8, 9, 10, 29] rfl ?_
   refine CW_condk rfl (fun h9 => ?_) (fun h9 => ?_)
   ·(try simp only [tA, tB, tC, tD, tE, tF, tG, tH, tI, tJ, tK, tL] at h9)
    refine CW_seq ?_
    refine CW_region ?_
    refine W_q (r_assign rfl) rfl ?_
    refine W_nil ?_
    refine NX_as (L' := [(1, _), (2, _), (8, _), (9, _), (10, _)]) [1, 2, 8, 9, 10] rfl ?_
    refine C_ret (RX_block (RX_then (RX_block (RX_then (RX_q1 rfl rfl ?_)))))
    first
      | (rw [mayBlock, all_false_of hz3 (by simp_all [mayPhi])]; rfl)
      | (rw [mayBlock, all_true_of hJ2, all_false_of hz3 (by simp_all [mayOpC])]; rfl)
      | (rw [mayBlock, all_true_of hJ2, all_true_of «J1»]; simp_all)
   ·(try simp only [tA, tB, tC, tD, tE, tF, tG, tH, tI, tJ, tK, tL] at h9)
    refine C_skip ?_
    refine NX_block (?_)
    refine NX_rng [1, 8] (()) ?_ rfl (sub_drop 1 rfl) rfl (Imm.le_trans (le6) le8)
    exact lt_succ_all hJ2 (fun y hy => by rw [hz3] at hy; simp only [Option.some.injEq] at hy; subst hy; simp_all [mayPhi])
 ·refine NX_as (L' := [(1, _)]) [1] rfl ?_
  refine CW_seq ?_
  refine CW_seq ?_
  refine CW_region ?_
  refine W_q (r_fieldb (o' := 1) rfl T.fo44_1 rfl) rfl ?_
  refine W_q (r_loadb 0 rfl T.ag40 rfl rfl) rfl ?_
  refine W_q (r_len Tryz.underlying40 rfl) rfl ?_
  refine W_q (r_move rfl) rfl ?_
  refine W_nil ?_
  refine NX_as (L' := [(1, _), (32, _), (33, _), (34, _)]) [1, 32, 33, 34] rfl ?_
  refine C_range (Unit) (b.ops.length) (fun k10 x10 => ∀ j, j < k10 → ∀ y, b.ops[j]? = some y → mayOpC y = true) (fun k10 x10 => []) (fun _ _ => []) [] [1, 32] (F := [(1, _), (32, _)]) (()) rfl rfl (by omega) (by simp) rfl rfl rfl rfl rfl rfl rfl (fun _ _ => rfl) (fun _ _ => rfl) (fun k10 x10 hk10 hJ10 => ?_) (fun x10 hJ10 => ?_)
  ·refine CW_as (L' := [(1, _), (32, _), (33, _), (34, _)]) [1, 32, 33, 34] rfl ?_
   refine CW_seq ?_
   refine CW_region ?_
   obtain ⟨ad11, hA11⟩ := ho90.ad (j := k10) (by omega)
   obtain ⟨z11, hz11⟩ := ho90.getz (j := k10) (by omega)
   refine W_q (r_index hA11 Tryz.underlying40 T.sz51 rfl rfl ⟨by omega, by omega⟩) rfl ?_
   obtain ⟨es12, f12, _, l12⟩ := Sl.get ho90 hA11 hz11
   have F12 := f12
   obtain ⟨A12, c12, rfl, h12, i12a, i12b, i12c, i12d, i12e⟩ := f12
   refine W_q (r_load_immk (vs := [_, _, _, _, _, _]) rfl T.ag51 T.sz51 l12) rfl ?_
   refine S_alloc (l := [_, _, _, _, _, _]) T.ze51 rfl rfl (fun b13 => ?_)
   refine S_storeb 0 (l' := [_, _, _, _, _, _]) rfl rfl rfl T.sz51 rfl rfl rfl rfl ?_
   refine W_nil ?_
   refine NX_as (L' := [(1, _), (6, _), (32, _), (33, _), (34, _)]) [1, 6, 32, 33, 34] rfl ?_
   refine CW_seq ?_
   refine CW_region ?_
   refine W_q (r_fieldb (o' := 0) rfl T.fo51_0 rfl) rfl ?_
   refine W_q (r_loadb 0 rfl T.ag3 rfl rfl) rfl ?_
   refine W_q (r_fieldb (o' := 1) rfl T.fo51_1 rfl) rfl ?_
   refine W_q (r_loadb 0 rfl T.ag3 rfl rfl) rfl ?_
   refine W_q (r_fieldb (o' := 2) rfl T.fo51_2 rfl) rfl ?_
   refine W_q (r_loadb 0 rfl T.ag3 rfl rfl) rfl ?_
   refine W_q (r_fieldb (o' := 3) rfl T.fo51_3 rfl) rfl ?_
   refine W_q (r_loadb 0 rfl T.ag3 rfl rfl) rfl ?_
   refine S_lit (vs := [_, _, _, _]) (cs := [_, _, _, _]) Tryz.underlying22 T.sz3 T.ze3 rfl rfl rfl rfl rfl rfl (fun m14 ad14 le14 l14 => ?_)
   replace hB := rBlock_mono _ _ _ _ le14 hB
   replace hp90 := hp90.mono rPhi_mono le14
   replace ho90 := ho90.mono rOp_mono le14
   replace ht90 := ht90.mono rI_mono le14
   replace F12 := rOp_mono _ _ _ _ le14 F12
   replace h12 := h12.mono rI_mono le14
   have h14 : Ints m14 (some ad14) 4 _ := Ints_lit [_, _, _, _] l14 (i64s_cons (by first | assumption | exact ⟨by omega, by omega⟩) (i64s_cons (by first | assumption | exact ⟨by omega, by omega⟩) (i64s_cons (by first | assumption | exact ⟨by omega, by omega⟩) (i64s_cons (by first | assumption | exact ⟨by omega, by omega⟩) i64s_nil))))
   refine W_quiet (in_q h14) T.hb109 rfl rfl ?_
   refine W_q (r_not rfl) rfl ?_
   refine W_q (r_move rfl) rfl ?_
   refine WL_split (t := 49) rfl (fun h15 => ?_) (fun h15 => ?_)
   ·(try simp only [tA, tB, tC, tD, tE, tF, tG, tH, tI, tJ, tK, tL] at h15)
    refine WL_pass rfl rfl rfl rfl ?_
    refine WL_pass rfl rfl rfl rfl ?_
    refine WL_pass rfl rfl rfl rfl ?_
    refine WL_pass rfl rfl rfl rfl ?_
    refine WL_pass rfl rfl rfl rfl ?_
    refine W_q (r_pick_t rfl rfl) rfl ?_
    refine W_nil ?_
    refine NX_as (L' := [(1, _), (32, _), (33, _), (34, _), (55, _)]) [1, 32, 33, 34, 55] rfl ?_
    refine CW_cond_t rfl ?_
    refine CW_seq ?_
    refine CW_region ?_
    refine W_q (r_assign rfl) rfl ?_
    refine W_nil ?_
    refine NX_as (L' := [(1, _), (2, _), (32, _), (33, _), (34, _)]) [1, 2, 32, 33, 34] rfl ?_
    refine C_ret (RX_block (RX_then (RX_block (RX_then (RX_q1 rfl rfl ?_)))))
    first
      | (rw [mayBlock, all_false_of hz11 (by simp_all [mayPhi])]; rfl)
      | (rw [mayBlock, all_true_of hJ2, all_false_of hz11 (by simp_all [mayOpC])]; rfl)
      | (rw [mayBlock, all_true_of hJ2, all_true_of hJ10]; simp_all)
   ·(try simp only [tA, tB, tC, tD, tE, tF, tG, tH, tI, tJ, tK, tL] at h15)
    refine WL_take rfl rfl ?_
    refine W_q (r_fieldb (o' := 4) rfl T.fo51_4 rfl) rfl ?_
    refine WL_take rfl rfl ?_
    refine W_q (r_loadb 0 rfl T.ag22 rfl rfl) rfl ?_
    refine WL_take rfl rfl ?_
    refine S_lit (vs := [_]) (cs := [_]) Tryz.underlying65 T.sz22 T.ze22 rfl rfl rfl rfl rfl rfl (fun m16 ad16 le16 l16 => ?_)
    replace hB := rBlock_mono _ _ _ _ le16 hB
    replace hp90 := hp90.mono rPhi_mono le16
    replace ho90 := ho90.mono rOp_mono le16
    replace ht90 := ht90.mono rI_mono le16
    replace F12 := rOp_mono _ _ _ _ le16 F12
    replace h12 := h12.mono rI_mono le16
    replace h14 := h14.mono rI_mono le16
    have h16 := slS_lit1 h12 l16
    refine WL_take rfl rfl ?_
    refine W_quiet (lists_q h16) T.hb149 rfl rfl ?_
    refine WL_take rfl rfl ?_
    refine W_q (r_not rfl) rfl ?_
    refine W_q (r_pick_f rfl rfl) rfl ?_
    refine W_nil ?_
    refine NX_as (L' := [(1, _), (32, _), (33, _), (34, _), (55, _)]) [1, 32, 33, 34, 55] rfl ?_
    refine CW_condk rfl (fun h17 => ?_) (fun h17 => ?_)
    ·(try simp only [tA, tB, tC, tD, tE, tF, tG, tH, tI, tJ, tK, tL] at h17)
     refine CW_seq ?_
     refine CW_region ?_
     refine W_q (r_assign rfl) rfl ?_
     refine W_nil ?_
     refine NX_as (L' := [(1, _), (2, _), (32, _), (33, _), (34, _)]) [1, 2, 32, 33, 34] rfl ?_
     refine C_ret (RX_block (RX_then (RX_block (RX_then (RX_q1 rfl rfl ?_)))))
     first
       | (rw [mayBlock, all_false_of hz11 (by simp_all [mayPhi])]; rfl)
       | (rw [mayBlock, all_true_of hJ2, all_false_of hz11 (by simp_all [mayOpC])]; rfl)
       | (rw [mayBlock, all_true_of hJ2, all_true_of hJ10]; simp_all)
    ·(try simp only [tA, tB, tC, tD, tE, tF, tG, tH, tI, tJ, tK, tL] at h17)
     refine C_skip ?_
     refine NX_block (?_)
     refine NX_rng [1, 32] (()) ?_ rfl (sub_drop 1 rfl) rfl (Imm.le_trans (le14) le16)
     exact lt_succ_all hJ10 (fun y hy => by rw [hz11] at hy; simp only [Option.some.injEq] at hy; subst hy; simp_all [mayOpC])
  ·refine NX_as (L' := [(1, _)]) [1] rfl ?_
   refine CW_seq ?_
   refine CW_region ?_
   refine W_q (r_fieldb (o' := 2) rfl T.fo44_2 rfl) rfl ?_
   refine W_q (r_fieldb (o' := 2) rfl T.fo42_0 rfl) rfl ?_
   refine W_q (r_loadb 0 rfl T.ag3 rfl rfl) rfl ?_
   refine W_q (r_fieldb (o' := 2) rfl T.fo44_2 rfl) rfl ?_
   refine W_q (r_fieldb (o' := 3) rfl T.fo42_1 rfl) rfl ?_
   refine W_q (r_loadb 0 rfl T.ag3 rfl rfl) rfl ?_
   refine S_lit (vs := [_, _]) (cs := [_, _]) Tryz.underlying22 T.sz3 T.ze3 rfl rfl rfl rfl rfl rfl (fun m18 ad18 le18 l18 => ?_)
   replace hB := rBlock_mono _ _ _ _ le18 hB
   replace hp90 := hp90.mono rPhi_mono le18
   replace ho90 := ho90.mono rOp_mono le18
   replace ht90 := ht90.mono rI_mono le18
   have h18 : Ints m18 (some ad18) 2 _ := Ints_lit [_, _] l18 (i64s_cons (by first | assumption | exact ⟨by omega, by omega⟩) (i64s_cons (by first | assumption | exact ⟨by omega, by omega⟩) i64s_nil))
   refine W_quiet (in_q h18) T.hb109 rfl rfl ?_
   refine W_q (r_move rfl) rfl ?_
   refine WL_split (t := 65) rfl (fun h19 => ?_) (fun h19 => ?_)
   ·(try simp only [tA, tB, tC, tD, tE, tF, tG, tH, tI, tJ, tK, tL] at h19)
    refine WL_take rfl rfl ?_
    refine W_q (r_fieldb (o' := 2) rfl T.fo44_2 rfl) rfl ?_
    refine WL_take rfl rfl ?_
    refine W_q (r_fieldb (o' := 4) rfl T.fo42_2 rfl) rfl ?_
    refine WL_take rfl rfl ?_
    refine W_q (r_loadb 0 rfl T.ag22 rfl rfl) rfl ?_
    refine WL_take rfl rfl ?_
    refine S_lit (vs := [_]) (cs := [_]) Tryz.underlying65 T.sz22 T.ze22 rfl rfl rfl rfl rfl rfl (fun m20 ad20 le20 l20 => ?_)
    replace hB := rBlock_mono _ _ _ _ le20 hB
    replace hp90 := hp90.mono rPhi_mono le20
    replace ho90 := ho90.mono rOp_mono le20
    replace ht90 := ht90.mono rI_mono le20
    replace h18 := h18.mono rI_mono le20
    have h20 := slS_lit1 ht90 l20
    refine WL_take rfl rfl ?_
    refine W_quiet (lists_q h20) T.hb149 rfl rfl ?_
    refine W_q (r_pick_t rfl rfl) rfl ?_
    refine W_q (r_assign rfl) rfl ?_
    refine W_nil ?_
    refine NX_as (L' := [(2, _)]) [2] rfl ?_
    refine C_ret (RX_q1 rfl rfl ?_)
    first
      | (rw [mayBlock, all_false_of hz11 (by simp_all [mayPhi])]; rfl)
      | (rw [mayBlock, all_true_of hJ2, all_false_of hz11 (by simp_all [mayOpC])]; rfl)
      | (rw [mayBlock, all_true_of hJ2, all_true_of hJ10]; simp_all)
   ·(try simp only [tA, tB, tC, tD, tE, tF, tG, tH, tI, tJ, tK, tL] at h19)
    refine WL_pass rfl rfl rfl rfl ?_
    refine WL_pass rfl rfl rfl rfl ?_
    refine WL_pass rfl rfl rfl rfl ?_
    refine WL_pass rfl rfl rfl rfl ?_
    refine WL_pass rfl rfl rfl rfl ?_
    refine W_q (r_pick_f rfl rfl) rfl ?_
    refine W_q (r_assign rfl) rfl ?_
    refine W_nil ?_
    refine NX_as (L' := [(2, _)]) [2] rfl ?_
    refine C_ret (RX_q1 rfl rfl ?_)
    first
      | (rw [mayBlock, all_false_of hz11 (by simp_all [mayPhi])]; rfl)
      | (rw [mayBlock, all_true_of hJ2, all_false_of hz11 (by simp_all [mayOpC])]; rfl)
      | (rw [mayBlock, all_true_of hJ2, all_true_of hJ10]; simp_all)

set_option maxHeartbeats 4000000 in
/-- code.Size -/
theorem Size_q {m : Imm} {es : List Value} {f : FFun} (hF : rFunc m es f) (hs : f.blocks.length ≤ 100) : Quiet Tryz.prog 108 [.agg es.toArray] m (.int .i64 (sizeF f)) := by
 have hF_0 := hF
 obtain ⟨A90, c90, B90, d90, rfl, hq90, hb90, i90a⟩ := hF_0
 have hlen := hb90.len
 refine quiet_of Tryz.func108 rfl Tryz.ntmps108 rfl (fun w => ?_)
 refine CW_seq ?_
 refine CW_region ?_
 refine S_box (l := [_, _, _]) rfl rfl rfl (fun b1 => ?_)
 refine W_q (r_assign rfl) rfl ?_
 refine W_nil ?_
 refine NX_as (L' := [(1, _), (2, _)]) [1, 2] rfl ?_
 refine CW_seq ?_
 refine CW_region ?_
 refine W_q (r_fieldb (o' := 2) rfl T.fo25_2 rfl) rfl ?_
 refine W_q (r_loadb 0 rfl T.ag23 rfl rfl) rfl ?_
 refine W_q (r_len Tryz.underlying23 rfl) rfl ?_
 refine W_q (r_assign rfl) rfl ?_
 refine W_nil ?_
 refine NX_as (L' := [(1, _), (2, _), (3, _)]) [1, 2, 3] rfl ?_
 refine CW_seq ?_
 refine CW_seq ?_
 refine CW_region ?_
 refine W_q (r_fieldb (o' := 2) rfl T.fo25_2 rfl) rfl ?_
 refine W_q (r_loadb 0 rfl T.ag23 rfl rfl) rfl ?_
 refine W_q (r_len Tryz.underlying23 rfl) rfl ?_
 refine W_q (r_move rfl) rfl ?_
 refine W_nil ?_
 refine NX_as (L' := [(2, _), (3, _), (10, _), (11, _), (12, _)]) [2, 3, 10, 11, 12] rfl ?_
 refine C_range (Unit) (f.blocks.length) (fun k2 x2 => 0 ≤ sizeK f k2 ∧ sizeK f k2 ≤ 100 + (k2 : Int) * 281474976710656) (fun k2 x2 => [(3, .int .i64 (sizeK f k2))]) (fun _ _ => []) [3] [2, 10] (F := [(2, _), (10, _)]) (()) rfl rfl (by omega) (by rw [sizeK_zero]; omega) (by rw [sizeK_zero]; rfl) rfl rfl rfl rfl rfl rfl (fun _ _ => rfl) (fun _ _ => rfl) (fun k2 x2 hk2 hJ2 => ?_) (fun x2 hJ2 => ?_)
 ·obtain ⟨hJa, hJb⟩ := hJ2
  refine CW_as (L' := [(2, _), (3, _), (10, _), (11, _), (12, _)]) [2, 3, 10, 11, 12] rfl ?_
  refine CW_seq ?_
  refine CW_region ?_
  obtain ⟨ad3, hA3⟩ := hb90.ad (j := k2) (by omega)
  obtain ⟨z3, hz3⟩ := hb90.getz (j := k2) (by omega)
  refine W_q (r_index hA3 Tryz.underlying23 T.sz44 rfl rfl ⟨by omega, by omega⟩) rfl ?_
  obtain ⟨es4, f4, _, l4⟩ := Sl.get hb90 hA3 hz3
  have F4 := f4
  obtain ⟨A4, c4, B4, d4, C4, e4, rfl, hp4, ho4, ht4, i4a, i4b⟩ := f4
  refine W_q (r_load_immk (vs := [_, _, _, _, _]) rfl T.ag44 T.sz44 l4) rfl ?_
  refine S_alloc (l := [_, _, _, _, _]) T.ze44 rfl rfl (fun b5 => ?_)
  refine S_storeb 0 (l' := [_, _, _, _, _]) rfl rfl rfl T.sz44 rfl rfl rfl rfl ?_
  refine W_nil ?_
  refine NX_as (L' := [(2, _), (3, _), (5, _), (10, _), (11, _), (12, _)]) [2, 3, 5, 10, 11, 12] rfl ?_
  refine CW_region ?_
  refine W_q (r_move rfl) rfl ?_
  refine W_q (r_fieldb (o' := 0) rfl T.fo44_0 rfl) rfl ?_
  refine W_q (r_loadb 0 rfl T.ag39 rfl rfl) rfl ?_
  refine W_q (r_len Tryz.underlying39 rfl) rfl ?_
  refine W_q (r_fieldb (o' := 1) rfl T.fo44_1 rfl) rfl ?_
  refine W_q (r_loadb 0 rfl T.ag40 rfl rfl) rfl ?_
  refine W_q (r_len Tryz.underlying40 rfl) rfl ?_
  refine W_q (r_add rfl rfl (by unfold I64; have := hp4.len; have := ho4.len; omega)) rfl ?_
  refine W_q (r_add rfl rfl (by unfold I64; have := hp4.len; have := ho4.len; omega)) rfl ?_
  refine W_q (r_assign rfl) rfl ?_
  refine W_nil ?_
  refine NX_block (?_)
  rw [← sizeK_succ hz3]
  refine NX_rng [3, 2, 10] (()) ?_ rfl (sub_drop 1 rfl) rfl (Imm.le_refl _)
  rw [sizeK_succ hz3]; have := hp4.len; have := ho4.len; omega
 ·refine NX_as (L' := [(2, _), (3, _)]) [2, 3] rfl ?_
  refine CW_seq ?_
  refine CW_region ?_
  refine W_q (r_move rfl) rfl ?_
  refine W_q (r_assign rfl) rfl ?_
  refine W_nil ?_
  refine NX_as (L' := [(2, _)]) [2] rfl ?_
  refine C_ret (RX_q1 rfl rfl ?_)
  rw [sizeK_end]

set_option maxHeartbeats 4000000 in
/-- code.May$1 -/
theorem May1_q {m : Imm} {es : List Value} {b : FBlk} (hB : rBlock m es b) : Quiet Tryz.prog 111 [.agg es.toArray] m (.bool (!(mayBlock b))) := by
 have hB_0 := hB
 obtain ⟨A90, c90, B90, d90, C90, e90, rfl, hp90, ho90, ht90, i90a, i90b⟩ := hB_0
 refine quiet_of Tryz.func111 rfl Tryz.ntmps111 rfl (fun w => ?_)
 refine CW_seq ?_
 refine CW_region ?_
 refine S_box (l := [_, _, _, _, _]) rfl rfl rfl (fun b1 => ?_)
 refine W_q (r_assign rfl) rfl ?_
 refine W_nil ?_
 refine NX_as (L' := [(1, _), (2, _)]) [1, 2] rfl ?_
 refine CW_seq ?_
 refine CW_region ?_
 refine W_q (r_loadbk 0 (vs := [_, _, _, _, _]) rfl T.ag44 T.sz44 rfl rfl rfl) rfl ?_
 refine W_quiet (mayBlock_q hB) T.hb112 rfl rfl ?_
 refine W_q (r_not rfl) rfl ?_
 refine W_q (r_assign rfl) rfl ?_
 refine W_nil ?_
 refine NX_as (L' := [(2, _)]) [2] rfl ?_
 refine C_ret (RX_q1 rfl rfl ?_)
 rfl

set_option maxHeartbeats 4000000 in
/-- code.May -/
theorem MayF_q {m : Imm} {es : List Value} {f : FFun} (hF : rFunc m es f) : Quiet Tryz.prog 72 [.agg es.toArray] m (.bool (mayF f)) := by
 have hF_0 := hF
 obtain ⟨A90, c90, B90, d90, rfl, hq90, hb90, i90a⟩ := hF_0
 refine quiet_of Tryz.func72 rfl Tryz.ntmps72 rfl (fun w => ?_)
 refine CW_seq ?_
 refine CW_region ?_
 refine S_box (l := [_, _, _]) rfl rfl rfl (fun b1 => ?_)
 refine W_q (r_assign rfl) rfl ?_
 refine W_nil ?_
 refine NX_as (L' := [(1, _), (2, _)]) [1, 2] rfl ?_
 refine CW_seq ?_
 refine CW_seq ?_
 refine CW_region ?_
 refine W_q (r_fieldb (o' := 2) rfl T.fo25_2 rfl) rfl ?_
 refine W_q (r_loadb 0 rfl T.ag23 rfl rfl) rfl ?_
 refine W_q (r_len Tryz.underlying23 rfl) rfl ?_
 refine W_q (r_bin rfl rfl (bin_lss _ _ _ _)) rfl ?_
 refine W_q (r_move rfl) rfl ?_
 refine WL_split (t := 7) rfl (fun h2 => ?_) (fun h2 => ?_)
 ·(try simp only [tA, tB, tC, tD, tE, tF, tG, tH, tI, tJ, tK, tL] at h2)
  refine WL_pass rfl rfl rfl rfl ?_
  refine WL_pass rfl rfl rfl rfl ?_
  refine WL_pass rfl rfl rfl rfl ?_
  refine WL_pass rfl rfl rfl rfl ?_
  refine W_q (r_pick_t rfl rfl) rfl ?_
  refine W_q (r_move rfl) rfl ?_
  refine WL_pass rfl rfl rfl rfl ?_
  refine WL_pass rfl rfl rfl rfl ?_
  refine WL_pass rfl rfl rfl rfl ?_
  refine WL_pass rfl rfl rfl rfl ?_
  refine W_q (r_pick_t rfl rfl) rfl ?_
  refine W_q (r_move rfl) rfl ?_
  refine WL_pass rfl rfl rfl rfl ?_
  refine WL_pass rfl rfl rfl rfl ?_
  refine WL_pass rfl rfl rfl rfl ?_
  refine W_q (r_pick_t rfl rfl) rfl ?_
  refine W_q (r_move rfl) rfl ?_
  refine WL_pass rfl rfl rfl rfl ?_
  refine WL_pass rfl rfl rfl rfl ?_
  refine WL_pass rfl rfl rfl rfl ?_
  refine WL_pass rfl rfl rfl rfl ?_
  refine WL_pass rfl rfl rfl rfl ?_
  refine W_q (r_pick_t rfl rfl) rfl ?_
  refine W_q (r_move rfl) rfl ?_
  refine WL_pass rfl rfl rfl rfl ?_
  refine WL_pass rfl rfl rfl rfl ?_
  refine WL_pass rfl rfl rfl rfl ?_
  refine WL_pass rfl rfl rfl rfl ?_
  refine W_q (r_pick_t rfl rfl) rfl ?_
  refine W_nil ?_
  refine NX_as (L' := [(1, _), (2, _), (36, _)]) [1, 2, 36] rfl ?_
  refine CW_cond_t rfl ?_
  refine CW_seq ?_
  refine CW_region ?_
  refine W_q (r_assign rfl) rfl ?_
  refine W_nil ?_
  refine NX_as (L' := [(1, _), (2, _)]) [1, 2] rfl ?_
  refine C_ret (RX_then (RX_q1 rfl rfl ?_))
  simp_all [mayF]
 ·(try simp only [tA, tB, tC, tD, tE, tF, tG, tH, tI, tJ, tK, tL] at h2)
  refine WL_take rfl rfl ?_
  refine W_q (r_fieldb (o' := 2) rfl T.fo25_2 rfl) rfl ?_
  refine WL_take rfl rfl ?_
  refine W_q (r_loadb 0 rfl T.ag23 rfl rfl) rfl ?_
  refine WL_take rfl rfl ?_
  refine W_q (r_len Tryz.underlying23 rfl) rfl ?_
  refine WL_take rfl rfl ?_
  refine W_q (r_bin rfl rfl (bin_gtr _ _ _ _)) rfl ?_
  refine W_q (r_pick_f rfl rfl) rfl ?_
  refine W_q (r_move rfl) rfl ?_
  refine WL_split (t := 13) rfl (fun h3 => ?_) (fun h3 => ?_)
  ·(try simp only [tA, tB, tC, tD, tE, tF, tG, tH, tI, tJ, tK, tL] at h3)
   refine WL_pass rfl rfl rfl rfl ?_
   refine WL_pass rfl rfl rfl rfl ?_
   refine WL_pass rfl rfl rfl rfl ?_
   refine WL_pass rfl rfl rfl rfl ?_
   refine W_q (r_pick_t rfl rfl) rfl ?_
   refine W_q (r_move rfl) rfl ?_
   refine WL_pass rfl rfl rfl rfl ?_
   refine WL_pass rfl rfl rfl rfl ?_
   refine WL_pass rfl rfl rfl rfl ?_
   refine W_q (r_pick_t rfl rfl) rfl ?_
   refine W_q (r_move rfl) rfl ?_
   refine WL_pass rfl rfl rfl rfl ?_
   refine WL_pass rfl rfl rfl rfl ?_
   refine WL_pass rfl rfl rfl rfl ?_
   refine WL_pass rfl rfl rfl rfl ?_
   refine WL_pass rfl rfl rfl rfl ?_
   refine W_q (r_pick_t rfl rfl) rfl ?_
   refine W_q (r_move rfl) rfl ?_
   refine WL_pass rfl rfl rfl rfl ?_
   refine WL_pass rfl rfl rfl rfl ?_
   refine WL_pass rfl rfl rfl rfl ?_
   refine WL_pass rfl rfl rfl rfl ?_
   refine W_q (r_pick_t rfl rfl) rfl ?_
   refine W_nil ?_
   refine NX_as (L' := [(1, _), (2, _), (36, _)]) [1, 2, 36] rfl ?_
   refine CW_cond_t rfl ?_
   refine CW_seq ?_
   refine CW_region ?_
   refine W_q (r_assign rfl) rfl ?_
   refine W_nil ?_
   refine NX_as (L' := [(1, _), (2, _)]) [1, 2] rfl ?_
   refine C_ret (RX_then (RX_q1 rfl rfl ?_))
   simp_all [mayF]
  ·(try simp only [tA, tB, tC, tD, tE, tF, tG, tH, tI, tJ, tK, tL] at h3)
   refine WL_take rfl rfl ?_
   refine W_q (r_fieldb (o' := 0) rfl T.fo25_0 rfl) rfl ?_
   refine WL_take rfl rfl ?_
   refine W_q (r_loadb 0 rfl T.ag22 rfl rfl) rfl ?_
   refine WL_take rfl rfl ?_
   refine W_q (r_len Tryz.underlying22 rfl) rfl ?_
   refine WL_take rfl rfl ?_
   refine W_q (r_bin rfl rfl (bin_gtr _ _ _ _)) rfl ?_
   refine W_q (r_pick_f rfl rfl) rfl ?_
   refine W_q (r_move rfl) rfl ?_
   refine WL_split (t := 19) rfl (fun h4 => ?_) (fun h4 => ?_)
   ·(try simp only [tA, tB, tC, tD, tE, tF, tG, tH, tI, tJ, tK, tL] at h4)
    refine WL_pass rfl rfl rfl rfl ?_
    refine WL_pass rfl rfl rfl rfl ?_
    refine WL_pass rfl rfl rfl rfl ?_
    refine W_q (r_pick_t rfl rfl) rfl ?_
    refine W_q (r_move rfl) rfl ?_
    refine WL_pass rfl rfl rfl rfl ?_
    refine WL_pass rfl rfl rfl rfl ?_
    refine WL_pass rfl rfl rfl rfl ?_
    refine WL_pass rfl rfl rfl rfl ?_
    refine WL_pass rfl rfl rfl rfl ?_
    refine W_q (r_pick_t rfl rfl) rfl ?_
    refine W_q (r_move rfl) rfl ?_
    refine WL_pass rfl rfl rfl rfl ?_
    refine WL_pass rfl rfl rfl rfl ?_
    refine WL_pass rfl rfl rfl rfl ?_
    refine WL_pass rfl rfl rfl rfl ?_
    refine W_q (r_pick_t rfl rfl) rfl ?_
    refine W_nil ?_
    refine NX_as (L' := [(1, _), (2, _), (36, _)]) [1, 2, 36] rfl ?_
    refine CW_cond_t rfl ?_
    refine CW_seq ?_
    refine CW_region ?_
    refine W_q (r_assign rfl) rfl ?_
    refine W_nil ?_
    refine NX_as (L' := [(1, _), (2, _)]) [1, 2] rfl ?_
    refine C_ret (RX_then (RX_q1 rfl rfl ?_))
    simp_all [mayF]
   ·(try simp only [tA, tB, tC, tD, tE, tF, tG, tH, tI, tJ, tK, tL] at h4)
    refine WL_take rfl rfl ?_
    refine W_q (r_loadbk 0 (vs := [_, _, _]) rfl T.ag25 T.sz25 rfl rfl rfl) rfl ?_
    refine WL_take rfl rfl ?_
    refine W_quiet (Size_q hF (by omega)) T.hb108 rfl rfl ?_
    refine WL_take rfl rfl ?_
    refine W_q (r_bin rfl rfl (bin_gtr _ _ _ _)) rfl ?_
    refine W_q (r_pick_f rfl rfl) rfl ?_
    refine W_q (r_move rfl) rfl ?_
    refine WL_split (t := 24) rfl (fun h5 => ?_) (fun h5 => ?_)
    ·(try simp only [tA, tB, tC, tD, tE, tF, tG, tH, tI, tJ, tK, tL] at h5)
     refine WL_pass rfl rfl rfl rfl ?_
     refine WL_pass rfl rfl rfl rfl ?_
     refine WL_pass rfl rfl rfl rfl ?_
     refine WL_pass rfl rfl rfl rfl ?_
     refine WL_pass rfl rfl rfl rfl ?_
     refine W_q (r_pick_t rfl rfl) rfl ?_
     refine W_q (r_move rfl) rfl ?_
     refine WL_pass rfl rfl rfl rfl ?_
     refine WL_pass rfl rfl rfl rfl ?_
     refine WL_pass rfl rfl rfl rfl ?_
     refine WL_pass rfl rfl rfl rfl ?_
     refine W_q (r_pick_t rfl rfl) rfl ?_
     refine W_nil ?_
     refine NX_as (L' := [(1, _), (2, _), (36, _)]) [1, 2, 36] rfl ?_
     refine CW_cond_t rfl ?_
     refine CW_seq ?_
     refine CW_region ?_
     refine W_q (r_assign rfl) rfl ?_
     refine W_nil ?_
     refine NX_as (L' := [(1, _), (2, _)]) [1, 2] rfl ?_
     refine C_ret (RX_then (RX_q1 rfl rfl ?_))
     simp_all [mayF]
    ·(try simp only [tA, tB, tC, tD, tE, tF, tG, tH, tI, tJ, tK, tL] at h5)
     refine WL_take rfl rfl ?_
     refine W_q (r_fieldb (o' := 1) rfl T.fo25_1 rfl) rfl ?_
     refine WL_take rfl rfl ?_
     refine W_q (r_loadb 0 rfl T.ag3 rfl rfl) rfl ?_
     refine WL_take rfl rfl ?_
     refine S_lit (vs := [_]) (cs := [_]) Tryz.underlying22 T.sz3 T.ze3 rfl rfl rfl rfl rfl rfl (fun m6 ad6 le6 l6 => ?_)
     replace hF := rFunc_mono _ _ _ _ le6 hF
     replace hq90 := hq90.mono rI_mono le6
     replace hb90 := hb90.mono rBlock_mono le6
     have h6 : Ints m6 (some ad6) 1 _ := Ints_lit [_] l6 (i64s_cons (by first | assumption | exact ⟨by omega, by omega⟩) i64s_nil)
     refine WL_take rfl rfl ?_
     refine W_quiet (in_q h6) T.hb109 rfl rfl ?_
     refine WL_take rfl rfl ?_
     refine W_q (r_not rfl) rfl ?_
     refine W_q (r_pick_f rfl rfl) rfl ?_
     refine W_q (r_move rfl) rfl ?_
     refine WL_split (t := 31) rfl (fun h7 => ?_) (fun h7 => ?_)
     ·(try simp only [tA, tB, tC, tD, tE, tF, tG, tH, tI, tJ, tK, tL] at h7)
      refine WL_pass rfl rfl rfl rfl ?_
      refine WL_pass rfl rfl rfl rfl ?_
      refine WL_pass rfl rfl rfl rfl ?_
      refine WL_pass rfl rfl rfl rfl ?_
      refine W_q (r_pick_t rfl rfl) rfl ?_
      refine W_nil ?_
      refine NX_as (L' := [(1, _), (2, _), (36, _)]) [1, 2, 36] rfl ?_
      refine CW_cond_t rfl ?_
      refine CW_seq ?_
      refine CW_region ?_
      refine W_q (r_assign rfl) rfl ?_
      refine W_nil ?_
      refine NX_as (L' := [(1, _), (2, _)]) [1, 2] rfl ?_
      refine C_ret (RX_then (RX_q1 rfl rfl ?_))
      simp_all [mayF]
     ·(try simp only [tA, tB, tC, tD, tE, tF, tG, tH, tI, tJ, tK, tL] at h7)
      refine WL_take rfl rfl ?_
      refine W_q (r_fieldb (o' := 0) rfl T.fo25_0 rfl) rfl ?_
      refine WL_take rfl rfl ?_
      refine W_q (r_loadb 0 rfl T.ag22 rfl rfl) rfl ?_
      refine WL_take rfl rfl ?_
      refine W_quiet (in_q hq90) T.hb109 rfl rfl ?_
      refine WL_take rfl rfl ?_
      refine W_q (r_not rfl) rfl ?_
      refine W_q (r_pick_f rfl rfl) rfl ?_
      refine W_nil ?_
      refine NX_as (L' := [(1, _), (2, _), (36, _)]) [1, 2, 36] rfl ?_
      refine CW_condk rfl (fun h8 => ?_) (fun h8 => ?_)
      ·(try simp only [tA, tB, tC, tD, tE, tF, tG, tH, tI, tJ, tK, tL] at h8)
       refine CW_seq ?_
       refine CW_region ?_
       refine W_q (r_assign rfl) rfl ?_
       refine W_nil ?_
       refine NX_as (L' := [(1, _), (2, _)]) [1, 2] rfl ?_
       refine C_ret (RX_then (RX_q1 rfl rfl ?_))
       simp_all [mayF]
      ·(try simp only [tA, tB, tC, tD, tE, tF, tG, tH, tI, tJ, tK, tL] at h8)
       refine C_skip ?_
       refine NX_as (L' := [(1, _), (2, _)]) [1, 2] rfl ?_
       refine CW_seq ?_
       refine CW_region ?_
       refine W_q (r_fieldb (o' := 2) rfl T.fo25_2 rfl) rfl ?_
       refine W_q (r_loadb 0 rfl T.ag23 rfl rfl) rfl ?_
       refine W_quiet (ContainsFuncB_q hb90 (p := fun b => !(mayBlock b)) (K := 111) T.hb111 (fun z _ es hz => May1_q hz)) T.hb110 rfl rfl ?_
       refine W_q (r_not rfl) rfl ?_
       refine W_q (r_assign rfl) rfl ?_
       refine W_nil ?_
       refine NX_as (L' := [(2, _)]) [2] rfl ?_
       refine C_ret (RX_q1 rfl rfl ?_)
       simp_all [mayF]

end Go.Proofs.YtipmgkhjoekaaaaGreat

set_option linter.unusedVariables false
set_option linter.unusedSimpArgs false
namespace Go.Proofs.YtipmgkhjoekaaaaGreat
open Go Go.RowKit Go.Proofs Go.Proofs.YtipmgkhjoekaaaaGreat.Fw
attribute [local irreducible] Qt WL CW NX RX EX GX DL
namespace T
theorem ag49 : agg? Tryz.prog 49 = some false := by kernel_rfl
theorem ag71 : agg? Tryz.prog 71 = some true := by kernel_rfl
theorem by3 : byt? Tryz.prog 3 = some 8 := by kernel_rfl
theorem by71 : byt? Tryz.prog 71 = some 16 := by kernel_rfl
theorem fo51_5 : fld? Tryz.prog 51 5 = some (5, 1) := by kernel_rfl
theorem hb201 : hasBody Tryz.prog 201 = true := by kernel_rfl
theorem hb212 : hasBody Tryz.prog 212 = true := by kernel_rfl
theorem hb213 : hasBody Tryz.prog 213 = true := by kernel_rfl
theorem hb214 : hasBody Tryz.prog 214 = true := by kernel_rfl
theorem hb215 : hasBody Tryz.prog 215 = true := by kernel_rfl
theorem sz71 : sz? Tryz.prog 71 = some 2 := by kernel_rfl
theorem ze71 : zero? Tryz.prog 71 = some (.agg #[(.int .i64 0), (.int .i64 0)]) := by kernel_rfl
end T
set_option maxHeartbeats 4000000 in
/-- word.Cut -/
theorem Cut_q {m : Imm} (v b : Int) (hv : U64 v) : Quiet Tryz.prog 213 [.int .u64 v, .int .i64 b] m (.int .u64 (cutV v b)) := by
 refine quiet_of Tryz.func213 rfl Tryz.ntmps213 rfl (fun w => ?_)
 refine CW_seq ?_
 refine CW_region ?_
 refine W_q (r_assign rfl) rfl ?_
 refine W_nil ?_
 refine NX_as (L' := [(0, _), (1, _), (4, _)]) [0, 1, 4] rfl ?_
 refine CW_seq ?_
 refine CW_seq ?_
 refine CW_region ?_
 refine W_q (r_move rfl) rfl ?_
 refine W_quiet (May_q _) T.hb152 rfl rfl ?_
 refine W_q (r_not rfl) rfl ?_
 refine W_nil ?_
 refine NX_as (L' := [(0, _), (1, _), (4, _), (7, _)]) [0, 1, 4, 7] rfl ?_
 refine CW_condk rfl (fun h1 => ?_) (fun h1 => ?_)
 ·(try simp only [tA, tB, tC, tD, tE, tF, tG, tH, tI, tJ, tK, tL] at h1)
  refine CW_seq ?_
  refine CW_region ?_
  refine W_q (r_assign rfl) rfl ?_
  refine W_nil ?_
  refine NX_as (L' := [(0, _), (1, _), (4, _)]) [0, 1, 4] rfl ?_
  refine C_ret (RX_then (RX_q1 rfl rfl ?_))
  first
    | (rw [cutV, if_neg (by simp_all)]; done)
    | exact congrArg _ (cut_eq h1 hv)
 ·(try simp only [tA, tB, tC, tD, tE, tF, tG, tH, tI, tJ, tK, tL] at h1)
  refine C_skip ?_
  refine NX_as (L' := [(0, _), (1, _), (4, _)]) [0, 1, 4] rfl ?_
  refine CW_seq ?_
  refine CW_region ?_
  refine W_q (r_move rfl) rfl ?_
  refine W_q (r_move rfl) rfl ?_
  refine W_q (r_sub rfl rfl (by have := mayW_le h1; unfold I64; omega)) rfl ?_
  refine W_q (r_shl rfl rfl (by have := mayW_le h1; omega) rfl) rfl ?_
  refine W_q (r_move rfl) rfl ?_
  refine W_q (r_sub rfl rfl (by have := mayW_le h1; unfold I64; omega)) rfl ?_
  refine W_q (r_shr rfl rfl (by have := mayW_le h1; omega) rfl) rfl ?_
  refine W_q (r_assign rfl) rfl ?_
  refine W_nil ?_
  refine NX_as (L' := [(4, _)]) [4] rfl ?_
  refine C_ret (RX_q1 rfl rfl ?_)
  first
    | (rw [cutV, if_neg (by simp_all)]; done)
    | exact congrArg _ (cut_eq h1 hv)

set_option maxHeartbeats 4000000 in
/-- kind.row -/
theorem kindrow_q {m : Imm} (v : Value) : Quiet Tryz.prog 214 [v] m (v) := by
 refine quiet_of Tryz.func214 rfl Tryz.ntmps214 rfl (fun w => ?_)
 refine CW_seq ?_
 refine CW_region ?_
 refine W_q (r_assign rfl) rfl ?_
 refine W_nil ?_
 refine NX_as (L' := [(0, _), (2, _)]) [0, 2] rfl ?_
 refine CW_seq ?_
 refine CW_region ?_
 refine W_q (r_move rfl) rfl ?_
 refine W_q (r_assign rfl) rfl ?_
 refine W_nil ?_
 refine NX_as (L' := [(2, _)]) [2] rfl ?_
 refine C_ret (RX_q1 rfl rfl ?_)
 rfl

set_option maxHeartbeats 4000000 in
/-- math/bits.Mul64 -/
theorem Mul64_q {m : Imm} (k : Nat) (hk : k < 65) : Quiet Tryz.prog 212 [.int .u64 1, .int .u64 (k : Int)] m (.tuple #[.int .u64 0, .int .u64 (k : Int)]) := by
 refine quiet_of Tryz.func212 rfl Tryz.ntmps212 rfl (fun w => ?_)
 refine CW_seq ?_
 refine CW_region ?_
 refine W_q (r_assign rfl) rfl ?_
 refine W_q (r_assign rfl) rfl ?_
 refine W_nil ?_
 refine NX_as (L' := [(0, _), (1, _), (4, _), (5, _)]) [0, 1, 4, 5] rfl ?_
 refine CW_seq ?_
 refine CW_region ?_
 refine W_q (r_move rfl) rfl ?_
 refine W_q (r_and rfl rfl rfl) rfl ?_
 refine W_q (r_assign rfl) rfl ?_
 refine W_nil ?_
 refine NX_as (L' := [(0, _), (1, _), (4, _), (5, _), (6, _)]) [0, 1, 4, 5, 6] rfl ?_
 refine CW_seq ?_
 refine CW_region ?_
 refine W_q (r_move rfl) rfl ?_
 refine W_q (r_shr rfl rfl (by omega) rfl) rfl ?_
 refine W_q (r_assign rfl) rfl ?_
 refine W_nil ?_
 refine NX_as (L' := [(0, _), (1, _), (4, _), (5, _), (6, _), (7, _)]) [0, 1, 4, 5, 6, 7] rfl ?_
 refine CW_seq ?_
 refine CW_region ?_
 refine W_q (r_move rfl) rfl ?_
 refine W_q (r_and rfl rfl rfl) rfl ?_
 refine W_q (r_assign rfl) rfl ?_
 refine W_nil ?_
 refine NX_as (L' := [(0, _), (1, _), (4, _), (5, _), (6, _), (7, _), (8, _)]) [0, 1, 4, 5, 6, 7, 8] rfl ?_
 refine CW_seq ?_
 refine CW_region ?_
 refine W_q (r_move rfl) rfl ?_
 refine W_q (r_shr rfl rfl (by omega) rfl) rfl ?_
 refine W_q (r_assign rfl) rfl ?_
 refine W_nil ?_
 refine NX_as (L' := [(0, _), (1, _), (4, _), (5, _), (6, _), (7, _), (8, _), (9, _)]) [0, 1, 4, 5, 6, 7, 8, 9] rfl ?_
 refine CW_seq ?_
 refine CW_region ?_
 refine W_q (r_move rfl) rfl ?_
 refine W_q (r_move rfl) rfl ?_
 refine W_q (r_bin rfl rfl (bin_mul _ _ _ _)) rfl ?_
 refine W_q (r_assign rfl) rfl ?_
 refine W_nil ?_
 refine NX_as (L' := [(0, _), (1, _), (4, _), (5, _), (6, _), (7, _), (8, _), (9, _), (10, _)]) [0, 1, 4, 5, 6, 7, 8, 9, 10] rfl ?_
 refine CW_seq ?_
 refine CW_region ?_
 refine W_q (r_move rfl) rfl ?_
 refine W_q (r_move rfl) rfl ?_
 refine W_q (r_bin rfl rfl (bin_mul _ _ _ _)) rfl ?_
 refine W_q (r_move rfl) rfl ?_
 refine W_q (r_shr rfl rfl (by omega) rfl) rfl ?_
 refine W_q (r_bin rfl rfl (bin_add _ _ _ _)) rfl ?_
 refine W_q (r_assign rfl) rfl ?_
 refine W_nil ?_
 refine NX_as (L' := [(0, _), (1, _), (4, _), (5, _), (6, _), (7, _), (9, _), (11, _)]) [0, 1, 4, 5, 6, 7, 9, 11] rfl ?_
 refine CW_seq ?_
 refine CW_region ?_
 refine W_q (r_move rfl) rfl ?_
 refine W_q (r_and rfl rfl rfl) rfl ?_
 refine W_q (r_assign rfl) rfl ?_
 refine W_nil ?_
 refine NX_as (L' := [(0, _), (1, _), (4, _), (5, _), (6, _), (7, _), (9, _), (11, _), (12, _)]) [0, 1, 4, 5, 6, 7, 9, 11, 12] rfl ?_
 refine CW_seq ?_
 refine CW_region ?_
 refine W_q (r_move rfl) rfl ?_
 refine W_q (r_shr rfl rfl (by omega) rfl) rfl ?_
 refine W_q (r_assign rfl) rfl ?_
 refine W_nil ?_
 refine NX_as (L' := [(0, _), (1, _), (4, _), (5, _), (6, _), (7, _), (9, _), (12, _), (13, _)]) [0, 1, 4, 5, 6, 7, 9, 12, 13] rfl ?_
 refine CW_seq ?_
 refine CW_region ?_
 refine W_q (r_move rfl) rfl ?_
 refine W_q (r_move rfl) rfl ?_
 refine W_q (r_move rfl) rfl ?_
 refine W_q (r_bin rfl rfl (bin_mul _ _ _ _)) rfl ?_
 refine W_q (r_bin rfl rfl (bin_add _ _ _ _)) rfl ?_
 refine W_q (r_assign rfl) rfl ?_
 refine W_nil ?_
 refine NX_as (L' := [(0, _), (1, _), (4, _), (5, _), (7, _), (9, _), (12, _), (13, _)]) [0, 1, 4, 5, 7, 9, 12, 13] rfl ?_
 refine CW_seq ?_
 refine CW_region ?_
 refine W_q (r_move rfl) rfl ?_
 refine W_q (r_move rfl) rfl ?_
 refine W_q (r_bin rfl rfl (bin_mul _ _ _ _)) rfl ?_
 refine W_q (r_move rfl) rfl ?_
 refine W_q (r_bin rfl rfl (bin_add _ _ _ _)) rfl ?_
 refine W_q (r_move rfl) rfl ?_
 refine W_q (r_shr rfl rfl (by omega) rfl) rfl ?_
 refine W_q (r_bin rfl rfl (bin_add _ _ _ _)) rfl ?_
 refine W_q (r_assign rfl) rfl ?_
 refine W_nil ?_
 refine NX_as (L' := [(0, _), (1, _), (4, _), (5, _)]) [0, 1, 4, 5] rfl ?_
 refine CW_seq ?_
 refine CW_region ?_
 refine W_q (r_move rfl) rfl ?_
 refine W_q (r_move rfl) rfl ?_
 refine W_q (r_bin rfl rfl (bin_mul _ _ _ _)) rfl ?_
 refine W_q (r_assign rfl) rfl ?_
 refine W_nil ?_
 refine NX_as (L' := [(4, _), (5, _)]) [4, 5] rfl ?_
 refine C_ret (RX_q2 rfl rfl rfl ?_ ?_)
 ·exact congrArg _ (mulHi_one k hk)
 ·rw [u64_of _ ⟨by omega, by omega⟩]; simp

set_option maxHeartbeats 4000000 in
/-- math/bits.Mul -/
theorem Mul_q {m : Imm} (k : Nat) (hk : k < 65) : Quiet Tryz.prog 201 [.int .u64 1, .int .u64 (k : Int)] m (.tuple #[.int .u64 0, .int .u64 (k : Int)]) := by
 refine quiet_of Tryz.func201 rfl Tryz.ntmps201 rfl (fun w => ?_)
 refine CW_seq ?_
 refine CW_region ?_
 refine W_q (r_assign rfl) rfl ?_
 refine W_q (r_assign rfl) rfl ?_
 refine W_nil ?_
 refine NX_as (L' := [(0, _), (1, _), (4, _), (5, _)]) [0, 1, 4, 5] rfl ?_
 refine CW_seq ?_
 refine CW_cond_f rfl ?_
 refine C_skip ?_
 refine NX_as (L' := [(0, _), (1, _), (4, _), (5, _)]) [0, 1, 4, 5] rfl ?_
 refine CW_seq ?_
 refine CW_region ?_
 refine W_q (r_move rfl) rfl ?_
 refine W_q (r_move rfl) rfl ?_
 refine W_quiet (Mul64_q _ (by omega)) T.hb212 rfl rfl ?_
 refine W_q (r_move rfl) rfl ?_
 refine W_q (r_extract rfl rfl) rfl ?_
 refine W_q (r_extract rfl rfl) rfl ?_
 refine W_q (r_assign rfl) rfl ?_
 refine W_q (r_assign rfl) rfl ?_
 refine W_nil ?_
 refine NX_as (L' := [(4, _), (5, _), (8, _), (9, _)]) [4, 5, 8, 9] rfl ?_
 refine CW_seq ?_
 refine CW_region ?_
 refine W_q (r_move rfl) rfl ?_
 refine W_q (r_move rfl) rfl ?_
 refine W_q (r_assign rfl) rfl ?_
 refine W_q (r_assign rfl) rfl ?_
 refine W_nil ?_
 refine NX_as (L' := [(4, _), (5, _)]) [4, 5] rfl ?_
 refine C_ret (RX_q2 rfl rfl rfl ?_ ?_)
 ·rfl
 ·rfl

set_option maxHeartbeats 4000000 in
/-- slices.Repeat[[][2]int,[2]int] -/
theorem RepeatP_g {m : Imm} {A : Option Addr} {c : Nat} {p : (Int × Int)} (h : Sl rPair 2 m A c [p]) {k : Nat} {z : Int} (hz : z = (k : Int)) (hk : 1 ≤ k) (hk' : k ≤ 64) : Gives Tryz.prog 215 [.slice A 1 c, .int .i64 z] m (fun m' v => ∃ ad, v = .slice (some ad) (List.replicate k p).length k ∧ Sl rPair 2 m' (some ad) k (List.replicate k p)) := by
 subst hz
 obtain ⟨ad, rfl, es, he1, he2, he3⟩ := h.at_ 0 p rfl
 refine gives_of Tryz.func215 rfl Tryz.ntmps215 rfl (fun w => ?_)
 refine CW_seq ?_
 refine CW_region ?_
 refine W_q (r_assign rfl) rfl ?_
 refine W_nil ?_
 refine NX_as (L' := [(0, _), (1, _), (4, _)]) [0, 1, 4] rfl ?_
 refine CW_seq ?_
 refine CW_seq ?_
 refine CW_region ?_
 refine W_q (r_move rfl) rfl ?_
 refine W_q (r_bin rfl rfl (bin_lss _ _ _ _)) rfl ?_
 refine W_nil ?_
 refine NX_as (L' := [(0, _), (1, _), (4, _), (10, _)]) [0, 1, 4, 10] rfl ?_
 refine CW_condk rfl (fun h1 => ?_) (fun h1 => ?_)
 ·(try simp only [tA, tB, tC, tD, tE, tF, tG, tH, tI, tJ, tK, tL] at h1)
  refine CW_region ?_
  exfalso
  omega
 ·(try simp only [tA, tB, tC, tD, tE, tF, tG, tH, tI, tJ, tK, tL] at h1)
  refine C_skip ?_
  refine NX_as (L' := [(0, _), (1, _), (4, _)]) [0, 1, 4] rfl ?_
  refine CW_seq ?_
  refine CW_region ?_
  refine W_q (r_move rfl) rfl ?_
  refine W_q (r_len Tryz.underlying113 rfl) rfl ?_
  refine W_q (r_convi Tryz.underlying3 Tryz.underlying147 rfl (u64_of _ ⟨by omega, by omega⟩)) rfl ?_
  refine W_q (r_move rfl) rfl ?_
  refine W_q (r_convi Tryz.underlying3 Tryz.underlying147 rfl (u64_of _ ⟨by omega, by omega⟩)) rfl ?_
  refine W_quiet (Mul_q _ (by omega)) T.hb201 rfl rfl ?_
  refine W_q (r_move rfl) rfl ?_
  refine W_q (r_extract rfl rfl) rfl ?_
  refine W_q (r_extract rfl rfl) rfl ?_
  refine W_q (r_assign rfl) rfl ?_
  refine W_q (r_assign rfl) rfl ?_
  refine W_nil ?_
  refine NX_as (L' := [(0, _), (4, _), (5, _), (6, _)]) [0, 4, 5, 6] rfl ?_
  refine CW_seq ?_
  refine CW_seq ?_
  refine CW_region ?_
  refine W_q (r_move rfl) rfl ?_
  refine W_q (r_bin rfl rfl (bin_gtr _ _ _ _)) rfl ?_
  refine W_q (r_move rfl) rfl ?_
  refine WL_split (t := 23) rfl (fun h2 => ?_) (fun h2 => ?_)
  ·(try simp only [tA, tB, tC, tD, tE, tF, tG, tH, tI, tJ, tK, tL] at h2)
   refine WL_pass rfl rfl rfl rfl ?_
   refine WL_pass rfl rfl rfl rfl ?_
   refine W_q (r_pick_t rfl rfl) rfl ?_
   refine W_nil ?_
   refine NX_as (L' := [(0, _), (4, _), (6, _), (26, _)]) [0, 4, 6, 26] rfl ?_
   refine CW_cond_t rfl ?_
   refine CW_region ?_
   exfalso
   omega
  ·(try simp only [tA, tB, tC, tD, tE, tF, tG, tH, tI, tJ, tK, tL] at h2)
   refine WL_take rfl rfl ?_
   refine W_q (r_move rfl) rfl ?_
   refine WL_take rfl rfl ?_
   refine W_q (r_bin rfl rfl (bin_gtr _ _ _ _)) rfl ?_
   refine W_q (r_pick_f rfl rfl) rfl ?_
   refine W_nil ?_
   refine NX_as (L' := [(0, _), (4, _), (6, _), (26, _)]) [0, 4, 6, 26] rfl ?_
   refine CW_condk rfl (fun h3 => ?_) (fun h3 => ?_)
   ·(try simp only [tA, tB, tC, tD, tE, tF, tG, tH, tI, tJ, tK, tL] at h3)
    refine CW_region ?_
    exfalso
    omega
   ·(try simp only [tA, tB, tC, tD, tE, tF, tG, tH, tI, tJ, tK, tL] at h3)
    refine C_skip ?_
    refine NX_as (L' := [(0, _), (4, _), (6, _)]) [0, 4, 6] rfl ?_
    refine CW_seq ?_
    refine CW_region ?_
    refine W_q (r_move rfl) rfl ?_
    refine W_q (r_convi Tryz.underlying147 Tryz.underlying3 rfl (i64_of _ ⟨by omega, by omega⟩)) rfl ?_
    refine S_make (len := k) Tryz.underlying113 T.sz71 T.ze71 T.by71 rfl rfl rfl (by omega) (by unfold maxLen; omega) rfl (fun b4 => ?_)
    generalize hZ : Array.toList (madeCells _ (k * 2)) = Z
    have hZl : Z.length = k * 2 := by rw [← hZ]; simp [size_madeCells]
    refine W_q (r_assign rfl) rfl ?_
    refine W_nil ?_
    refine NX_as (L' := [(0, _), (4, _), (7, _)]) [0, 4, 7] rfl ?_
    refine CW_seq ?_
    refine CW_region ?_
    refine W_q (r_move rfl) rfl ?_
    refine W_q (r_move rfl) rfl ?_
    refine S_copy es 0 rfl rfl rfl Tryz.underlying113 T.sz71 (by rw [he1, show min 1 k = 1 by omega, Nat.one_mul]) (Src.sl h (by simp) (fun ad' e j u hj => by cases e; simpa using he3 j u hj) (by simp)) (by rw [List.all_eq_true]; exact (fun u hu => by obtain ⟨rfl, _⟩ := he2; simp at hu; rcases hu with rfl | rfl <;> rfl)) (by rw [he1, hZl]; omega) rfl ?_
    rw [show Z.take 0 ++ es ++ Z.drop (0 + es.length) = repL es 1 ++ Z.drop (1 * 2) by simp [repL_one, he1], show min 1 k = 1 by omega]
    refine W_q (r_assign rfl) rfl ?_
    refine W_nil ?_
    refine NX_as (L' := [(4, _), (7, _), (8, _)]) [4, 7, 8] rfl ?_
    refine CW_seq ?_
    refine CW_block ?_
    refine CW_front 0 rfl rfl ?_
    refine C_loop (Nat) (k) (fun k5 x5 => 1 ≤ x5 ∧ x5 ≤ k ∧ k5 + 1 ≤ x5) (fun k5 x5 => [(8, .int .i64 (x5 : Int))]) (fun k5 x5 => [row (some b4) k k 71 2 (repL es x5 ++ Z.drop (x5 * 2))]) [8] [4, 7] (F := [(4, _), (7, _)]) (1) (by omega) rfl rfl rfl (fun k5 x5 hk5 hJ5 => ?_)
    obtain ⟨hJa, hJb, hJc⟩ := hJ5
    refine CW_as (L' := [(4, _), (7, _), (8, _)]) [4, 7, 8] rfl ?_
    refine CW_seq ?_
    refine CW_seq ?_
    refine CW_region ?_
    refine W_q (r_move rfl) rfl ?_
    refine W_q (r_move rfl) rfl ?_
    refine W_q (r_len Tryz.underlying113 rfl) rfl ?_
    refine W_q (r_bin rfl rfl (bin_lss _ _ _ _)) rfl ?_
    refine W_nil ?_
    refine NX_as (L' := [(4, _), (7, _), (8, _), (37, _)]) [4, 7, 8, 37] rfl ?_
    refine CW_condk rfl (fun h6 => ?_) (fun h6 => ?_)
    ·(try simp only [tA, tB, tC, tD, tE, tF, tG, tH, tI, tJ, tK, tL] at h6)
     refine C_skip ?_
     refine NX_as (L' := [(4, _), (7, _), (8, _)]) [4, 7, 8] rfl ?_
     refine CW_block ?_
     refine C_drawnk 1 [(0, true), (1, true), (2, true), (3, true), (4, true), (5, true), (6, true), (7, false), (8, true), (9, true)] (by kernel_rfl) rfl (by kernel_rfl) (by kernel_rfl) ?_
     refine D_q rfl (r_move rfl) rfl ?_
     refine D_q rfl (r_move rfl) rfl ?_
     refine D_q rfl (r_move rfl) rfl ?_
     refine D_q rfl (r_sllo (h := x5) Tryz.underlying113 rfl rfl (by omega) (by omega) T.sz71 (by rw [Nat.zero_add])) rfl ?_
     refine D_q rfl (r_move rfl) rfl ?_
     refine D_q rfl (r_move rfl) rfl ?_
     refine D_q rfl (r_slhi' x5 Tryz.underlying113 rfl rfl rfl (by omega) T.sz71) rfl ?_
     refine D_f rfl (fun hs7 hc7 => ?_)
     refine S_copy (repL es (min x5 (k - x5))) 0 rfl rfl rfl Tryz.underlying113 T.sz71 (repL_len he1 _) ⟨fun w hS j u hj => ⟨_, rfl, by rw [add_plain, Nat.zero_add]; exact row_cell (hS.at (i := 0) rfl) (repL_pre he1 (by omega) hj)⟩, by simp⟩ (repL_one' (fun u hu => by obtain ⟨rfl, _⟩ := he2; simp at hu; rcases hu with rfl | rfl <;> rfl) _) (by rw [repL_len he1, List.length_append, repL_len he1, List.length_drop, hZl]; omega) rfl ?_
     rw [repL_step he1 (k := k) (by omega)]
     refine W_leftw hs7 hc7 (Imm.le_refl _) (sub_drop 1 rfl) ?_
     refine D_q rfl (r_add rfl rfl (by unfold I64 at *; omega)) rfl ?_
     refine D_q rfl (r_assign rfl) rfl ?_
     refine D_end ?_
     refine NX_block (?_)
     refine NX_rnd [8, 4, 7] (by omega) (x5 + min x5 (k - x5)) ?_ rfl (List.Sublist.refl _) rfl (Imm.le_refl _)
     omega
    ·(try simp only [tA, tB, tC, tD, tE, tF, tG, tH, tI, tJ, tK, tL] at h6)
     refine C_exit (EX_then (EX_then (EX_hit (?_))))
     refine NX_as (L' := [(4, _), (7, _)]) [4, 7] rfl ?_
     refine CW_seq ?_
     refine CW_region ?_
     refine W_q (r_move rfl) rfl ?_
     refine W_q (r_assign rfl) rfl ?_
     refine W_nil ?_
     refine NX_as (L' := [(4, _)]) [4] rfl ?_
     obtain rfl : x5 = k := by omega
     refine C_ret (RX_freeze 0 rfl (fun _ h => h) (fun mf lef hf => ?_))
     refine RX_g1 rfl rfl ⟨⟨b4, 0, none⟩, by simp, ?_⟩
     refine Sl_frz (gg := some b4) hf (by simp) (by unfold maxLen; omega) (by simp; omega) (fun _ => ⟨_, rfl⟩) (fun j z hj => ⟨es, he1, ?_, fun q v hv => ?_⟩)
     · rw [List.getElem?_replicate] at hj; split at hj <;> simp at hj; subst hj; exact rPair_mono _ _ _ _ (lef) he2
     · have hj' : j < x5 := by have := (List.getElem?_eq_some_iff.1 hj).1; simpa using this
       have hq : q < 2 := by have := (List.getElem?_eq_some_iff.1 hv).1; omega
       rw [List.getElem?_append_left (by rw [repL_len he1]; omega), repL_get he1 hj' hq, hv]

set_option maxHeartbeats 4000000 in
/-- slices.Repeat[[]int,int] -/
theorem RepeatI_g {m : Imm} {A : Option Addr} {c : Nat} {p : Int} (h : Sl rI 1 m A c [p]) {k : Nat} {z : Int} (hz : z = (k : Int)) (hk : 1 ≤ k) (hk' : k ≤ 64) : Gives Tryz.prog 184 [.slice A 1 c, .int .i64 z] m (fun m' v => ∃ ad, v = .slice (some ad) (List.replicate k p).length k ∧ Sl rI 1 m' (some ad) k (List.replicate k p)) := by
 subst hz
 obtain ⟨ad, rfl, es, he1, he2, he3⟩ := h.at_ 0 p rfl
 refine gives_of Tryz.func184 rfl Tryz.ntmps184 rfl (fun w => ?_)
 refine CW_seq ?_
 refine CW_region ?_
 refine W_q (r_assign rfl) rfl ?_
 refine W_nil ?_
 refine NX_as (L' := [(0, _), (1, _), (4, _)]) [0, 1, 4] rfl ?_
 refine CW_seq ?_
 refine CW_seq ?_
 refine CW_region ?_
 refine W_q (r_move rfl) rfl ?_
 refine W_q (r_bin rfl rfl (bin_lss _ _ _ _)) rfl ?_
 refine W_nil ?_
 refine NX_as (L' := [(0, _), (1, _), (4, _), (10, _)]) [0, 1, 4, 10] rfl ?_
 refine CW_condk rfl (fun h1 => ?_) (fun h1 => ?_)
 ·(try simp only [tA, tB, tC, tD, tE, tF, tG, tH, tI, tJ, tK, tL] at h1)
  refine CW_region ?_
  exfalso
  omega
 ·(try simp only [tA, tB, tC, tD, tE, tF, tG, tH, tI, tJ, tK, tL] at h1)
  refine C_skip ?_
  refine NX_as (L' := [(0, _), (1, _), (4, _)]) [0, 1, 4] rfl ?_
  refine CW_seq ?_
  refine CW_region ?_
  refine W_q (r_move rfl) rfl ?_
  refine W_q (r_len Tryz.underlying22 rfl) rfl ?_
  refine W_q (r_convi Tryz.underlying3 Tryz.underlying147 rfl (u64_of _ ⟨by omega, by omega⟩)) rfl ?_
  refine W_q (r_move rfl) rfl ?_
  refine W_q (r_convi Tryz.underlying3 Tryz.underlying147 rfl (u64_of _ ⟨by omega, by omega⟩)) rfl ?_
  refine W_quiet (Mul_q _ (by omega)) T.hb201 rfl rfl ?_
  refine W_q (r_move rfl) rfl ?_
  refine W_q (r_extract rfl rfl) rfl ?_
  refine W_q (r_extract rfl rfl) rfl ?_
  refine W_q (r_assign rfl) rfl ?_
  refine W_q (r_assign rfl) rfl ?_
  refine W_nil ?_
  refine NX_as (L' := [(0, _), (4, _), (5, _), (6, _)]) [0, 4, 5, 6] rfl ?_
  refine CW_seq ?_
  refine CW_seq ?_
  refine CW_region ?_
  refine W_q (r_move rfl) rfl ?_
  refine W_q (r_bin rfl rfl (bin_gtr _ _ _ _)) rfl ?_
  refine W_q (r_move rfl) rfl ?_
  refine WL_split (t := 23) rfl (fun h2 => ?_) (fun h2 => ?_)
  ·(try simp only [tA, tB, tC, tD, tE, tF, tG, tH, tI, tJ, tK, tL] at h2)
   refine WL_pass rfl rfl rfl rfl ?_
   refine WL_pass rfl rfl rfl rfl ?_
   refine W_q (r_pick_t rfl rfl) rfl ?_
   refine W_nil ?_
   refine NX_as (L' := [(0, _), (4, _), (6, _), (26, _)]) [0, 4, 6, 26] rfl ?_
   refine CW_cond_t rfl ?_
   refine CW_region ?_
   exfalso
   omega
  ·(try simp only [tA, tB, tC, tD, tE, tF, tG, tH, tI, tJ, tK, tL] at h2)
   refine WL_take rfl rfl ?_
   refine W_q (r_move rfl) rfl ?_
   refine WL_take rfl rfl ?_
   refine W_q (r_bin rfl rfl (bin_gtr _ _ _ _)) rfl ?_
   refine W_q (r_pick_f rfl rfl) rfl ?_
   refine W_nil ?_
   refine NX_as (L' := [(0, _), (4, _), (6, _), (26, _)]) [0, 4, 6, 26] rfl ?_
   refine CW_condk rfl (fun h3 => ?_) (fun h3 => ?_)
   ·(try simp only [tA, tB, tC, tD, tE, tF, tG, tH, tI, tJ, tK, tL] at h3)
    refine CW_region ?_
    exfalso
    omega
   ·(try simp only [tA, tB, tC, tD, tE, tF, tG, tH, tI, tJ, tK, tL] at h3)
    refine C_skip ?_
    refine NX_as (L' := [(0, _), (4, _), (6, _)]) [0, 4, 6] rfl ?_
    refine CW_seq ?_
    refine CW_region ?_
    refine W_q (r_move rfl) rfl ?_
    refine W_q (r_convi Tryz.underlying147 Tryz.underlying3 rfl (i64_of _ ⟨by omega, by omega⟩)) rfl ?_
    refine S_make (len := k) Tryz.underlying22 T.sz3 T.ze3 T.by3 rfl rfl rfl (by omega) (by unfold maxLen; omega) rfl (fun b4 => ?_)
    generalize hZ : Array.toList (madeCells _ (k * 1)) = Z
    have hZl : Z.length = k * 1 := by rw [← hZ]; simp [size_madeCells]
    refine W_q (r_assign rfl) rfl ?_
    refine W_nil ?_
    refine NX_as (L' := [(0, _), (4, _), (7, _)]) [0, 4, 7] rfl ?_
    refine CW_seq ?_
    refine CW_region ?_
    refine W_q (r_move rfl) rfl ?_
    refine W_q (r_move rfl) rfl ?_
    refine S_copy es 0 rfl rfl rfl Tryz.underlying22 T.sz3 (by rw [he1, show min 1 k = 1 by omega, Nat.one_mul]) (Src.sl h (by simp) (fun ad' e j u hj => by cases e; simpa using he3 j u hj) (by simp)) (by rw [List.all_eq_true]; exact (fun u hu => by obtain ⟨rfl, _⟩ := he2; simp at hu; subst hu; rfl)) (by rw [he1, hZl]; omega) rfl ?_
    rw [show Z.take 0 ++ es ++ Z.drop (0 + es.length) = repL es 1 ++ Z.drop (1 * 1) by simp [repL_one, he1], show min 1 k = 1 by omega]
    refine W_q (r_assign rfl) rfl ?_
    refine W_nil ?_
    refine NX_as (L' := [(4, _), (7, _), (8, _)]) [4, 7, 8] rfl ?_
    refine CW_seq ?_
    refine CW_block ?_
    refine CW_front 0 rfl rfl ?_
    refine C_loop (Nat) (k) (fun k5 x5 => 1 ≤ x5 ∧ x5 ≤ k ∧ k5 + 1 ≤ x5) (fun k5 x5 => [(8, .int .i64 (x5 : Int))]) (fun k5 x5 => [row (some b4) k k 3 1 (repL es x5 ++ Z.drop (x5 * 1))]) [8] [4, 7] (F := [(4, _), (7, _)]) (1) (by omega) rfl rfl rfl (fun k5 x5 hk5 hJ5 => ?_)
    obtain ⟨hJa, hJb, hJc⟩ := hJ5
    refine CW_as (L' := [(4, _), (7, _), (8, _)]) [4, 7, 8] rfl ?_
    refine CW_seq ?_
    refine CW_seq ?_
    refine CW_region ?_
    refine W_q (r_move rfl) rfl ?_
    refine W_q (r_move rfl) rfl ?_
    refine W_q (r_len Tryz.underlying22 rfl) rfl ?_
    refine W_q (r_bin rfl rfl (bin_lss _ _ _ _)) rfl ?_
    refine W_nil ?_
    refine NX_as (L' := [(4, _), (7, _), (8, _), (37, _)]) [4, 7, 8, 37] rfl ?_
    refine CW_condk rfl (fun h6 => ?_) (fun h6 => ?_)
    ·(try simp only [tA, tB, tC, tD, tE, tF, tG, tH, tI, tJ, tK, tL] at h6)
     refine C_skip ?_
     refine NX_as (L' := [(4, _), (7, _), (8, _)]) [4, 7, 8] rfl ?_
     refine CW_block ?_
     refine C_drawnk 1 [(0, true), (1, true), (2, true), (3, true), (4, true), (5, true), (6, true), (7, false), (8, true), (9, true)] (by kernel_rfl) rfl (by kernel_rfl) (by kernel_rfl) ?_
     refine D_q rfl (r_move rfl) rfl ?_
     refine D_q rfl (r_move rfl) rfl ?_
     refine D_q rfl (r_move rfl) rfl ?_
     refine D_q rfl (r_sllo (h := x5) Tryz.underlying22 rfl rfl (by omega) (by omega) T.sz3 (by rw [Nat.zero_add])) rfl ?_
     refine D_q rfl (r_move rfl) rfl ?_
     refine D_q rfl (r_move rfl) rfl ?_
     refine D_q rfl (r_slhi' x5 Tryz.underlying22 rfl rfl rfl (by omega) T.sz3) rfl ?_
     refine D_f rfl (fun hs7 hc7 => ?_)
     refine S_copy (repL es (min x5 (k - x5))) 0 rfl rfl rfl Tryz.underlying22 T.sz3 (repL_len he1 _) ⟨fun w hS j u hj => ⟨_, rfl, by rw [add_plain, Nat.zero_add]; exact row_cell (hS.at (i := 0) rfl) (repL_pre he1 (by omega) hj)⟩, by simp⟩ (repL_one' (fun u hu => by obtain ⟨rfl, _⟩ := he2; simp at hu; subst hu; rfl) _) (by rw [repL_len he1, List.length_append, repL_len he1, List.length_drop, hZl]; omega) rfl ?_
     rw [repL_step he1 (k := k) (by omega)]
     refine W_leftw hs7 hc7 (Imm.le_refl _) (sub_drop 1 rfl) ?_
     refine D_q rfl (r_add rfl rfl (by unfold I64 at *; omega)) rfl ?_
     refine D_q rfl (r_assign rfl) rfl ?_
     refine D_end ?_
     refine NX_block (?_)
     refine NX_rnd [8, 4, 7] (by omega) (x5 + min x5 (k - x5)) ?_ rfl (List.Sublist.refl _) rfl (Imm.le_refl _)
     omega
    ·(try simp only [tA, tB, tC, tD, tE, tF, tG, tH, tI, tJ, tK, tL] at h6)
     refine C_exit (EX_then (EX_then (EX_hit (?_))))
     refine NX_as (L' := [(4, _), (7, _)]) [4, 7] rfl ?_
     refine CW_seq ?_
     refine CW_region ?_
     refine W_q (r_move rfl) rfl ?_
     refine W_q (r_assign rfl) rfl ?_
     refine W_nil ?_
     refine NX_as (L' := [(4, _)]) [4] rfl ?_
     obtain rfl : x5 = k := by omega
     refine C_ret (RX_freeze 0 rfl (fun _ h => h) (fun mf lef hf => ?_))
     refine RX_g1 rfl rfl ⟨⟨b4, 0, none⟩, by simp, ?_⟩
     refine Sl_frz (gg := some b4) hf (by simp) (by unfold maxLen; omega) (by simp; omega) (fun _ => ⟨_, rfl⟩) (fun j z hj => ⟨es, he1, ?_, fun q v hv => ?_⟩)
     · rw [List.getElem?_replicate] at hj; split at hj <;> simp at hj; subst hj; exact rI_mono _ _ _ _ (lef) he2
     · have hj' : j < x5 := by have := (List.getElem?_eq_some_iff.1 hj).1; simpa using this
       have hq : q < 1 := by have := (List.getElem?_eq_some_iff.1 hv).1; omega
       rw [List.getElem?_append_left (by rw [repL_len he1]; omega), repL_get he1 hj' hq, hv]

set_option maxHeartbeats 40000000 in
/-- kind.takes -/
theorem takes_g {m : Imm} {es : List Value} {o : FOp} (hO : rOp m es o) (hS : shapeB o.bits o.lanes = true) : Gives Tryz.prog 206 [.agg es.toArray] m (TakesΦ (takesP o)) := by
 have hO_0 := hO
 obtain ⟨A90, c90, rfl, h90, i90a, i90b, i90c, i90d, i90e⟩ := hO_0
 have hb := shapeB_bits hS
 have hU : 0 ≤ o.imm ∧ o.imm ≤ 18446744073709551615 := i90e
 refine gives_of Tryz.func206 rfl Tryz.ntmps206 rfl (fun w => ?_)
 refine CW_seq ?_
 refine CW_region ?_
 refine S_box (l := [_, _, _, _, _, _]) rfl rfl rfl (fun b1 => ?_)
 refine W_q (r_assign rfl) rfl ?_
 refine W_q (r_assign rfl) rfl ?_
 refine W_nil ?_
 refine NX_as (L' := [(1, _), (2, _), (3, _)]) [1, 2, 3] rfl ?_
 refine CW_cut (Nat × Nat × Nat × Nat) (fun x2 => m) (fun x2 => [bx x2.1 71 [.int .i64 o.bits, .int .i64 o.lanes], bx x2.2.1 71 [.int .i64 o.bits, .int .i64 1], bx x2.2.2.1 71 [.int .i64 1, .int .i64 1], bx x2.2.2.2 71 [.int .i64 64, .int .i64 1], bx b1 51 [.int .i64 o.kind, .int .i64 o.bits, .int .i64 o.lanes, .int .i64 o.dst, .slice A90 o.args.length c90, .int .u64 o.imm]]) (fun x2 => [(1, .pointer (some ⟨b1, 0, none⟩)), (2, .slice none 0 0), (3, .bool false), (4, .pointer (some ⟨x2.1, 0, none⟩)), (5, .pointer (some ⟨x2.2.1, 0, none⟩)), (6, .pointer (some ⟨x2.2.2.1, 0, none⟩)), (7, .pointer (some ⟨x2.2.2.2, 0, none⟩))]) (fun x2 => True) ?_ (fun x2 hC2 => ?_)
 ·refine C_drawnA 0 18 rfl (by kernel_rfl) (by kernel_rfl) ?_
  refine A_q (i := 0) (by kernel_rfl) rfl (r_fieldb (o' := 1) rfl T.fo51_1 rfl) rfl ?_
  refine A_q (i := 1) (by kernel_rfl) rfl (r_loadb 0 rfl T.ag3 rfl rfl) rfl ?_
  refine A_q (i := 2) (by kernel_rfl) rfl (r_fieldb (o' := 2) rfl T.fo51_2 rfl) rfl ?_
  refine A_q (i := 3) (by kernel_rfl) rfl (r_loadb 0 rfl T.ag3 rfl rfl) rfl ?_
  refine A_q (i := 4) (by kernel_rfl) rfl (r_builda (zs := [_, _]) (cs := [_, _]) Tryz.underlying71 T.sz3 T.ze71 rfl rfl rfl) rfl ?_
  refine A_q (i := 5) (by kernel_rfl) rfl (r_fieldb (o' := 1) rfl T.fo51_1 rfl) rfl ?_
  refine A_q (i := 6) (by kernel_rfl) rfl (r_loadb 0 rfl T.ag3 rfl rfl) rfl ?_
  refine A_q (i := 7) (by kernel_rfl) rfl (r_builda (zs := [_, _]) (cs := [_, _]) Tryz.underlying71 T.sz3 T.ze71 rfl rfl rfl) rfl ?_
  refine A_q (i := 8) (by kernel_rfl) rfl (r_builda (zs := [_, _]) (cs := [_, _]) Tryz.underlying71 T.sz3 T.ze71 rfl rfl rfl) rfl ?_
  refine A_q (i := 9) (by kernel_rfl) rfl (r_builda (zs := [_, _]) (cs := [_, _]) Tryz.underlying71 T.sz3 T.ze71 rfl rfl rfl) rfl ?_
  refine A_four (i := 10) (j := 11) (k := 12) (l := 13) (by kernel_rfl) rfl rfl rfl rfl (fun hs3 => ?_) (fun hs3 => ?_) (fun hs3 => ?_) (fun hs3 => ?_)
  ·refine S_alloc (l := [_, _]) T.ze71 rfl rfl (fun b4 => ?_)
   refine A_leftw hs3 (Imm.le_refl _) (sub_drop 1 rfl) ?_
   refine A_three (i := 11) (j := 12) (k := 13) (by kernel_rfl) rfl rfl rfl (fun hs5 => ?_) (fun hs5 => ?_) (fun hs5 => ?_)
   ·refine S_alloc (l := [_, _]) T.ze71 rfl rfl (fun b6 => ?_)
    refine A_leftw hs5 (Imm.le_refl _) (sub_drop 2 rfl) ?_
    refine A_two (i := 12) (j := 13) (by kernel_rfl) rfl rfl (fun hs7 => ?_) (fun hs7 => ?_)
    ·refine S_alloc (l := [_, _]) T.ze71 rfl rfl (fun b8 => ?_)
     refine A_leftw hs7 (Imm.le_refl _) (sub_drop 3 rfl) ?_
     refine A_one (i := 13) (by kernel_rfl) rfl (fun hs9 => ?_)
     ·refine S_alloc (l := [_, _]) T.ze71 rfl rfl (fun b10 => ?_)
      refine A_leftw hs9 (Imm.le_refl _) (sub_drop 4 rfl) ?_
      refine A_one (i := 14) (by kernel_rfl) rfl (fun hs11 => ?_)
      ·refine S_storeb 3 (l' := [_, _]) rfl rfl rfl T.sz71 rfl rfl rfl rfl ?_
       refine A_leftw hs11 (Imm.le_refl _) (sub_drop 4 rfl) ?_
       refine A_one (i := 15) (by kernel_rfl) rfl (fun hs12 => ?_)
       ·refine S_storeb 2 (l' := [_, _]) rfl rfl rfl T.sz71 rfl rfl rfl rfl ?_
        refine A_leftw hs12 (Imm.le_refl _) (sub_drop 4 rfl) ?_
        refine A_one (i := 16) (by kernel_rfl) rfl (fun hs13 => ?_)
        ·refine S_storeb 1 (l' := [_, _]) rfl rfl rfl T.sz71 rfl rfl rfl rfl ?_
         refine A_leftw hs13 (Imm.le_refl _) (sub_drop 4 rfl) ?_
         refine A_one (i := 17) (by kernel_rfl) rfl (fun hs14 => ?_)
         ·refine S_storeb 0 (l' := [_, _]) rfl rfl rfl T.sz71 rfl rfl rfl rfl ?_
          refine A_leftw hs14 (Imm.le_refl _) (sub_drop 4 rfl) ?_
          refine A_end (by kernel_rfl) ?_
          refine NX_cut ((b4, b6, b8, b10)) (trivial) [1, 2, 3, 4, 5, 6, 7] rfl (perm_take 3 rfl (perm_take 2 rfl (perm_take 1 rfl (perm_take 0 rfl (perm_take 0 rfl (List.Perm.refl _)))))) rfl
    ·refine S_alloc (l := [_, _]) T.ze71 rfl rfl (fun b15 => ?_)
     refine A_leftw hs7 (Imm.le_refl _) (sub_drop 3 rfl) ?_
     refine A_one (i := 12) (by kernel_rfl) rfl (fun hs16 => ?_)
     ·refine S_alloc (l := [_, _]) T.ze71 rfl rfl (fun b17 => ?_)
      refine A_leftw hs16 (Imm.le_refl _) (sub_drop 4 rfl) ?_
      refine A_one (i := 14) (by kernel_rfl) rfl (fun hs18 => ?_)
      ·refine S_storeb 3 (l' := [_, _]) rfl rfl rfl T.sz71 rfl rfl rfl rfl ?_
       refine A_leftw hs18 (Imm.le_refl _) (sub_drop 4 rfl) ?_
       refine A_one (i := 15) (by kernel_rfl) rfl (fun hs19 => ?_)
       ·refine S_storeb 2 (l' := [_, _]) rfl rfl rfl T.sz71 rfl rfl rfl rfl ?_
        refine A_leftw hs19 (Imm.le_refl _) (sub_drop 4 rfl) ?_
        refine A_one (i := 16) (by kernel_rfl) rfl (fun hs20 => ?_)
        ·refine S_storeb 0 (l' := [_, _]) rfl rfl rfl T.sz71 rfl rfl rfl rfl ?_
         refine A_leftw hs20 (Imm.le_refl _) (sub_drop 4 rfl) ?_
         refine A_one (i := 17) (by kernel_rfl) rfl (fun hs21 => ?_)
         ·refine S_storeb 1 (l' := [_, _]) rfl rfl rfl T.sz71 rfl rfl rfl rfl ?_
          refine A_leftw hs21 (Imm.le_refl _) (sub_drop 4 rfl) ?_
          refine A_end (by kernel_rfl) ?_
          refine NX_cut ((b4, b6, b17, b15)) (trivial) [1, 2, 3, 4, 5, 6, 7] rfl (perm_take 3 rfl (perm_take 2 rfl (perm_take 0 rfl (perm_take 0 rfl (perm_take 0 rfl (List.Perm.refl _)))))) rfl
   ·refine S_alloc (l := [_, _]) T.ze71 rfl rfl (fun b22 => ?_)
    refine A_leftw hs5 (Imm.le_refl _) (sub_drop 2 rfl) ?_
    refine A_two (i := 11) (j := 13) (by kernel_rfl) rfl rfl (fun hs23 => ?_) (fun hs23 => ?_)
    ·refine S_alloc (l := [_, _]) T.ze71 rfl rfl (fun b24 => ?_)
     refine A_leftw hs23 (Imm.le_refl _) (sub_drop 3 rfl) ?_
     refine A_one (i := 13) (by kernel_rfl) rfl (fun hs25 => ?_)
     ·refine S_alloc (l := [_, _]) T.ze71 rfl rfl (fun b26 => ?_)
      refine A_leftw hs25 (Imm.le_refl _) (sub_drop 4 rfl) ?_
      refine A_one (i := 14) (by kernel_rfl) rfl (fun hs27 => ?_)
      ·refine S_storeb 3 (l' := [_, _]) rfl rfl rfl T.sz71 rfl rfl rfl rfl ?_
       refine A_leftw hs27 (Imm.le_refl _) (sub_drop 4 rfl) ?_
       refine A_one (i := 15) (by kernel_rfl) rfl (fun hs28 => ?_)
       ·refine S_storeb 1 (l' := [_, _]) rfl rfl rfl T.sz71 rfl rfl rfl rfl ?_
        refine A_leftw hs28 (Imm.le_refl _) (sub_drop 4 rfl) ?_
        refine A_one (i := 16) (by kernel_rfl) rfl (fun hs29 => ?_)
        ·refine S_storeb 2 (l' := [_, _]) rfl rfl rfl T.sz71 rfl rfl rfl rfl ?_
         refine A_leftw hs29 (Imm.le_refl _) (sub_drop 4 rfl) ?_
         refine A_one (i := 17) (by kernel_rfl) rfl (fun hs30 => ?_)
         ·refine S_storeb 0 (l' := [_, _]) rfl rfl rfl T.sz71 rfl rfl rfl rfl ?_
          refine A_leftw hs30 (Imm.le_refl _) (sub_drop 4 rfl) ?_
          refine A_end (by kernel_rfl) ?_
          refine NX_cut ((b4, b24, b22, b26)) (trivial) [1, 2, 3, 4, 5, 6, 7] rfl (perm_take 3 rfl (perm_take 1 rfl (perm_take 1 rfl (perm_take 0 rfl (perm_take 0 rfl (List.Perm.refl _)))))) rfl
    ·refine S_alloc (l := [_, _]) T.ze71 rfl rfl (fun b31 => ?_)
     refine A_leftw hs23 (Imm.le_refl _) (sub_drop 3 rfl) ?_
     refine A_one (i := 11) (by kernel_rfl) rfl (fun hs32 => ?_)
     ·refine S_alloc (l := [_, _]) T.ze71 rfl rfl (fun b33 => ?_)
      refine A_leftw hs32 (Imm.le_refl _) (sub_drop 4 rfl) ?_
      refine A_one (i := 14) (by kernel_rfl) rfl (fun hs34 => ?_)
      ·refine S_storeb 3 (l' := [_, _]) rfl rfl rfl T.sz71 rfl rfl rfl rfl ?_
       refine A_leftw hs34 (Imm.le_refl _) (sub_drop 4 rfl) ?_
       refine A_one (i := 15) (by kernel_rfl) rfl (fun hs35 => ?_)
       ·refine S_storeb 0 (l' := [_, _]) rfl rfl rfl T.sz71 rfl rfl rfl rfl ?_
        refine A_leftw hs35 (Imm.le_refl _) (sub_drop 4 rfl) ?_
        refine A_one (i := 16) (by kernel_rfl) rfl (fun hs36 => ?_)
        ·refine S_storeb 2 (l' := [_, _]) rfl rfl rfl T.sz71 rfl rfl rfl rfl ?_
         refine A_leftw hs36 (Imm.le_refl _) (sub_drop 4 rfl) ?_
         refine A_one (i := 17) (by kernel_rfl) rfl (fun hs37 => ?_)
         ·refine S_storeb 1 (l' := [_, _]) rfl rfl rfl T.sz71 rfl rfl rfl rfl ?_
          refine A_leftw hs37 (Imm.le_refl _) (sub_drop 4 rfl) ?_
          refine A_end (by kernel_rfl) ?_
          refine NX_cut ((b4, b33, b22, b31)) (trivial) [1, 2, 3, 4, 5, 6, 7] rfl (perm_take 3 rfl (perm_take 0 rfl (perm_take 1 rfl (perm_take 0 rfl (perm_take 0 rfl (List.Perm.refl _)))))) rfl
   ·refine S_alloc (l := [_, _]) T.ze71 rfl rfl (fun b38 => ?_)
    refine A_leftw hs5 (Imm.le_refl _) (sub_drop 2 rfl) ?_
    refine A_two (i := 11) (j := 12) (by kernel_rfl) rfl rfl (fun hs39 => ?_) (fun hs39 => ?_)
    ·refine S_alloc (l := [_, _]) T.ze71 rfl rfl (fun b40 => ?_)
     refine A_leftw hs39 (Imm.le_refl _) (sub_drop 3 rfl) ?_
     refine A_one (i := 12) (by kernel_rfl) rfl (fun hs41 => ?_)
     ·refine S_alloc (l := [_, _]) T.ze71 rfl rfl (fun b42 => ?_)
      refine A_leftw hs41 (Imm.le_refl _) (sub_drop 4 rfl) ?_
      refine A_one (i := 14) (by kernel_rfl) rfl (fun hs43 => ?_)
      ·refine S_storeb 3 (l' := [_, _]) rfl rfl rfl T.sz71 rfl rfl rfl rfl ?_
       refine A_leftw hs43 (Imm.le_refl _) (sub_drop 4 rfl) ?_
       refine A_one (i := 15) (by kernel_rfl) rfl (fun hs44 => ?_)
       ·refine S_storeb 1 (l' := [_, _]) rfl rfl rfl T.sz71 rfl rfl rfl rfl ?_
        refine A_leftw hs44 (Imm.le_refl _) (sub_drop 4 rfl) ?_
        refine A_one (i := 16) (by kernel_rfl) rfl (fun hs45 => ?_)
        ·refine S_storeb 0 (l' := [_, _]) rfl rfl rfl T.sz71 rfl rfl rfl rfl ?_
         refine A_leftw hs45 (Imm.le_refl _) (sub_drop 4 rfl) ?_
         refine A_one (i := 17) (by kernel_rfl) rfl (fun hs46 => ?_)
         ·refine S_storeb 2 (l' := [_, _]) rfl rfl rfl T.sz71 rfl rfl rfl rfl ?_
          refine A_leftw hs46 (Imm.le_refl _) (sub_drop 4 rfl) ?_
          refine A_end (by kernel_rfl) ?_
          refine NX_cut ((b4, b40, b42, b38)) (trivial) [1, 2, 3, 4, 5, 6, 7] rfl (perm_take 3 rfl (perm_take 1 rfl (perm_take 0 rfl (perm_take 0 rfl (perm_take 0 rfl (List.Perm.refl _)))))) rfl
    ·refine S_alloc (l := [_, _]) T.ze71 rfl rfl (fun b47 => ?_)
     refine A_leftw hs39 (Imm.le_refl _) (sub_drop 3 rfl) ?_
     refine A_one (i := 11) (by kernel_rfl) rfl (fun hs48 => ?_)
     ·refine S_alloc (l := [_, _]) T.ze71 rfl rfl (fun b49 => ?_)
      refine A_leftw hs48 (Imm.le_refl _) (sub_drop 4 rfl) ?_
      refine A_one (i := 14) (by kernel_rfl) rfl (fun hs50 => ?_)
      ·refine S_storeb 3 (l' := [_, _]) rfl rfl rfl T.sz71 rfl rfl rfl rfl ?_
       refine A_leftw hs50 (Imm.le_refl _) (sub_drop 4 rfl) ?_
       refine A_one (i := 15) (by kernel_rfl) rfl (fun hs51 => ?_)
       ·refine S_storeb 0 (l' := [_, _]) rfl rfl rfl T.sz71 rfl rfl rfl rfl ?_
        refine A_leftw hs51 (Imm.le_refl _) (sub_drop 4 rfl) ?_
        refine A_one (i := 16) (by kernel_rfl) rfl (fun hs52 => ?_)
        ·refine S_storeb 1 (l' := [_, _]) rfl rfl rfl T.sz71 rfl rfl rfl rfl ?_
         refine A_leftw hs52 (Imm.le_refl _) (sub_drop 4 rfl) ?_
         refine A_one (i := 17) (by kernel_rfl) rfl (fun hs53 => ?_)
         ·refine S_storeb 2 (l' := [_, _]) rfl rfl rfl T.sz71 rfl rfl rfl rfl ?_
          refine A_leftw hs53 (Imm.le_refl _) (sub_drop 4 rfl) ?_
          refine A_end (by kernel_rfl) ?_
          refine NX_cut ((b4, b49, b47, b38)) (trivial) [1, 2, 3, 4, 5, 6, 7] rfl (perm_take 3 rfl (perm_take 0 rfl (perm_take 0 rfl (perm_take 0 rfl (perm_take 0 rfl (List.Perm.refl _)))))) rfl
  ·refine S_alloc (l := [_, _]) T.ze71 rfl rfl (fun b54 => ?_)
   refine A_leftw hs3 (Imm.le_refl _) (sub_drop 1 rfl) ?_
   refine A_three (i := 10) (j := 12) (k := 13) (by kernel_rfl) rfl rfl rfl (fun hs55 => ?_) (fun hs55 => ?_) (fun hs55 => ?_)
   ·refine S_alloc (l := [_, _]) T.ze71 rfl rfl (fun b56 => ?_)
    refine A_leftw hs55 (Imm.le_refl _) (sub_drop 2 rfl) ?_
    refine A_two (i := 12) (j := 13) (by kernel_rfl) rfl rfl (fun hs57 => ?_) (fun hs57 => ?_)
    ·refine S_alloc (l := [_, _]) T.ze71 rfl rfl (fun b58 => ?_)
     refine A_leftw hs57 (Imm.le_refl _) (sub_drop 3 rfl) ?_
     refine A_one (i := 13) (by kernel_rfl) rfl (fun hs59 => ?_)
     ·refine S_alloc (l := [_, _]) T.ze71 rfl rfl (fun b60 => ?_)
      refine A_leftw hs59 (Imm.le_refl _) (sub_drop 4 rfl) ?_
      refine A_one (i := 14) (by kernel_rfl) rfl (fun hs61 => ?_)
      ·refine S_storeb 2 (l' := [_, _]) rfl rfl rfl T.sz71 rfl rfl rfl rfl ?_
       refine A_leftw hs61 (Imm.le_refl _) (sub_drop 4 rfl) ?_
       refine A_one (i := 15) (by kernel_rfl) rfl (fun hs62 => ?_)
       ·refine S_storeb 3 (l' := [_, _]) rfl rfl rfl T.sz71 rfl rfl rfl rfl ?_
        refine A_leftw hs62 (Imm.le_refl _) (sub_drop 4 rfl) ?_
        refine A_one (i := 16) (by kernel_rfl) rfl (fun hs63 => ?_)
        ·refine S_storeb 1 (l' := [_, _]) rfl rfl rfl T.sz71 rfl rfl rfl rfl ?_
         refine A_leftw hs63 (Imm.le_refl _) (sub_drop 4 rfl) ?_
         refine A_one (i := 17) (by kernel_rfl) rfl (fun hs64 => ?_)
         ·refine S_storeb 0 (l' := [_, _]) rfl rfl rfl T.sz71 rfl rfl rfl rfl ?_
          refine A_leftw hs64 (Imm.le_refl _) (sub_drop 4 rfl) ?_
          refine A_end (by kernel_rfl) ?_
          refine NX_cut ((b56, b54, b58, b60)) (trivial) [1, 2, 3, 4, 5, 6, 7] rfl (perm_take 2 rfl (perm_take 2 rfl (perm_take 1 rfl (perm_take 0 rfl (perm_take 0 rfl (List.Perm.refl _)))))) rfl
    ·refine S_alloc (l := [_, _]) T.ze71 rfl rfl (fun b65 => ?_)
     refine A_leftw hs57 (Imm.le_refl _) (sub_drop 3 rfl) ?_
     refine A_one (i := 12) (by kernel_rfl) rfl (fun hs66 => ?_)
     ·refine S_alloc (l := [_, _]) T.ze71 rfl rfl (fun b67 => ?_)
      refine A_leftw hs66 (Imm.le_refl _) (sub_drop 4 rfl) ?_
      refine A_one (i := 14) (by kernel_rfl) rfl (fun hs68 => ?_)
      ·refine S_storeb 2 (l' := [_, _]) rfl rfl rfl T.sz71 rfl rfl rfl rfl ?_
       refine A_leftw hs68 (Imm.le_refl _) (sub_drop 4 rfl) ?_
       refine A_one (i := 15) (by kernel_rfl) rfl (fun hs69 => ?_)
       ·refine S_storeb 3 (l' := [_, _]) rfl rfl rfl T.sz71 rfl rfl rfl rfl ?_
        refine A_leftw hs69 (Imm.le_refl _) (sub_drop 4 rfl) ?_
        refine A_one (i := 16) (by kernel_rfl) rfl (fun hs70 => ?_)
        ·refine S_storeb 0 (l' := [_, _]) rfl rfl rfl T.sz71 rfl rfl rfl rfl ?_
         refine A_leftw hs70 (Imm.le_refl _) (sub_drop 4 rfl) ?_
         refine A_one (i := 17) (by kernel_rfl) rfl (fun hs71 => ?_)
         ·refine S_storeb 1 (l' := [_, _]) rfl rfl rfl T.sz71 rfl rfl rfl rfl ?_
          refine A_leftw hs71 (Imm.le_refl _) (sub_drop 4 rfl) ?_
          refine A_end (by kernel_rfl) ?_
          refine NX_cut ((b56, b54, b67, b65)) (trivial) [1, 2, 3, 4, 5, 6, 7] rfl (perm_take 2 rfl (perm_take 2 rfl (perm_take 0 rfl (perm_take 0 rfl (perm_take 0 rfl (List.Perm.refl _)))))) rfl
   ·refine S_alloc (l := [_, _]) T.ze71 rfl rfl (fun b72 => ?_)
    refine A_leftw hs55 (Imm.le_refl _) (sub_drop 2 rfl) ?_
    refine A_two (i := 10) (j := 13) (by kernel_rfl) rfl rfl (fun hs73 => ?_) (fun hs73 => ?_)
    ·refine S_alloc (l := [_, _]) T.ze71 rfl rfl (fun b74 => ?_)
     refine A_leftw hs73 (Imm.le_refl _) (sub_drop 3 rfl) ?_
     refine A_one (i := 13) (by kernel_rfl) rfl (fun hs75 => ?_)
     ·refine S_alloc (l := [_, _]) T.ze71 rfl rfl (fun b76 => ?_)
      refine A_leftw hs75 (Imm.le_refl _) (sub_drop 4 rfl) ?_
      refine A_one (i := 14) (by kernel_rfl) rfl (fun hs77 => ?_)
      ·refine S_storeb 1 (l' := [_, _]) rfl rfl rfl T.sz71 rfl rfl rfl rfl ?_
       refine A_leftw hs77 (Imm.le_refl _) (sub_drop 4 rfl) ?_
       refine A_one (i := 15) (by kernel_rfl) rfl (fun hs78 => ?_)
       ·refine S_storeb 3 (l' := [_, _]) rfl rfl rfl T.sz71 rfl rfl rfl rfl ?_
        refine A_leftw hs78 (Imm.le_refl _) (sub_drop 4 rfl) ?_
        refine A_one (i := 16) (by kernel_rfl) rfl (fun hs79 => ?_)
        ·refine S_storeb 2 (l' := [_, _]) rfl rfl rfl T.sz71 rfl rfl rfl rfl ?_
         refine A_leftw hs79 (Imm.le_refl _) (sub_drop 4 rfl) ?_
         refine A_one (i := 17) (by kernel_rfl) rfl (fun hs80 => ?_)
         ·refine S_storeb 0 (l' := [_, _]) rfl rfl rfl T.sz71 rfl rfl rfl rfl ?_
          refine A_leftw hs80 (Imm.le_refl _) (sub_drop 4 rfl) ?_
          refine A_end (by kernel_rfl) ?_
          refine NX_cut ((b74, b54, b72, b76)) (trivial) [1, 2, 3, 4, 5, 6, 7] rfl (perm_take 1 rfl (perm_take 2 rfl (perm_take 1 rfl (perm_take 0 rfl (perm_take 0 rfl (List.Perm.refl _)))))) rfl
    ·refine S_alloc (l := [_, _]) T.ze71 rfl rfl (fun b81 => ?_)
     refine A_leftw hs73 (Imm.le_refl _) (sub_drop 3 rfl) ?_
     refine A_one (i := 10) (by kernel_rfl) rfl (fun hs82 => ?_)
     ·refine S_alloc (l := [_, _]) T.ze71 rfl rfl (fun b83 => ?_)
      refine A_leftw hs82 (Imm.le_refl _) (sub_drop 4 rfl) ?_
      refine A_one (i := 14) (by kernel_rfl) rfl (fun hs84 => ?_)
      ·refine S_storeb 0 (l' := [_, _]) rfl rfl rfl T.sz71 rfl rfl rfl rfl ?_
       refine A_leftw hs84 (Imm.le_refl _) (sub_drop 4 rfl) ?_
       refine A_one (i := 15) (by kernel_rfl) rfl (fun hs85 => ?_)
       ·refine S_storeb 3 (l' := [_, _]) rfl rfl rfl T.sz71 rfl rfl rfl rfl ?_
        refine A_leftw hs85 (Imm.le_refl _) (sub_drop 4 rfl) ?_
        refine A_one (i := 16) (by kernel_rfl) rfl (fun hs86 => ?_)
        ·refine S_storeb 2 (l' := [_, _]) rfl rfl rfl T.sz71 rfl rfl rfl rfl ?_
         refine A_leftw hs86 (Imm.le_refl _) (sub_drop 4 rfl) ?_
         refine A_one (i := 17) (by kernel_rfl) rfl (fun hs87 => ?_)
         ·refine S_storeb 1 (l' := [_, _]) rfl rfl rfl T.sz71 rfl rfl rfl rfl ?_
          refine A_leftw hs87 (Imm.le_refl _) (sub_drop 4 rfl) ?_
          refine A_end (by kernel_rfl) ?_
          refine NX_cut ((b83, b54, b72, b81)) (trivial) [1, 2, 3, 4, 5, 6, 7] rfl (perm_take 0 rfl (perm_take 2 rfl (perm_take 1 rfl (perm_take 0 rfl (perm_take 0 rfl (List.Perm.refl _)))))) rfl
   ·refine S_alloc (l := [_, _]) T.ze71 rfl rfl (fun b88 => ?_)
    refine A_leftw hs55 (Imm.le_refl _) (sub_drop 2 rfl) ?_
    refine A_two (i := 10) (j := 12) (by kernel_rfl) rfl rfl (fun hs89 => ?_) (fun hs89 => ?_)
    ·refine S_alloc (l := [_, _]) T.ze71 rfl rfl (fun b90 => ?_)
     refine A_leftw hs89 (Imm.le_refl _) (sub_drop 3 rfl) ?_
     refine A_one (i := 12) (by kernel_rfl) rfl (fun hs91 => ?_)
     ·refine S_alloc (l := [_, _]) T.ze71 rfl rfl (fun b92 => ?_)
      refine A_leftw hs91 (Imm.le_refl _) (sub_drop 4 rfl) ?_
      refine A_one (i := 14) (by kernel_rfl) rfl (fun hs93 => ?_)
      ·refine S_storeb 1 (l' := [_, _]) rfl rfl rfl T.sz71 rfl rfl rfl rfl ?_
       refine A_leftw hs93 (Imm.le_refl _) (sub_drop 4 rfl) ?_
       refine A_one (i := 15) (by kernel_rfl) rfl (fun hs94 => ?_)
       ·refine S_storeb 3 (l' := [_, _]) rfl rfl rfl T.sz71 rfl rfl rfl rfl ?_
        refine A_leftw hs94 (Imm.le_refl _) (sub_drop 4 rfl) ?_
        refine A_one (i := 16) (by kernel_rfl) rfl (fun hs95 => ?_)
        ·refine S_storeb 0 (l' := [_, _]) rfl rfl rfl T.sz71 rfl rfl rfl rfl ?_
         refine A_leftw hs95 (Imm.le_refl _) (sub_drop 4 rfl) ?_
         refine A_one (i := 17) (by kernel_rfl) rfl (fun hs96 => ?_)
         ·refine S_storeb 2 (l' := [_, _]) rfl rfl rfl T.sz71 rfl rfl rfl rfl ?_
          refine A_leftw hs96 (Imm.le_refl _) (sub_drop 4 rfl) ?_
          refine A_end (by kernel_rfl) ?_
          refine NX_cut ((b90, b54, b92, b88)) (trivial) [1, 2, 3, 4, 5, 6, 7] rfl (perm_take 1 rfl (perm_take 2 rfl (perm_take 0 rfl (perm_take 0 rfl (perm_take 0 rfl (List.Perm.refl _)))))) rfl
    ·refine S_alloc (l := [_, _]) T.ze71 rfl rfl (fun b97 => ?_)
     refine A_leftw hs89 (Imm.le_refl _) (sub_drop 3 rfl) ?_
     refine A_one (i := 10) (by kernel_rfl) rfl (fun hs98 => ?_)
     ·refine S_alloc (l := [_, _]) T.ze71 rfl rfl (fun b99 => ?_)
      refine A_leftw hs98 (Imm.le_refl _) (sub_drop 4 rfl) ?_
      refine A_one (i := 14) (by kernel_rfl) rfl (fun hs100 => ?_)
      ·refine S_storeb 0 (l' := [_, _]) rfl rfl rfl T.sz71 rfl rfl rfl rfl ?_
       refine A_leftw hs100 (Imm.le_refl _) (sub_drop 4 rfl) ?_
       refine A_one (i := 15) (by kernel_rfl) rfl (fun hs101 => ?_)
       ·refine S_storeb 3 (l' := [_, _]) rfl rfl rfl T.sz71 rfl rfl rfl rfl ?_
        refine A_leftw hs101 (Imm.le_refl _) (sub_drop 4 rfl) ?_
        refine A_one (i := 16) (by kernel_rfl) rfl (fun hs102 => ?_)
        ·refine S_storeb 1 (l' := [_, _]) rfl rfl rfl T.sz71 rfl rfl rfl rfl ?_
         refine A_leftw hs102 (Imm.le_refl _) (sub_drop 4 rfl) ?_
         refine A_one (i := 17) (by kernel_rfl) rfl (fun hs103 => ?_)
         ·refine S_storeb 2 (l' := [_, _]) rfl rfl rfl T.sz71 rfl rfl rfl rfl ?_
          refine A_leftw hs103 (Imm.le_refl _) (sub_drop 4 rfl) ?_
          refine A_end (by kernel_rfl) ?_
          refine NX_cut ((b99, b54, b97, b88)) (trivial) [1, 2, 3, 4, 5, 6, 7] rfl (perm_take 0 rfl (perm_take 2 rfl (perm_take 0 rfl (perm_take 0 rfl (perm_take 0 rfl (List.Perm.refl _)))))) rfl
  ·refine S_alloc (l := [_, _]) T.ze71 rfl rfl (fun b104 => ?_)
   refine A_leftw hs3 (Imm.le_refl _) (sub_drop 1 rfl) ?_
   refine A_three (i := 10) (j := 11) (k := 13) (by kernel_rfl) rfl rfl rfl (fun hs105 => ?_) (fun hs105 => ?_) (fun hs105 => ?_)
   ·refine S_alloc (l := [_, _]) T.ze71 rfl rfl (fun b106 => ?_)
    refine A_leftw hs105 (Imm.le_refl _) (sub_drop 2 rfl) ?_
    refine A_two (i := 11) (j := 13) (by kernel_rfl) rfl rfl (fun hs107 => ?_) (fun hs107 => ?_)
    ·refine S_alloc (l := [_, _]) T.ze71 rfl rfl (fun b108 => ?_)
     refine A_leftw hs107 (Imm.le_refl _) (sub_drop 3 rfl) ?_
     refine A_one (i := 13) (by kernel_rfl) rfl (fun hs109 => ?_)
     ·refine S_alloc (l := [_, _]) T.ze71 rfl rfl (fun b110 => ?_)
      refine A_leftw hs109 (Imm.le_refl _) (sub_drop 4 rfl) ?_
      refine A_one (i := 14) (by kernel_rfl) rfl (fun hs111 => ?_)
      ·refine S_storeb 2 (l' := [_, _]) rfl rfl rfl T.sz71 rfl rfl rfl rfl ?_
       refine A_leftw hs111 (Imm.le_refl _) (sub_drop 4 rfl) ?_
       refine A_one (i := 15) (by kernel_rfl) rfl (fun hs112 => ?_)
       ·refine S_storeb 1 (l' := [_, _]) rfl rfl rfl T.sz71 rfl rfl rfl rfl ?_
        refine A_leftw hs112 (Imm.le_refl _) (sub_drop 4 rfl) ?_
        refine A_one (i := 16) (by kernel_rfl) rfl (fun hs113 => ?_)
        ·refine S_storeb 3 (l' := [_, _]) rfl rfl rfl T.sz71 rfl rfl rfl rfl ?_
         refine A_leftw hs113 (Imm.le_refl _) (sub_drop 4 rfl) ?_
         refine A_one (i := 17) (by kernel_rfl) rfl (fun hs114 => ?_)
         ·refine S_storeb 0 (l' := [_, _]) rfl rfl rfl T.sz71 rfl rfl rfl rfl ?_
          refine A_leftw hs114 (Imm.le_refl _) (sub_drop 4 rfl) ?_
          refine A_end (by kernel_rfl) ?_
          refine NX_cut ((b106, b108, b104, b110)) (trivial) [1, 2, 3, 4, 5, 6, 7] rfl (perm_take 2 rfl (perm_take 1 rfl (perm_take 1 rfl (perm_take 0 rfl (perm_take 0 rfl (List.Perm.refl _)))))) rfl
    ·refine S_alloc (l := [_, _]) T.ze71 rfl rfl (fun b115 => ?_)
     refine A_leftw hs107 (Imm.le_refl _) (sub_drop 3 rfl) ?_
     refine A_one (i := 11) (by kernel_rfl) rfl (fun hs116 => ?_)
     ·refine S_alloc (l := [_, _]) T.ze71 rfl rfl (fun b117 => ?_)
      refine A_leftw hs116 (Imm.le_refl _) (sub_drop 4 rfl) ?_
      refine A_one (i := 14) (by kernel_rfl) rfl (fun hs118 => ?_)
      ·refine S_storeb 2 (l' := [_, _]) rfl rfl rfl T.sz71 rfl rfl rfl rfl ?_
       refine A_leftw hs118 (Imm.le_refl _) (sub_drop 4 rfl) ?_
       refine A_one (i := 15) (by kernel_rfl) rfl (fun hs119 => ?_)
       ·refine S_storeb 0 (l' := [_, _]) rfl rfl rfl T.sz71 rfl rfl rfl rfl ?_
        refine A_leftw hs119 (Imm.le_refl _) (sub_drop 4 rfl) ?_
        refine A_one (i := 16) (by kernel_rfl) rfl (fun hs120 => ?_)
        ·refine S_storeb 3 (l' := [_, _]) rfl rfl rfl T.sz71 rfl rfl rfl rfl ?_
         refine A_leftw hs120 (Imm.le_refl _) (sub_drop 4 rfl) ?_
         refine A_one (i := 17) (by kernel_rfl) rfl (fun hs121 => ?_)
         ·refine S_storeb 1 (l' := [_, _]) rfl rfl rfl T.sz71 rfl rfl rfl rfl ?_
          refine A_leftw hs121 (Imm.le_refl _) (sub_drop 4 rfl) ?_
          refine A_end (by kernel_rfl) ?_
          refine NX_cut ((b106, b117, b104, b115)) (trivial) [1, 2, 3, 4, 5, 6, 7] rfl (perm_take 2 rfl (perm_take 0 rfl (perm_take 1 rfl (perm_take 0 rfl (perm_take 0 rfl (List.Perm.refl _)))))) rfl
   ·refine S_alloc (l := [_, _]) T.ze71 rfl rfl (fun b122 => ?_)
    refine A_leftw hs105 (Imm.le_refl _) (sub_drop 2 rfl) ?_
    refine A_two (i := 10) (j := 13) (by kernel_rfl) rfl rfl (fun hs123 => ?_) (fun hs123 => ?_)
    ·refine S_alloc (l := [_, _]) T.ze71 rfl rfl (fun b124 => ?_)
     refine A_leftw hs123 (Imm.le_refl _) (sub_drop 3 rfl) ?_
     refine A_one (i := 13) (by kernel_rfl) rfl (fun hs125 => ?_)
     ·refine S_alloc (l := [_, _]) T.ze71 rfl rfl (fun b126 => ?_)
      refine A_leftw hs125 (Imm.le_refl _) (sub_drop 4 rfl) ?_
      refine A_one (i := 14) (by kernel_rfl) rfl (fun hs127 => ?_)
      ·refine S_storeb 1 (l' := [_, _]) rfl rfl rfl T.sz71 rfl rfl rfl rfl ?_
       refine A_leftw hs127 (Imm.le_refl _) (sub_drop 4 rfl) ?_
       refine A_one (i := 15) (by kernel_rfl) rfl (fun hs128 => ?_)
       ·refine S_storeb 2 (l' := [_, _]) rfl rfl rfl T.sz71 rfl rfl rfl rfl ?_
        refine A_leftw hs128 (Imm.le_refl _) (sub_drop 4 rfl) ?_
        refine A_one (i := 16) (by kernel_rfl) rfl (fun hs129 => ?_)
        ·refine S_storeb 3 (l' := [_, _]) rfl rfl rfl T.sz71 rfl rfl rfl rfl ?_
         refine A_leftw hs129 (Imm.le_refl _) (sub_drop 4 rfl) ?_
         refine A_one (i := 17) (by kernel_rfl) rfl (fun hs130 => ?_)
         ·refine S_storeb 0 (l' := [_, _]) rfl rfl rfl T.sz71 rfl rfl rfl rfl ?_
          refine A_leftw hs130 (Imm.le_refl _) (sub_drop 4 rfl) ?_
          refine A_end (by kernel_rfl) ?_
          refine NX_cut ((b124, b122, b104, b126)) (trivial) [1, 2, 3, 4, 5, 6, 7] rfl (perm_take 1 rfl (perm_take 1 rfl (perm_take 1 rfl (perm_take 0 rfl (perm_take 0 rfl (List.Perm.refl _)))))) rfl
    ·refine S_alloc (l := [_, _]) T.ze71 rfl rfl (fun b131 => ?_)
     refine A_leftw hs123 (Imm.le_refl _) (sub_drop 3 rfl) ?_
     refine A_one (i := 10) (by kernel_rfl) rfl (fun hs132 => ?_)
     ·refine S_alloc (l := [_, _]) T.ze71 rfl rfl (fun b133 => ?_)
      refine A_leftw hs132 (Imm.le_refl _) (sub_drop 4 rfl) ?_
      refine A_one (i := 14) (by kernel_rfl) rfl (fun hs134 => ?_)
      ·refine S_storeb 0 (l' := [_, _]) rfl rfl rfl T.sz71 rfl rfl rfl rfl ?_
       refine A_leftw hs134 (Imm.le_refl _) (sub_drop 4 rfl) ?_
       refine A_one (i := 15) (by kernel_rfl) rfl (fun hs135 => ?_)
       ·refine S_storeb 2 (l' := [_, _]) rfl rfl rfl T.sz71 rfl rfl rfl rfl ?_
        refine A_leftw hs135 (Imm.le_refl _) (sub_drop 4 rfl) ?_
        refine A_one (i := 16) (by kernel_rfl) rfl (fun hs136 => ?_)
        ·refine S_storeb 3 (l' := [_, _]) rfl rfl rfl T.sz71 rfl rfl rfl rfl ?_
         refine A_leftw hs136 (Imm.le_refl _) (sub_drop 4 rfl) ?_
         refine A_one (i := 17) (by kernel_rfl) rfl (fun hs137 => ?_)
         ·refine S_storeb 1 (l' := [_, _]) rfl rfl rfl T.sz71 rfl rfl rfl rfl ?_
          refine A_leftw hs137 (Imm.le_refl _) (sub_drop 4 rfl) ?_
          refine A_end (by kernel_rfl) ?_
          refine NX_cut ((b133, b122, b104, b131)) (trivial) [1, 2, 3, 4, 5, 6, 7] rfl (perm_take 0 rfl (perm_take 1 rfl (perm_take 1 rfl (perm_take 0 rfl (perm_take 0 rfl (List.Perm.refl _)))))) rfl
   ·refine S_alloc (l := [_, _]) T.ze71 rfl rfl (fun b138 => ?_)
    refine A_leftw hs105 (Imm.le_refl _) (sub_drop 2 rfl) ?_
    refine A_two (i := 10) (j := 11) (by kernel_rfl) rfl rfl (fun hs139 => ?_) (fun hs139 => ?_)
    ·refine S_alloc (l := [_, _]) T.ze71 rfl rfl (fun b140 => ?_)
     refine A_leftw hs139 (Imm.le_refl _) (sub_drop 3 rfl) ?_
     refine A_one (i := 11) (by kernel_rfl) rfl (fun hs141 => ?_)
     ·refine S_alloc (l := [_, _]) T.ze71 rfl rfl (fun b142 => ?_)
      refine A_leftw hs141 (Imm.le_refl _) (sub_drop 4 rfl) ?_
      refine A_one (i := 14) (by kernel_rfl) rfl (fun hs143 => ?_)
      ·refine S_storeb 1 (l' := [_, _]) rfl rfl rfl T.sz71 rfl rfl rfl rfl ?_
       refine A_leftw hs143 (Imm.le_refl _) (sub_drop 4 rfl) ?_
       refine A_one (i := 15) (by kernel_rfl) rfl (fun hs144 => ?_)
       ·refine S_storeb 0 (l' := [_, _]) rfl rfl rfl T.sz71 rfl rfl rfl rfl ?_
        refine A_leftw hs144 (Imm.le_refl _) (sub_drop 4 rfl) ?_
        refine A_one (i := 16) (by kernel_rfl) rfl (fun hs145 => ?_)
        ·refine S_storeb 3 (l' := [_, _]) rfl rfl rfl T.sz71 rfl rfl rfl rfl ?_
         refine A_leftw hs145 (Imm.le_refl _) (sub_drop 4 rfl) ?_
         refine A_one (i := 17) (by kernel_rfl) rfl (fun hs146 => ?_)
         ·refine S_storeb 2 (l' := [_, _]) rfl rfl rfl T.sz71 rfl rfl rfl rfl ?_
          refine A_leftw hs146 (Imm.le_refl _) (sub_drop 4 rfl) ?_
          refine A_end (by kernel_rfl) ?_
          refine NX_cut ((b140, b142, b104, b138)) (trivial) [1, 2, 3, 4, 5, 6, 7] rfl (perm_take 1 rfl (perm_take 0 rfl (perm_take 1 rfl (perm_take 0 rfl (perm_take 0 rfl (List.Perm.refl _)))))) rfl
    ·refine S_alloc (l := [_, _]) T.ze71 rfl rfl (fun b147 => ?_)
     refine A_leftw hs139 (Imm.le_refl _) (sub_drop 3 rfl) ?_
     refine A_one (i := 10) (by kernel_rfl) rfl (fun hs148 => ?_)
     ·refine S_alloc (l := [_, _]) T.ze71 rfl rfl (fun b149 => ?_)
      refine A_leftw hs148 (Imm.le_refl _) (sub_drop 4 rfl) ?_
      refine A_one (i := 14) (by kernel_rfl) rfl (fun hs150 => ?_)
      ·refine S_storeb 0 (l' := [_, _]) rfl rfl rfl T.sz71 rfl rfl rfl rfl ?_
       refine A_leftw hs150 (Imm.le_refl _) (sub_drop 4 rfl) ?_
       refine A_one (i := 15) (by kernel_rfl) rfl (fun hs151 => ?_)
       ·refine S_storeb 1 (l' := [_, _]) rfl rfl rfl T.sz71 rfl rfl rfl rfl ?_
        refine A_leftw hs151 (Imm.le_refl _) (sub_drop 4 rfl) ?_
        refine A_one (i := 16) (by kernel_rfl) rfl (fun hs152 => ?_)
        ·refine S_storeb 3 (l' := [_, _]) rfl rfl rfl T.sz71 rfl rfl rfl rfl ?_
         refine A_leftw hs152 (Imm.le_refl _) (sub_drop 4 rfl) ?_
         refine A_one (i := 17) (by kernel_rfl) rfl (fun hs153 => ?_)
         ·refine S_storeb 2 (l' := [_, _]) rfl rfl rfl T.sz71 rfl rfl rfl rfl ?_
          refine A_leftw hs153 (Imm.le_refl _) (sub_drop 4 rfl) ?_
          refine A_end (by kernel_rfl) ?_
          refine NX_cut ((b149, b147, b104, b138)) (trivial) [1, 2, 3, 4, 5, 6, 7] rfl (perm_take 0 rfl (perm_take 0 rfl (perm_take 1 rfl (perm_take 0 rfl (perm_take 0 rfl (List.Perm.refl _)))))) rfl
  ·refine S_alloc (l := [_, _]) T.ze71 rfl rfl (fun b154 => ?_)
   refine A_leftw hs3 (Imm.le_refl _) (sub_drop 1 rfl) ?_
   refine A_three (i := 10) (j := 11) (k := 12) (by kernel_rfl) rfl rfl rfl (fun hs155 => ?_) (fun hs155 => ?_) (fun hs155 => ?_)
   ·refine S_alloc (l := [_, _]) T.ze71 rfl rfl (fun b156 => ?_)
    refine A_leftw hs155 (Imm.le_refl _) (sub_drop 2 rfl) ?_
    refine A_two (i := 11) (j := 12) (by kernel_rfl) rfl rfl (fun hs157 => ?_) (fun hs157 => ?_)
    ·refine S_alloc (l := [_, _]) T.ze71 rfl rfl (fun b158 => ?_)
     refine A_leftw hs157 (Imm.le_refl _) (sub_drop 3 rfl) ?_
     refine A_one (i := 12) (by kernel_rfl) rfl (fun hs159 => ?_)
     ·refine S_alloc (l := [_, _]) T.ze71 rfl rfl (fun b160 => ?_)
      refine A_leftw hs159 (Imm.le_refl _) (sub_drop 4 rfl) ?_
      refine A_one (i := 14) (by kernel_rfl) rfl (fun hs161 => ?_)
      ·refine S_storeb 2 (l' := [_, _]) rfl rfl rfl T.sz71 rfl rfl rfl rfl ?_
       refine A_leftw hs161 (Imm.le_refl _) (sub_drop 4 rfl) ?_
       refine A_one (i := 15) (by kernel_rfl) rfl (fun hs162 => ?_)
       ·refine S_storeb 1 (l' := [_, _]) rfl rfl rfl T.sz71 rfl rfl rfl rfl ?_
        refine A_leftw hs162 (Imm.le_refl _) (sub_drop 4 rfl) ?_
        refine A_one (i := 16) (by kernel_rfl) rfl (fun hs163 => ?_)
        ·refine S_storeb 0 (l' := [_, _]) rfl rfl rfl T.sz71 rfl rfl rfl rfl ?_
         refine A_leftw hs163 (Imm.le_refl _) (sub_drop 4 rfl) ?_
         refine A_one (i := 17) (by kernel_rfl) rfl (fun hs164 => ?_)
         ·refine S_storeb 3 (l' := [_, _]) rfl rfl rfl T.sz71 rfl rfl rfl rfl ?_
          refine A_leftw hs164 (Imm.le_refl _) (sub_drop 4 rfl) ?_
          refine A_end (by kernel_rfl) ?_
          refine NX_cut ((b156, b158, b160, b154)) (trivial) [1, 2, 3, 4, 5, 6, 7] rfl (perm_take 2 rfl (perm_take 1 rfl (perm_take 0 rfl (perm_take 0 rfl (perm_take 0 rfl (List.Perm.refl _)))))) rfl
    ·refine S_alloc (l := [_, _]) T.ze71 rfl rfl (fun b165 => ?_)
     refine A_leftw hs157 (Imm.le_refl _) (sub_drop 3 rfl) ?_
     refine A_one (i := 11) (by kernel_rfl) rfl (fun hs166 => ?_)
     ·refine S_alloc (l := [_, _]) T.ze71 rfl rfl (fun b167 => ?_)
      refine A_leftw hs166 (Imm.le_refl _) (sub_drop 4 rfl) ?_
      refine A_one (i := 14) (by kernel_rfl) rfl (fun hs168 => ?_)
      ·refine S_storeb 2 (l' := [_, _]) rfl rfl rfl T.sz71 rfl rfl rfl rfl ?_
       refine A_leftw hs168 (Imm.le_refl _) (sub_drop 4 rfl) ?_
       refine A_one (i := 15) (by kernel_rfl) rfl (fun hs169 => ?_)
       ·refine S_storeb 0 (l' := [_, _]) rfl rfl rfl T.sz71 rfl rfl rfl rfl ?_
        refine A_leftw hs169 (Imm.le_refl _) (sub_drop 4 rfl) ?_
        refine A_one (i := 16) (by kernel_rfl) rfl (fun hs170 => ?_)
        ·refine S_storeb 1 (l' := [_, _]) rfl rfl rfl T.sz71 rfl rfl rfl rfl ?_
         refine A_leftw hs170 (Imm.le_refl _) (sub_drop 4 rfl) ?_
         refine A_one (i := 17) (by kernel_rfl) rfl (fun hs171 => ?_)
         ·refine S_storeb 3 (l' := [_, _]) rfl rfl rfl T.sz71 rfl rfl rfl rfl ?_
          refine A_leftw hs171 (Imm.le_refl _) (sub_drop 4 rfl) ?_
          refine A_end (by kernel_rfl) ?_
          refine NX_cut ((b156, b167, b165, b154)) (trivial) [1, 2, 3, 4, 5, 6, 7] rfl (perm_take 2 rfl (perm_take 0 rfl (perm_take 0 rfl (perm_take 0 rfl (perm_take 0 rfl (List.Perm.refl _)))))) rfl
   ·refine S_alloc (l := [_, _]) T.ze71 rfl rfl (fun b172 => ?_)
    refine A_leftw hs155 (Imm.le_refl _) (sub_drop 2 rfl) ?_
    refine A_two (i := 10) (j := 12) (by kernel_rfl) rfl rfl (fun hs173 => ?_) (fun hs173 => ?_)
    ·refine S_alloc (l := [_, _]) T.ze71 rfl rfl (fun b174 => ?_)
     refine A_leftw hs173 (Imm.le_refl _) (sub_drop 3 rfl) ?_
     refine A_one (i := 12) (by kernel_rfl) rfl (fun hs175 => ?_)
     ·refine S_alloc (l := [_, _]) T.ze71 rfl rfl (fun b176 => ?_)
      refine A_leftw hs175 (Imm.le_refl _) (sub_drop 4 rfl) ?_
      refine A_one (i := 14) (by kernel_rfl) rfl (fun hs177 => ?_)
      ·refine S_storeb 1 (l' := [_, _]) rfl rfl rfl T.sz71 rfl rfl rfl rfl ?_
       refine A_leftw hs177 (Imm.le_refl _) (sub_drop 4 rfl) ?_
       refine A_one (i := 15) (by kernel_rfl) rfl (fun hs178 => ?_)
       ·refine S_storeb 2 (l' := [_, _]) rfl rfl rfl T.sz71 rfl rfl rfl rfl ?_
        refine A_leftw hs178 (Imm.le_refl _) (sub_drop 4 rfl) ?_
        refine A_one (i := 16) (by kernel_rfl) rfl (fun hs179 => ?_)
        ·refine S_storeb 0 (l' := [_, _]) rfl rfl rfl T.sz71 rfl rfl rfl rfl ?_
         refine A_leftw hs179 (Imm.le_refl _) (sub_drop 4 rfl) ?_
         refine A_one (i := 17) (by kernel_rfl) rfl (fun hs180 => ?_)
         ·refine S_storeb 3 (l' := [_, _]) rfl rfl rfl T.sz71 rfl rfl rfl rfl ?_
          refine A_leftw hs180 (Imm.le_refl _) (sub_drop 4 rfl) ?_
          refine A_end (by kernel_rfl) ?_
          refine NX_cut ((b174, b172, b176, b154)) (trivial) [1, 2, 3, 4, 5, 6, 7] rfl (perm_take 1 rfl (perm_take 1 rfl (perm_take 0 rfl (perm_take 0 rfl (perm_take 0 rfl (List.Perm.refl _)))))) rfl
    ·refine S_alloc (l := [_, _]) T.ze71 rfl rfl (fun b181 => ?_)
     refine A_leftw hs173 (Imm.le_refl _) (sub_drop 3 rfl) ?_
     refine A_one (i := 10) (by kernel_rfl) rfl (fun hs182 => ?_)
     ·refine S_alloc (l := [_, _]) T.ze71 rfl rfl (fun b183 => ?_)
      refine A_leftw hs182 (Imm.le_refl _) (sub_drop 4 rfl) ?_
      refine A_one (i := 14) (by kernel_rfl) rfl (fun hs184 => ?_)
      ·refine S_storeb 0 (l' := [_, _]) rfl rfl rfl T.sz71 rfl rfl rfl rfl ?_
       refine A_leftw hs184 (Imm.le_refl _) (sub_drop 4 rfl) ?_
       refine A_one (i := 15) (by kernel_rfl) rfl (fun hs185 => ?_)
       ·refine S_storeb 2 (l' := [_, _]) rfl rfl rfl T.sz71 rfl rfl rfl rfl ?_
        refine A_leftw hs185 (Imm.le_refl _) (sub_drop 4 rfl) ?_
        refine A_one (i := 16) (by kernel_rfl) rfl (fun hs186 => ?_)
        ·refine S_storeb 1 (l' := [_, _]) rfl rfl rfl T.sz71 rfl rfl rfl rfl ?_
         refine A_leftw hs186 (Imm.le_refl _) (sub_drop 4 rfl) ?_
         refine A_one (i := 17) (by kernel_rfl) rfl (fun hs187 => ?_)
         ·refine S_storeb 3 (l' := [_, _]) rfl rfl rfl T.sz71 rfl rfl rfl rfl ?_
          refine A_leftw hs187 (Imm.le_refl _) (sub_drop 4 rfl) ?_
          refine A_end (by kernel_rfl) ?_
          refine NX_cut ((b183, b172, b181, b154)) (trivial) [1, 2, 3, 4, 5, 6, 7] rfl (perm_take 0 rfl (perm_take 1 rfl (perm_take 0 rfl (perm_take 0 rfl (perm_take 0 rfl (List.Perm.refl _)))))) rfl
   ·refine S_alloc (l := [_, _]) T.ze71 rfl rfl (fun b188 => ?_)
    refine A_leftw hs155 (Imm.le_refl _) (sub_drop 2 rfl) ?_
    refine A_two (i := 10) (j := 11) (by kernel_rfl) rfl rfl (fun hs189 => ?_) (fun hs189 => ?_)
    ·refine S_alloc (l := [_, _]) T.ze71 rfl rfl (fun b190 => ?_)
     refine A_leftw hs189 (Imm.le_refl _) (sub_drop 3 rfl) ?_
     refine A_one (i := 11) (by kernel_rfl) rfl (fun hs191 => ?_)
     ·refine S_alloc (l := [_, _]) T.ze71 rfl rfl (fun b192 => ?_)
      refine A_leftw hs191 (Imm.le_refl _) (sub_drop 4 rfl) ?_
      refine A_one (i := 14) (by kernel_rfl) rfl (fun hs193 => ?_)
      ·refine S_storeb 1 (l' := [_, _]) rfl rfl rfl T.sz71 rfl rfl rfl rfl ?_
       refine A_leftw hs193 (Imm.le_refl _) (sub_drop 4 rfl) ?_
       refine A_one (i := 15) (by kernel_rfl) rfl (fun hs194 => ?_)
       ·refine S_storeb 0 (l' := [_, _]) rfl rfl rfl T.sz71 rfl rfl rfl rfl ?_
        refine A_leftw hs194 (Imm.le_refl _) (sub_drop 4 rfl) ?_
        refine A_one (i := 16) (by kernel_rfl) rfl (fun hs195 => ?_)
        ·refine S_storeb 2 (l' := [_, _]) rfl rfl rfl T.sz71 rfl rfl rfl rfl ?_
         refine A_leftw hs195 (Imm.le_refl _) (sub_drop 4 rfl) ?_
         refine A_one (i := 17) (by kernel_rfl) rfl (fun hs196 => ?_)
         ·refine S_storeb 3 (l' := [_, _]) rfl rfl rfl T.sz71 rfl rfl rfl rfl ?_
          refine A_leftw hs196 (Imm.le_refl _) (sub_drop 4 rfl) ?_
          refine A_end (by kernel_rfl) ?_
          refine NX_cut ((b190, b192, b188, b154)) (trivial) [1, 2, 3, 4, 5, 6, 7] rfl (perm_take 1 rfl (perm_take 0 rfl (perm_take 0 rfl (perm_take 0 rfl (perm_take 0 rfl (List.Perm.refl _)))))) rfl
    ·refine S_alloc (l := [_, _]) T.ze71 rfl rfl (fun b197 => ?_)
     refine A_leftw hs189 (Imm.le_refl _) (sub_drop 3 rfl) ?_
     refine A_one (i := 10) (by kernel_rfl) rfl (fun hs198 => ?_)
     ·refine S_alloc (l := [_, _]) T.ze71 rfl rfl (fun b199 => ?_)
      refine A_leftw hs198 (Imm.le_refl _) (sub_drop 4 rfl) ?_
      refine A_one (i := 14) (by kernel_rfl) rfl (fun hs200 => ?_)
      ·refine S_storeb 0 (l' := [_, _]) rfl rfl rfl T.sz71 rfl rfl rfl rfl ?_
       refine A_leftw hs200 (Imm.le_refl _) (sub_drop 4 rfl) ?_
       refine A_one (i := 15) (by kernel_rfl) rfl (fun hs201 => ?_)
       ·refine S_storeb 1 (l' := [_, _]) rfl rfl rfl T.sz71 rfl rfl rfl rfl ?_
        refine A_leftw hs201 (Imm.le_refl _) (sub_drop 4 rfl) ?_
        refine A_one (i := 16) (by kernel_rfl) rfl (fun hs202 => ?_)
        ·refine S_storeb 2 (l' := [_, _]) rfl rfl rfl T.sz71 rfl rfl rfl rfl ?_
         refine A_leftw hs202 (Imm.le_refl _) (sub_drop 4 rfl) ?_
         refine A_one (i := 17) (by kernel_rfl) rfl (fun hs203 => ?_)
         ·refine S_storeb 3 (l' := [_, _]) rfl rfl rfl T.sz71 rfl rfl rfl rfl ?_
          refine A_leftw hs203 (Imm.le_refl _) (sub_drop 4 rfl) ?_
          refine A_end (by kernel_rfl) ?_
          refine NX_cut ((b199, b197, b188, b154)) (trivial) [1, 2, 3, 4, 5, 6, 7] rfl (perm_take 0 rfl (perm_take 0 rfl (perm_take 0 rfl (perm_take 0 rfl (perm_take 0 rfl (List.Perm.refl _)))))) rfl
 ·refine CW_seq ?_
  refine C_drawn [(0, true), (1, true), (2, true), (3, true), (4, true), (5, true), (6, true), (7, true)] (by kernel_rfl) rfl (by kernel_rfl) (by kernel_rfl) ?_
  refine D_q rfl (r_fieldb (o' := 2) rfl T.fo51_2 rfl) rfl ?_
  refine D_q rfl (r_loadb 4 rfl T.ag3 rfl rfl) rfl ?_
  refine D_q rfl (r_bin rfl rfl (bin_eql _ _ _ _)) rfl ?_
  refine D_q rfl (r_fieldb (o' := 1) rfl T.fo51_1 rfl) rfl ?_
  refine D_q rfl (r_loadb 4 rfl T.ag3 rfl rfl) rfl ?_
  refine D_q rfl (r_bin rfl rfl (bin_geq _ _ _ _)) rfl ?_
  refine D_q rfl (r_assign rfl) rfl ?_
  refine D_q rfl (r_assign rfl) rfl ?_
  refine D_end ?_
  refine NX_as (L' := [(1, _), (2, _), (3, _), (4, _), (5, _), (6, _), (7, _), (8, _), (9, _)]) [1, 2, 3, 4, 5, 6, 7, 8, 9] rfl ?_
  refine CW_seq ?_
  refine CW_seq ?_
  refine CW_region ?_
  refine W_q (r_fieldb (o' := 0) rfl T.fo51_0 rfl) rfl ?_
  refine W_q (r_loadb 4 rfl T.ag3 rfl rfl) rfl ?_
  refine W_nil ?_
  refine NX_as (L' := [(1, _), (2, _), (3, _), (4, _), (5, _), (6, _), (7, _), (8, _), (9, _), (27, _)]) [1, 2, 3, 4, 5, 6, 7, 8, 9, 27] rfl ?_
  refine CW_block ?_
  refine CW_seq ?_
  refine CW_region ?_
  refine W_q (r_bin rfl rfl (bin_eql _ _ _ _)) rfl ?_
  refine W_q (r_assign rfl) rfl ?_
  refine W_nil ?_
  refine NX_as (L' := [(1, _), (2, _), (3, _), (4, _), (5, _), (6, _), (7, _), (8, _), (9, _), (27, _), (28, _)]) [1, 2, 3, 4, 5, 6, 7, 8, 9, 27, 28] rfl ?_
  refine CW_condk rfl (fun h204 => ?_) (fun h204 => ?_)
  ·(try simp only [tA, tB, tC, tD, tE, tF, tG, tH, tI, tJ, tK, tL] at h204)
   refine CW_seq ?_
   refine C_drawn [(0, true), (1, true), (2, true), (3, true), (4, true), (5, true), (6, true), (7, true), (8, true), (9, true)] (by kernel_rfl) rfl (by kernel_rfl) (by kernel_rfl) ?_
   refine D_q rfl (r_fieldb (o' := 5) rfl T.fo51_5 rfl) rfl ?_
   refine D_q rfl (r_loadb 4 rfl T.ag49 rfl rfl) rfl ?_
   refine D_q rfl (r_fieldb (o' := 1) rfl T.fo51_1 rfl) rfl ?_
   refine D_q rfl (r_loadb 4 rfl T.ag3 rfl rfl) rfl ?_
   refine D_quiet rfl (Cut_q _ _ (by assumption)) T.hb213 rfl rfl ?_
   refine D_q rfl (r_fieldb (o' := 5) rfl T.fo51_5 rfl) rfl ?_
   refine D_q rfl (r_loadb 4 rfl T.ag49 rfl rfl) rfl ?_
   refine D_q rfl (r_bin rfl rfl (bin_eql _ _ _ _)) rfl ?_
   refine D_q rfl (r_assign rfl) rfl ?_
   refine D_q rfl (r_assign rfl) rfl ?_
   refine D_end ?_
   refine NX_as (L' := [(2, _), (3, _)]) [2, 3] rfl ?_
   refine C_ret (RX_block (RX_then (RX_g2 rfl rfl rfl (takesΦ_mk (Sl.nil _ _ _) ?_))))
   simp [takesP, scalarKs, *]
  ·(try simp only [tA, tB, tC, tD, tE, tF, tG, tH, tI, tJ, tK, tL] at h204)
   refine CW_seq ?_
   refine CW_seq ?_
   refine CW_region ?_
   refine W_q (r_bin rfl rfl (bin_eql _ _ _ _)) rfl ?_
   refine W_q (r_assign rfl) rfl ?_
   refine W_nil ?_
   refine NX_as (L' := [(1, _), (2, _), (3, _), (4, _), (5, _), (6, _), (7, _), (8, _), (9, _), (27, _), (38, _)]) [1, 2, 3, 4, 5, 6, 7, 8, 9, 27, 38] rfl ?_
   refine CW_condk rfl (fun h205 => ?_) (fun h205 => ?_)
   ·(try simp only [tA, tB, tC, tD, tE, tF, tG, tH, tI, tJ, tK, tL] at h205)
    refine C_skip ?_
    refine NX_as (L' := [(1, _), (2, _), (3, _), (4, _), (5, _), (6, _), (7, _), (8, _), (9, _), (27, _), (38, _)]) [1, 2, 3, 4, 5, 6, 7, 8, 9, 27, 38] rfl ?_
    refine CW_cond_t rfl ?_
    refine CW_seq ?_
    refine C_drawn [(0, true), (1, true), (4, true), (5, true), (6, true), (2, false), (3, true), (7, true), (8, true)] (by kernel_rfl) rfl (by kernel_rfl) (by kernel_rfl) ?_
    refine D_q rfl (r_loadbk 0 (vs := [_, _]) rfl T.ag71 T.sz71 rfl rfl rfl) rfl ?_
    refine D_q rfl (r_loadbk 0 (vs := [_, _]) rfl T.ag71 T.sz71 rfl rfl rfl) rfl ?_
    refine D_q rfl (r_fieldb (o' := 5) rfl T.fo51_5 rfl) rfl ?_
    refine D_q rfl (r_loadb 4 rfl T.ag49 rfl rfl) rfl ?_
    refine D_q rfl (r_bin rfl rfl (bin_eql _ _ _ _)) rfl ?_
    refine D_f rfl (fun hs206 hc206 => ?_)
    refine S_lit (vs := [_, _]) (cs := [_, _, _, _]) Tryz.underlying113 T.sz71 T.ze71 rfl rfl rfl rfl rfl rfl (fun m207 ad207 le207 l207 => ?_)
    replace hO := rOp_mono _ _ _ _ le207 hO
    replace h90 := h90.mono rI_mono le207
    have h207 : Sl rPair 2 m207 (some ad207) 2 _ := Pairs_lit [(_, _), (_, _)] l207 (pairs_cons (by first | assumption | exact ⟨by omega, by omega⟩) (by first | assumption | exact ⟨by omega, by omega⟩) (pairs_cons (by first | assumption | exact ⟨by omega, by omega⟩) (by first | assumption | exact ⟨by omega, by omega⟩) pairs_nil))
    refine W_leftw hs206 hc206 (le207) (List.Sublist.refl _) ?_
    refine D_quiet rfl (kindrow_q _) T.hb214 rfl rfl ?_
    refine D_q rfl (r_assign rfl) rfl ?_
    refine D_q rfl (r_assign rfl) rfl ?_
    refine D_end ?_
    refine NX_as (L' := [(2, _), (3, _)]) [2, 3] rfl ?_
    refine C_ret (RX_block (RX_then (RX_g2 rfl rfl rfl (takesΦ_mk (h207) ?_))))
    simp [takesP, scalarKs, *]
   ·(try simp only [tA, tB, tC, tD, tE, tF, tG, tH, tI, tJ, tK, tL] at h205)
    refine CW_seq ?_
    refine CW_region ?_
    refine W_q (r_bin rfl rfl (bin_eql _ _ _ _)) rfl ?_
    refine W_q (r_assign rfl) rfl ?_
    refine W_nil ?_
    refine NX_as (L' := [(1, _), (2, _), (3, _), (4, _), (5, _), (6, _), (7, _), (8, _), (9, _), (27, _), (38, _)]) [1, 2, 3, 4, 5, 6, 7, 8, 9, 27, 38] rfl ?_
    refine CW_condk rfl (fun h208 => ?_) (fun h208 => ?_)
    ·(try simp only [tA, tB, tC, tD, tE, tF, tG, tH, tI, tJ, tK, tL] at h208)
     refine C_skip ?_
     refine NX_as (L' := [(1, _), (2, _), (3, _), (4, _), (5, _), (6, _), (7, _), (8, _), (9, _), (27, _), (38, _)]) [1, 2, 3, 4, 5, 6, 7, 8, 9, 27, 38] rfl ?_
     refine CW_cond_t rfl ?_
     refine CW_seq ?_
     refine C_drawn [(0, true), (1, true), (4, true), (5, true), (6, true), (2, false), (3, true), (7, true), (8, true)] (by kernel_rfl) rfl (by kernel_rfl) (by kernel_rfl) ?_
     refine D_q rfl (r_loadbk 0 (vs := [_, _]) rfl T.ag71 T.sz71 rfl rfl rfl) rfl ?_
     refine D_q rfl (r_loadbk 0 (vs := [_, _]) rfl T.ag71 T.sz71 rfl rfl rfl) rfl ?_
     refine D_q rfl (r_fieldb (o' := 5) rfl T.fo51_5 rfl) rfl ?_
     refine D_q rfl (r_loadb 4 rfl T.ag49 rfl rfl) rfl ?_
     refine D_q rfl (r_bin rfl rfl (bin_eql _ _ _ _)) rfl ?_
     refine D_f rfl (fun hs209 hc209 => ?_)
     refine S_lit (vs := [_, _]) (cs := [_, _, _, _]) Tryz.underlying113 T.sz71 T.ze71 rfl rfl rfl rfl rfl rfl (fun m210 ad210 le210 l210 => ?_)
     replace hO := rOp_mono _ _ _ _ le210 hO
     replace h90 := h90.mono rI_mono le210
     have h210 : Sl rPair 2 m210 (some ad210) 2 _ := Pairs_lit [(_, _), (_, _)] l210 (pairs_cons (by first | assumption | exact ⟨by omega, by omega⟩) (by first | assumption | exact ⟨by omega, by omega⟩) (pairs_cons (by first | assumption | exact ⟨by omega, by omega⟩) (by first | assumption | exact ⟨by omega, by omega⟩) pairs_nil))
     refine W_leftw hs209 hc209 (le210) (List.Sublist.refl _) ?_
     refine D_quiet rfl (kindrow_q _) T.hb214 rfl rfl ?_
     refine D_q rfl (r_assign rfl) rfl ?_
     refine D_q rfl (r_assign rfl) rfl ?_
     refine D_end ?_
     refine NX_as (L' := [(2, _), (3, _)]) [2, 3] rfl ?_
     refine C_ret (RX_block (RX_then (RX_g2 rfl rfl rfl (takesΦ_mk (h210) ?_))))
     simp [takesP, scalarKs, *]
    ·(try simp only [tA, tB, tC, tD, tE, tF, tG, tH, tI, tJ, tK, tL] at h208)
     refine CW_seq ?_
     refine CW_region ?_
     refine W_q (r_bin rfl rfl (bin_eql _ _ _ _)) rfl ?_
     refine W_q (r_assign rfl) rfl ?_
     refine W_nil ?_
     refine NX_as (L' := [(1, _), (2, _), (3, _), (4, _), (5, _), (6, _), (7, _), (8, _), (9, _), (27, _), (38, _)]) [1, 2, 3, 4, 5, 6, 7, 8, 9, 27, 38] rfl ?_
     refine CW_condk rfl (fun h211 => ?_) (fun h211 => ?_)
     ·(try simp only [tA, tB, tC, tD, tE, tF, tG, tH, tI, tJ, tK, tL] at h211)
      refine C_skip ?_
      refine NX_as (L' := [(1, _), (2, _), (3, _), (4, _), (5, _), (6, _), (7, _), (8, _), (9, _), (27, _), (38, _)]) [1, 2, 3, 4, 5, 6, 7, 8, 9, 27, 38] rfl ?_
      refine CW_cond_t rfl ?_
      refine CW_seq ?_
      refine C_drawn [(0, true), (1, true), (4, true), (5, true), (6, true), (2, false), (3, true), (7, true), (8, true)] (by kernel_rfl) rfl (by kernel_rfl) (by kernel_rfl) ?_
      refine D_q rfl (r_loadbk 0 (vs := [_, _]) rfl T.ag71 T.sz71 rfl rfl rfl) rfl ?_
      refine D_q rfl (r_loadbk 0 (vs := [_, _]) rfl T.ag71 T.sz71 rfl rfl rfl) rfl ?_
      refine D_q rfl (r_fieldb (o' := 5) rfl T.fo51_5 rfl) rfl ?_
      refine D_q rfl (r_loadb 4 rfl T.ag49 rfl rfl) rfl ?_
      refine D_q rfl (r_bin rfl rfl (bin_eql _ _ _ _)) rfl ?_
      refine D_f rfl (fun hs212 hc212 => ?_)
      refine S_lit (vs := [_, _]) (cs := [_, _, _, _]) Tryz.underlying113 T.sz71 T.ze71 rfl rfl rfl rfl rfl rfl (fun m213 ad213 le213 l213 => ?_)
      replace hO := rOp_mono _ _ _ _ le213 hO
      replace h90 := h90.mono rI_mono le213
      have h213 : Sl rPair 2 m213 (some ad213) 2 _ := Pairs_lit [(_, _), (_, _)] l213 (pairs_cons (by first | assumption | exact ⟨by omega, by omega⟩) (by first | assumption | exact ⟨by omega, by omega⟩) (pairs_cons (by first | assumption | exact ⟨by omega, by omega⟩) (by first | assumption | exact ⟨by omega, by omega⟩) pairs_nil))
      refine W_leftw hs212 hc212 (le213) (List.Sublist.refl _) ?_
      refine D_quiet rfl (kindrow_q _) T.hb214 rfl rfl ?_
      refine D_q rfl (r_assign rfl) rfl ?_
      refine D_q rfl (r_assign rfl) rfl ?_
      refine D_end ?_
      refine NX_as (L' := [(2, _), (3, _)]) [2, 3] rfl ?_
      refine C_ret (RX_block (RX_then (RX_g2 rfl rfl rfl (takesΦ_mk (h213) ?_))))
      simp [takesP, scalarKs, *]
     ·(try simp only [tA, tB, tC, tD, tE, tF, tG, tH, tI, tJ, tK, tL] at h211)
      refine CW_seq ?_
      refine CW_region ?_
      refine W_q (r_bin rfl rfl (bin_eql _ _ _ _)) rfl ?_
      refine W_q (r_assign rfl) rfl ?_
      refine W_nil ?_
      refine NX_as (L' := [(1, _), (2, _), (3, _), (4, _), (5, _), (6, _), (7, _), (8, _), (9, _), (27, _), (38, _)]) [1, 2, 3, 4, 5, 6, 7, 8, 9, 27, 38] rfl ?_
      refine CW_condk rfl (fun h214 => ?_) (fun h214 => ?_)
      ·(try simp only [tA, tB, tC, tD, tE, tF, tG, tH, tI, tJ, tK, tL] at h214)
       refine C_skip ?_
       refine NX_as (L' := [(1, _), (2, _), (3, _), (4, _), (5, _), (6, _), (7, _), (8, _), (9, _), (27, _), (38, _)]) [1, 2, 3, 4, 5, 6, 7, 8, 9, 27, 38] rfl ?_
       refine CW_cond_t rfl ?_
       refine CW_seq ?_
       refine C_drawn [(0, true), (1, true), (4, true), (5, true), (6, true), (2, false), (3, true), (7, true), (8, true)] (by kernel_rfl) rfl (by kernel_rfl) (by kernel_rfl) ?_
       refine D_q rfl (r_loadbk 0 (vs := [_, _]) rfl T.ag71 T.sz71 rfl rfl rfl) rfl ?_
       refine D_q rfl (r_loadbk 0 (vs := [_, _]) rfl T.ag71 T.sz71 rfl rfl rfl) rfl ?_
       refine D_q rfl (r_fieldb (o' := 5) rfl T.fo51_5 rfl) rfl ?_
       refine D_q rfl (r_loadb 4 rfl T.ag49 rfl rfl) rfl ?_
       refine D_q rfl (r_bin rfl rfl (bin_eql _ _ _ _)) rfl ?_
       refine D_f rfl (fun hs215 hc215 => ?_)
       refine S_lit (vs := [_, _]) (cs := [_, _, _, _]) Tryz.underlying113 T.sz71 T.ze71 rfl rfl rfl rfl rfl rfl (fun m216 ad216 le216 l216 => ?_)
       replace hO := rOp_mono _ _ _ _ le216 hO
       replace h90 := h90.mono rI_mono le216
       have h216 : Sl rPair 2 m216 (some ad216) 2 _ := Pairs_lit [(_, _), (_, _)] l216 (pairs_cons (by first | assumption | exact ⟨by omega, by omega⟩) (by first | assumption | exact ⟨by omega, by omega⟩) (pairs_cons (by first | assumption | exact ⟨by omega, by omega⟩) (by first | assumption | exact ⟨by omega, by omega⟩) pairs_nil))
       refine W_leftw hs215 hc215 (le216) (List.Sublist.refl _) ?_
       refine D_quiet rfl (kindrow_q _) T.hb214 rfl rfl ?_
       refine D_q rfl (r_assign rfl) rfl ?_
       refine D_q rfl (r_assign rfl) rfl ?_
       refine D_end ?_
       refine NX_as (L' := [(2, _), (3, _)]) [2, 3] rfl ?_
       refine C_ret (RX_block (RX_then (RX_g2 rfl rfl rfl (takesΦ_mk (h216) ?_))))
       simp [takesP, scalarKs, *]
      ·(try simp only [tA, tB, tC, tD, tE, tF, tG, tH, tI, tJ, tK, tL] at h214)
       refine CW_seq ?_
       refine CW_region ?_
       refine W_q (r_bin rfl rfl (bin_eql _ _ _ _)) rfl ?_
       refine W_q (r_assign rfl) rfl ?_
       refine W_nil ?_
       refine NX_as (L' := [(1, _), (2, _), (3, _), (4, _), (5, _), (6, _), (7, _), (8, _), (9, _), (27, _), (38, _)]) [1, 2, 3, 4, 5, 6, 7, 8, 9, 27, 38] rfl ?_
       refine CW_condk rfl (fun h217 => ?_) (fun h217 => ?_)
       ·(try simp only [tA, tB, tC, tD, tE, tF, tG, tH, tI, tJ, tK, tL] at h217)
        refine C_skip ?_
        refine NX_as (L' := [(1, _), (2, _), (3, _), (4, _), (5, _), (6, _), (7, _), (8, _), (9, _), (27, _), (38, _)]) [1, 2, 3, 4, 5, 6, 7, 8, 9, 27, 38] rfl ?_
        refine CW_cond_t rfl ?_
        refine CW_seq ?_
        refine C_drawn [(0, true), (1, true), (4, true), (5, true), (6, true), (2, false), (3, true), (7, true), (8, true)] (by kernel_rfl) rfl (by kernel_rfl) (by kernel_rfl) ?_
        refine D_q rfl (r_loadbk 0 (vs := [_, _]) rfl T.ag71 T.sz71 rfl rfl rfl) rfl ?_
        refine D_q rfl (r_loadbk 0 (vs := [_, _]) rfl T.ag71 T.sz71 rfl rfl rfl) rfl ?_
        refine D_q rfl (r_fieldb (o' := 5) rfl T.fo51_5 rfl) rfl ?_
        refine D_q rfl (r_loadb 4 rfl T.ag49 rfl rfl) rfl ?_
        refine D_q rfl (r_bin rfl rfl (bin_eql _ _ _ _)) rfl ?_
        refine D_f rfl (fun hs218 hc218 => ?_)
        refine S_lit (vs := [_, _]) (cs := [_, _, _, _]) Tryz.underlying113 T.sz71 T.ze71 rfl rfl rfl rfl rfl rfl (fun m219 ad219 le219 l219 => ?_)
        replace hO := rOp_mono _ _ _ _ le219 hO
        replace h90 := h90.mono rI_mono le219
        have h219 : Sl rPair 2 m219 (some ad219) 2 _ := Pairs_lit [(_, _), (_, _)] l219 (pairs_cons (by first | assumption | exact ⟨by omega, by omega⟩) (by first | assumption | exact ⟨by omega, by omega⟩) (pairs_cons (by first | assumption | exact ⟨by omega, by omega⟩) (by first | assumption | exact ⟨by omega, by omega⟩) pairs_nil))
        refine W_leftw hs218 hc218 (le219) (List.Sublist.refl _) ?_
        refine D_quiet rfl (kindrow_q _) T.hb214 rfl rfl ?_
        refine D_q rfl (r_assign rfl) rfl ?_
        refine D_q rfl (r_assign rfl) rfl ?_
        refine D_end ?_
        refine NX_as (L' := [(2, _), (3, _)]) [2, 3] rfl ?_
        refine C_ret (RX_block (RX_then (RX_g2 rfl rfl rfl (takesΦ_mk (h219) ?_))))
        simp [takesP, scalarKs, *]
       ·(try simp only [tA, tB, tC, tD, tE, tF, tG, tH, tI, tJ, tK, tL] at h217)
        refine CW_seq ?_
        refine CW_region ?_
        refine W_q (r_bin rfl rfl (bin_eql _ _ _ _)) rfl ?_
        refine W_q (r_assign rfl) rfl ?_
        refine W_nil ?_
        refine NX_as (L' := [(1, _), (2, _), (3, _), (4, _), (5, _), (6, _), (7, _), (8, _), (9, _), (27, _), (38, _)]) [1, 2, 3, 4, 5, 6, 7, 8, 9, 27, 38] rfl ?_
        refine CW_condk rfl (fun h220 => ?_) (fun h220 => ?_)
        ·(try simp only [tA, tB, tC, tD, tE, tF, tG, tH, tI, tJ, tK, tL] at h220)
         refine C_skip ?_
         refine NX_as (L' := [(1, _), (2, _), (3, _), (4, _), (5, _), (6, _), (7, _), (8, _), (9, _), (27, _), (38, _)]) [1, 2, 3, 4, 5, 6, 7, 8, 9, 27, 38] rfl ?_
         refine CW_cond_t rfl ?_
         refine CW_seq ?_
         refine C_drawn [(0, true), (1, true), (4, true), (5, true), (6, true), (2, false), (3, true), (7, true), (8, true)] (by kernel_rfl) rfl (by kernel_rfl) (by kernel_rfl) ?_
         refine D_q rfl (r_loadbk 0 (vs := [_, _]) rfl T.ag71 T.sz71 rfl rfl rfl) rfl ?_
         refine D_q rfl (r_loadbk 0 (vs := [_, _]) rfl T.ag71 T.sz71 rfl rfl rfl) rfl ?_
         refine D_q rfl (r_fieldb (o' := 5) rfl T.fo51_5 rfl) rfl ?_
         refine D_q rfl (r_loadb 4 rfl T.ag49 rfl rfl) rfl ?_
         refine D_q rfl (r_bin rfl rfl (bin_eql _ _ _ _)) rfl ?_
         refine D_f rfl (fun hs221 hc221 => ?_)
         refine S_lit (vs := [_, _]) (cs := [_, _, _, _]) Tryz.underlying113 T.sz71 T.ze71 rfl rfl rfl rfl rfl rfl (fun m222 ad222 le222 l222 => ?_)
         replace hO := rOp_mono _ _ _ _ le222 hO
         replace h90 := h90.mono rI_mono le222
         have h222 : Sl rPair 2 m222 (some ad222) 2 _ := Pairs_lit [(_, _), (_, _)] l222 (pairs_cons (by first | assumption | exact ⟨by omega, by omega⟩) (by first | assumption | exact ⟨by omega, by omega⟩) (pairs_cons (by first | assumption | exact ⟨by omega, by omega⟩) (by first | assumption | exact ⟨by omega, by omega⟩) pairs_nil))
         refine W_leftw hs221 hc221 (le222) (List.Sublist.refl _) ?_
         refine D_quiet rfl (kindrow_q _) T.hb214 rfl rfl ?_
         refine D_q rfl (r_assign rfl) rfl ?_
         refine D_q rfl (r_assign rfl) rfl ?_
         refine D_end ?_
         refine NX_as (L' := [(2, _), (3, _)]) [2, 3] rfl ?_
         refine C_ret (RX_block (RX_then (RX_g2 rfl rfl rfl (takesΦ_mk (h222) ?_))))
         simp [takesP, scalarKs, *]
        ·(try simp only [tA, tB, tC, tD, tE, tF, tG, tH, tI, tJ, tK, tL] at h220)
         refine CW_seq ?_
         refine CW_region ?_
         refine W_q (r_bin rfl rfl (bin_eql _ _ _ _)) rfl ?_
         refine W_q (r_assign rfl) rfl ?_
         refine W_nil ?_
         refine NX_as (L' := [(1, _), (2, _), (3, _), (4, _), (5, _), (6, _), (7, _), (8, _), (9, _), (27, _), (38, _)]) [1, 2, 3, 4, 5, 6, 7, 8, 9, 27, 38] rfl ?_
         refine CW_condk rfl (fun h223 => ?_) (fun h223 => ?_)
         ·(try simp only [tA, tB, tC, tD, tE, tF, tG, tH, tI, tJ, tK, tL] at h223)
          refine C_skip ?_
          refine NX_as (L' := [(1, _), (2, _), (3, _), (4, _), (5, _), (6, _), (7, _), (8, _), (9, _), (27, _), (38, _)]) [1, 2, 3, 4, 5, 6, 7, 8, 9, 27, 38] rfl ?_
          refine CW_cond_t rfl ?_
          refine CW_seq ?_
          refine C_drawn [(0, true), (1, true), (4, true), (5, true), (6, true), (2, false), (3, true), (7, true), (8, true)] (by kernel_rfl) rfl (by kernel_rfl) (by kernel_rfl) ?_
          refine D_q rfl (r_loadbk 0 (vs := [_, _]) rfl T.ag71 T.sz71 rfl rfl rfl) rfl ?_
          refine D_q rfl (r_loadbk 0 (vs := [_, _]) rfl T.ag71 T.sz71 rfl rfl rfl) rfl ?_
          refine D_q rfl (r_fieldb (o' := 5) rfl T.fo51_5 rfl) rfl ?_
          refine D_q rfl (r_loadb 4 rfl T.ag49 rfl rfl) rfl ?_
          refine D_q rfl (r_bin rfl rfl (bin_eql _ _ _ _)) rfl ?_
          refine D_f rfl (fun hs224 hc224 => ?_)
          refine S_lit (vs := [_, _]) (cs := [_, _, _, _]) Tryz.underlying113 T.sz71 T.ze71 rfl rfl rfl rfl rfl rfl (fun m225 ad225 le225 l225 => ?_)
          replace hO := rOp_mono _ _ _ _ le225 hO
          replace h90 := h90.mono rI_mono le225
          have h225 : Sl rPair 2 m225 (some ad225) 2 _ := Pairs_lit [(_, _), (_, _)] l225 (pairs_cons (by first | assumption | exact ⟨by omega, by omega⟩) (by first | assumption | exact ⟨by omega, by omega⟩) (pairs_cons (by first | assumption | exact ⟨by omega, by omega⟩) (by first | assumption | exact ⟨by omega, by omega⟩) pairs_nil))
          refine W_leftw hs224 hc224 (le225) (List.Sublist.refl _) ?_
          refine D_quiet rfl (kindrow_q _) T.hb214 rfl rfl ?_
          refine D_q rfl (r_assign rfl) rfl ?_
          refine D_q rfl (r_assign rfl) rfl ?_
          refine D_end ?_
          refine NX_as (L' := [(2, _), (3, _)]) [2, 3] rfl ?_
          refine C_ret (RX_block (RX_then (RX_g2 rfl rfl rfl (takesΦ_mk (h225) ?_))))
          simp [takesP, scalarKs, *]
         ·(try simp only [tA, tB, tC, tD, tE, tF, tG, tH, tI, tJ, tK, tL] at h223)
          refine CW_region ?_
          refine W_q (r_bin rfl rfl (bin_eql _ _ _ _)) rfl ?_
          refine W_q (r_assign rfl) rfl ?_
          refine W_nil ?_
          refine NX_as (L' := [(1, _), (2, _), (3, _), (4, _), (5, _), (6, _), (7, _), (8, _), (9, _), (27, _), (38, _)]) [1, 2, 3, 4, 5, 6, 7, 8, 9, 27, 38] rfl ?_
          refine CW_condk rfl (fun h226 => ?_) (fun h226 => ?_)
          ·(try simp only [tA, tB, tC, tD, tE, tF, tG, tH, tI, tJ, tK, tL] at h226)
           refine CW_seq ?_
           refine C_drawn [(0, true), (1, true), (4, true), (5, true), (6, true), (2, false), (3, true), (7, true), (8, true)] (by kernel_rfl) rfl (by kernel_rfl) (by kernel_rfl) ?_
           refine D_q rfl (r_loadbk 0 (vs := [_, _]) rfl T.ag71 T.sz71 rfl rfl rfl) rfl ?_
           refine D_q rfl (r_loadbk 0 (vs := [_, _]) rfl T.ag71 T.sz71 rfl rfl rfl) rfl ?_
           refine D_q rfl (r_fieldb (o' := 5) rfl T.fo51_5 rfl) rfl ?_
           refine D_q rfl (r_loadb 4 rfl T.ag49 rfl rfl) rfl ?_
           refine D_q rfl (r_bin rfl rfl (bin_eql _ _ _ _)) rfl ?_
           refine D_f rfl (fun hs227 hc227 => ?_)
           refine S_lit (vs := [_, _]) (cs := [_, _, _, _]) Tryz.underlying113 T.sz71 T.ze71 rfl rfl rfl rfl rfl rfl (fun m228 ad228 le228 l228 => ?_)
           replace hO := rOp_mono _ _ _ _ le228 hO
           replace h90 := h90.mono rI_mono le228
           have h228 : Sl rPair 2 m228 (some ad228) 2 _ := Pairs_lit [(_, _), (_, _)] l228 (pairs_cons (by first | assumption | exact ⟨by omega, by omega⟩) (by first | assumption | exact ⟨by omega, by omega⟩) (pairs_cons (by first | assumption | exact ⟨by omega, by omega⟩) (by first | assumption | exact ⟨by omega, by omega⟩) pairs_nil))
           refine W_leftw hs227 hc227 (le228) (List.Sublist.refl _) ?_
           refine D_quiet rfl (kindrow_q _) T.hb214 rfl rfl ?_
           refine D_q rfl (r_assign rfl) rfl ?_
           refine D_q rfl (r_assign rfl) rfl ?_
           refine D_end ?_
           refine NX_as (L' := [(2, _), (3, _)]) [2, 3] rfl ?_
           refine C_ret (RX_block (RX_then (RX_g2 rfl rfl rfl (takesΦ_mk (h228) ?_))))
           simp [takesP, scalarKs, *]
          ·(try simp only [tA, tB, tC, tD, tE, tF, tG, tH, tI, tJ, tK, tL] at h226)
           refine CW_seq ?_
           refine CW_seq ?_
           refine CW_region ?_
           refine W_q (r_bin rfl rfl (bin_eql _ _ _ _)) rfl ?_
           refine W_q (r_assign rfl) rfl ?_
           refine W_nil ?_
           refine NX_as (L' := [(1, _), (2, _), (3, _), (4, _), (5, _), (6, _), (7, _), (8, _), (9, _), (27, _), (54, _)]) [1, 2, 3, 4, 5, 6, 7, 8, 9, 27, 54] rfl ?_
           refine CW_condk rfl (fun h229 => ?_) (fun h229 => ?_)
           ·(try simp only [tA, tB, tC, tD, tE, tF, tG, tH, tI, tJ, tK, tL] at h229)
            refine C_skip ?_
            refine NX_as (L' := [(1, _), (2, _), (3, _), (4, _), (5, _), (6, _), (7, _), (8, _), (9, _), (27, _), (54, _)]) [1, 2, 3, 4, 5, 6, 7, 8, 9, 27, 54] rfl ?_
            refine CW_cond_t rfl ?_
            refine CW_seq ?_
            refine C_drawn [(0, true), (1, true), (4, true), (5, true), (6, true), (2, false), (3, true), (7, true), (8, true), (9, true), (10, true), (11, true)] (by kernel_rfl) rfl (by kernel_rfl) (by kernel_rfl) ?_
            refine D_q rfl (r_loadbk 0 (vs := [_, _]) rfl T.ag71 T.sz71 rfl rfl rfl) rfl ?_
            refine D_q rfl (r_loadbk 0 (vs := [_, _]) rfl T.ag71 T.sz71 rfl rfl rfl) rfl ?_
            refine D_q rfl (r_fieldb (o' := 5) rfl T.fo51_5 rfl) rfl ?_
            refine D_q rfl (r_loadb 4 rfl T.ag49 rfl rfl) rfl ?_
            refine D_q rfl (r_bin rfl rfl (bin_eql _ _ _ _)) rfl ?_
            refine D_f rfl (fun hs230 hc230 => ?_)
            refine S_lit (vs := [_, _]) (cs := [_, _, _, _]) Tryz.underlying113 T.sz71 T.ze71 rfl rfl rfl rfl rfl rfl (fun m231 ad231 le231 l231 => ?_)
            replace hO := rOp_mono _ _ _ _ le231 hO
            replace h90 := h90.mono rI_mono le231
            have h231 : Sl rPair 2 m231 (some ad231) 2 _ := Pairs_lit [(_, _), (_, _)] l231 (pairs_cons (by first | assumption | exact ⟨by omega, by omega⟩) (by first | assumption | exact ⟨by omega, by omega⟩) (pairs_cons (by first | assumption | exact ⟨by omega, by omega⟩) (by first | assumption | exact ⟨by omega, by omega⟩) pairs_nil))
            refine W_leftw hs230 hc230 (le231) (List.Sublist.refl _) ?_
            refine D_quiet rfl (kindrow_q _) T.hb214 rfl rfl ?_
            refine D_q rfl (r_move rfl) rfl ?_
            refine D_split (t := 66) rfl (fun h232 => ?_) (fun h232 => ?_)
            ·(try simp only [tA, tB, tC, tD, tE, tF, tG, tH, tI, tJ, tK, tL] at h232)
             refine D_qt rfl rfl rfl (r_move rfl) rfl ?_
             refine D_q rfl (r_pick_t rfl rfl) rfl ?_
             refine D_q rfl (r_assign rfl) rfl ?_
             refine D_q rfl (r_assign rfl) rfl ?_
             refine D_end ?_
             refine NX_as (L' := [(2, _), (3, _)]) [2, 3] rfl ?_
             refine C_ret (RX_block (RX_then (RX_g2 rfl rfl rfl (takesΦ_mk (h231) ?_))))
             simp [takesP, scalarKs, *]
            ·(try simp only [tA, tB, tC, tD, tE, tF, tG, tH, tI, tJ, tK, tL] at h232)
             refine D_pass rfl rfl rfl rfl rfl ?_
             refine D_q rfl (r_pick_f rfl rfl) rfl ?_
             refine D_q rfl (r_assign rfl) rfl ?_
             refine D_q rfl (r_assign rfl) rfl ?_
             refine D_end ?_
             refine NX_as (L' := [(2, _), (3, _)]) [2, 3] rfl ?_
             refine C_ret (RX_block (RX_then (RX_g2 rfl rfl rfl (takesΦ_mk (h231) ?_))))
             simp [takesP, scalarKs, *]
           ·(try simp only [tA, tB, tC, tD, tE, tF, tG, tH, tI, tJ, tK, tL] at h229)
            refine CW_seq ?_
            refine CW_region ?_
            refine W_q (r_bin rfl rfl (bin_eql _ _ _ _)) rfl ?_
            refine W_q (r_assign rfl) rfl ?_
            refine W_nil ?_
            refine NX_as (L' := [(1, _), (2, _), (3, _), (4, _), (5, _), (6, _), (7, _), (8, _), (9, _), (27, _), (54, _)]) [1, 2, 3, 4, 5, 6, 7, 8, 9, 27, 54] rfl ?_
            refine CW_condk rfl (fun h233 => ?_) (fun h233 => ?_)
            ·(try simp only [tA, tB, tC, tD, tE, tF, tG, tH, tI, tJ, tK, tL] at h233)
             refine C_skip ?_
             refine NX_as (L' := [(1, _), (2, _), (3, _), (4, _), (5, _), (6, _), (7, _), (8, _), (9, _), (27, _), (54, _)]) [1, 2, 3, 4, 5, 6, 7, 8, 9, 27, 54] rfl ?_
             refine CW_cond_t rfl ?_
             refine CW_seq ?_
             refine C_drawn [(0, true), (1, true), (4, true), (5, true), (6, true), (2, false), (3, true), (7, true), (8, true), (9, true), (10, true), (11, true)] (by kernel_rfl) rfl (by kernel_rfl) (by kernel_rfl) ?_
             refine D_q rfl (r_loadbk 0 (vs := [_, _]) rfl T.ag71 T.sz71 rfl rfl rfl) rfl ?_
             refine D_q rfl (r_loadbk 0 (vs := [_, _]) rfl T.ag71 T.sz71 rfl rfl rfl) rfl ?_
             refine D_q rfl (r_fieldb (o' := 5) rfl T.fo51_5 rfl) rfl ?_
             refine D_q rfl (r_loadb 4 rfl T.ag49 rfl rfl) rfl ?_
             refine D_q rfl (r_bin rfl rfl (bin_eql _ _ _ _)) rfl ?_
             refine D_f rfl (fun hs234 hc234 => ?_)
             refine S_lit (vs := [_, _]) (cs := [_, _, _, _]) Tryz.underlying113 T.sz71 T.ze71 rfl rfl rfl rfl rfl rfl (fun m235 ad235 le235 l235 => ?_)
             replace hO := rOp_mono _ _ _ _ le235 hO
             replace h90 := h90.mono rI_mono le235
             have h235 : Sl rPair 2 m235 (some ad235) 2 _ := Pairs_lit [(_, _), (_, _)] l235 (pairs_cons (by first | assumption | exact ⟨by omega, by omega⟩) (by first | assumption | exact ⟨by omega, by omega⟩) (pairs_cons (by first | assumption | exact ⟨by omega, by omega⟩) (by first | assumption | exact ⟨by omega, by omega⟩) pairs_nil))
             refine W_leftw hs234 hc234 (le235) (List.Sublist.refl _) ?_
             refine D_quiet rfl (kindrow_q _) T.hb214 rfl rfl ?_
             refine D_q rfl (r_move rfl) rfl ?_
             refine D_split (t := 66) rfl (fun h236 => ?_) (fun h236 => ?_)
             ·(try simp only [tA, tB, tC, tD, tE, tF, tG, tH, tI, tJ, tK, tL] at h236)
              refine D_qt rfl rfl rfl (r_move rfl) rfl ?_
              refine D_q rfl (r_pick_t rfl rfl) rfl ?_
              refine D_q rfl (r_assign rfl) rfl ?_
              refine D_q rfl (r_assign rfl) rfl ?_
              refine D_end ?_
              refine NX_as (L' := [(2, _), (3, _)]) [2, 3] rfl ?_
              refine C_ret (RX_block (RX_then (RX_g2 rfl rfl rfl (takesΦ_mk (h235) ?_))))
              simp [takesP, scalarKs, *]
             ·(try simp only [tA, tB, tC, tD, tE, tF, tG, tH, tI, tJ, tK, tL] at h236)
              refine D_pass rfl rfl rfl rfl rfl ?_
              refine D_q rfl (r_pick_f rfl rfl) rfl ?_
              refine D_q rfl (r_assign rfl) rfl ?_
              refine D_q rfl (r_assign rfl) rfl ?_
              refine D_end ?_
              refine NX_as (L' := [(2, _), (3, _)]) [2, 3] rfl ?_
              refine C_ret (RX_block (RX_then (RX_g2 rfl rfl rfl (takesΦ_mk (h235) ?_))))
              simp [takesP, scalarKs, *]
            ·(try simp only [tA, tB, tC, tD, tE, tF, tG, tH, tI, tJ, tK, tL] at h233)
             refine CW_seq ?_
             refine CW_region ?_
             refine W_q (r_bin rfl rfl (bin_eql _ _ _ _)) rfl ?_
             refine W_q (r_assign rfl) rfl ?_
             refine W_nil ?_
             refine NX_as (L' := [(1, _), (2, _), (3, _), (4, _), (5, _), (6, _), (7, _), (8, _), (9, _), (27, _), (54, _)]) [1, 2, 3, 4, 5, 6, 7, 8, 9, 27, 54] rfl ?_
             refine CW_condk rfl (fun h237 => ?_) (fun h237 => ?_)
             ·(try simp only [tA, tB, tC, tD, tE, tF, tG, tH, tI, tJ, tK, tL] at h237)
              refine C_skip ?_
              refine NX_as (L' := [(1, _), (2, _), (3, _), (4, _), (5, _), (6, _), (7, _), (8, _), (9, _), (27, _), (54, _)]) [1, 2, 3, 4, 5, 6, 7, 8, 9, 27, 54] rfl ?_
              refine CW_cond_t rfl ?_
              refine CW_seq ?_
              refine C_drawn [(0, true), (1, true), (4, true), (5, true), (6, true), (2, false), (3, true), (7, true), (8, true), (9, true), (10, true), (11, true)] (by kernel_rfl) rfl (by kernel_rfl) (by kernel_rfl) ?_
              refine D_q rfl (r_loadbk 0 (vs := [_, _]) rfl T.ag71 T.sz71 rfl rfl rfl) rfl ?_
              refine D_q rfl (r_loadbk 0 (vs := [_, _]) rfl T.ag71 T.sz71 rfl rfl rfl) rfl ?_
              refine D_q rfl (r_fieldb (o' := 5) rfl T.fo51_5 rfl) rfl ?_
              refine D_q rfl (r_loadb 4 rfl T.ag49 rfl rfl) rfl ?_
              refine D_q rfl (r_bin rfl rfl (bin_eql _ _ _ _)) rfl ?_
              refine D_f rfl (fun hs238 hc238 => ?_)
              refine S_lit (vs := [_, _]) (cs := [_, _, _, _]) Tryz.underlying113 T.sz71 T.ze71 rfl rfl rfl rfl rfl rfl (fun m239 ad239 le239 l239 => ?_)
              replace hO := rOp_mono _ _ _ _ le239 hO
              replace h90 := h90.mono rI_mono le239
              have h239 : Sl rPair 2 m239 (some ad239) 2 _ := Pairs_lit [(_, _), (_, _)] l239 (pairs_cons (by first | assumption | exact ⟨by omega, by omega⟩) (by first | assumption | exact ⟨by omega, by omega⟩) (pairs_cons (by first | assumption | exact ⟨by omega, by omega⟩) (by first | assumption | exact ⟨by omega, by omega⟩) pairs_nil))
              refine W_leftw hs238 hc238 (le239) (List.Sublist.refl _) ?_
              refine D_quiet rfl (kindrow_q _) T.hb214 rfl rfl ?_
              refine D_q rfl (r_move rfl) rfl ?_
              refine D_split (t := 66) rfl (fun h240 => ?_) (fun h240 => ?_)
              ·(try simp only [tA, tB, tC, tD, tE, tF, tG, tH, tI, tJ, tK, tL] at h240)
               refine D_qt rfl rfl rfl (r_move rfl) rfl ?_
               refine D_q rfl (r_pick_t rfl rfl) rfl ?_
               refine D_q rfl (r_assign rfl) rfl ?_
               refine D_q rfl (r_assign rfl) rfl ?_
               refine D_end ?_
               refine NX_as (L' := [(2, _), (3, _)]) [2, 3] rfl ?_
               refine C_ret (RX_block (RX_then (RX_g2 rfl rfl rfl (takesΦ_mk (h239) ?_))))
               simp [takesP, scalarKs, *]
              ·(try simp only [tA, tB, tC, tD, tE, tF, tG, tH, tI, tJ, tK, tL] at h240)
               refine D_pass rfl rfl rfl rfl rfl ?_
               refine D_q rfl (r_pick_f rfl rfl) rfl ?_
               refine D_q rfl (r_assign rfl) rfl ?_
               refine D_q rfl (r_assign rfl) rfl ?_
               refine D_end ?_
               refine NX_as (L' := [(2, _), (3, _)]) [2, 3] rfl ?_
               refine C_ret (RX_block (RX_then (RX_g2 rfl rfl rfl (takesΦ_mk (h239) ?_))))
               simp [takesP, scalarKs, *]
             ·(try simp only [tA, tB, tC, tD, tE, tF, tG, tH, tI, tJ, tK, tL] at h237)
              refine CW_region ?_
              refine W_q (r_bin rfl rfl (bin_eql _ _ _ _)) rfl ?_
              refine W_q (r_assign rfl) rfl ?_
              refine W_nil ?_
              refine NX_as (L' := [(1, _), (2, _), (3, _), (4, _), (5, _), (6, _), (7, _), (8, _), (9, _), (27, _), (54, _)]) [1, 2, 3, 4, 5, 6, 7, 8, 9, 27, 54] rfl ?_
              refine CW_condk rfl (fun h241 => ?_) (fun h241 => ?_)
              ·(try simp only [tA, tB, tC, tD, tE, tF, tG, tH, tI, tJ, tK, tL] at h241)
               refine CW_seq ?_
               refine C_drawn [(0, true), (1, true), (4, true), (5, true), (6, true), (2, false), (3, true), (7, true), (8, true), (9, true), (10, true), (11, true)] (by kernel_rfl) rfl (by kernel_rfl) (by kernel_rfl) ?_
               refine D_q rfl (r_loadbk 0 (vs := [_, _]) rfl T.ag71 T.sz71 rfl rfl rfl) rfl ?_
               refine D_q rfl (r_loadbk 0 (vs := [_, _]) rfl T.ag71 T.sz71 rfl rfl rfl) rfl ?_
               refine D_q rfl (r_fieldb (o' := 5) rfl T.fo51_5 rfl) rfl ?_
               refine D_q rfl (r_loadb 4 rfl T.ag49 rfl rfl) rfl ?_
               refine D_q rfl (r_bin rfl rfl (bin_eql _ _ _ _)) rfl ?_
               refine D_f rfl (fun hs242 hc242 => ?_)
               refine S_lit (vs := [_, _]) (cs := [_, _, _, _]) Tryz.underlying113 T.sz71 T.ze71 rfl rfl rfl rfl rfl rfl (fun m243 ad243 le243 l243 => ?_)
               replace hO := rOp_mono _ _ _ _ le243 hO
               replace h90 := h90.mono rI_mono le243
               have h243 : Sl rPair 2 m243 (some ad243) 2 _ := Pairs_lit [(_, _), (_, _)] l243 (pairs_cons (by first | assumption | exact ⟨by omega, by omega⟩) (by first | assumption | exact ⟨by omega, by omega⟩) (pairs_cons (by first | assumption | exact ⟨by omega, by omega⟩) (by first | assumption | exact ⟨by omega, by omega⟩) pairs_nil))
               refine W_leftw hs242 hc242 (le243) (List.Sublist.refl _) ?_
               refine D_quiet rfl (kindrow_q _) T.hb214 rfl rfl ?_
               refine D_q rfl (r_move rfl) rfl ?_
               refine D_split (t := 66) rfl (fun h244 => ?_) (fun h244 => ?_)
               ·(try simp only [tA, tB, tC, tD, tE, tF, tG, tH, tI, tJ, tK, tL] at h244)
                refine D_qt rfl rfl rfl (r_move rfl) rfl ?_
                refine D_q rfl (r_pick_t rfl rfl) rfl ?_
                refine D_q rfl (r_assign rfl) rfl ?_
                refine D_q rfl (r_assign rfl) rfl ?_
                refine D_end ?_
                refine NX_as (L' := [(2, _), (3, _)]) [2, 3] rfl ?_
                refine C_ret (RX_block (RX_then (RX_g2 rfl rfl rfl (takesΦ_mk (h243) ?_))))
                simp [takesP, scalarKs, *]
               ·(try simp only [tA, tB, tC, tD, tE, tF, tG, tH, tI, tJ, tK, tL] at h244)
                refine D_pass rfl rfl rfl rfl rfl ?_
                refine D_q rfl (r_pick_f rfl rfl) rfl ?_
                refine D_q rfl (r_assign rfl) rfl ?_
                refine D_q rfl (r_assign rfl) rfl ?_
                refine D_end ?_
                refine NX_as (L' := [(2, _), (3, _)]) [2, 3] rfl ?_
                refine C_ret (RX_block (RX_then (RX_g2 rfl rfl rfl (takesΦ_mk (h243) ?_))))
                simp [takesP, scalarKs, *]
              ·(try simp only [tA, tB, tC, tD, tE, tF, tG, tH, tI, tJ, tK, tL] at h241)
               refine CW_seq ?_
               refine CW_region ?_
               refine W_q (r_bin rfl rfl (bin_eql _ _ _ _)) rfl ?_
               refine W_q (r_assign rfl) rfl ?_
               refine W_nil ?_
               refine NX_as (L' := [(1, _), (2, _), (3, _), (4, _), (5, _), (6, _), (7, _), (8, _), (9, _), (27, _), (69, _)]) [1, 2, 3, 4, 5, 6, 7, 8, 9, 27, 69] rfl ?_
               refine CW_condk rfl (fun h245 => ?_) (fun h245 => ?_)
               ·(try simp only [tA, tB, tC, tD, tE, tF, tG, tH, tI, tJ, tK, tL] at h245)
                refine CW_seq ?_
                refine C_drawn [(0, true), (1, true), (2, true), (5, true), (6, true), (7, true), (3, false), (4, true), (8, true), (9, true)] (by kernel_rfl) rfl (by kernel_rfl) (by kernel_rfl) ?_
                refine D_q rfl (r_loadbk 2 (vs := [_, _]) rfl T.ag71 T.sz71 rfl rfl rfl) rfl ?_
                refine D_q rfl (r_loadbk 0 (vs := [_, _]) rfl T.ag71 T.sz71 rfl rfl rfl) rfl ?_
                refine D_q rfl (r_loadbk 0 (vs := [_, _]) rfl T.ag71 T.sz71 rfl rfl rfl) rfl ?_
                refine D_q rfl (r_fieldb (o' := 5) rfl T.fo51_5 rfl) rfl ?_
                refine D_q rfl (r_loadb 4 rfl T.ag49 rfl rfl) rfl ?_
                refine D_q rfl (r_bin rfl rfl (bin_eql _ _ _ _)) rfl ?_
                refine D_f rfl (fun hs246 hc246 => ?_)
                refine S_lit (vs := [_, _, _]) (cs := [_, _, _, _, _, _]) Tryz.underlying113 T.sz71 T.ze71 rfl rfl rfl rfl rfl rfl (fun m247 ad247 le247 l247 => ?_)
                replace hO := rOp_mono _ _ _ _ le247 hO
                replace h90 := h90.mono rI_mono le247
                have h247 : Sl rPair 2 m247 (some ad247) 3 _ := Pairs_lit [(_, _), (_, _), (_, _)] l247 (pairs_cons (by first | assumption | exact ⟨by omega, by omega⟩) (by first | assumption | exact ⟨by omega, by omega⟩) (pairs_cons (by first | assumption | exact ⟨by omega, by omega⟩) (by first | assumption | exact ⟨by omega, by omega⟩) (pairs_cons (by first | assumption | exact ⟨by omega, by omega⟩) (by first | assumption | exact ⟨by omega, by omega⟩) pairs_nil)))
                refine W_leftw hs246 hc246 (le247) (List.Sublist.refl _) ?_
                refine D_quiet rfl (kindrow_q _) T.hb214 rfl rfl ?_
                refine D_q rfl (r_assign rfl) rfl ?_
                refine D_q rfl (r_assign rfl) rfl ?_
                refine D_end ?_
                refine NX_as (L' := [(2, _), (3, _)]) [2, 3] rfl ?_
                refine C_ret (RX_block (RX_then (RX_g2 rfl rfl rfl (takesΦ_mk (h247) ?_))))
                simp [takesP, scalarKs, *]
               ·(try simp only [tA, tB, tC, tD, tE, tF, tG, tH, tI, tJ, tK, tL] at h245)
                refine CW_seq ?_
                refine CW_region ?_
                refine W_q (r_bin rfl rfl (bin_eql _ _ _ _)) rfl ?_
                refine W_q (r_assign rfl) rfl ?_
                refine W_nil ?_
                refine NX_as (L' := [(1, _), (2, _), (3, _), (4, _), (5, _), (6, _), (7, _), (8, _), (9, _), (27, _), (79, _)]) [1, 2, 3, 4, 5, 6, 7, 8, 9, 27, 79] rfl ?_
                refine CW_condk rfl (fun h248 => ?_) (fun h248 => ?_)
                ·(try simp only [tA, tB, tC, tD, tE, tF, tG, tH, tI, tJ, tK, tL] at h248)
                 refine CW_seq ?_
                 refine CW_region ?_
                 refine W_q (r_fieldb (o' := 5) rfl T.fo51_5 rfl) rfl ?_
                 refine W_q (r_loadb 4 rfl T.ag49 rfl rfl) rfl ?_
                 refine W_q (r_min rfl rfl) rfl ?_
                 refine W_q (r_convi Tryz.underlying49 Tryz.underlying3 rfl (i64_of _ ⟨by omega, by omega⟩)) rfl ?_
                 refine W_q (r_builda (zs := [_, _]) (cs := [_, _]) Tryz.underlying71 T.sz3 T.ze71 rfl rfl rfl) rfl ?_
                 refine S_lit (vs := [_]) (cs := [_, _]) Tryz.underlying113 T.sz71 T.ze71 rfl rfl rfl rfl rfl rfl (fun m249 ad249 le249 l249 => ?_)
                 replace hO := rOp_mono _ _ _ _ le249 hO
                 replace h90 := h90.mono rI_mono le249
                 have h249 : Sl rPair 2 m249 (some ad249) 1 _ := Pairs_lit [(_, _)] l249 (pairs_cons (by first | assumption | exact ⟨by omega, by omega⟩) (by first | assumption | exact ⟨by omega, by omega⟩) pairs_nil)
                 refine W_quiet (kindrow_q _) T.hb214 rfl rfl ?_
                 refine W_q (r_move rfl) rfl ?_
                 refine W_q (r_move rfl) rfl ?_
                 refine WL_split (t := 89) rfl (fun h250 => ?_) (fun h250 => ?_)
                 ·(try simp only [tA, tB, tC, tD, tE, tF, tG, tH, tI, tJ, tK, tL] at h250)
                  refine WL_take rfl rfl ?_
                  refine W_q (r_fieldb (o' := 5) rfl T.fo51_5 rfl) rfl ?_
                  refine WL_take rfl rfl ?_
                  refine W_q (r_loadb 4 rfl T.ag49 rfl rfl) rfl ?_
                  refine WL_take rfl rfl ?_
                  refine W_q (r_fieldb (o' := 1) rfl T.fo51_1 rfl) rfl ?_
                  refine WL_take rfl rfl ?_
                  refine W_q (r_loadb 4 rfl T.ag3 rfl rfl) rfl ?_
                  refine WL_take rfl rfl ?_
                  refine W_q (r_convi Tryz.underlying3 Tryz.underlying49 rfl (u64_of _ ⟨by omega, by omega⟩)) rfl ?_
                  refine WL_take rfl rfl ?_
                  refine W_q (r_bin rfl rfl (bin_lss _ _ _ _)) rfl ?_
                  refine W_q (r_pick_t rfl rfl) rfl ?_
                  refine W_q (r_move rfl) rfl ?_
                  refine WL_split (t := 97) rfl (fun h251 => ?_) (fun h251 => ?_)
                  ·(try simp only [tA, tB, tC, tD, tE, tF, tG, tH, tI, tJ, tK, tL] at h251)
                   refine WL_take rfl rfl ?_
                   refine W_q (r_fieldb (o' := 5) rfl T.fo51_5 rfl) rfl ?_
                   refine WL_take rfl rfl ?_
                   refine W_q (r_loadb 4 rfl T.ag49 rfl rfl) rfl ?_
                   refine WL_take rfl rfl ?_
                   refine W_q (r_convi Tryz.underlying49 Tryz.underlying3 rfl (i64_of _ ⟨by omega, by omega⟩)) rfl ?_
                   refine WL_take rfl rfl ?_
                   refine W_quiet (May_q _) T.hb152 rfl rfl ?_
                   refine W_q (r_pick_t rfl rfl) rfl ?_
                   refine W_q (r_assign rfl) rfl ?_
                   refine W_q (r_assign rfl) rfl ?_
                   refine W_nil ?_
                   refine NX_as (L' := [(2, _), (3, _)]) [2, 3] rfl ?_
                   refine C_ret (RX_block (RX_then (RX_g2 rfl rfl rfl (takesΦ_mk (h249) ?_))))
                   simp [takesP, scalarKs, *]
                  ·(try simp only [tA, tB, tC, tD, tE, tF, tG, tH, tI, tJ, tK, tL] at h251)
                   refine WL_pass rfl rfl rfl rfl ?_
                   refine WL_pass rfl rfl rfl rfl ?_
                   refine WL_pass rfl rfl rfl rfl ?_
                   refine WL_pass rfl rfl rfl rfl ?_
                   refine W_q (r_pick_f rfl rfl) rfl ?_
                   refine W_q (r_assign rfl) rfl ?_
                   refine W_q (r_assign rfl) rfl ?_
                   refine W_nil ?_
                   refine NX_as (L' := [(2, _), (3, _)]) [2, 3] rfl ?_
                   refine C_ret (RX_block (RX_then (RX_g2 rfl rfl rfl (takesΦ_mk (h249) ?_))))
                   simp [takesP, scalarKs, *]
                 ·(try simp only [tA, tB, tC, tD, tE, tF, tG, tH, tI, tJ, tK, tL] at h250)
                  refine WL_pass rfl rfl rfl rfl ?_
                  refine WL_pass rfl rfl rfl rfl ?_
                  refine WL_pass rfl rfl rfl rfl ?_
                  refine WL_pass rfl rfl rfl rfl ?_
                  refine WL_pass rfl rfl rfl rfl ?_
                  refine WL_pass rfl rfl rfl rfl ?_
                  refine W_q (r_pick_f rfl rfl) rfl ?_
                  refine W_q (r_move rfl) rfl ?_
                  refine WL_pass rfl rfl rfl rfl ?_
                  refine WL_pass rfl rfl rfl rfl ?_
                  refine WL_pass rfl rfl rfl rfl ?_
                  refine WL_pass rfl rfl rfl rfl ?_
                  refine W_q (r_pick_f rfl rfl) rfl ?_
                  refine W_q (r_assign rfl) rfl ?_
                  refine W_q (r_assign rfl) rfl ?_
                  refine W_nil ?_
                  refine NX_as (L' := [(2, _), (3, _)]) [2, 3] rfl ?_
                  refine C_ret (RX_block (RX_then (RX_g2 rfl rfl rfl (takesΦ_mk (h249) ?_))))
                  simp [takesP, scalarKs, *]
                ·(try simp only [tA, tB, tC, tD, tE, tF, tG, tH, tI, tJ, tK, tL] at h248)
                 refine CW_seq ?_
                 refine CW_region ?_
                 refine W_q (r_bin rfl rfl (bin_eql _ _ _ _)) rfl ?_
                 refine W_q (r_assign rfl) rfl ?_
                 refine W_nil ?_
                 refine NX_as (L' := [(1, _), (2, _), (3, _), (4, _), (5, _), (6, _), (7, _), (8, _), (9, _), (27, _), (103, _)]) [1, 2, 3, 4, 5, 6, 7, 8, 9, 27, 103] rfl ?_
                 refine CW_condk rfl (fun h252 => ?_) (fun h252 => ?_)
                 ·(try simp only [tA, tB, tC, tD, tE, tF, tG, tH, tI, tJ, tK, tL] at h252)
                  refine CW_seq ?_
                  refine CW_region ?_
                  refine W_q (r_fieldb (o' := 5) rfl T.fo51_5 rfl) rfl ?_
                  refine W_q (r_loadb 4 rfl T.ag49 rfl rfl) rfl ?_
                  refine W_q (r_min rfl rfl) rfl ?_
                  refine W_q (r_convi Tryz.underlying49 Tryz.underlying3 rfl (i64_of _ ⟨by omega, by omega⟩)) rfl ?_
                  refine W_q (r_builda (zs := [_, _]) (cs := [_, _]) Tryz.underlying71 T.sz3 T.ze71 rfl rfl rfl) rfl ?_
                  refine S_lit (vs := [_]) (cs := [_, _]) Tryz.underlying113 T.sz71 T.ze71 rfl rfl rfl rfl rfl rfl (fun m253 ad253 le253 l253 => ?_)
                  replace hO := rOp_mono _ _ _ _ le253 hO
                  replace h90 := h90.mono rI_mono le253
                  have h253 : Sl rPair 2 m253 (some ad253) 1 _ := Pairs_lit [(_, _)] l253 (pairs_cons (by first | assumption | exact ⟨by omega, by omega⟩) (by first | assumption | exact ⟨by omega, by omega⟩) pairs_nil)
                  refine W_quiet (kindrow_q _) T.hb214 rfl rfl ?_
                  refine W_q (r_move rfl) rfl ?_
                  refine W_q (r_move rfl) rfl ?_
                  refine WL_split (t := 113) rfl (fun h254 => ?_) (fun h254 => ?_)
                  ·(try simp only [tA, tB, tC, tD, tE, tF, tG, tH, tI, tJ, tK, tL] at h254)
                   refine WL_take rfl rfl ?_
                   refine W_q (r_fieldb (o' := 5) rfl T.fo51_5 rfl) rfl ?_
                   refine WL_take rfl rfl ?_
                   refine W_q (r_loadb 4 rfl T.ag49 rfl rfl) rfl ?_
                   refine WL_take rfl rfl ?_
                   refine W_q (r_fieldb (o' := 1) rfl T.fo51_1 rfl) rfl ?_
                   refine WL_take rfl rfl ?_
                   refine W_q (r_loadb 4 rfl T.ag3 rfl rfl) rfl ?_
                   refine WL_take rfl rfl ?_
                   refine W_q (r_convi Tryz.underlying3 Tryz.underlying49 rfl (u64_of _ ⟨by omega, by omega⟩)) rfl ?_
                   refine WL_take rfl rfl ?_
                   refine W_q (r_bin rfl rfl (bin_gtr _ _ _ _)) rfl ?_
                   refine W_q (r_pick_t rfl rfl) rfl ?_
                   refine W_q (r_move rfl) rfl ?_
                   refine WL_split (t := 121) rfl (fun h255 => ?_) (fun h255 => ?_)
                   ·(try simp only [tA, tB, tC, tD, tE, tF, tG, tH, tI, tJ, tK, tL] at h255)
                    refine WL_take rfl rfl ?_
                    refine W_q (r_fieldb (o' := 5) rfl T.fo51_5 rfl) rfl ?_
                    refine WL_take rfl rfl ?_
                    refine W_q (r_loadb 4 rfl T.ag49 rfl rfl) rfl ?_
                    refine WL_take rfl rfl ?_
                    refine W_q (r_bin rfl rfl (bin_leq _ _ _ _)) rfl ?_
                    refine W_q (r_pick_t rfl rfl) rfl ?_
                    refine W_q (r_move rfl) rfl ?_
                    refine WL_split (t := 126) rfl (fun h256 => ?_) (fun h256 => ?_)
                    ·(try simp only [tA, tB, tC, tD, tE, tF, tG, tH, tI, tJ, tK, tL] at h256)
                     refine WL_take rfl rfl ?_
                     refine W_q (r_fieldb (o' := 5) rfl T.fo51_5 rfl) rfl ?_
                     refine WL_take rfl rfl ?_
                     refine W_q (r_loadb 4 rfl T.ag49 rfl rfl) rfl ?_
                     refine WL_take rfl rfl ?_
                     refine W_q (r_convi Tryz.underlying49 Tryz.underlying3 rfl (i64_of _ ⟨by omega, by omega⟩)) rfl ?_
                     refine WL_take rfl rfl ?_
                     refine W_quiet (May_q _) T.hb152 rfl rfl ?_
                     refine W_q (r_pick_t rfl rfl) rfl ?_
                     refine W_q (r_assign rfl) rfl ?_
                     refine W_q (r_assign rfl) rfl ?_
                     refine W_nil ?_
                     refine NX_as (L' := [(2, _), (3, _)]) [2, 3] rfl ?_
                     refine C_ret (RX_block (RX_then (RX_g2 rfl rfl rfl (takesΦ_mk (h253) ?_))))
                     simp [takesP, scalarKs, *]
                    ·(try simp only [tA, tB, tC, tD, tE, tF, tG, tH, tI, tJ, tK, tL] at h256)
                     refine WL_pass rfl rfl rfl rfl ?_
                     refine WL_pass rfl rfl rfl rfl ?_
                     refine WL_pass rfl rfl rfl rfl ?_
                     refine WL_pass rfl rfl rfl rfl ?_
                     refine W_q (r_pick_f rfl rfl) rfl ?_
                     refine W_q (r_assign rfl) rfl ?_
                     refine W_q (r_assign rfl) rfl ?_
                     refine W_nil ?_
                     refine NX_as (L' := [(2, _), (3, _)]) [2, 3] rfl ?_
                     refine C_ret (RX_block (RX_then (RX_g2 rfl rfl rfl (takesΦ_mk (h253) ?_))))
                     simp [takesP, scalarKs, *]
                   ·(try simp only [tA, tB, tC, tD, tE, tF, tG, tH, tI, tJ, tK, tL] at h255)
                    refine WL_pass rfl rfl rfl rfl ?_
                    refine WL_pass rfl rfl rfl rfl ?_
                    refine WL_pass rfl rfl rfl rfl ?_
                    refine W_q (r_pick_f rfl rfl) rfl ?_
                    refine W_q (r_move rfl) rfl ?_
                    refine WL_pass rfl rfl rfl rfl ?_
                    refine WL_pass rfl rfl rfl rfl ?_
                    refine WL_pass rfl rfl rfl rfl ?_
                    refine WL_pass rfl rfl rfl rfl ?_
                    refine W_q (r_pick_f rfl rfl) rfl ?_
                    refine W_q (r_assign rfl) rfl ?_
                    refine W_q (r_assign rfl) rfl ?_
                    refine W_nil ?_
                    refine NX_as (L' := [(2, _), (3, _)]) [2, 3] rfl ?_
                    refine C_ret (RX_block (RX_then (RX_g2 rfl rfl rfl (takesΦ_mk (h253) ?_))))
                    simp [takesP, scalarKs, *]
                  ·(try simp only [tA, tB, tC, tD, tE, tF, tG, tH, tI, tJ, tK, tL] at h254)
                   refine WL_pass rfl rfl rfl rfl ?_
                   refine WL_pass rfl rfl rfl rfl ?_
                   refine WL_pass rfl rfl rfl rfl ?_
                   refine WL_pass rfl rfl rfl rfl ?_
                   refine WL_pass rfl rfl rfl rfl ?_
                   refine WL_pass rfl rfl rfl rfl ?_
                   refine W_q (r_pick_f rfl rfl) rfl ?_
                   refine W_q (r_move rfl) rfl ?_
                   refine WL_pass rfl rfl rfl rfl ?_
                   refine WL_pass rfl rfl rfl rfl ?_
                   refine WL_pass rfl rfl rfl rfl ?_
                   refine W_q (r_pick_f rfl rfl) rfl ?_
                   refine W_q (r_move rfl) rfl ?_
                   refine WL_pass rfl rfl rfl rfl ?_
                   refine WL_pass rfl rfl rfl rfl ?_
                   refine WL_pass rfl rfl rfl rfl ?_
                   refine WL_pass rfl rfl rfl rfl ?_
                   refine W_q (r_pick_f rfl rfl) rfl ?_
                   refine W_q (r_assign rfl) rfl ?_
                   refine W_q (r_assign rfl) rfl ?_
                   refine W_nil ?_
                   refine NX_as (L' := [(2, _), (3, _)]) [2, 3] rfl ?_
                   refine C_ret (RX_block (RX_then (RX_g2 rfl rfl rfl (takesΦ_mk (h253) ?_))))
                   simp [takesP, scalarKs, *]
                 ·(try simp only [tA, tB, tC, tD, tE, tF, tG, tH, tI, tJ, tK, tL] at h252)
                  refine CW_seq ?_
                  refine CW_region ?_
                  refine W_q (r_bin rfl rfl (bin_eql _ _ _ _)) rfl ?_
                  refine W_q (r_assign rfl) rfl ?_
                  refine W_nil ?_
                  refine NX_as (L' := [(1, _), (2, _), (3, _), (4, _), (5, _), (6, _), (7, _), (8, _), (9, _), (27, _), (132, _)]) [1, 2, 3, 4, 5, 6, 7, 8, 9, 27, 132] rfl ?_
                  refine CW_condk rfl (fun h257 => ?_) (fun h257 => ?_)
                  ·(try simp only [tA, tB, tC, tD, tE, tF, tG, tH, tI, tJ, tK, tL] at h257)
                   refine CW_seq ?_
                   refine C_drawn [(0, true), (3, true), (4, true), (5, true), (1, false), (2, true), (6, true), (7, true), (8, true), (9, true), (10, true)] (by kernel_rfl) rfl (by kernel_rfl) (by kernel_rfl) ?_
                   refine D_q rfl (r_loadbk 3 (vs := [_, _]) rfl T.ag71 T.sz71 rfl rfl rfl) rfl ?_
                   refine D_q rfl (r_fieldb (o' := 5) rfl T.fo51_5 rfl) rfl ?_
                   refine D_q rfl (r_loadb 4 rfl T.ag49 rfl rfl) rfl ?_
                   refine D_q rfl (r_bin rfl rfl (bin_eql _ _ _ _)) rfl ?_
                   refine D_f rfl (fun hs258 hc258 => ?_)
                   refine S_lit (vs := [_]) (cs := [_, _]) Tryz.underlying113 T.sz71 T.ze71 rfl rfl rfl rfl rfl rfl (fun m259 ad259 le259 l259 => ?_)
                   replace hO := rOp_mono _ _ _ _ le259 hO
                   replace h90 := h90.mono rI_mono le259
                   have h259 : Sl rPair 2 m259 (some ad259) 1 _ := Pairs_lit [(_, _)] l259 (pairs_cons (by first | assumption | exact ⟨by omega, by omega⟩) (by first | assumption | exact ⟨by omega, by omega⟩) pairs_nil)
                   refine W_leftw hs258 hc258 (le259) (List.Sublist.refl _) ?_
                   refine D_quiet rfl (kindrow_q _) T.hb214 rfl rfl ?_
                   refine D_q rfl (r_move rfl) rfl ?_
                   refine D_split (t := 140) rfl (fun h260 => ?_) (fun h260 => ?_)
                   ·(try simp only [tA, tB, tC, tD, tE, tF, tG, tH, tI, tJ, tK, tL] at h260)
                    refine D_qt rfl rfl rfl (r_move rfl) rfl ?_
                    refine D_q rfl (r_pick_t rfl rfl) rfl ?_
                    refine D_q rfl (r_assign rfl) rfl ?_
                    refine D_q rfl (r_assign rfl) rfl ?_
                    refine D_end ?_
                    refine NX_as (L' := [(2, _), (3, _)]) [2, 3] rfl ?_
                    refine C_ret (RX_block (RX_then (RX_g2 rfl rfl rfl (takesΦ_mk (h259) ?_))))
                    simp [takesP, scalarKs, *]
                   ·(try simp only [tA, tB, tC, tD, tE, tF, tG, tH, tI, tJ, tK, tL] at h260)
                    refine D_pass rfl rfl rfl rfl rfl ?_
                    refine D_q rfl (r_pick_f rfl rfl) rfl ?_
                    refine D_q rfl (r_assign rfl) rfl ?_
                    refine D_q rfl (r_assign rfl) rfl ?_
                    refine D_end ?_
                    refine NX_as (L' := [(2, _), (3, _)]) [2, 3] rfl ?_
                    refine C_ret (RX_block (RX_then (RX_g2 rfl rfl rfl (takesΦ_mk (h259) ?_))))
                    simp [takesP, scalarKs, *]
                  ·(try simp only [tA, tB, tC, tD, tE, tF, tG, tH, tI, tJ, tK, tL] at h257)
                   refine CW_seq ?_
                   refine CW_region ?_
                   refine W_q (r_bin rfl rfl (bin_eql _ _ _ _)) rfl ?_
                   refine W_q (r_assign rfl) rfl ?_
                   refine W_nil ?_
                   refine NX_as (L' := [(1, _), (2, _), (3, _), (4, _), (5, _), (6, _), (7, _), (8, _), (9, _), (27, _), (143, _)]) [1, 2, 3, 4, 5, 6, 7, 8, 9, 27, 143] rfl ?_
                   refine CW_condk rfl (fun h261 => ?_) (fun h261 => ?_)
                   ·(try simp only [tA, tB, tC, tD, tE, tF, tG, tH, tI, tJ, tK, tL] at h261)
                    refine CW_seq ?_
                    refine C_drawn [(0, true), (1, true), (4, true), (5, true), (6, true), (2, false), (3, true), (7, true), (8, true), (9, true), (10, true), (11, true)] (by kernel_rfl) rfl (by kernel_rfl) (by kernel_rfl) ?_
                    refine D_q rfl (r_loadbk 3 (vs := [_, _]) rfl T.ag71 T.sz71 rfl rfl rfl) rfl ?_
                    refine D_q rfl (r_loadbk 0 (vs := [_, _]) rfl T.ag71 T.sz71 rfl rfl rfl) rfl ?_
                    refine D_q rfl (r_fieldb (o' := 5) rfl T.fo51_5 rfl) rfl ?_
                    refine D_q rfl (r_loadb 4 rfl T.ag49 rfl rfl) rfl ?_
                    refine D_q rfl (r_bin rfl rfl (bin_eql _ _ _ _)) rfl ?_
                    refine D_f rfl (fun hs262 hc262 => ?_)
                    refine S_lit (vs := [_, _]) (cs := [_, _, _, _]) Tryz.underlying113 T.sz71 T.ze71 rfl rfl rfl rfl rfl rfl (fun m263 ad263 le263 l263 => ?_)
                    replace hO := rOp_mono _ _ _ _ le263 hO
                    replace h90 := h90.mono rI_mono le263
                    have h263 : Sl rPair 2 m263 (some ad263) 2 _ := Pairs_lit [(_, _), (_, _)] l263 (pairs_cons (by first | assumption | exact ⟨by omega, by omega⟩) (by first | assumption | exact ⟨by omega, by omega⟩) (pairs_cons (by first | assumption | exact ⟨by omega, by omega⟩) (by first | assumption | exact ⟨by omega, by omega⟩) pairs_nil))
                    refine W_leftw hs262 hc262 (le263) (List.Sublist.refl _) ?_
                    refine D_quiet rfl (kindrow_q _) T.hb214 rfl rfl ?_
                    refine D_q rfl (r_move rfl) rfl ?_
                    refine D_split (t := 152) rfl (fun h264 => ?_) (fun h264 => ?_)
                    ·(try simp only [tA, tB, tC, tD, tE, tF, tG, tH, tI, tJ, tK, tL] at h264)
                     refine D_qt rfl rfl rfl (r_move rfl) rfl ?_
                     refine D_q rfl (r_pick_t rfl rfl) rfl ?_
                     refine D_q rfl (r_assign rfl) rfl ?_
                     refine D_q rfl (r_assign rfl) rfl ?_
                     refine D_end ?_
                     refine NX_as (L' := [(2, _), (3, _)]) [2, 3] rfl ?_
                     refine C_ret (RX_block (RX_then (RX_g2 rfl rfl rfl (takesΦ_mk (h263) ?_))))
                     simp [takesP, scalarKs, *]
                    ·(try simp only [tA, tB, tC, tD, tE, tF, tG, tH, tI, tJ, tK, tL] at h264)
                     refine D_pass rfl rfl rfl rfl rfl ?_
                     refine D_q rfl (r_pick_f rfl rfl) rfl ?_
                     refine D_q rfl (r_assign rfl) rfl ?_
                     refine D_q rfl (r_assign rfl) rfl ?_
                     refine D_end ?_
                     refine NX_as (L' := [(2, _), (3, _)]) [2, 3] rfl ?_
                     refine C_ret (RX_block (RX_then (RX_g2 rfl rfl rfl (takesΦ_mk (h263) ?_))))
                     simp [takesP, scalarKs, *]
                   ·(try simp only [tA, tB, tC, tD, tE, tF, tG, tH, tI, tJ, tK, tL] at h261)
                    refine CW_seq ?_
                    refine CW_seq ?_
                    refine CW_region ?_
                    refine W_q (r_bin rfl rfl (bin_eql _ _ _ _)) rfl ?_
                    refine W_q (r_assign rfl) rfl ?_
                    refine W_nil ?_
                    refine NX_as (L' := [(1, _), (2, _), (3, _), (4, _), (5, _), (6, _), (7, _), (8, _), (9, _), (27, _), (155, _)]) [1, 2, 3, 4, 5, 6, 7, 8, 9, 27, 155] rfl ?_
                    refine CW_condk rfl (fun h265 => ?_) (fun h265 => ?_)
                    ·(try simp only [tA, tB, tC, tD, tE, tF, tG, tH, tI, tJ, tK, tL] at h265)
                     refine C_skip ?_
                     refine NX_as (L' := [(1, _), (2, _), (3, _), (4, _), (5, _), (6, _), (7, _), (8, _), (9, _), (27, _), (155, _)]) [1, 2, 3, 4, 5, 6, 7, 8, 9, 27, 155] rfl ?_
                     refine CW_cond_t rfl ?_
                     refine CW_seq ?_
                     refine C_drawn [(0, true), (1, true), (2, true), (5, true), (6, true), (7, true), (3, false), (4, true), (8, true), (9, true), (10, true), (11, true), (12, true), (13, true), (14, true), (15, true)] (by kernel_rfl) rfl (by kernel_rfl) (by kernel_rfl) ?_
                     refine D_q rfl (r_loadbk 2 (vs := [_, _]) rfl T.ag71 T.sz71 rfl rfl rfl) rfl ?_
                     refine D_q rfl (r_loadbk 3 (vs := [_, _]) rfl T.ag71 T.sz71 rfl rfl rfl) rfl ?_
                     refine D_q rfl (r_loadbk 0 (vs := [_, _]) rfl T.ag71 T.sz71 rfl rfl rfl) rfl ?_
                     refine D_q rfl (r_fieldb (o' := 5) rfl T.fo51_5 rfl) rfl ?_
                     refine D_q rfl (r_loadb 4 rfl T.ag49 rfl rfl) rfl ?_
                     refine D_q rfl (r_bin rfl rfl (bin_eql _ _ _ _)) rfl ?_
                     refine D_f rfl (fun hs266 hc266 => ?_)
                     refine S_lit (vs := [_, _, _]) (cs := [_, _, _, _, _, _]) Tryz.underlying113 T.sz71 T.ze71 rfl rfl rfl rfl rfl rfl (fun m267 ad267 le267 l267 => ?_)
                     replace hO := rOp_mono _ _ _ _ le267 hO
                     replace h90 := h90.mono rI_mono le267
                     have h267 : Sl rPair 2 m267 (some ad267) 3 _ := Pairs_lit [(_, _), (_, _), (_, _)] l267 (pairs_cons (by first | assumption | exact ⟨by omega, by omega⟩) (by first | assumption | exact ⟨by omega, by omega⟩) (pairs_cons (by first | assumption | exact ⟨by omega, by omega⟩) (by first | assumption | exact ⟨by omega, by omega⟩) (pairs_cons (by first | assumption | exact ⟨by omega, by omega⟩) (by first | assumption | exact ⟨by omega, by omega⟩) pairs_nil)))
                     refine W_leftw hs266 hc266 (le267) (List.Sublist.refl _) ?_
                     refine D_quiet rfl (kindrow_q _) T.hb214 rfl rfl ?_
                     refine D_q rfl (r_move rfl) rfl ?_
                     refine D_split (t := 166) rfl (fun h268 => ?_) (fun h268 => ?_)
                     ·(try simp only [tA, tB, tC, tD, tE, tF, tG, tH, tI, tJ, tK, tL] at h268)
                      refine D_qt rfl rfl rfl (r_move rfl) rfl ?_
                      refine D_q rfl (r_pick_t rfl rfl) rfl ?_
                      refine D_q rfl (r_move rfl) rfl ?_
                      refine D_split (t := 169) rfl (fun h269 => ?_) (fun h269 => ?_)
                      ·(try simp only [tA, tB, tC, tD, tE, tF, tG, tH, tI, tJ, tK, tL] at h269)
                       refine D_qt rfl rfl rfl (r_move rfl) rfl ?_
                       refine D_q rfl (r_pick_t rfl rfl) rfl ?_
                       refine D_q rfl (r_assign rfl) rfl ?_
                       refine D_q rfl (r_assign rfl) rfl ?_
                       refine D_end ?_
                       refine NX_as (L' := [(2, _), (3, _)]) [2, 3] rfl ?_
                       refine C_ret (RX_block (RX_then (RX_g2 rfl rfl rfl (takesΦ_mk (h267) ?_))))
                       simp [takesP, scalarKs, *]
                      ·(try simp only [tA, tB, tC, tD, tE, tF, tG, tH, tI, tJ, tK, tL] at h269)
                       refine D_pass rfl rfl rfl rfl rfl ?_
                       refine D_q rfl (r_pick_f rfl rfl) rfl ?_
                       refine D_q rfl (r_assign rfl) rfl ?_
                       refine D_q rfl (r_assign rfl) rfl ?_
                       refine D_end ?_
                       refine NX_as (L' := [(2, _), (3, _)]) [2, 3] rfl ?_
                       refine C_ret (RX_block (RX_then (RX_g2 rfl rfl rfl (takesΦ_mk (h267) ?_))))
                       simp [takesP, scalarKs, *]
                     ·(try simp only [tA, tB, tC, tD, tE, tF, tG, tH, tI, tJ, tK, tL] at h268)
                      refine D_pass rfl rfl rfl rfl rfl ?_
                      refine D_q rfl (r_pick_f rfl rfl) rfl ?_
                      refine D_q rfl (r_move rfl) rfl ?_
                      refine D_pass rfl rfl rfl rfl rfl ?_
                      refine D_q rfl (r_pick_f rfl rfl) rfl ?_
                      refine D_q rfl (r_assign rfl) rfl ?_
                      refine D_q rfl (r_assign rfl) rfl ?_
                      refine D_end ?_
                      refine NX_as (L' := [(2, _), (3, _)]) [2, 3] rfl ?_
                      refine C_ret (RX_block (RX_then (RX_g2 rfl rfl rfl (takesΦ_mk (h267) ?_))))
                      simp [takesP, scalarKs, *]
                    ·(try simp only [tA, tB, tC, tD, tE, tF, tG, tH, tI, tJ, tK, tL] at h265)
                     refine CW_region ?_
                     refine W_q (r_bin rfl rfl (bin_eql _ _ _ _)) rfl ?_
                     refine W_q (r_assign rfl) rfl ?_
                     refine W_nil ?_
                     refine NX_as (L' := [(1, _), (2, _), (3, _), (4, _), (5, _), (6, _), (7, _), (8, _), (9, _), (27, _), (155, _)]) [1, 2, 3, 4, 5, 6, 7, 8, 9, 27, 155] rfl ?_
                     refine CW_condk rfl (fun h270 => ?_) (fun h270 => ?_)
                     ·(try simp only [tA, tB, tC, tD, tE, tF, tG, tH, tI, tJ, tK, tL] at h270)
                      refine CW_seq ?_
                      refine C_drawn [(0, true), (1, true), (2, true), (5, true), (6, true), (7, true), (3, false), (4, true), (8, true), (9, true), (10, true), (11, true), (12, true), (13, true), (14, true), (15, true)] (by kernel_rfl) rfl (by kernel_rfl) (by kernel_rfl) ?_
                      refine D_q rfl (r_loadbk 2 (vs := [_, _]) rfl T.ag71 T.sz71 rfl rfl rfl) rfl ?_
                      refine D_q rfl (r_loadbk 3 (vs := [_, _]) rfl T.ag71 T.sz71 rfl rfl rfl) rfl ?_
                      refine D_q rfl (r_loadbk 0 (vs := [_, _]) rfl T.ag71 T.sz71 rfl rfl rfl) rfl ?_
                      refine D_q rfl (r_fieldb (o' := 5) rfl T.fo51_5 rfl) rfl ?_
                      refine D_q rfl (r_loadb 4 rfl T.ag49 rfl rfl) rfl ?_
                      refine D_q rfl (r_bin rfl rfl (bin_eql _ _ _ _)) rfl ?_
                      refine D_f rfl (fun hs271 hc271 => ?_)
                      refine S_lit (vs := [_, _, _]) (cs := [_, _, _, _, _, _]) Tryz.underlying113 T.sz71 T.ze71 rfl rfl rfl rfl rfl rfl (fun m272 ad272 le272 l272 => ?_)
                      replace hO := rOp_mono _ _ _ _ le272 hO
                      replace h90 := h90.mono rI_mono le272
                      have h272 : Sl rPair 2 m272 (some ad272) 3 _ := Pairs_lit [(_, _), (_, _), (_, _)] l272 (pairs_cons (by first | assumption | exact ⟨by omega, by omega⟩) (by first | assumption | exact ⟨by omega, by omega⟩) (pairs_cons (by first | assumption | exact ⟨by omega, by omega⟩) (by first | assumption | exact ⟨by omega, by omega⟩) (pairs_cons (by first | assumption | exact ⟨by omega, by omega⟩) (by first | assumption | exact ⟨by omega, by omega⟩) pairs_nil)))
                      refine W_leftw hs271 hc271 (le272) (List.Sublist.refl _) ?_
                      refine D_quiet rfl (kindrow_q _) T.hb214 rfl rfl ?_
                      refine D_q rfl (r_move rfl) rfl ?_
                      refine D_split (t := 166) rfl (fun h273 => ?_) (fun h273 => ?_)
                      ·(try simp only [tA, tB, tC, tD, tE, tF, tG, tH, tI, tJ, tK, tL] at h273)
                       refine D_qt rfl rfl rfl (r_move rfl) rfl ?_
                       refine D_q rfl (r_pick_t rfl rfl) rfl ?_
                       refine D_q rfl (r_move rfl) rfl ?_
                       refine D_split (t := 169) rfl (fun h274 => ?_) (fun h274 => ?_)
                       ·(try simp only [tA, tB, tC, tD, tE, tF, tG, tH, tI, tJ, tK, tL] at h274)
                        refine D_qt rfl rfl rfl (r_move rfl) rfl ?_
                        refine D_q rfl (r_pick_t rfl rfl) rfl ?_
                        refine D_q rfl (r_assign rfl) rfl ?_
                        refine D_q rfl (r_assign rfl) rfl ?_
                        refine D_end ?_
                        refine NX_as (L' := [(2, _), (3, _)]) [2, 3] rfl ?_
                        refine C_ret (RX_block (RX_then (RX_g2 rfl rfl rfl (takesΦ_mk (h272) ?_))))
                        simp [takesP, scalarKs, *]
                       ·(try simp only [tA, tB, tC, tD, tE, tF, tG, tH, tI, tJ, tK, tL] at h274)
                        refine D_pass rfl rfl rfl rfl rfl ?_
                        refine D_q rfl (r_pick_f rfl rfl) rfl ?_
                        refine D_q rfl (r_assign rfl) rfl ?_
                        refine D_q rfl (r_assign rfl) rfl ?_
                        refine D_end ?_
                        refine NX_as (L' := [(2, _), (3, _)]) [2, 3] rfl ?_
                        refine C_ret (RX_block (RX_then (RX_g2 rfl rfl rfl (takesΦ_mk (h272) ?_))))
                        simp [takesP, scalarKs, *]
                      ·(try simp only [tA, tB, tC, tD, tE, tF, tG, tH, tI, tJ, tK, tL] at h273)
                       refine D_pass rfl rfl rfl rfl rfl ?_
                       refine D_q rfl (r_pick_f rfl rfl) rfl ?_
                       refine D_q rfl (r_move rfl) rfl ?_
                       refine D_pass rfl rfl rfl rfl rfl ?_
                       refine D_q rfl (r_pick_f rfl rfl) rfl ?_
                       refine D_q rfl (r_assign rfl) rfl ?_
                       refine D_q rfl (r_assign rfl) rfl ?_
                       refine D_end ?_
                       refine NX_as (L' := [(2, _), (3, _)]) [2, 3] rfl ?_
                       refine C_ret (RX_block (RX_then (RX_g2 rfl rfl rfl (takesΦ_mk (h272) ?_))))
                       simp [takesP, scalarKs, *]
                     ·(try simp only [tA, tB, tC, tD, tE, tF, tG, tH, tI, tJ, tK, tL] at h270)
                      refine CW_seq ?_
                      refine CW_region ?_
                      refine W_q (r_bin rfl rfl (bin_eql _ _ _ _)) rfl ?_
                      refine W_q (r_assign rfl) rfl ?_
                      refine W_nil ?_
                      refine NX_as (L' := [(1, _), (2, _), (3, _), (4, _), (5, _), (6, _), (8, _), (27, _), (172, _)]) [1, 2, 3, 4, 5, 6, 8, 27, 172] rfl ?_
                      refine CW_condk rfl (fun h275 => ?_) (fun h275 => ?_)
                      ·(try simp only [tA, tB, tC, tD, tE, tF, tG, tH, tI, tJ, tK, tL] at h275)
                       refine CW_seq ?_
                       refine C_drawn [(0, true), (1, true), (2, true), (3, true), (6, true), (7, true), (8, true), (4, false), (5, true), (9, true), (10, true), (11, true), (12, true), (13, true)] (by kernel_rfl) rfl (by kernel_rfl) (by kernel_rfl) ?_
                       refine D_q rfl (r_loadbk 2 (vs := [_, _]) rfl T.ag71 T.sz71 rfl rfl rfl) rfl ?_
                       refine D_q rfl (r_loadbk 0 (vs := [_, _]) rfl T.ag71 T.sz71 rfl rfl rfl) rfl ?_
                       refine D_q rfl (r_loadbk 0 (vs := [_, _]) rfl T.ag71 T.sz71 rfl rfl rfl) rfl ?_
                       refine D_q rfl (r_loadbk 0 (vs := [_, _]) rfl T.ag71 T.sz71 rfl rfl rfl) rfl ?_
                       refine D_q rfl (r_fieldb (o' := 5) rfl T.fo51_5 rfl) rfl ?_
                       refine D_q rfl (r_loadb 4 rfl T.ag49 rfl rfl) rfl ?_
                       refine D_q rfl (r_bin rfl rfl (bin_eql _ _ _ _)) rfl ?_
                       refine D_f rfl (fun hs276 hc276 => ?_)
                       refine S_lit (vs := [_, _, _, _]) (cs := [_, _, _, _, _, _, _, _]) Tryz.underlying113 T.sz71 T.ze71 rfl rfl rfl rfl rfl rfl (fun m277 ad277 le277 l277 => ?_)
                       replace hO := rOp_mono _ _ _ _ le277 hO
                       replace h90 := h90.mono rI_mono le277
                       have h277 : Sl rPair 2 m277 (some ad277) 4 _ := Pairs_lit [(_, _), (_, _), (_, _), (_, _)] l277 (pairs_cons (by first | assumption | exact ⟨by omega, by omega⟩) (by first | assumption | exact ⟨by omega, by omega⟩) (pairs_cons (by first | assumption | exact ⟨by omega, by omega⟩) (by first | assumption | exact ⟨by omega, by omega⟩) (pairs_cons (by first | assumption | exact ⟨by omega, by omega⟩) (by first | assumption | exact ⟨by omega, by omega⟩) (pairs_cons (by first | assumption | exact ⟨by omega, by omega⟩) (by first | assumption | exact ⟨by omega, by omega⟩) pairs_nil))))
                       refine W_leftw hs276 hc276 (le277) (List.Sublist.refl _) ?_
                       refine D_quiet rfl (kindrow_q _) T.hb214 rfl rfl ?_
                       refine D_q rfl (r_move rfl) rfl ?_
                       refine D_split (t := 183) rfl (fun h278 => ?_) (fun h278 => ?_)
                       ·(try simp only [tA, tB, tC, tD, tE, tF, tG, tH, tI, tJ, tK, tL] at h278)
                        refine D_qt rfl rfl rfl (r_move rfl) rfl ?_
                        refine D_q rfl (r_pick_t rfl rfl) rfl ?_
                        refine D_q rfl (r_assign rfl) rfl ?_
                        refine D_q rfl (r_assign rfl) rfl ?_
                        refine D_end ?_
                        refine NX_as (L' := [(2, _), (3, _)]) [2, 3] rfl ?_
                        refine C_ret (RX_block (RX_then (RX_g2 rfl rfl rfl (takesΦ_mk (h277) ?_))))
                        simp [takesP, scalarKs, *]
                       ·(try simp only [tA, tB, tC, tD, tE, tF, tG, tH, tI, tJ, tK, tL] at h278)
                        refine D_pass rfl rfl rfl rfl rfl ?_
                        refine D_q rfl (r_pick_f rfl rfl) rfl ?_
                        refine D_q rfl (r_assign rfl) rfl ?_
                        refine D_q rfl (r_assign rfl) rfl ?_
                        refine D_end ?_
                        refine NX_as (L' := [(2, _), (3, _)]) [2, 3] rfl ?_
                        refine C_ret (RX_block (RX_then (RX_g2 rfl rfl rfl (takesΦ_mk (h277) ?_))))
                        simp [takesP, scalarKs, *]
                      ·(try simp only [tA, tB, tC, tD, tE, tF, tG, tH, tI, tJ, tK, tL] at h275)
                       refine CW_seq ?_
                       refine CW_region ?_
                       refine W_q (r_bin rfl rfl (bin_eql _ _ _ _)) rfl ?_
                       refine W_q (r_assign rfl) rfl ?_
                       refine W_nil ?_
                       refine NX_as (L' := [(1, _), (2, _), (3, _), (4, _), (5, _), (8, _), (27, _), (186, _)]) [1, 2, 3, 4, 5, 8, 27, 186] rfl ?_
                       refine CW_condk rfl (fun h279 => ?_) (fun h279 => ?_)
                       ·(try simp only [tA, tB, tC, tD, tE, tF, tG, tH, tI, tJ, tK, tL] at h279)
                        refine CW_seq ?_
                        refine C_drawn [(0, true), (3, true), (4, true), (6, true), (7, true), (8, true), (1, false), (2, true), (5, false), (9, true), (10, true), (11, true), (12, true), (13, true), (14, true)] (by kernel_rfl) rfl (by kernel_rfl) (by kernel_rfl) ?_
                        refine D_q rfl (r_loadbk 1 (vs := [_, _]) rfl T.ag71 T.sz71 rfl rfl rfl) rfl ?_
                        refine D_q rfl (r_fieldb (o' := 2) rfl T.fo51_2 rfl) rfl ?_
                        refine D_q rfl (r_loadb 4 rfl T.ag3 rfl rfl) rfl ?_
                        refine D_q rfl (r_fieldb (o' := 5) rfl T.fo51_5 rfl) rfl ?_
                        refine D_q rfl (r_loadb 4 rfl T.ag49 rfl rfl) rfl ?_
                        refine D_q rfl (r_bin rfl rfl (bin_eql _ _ _ _)) rfl ?_
                        refine D_f rfl (fun hs280 hc280 => ?_)
                        refine S_lit (vs := [_]) (cs := [_, _]) Tryz.underlying113 T.sz71 T.ze71 rfl rfl rfl rfl rfl rfl (fun m281 ad281 le281 l281 => ?_)
                        replace hO := rOp_mono _ _ _ _ le281 hO
                        replace h90 := h90.mono rI_mono le281
                        have h281 : Sl rPair 2 m281 (some ad281) 1 _ := Pairs_lit [(_, _)] l281 (pairs_cons (by first | assumption | exact ⟨by omega, by omega⟩) (by first | assumption | exact ⟨by omega, by omega⟩) pairs_nil)
                        refine W_leftw hs280 hc280 (le281) (List.Sublist.refl _) ?_
                        refine D_quiet rfl (kindrow_q _) T.hb214 rfl rfl ?_
                        refine D_f rfl (fun hs282 hc282 => ?_)
                        refine S_gives (RepeatP_g h281 (k := o.lanes.toNat) (by omega) (by omega) (by omega)) T.hb215 rfl rfl (fun m283 v283 le283 hv283 => ?_)
                        replace hO := rOp_mono _ _ _ _ le283 hO
                        replace h90 := h90.mono rI_mono le283
                        replace h281 := h281.mono rPair_mono le283
                        obtain ⟨ad283, rfl, h283⟩ := hv283
                        refine W_leftw hs282 hc282 (Imm.le_trans (le281) le283) (List.Sublist.refl _) ?_
                        refine D_q rfl (r_move rfl) rfl ?_
                        refine D_split (t := 197) rfl (fun h284 => ?_) (fun h284 => ?_)
                        ·(try simp only [tA, tB, tC, tD, tE, tF, tG, tH, tI, tJ, tK, tL] at h284)
                         refine D_qt rfl rfl rfl (r_move rfl) rfl ?_
                         refine D_qt rfl rfl rfl (r_not rfl) rfl ?_
                         refine D_q rfl (r_pick_t rfl rfl) rfl ?_
                         refine D_q rfl (r_assign rfl) rfl ?_
                         refine D_q rfl (r_assign rfl) rfl ?_
                         refine D_end ?_
                         refine NX_as (L' := [(2, _), (3, _)]) [2, 3] rfl ?_
                         refine C_ret (RX_block (RX_then (RX_g2 rfl rfl rfl (takesΦ_mk (h283) ?_))))
                         simp [takesP, scalarKs, *]
                        ·(try simp only [tA, tB, tC, tD, tE, tF, tG, tH, tI, tJ, tK, tL] at h284)
                         refine D_pass rfl rfl rfl rfl rfl ?_
                         refine D_pass rfl rfl rfl rfl rfl ?_
                         refine D_q rfl (r_pick_f rfl rfl) rfl ?_
                         refine D_q rfl (r_assign rfl) rfl ?_
                         refine D_q rfl (r_assign rfl) rfl ?_
                         refine D_end ?_
                         refine NX_as (L' := [(2, _), (3, _)]) [2, 3] rfl ?_
                         refine C_ret (RX_block (RX_then (RX_g2 rfl rfl rfl (takesΦ_mk (h283) ?_))))
                         simp [takesP, scalarKs, *]
                       ·(try simp only [tA, tB, tC, tD, tE, tF, tG, tH, tI, tJ, tK, tL] at h279)
                        refine CW_seq ?_
                        refine CW_region ?_
                        refine W_q (r_bin rfl rfl (bin_eql _ _ _ _)) rfl ?_
                        refine W_q (r_assign rfl) rfl ?_
                        refine W_nil ?_
                        refine NX_as (L' := [(1, _), (2, _), (3, _), (4, _), (8, _), (201, _)]) [1, 2, 3, 4, 8, 201] rfl ?_
                        refine CW_condk rfl (fun h285 => ?_) (fun h285 => ?_)
                        ·(try simp only [tA, tB, tC, tD, tE, tF, tG, tH, tI, tJ, tK, tL] at h285)
                         refine CW_seq ?_
                         refine C_drawn [(0, true), (3, true), (4, true), (1, false), (2, true), (5, true), (6, true), (7, true), (8, true), (9, true), (10, true), (11, true), (12, true), (13, true), (14, true)] (by kernel_rfl) rfl (by kernel_rfl) (by kernel_rfl) ?_
                         refine D_q rfl (r_loadbk 0 (vs := [_, _]) rfl T.ag71 T.sz71 rfl rfl rfl) rfl ?_
                         refine D_q rfl (r_move rfl) rfl ?_
                         refine D_q rfl (r_not rfl) rfl ?_
                         refine D_f rfl (fun hs286 hc286 => ?_)
                         refine S_lit (vs := [_]) (cs := [_, _]) Tryz.underlying113 T.sz71 T.ze71 rfl rfl rfl rfl rfl rfl (fun m287 ad287 le287 l287 => ?_)
                         replace hO := rOp_mono _ _ _ _ le287 hO
                         replace h90 := h90.mono rI_mono le287
                         have h287 : Sl rPair 2 m287 (some ad287) 1 _ := Pairs_lit [(_, _)] l287 (pairs_cons (by first | assumption | exact ⟨by omega, by omega⟩) (by first | assumption | exact ⟨by omega, by omega⟩) pairs_nil)
                         refine W_leftw hs286 hc286 (le287) (List.Sublist.refl _) ?_
                         refine D_quiet rfl (kindrow_q _) T.hb214 rfl rfl ?_
                         refine D_q rfl (r_move rfl) rfl ?_
                         refine D_split (t := 208) rfl (fun h288 => ?_) (fun h288 => ?_)
                         ·(try simp only [tA, tB, tC, tD, tE, tF, tG, tH, tI, tJ, tK, tL] at h288)
                          refine D_qt rfl rfl rfl (r_fieldb (o' := 5) rfl T.fo51_5 rfl) rfl ?_
                          refine D_qt rfl rfl rfl (r_loadb 4 rfl T.ag49 rfl rfl) rfl ?_
                          refine D_qt rfl rfl rfl (r_fieldb (o' := 2) rfl T.fo51_2 rfl) rfl ?_
                          refine D_qt rfl rfl rfl (r_loadb 4 rfl T.ag3 rfl rfl) rfl ?_
                          refine D_qt rfl rfl rfl (r_convi Tryz.underlying3 Tryz.underlying49 rfl (u64_of _ ⟨by omega, by omega⟩)) rfl ?_
                          refine D_qt rfl rfl rfl (r_bin rfl rfl (bin_lss _ _ _ _)) rfl ?_
                          refine D_q rfl (r_pick_t rfl rfl) rfl ?_
                          refine D_q rfl (r_assign rfl) rfl ?_
                          refine D_q rfl (r_assign rfl) rfl ?_
                          refine D_end ?_
                          refine NX_as (L' := [(2, _), (3, _)]) [2, 3] rfl ?_
                          refine C_ret (RX_block (RX_then (RX_g2 rfl rfl rfl (takesΦ_mk (h287) ?_))))
                          simp [takesP, scalarKs, *]
                         ·(try simp only [tA, tB, tC, tD, tE, tF, tG, tH, tI, tJ, tK, tL] at h288)
                          refine D_pass rfl rfl rfl rfl rfl ?_
                          refine D_pass rfl rfl rfl rfl rfl ?_
                          refine D_pass rfl rfl rfl rfl rfl ?_
                          refine D_pass rfl rfl rfl rfl rfl ?_
                          refine D_pass rfl rfl rfl rfl rfl ?_
                          refine D_pass rfl rfl rfl rfl rfl ?_
                          refine D_q rfl (r_pick_f rfl rfl) rfl ?_
                          refine D_q rfl (r_assign rfl) rfl ?_
                          refine D_q rfl (r_assign rfl) rfl ?_
                          refine D_end ?_
                          refine NX_as (L' := [(2, _), (3, _)]) [2, 3] rfl ?_
                          refine C_ret (RX_block (RX_then (RX_g2 rfl rfl rfl (takesΦ_mk (h287) ?_))))
                          simp [takesP, scalarKs, *]
                        ·(try simp only [tA, tB, tC, tD, tE, tF, tG, tH, tI, tJ, tK, tL] at h285)
                         refine C_skip ?_
                         refine NX_block (NX_as (L' := [(2, _), (3, _)]) [2, 3] rfl ?_)
                         refine CW_seq ?_
                         refine CW_region ?_
                         refine W_q (r_assign rfl) rfl ?_
                         refine W_q (r_assign rfl) rfl ?_
                         refine W_nil ?_
                         refine NX_as (L' := [(2, _), (3, _)]) [2, 3] rfl ?_
                         refine C_ret (RX_g2 rfl rfl rfl (takesΦ_mk (Sl.nil _ _ _) ?_))
                         simp [takesP, scalarKs, *]

end Go.Proofs.YtipmgkhjoekaaaaGreat

set_option linter.unusedVariables false
set_option linter.unusedSimpArgs false
namespace Go.Proofs.YtipmgkhjoekaaaaGreat
open Go Go.RowKit Go.Proofs Go.Proofs.YtipmgkhjoekaaaaGreat.Fw
attribute [local irreducible] Qt WL CW NX RX EX GX DL
namespace T
theorem hb190 : hasBody Tryz.prog 190 = true := by kernel_rfl
theorem hb191 : hasBody Tryz.prog 191 = true := by kernel_rfl
theorem hb205 : hasBody Tryz.prog 205 = true := by kernel_rfl
theorem hb206 : hasBody Tryz.prog 206 = true := by kernel_rfl
theorem hb207 : hasBody Tryz.prog 207 = true := by kernel_rfl
theorem hb208 : hasBody Tryz.prog 208 = true := by kernel_rfl
end T
set_option maxHeartbeats 4000000 in
/-- kind.May$1 -/
theorem KMay1_q {m : Imm} (v : Int) : Quiet Tryz.prog 208 [.int .i64 v] m (.bool (!(valueB v))) := by
 refine quiet_of Tryz.func208 rfl Tryz.ntmps208 rfl (fun w => ?_)
 refine CW_seq ?_
 refine CW_region ?_
 refine W_q (r_assign rfl) rfl ?_
 refine W_nil ?_
 refine NX_as (L' := [(0, _), (2, _)]) [0, 2] rfl ?_
 refine CW_seq ?_
 refine CW_region ?_
 refine W_q (r_move rfl) rfl ?_
 refine W_quiet (value_q _) T.hb207 rfl rfl ?_
 refine W_q (r_not rfl) rfl ?_
 refine W_q (r_assign rfl) rfl ?_
 refine W_nil ?_
 refine NX_as (L' := [(2, _)]) [2] rfl ?_
 refine C_ret (RX_q1 rfl rfl ?_)
 rfl

set_option maxHeartbeats 40000000 in
/-- kind.May -/
theorem KMay_q {m : Imm} {es : List Value} {o : FOp} (hO : rOp m es o) : Quiet Tryz.prog 190 [.agg es.toArray] m (.bool (mayOpK o)) := by
 have hO_0 := hO
 obtain ⟨A90, c90, rfl, h90, i90a, i90b, i90c, i90d, i90e⟩ := hO_0
 refine quiet_of Tryz.func190 rfl Tryz.ntmps190 rfl (fun w => ?_)
 refine CW_seq ?_
 refine CW_region ?_
 refine S_box (l := [_, _, _, _, _, _]) rfl rfl rfl (fun b1 => ?_)
 refine W_q (r_assign rfl) rfl ?_
 refine W_nil ?_
 refine NX_as (L' := [(1, _), (2, _)]) [1, 2] rfl ?_
 refine CW_seq ?_
 refine CW_seq ?_
 refine CW_region ?_
 refine W_q (r_fieldb (o' := 1) rfl T.fo51_1 rfl) rfl ?_
 refine W_q (r_loadb 0 rfl T.ag3 rfl rfl) rfl ?_
 refine W_q (r_fieldb (o' := 2) rfl T.fo51_2 rfl) rfl ?_
 refine W_q (r_loadb 0 rfl T.ag3 rfl rfl) rfl ?_
 refine W_quiet (Shape_q _ _) T.hb205 rfl rfl ?_
 refine W_q (r_not rfl) rfl ?_
 refine W_nil ?_
 refine NX_as (L' := [(1, _), (2, _), (11, _)]) [1, 2, 11] rfl ?_
 refine CW_condk rfl (fun h2 => ?_) (fun h2 => ?_)
 ·(try simp only [tA, tB, tC, tD, tE, tF, tG, tH, tI, tJ, tK, tL] at h2)
  refine CW_seq ?_
  refine CW_region ?_
  refine W_q (r_assign rfl) rfl ?_
  refine W_nil ?_
  refine NX_as (L' := [(1, _), (2, _)]) [1, 2] rfl ?_
  refine C_ret (RX_then (RX_q1 rfl rfl ?_))
  simp_all [mayOpK]
 ·(try simp only [tA, tB, tC, tD, tE, tF, tG, tH, tI, tJ, tK, tL] at h2)
  refine C_skip ?_
  refine NX_as (L' := [(1, _), (2, _)]) [1, 2] rfl ?_
  refine CW_seq ?_
  refine CW_region ?_
  refine W_q (r_loadbk 0 (vs := [_, _, _, _, _, _]) rfl T.ag51 T.sz51 rfl rfl rfl) rfl ?_
  refine S_gives (takes_g hO h2) T.hb206 rfl rfl (fun m3 v3 le3 hv3 => ?_)
  replace hO := rOp_mono _ _ _ _ le3 hO
  replace h90 := h90.mono rI_mono le3
  obtain ⟨A3, c3, rfl, h3⟩ := hv3
  refine W_q (r_move rfl) rfl ?_
  refine W_q (r_extract rfl rfl) rfl ?_
  refine W_q (r_extract rfl rfl) rfl ?_
  refine W_q (r_assign rfl) rfl ?_
  refine W_q (r_assign rfl) rfl ?_
  refine W_nil ?_
  refine NX_as (L' := [(1, _), (2, _), (3, _), (4, _)]) [1, 2, 3, 4] rfl ?_
  refine CW_seq ?_
  refine CW_region ?_
  refine W_q (r_fieldb (o' := 3) rfl T.fo51_3 rfl) rfl ?_
  refine W_q (r_loadb 0 rfl T.ag3 rfl rfl) rfl ?_
  refine W_quiet (value_q _) T.hb207 rfl rfl ?_
  refine W_q (r_assign rfl) rfl ?_
  refine W_nil ?_
  refine NX_as (L' := [(1, _), (2, _), (3, _), (4, _), (5, _)]) [1, 2, 3, 4, 5] rfl ?_
  refine CW_seq ?_
  refine CW_seq ?_
  refine CW_region ?_
  refine W_q (r_fieldb (o' := 0) rfl T.fo51_0 rfl) rfl ?_
  refine W_q (r_loadb 0 rfl T.ag3 rfl rfl) rfl ?_
  refine W_quiet (stores_q _) T.hb191 rfl rfl ?_
  refine W_nil ?_
  refine NX_as (L' := [(1, _), (2, _), (3, _), (4, _), (5, _), (22, _)]) [1, 2, 3, 4, 5, 22] rfl ?_
  refine CW_condk rfl (fun h4 => ?_) (fun h4 => ?_)
  ·(try simp only [tA, tB, tC, tD, tE, tF, tG, tH, tI, tJ, tK, tL] at h4)
   refine CW_region ?_
   refine W_q (r_fieldb (o' := 3) rfl T.fo51_3 rfl) rfl ?_
   refine W_q (r_loadb 0 rfl T.ag3 rfl rfl) rfl ?_
   refine W_q (r_bin rfl rfl (bin_eql _ _ _ _)) rfl ?_
   refine W_q (r_assign rfl) rfl ?_
   refine W_nil ?_
   refine NX_as (L' := [(1, _), (2, _), (3, _), (4, _), (5, _)]) [1, 2, 3, 4, 5] rfl ?_
   refine CW_seq ?_
   refine CW_region ?_
   refine W_q (r_move rfl) rfl ?_
   refine W_q (r_move rfl) rfl ?_
   refine WL_split (t := 27) rfl (fun h5 => ?_) (fun h5 => ?_)
   ·(try simp only [tA, tB, tC, tD, tE, tF, tG, tH, tI, tJ, tK, tL] at h5)
    refine WL_take rfl rfl ?_
    refine W_q (r_move rfl) rfl ?_
    refine W_q (r_pick_t rfl rfl) rfl ?_
    refine W_q (r_move rfl) rfl ?_
    refine WL_split (t := 30) rfl (fun h6 => ?_) (fun h6 => ?_)
    ·(try simp only [tA, tB, tC, tD, tE, tF, tG, tH, tI, tJ, tK, tL] at h6)
     refine WL_take rfl rfl ?_
     refine W_q (r_move rfl) rfl ?_
     refine WL_take rfl rfl ?_
     refine W_q (r_len Tryz.underlying113 rfl) rfl ?_
     refine WL_take rfl rfl ?_
     refine W_q (r_fieldb (o' := 4) rfl T.fo51_4 rfl) rfl ?_
     refine WL_take rfl rfl ?_
     refine W_q (r_loadb 0 rfl T.ag22 rfl rfl) rfl ?_
     refine WL_take rfl rfl ?_
     refine W_q (r_len Tryz.underlying22 rfl) rfl ?_
     refine WL_take rfl rfl ?_
     refine W_q (r_bin rfl rfl (bin_eql _ _ _ _)) rfl ?_
     refine W_q (r_pick_t rfl rfl) rfl ?_
     refine W_q (r_move rfl) rfl ?_
     refine WL_split (t := 38) rfl (fun h7 => ?_) (fun h7 => ?_)
     ·(try simp only [tA, tB, tC, tD, tE, tF, tG, tH, tI, tJ, tK, tL] at h7)
      refine WL_take rfl rfl ?_
      refine W_q (r_fieldb (o' := 4) rfl T.fo51_4 rfl) rfl ?_
      refine WL_take rfl rfl ?_
      refine W_q (r_loadb 0 rfl T.ag22 rfl rfl) rfl ?_
      refine WL_take rfl rfl ?_
      refine W_quiet (ContainsFuncI_q h90 (p := fun v => !(valueB v)) (K := 208) T.hb208 (fun z _ => KMay1_q z)) T.hb86 rfl rfl ?_
      refine WL_take rfl rfl ?_
      refine W_q (r_not rfl) rfl ?_
      refine W_q (r_pick_t rfl rfl) rfl ?_
      refine W_q (r_assign rfl) rfl ?_
      refine W_nil ?_
      refine NX_as (L' := [(2, _)]) [2] rfl ?_
      refine C_ret (RX_q1 rfl rfl ?_)
      simp_all [mayOpK]
     ·(try simp only [tA, tB, tC, tD, tE, tF, tG, tH, tI, tJ, tK, tL] at h7)
      refine WL_pass rfl rfl rfl rfl ?_
      refine WL_pass rfl rfl rfl rfl ?_
      refine WL_pass rfl rfl rfl rfl ?_
      refine WL_pass rfl rfl rfl rfl ?_
      refine W_q (r_pick_f rfl rfl) rfl ?_
      refine W_q (r_assign rfl) rfl ?_
      refine W_nil ?_
      refine NX_as (L' := [(2, _)]) [2] rfl ?_
      refine C_ret (RX_q1 rfl rfl ?_)
      simp_all [mayOpK]
    ·(try simp only [tA, tB, tC, tD, tE, tF, tG, tH, tI, tJ, tK, tL] at h6)
     refine WL_pass rfl rfl rfl rfl ?_
     refine WL_pass rfl rfl rfl rfl ?_
     refine WL_pass rfl rfl rfl rfl ?_
     refine WL_pass rfl rfl rfl rfl ?_
     refine WL_pass rfl rfl rfl rfl ?_
     refine WL_pass rfl rfl rfl rfl ?_
     refine W_q (r_pick_f rfl rfl) rfl ?_
     refine W_q (r_move rfl) rfl ?_
     refine WL_pass rfl rfl rfl rfl ?_
     refine WL_pass rfl rfl rfl rfl ?_
     refine WL_pass rfl rfl rfl rfl ?_
     refine WL_pass rfl rfl rfl rfl ?_
     refine W_q (r_pick_f rfl rfl) rfl ?_
     refine W_q (r_assign rfl) rfl ?_
     refine W_nil ?_
     refine NX_as (L' := [(2, _)]) [2] rfl ?_
     refine C_ret (RX_q1 rfl rfl ?_)
     simp_all [mayOpK]
   ·(try simp only [tA, tB, tC, tD, tE, tF, tG, tH, tI, tJ, tK, tL] at h5)
    refine WL_pass rfl rfl rfl rfl ?_
    refine W_q (r_pick_f rfl rfl) rfl ?_
    refine W_q (r_move rfl) rfl ?_
    refine WL_pass rfl rfl rfl rfl ?_
    refine WL_pass rfl rfl rfl rfl ?_
    refine WL_pass rfl rfl rfl rfl ?_
    refine WL_pass rfl rfl rfl rfl ?_
    refine WL_pass rfl rfl rfl rfl ?_
    refine WL_pass rfl rfl rfl rfl ?_
    refine W_q (r_pick_f rfl rfl) rfl ?_
    refine W_q (r_move rfl) rfl ?_
    refine WL_pass rfl rfl rfl rfl ?_
    refine WL_pass rfl rfl rfl rfl ?_
    refine WL_pass rfl rfl rfl rfl ?_
    refine WL_pass rfl rfl rfl rfl ?_
    refine W_q (r_pick_f rfl rfl) rfl ?_
    refine W_q (r_assign rfl) rfl ?_
    refine W_nil ?_
    refine NX_as (L' := [(2, _)]) [2] rfl ?_
    refine C_ret (RX_q1 rfl rfl ?_)
    simp_all [mayOpK]
  ·(try simp only [tA, tB, tC, tD, tE, tF, tG, tH, tI, tJ, tK, tL] at h4)
   refine C_skip ?_
   refine NX_as (L' := [(1, _), (2, _), (3, _), (4, _), (5, _)]) [1, 2, 3, 4, 5] rfl ?_
   refine CW_seq ?_
   refine CW_region ?_
   refine W_q (r_move rfl) rfl ?_
   refine W_q (r_move rfl) rfl ?_
   refine WL_split (t := 27) rfl (fun h8 => ?_) (fun h8 => ?_)
   ·(try simp only [tA, tB, tC, tD, tE, tF, tG, tH, tI, tJ, tK, tL] at h8)
    refine WL_take rfl rfl ?_
    refine W_q (r_move rfl) rfl ?_
    refine W_q (r_pick_t rfl rfl) rfl ?_
    refine W_q (r_move rfl) rfl ?_
    refine WL_split (t := 30) rfl (fun h9 => ?_) (fun h9 => ?_)
    ·(try simp only [tA, tB, tC, tD, tE, tF, tG, tH, tI, tJ, tK, tL] at h9)
     refine WL_take rfl rfl ?_
     refine W_q (r_move rfl) rfl ?_
     refine WL_take rfl rfl ?_
     refine W_q (r_len Tryz.underlying113 rfl) rfl ?_
     refine WL_take rfl rfl ?_
     refine W_q (r_fieldb (o' := 4) rfl T.fo51_4 rfl) rfl ?_
     refine WL_take rfl rfl ?_
     refine W_q (r_loadb 0 rfl T.ag22 rfl rfl) rfl ?_
     refine WL_take rfl rfl ?_
     refine W_q (r_len Tryz.underlying22 rfl) rfl ?_
     refine WL_take rfl rfl ?_
     refine W_q (r_bin rfl rfl (bin_eql _ _ _ _)) rfl ?_
     refine W_q (r_pick_t rfl rfl) rfl ?_
     refine W_q (r_move rfl) rfl ?_
     refine WL_split (t := 38) rfl (fun h10 => ?_) (fun h10 => ?_)
     ·(try simp only [tA, tB, tC, tD, tE, tF, tG, tH, tI, tJ, tK, tL] at h10)
      refine WL_take rfl rfl ?_
      refine W_q (r_fieldb (o' := 4) rfl T.fo51_4 rfl) rfl ?_
      refine WL_take rfl rfl ?_
      refine W_q (r_loadb 0 rfl T.ag22 rfl rfl) rfl ?_
      refine WL_take rfl rfl ?_
      refine W_quiet (ContainsFuncI_q h90 (p := fun v => !(valueB v)) (K := 208) T.hb208 (fun z _ => KMay1_q z)) T.hb86 rfl rfl ?_
      refine WL_take rfl rfl ?_
      refine W_q (r_not rfl) rfl ?_
      refine W_q (r_pick_t rfl rfl) rfl ?_
      refine W_q (r_assign rfl) rfl ?_
      refine W_nil ?_
      refine NX_as (L' := [(2, _)]) [2] rfl ?_
      refine C_ret (RX_q1 rfl rfl ?_)
      simp_all [mayOpK]
     ·(try simp only [tA, tB, tC, tD, tE, tF, tG, tH, tI, tJ, tK, tL] at h10)
      refine WL_pass rfl rfl rfl rfl ?_
      refine WL_pass rfl rfl rfl rfl ?_
      refine WL_pass rfl rfl rfl rfl ?_
      refine WL_pass rfl rfl rfl rfl ?_
      refine W_q (r_pick_f rfl rfl) rfl ?_
      refine W_q (r_assign rfl) rfl ?_
      refine W_nil ?_
      refine NX_as (L' := [(2, _)]) [2] rfl ?_
      refine C_ret (RX_q1 rfl rfl ?_)
      simp_all [mayOpK]
    ·(try simp only [tA, tB, tC, tD, tE, tF, tG, tH, tI, tJ, tK, tL] at h9)
     refine WL_pass rfl rfl rfl rfl ?_
     refine WL_pass rfl rfl rfl rfl ?_
     refine WL_pass rfl rfl rfl rfl ?_
     refine WL_pass rfl rfl rfl rfl ?_
     refine WL_pass rfl rfl rfl rfl ?_
     refine WL_pass rfl rfl rfl rfl ?_
     refine W_q (r_pick_f rfl rfl) rfl ?_
     refine W_q (r_move rfl) rfl ?_
     refine WL_pass rfl rfl rfl rfl ?_
     refine WL_pass rfl rfl rfl rfl ?_
     refine WL_pass rfl rfl rfl rfl ?_
     refine WL_pass rfl rfl rfl rfl ?_
     refine W_q (r_pick_f rfl rfl) rfl ?_
     refine W_q (r_assign rfl) rfl ?_
     refine W_nil ?_
     refine NX_as (L' := [(2, _)]) [2] rfl ?_
     refine C_ret (RX_q1 rfl rfl ?_)
     simp_all [mayOpK]
   ·(try simp only [tA, tB, tC, tD, tE, tF, tG, tH, tI, tJ, tK, tL] at h8)
    refine WL_pass rfl rfl rfl rfl ?_
    refine W_q (r_pick_f rfl rfl) rfl ?_
    refine W_q (r_move rfl) rfl ?_
    refine WL_pass rfl rfl rfl rfl ?_
    refine WL_pass rfl rfl rfl rfl ?_
    refine WL_pass rfl rfl rfl rfl ?_
    refine WL_pass rfl rfl rfl rfl ?_
    refine WL_pass rfl rfl rfl rfl ?_
    refine WL_pass rfl rfl rfl rfl ?_
    refine W_q (r_pick_f rfl rfl) rfl ?_
    refine W_q (r_move rfl) rfl ?_
    refine WL_pass rfl rfl rfl rfl ?_
    refine WL_pass rfl rfl rfl rfl ?_
    refine WL_pass rfl rfl rfl rfl ?_
    refine WL_pass rfl rfl rfl rfl ?_
    refine W_q (r_pick_f rfl rfl) rfl ?_
    refine W_q (r_assign rfl) rfl ?_
    refine W_nil ?_
    refine NX_as (L' := [(2, _)]) [2] rfl ?_
    refine C_ret (RX_q1 rfl rfl ?_)
    simp_all [mayOpK]

set_option maxHeartbeats 40000000 in
/-- kind.Takes -/
theorem Takes_g {m : Imm} {es : List Value} {o : FOp} (hO : rOp m es o) : Gives Tryz.prog 192 [.agg es.toArray] m (PairsΦ (takesK o)) := by
 have hO_0 := hO
 obtain ⟨A90, c90, rfl, h90, i90a, i90b, i90c, i90d, i90e⟩ := hO_0
 refine gives_of Tryz.func192 rfl Tryz.ntmps192 rfl (fun w => ?_)
 refine CW_seq ?_
 refine CW_region ?_
 refine S_box (l := [_, _, _, _, _, _]) rfl rfl rfl (fun b1 => ?_)
 refine W_q (r_assign rfl) rfl ?_
 refine W_nil ?_
 refine NX_as (L' := [(1, _), (2, _)]) [1, 2] rfl ?_
 refine CW_seq ?_
 refine CW_seq ?_
 refine CW_region ?_
 refine W_q (r_loadbk 0 (vs := [_, _, _, _, _, _]) rfl T.ag51 T.sz51 rfl rfl rfl) rfl ?_
 refine W_quiet (KMay_q hO) T.hb190 rfl rfl ?_
 refine W_q (r_not rfl) rfl ?_
 refine W_nil ?_
 refine NX_as (L' := [(1, _), (2, _), (7, _)]) [1, 2, 7] rfl ?_
 refine CW_condk rfl (fun h2 => ?_) (fun h2 => ?_)
 ·(try simp only [tA, tB, tC, tD, tE, tF, tG, tH, tI, tJ, tK, tL] at h2)
  refine CW_seq ?_
  refine CW_region ?_
  refine W_q (r_assign rfl) rfl ?_
  refine W_nil ?_
  refine NX_as (L' := [(1, _), (2, _)]) [1, 2] rfl ?_
  refine C_ret (RX_then (RX_g1 rfl rfl (takesK_mk (Sl.nil _ _ _) ?_)))
  simp_all [takesK]
 ·(try simp only [tA, tB, tC, tD, tE, tF, tG, tH, tI, tJ, tK, tL] at h2)
  refine C_skip ?_
  refine NX_as (L' := [(1, _), (2, _)]) [1, 2] rfl ?_
  refine CW_seq ?_
  refine CW_region ?_
  refine W_q (r_loadbk 0 (vs := [_, _, _, _, _, _]) rfl T.ag51 T.sz51 rfl rfl rfl) rfl ?_
  refine S_gives (takes_g hO (mayOpK_shape h2)) T.hb206 rfl rfl (fun m3 v3 le3 hv3 => ?_)
  replace hO := rOp_mono _ _ _ _ le3 hO
  replace h90 := h90.mono rI_mono le3
  obtain ⟨A3, c3, rfl, h3⟩ := hv3
  refine W_q (r_move rfl) rfl ?_
  refine W_q (r_extract rfl rfl) rfl ?_
  refine W_q (r_extract rfl rfl) rfl ?_
  refine W_q (r_assign rfl) rfl ?_
  refine W_q (r_assign rfl) rfl ?_
  refine W_nil ?_
  refine NX_as (L' := [(2, _), (3, _)]) [2, 3] rfl ?_
  refine CW_seq ?_
  refine CW_region ?_
  refine W_q (r_move rfl) rfl ?_
  refine W_q (r_assign rfl) rfl ?_
  refine W_nil ?_
  refine NX_as (L' := [(2, _)]) [2] rfl ?_
  refine C_ret (RX_g1 rfl rfl (takesK_mk h3 ?_))
  simp_all [takesK]

set_option maxHeartbeats 40000000 in
/-- kind.Gives -/
theorem Gives_q {m : Imm} {es : List Value} {o : FOp} (hO : rOp m es o) : Quiet Tryz.prog 161 [.agg es.toArray] m (.tuple #[.int .i64 (givesP o).1, .int .i64 (givesP o).2]) := by
 have hO_0 := hO
 obtain ⟨A90, c90, rfl, h90, i90a, i90b, i90c, i90d, i90e⟩ := hO_0
 refine quiet_of Tryz.func161 rfl Tryz.ntmps161 rfl (fun w => ?_)
 refine CW_seq ?_
 refine CW_region ?_
 refine S_box (l := [_, _, _, _, _, _]) rfl rfl rfl (fun b1 => ?_)
 refine W_q (r_assign rfl) rfl ?_
 refine W_q (r_assign rfl) rfl ?_
 refine W_nil ?_
 refine NX_as (L' := [(1, _), (2, _), (3, _)]) [1, 2, 3] rfl ?_
 refine CW_seq ?_
 refine CW_block ?_
 refine CW_seq ?_
 refine CW_region ?_
 refine W_q (r_loadbk 0 (vs := [_, _, _, _, _, _]) rfl T.ag51 T.sz51 rfl rfl rfl) rfl ?_
 refine W_quiet (KMay_q hO) T.hb190 rfl rfl ?_
 refine W_q (r_not rfl) rfl ?_
 refine W_q (r_move rfl) rfl ?_
 refine WL_split (t := 8) rfl (fun h2 => ?_) (fun h2 => ?_)
 ·(try simp only [tA, tB, tC, tD, tE, tF, tG, tH, tI, tJ, tK, tL] at h2)
  refine WL_pass rfl rfl rfl rfl ?_
  refine WL_pass rfl rfl rfl rfl ?_
  refine WL_pass rfl rfl rfl rfl ?_
  refine W_q (r_pick_t rfl rfl) rfl ?_
  refine W_q (r_assign rfl) rfl ?_
  refine W_nil ?_
  refine NX_as (L' := [(1, _), (2, _), (3, _), (4, _)]) [1, 2, 3, 4] rfl ?_
  refine CW_cond_t rfl ?_
  refine CW_seq ?_
  refine CW_region ?_
  refine W_q (r_assign rfl) rfl ?_
  refine W_q (r_assign rfl) rfl ?_
  refine W_nil ?_
  refine NX_as (L' := [(1, _), (2, _), (3, _)]) [1, 2, 3] rfl ?_
  refine C_ret (RX_block (RX_then (RX_q2 rfl rfl rfl ?_ ?_)))
  ·first
     | (simp_all [givesP]; done)
     | (simp_all [givesP]; rw [if_neg (by omega)])
  ·first
     | (simp_all [givesP]; done)
     | (simp_all [givesP]; rw [if_neg (by omega)])
 ·(try simp only [tA, tB, tC, tD, tE, tF, tG, tH, tI, tJ, tK, tL] at h2)
  refine WL_take rfl rfl ?_
  refine W_q (r_fieldb (o' := 0) rfl T.fo51_0 rfl) rfl ?_
  refine WL_take rfl rfl ?_
  refine W_q (r_loadb 0 rfl T.ag3 rfl rfl) rfl ?_
  refine WL_take rfl rfl ?_
  refine W_quiet (stores_q _) T.hb191 rfl rfl ?_
  refine W_q (r_pick_f rfl rfl) rfl ?_
  refine W_q (r_assign rfl) rfl ?_
  refine W_nil ?_
  refine NX_as (L' := [(1, _), (2, _), (3, _), (4, _)]) [1, 2, 3, 4] rfl ?_
  refine CW_condk rfl (fun h3 => ?_) (fun h3 => ?_)
  ·(try simp only [tA, tB, tC, tD, tE, tF, tG, tH, tI, tJ, tK, tL] at h3)
   refine CW_seq ?_
   refine CW_region ?_
   refine W_q (r_assign rfl) rfl ?_
   refine W_q (r_assign rfl) rfl ?_
   refine W_nil ?_
   refine NX_as (L' := [(1, _), (2, _), (3, _)]) [1, 2, 3] rfl ?_
   refine C_ret (RX_block (RX_then (RX_q2 rfl rfl rfl ?_ ?_)))
   ·first
      | (simp_all [givesP]; done)
      | (simp_all [givesP]; rw [if_neg (by omega)])
   ·first
      | (simp_all [givesP]; done)
      | (simp_all [givesP]; rw [if_neg (by omega)])
  ·(try simp only [tA, tB, tC, tD, tE, tF, tG, tH, tI, tJ, tK, tL] at h3)
   refine CW_seq ?_
   refine CW_region ?_
   refine W_q (r_fieldb (o' := 0) rfl T.fo51_0 rfl) rfl ?_
   refine W_q (r_loadb 0 rfl T.ag3 rfl rfl) rfl ?_
   refine W_q (r_bin rfl rfl (bin_geq _ _ _ _)) rfl ?_
   refine W_q (r_move rfl) rfl ?_
   refine WL_split (t := 17) rfl (fun h4 => ?_) (fun h4 => ?_)
   ·(try simp only [tA, tB, tC, tD, tE, tF, tG, tH, tI, tJ, tK, tL] at h4)
    refine WL_take rfl rfl ?_
    refine W_q (r_fieldb (o' := 0) rfl T.fo51_0 rfl) rfl ?_
    refine WL_take rfl rfl ?_
    refine W_q (r_loadb 0 rfl T.ag3 rfl rfl) rfl ?_
    refine WL_take rfl rfl ?_
    refine W_q (r_bin rfl rfl (bin_leq _ _ _ _)) rfl ?_
    refine W_q (r_pick_t rfl rfl) rfl ?_
    refine W_q (r_assign rfl) rfl ?_
    refine W_nil ?_
    refine NX_as (L' := [(1, _), (2, _), (3, _), (13, _)]) [1, 2, 3, 13] rfl ?_
    refine CW_condk rfl (fun h5 => ?_) (fun h5 => ?_)
    ·(try simp only [tA, tB, tC, tD, tE, tF, tG, tH, tI, tJ, tK, tL] at h5)
     refine CW_seq ?_
     refine CW_region ?_
     refine W_q (r_assign rfl) rfl ?_
     refine W_q (r_assign rfl) rfl ?_
     refine W_nil ?_
     refine NX_as (L' := [(1, _), (2, _), (3, _)]) [1, 2, 3] rfl ?_
     refine C_ret (RX_block (RX_then (RX_q2 rfl rfl rfl ?_ ?_)))
     ·first
        | (simp_all [givesP]; done)
        | (simp_all [givesP]; rw [if_neg (by omega)])
     ·first
        | (simp_all [givesP]; done)
        | (simp_all [givesP]; rw [if_neg (by omega)])
    ·(try simp only [tA, tB, tC, tD, tE, tF, tG, tH, tI, tJ, tK, tL] at h5)
     refine CW_seq ?_
     refine CW_region ?_
     refine W_q (r_fieldb (o' := 0) rfl T.fo51_0 rfl) rfl ?_
     refine W_q (r_loadb 0 rfl T.ag3 rfl rfl) rfl ?_
     refine W_q (r_bin rfl rfl (bin_eql _ _ _ _)) rfl ?_
     refine W_q (r_assign rfl) rfl ?_
     refine W_nil ?_
     refine NX_as (L' := [(1, _), (2, _), (3, _), (22, _)]) [1, 2, 3, 22] rfl ?_
     refine CW_condk rfl (fun h6 => ?_) (fun h6 => ?_)
     ·(try simp only [tA, tB, tC, tD, tE, tF, tG, tH, tI, tJ, tK, tL] at h6)
      refine CW_seq ?_
      refine CW_region ?_
      refine W_q (r_fieldb (o' := 1) rfl T.fo51_1 rfl) rfl ?_
      refine W_q (r_loadb 0 rfl T.ag3 rfl rfl) rfl ?_
      refine W_q (r_assign rfl) rfl ?_
      refine W_q (r_assign rfl) rfl ?_
      refine W_nil ?_
      refine NX_as (L' := [(1, _), (2, _), (3, _)]) [1, 2, 3] rfl ?_
      refine C_ret (RX_block (RX_then (RX_q2 rfl rfl rfl ?_ ?_)))
      ·first
         | (simp_all [givesP]; done)
         | (simp_all [givesP]; rw [if_neg (by omega)])
      ·first
         | (simp_all [givesP]; done)
         | (simp_all [givesP]; rw [if_neg (by omega)])
     ·(try simp only [tA, tB, tC, tD, tE, tF, tG, tH, tI, tJ, tK, tL] at h6)
      refine C_skip ?_
      refine NX_block (NX_as (L' := [(1, _), (2, _), (3, _)]) [1, 2, 3] rfl ?_)
      refine CW_seq ?_
      refine C_drawn [(0, true), (1, true), (2, true), (3, true), (4, true), (5, true)] (by kernel_rfl) rfl (by kernel_rfl) (by kernel_rfl) ?_
      refine D_q rfl (r_fieldb (o' := 1) rfl T.fo51_1 rfl) rfl ?_
      refine D_q rfl (r_loadb 0 rfl T.ag3 rfl rfl) rfl ?_
      refine D_q rfl (r_fieldb (o' := 2) rfl T.fo51_2 rfl) rfl ?_
      refine D_q rfl (r_loadb 0 rfl T.ag3 rfl rfl) rfl ?_
      refine D_q rfl (r_assign rfl) rfl ?_
      refine D_q rfl (r_assign rfl) rfl ?_
      refine D_end ?_
      refine NX_as (L' := [(2, _), (3, _)]) [2, 3] rfl ?_
      refine C_ret (RX_q2 rfl rfl rfl ?_ ?_)
      ·first
         | (simp_all [givesP]; done)
         | (simp_all [givesP]; rw [if_neg (by omega)])
      ·first
         | (simp_all [givesP]; done)
         | (simp_all [givesP]; rw [if_neg (by omega)])
   ·(try simp only [tA, tB, tC, tD, tE, tF, tG, tH, tI, tJ, tK, tL] at h4)
    refine WL_pass rfl rfl rfl rfl ?_
    refine WL_pass rfl rfl rfl rfl ?_
    refine WL_pass rfl rfl rfl rfl ?_
    refine W_q (r_pick_f rfl rfl) rfl ?_
    refine W_q (r_assign rfl) rfl ?_
    refine W_nil ?_
    refine NX_as (L' := [(1, _), (2, _), (3, _), (13, _)]) [1, 2, 3, 13] rfl ?_
    refine CW_cond_f rfl ?_
    refine CW_seq ?_
    refine CW_region ?_
    refine W_q (r_fieldb (o' := 0) rfl T.fo51_0 rfl) rfl ?_
    refine W_q (r_loadb 0 rfl T.ag3 rfl rfl) rfl ?_
    refine W_q (r_bin rfl rfl (bin_eql _ _ _ _)) rfl ?_
    refine W_q (r_assign rfl) rfl ?_
    refine W_nil ?_
    refine NX_as (L' := [(1, _), (2, _), (3, _), (22, _)]) [1, 2, 3, 22] rfl ?_
    refine CW_condk rfl (fun h7 => ?_) (fun h7 => ?_)
    ·(try simp only [tA, tB, tC, tD, tE, tF, tG, tH, tI, tJ, tK, tL] at h7)
     refine CW_seq ?_
     refine CW_region ?_
     refine W_q (r_fieldb (o' := 1) rfl T.fo51_1 rfl) rfl ?_
     refine W_q (r_loadb 0 rfl T.ag3 rfl rfl) rfl ?_
     refine W_q (r_assign rfl) rfl ?_
     refine W_q (r_assign rfl) rfl ?_
     refine W_nil ?_
     refine NX_as (L' := [(1, _), (2, _), (3, _)]) [1, 2, 3] rfl ?_
     refine C_ret (RX_block (RX_then (RX_q2 rfl rfl rfl ?_ ?_)))
     ·first
        | (simp_all [givesP]; done)
        | (simp_all [givesP]; rw [if_neg (by omega)])
     ·first
        | (simp_all [givesP]; done)
        | (simp_all [givesP]; rw [if_neg (by omega)])
    ·(try simp only [tA, tB, tC, tD, tE, tF, tG, tH, tI, tJ, tK, tL] at h7)
     refine C_skip ?_
     refine NX_block (NX_as (L' := [(1, _), (2, _), (3, _)]) [1, 2, 3] rfl ?_)
     refine CW_seq ?_
     refine C_drawn [(0, true), (1, true), (2, true), (3, true), (4, true), (5, true)] (by kernel_rfl) rfl (by kernel_rfl) (by kernel_rfl) ?_
     refine D_q rfl (r_fieldb (o' := 1) rfl T.fo51_1 rfl) rfl ?_
     refine D_q rfl (r_loadb 0 rfl T.ag3 rfl rfl) rfl ?_
     refine D_q rfl (r_fieldb (o' := 2) rfl T.fo51_2 rfl) rfl ?_
     refine D_q rfl (r_loadb 0 rfl T.ag3 rfl rfl) rfl ?_
     refine D_q rfl (r_assign rfl) rfl ?_
     refine D_q rfl (r_assign rfl) rfl ?_
     refine D_end ?_
     refine NX_as (L' := [(2, _), (3, _)]) [2, 3] rfl ?_
     refine C_ret (RX_q2 rfl rfl rfl ?_ ?_)
     ·first
        | (simp_all [givesP]; done)
        | (simp_all [givesP]; rw [if_neg (by omega)])
     ·first
        | (simp_all [givesP]; done)
        | (simp_all [givesP]; rw [if_neg (by omega)])

end Go.Proofs.YtipmgkhjoekaaaaGreat

