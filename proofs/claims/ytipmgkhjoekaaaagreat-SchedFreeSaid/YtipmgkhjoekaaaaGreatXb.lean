/- A part of a proof about a given program: rules, plain functions and walks. -/
import Derived.Test.YtipmgkhjoekaaaaGreatProg
import Derived.Test.YtipmgkhjoekaaaaGreatXa
set_option linter.unusedVariables false
set_option linter.unusedSimpArgs false
namespace Go.Proofs.YtipmgkhjoekaaaaGreat
open Go Go.RowKit Go.Proofs Go.Proofs.YtipmgkhjoekaaaaGreat.Fw
attribute [local irreducible] Qt WL CW NX RX EX GX DL
namespace T
theorem ag22 : agg? Tryz.prog 22 = some false := by kernel_rfl
theorem ag3 : agg? Tryz.prog 3 = some false := by kernel_rfl
theorem ag44 : agg? Tryz.prog 44 = some true := by kernel_rfl
theorem ag51 : agg? Tryz.prog 51 = some true := by kernel_rfl
theorem ag61 : agg? Tryz.prog 61 = some true := by kernel_rfl
theorem hb126 : hasBody Tryz.prog 126 = true := by kernel_rfl
theorem hb148 : hasBody Tryz.prog 148 = true := by kernel_rfl
theorem hb152 : hasBody Tryz.prog 152 = true := by kernel_rfl
theorem hb181 : hasBody Tryz.prog 181 = true := by kernel_rfl
theorem hb188 : hasBody Tryz.prog 188 = true := by kernel_rfl
theorem hb189 : hasBody Tryz.prog 189 = true := by kernel_rfl
theorem sz22 : sz? Tryz.prog 22 = some 1 := by kernel_rfl
theorem sz3 : sz? Tryz.prog 3 = some 1 := by kernel_rfl
theorem sz44 : sz? Tryz.prog 44 = some 5 := by kernel_rfl
theorem sz51 : sz? Tryz.prog 51 = some 6 := by kernel_rfl
theorem sz61 : sz? Tryz.prog 61 = some 4 := by kernel_rfl
end T
set_option maxHeartbeats 4000000 in
/-- word.May -/
theorem May_q {m : Imm} (b : Int) : Quiet Tryz.prog 152 [.int .i64 b] m (.bool (mayW b)) := by
  refine quiet_of Tryz.func152 rfl Tryz.ntmps152 rfl (fun w => ?_)
  refine CW_seq ?_
  refine CW_region ?_
  refine W_q (r_assign rfl) rfl ?_
  refine W_nil ?_
  refine NX_as (L' := [(0, _), (2, _)]) [0, 2] rfl ?_
  refine CW_seq ?_
  refine CW_seq ?_
  refine CW_region ?_
  refine W_q (r_move rfl) rfl ?_
  refine W_nil ?_
  refine NX_as (L' := [(2, _), (3, _)]) [2, 3] rfl ?_
  refine CW_block ?_
  refine CW_seq ?_
  refine CW_seq ?_
  refine CW_region ?_
  refine W_q (r_bin rfl rfl (bin_eql _ _ _ _)) rfl ?_
  refine W_q (r_assign rfl) rfl ?_
  refine W_nil ?_
  refine NX_as (L' := [(2, _), (3, _), (4, _)]) [2, 3, 4] rfl ?_
  refine CW_condk rfl (fun h1 => ?_) (fun h1 => ?_)
  · (try simp only [decide_eq_true_eq, decide_eq_false_iff_not, beq_iff_eq, beq_eq_false_iff_ne, bne_iff_ne, bne_eq_false_iff_eq, Bool.not_eq_true', Bool.not_eq_false', Bool.not_eq_true, Bool.not_eq_false, ne_eq, Decidable.not_not] at h1)
    refine C_skip ?_
    refine NX_as (L' := [(2, _), (4, _)]) [2, 4] rfl ?_
    refine CW_cond_t rfl ?_
    refine CW_seq ?_
    refine CW_region ?_
    refine W_q (r_assign rfl) rfl ?_
    refine W_nil ?_
    refine NX_as (L' := [(2, _)]) [2] rfl ?_
    refine C_ret (RX_block (RX_then (RX_q1 rfl rfl ?_)))
    simp [mayW, *]
  · (try simp only [decide_eq_true_eq, decide_eq_false_iff_not, beq_iff_eq, beq_eq_false_iff_ne, bne_iff_ne, bne_eq_false_iff_eq, Bool.not_eq_true', Bool.not_eq_false', Bool.not_eq_true, Bool.not_eq_false, ne_eq, Decidable.not_not] at h1)
    refine CW_seq ?_
    refine CW_region ?_
    refine W_q (r_bin rfl rfl (bin_eql _ _ _ _)) rfl ?_
    refine W_q (r_assign rfl) rfl ?_
    refine W_nil ?_
    refine NX_as (L' := [(2, _), (3, _), (4, _)]) [2, 3, 4] rfl ?_
    refine CW_condk rfl (fun h2 => ?_) (fun h2 => ?_)
    · (try simp only [decide_eq_true_eq, decide_eq_false_iff_not, beq_iff_eq, beq_eq_false_iff_ne, bne_iff_ne, bne_eq_false_iff_eq, Bool.not_eq_true', Bool.not_eq_false', Bool.not_eq_true, Bool.not_eq_false, ne_eq, Decidable.not_not] at h2)
      refine C_skip ?_
      refine NX_as (L' := [(2, _), (4, _)]) [2, 4] rfl ?_
      refine CW_cond_t rfl ?_
      refine CW_seq ?_
      refine CW_region ?_
      refine W_q (r_assign rfl) rfl ?_
      refine W_nil ?_
      refine NX_as (L' := [(2, _)]) [2] rfl ?_
      refine C_ret (RX_block (RX_then (RX_q1 rfl rfl ?_)))
      simp [mayW, *]
    · (try simp only [decide_eq_true_eq, decide_eq_false_iff_not, beq_iff_eq, beq_eq_false_iff_ne, bne_iff_ne, bne_eq_false_iff_eq, Bool.not_eq_true', Bool.not_eq_false', Bool.not_eq_true, Bool.not_eq_false, ne_eq, Decidable.not_not] at h2)
      refine CW_seq ?_
      refine CW_region ?_
      refine W_q (r_bin rfl rfl (bin_eql _ _ _ _)) rfl ?_
      refine W_q (r_assign rfl) rfl ?_
      refine W_nil ?_
      refine NX_as (L' := [(2, _), (3, _), (4, _)]) [2, 3, 4] rfl ?_
      refine CW_condk rfl (fun h3 => ?_) (fun h3 => ?_)
      · (try simp only [decide_eq_true_eq, decide_eq_false_iff_not, beq_iff_eq, beq_eq_false_iff_ne, bne_iff_ne, bne_eq_false_iff_eq, Bool.not_eq_true', Bool.not_eq_false', Bool.not_eq_true, Bool.not_eq_false, ne_eq, Decidable.not_not] at h3)
        refine C_skip ?_
        refine NX_as (L' := [(2, _), (4, _)]) [2, 4] rfl ?_
        refine CW_cond_t rfl ?_
        refine CW_seq ?_
        refine CW_region ?_
        refine W_q (r_assign rfl) rfl ?_
        refine W_nil ?_
        refine NX_as (L' := [(2, _)]) [2] rfl ?_
        refine C_ret (RX_block (RX_then (RX_q1 rfl rfl ?_)))
        simp [mayW, *]
      · (try simp only [decide_eq_true_eq, decide_eq_false_iff_not, beq_iff_eq, beq_eq_false_iff_ne, bne_iff_ne, bne_eq_false_iff_eq, Bool.not_eq_true', Bool.not_eq_false', Bool.not_eq_true, Bool.not_eq_false, ne_eq, Decidable.not_not] at h3)
        refine CW_seq ?_
        refine CW_region ?_
        refine W_q (r_bin rfl rfl (bin_eql _ _ _ _)) rfl ?_
        refine W_q (r_assign rfl) rfl ?_
        refine W_nil ?_
        refine NX_as (L' := [(2, _), (3, _), (4, _)]) [2, 3, 4] rfl ?_
        refine CW_condk rfl (fun h4 => ?_) (fun h4 => ?_)
        · (try simp only [decide_eq_true_eq, decide_eq_false_iff_not, beq_iff_eq, beq_eq_false_iff_ne, bne_iff_ne, bne_eq_false_iff_eq, Bool.not_eq_true', Bool.not_eq_false', Bool.not_eq_true, Bool.not_eq_false, ne_eq, Decidable.not_not] at h4)
          refine C_skip ?_
          refine NX_as (L' := [(2, _), (4, _)]) [2, 4] rfl ?_
          refine CW_cond_t rfl ?_
          refine CW_seq ?_
          refine CW_region ?_
          refine W_q (r_assign rfl) rfl ?_
          refine W_nil ?_
          refine NX_as (L' := [(2, _)]) [2] rfl ?_
          refine C_ret (RX_block (RX_then (RX_q1 rfl rfl ?_)))
          simp [mayW, *]
        · (try simp only [decide_eq_true_eq, decide_eq_false_iff_not, beq_iff_eq, beq_eq_false_iff_ne, bne_iff_ne, bne_eq_false_iff_eq, Bool.not_eq_true', Bool.not_eq_false', Bool.not_eq_true, Bool.not_eq_false, ne_eq, Decidable.not_not] at h4)
          refine CW_region ?_
          refine W_q (r_bin rfl rfl (bin_eql _ _ _ _)) rfl ?_
          refine W_q (r_assign rfl) rfl ?_
          refine W_nil ?_
          refine NX_as (L' := [(2, _), (4, _)]) [2, 4] rfl ?_
          refine CW_condk rfl (fun h5 => ?_) (fun h5 => ?_)
          · (try simp only [decide_eq_true_eq, decide_eq_false_iff_not, beq_iff_eq, beq_eq_false_iff_ne, bne_iff_ne, bne_eq_false_iff_eq, Bool.not_eq_true', Bool.not_eq_false', Bool.not_eq_true, Bool.not_eq_false, ne_eq, Decidable.not_not] at h5)
            refine CW_seq ?_
            refine CW_region ?_
            refine W_q (r_assign rfl) rfl ?_
            refine W_nil ?_
            refine NX_as (L' := [(2, _)]) [2] rfl ?_
            refine C_ret (RX_block (RX_then (RX_q1 rfl rfl ?_)))
            simp [mayW, *]
          · (try simp only [decide_eq_true_eq, decide_eq_false_iff_not, beq_iff_eq, beq_eq_false_iff_ne, bne_iff_ne, bne_eq_false_iff_eq, Bool.not_eq_true', Bool.not_eq_false', Bool.not_eq_true, Bool.not_eq_false, ne_eq, Decidable.not_not] at h5)
            refine C_skip ?_
            refine NX_block (NX_as (L' := [(2, _)]) [2] rfl ?_)
            refine CW_seq ?_
            refine CW_region ?_
            refine W_q (r_assign rfl) rfl ?_
            refine W_nil ?_
            refine NX_as (L' := [(2, _)]) [2] rfl ?_
            refine C_ret (RX_q1 rfl rfl ?_)
            simp [mayW, *]

set_option maxHeartbeats 4000000 in
/-- kind.value -/
theorem value_q {m : Imm} (v : Int) : Quiet Tryz.prog 207 [.int .i64 v] m (.bool (valueB v)) := by
  refine quiet_of Tryz.func207 rfl Tryz.ntmps207 rfl (fun w => ?_)
  refine CW_seq ?_
  refine CW_region ?_
  refine W_q (r_assign rfl) rfl ?_
  refine W_nil ?_
  refine NX_as (L' := [(0, _), (2, _)]) [0, 2] rfl ?_
  refine CW_seq ?_
  refine CW_region ?_
  refine W_q (r_move rfl) rfl ?_
  refine W_q (r_bin rfl rfl (bin_geq _ _ _ _)) rfl ?_
  refine W_q (r_move rfl) rfl ?_
  refine WL_split (t := 5) rfl (fun h1 => ?_) (fun h1 => ?_)
  · (try simp only [decide_eq_true_eq, decide_eq_false_iff_not, beq_iff_eq, beq_eq_false_iff_ne, bne_iff_ne, bne_eq_false_iff_eq, Bool.not_eq_true', Bool.not_eq_false', Bool.not_eq_true, Bool.not_eq_false, ne_eq, Decidable.not_not] at h1)
    refine WL_take rfl rfl ?_
    refine W_q (r_move rfl) rfl ?_
    refine WL_take rfl rfl ?_
    refine W_q (r_bin rfl rfl (bin_leq _ _ _ _)) rfl ?_
    refine W_q (r_pick_t rfl rfl) rfl ?_
    refine W_q (r_assign rfl) rfl ?_
    refine W_nil ?_
    refine NX_as (L' := [(2, _)]) [2] rfl ?_
    refine C_ret (RX_q1 rfl rfl ?_)
    simp [valueB, *]
  · (try simp only [decide_eq_true_eq, decide_eq_false_iff_not, beq_iff_eq, beq_eq_false_iff_ne, bne_iff_ne, bne_eq_false_iff_eq, Bool.not_eq_true', Bool.not_eq_false', Bool.not_eq_true, Bool.not_eq_false, ne_eq, Decidable.not_not] at h1)
    refine WL_pass rfl rfl rfl rfl ?_
    refine WL_pass rfl rfl rfl rfl ?_
    refine W_q (r_pick_f rfl rfl) rfl ?_
    refine W_q (r_assign rfl) rfl ?_
    refine W_nil ?_
    refine NX_as (L' := [(2, _)]) [2] rfl ?_
    refine C_ret (RX_q1 rfl rfl ?_)
    simp [valueB, *]

set_option maxHeartbeats 4000000 in
/-- kind.Pure -/
theorem Pure_q {m : Imm} (k : Int) : Quiet Tryz.prog 53 [.int .i64 k] m (.bool (pureK k)) := by
  refine quiet_of Tryz.func53 rfl Tryz.ntmps53 rfl (fun w => ?_)
  refine CW_seq ?_
  refine CW_region ?_
  refine W_q (r_assign rfl) rfl ?_
  refine W_nil ?_
  refine NX_as (L' := [(0, _), (2, _)]) [0, 2] rfl ?_
  refine CW_seq ?_
  refine CW_seq ?_
  refine CW_region ?_
  refine W_q (r_move rfl) rfl ?_
  refine W_nil ?_
  refine NX_as (L' := [(0, _), (2, _), (3, _)]) [0, 2, 3] rfl ?_
  refine CW_block ?_
  refine CW_seq ?_
  refine CW_seq ?_
  refine CW_region ?_
  refine W_q (r_bin rfl rfl (bin_eql _ _ _ _)) rfl ?_
  refine W_q (r_assign rfl) rfl ?_
  refine W_nil ?_
  refine NX_as (L' := [(0, _), (2, _), (3, _), (4, _)]) [0, 2, 3, 4] rfl ?_
  refine CW_condk rfl (fun h1 => ?_) (fun h1 => ?_)
  · (try simp only [decide_eq_true_eq, decide_eq_false_iff_not, beq_iff_eq, beq_eq_false_iff_ne, bne_iff_ne, bne_eq_false_iff_eq, Bool.not_eq_true', Bool.not_eq_false', Bool.not_eq_true, Bool.not_eq_false, ne_eq, Decidable.not_not] at h1)
    refine C_skip ?_
    refine NX_as (L' := [(0, _), (2, _), (4, _)]) [0, 2, 4] rfl ?_
    refine CW_cond_t rfl ?_
    refine CW_seq ?_
    refine CW_region ?_
    refine W_q (r_assign rfl) rfl ?_
    refine W_nil ?_
    refine NX_as (L' := [(0, _), (2, _)]) [0, 2] rfl ?_
    refine C_ret (RX_block (RX_then (RX_q1 rfl rfl ?_)))
    simp [pureK, *]
  · (try simp only [decide_eq_true_eq, decide_eq_false_iff_not, beq_iff_eq, beq_eq_false_iff_ne, bne_iff_ne, bne_eq_false_iff_eq, Bool.not_eq_true', Bool.not_eq_false', Bool.not_eq_true, Bool.not_eq_false, ne_eq, Decidable.not_not] at h1)
    refine CW_seq ?_
    refine CW_region ?_
    refine W_q (r_bin rfl rfl (bin_eql _ _ _ _)) rfl ?_
    refine W_q (r_assign rfl) rfl ?_
    refine W_nil ?_
    refine NX_as (L' := [(0, _), (2, _), (3, _), (4, _)]) [0, 2, 3, 4] rfl ?_
    refine CW_condk rfl (fun h2 => ?_) (fun h2 => ?_)
    · (try simp only [decide_eq_true_eq, decide_eq_false_iff_not, beq_iff_eq, beq_eq_false_iff_ne, bne_iff_ne, bne_eq_false_iff_eq, Bool.not_eq_true', Bool.not_eq_false', Bool.not_eq_true, Bool.not_eq_false, ne_eq, Decidable.not_not] at h2)
      refine C_skip ?_
      refine NX_as (L' := [(0, _), (2, _), (4, _)]) [0, 2, 4] rfl ?_
      refine CW_cond_t rfl ?_
      refine CW_seq ?_
      refine CW_region ?_
      refine W_q (r_assign rfl) rfl ?_
      refine W_nil ?_
      refine NX_as (L' := [(0, _), (2, _)]) [0, 2] rfl ?_
      refine C_ret (RX_block (RX_then (RX_q1 rfl rfl ?_)))
      simp [pureK, *]
    · (try simp only [decide_eq_true_eq, decide_eq_false_iff_not, beq_iff_eq, beq_eq_false_iff_ne, bne_iff_ne, bne_eq_false_iff_eq, Bool.not_eq_true', Bool.not_eq_false', Bool.not_eq_true, Bool.not_eq_false, ne_eq, Decidable.not_not] at h2)
      refine CW_seq ?_
      refine CW_region ?_
      refine W_q (r_bin rfl rfl (bin_eql _ _ _ _)) rfl ?_
      refine W_q (r_assign rfl) rfl ?_
      refine W_nil ?_
      refine NX_as (L' := [(0, _), (2, _), (3, _), (4, _)]) [0, 2, 3, 4] rfl ?_
      refine CW_condk rfl (fun h3 => ?_) (fun h3 => ?_)
      · (try simp only [decide_eq_true_eq, decide_eq_false_iff_not, beq_iff_eq, beq_eq_false_iff_ne, bne_iff_ne, bne_eq_false_iff_eq, Bool.not_eq_true', Bool.not_eq_false', Bool.not_eq_true, Bool.not_eq_false, ne_eq, Decidable.not_not] at h3)
        refine C_skip ?_
        refine NX_as (L' := [(0, _), (2, _), (4, _)]) [0, 2, 4] rfl ?_
        refine CW_cond_t rfl ?_
        refine CW_seq ?_
        refine CW_region ?_
        refine W_q (r_assign rfl) rfl ?_
        refine W_nil ?_
        refine NX_as (L' := [(0, _), (2, _)]) [0, 2] rfl ?_
        refine C_ret (RX_block (RX_then (RX_q1 rfl rfl ?_)))
        simp [pureK, *]
      · (try simp only [decide_eq_true_eq, decide_eq_false_iff_not, beq_iff_eq, beq_eq_false_iff_ne, bne_iff_ne, bne_eq_false_iff_eq, Bool.not_eq_true', Bool.not_eq_false', Bool.not_eq_true, Bool.not_eq_false, ne_eq, Decidable.not_not] at h3)
        refine CW_seq ?_
        refine CW_region ?_
        refine W_q (r_bin rfl rfl (bin_eql _ _ _ _)) rfl ?_
        refine W_q (r_assign rfl) rfl ?_
        refine W_nil ?_
        refine NX_as (L' := [(0, _), (2, _), (3, _), (4, _)]) [0, 2, 3, 4] rfl ?_
        refine CW_condk rfl (fun h4 => ?_) (fun h4 => ?_)
        · (try simp only [decide_eq_true_eq, decide_eq_false_iff_not, beq_iff_eq, beq_eq_false_iff_ne, bne_iff_ne, bne_eq_false_iff_eq, Bool.not_eq_true', Bool.not_eq_false', Bool.not_eq_true, Bool.not_eq_false, ne_eq, Decidable.not_not] at h4)
          refine C_skip ?_
          refine NX_as (L' := [(0, _), (2, _), (4, _)]) [0, 2, 4] rfl ?_
          refine CW_cond_t rfl ?_
          refine CW_seq ?_
          refine CW_region ?_
          refine W_q (r_assign rfl) rfl ?_
          refine W_nil ?_
          refine NX_as (L' := [(0, _), (2, _)]) [0, 2] rfl ?_
          refine C_ret (RX_block (RX_then (RX_q1 rfl rfl ?_)))
          simp [pureK, *]
        · (try simp only [decide_eq_true_eq, decide_eq_false_iff_not, beq_iff_eq, beq_eq_false_iff_ne, bne_iff_ne, bne_eq_false_iff_eq, Bool.not_eq_true', Bool.not_eq_false', Bool.not_eq_true, Bool.not_eq_false, ne_eq, Decidable.not_not] at h4)
          refine CW_seq ?_
          refine CW_region ?_
          refine W_q (r_bin rfl rfl (bin_eql _ _ _ _)) rfl ?_
          refine W_q (r_assign rfl) rfl ?_
          refine W_nil ?_
          refine NX_as (L' := [(0, _), (2, _), (3, _), (4, _)]) [0, 2, 3, 4] rfl ?_
          refine CW_condk rfl (fun h5 => ?_) (fun h5 => ?_)
          · (try simp only [decide_eq_true_eq, decide_eq_false_iff_not, beq_iff_eq, beq_eq_false_iff_ne, bne_iff_ne, bne_eq_false_iff_eq, Bool.not_eq_true', Bool.not_eq_false', Bool.not_eq_true, Bool.not_eq_false, ne_eq, Decidable.not_not] at h5)
            refine C_skip ?_
            refine NX_as (L' := [(0, _), (2, _), (4, _)]) [0, 2, 4] rfl ?_
            refine CW_cond_t rfl ?_
            refine CW_seq ?_
            refine CW_region ?_
            refine W_q (r_assign rfl) rfl ?_
            refine W_nil ?_
            refine NX_as (L' := [(0, _), (2, _)]) [0, 2] rfl ?_
            refine C_ret (RX_block (RX_then (RX_q1 rfl rfl ?_)))
            simp [pureK, *]
          · (try simp only [decide_eq_true_eq, decide_eq_false_iff_not, beq_iff_eq, beq_eq_false_iff_ne, bne_iff_ne, bne_eq_false_iff_eq, Bool.not_eq_true', Bool.not_eq_false', Bool.not_eq_true, Bool.not_eq_false, ne_eq, Decidable.not_not] at h5)
            refine CW_region ?_
            refine W_q (r_bin rfl rfl (bin_eql _ _ _ _)) rfl ?_
            refine W_q (r_assign rfl) rfl ?_
            refine W_nil ?_
            refine NX_as (L' := [(0, _), (2, _), (4, _)]) [0, 2, 4] rfl ?_
            refine CW_condk rfl (fun h6 => ?_) (fun h6 => ?_)
            · (try simp only [decide_eq_true_eq, decide_eq_false_iff_not, beq_iff_eq, beq_eq_false_iff_ne, bne_iff_ne, bne_eq_false_iff_eq, Bool.not_eq_true', Bool.not_eq_false', Bool.not_eq_true, Bool.not_eq_false, ne_eq, Decidable.not_not] at h6)
              refine CW_seq ?_
              refine CW_region ?_
              refine W_q (r_assign rfl) rfl ?_
              refine W_nil ?_
              refine NX_as (L' := [(0, _), (2, _)]) [0, 2] rfl ?_
              refine C_ret (RX_block (RX_then (RX_q1 rfl rfl ?_)))
              simp [pureK, *]
            · (try simp only [decide_eq_true_eq, decide_eq_false_iff_not, beq_iff_eq, beq_eq_false_iff_ne, bne_iff_ne, bne_eq_false_iff_eq, Bool.not_eq_true', Bool.not_eq_false', Bool.not_eq_true, Bool.not_eq_false, ne_eq, Decidable.not_not] at h6)
              refine C_skip ?_
              refine NX_block (NX_as (L' := [(0, _), (2, _)]) [0, 2] rfl ?_)
              refine CW_seq ?_
              refine CW_region ?_
              refine W_q (r_move rfl) rfl ?_
              refine W_q (r_bin rfl rfl (bin_geq _ _ _ _)) rfl ?_
              refine W_q (r_move rfl) rfl ?_
              refine WL_split (t := 13) rfl (fun h7 => ?_) (fun h7 => ?_)
              · (try simp only [decide_eq_true_eq, decide_eq_false_iff_not, beq_iff_eq, beq_eq_false_iff_ne, bne_iff_ne, bne_eq_false_iff_eq, Bool.not_eq_true', Bool.not_eq_false', Bool.not_eq_true, Bool.not_eq_false, ne_eq, Decidable.not_not] at h7)
                refine WL_take rfl rfl ?_
                refine W_q (r_move rfl) rfl ?_
                refine WL_take rfl rfl ?_
                refine W_q (r_bin rfl rfl (bin_leq _ _ _ _)) rfl ?_
                refine W_q (r_pick_t rfl rfl) rfl ?_
                refine W_q (r_assign rfl) rfl ?_
                refine W_nil ?_
                refine NX_as (L' := [(2, _)]) [2] rfl ?_
                refine C_ret (RX_q1 rfl rfl ?_)
                simp [pureK, *]
              · (try simp only [decide_eq_true_eq, decide_eq_false_iff_not, beq_iff_eq, beq_eq_false_iff_ne, bne_iff_ne, bne_eq_false_iff_eq, Bool.not_eq_true', Bool.not_eq_false', Bool.not_eq_true, Bool.not_eq_false, ne_eq, Decidable.not_not] at h7)
                refine WL_pass rfl rfl rfl rfl ?_
                refine WL_pass rfl rfl rfl rfl ?_
                refine W_q (r_pick_f rfl rfl) rfl ?_
                refine W_q (r_assign rfl) rfl ?_
                refine W_nil ?_
                refine NX_as (L' := [(2, _)]) [2] rfl ?_
                refine C_ret (RX_q1 rfl rfl ?_)
                simp [pureK, *]

set_option maxHeartbeats 4000000 in
/-- kind.stores -/
theorem stores_q {m : Imm} (k : Int) : Quiet Tryz.prog 191 [.int .i64 k] m (.bool (storesK k)) := by
  refine quiet_of Tryz.func191 rfl Tryz.ntmps191 rfl (fun w => ?_)
  refine CW_seq ?_
  refine CW_region ?_
  refine W_q (r_assign rfl) rfl ?_
  refine W_nil ?_
  refine NX_as (L' := [(0, _), (2, _)]) [0, 2] rfl ?_
  refine CW_seq ?_
  refine CW_region ?_
  refine W_q (r_move rfl) rfl ?_
  refine W_q (r_bin rfl rfl (bin_eql _ _ _ _)) rfl ?_
  refine W_q (r_move rfl) rfl ?_
  refine WL_split (t := 5) rfl (fun h1 => ?_) (fun h1 => ?_)
  · (try simp only [decide_eq_true_eq, decide_eq_false_iff_not, beq_iff_eq, beq_eq_false_iff_ne, bne_iff_ne, bne_eq_false_iff_eq, Bool.not_eq_true', Bool.not_eq_false', Bool.not_eq_true, Bool.not_eq_false, ne_eq, Decidable.not_not] at h1)
    refine WL_pass rfl rfl rfl rfl ?_
    refine WL_pass rfl rfl rfl rfl ?_
    refine W_q (r_pick_t rfl rfl) rfl ?_
    refine W_q (r_assign rfl) rfl ?_
    refine W_nil ?_
    refine NX_as (L' := [(2, _)]) [2] rfl ?_
    refine C_ret (RX_q1 rfl rfl ?_)
    simp [storesK, *]
  · (try simp only [decide_eq_true_eq, decide_eq_false_iff_not, beq_iff_eq, beq_eq_false_iff_ne, bne_iff_ne, bne_eq_false_iff_eq, Bool.not_eq_true', Bool.not_eq_false', Bool.not_eq_true, Bool.not_eq_false, ne_eq, Decidable.not_not] at h1)
    refine WL_take rfl rfl ?_
    refine W_q (r_move rfl) rfl ?_
    refine WL_take rfl rfl ?_
    refine W_q (r_bin rfl rfl (bin_eql _ _ _ _)) rfl ?_
    refine W_q (r_pick_f rfl rfl) rfl ?_
    refine W_q (r_assign rfl) rfl ?_
    refine W_nil ?_
    refine NX_as (L' := [(2, _)]) [2] rfl ?_
    refine C_ret (RX_q1 rfl rfl ?_)
    simp [storesK, *]

set_option maxHeartbeats 4000000 in
/-- code.in$1 -/
theorem in1_q {m : Imm} (n : Int) : Quiet Tryz.prog 147 [.int .i64 n] m (.bool (outN n)) := by
  refine quiet_of Tryz.func147 rfl Tryz.ntmps147 rfl (fun w => ?_)
  refine CW_seq ?_
  refine CW_region ?_
  refine W_q (r_assign rfl) rfl ?_
  refine W_nil ?_
  refine NX_as (L' := [(0, _), (2, _)]) [0, 2] rfl ?_
  refine CW_seq ?_
  refine CW_region ?_
  refine W_q (r_move rfl) rfl ?_
  refine W_q (r_bin rfl rfl (bin_lss _ _ _ _)) rfl ?_
  refine W_q (r_move rfl) rfl ?_
  refine WL_split (t := 5) rfl (fun h1 => ?_) (fun h1 => ?_)
  · (try simp only [decide_eq_true_eq, decide_eq_false_iff_not, beq_iff_eq, beq_eq_false_iff_ne, bne_iff_ne, bne_eq_false_iff_eq, Bool.not_eq_true', Bool.not_eq_false', Bool.not_eq_true, Bool.not_eq_false, ne_eq, Decidable.not_not] at h1)
    refine WL_pass rfl rfl rfl rfl ?_
    refine WL_pass rfl rfl rfl rfl ?_
    refine W_q (r_pick_t rfl rfl) rfl ?_
    refine W_q (r_assign rfl) rfl ?_
    refine W_nil ?_
    refine NX_as (L' := [(2, _)]) [2] rfl ?_
    refine C_ret (RX_q1 rfl rfl ?_)
    simp [outN, *]
  · (try simp only [decide_eq_true_eq, decide_eq_false_iff_not, beq_iff_eq, beq_eq_false_iff_ne, bne_iff_ne, bne_eq_false_iff_eq, Bool.not_eq_true', Bool.not_eq_false', Bool.not_eq_true, Bool.not_eq_false, ne_eq, Decidable.not_not] at h1)
    refine WL_take rfl rfl ?_
    refine W_q (r_move rfl) rfl ?_
    refine WL_take rfl rfl ?_
    refine W_q (r_bin rfl rfl (bin_gtr _ _ _ _)) rfl ?_
    refine W_q (r_pick_f rfl rfl) rfl ?_
    refine W_q (r_assign rfl) rfl ?_
    refine W_nil ?_
    refine NX_as (L' := [(2, _)]) [2] rfl ?_
    refine C_ret (RX_q1 rfl rfl ?_)
    simp [outN, *]

set_option maxHeartbeats 4000000 in
/-- kind.Shape -/
theorem Shape_q {m : Imm} (b l : Int) : Quiet Tryz.prog 205 [.int .i64 b, .int .i64 l] m (.bool (shapeB b l)) := by
  refine quiet_of Tryz.func205 rfl Tryz.ntmps205 rfl (fun w => ?_)
  refine CW_seq ?_
  refine CW_region ?_
  refine W_q (r_assign rfl) rfl ?_
  refine W_nil ?_
  refine NX_as (L' := [(0, _), (1, _), (4, _)]) [0, 1, 4] rfl ?_
  refine CW_seq ?_
  refine CW_seq ?_
  refine CW_region ?_
  refine W_q (r_move rfl) rfl ?_
  refine W_quiet (May_q _) T.hb152 rfl rfl ?_
  refine W_q (r_not rfl) rfl ?_
  refine W_nil ?_
  refine NX_as (L' := [(0, _), (1, _), (4, _), (7, _)]) [0, 1, 4, 7] rfl ?_
  refine CW_condk rfl (fun h1 => ?_) (fun h1 => ?_)
  · (try simp only [decide_eq_true_eq, decide_eq_false_iff_not, beq_iff_eq, beq_eq_false_iff_ne, bne_iff_ne, bne_eq_false_iff_eq, Bool.not_eq_true', Bool.not_eq_false', Bool.not_eq_true, Bool.not_eq_false, ne_eq, Decidable.not_not] at h1)
    refine CW_seq ?_
    refine CW_region ?_
    refine W_q (r_assign rfl) rfl ?_
    refine W_nil ?_
    refine NX_as (L' := [(0, _), (1, _), (4, _)]) [0, 1, 4] rfl ?_
    refine C_ret (RX_then (RX_q1 rfl rfl ?_))
    first
      | (simp [shapeB, *]; done)
      | (have hb := mayW_le h1; subst_vars; rw [i64_of _ ⟨by omega, by omega⟩]; simp [shapeB, *])
  · (try simp only [decide_eq_true_eq, decide_eq_false_iff_not, beq_iff_eq, beq_eq_false_iff_ne, bne_iff_ne, bne_eq_false_iff_eq, Bool.not_eq_true', Bool.not_eq_false', Bool.not_eq_true, Bool.not_eq_false, ne_eq, Decidable.not_not] at h1)
    refine C_skip ?_
    refine NX_as (L' := [(0, _), (1, _), (4, _)]) [0, 1, 4] rfl ?_
    refine CW_seq ?_
    refine CW_seq ?_
    refine CW_region ?_
    refine W_q (r_move rfl) rfl ?_
    refine W_nil ?_
    refine NX_as (L' := [(0, _), (1, _), (4, _), (8, _)]) [0, 1, 4, 8] rfl ?_
    refine CW_block ?_
    refine CW_seq ?_
    refine CW_region ?_
    refine W_q (r_bin rfl rfl (bin_eql _ _ _ _)) rfl ?_
    refine W_q (r_assign rfl) rfl ?_
    refine W_nil ?_
    refine NX_as (L' := [(0, _), (1, _), (4, _), (8, _), (9, _)]) [0, 1, 4, 8, 9] rfl ?_
    refine CW_condk rfl (fun h2 => ?_) (fun h2 => ?_)
    · (try simp only [decide_eq_true_eq, decide_eq_false_iff_not, beq_iff_eq, beq_eq_false_iff_ne, bne_iff_ne, bne_eq_false_iff_eq, Bool.not_eq_true', Bool.not_eq_false', Bool.not_eq_true, Bool.not_eq_false, ne_eq, Decidable.not_not] at h2)
      refine CW_seq ?_
      refine CW_region ?_
      refine W_q (r_assign rfl) rfl ?_
      refine W_nil ?_
      refine NX_as (L' := [(4, _)]) [4] rfl ?_
      refine C_ret (RX_block (RX_then (RX_q1 rfl rfl ?_)))
      first
        | (simp [shapeB, *]; done)
        | (have hb := mayW_le h1; subst_vars; rw [i64_of _ ⟨by omega, by omega⟩]; simp [shapeB, *])
    · (try simp only [decide_eq_true_eq, decide_eq_false_iff_not, beq_iff_eq, beq_eq_false_iff_ne, bne_iff_ne, bne_eq_false_iff_eq, Bool.not_eq_true', Bool.not_eq_false', Bool.not_eq_true, Bool.not_eq_false, ne_eq, Decidable.not_not] at h2)
      refine CW_seq ?_
      refine CW_seq ?_
      refine CW_region ?_
      refine W_q (r_bin rfl rfl (bin_eql _ _ _ _)) rfl ?_
      refine W_q (r_assign rfl) rfl ?_
      refine W_nil ?_
      refine NX_as (L' := [(0, _), (1, _), (4, _), (8, _), (11, _)]) [0, 1, 4, 8, 11] rfl ?_
      refine CW_condk rfl (fun h3 => ?_) (fun h3 => ?_)
      · (try simp only [decide_eq_true_eq, decide_eq_false_iff_not, beq_iff_eq, beq_eq_false_iff_ne, bne_iff_ne, bne_eq_false_iff_eq, Bool.not_eq_true', Bool.not_eq_false', Bool.not_eq_true, Bool.not_eq_false, ne_eq, Decidable.not_not] at h3)
        refine C_skip ?_
        refine NX_as (L' := [(0, _), (1, _), (4, _), (11, _)]) [0, 1, 4, 11] rfl ?_
        refine CW_cond_t rfl ?_
        refine CW_seq ?_
        refine CW_region ?_
        refine W_q (r_move rfl) rfl ?_
        refine W_q (r_bin rfl rfl (bin_geq _ _ _ _)) rfl ?_
        refine W_q (r_move rfl) rfl ?_
        refine WL_split (t := 18) rfl (fun h4 => ?_) (fun h4 => ?_)
        · (try simp only [decide_eq_true_eq, decide_eq_false_iff_not, beq_iff_eq, beq_eq_false_iff_ne, bne_iff_ne, bne_eq_false_iff_eq, Bool.not_eq_true', Bool.not_eq_false', Bool.not_eq_true, Bool.not_eq_false, ne_eq, Decidable.not_not] at h4)
          refine WL_take rfl rfl ?_
          refine W_q (r_move rfl) rfl ?_
          refine WL_take rfl rfl ?_
          refine W_q (r_move rfl) rfl ?_
          refine WL_take rfl rfl ?_
          refine W_q (r_bin rfl rfl (bin_mul _ _ _ _)) rfl ?_
          refine WL_take rfl rfl ?_
          refine W_q (r_bin rfl rfl (bin_leq _ _ _ _)) rfl ?_
          refine W_q (r_pick_t rfl rfl) rfl ?_
          refine W_q (r_assign rfl) rfl ?_
          refine W_nil ?_
          refine NX_as (L' := [(4, _)]) [4] rfl ?_
          refine C_ret (RX_block (RX_then (RX_q1 rfl rfl ?_)))
          first
            | (simp [shapeB, *]; done)
            | (have hb := mayW_le h1; subst_vars; rw [i64_of _ ⟨by omega, by omega⟩]; simp [shapeB, *])
        · (try simp only [decide_eq_true_eq, decide_eq_false_iff_not, beq_iff_eq, beq_eq_false_iff_ne, bne_iff_ne, bne_eq_false_iff_eq, Bool.not_eq_true', Bool.not_eq_false', Bool.not_eq_true, Bool.not_eq_false, ne_eq, Decidable.not_not] at h4)
          refine WL_pass rfl rfl rfl rfl ?_
          refine WL_pass rfl rfl rfl rfl ?_
          refine WL_pass rfl rfl rfl rfl ?_
          refine WL_pass rfl rfl rfl rfl ?_
          refine W_q (r_pick_f rfl rfl) rfl ?_
          refine W_q (r_assign rfl) rfl ?_
          refine W_nil ?_
          refine NX_as (L' := [(4, _)]) [4] rfl ?_
          refine C_ret (RX_block (RX_then (RX_q1 rfl rfl ?_)))
          first
            | (simp [shapeB, *]; done)
            | (have hb := mayW_le h1; subst_vars; rw [i64_of _ ⟨by omega, by omega⟩]; simp [shapeB, *])
      · (try simp only [decide_eq_true_eq, decide_eq_false_iff_not, beq_iff_eq, beq_eq_false_iff_ne, bne_iff_ne, bne_eq_false_iff_eq, Bool.not_eq_true', Bool.not_eq_false', Bool.not_eq_true, Bool.not_eq_false, ne_eq, Decidable.not_not] at h3)
        refine CW_seq ?_
        refine CW_region ?_
        refine W_q (r_bin rfl rfl (bin_eql _ _ _ _)) rfl ?_
        refine W_q (r_assign rfl) rfl ?_
        refine W_nil ?_
        refine NX_as (L' := [(0, _), (1, _), (4, _), (8, _), (11, _)]) [0, 1, 4, 8, 11] rfl ?_
        refine CW_condk rfl (fun h5 => ?_) (fun h5 => ?_)
        · (try simp only [decide_eq_true_eq, decide_eq_false_iff_not, beq_iff_eq, beq_eq_false_iff_ne, bne_iff_ne, bne_eq_false_iff_eq, Bool.not_eq_true', Bool.not_eq_false', Bool.not_eq_true, Bool.not_eq_false, ne_eq, Decidable.not_not] at h5)
          refine C_skip ?_
          refine NX_as (L' := [(0, _), (1, _), (4, _), (11, _)]) [0, 1, 4, 11] rfl ?_
          refine CW_cond_t rfl ?_
          refine CW_seq ?_
          refine CW_region ?_
          refine W_q (r_move rfl) rfl ?_
          refine W_q (r_bin rfl rfl (bin_geq _ _ _ _)) rfl ?_
          refine W_q (r_move rfl) rfl ?_
          refine WL_split (t := 18) rfl (fun h6 => ?_) (fun h6 => ?_)
          · (try simp only [decide_eq_true_eq, decide_eq_false_iff_not, beq_iff_eq, beq_eq_false_iff_ne, bne_iff_ne, bne_eq_false_iff_eq, Bool.not_eq_true', Bool.not_eq_false', Bool.not_eq_true, Bool.not_eq_false, ne_eq, Decidable.not_not] at h6)
            refine WL_take rfl rfl ?_
            refine W_q (r_move rfl) rfl ?_
            refine WL_take rfl rfl ?_
            refine W_q (r_move rfl) rfl ?_
            refine WL_take rfl rfl ?_
            refine W_q (r_bin rfl rfl (bin_mul _ _ _ _)) rfl ?_
            refine WL_take rfl rfl ?_
            refine W_q (r_bin rfl rfl (bin_leq _ _ _ _)) rfl ?_
            refine W_q (r_pick_t rfl rfl) rfl ?_
            refine W_q (r_assign rfl) rfl ?_
            refine W_nil ?_
            refine NX_as (L' := [(4, _)]) [4] rfl ?_
            refine C_ret (RX_block (RX_then (RX_q1 rfl rfl ?_)))
            first
              | (simp [shapeB, *]; done)
              | (have hb := mayW_le h1; subst_vars; rw [i64_of _ ⟨by omega, by omega⟩]; simp [shapeB, *])
          · (try simp only [decide_eq_true_eq, decide_eq_false_iff_not, beq_iff_eq, beq_eq_false_iff_ne, bne_iff_ne, bne_eq_false_iff_eq, Bool.not_eq_true', Bool.not_eq_false', Bool.not_eq_true, Bool.not_eq_false, ne_eq, Decidable.not_not] at h6)
            refine WL_pass rfl rfl rfl rfl ?_
            refine WL_pass rfl rfl rfl rfl ?_
            refine WL_pass rfl rfl rfl rfl ?_
            refine WL_pass rfl rfl rfl rfl ?_
            refine W_q (r_pick_f rfl rfl) rfl ?_
            refine W_q (r_assign rfl) rfl ?_
            refine W_nil ?_
            refine NX_as (L' := [(4, _)]) [4] rfl ?_
            refine C_ret (RX_block (RX_then (RX_q1 rfl rfl ?_)))
            first
              | (simp [shapeB, *]; done)
              | (have hb := mayW_le h1; subst_vars; rw [i64_of _ ⟨by omega, by omega⟩]; simp [shapeB, *])
        · (try simp only [decide_eq_true_eq, decide_eq_false_iff_not, beq_iff_eq, beq_eq_false_iff_ne, bne_iff_ne, bne_eq_false_iff_eq, Bool.not_eq_true', Bool.not_eq_false', Bool.not_eq_true, Bool.not_eq_false, ne_eq, Decidable.not_not] at h5)
          refine CW_seq ?_
          refine CW_region ?_
          refine W_q (r_bin rfl rfl (bin_eql _ _ _ _)) rfl ?_
          refine W_q (r_assign rfl) rfl ?_
          refine W_nil ?_
          refine NX_as (L' := [(0, _), (1, _), (4, _), (8, _), (11, _)]) [0, 1, 4, 8, 11] rfl ?_
          refine CW_condk rfl (fun h7 => ?_) (fun h7 => ?_)
          · (try simp only [decide_eq_true_eq, decide_eq_false_iff_not, beq_iff_eq, beq_eq_false_iff_ne, bne_iff_ne, bne_eq_false_iff_eq, Bool.not_eq_true', Bool.not_eq_false', Bool.not_eq_true, Bool.not_eq_false, ne_eq, Decidable.not_not] at h7)
            refine C_skip ?_
            refine NX_as (L' := [(0, _), (1, _), (4, _), (11, _)]) [0, 1, 4, 11] rfl ?_
            refine CW_cond_t rfl ?_
            refine CW_seq ?_
            refine CW_region ?_
            refine W_q (r_move rfl) rfl ?_
            refine W_q (r_bin rfl rfl (bin_geq _ _ _ _)) rfl ?_
            refine W_q (r_move rfl) rfl ?_
            refine WL_split (t := 18) rfl (fun h8 => ?_) (fun h8 => ?_)
            · (try simp only [decide_eq_true_eq, decide_eq_false_iff_not, beq_iff_eq, beq_eq_false_iff_ne, bne_iff_ne, bne_eq_false_iff_eq, Bool.not_eq_true', Bool.not_eq_false', Bool.not_eq_true, Bool.not_eq_false, ne_eq, Decidable.not_not] at h8)
              refine WL_take rfl rfl ?_
              refine W_q (r_move rfl) rfl ?_
              refine WL_take rfl rfl ?_
              refine W_q (r_move rfl) rfl ?_
              refine WL_take rfl rfl ?_
              refine W_q (r_bin rfl rfl (bin_mul _ _ _ _)) rfl ?_
              refine WL_take rfl rfl ?_
              refine W_q (r_bin rfl rfl (bin_leq _ _ _ _)) rfl ?_
              refine W_q (r_pick_t rfl rfl) rfl ?_
              refine W_q (r_assign rfl) rfl ?_
              refine W_nil ?_
              refine NX_as (L' := [(4, _)]) [4] rfl ?_
              refine C_ret (RX_block (RX_then (RX_q1 rfl rfl ?_)))
              first
                | (simp [shapeB, *]; done)
                | (have hb := mayW_le h1; subst_vars; rw [i64_of _ ⟨by omega, by omega⟩]; simp [shapeB, *])
            · (try simp only [decide_eq_true_eq, decide_eq_false_iff_not, beq_iff_eq, beq_eq_false_iff_ne, bne_iff_ne, bne_eq_false_iff_eq, Bool.not_eq_true', Bool.not_eq_false', Bool.not_eq_true, Bool.not_eq_false, ne_eq, Decidable.not_not] at h8)
              refine WL_pass rfl rfl rfl rfl ?_
              refine WL_pass rfl rfl rfl rfl ?_
              refine WL_pass rfl rfl rfl rfl ?_
              refine WL_pass rfl rfl rfl rfl ?_
              refine W_q (r_pick_f rfl rfl) rfl ?_
              refine W_q (r_assign rfl) rfl ?_
              refine W_nil ?_
              refine NX_as (L' := [(4, _)]) [4] rfl ?_
              refine C_ret (RX_block (RX_then (RX_q1 rfl rfl ?_)))
              first
                | (simp [shapeB, *]; done)
                | (have hb := mayW_le h1; subst_vars; rw [i64_of _ ⟨by omega, by omega⟩]; simp [shapeB, *])
          · (try simp only [decide_eq_true_eq, decide_eq_false_iff_not, beq_iff_eq, beq_eq_false_iff_ne, bne_iff_ne, bne_eq_false_iff_eq, Bool.not_eq_true', Bool.not_eq_false', Bool.not_eq_true, Bool.not_eq_false, ne_eq, Decidable.not_not] at h7)
            refine CW_region ?_
            refine W_q (r_bin rfl rfl (bin_eql _ _ _ _)) rfl ?_
            refine W_q (r_assign rfl) rfl ?_
            refine W_nil ?_
            refine NX_as (L' := [(0, _), (1, _), (4, _), (11, _)]) [0, 1, 4, 11] rfl ?_
            refine CW_condk rfl (fun h9 => ?_) (fun h9 => ?_)
            · (try simp only [decide_eq_true_eq, decide_eq_false_iff_not, beq_iff_eq, beq_eq_false_iff_ne, bne_iff_ne, bne_eq_false_iff_eq, Bool.not_eq_true', Bool.not_eq_false', Bool.not_eq_true, Bool.not_eq_false, ne_eq, Decidable.not_not] at h9)
              refine CW_seq ?_
              refine CW_region ?_
              refine W_q (r_move rfl) rfl ?_
              refine W_q (r_bin rfl rfl (bin_geq _ _ _ _)) rfl ?_
              refine W_q (r_move rfl) rfl ?_
              refine WL_split (t := 18) rfl (fun h10 => ?_) (fun h10 => ?_)
              · (try simp only [decide_eq_true_eq, decide_eq_false_iff_not, beq_iff_eq, beq_eq_false_iff_ne, bne_iff_ne, bne_eq_false_iff_eq, Bool.not_eq_true', Bool.not_eq_false', Bool.not_eq_true, Bool.not_eq_false, ne_eq, Decidable.not_not] at h10)
                refine WL_take rfl rfl ?_
                refine W_q (r_move rfl) rfl ?_
                refine WL_take rfl rfl ?_
                refine W_q (r_move rfl) rfl ?_
                refine WL_take rfl rfl ?_
                refine W_q (r_bin rfl rfl (bin_mul _ _ _ _)) rfl ?_
                refine WL_take rfl rfl ?_
                refine W_q (r_bin rfl rfl (bin_leq _ _ _ _)) rfl ?_
                refine W_q (r_pick_t rfl rfl) rfl ?_
                refine W_q (r_assign rfl) rfl ?_
                refine W_nil ?_
                refine NX_as (L' := [(4, _)]) [4] rfl ?_
                refine C_ret (RX_block (RX_then (RX_q1 rfl rfl ?_)))
                first
                  | (simp [shapeB, *]; done)
                  | (have hb := mayW_le h1; subst_vars; rw [i64_of _ ⟨by omega, by omega⟩]; simp [shapeB, *])
              · (try simp only [decide_eq_true_eq, decide_eq_false_iff_not, beq_iff_eq, beq_eq_false_iff_ne, bne_iff_ne, bne_eq_false_iff_eq, Bool.not_eq_true', Bool.not_eq_false', Bool.not_eq_true, Bool.not_eq_false, ne_eq, Decidable.not_not] at h10)
                refine WL_pass rfl rfl rfl rfl ?_
                refine WL_pass rfl rfl rfl rfl ?_
                refine WL_pass rfl rfl rfl rfl ?_
                refine WL_pass rfl rfl rfl rfl ?_
                refine W_q (r_pick_f rfl rfl) rfl ?_
                refine W_q (r_assign rfl) rfl ?_
                refine W_nil ?_
                refine NX_as (L' := [(4, _)]) [4] rfl ?_
                refine C_ret (RX_block (RX_then (RX_q1 rfl rfl ?_)))
                first
                  | (simp [shapeB, *]; done)
                  | (have hb := mayW_le h1; subst_vars; rw [i64_of _ ⟨by omega, by omega⟩]; simp [shapeB, *])
            · (try simp only [decide_eq_true_eq, decide_eq_false_iff_not, beq_iff_eq, beq_eq_false_iff_ne, bne_iff_ne, bne_eq_false_iff_eq, Bool.not_eq_true', Bool.not_eq_false', Bool.not_eq_true, Bool.not_eq_false, ne_eq, Decidable.not_not] at h9)
              refine C_skip ?_
              refine NX_block (NX_as (L' := [(4, _)]) [4] rfl ?_)
              refine CW_seq ?_
              refine CW_region ?_
              refine W_q (r_assign rfl) rfl ?_
              refine W_nil ?_
              refine NX_as (L' := [(4, _)]) [4] rfl ?_
              refine C_ret (RX_q1 rfl rfl ?_)
              first
                | (simp [shapeB, *]; done)
                | (have hb := mayW_le h1; subst_vars; rw [i64_of _ ⟨by omega, by omega⟩]; simp [shapeB, *])

set_option maxHeartbeats 4000000 in
/-- graph.goes -/
theorem goes_q {m : Imm} (k : Int) : Quiet Tryz.prog 100 [.int .i64 k] m (.int .i64 (goesK k)) := by
  refine quiet_of Tryz.func100 rfl Tryz.ntmps100 rfl (fun w => ?_)
  refine CW_seq ?_
  refine CW_region ?_
  refine W_q (r_assign rfl) rfl ?_
  refine W_nil ?_
  refine NX_as (L' := [(0, _), (2, _)]) [0, 2] rfl ?_
  refine CW_seq ?_
  refine CW_seq ?_
  refine CW_region ?_
  refine W_q (r_move rfl) rfl ?_
  refine W_nil ?_
  refine NX_as (L' := [(2, _), (3, _)]) [2, 3] rfl ?_
  refine CW_block ?_
  refine CW_seq ?_
  refine CW_seq ?_
  refine CW_region ?_
  refine W_q (r_bin rfl rfl (bin_eql _ _ _ _)) rfl ?_
  refine W_q (r_assign rfl) rfl ?_
  refine W_nil ?_
  refine NX_as (L' := [(2, _), (3, _), (4, _)]) [2, 3, 4] rfl ?_
  refine CW_condk rfl (fun h1 => ?_) (fun h1 => ?_)
  · (try simp only [decide_eq_true_eq, decide_eq_false_iff_not, beq_iff_eq, beq_eq_false_iff_ne, bne_iff_ne, bne_eq_false_iff_eq, Bool.not_eq_true', Bool.not_eq_false', Bool.not_eq_true, Bool.not_eq_false, ne_eq, Decidable.not_not] at h1)
    refine C_skip ?_
    refine NX_as (L' := [(2, _), (3, _), (4, _)]) [2, 3, 4] rfl ?_
    refine CW_cond_t rfl ?_
    refine CW_seq ?_
    refine CW_region ?_
    refine W_q (r_assign rfl) rfl ?_
    refine W_nil ?_
    refine NX_as (L' := [(2, _)]) [2] rfl ?_
    refine C_ret (RX_block (RX_then (RX_q1 rfl rfl ?_)))
    simp [goesK, *]
  · (try simp only [decide_eq_true_eq, decide_eq_false_iff_not, beq_iff_eq, beq_eq_false_iff_ne, bne_iff_ne, bne_eq_false_iff_eq, Bool.not_eq_true', Bool.not_eq_false', Bool.not_eq_true, Bool.not_eq_false, ne_eq, Decidable.not_not] at h1)
    refine CW_region ?_
    refine W_q (r_bin rfl rfl (bin_eql _ _ _ _)) rfl ?_
    refine W_q (r_assign rfl) rfl ?_
    refine W_nil ?_
    refine NX_as (L' := [(2, _), (3, _), (4, _)]) [2, 3, 4] rfl ?_
    refine CW_condk rfl (fun h2 => ?_) (fun h2 => ?_)
    · (try simp only [decide_eq_true_eq, decide_eq_false_iff_not, beq_iff_eq, beq_eq_false_iff_ne, bne_iff_ne, bne_eq_false_iff_eq, Bool.not_eq_true', Bool.not_eq_false', Bool.not_eq_true, Bool.not_eq_false, ne_eq, Decidable.not_not] at h2)
      refine CW_seq ?_
      refine CW_region ?_
      refine W_q (r_assign rfl) rfl ?_
      refine W_nil ?_
      refine NX_as (L' := [(2, _)]) [2] rfl ?_
      refine C_ret (RX_block (RX_then (RX_q1 rfl rfl ?_)))
      simp [goesK, *]
    · (try simp only [decide_eq_true_eq, decide_eq_false_iff_not, beq_iff_eq, beq_eq_false_iff_ne, bne_iff_ne, bne_eq_false_iff_eq, Bool.not_eq_true', Bool.not_eq_false', Bool.not_eq_true, Bool.not_eq_false, ne_eq, Decidable.not_not] at h2)
      refine CW_seq ?_
      refine CW_region ?_
      refine W_q (r_bin rfl rfl (bin_eql _ _ _ _)) rfl ?_
      refine W_q (r_assign rfl) rfl ?_
      refine W_nil ?_
      refine NX_as (L' := [(2, _), (3, _), (7, _)]) [2, 3, 7] rfl ?_
      refine CW_condk rfl (fun h3 => ?_) (fun h3 => ?_)
      · (try simp only [decide_eq_true_eq, decide_eq_false_iff_not, beq_iff_eq, beq_eq_false_iff_ne, bne_iff_ne, bne_eq_false_iff_eq, Bool.not_eq_true', Bool.not_eq_false', Bool.not_eq_true, Bool.not_eq_false, ne_eq, Decidable.not_not] at h3)
        refine CW_seq ?_
        refine CW_region ?_
        refine W_q (r_assign rfl) rfl ?_
        refine W_nil ?_
        refine NX_as (L' := [(2, _)]) [2] rfl ?_
        refine C_ret (RX_block (RX_then (RX_q1 rfl rfl ?_)))
        simp [goesK, *]
      · (try simp only [decide_eq_true_eq, decide_eq_false_iff_not, beq_iff_eq, beq_eq_false_iff_ne, bne_iff_ne, bne_eq_false_iff_eq, Bool.not_eq_true', Bool.not_eq_false', Bool.not_eq_true, Bool.not_eq_false, ne_eq, Decidable.not_not] at h3)
        refine CW_seq ?_
        refine CW_region ?_
        refine W_q (r_bin rfl rfl (bin_eql _ _ _ _)) rfl ?_
        refine W_q (r_assign rfl) rfl ?_
        refine W_nil ?_
        refine NX_as (L' := [(2, _), (9, _)]) [2, 9] rfl ?_
        refine CW_condk rfl (fun h4 => ?_) (fun h4 => ?_)
        · (try simp only [decide_eq_true_eq, decide_eq_false_iff_not, beq_iff_eq, beq_eq_false_iff_ne, bne_iff_ne, bne_eq_false_iff_eq, Bool.not_eq_true', Bool.not_eq_false', Bool.not_eq_true, Bool.not_eq_false, ne_eq, Decidable.not_not] at h4)
          refine CW_seq ?_
          refine CW_region ?_
          refine W_q (r_assign rfl) rfl ?_
          refine W_nil ?_
          refine NX_as (L' := [(2, _)]) [2] rfl ?_
          refine C_ret (RX_block (RX_then (RX_q1 rfl rfl ?_)))
          simp [goesK, *]
        · (try simp only [decide_eq_true_eq, decide_eq_false_iff_not, beq_iff_eq, beq_eq_false_iff_ne, bne_iff_ne, bne_eq_false_iff_eq, Bool.not_eq_true', Bool.not_eq_false', Bool.not_eq_true, Bool.not_eq_false, ne_eq, Decidable.not_not] at h4)
          refine C_skip ?_
          refine NX_block (NX_as (L' := [(2, _)]) [2] rfl ?_)
          refine CW_seq ?_
          refine CW_region ?_
          refine W_q (r_assign rfl) rfl ?_
          refine W_nil ?_
          refine NX_as (L' := [(2, _)]) [2] rfl ?_
          refine C_ret (RX_q1 rfl rfl ?_)
          simp [goesK, *]

set_option maxHeartbeats 4000000 in
/-- lockstepref06.Has -/
theorem Has_q {m : Imm} {A : Option Addr} {c : Nat} {l : List Int} (h : Ints m A c l) (x : Int) : Quiet Tryz.prog 51 [.slice A l.length c, .int .i64 x] m (.bool (l.contains x)) := by
  have hlen := h.len
  refine quiet_of Tryz.func51 rfl Tryz.ntmps51 rfl (fun w => ?_)
  refine CW_seq ?_
  refine CW_region ?_
  refine W_q (r_assign rfl) rfl ?_
  refine W_nil ?_
  refine NX_as (L' := [(0, _), (1, _), (4, _)]) [0, 1, 4] rfl ?_
  refine CW_seq ?_
  refine CW_seq ?_
  refine CW_region ?_
  refine W_q (r_assign rfl) rfl ?_
  refine W_nil ?_
  refine NX_as (L' := [(0, _), (1, _), (4, _), (5, _)]) [0, 1, 4, 5] rfl ?_
  refine CW_block ?_
  refine C_loop (Unit) (l.length) (fun k1 x1 => ∀ j, j < k1 → l[j]? ≠ some x) (fun k1 x1 => [(5, .int .i64 (k1 : Int))]) (fun _ _ => []) [5] [0, 1] (F := [(0, _), (1, _)]) (()) (by simp) rfl rfl rfl (fun k1 x1 hk1 hJ1 => ?_)
  refine CW_as (L' := [(0, _), (1, _), (5, _)]) [0, 1, 5] rfl ?_
  refine CW_seq ?_
  refine CW_seq ?_
  refine CW_region ?_
  refine W_q (r_move rfl) rfl ?_
  refine W_q (r_move rfl) rfl ?_
  refine W_q (r_len Tryz.underlying22 rfl) rfl ?_
  refine W_q (r_bin rfl rfl (bin_lss _ _ _ _)) rfl ?_
  refine W_nil ?_
  refine NX_as (L' := [(0, _), (1, _), (5, _), (9, _)]) [0, 1, 5, 9] rfl ?_
  refine CW_condk rfl (fun h2 => ?_) (fun h2 => ?_)
  · (try simp only [decide_eq_true_eq, decide_eq_false_iff_not, beq_iff_eq, beq_eq_false_iff_ne, bne_iff_ne, bne_eq_false_iff_eq, Bool.not_eq_true', Bool.not_eq_false', Bool.not_eq_true, Bool.not_eq_false, ne_eq, Decidable.not_not] at h2)
    refine C_skip ?_
    refine NX_as (L' := [(0, _), (1, _), (5, _)]) [0, 1, 5] rfl ?_
    refine CW_seq ?_
    refine CW_block ?_
    refine CW_seq ?_
    refine CW_region ?_
    refine W_q (r_move rfl) rfl ?_
    refine W_q (r_move rfl) rfl ?_
    obtain ⟨ad3, hA3⟩ := h.ad (j := k1) (by omega)
    obtain ⟨z3, hz3⟩ := h.getz (j := k1) (by omega)
    refine W_q (r_index hA3 Tryz.underlying22 T.sz3 rfl rfl ⟨by omega, by omega⟩) rfl ?_
    obtain ⟨l4, r4⟩ := Sl.getI h hA3 hz3
    refine W_q (r_load_imm rfl T.ag3 l4) rfl ?_
    refine W_q (r_move rfl) rfl ?_
    refine W_q (r_bin rfl rfl (bin_eql _ _ _ _)) rfl ?_
    refine W_nil ?_
    refine NX_as (L' := [(0, _), (1, _), (5, _), (17, _)]) [0, 1, 5, 17] rfl ?_
    refine CW_condk rfl (fun h5 => ?_) (fun h5 => ?_)
    · (try simp only [decide_eq_true_eq, decide_eq_false_iff_not, beq_iff_eq, beq_eq_false_iff_ne, bne_iff_ne, bne_eq_false_iff_eq, Bool.not_eq_true', Bool.not_eq_false', Bool.not_eq_true, Bool.not_eq_false, ne_eq, Decidable.not_not] at h5)
      refine CW_seq ?_
      refine CW_region ?_
      refine W_q (r_assign rfl) rfl ?_
      refine W_nil ?_
      refine NX_as (L' := [(0, _), (1, _), (4, _), (5, _)]) [0, 1, 4, 5] rfl ?_
      refine C_ret (RX_block (RX_then (RX_then (RX_block (RX_then (RX_q1 rfl rfl ?_))))))
      have := List.mem_of_getElem? hz3; simp_all
    · (try simp only [decide_eq_true_eq, decide_eq_false_iff_not, beq_iff_eq, beq_eq_false_iff_ne, bne_iff_ne, bne_eq_false_iff_eq, Bool.not_eq_true', Bool.not_eq_false', Bool.not_eq_true, Bool.not_eq_false, ne_eq, Decidable.not_not] at h5)
      refine C_skip ?_
      refine NX_block (NX_as (L' := [(0, _), (1, _), (5, _)]) [0, 1, 5] rfl ?_)
      refine CW_region ?_
      refine W_q (r_move rfl) rfl ?_
      refine W_q (r_add rfl rfl (by unfold I64 at *; omega)) rfl ?_
      refine W_q (r_assign rfl) rfl ?_
      refine W_nil ?_
      refine NX_rnd [5, 0, 1] (by omega) (()) ?_ rfl (List.Sublist.refl _) rfl (Imm.le_refl _)
      exact lt_succ_all hJ1 (by rw [hz3]; simpa using h5)
  · (try simp only [decide_eq_true_eq, decide_eq_false_iff_not, beq_iff_eq, beq_eq_false_iff_ne, bne_iff_ne, bne_eq_false_iff_eq, Bool.not_eq_true', Bool.not_eq_false', Bool.not_eq_true, Bool.not_eq_false, ne_eq, Decidable.not_not] at h2)
    refine C_exit (EX_then (EX_then (EX_hit (?_))))
    refine NX_as (L' := []) [] rfl ?_
    refine CW_seq ?_
    refine CW_region ?_
    refine W_q (r_assign rfl) rfl ?_
    refine W_nil ?_
    refine NX_as (L' := [(4, _)]) [4] rfl ?_
    refine C_ret (RX_q1 rfl rfl ?_)
    have : k1 = l.length := by omega
    subst this; rw [contains_false_of hJ1]

set_option maxHeartbeats 4000000 in
/-- lockstepref02.Ints -/
theorem Ints_q {m : Imm} {A : Option Addr} {c : Nat} {l : List Int} (h : Ints m A c l) {A' : Option Addr} {c' : Nat} {l' : List Int} (h' : Ints m A' c' l') : Quiet Tryz.prog 21 [.slice A l.length c, .slice A' l'.length c'] m (.bool (l == l')) := by
  have hlen := h.len
  have hlen' := h'.len
  refine quiet_of Tryz.func21 rfl Tryz.ntmps21 rfl (fun w => ?_)
  refine CW_seq ?_
  refine CW_region ?_
  refine W_q (r_assign rfl) rfl ?_
  refine W_nil ?_
  refine NX_as (L' := [(0, _), (1, _), (4, _)]) [0, 1, 4] rfl ?_
  refine CW_seq ?_
  refine CW_seq ?_
  refine CW_region ?_
  refine W_q (r_move rfl) rfl ?_
  refine W_q (r_len Tryz.underlying22 rfl) rfl ?_
  refine W_q (r_move rfl) rfl ?_
  refine W_q (r_len Tryz.underlying22 rfl) rfl ?_
  refine W_q (r_bin rfl rfl (bin_neq _ _ _ _)) rfl ?_
  refine W_nil ?_
  refine NX_as (L' := [(0, _), (1, _), (4, _), (10, _)]) [0, 1, 4, 10] rfl ?_
  refine CW_condk rfl (fun h1 => ?_) (fun h1 => ?_)
  · (try simp only [decide_eq_true_eq, decide_eq_false_iff_not, beq_iff_eq, beq_eq_false_iff_ne, bne_iff_ne, bne_eq_false_iff_eq, Bool.not_eq_true', Bool.not_eq_false', Bool.not_eq_true, Bool.not_eq_false, ne_eq, Decidable.not_not] at h1)
    refine CW_seq ?_
    refine CW_region ?_
    refine W_q (r_assign rfl) rfl ?_
    refine W_nil ?_
    refine NX_as (L' := [(0, _), (1, _), (4, _)]) [0, 1, 4] rfl ?_
    refine C_ret (RX_then (RX_q1 rfl rfl ?_))
    have : l ≠ l' := by rintro rfl; omega
    simp [this]
  · (try simp only [decide_eq_true_eq, decide_eq_false_iff_not, beq_iff_eq, beq_eq_false_iff_ne, bne_iff_ne, bne_eq_false_iff_eq, Bool.not_eq_true', Bool.not_eq_false', Bool.not_eq_true, Bool.not_eq_false, ne_eq, Decidable.not_not] at h1)
    refine C_skip ?_
    refine NX_as (L' := [(0, _), (1, _), (4, _)]) [0, 1, 4] rfl ?_
    refine CW_seq ?_
    refine CW_seq ?_
    refine CW_region ?_
    refine W_q (r_assign rfl) rfl ?_
    refine W_nil ?_
    refine NX_as (L' := [(0, _), (1, _), (4, _), (5, _)]) [0, 1, 4, 5] rfl ?_
    refine CW_block ?_
    refine C_loop (Unit) (l.length) (fun k2 x2 => ∀ j, j < k2 → l[j]? = l'[j]?) (fun k2 x2 => [(5, .int .i64 (k2 : Int))]) (fun _ _ => []) [5] [0, 1] (F := [(0, _), (1, _)]) (()) (by simp) rfl rfl rfl (fun k2 x2 hk2 hJ2 => ?_)
    refine CW_as (L' := [(0, _), (1, _), (5, _)]) [0, 1, 5] rfl ?_
    refine CW_seq ?_
    refine CW_seq ?_
    refine CW_region ?_
    refine W_q (r_move rfl) rfl ?_
    refine W_q (r_move rfl) rfl ?_
    refine W_q (r_len Tryz.underlying22 rfl) rfl ?_
    refine W_q (r_bin rfl rfl (bin_lss _ _ _ _)) rfl ?_
    refine W_nil ?_
    refine NX_as (L' := [(0, _), (1, _), (5, _), (14, _)]) [0, 1, 5, 14] rfl ?_
    refine CW_condk rfl (fun h3 => ?_) (fun h3 => ?_)
    · (try simp only [decide_eq_true_eq, decide_eq_false_iff_not, beq_iff_eq, beq_eq_false_iff_ne, bne_iff_ne, bne_eq_false_iff_eq, Bool.not_eq_true', Bool.not_eq_false', Bool.not_eq_true, Bool.not_eq_false, ne_eq, Decidable.not_not] at h3)
      refine C_skip ?_
      refine NX_as (L' := [(0, _), (1, _), (5, _)]) [0, 1, 5] rfl ?_
      refine CW_seq ?_
      refine CW_block ?_
      refine CW_seq ?_
      refine C_drawn [(0, true), (1, true), (2, true), (3, true), (4, true), (5, true), (6, true), (7, true), (8, true)] (by kernel_rfl) rfl (by kernel_rfl) (by kernel_rfl) ?_
      refine D_q rfl (r_move rfl) rfl ?_
      refine D_q rfl (r_move rfl) rfl ?_
      obtain ⟨ad4, hA4⟩ := h.ad (j := k2) (by omega)
      obtain ⟨z4, hz4⟩ := h.getz (j := k2) (by omega)
      refine D_q rfl (r_index hA4 Tryz.underlying22 T.sz3 rfl rfl ⟨by omega, by omega⟩) rfl ?_
      obtain ⟨l5, r5⟩ := Sl.getI h hA4 hz4
      refine D_q rfl (r_load_imm rfl T.ag3 l5) rfl ?_
      refine D_q rfl (r_move rfl) rfl ?_
      refine D_q rfl (r_move rfl) rfl ?_
      obtain ⟨ad6, hA6⟩ := h'.ad (j := k2) (by omega)
      obtain ⟨z6, hz6⟩ := h'.getz (j := k2) (by omega)
      refine D_q rfl (r_index hA6 Tryz.underlying22 T.sz3 rfl rfl ⟨by omega, by omega⟩) rfl ?_
      obtain ⟨l7, r7⟩ := Sl.getI h' hA6 hz6
      refine D_q rfl (r_load_imm rfl T.ag3 l7) rfl ?_
      refine D_q rfl (r_bin rfl rfl (bin_neq _ _ _ _)) rfl ?_
      refine D_end ?_
      refine NX_as (L' := [(0, _), (1, _), (5, _), (25, _)]) [0, 1, 5, 25] rfl ?_
      refine CW_condk rfl (fun h8 => ?_) (fun h8 => ?_)
      · (try simp only [decide_eq_true_eq, decide_eq_false_iff_not, beq_iff_eq, beq_eq_false_iff_ne, bne_iff_ne, bne_eq_false_iff_eq, Bool.not_eq_true', Bool.not_eq_false', Bool.not_eq_true, Bool.not_eq_false, ne_eq, Decidable.not_not] at h8)
        refine CW_seq ?_
        refine CW_region ?_
        refine W_q (r_assign rfl) rfl ?_
        refine W_nil ?_
        refine NX_as (L' := [(0, _), (1, _), (4, _), (5, _)]) [0, 1, 4, 5] rfl ?_
        refine C_ret (RX_block (RX_then (RX_then (RX_block (RX_then (RX_q1 rfl rfl ?_))))))
        have : l ≠ l' := by rintro rfl; rw [hz4] at hz6; simp at hz6; omega
        simp [this]
      · (try simp only [decide_eq_true_eq, decide_eq_false_iff_not, beq_iff_eq, beq_eq_false_iff_ne, bne_iff_ne, bne_eq_false_iff_eq, Bool.not_eq_true', Bool.not_eq_false', Bool.not_eq_true, Bool.not_eq_false, ne_eq, Decidable.not_not] at h8)
        refine C_skip ?_
        refine NX_block (NX_as (L' := [(0, _), (1, _), (5, _)]) [0, 1, 5] rfl ?_)
        refine CW_region ?_
        refine W_q (r_move rfl) rfl ?_
        refine W_q (r_add rfl rfl (by unfold I64 at *; omega)) rfl ?_
        refine W_q (r_assign rfl) rfl ?_
        refine W_nil ?_
        refine NX_rnd [5, 0, 1] (by omega) (()) ?_ rfl (List.Sublist.refl _) rfl (Imm.le_refl _)
        exact lt_succ_all hJ2 (by rw [hz4, hz6]; simpa using h8)
    · (try simp only [decide_eq_true_eq, decide_eq_false_iff_not, beq_iff_eq, beq_eq_false_iff_ne, bne_iff_ne, bne_eq_false_iff_eq, Bool.not_eq_true', Bool.not_eq_false', Bool.not_eq_true, Bool.not_eq_false, ne_eq, Decidable.not_not] at h3)
      refine C_exit (EX_then (EX_then (EX_hit (?_))))
      refine NX_as (L' := []) [] rfl ?_
      refine CW_seq ?_
      refine CW_region ?_
      refine W_q (r_assign rfl) rfl ?_
      refine W_nil ?_
      refine NX_as (L' := [(4, _)]) [4] rfl ?_
      refine C_ret (RX_q1 rfl rfl ?_)
      have : k2 = l.length := by omega
      subst this
      rw [eq_of_all (by omega) hJ2]; simp

set_option maxHeartbeats 4000000 in
/-- slices.IndexFunc[[]int,int] -/
theorem IndexFuncI_q {m : Imm} {A : Option Addr} {c : Nat} {l : List (Int)} (h : Sl rI 1 m A c l) {p : Int → Bool} {K : Nat} {cap : Array Value} (hK : hasBody Tryz.prog K = true)
    (hp : ∀ {j : Nat} (z : Int), l[j]? = some z → Quiet Tryz.prog K ([.int .i64 z] ++ cap.toList) m (.bool (p z))) : Quiet Tryz.prog 126 [.slice A l.length c, .func (.func K) #[] cap] m (.int .i64 (idxF p l)) := by
  have hlen := h.len
  refine quiet_of Tryz.func126 rfl Tryz.ntmps126 rfl (fun w => ?_)
  refine CW_seq ?_
  refine CW_region ?_
  refine W_q (r_assign rfl) rfl ?_
  refine W_nil ?_
  refine NX_as (L' := [(0, _), (1, _), (4, _)]) [0, 1, 4] rfl ?_
  refine CW_seq ?_
  refine CW_seq ?_
  refine CW_region ?_
  refine W_q (r_move rfl) rfl ?_
  refine W_q (r_len Tryz.underlying22 rfl) rfl ?_
  refine W_q (r_move rfl) rfl ?_
  refine W_nil ?_
  refine NX_as (L' := [(0, _), (1, _), (4, _), (7, _), (8, _)]) [0, 1, 4, 7, 8] rfl ?_
  refine C_range (Unit) (l.length) (fun k1 x1 => ∀ j, j < k1 → ∀ y, l[j]? = some y → p y = false) (fun k1 x1 => []) (fun _ _ => []) [] [0, 1] (F := [(0, _), (1, _)]) (()) rfl rfl (by omega) (by simp) rfl rfl rfl rfl rfl rfl rfl (fun _ _ => rfl) (fun _ _ => rfl) (fun k1 x1 hk1 hJ1 => ?_) (fun x1 hJ1 => ?_)
  · refine CW_as (L' := [(0, _), (1, _), (7, _), (8, _)]) [0, 1, 7, 8] rfl ?_
    refine CW_seq ?_
    refine CW_region ?_
    refine W_q (r_move rfl) rfl ?_
    refine W_q (r_assign rfl) rfl ?_
    refine W_nil ?_
    refine NX_as (L' := [(0, _), (1, _), (5, _), (7, _), (8, _)]) [0, 1, 5, 7, 8] rfl ?_
    refine CW_seq ?_
    refine CW_region ?_
    refine W_q (r_move rfl) rfl ?_
    refine W_q (r_move rfl) rfl ?_
    refine W_q (r_move rfl) rfl ?_
    obtain ⟨ad2, hA2⟩ := h.ad (j := k1) (by omega)
    obtain ⟨z2, hz2⟩ := h.getz (j := k1) (by omega)
    refine W_q (r_index hA2 Tryz.underlying22 T.sz3 rfl rfl ⟨by omega, by omega⟩) rfl ?_
    obtain ⟨l3, r3⟩ := Sl.getI h hA2 hz2
    refine W_q (r_load_imm rfl T.ag3 l3) rfl ?_
    refine W_callv rfl rfl (hp _ hz2) hK rfl ?_
    refine W_nil ?_
    refine NX_as (L' := [(0, _), (1, _), (5, _), (7, _), (8, _), (16, _)]) [0, 1, 5, 7, 8, 16] rfl ?_
    refine CW_condk rfl (fun h4 => ?_) (fun h4 => ?_)
    · (try simp only [decide_eq_true_eq, decide_eq_false_iff_not, beq_iff_eq, beq_eq_false_iff_ne, bne_iff_ne, bne_eq_false_iff_eq, Bool.not_eq_true', Bool.not_eq_false', Bool.not_eq_true, Bool.not_eq_false, ne_eq, Decidable.not_not] at h4)
      refine CW_seq ?_
      refine CW_region ?_
      refine W_q (r_move rfl) rfl ?_
      refine W_q (r_assign rfl) rfl ?_
      refine W_nil ?_
      refine NX_as (L' := [(0, _), (1, _), (4, _), (7, _), (8, _)]) [0, 1, 4, 7, 8] rfl ?_
      refine C_ret (RX_block (RX_then (RX_block (RX_then (RX_q1 rfl rfl ?_)))))
      rw [idxF_at hJ1 hz2 h4]
    · (try simp only [decide_eq_true_eq, decide_eq_false_iff_not, beq_iff_eq, beq_eq_false_iff_ne, bne_iff_ne, bne_eq_false_iff_eq, Bool.not_eq_true', Bool.not_eq_false', Bool.not_eq_true, Bool.not_eq_false, ne_eq, Decidable.not_not] at h4)
      refine C_skip ?_
      refine NX_block (?_)
      refine NX_rng [0, 1] (()) ?_ rfl (List.Sublist.refl _) rfl (Imm.le_refl _)
      exact lt_succ_all hJ1 (fun y hy => by rw [hz2] at hy; simp only [Option.some.injEq] at hy; subst hy; exact h4)
  · refine NX_as (L' := []) [] rfl ?_
    refine CW_seq ?_
    refine CW_region ?_
    refine W_q (r_assign rfl) rfl ?_
    refine W_nil ?_
    refine NX_as (L' := [(4, _)]) [4] rfl ?_
    refine C_ret (RX_q1 rfl rfl ?_)
    rw [idxF_none hJ1]

set_option maxHeartbeats 4000000 in
/-- slices.ContainsFunc[[]int,int] -/
theorem ContainsFuncI_q {m : Imm} {A : Option Addr} {c : Nat} {l : List (Int)} (h : Sl rI 1 m A c l) {p : Int → Bool} {K : Nat} {cap : Array Value} (hK : hasBody Tryz.prog K = true)
    (hp : ∀ {j : Nat} (z : Int), l[j]? = some z → Quiet Tryz.prog K ([.int .i64 z] ++ cap.toList) m (.bool (p z))) : Quiet Tryz.prog 86 [.slice A l.length c, .func (.func K) #[] cap] m (.bool (l.any p)) := by
  refine quiet_of Tryz.func86 rfl Tryz.ntmps86 rfl (fun w => ?_)
  refine CW_seq ?_
  refine CW_region ?_
  refine W_q (r_assign rfl) rfl ?_
  refine W_nil ?_
  refine NX_as (L' := [(0, _), (1, _), (4, _)]) [0, 1, 4] rfl ?_
  refine CW_seq ?_
  refine CW_region ?_
  refine W_q (r_move rfl) rfl ?_
  refine W_q (r_move rfl) rfl ?_
  refine W_quiet (IndexFuncI_q h hK hp) T.hb126 rfl rfl ?_
  refine W_q (r_bin rfl rfl (bin_geq _ _ _ _)) rfl ?_
  refine W_q (r_assign rfl) rfl ?_
  refine W_nil ?_
  refine NX_as (L' := [(4, _)]) [4] rfl ?_
  refine C_ret (RX_q1 rfl rfl ?_)
  rw [idxF_any]

set_option maxHeartbeats 4000000 in
/-- slices.IndexFunc[[]api.Block,api.Block] -/
theorem IndexFuncB_q {m : Imm} {A : Option Addr} {c : Nat} {l : List (FBlk)} (h : Sl rBlock 5 m A c l) {p : FBlk → Bool} {K : Nat} {cap : Array Value} (hK : hasBody Tryz.prog K = true)
    (hp : ∀ {j : Nat} (z : FBlk), l[j]? = some z → ∀ es, rBlock m es z → Quiet Tryz.prog K ([.agg es.toArray] ++ cap.toList) m (.bool (p z))) : Quiet Tryz.prog 148 [.slice A l.length c, .func (.func K) #[] cap] m (.int .i64 (idxF p l)) := by
  have hlen := h.len
  refine quiet_of Tryz.func148 rfl Tryz.ntmps148 rfl (fun w => ?_)
  refine CW_seq ?_
  refine CW_region ?_
  refine W_q (r_assign rfl) rfl ?_
  refine W_nil ?_
  refine NX_as (L' := [(0, _), (1, _), (4, _)]) [0, 1, 4] rfl ?_
  refine CW_seq ?_
  refine CW_seq ?_
  refine CW_region ?_
  refine W_q (r_move rfl) rfl ?_
  refine W_q (r_len Tryz.underlying23 rfl) rfl ?_
  refine W_q (r_move rfl) rfl ?_
  refine W_nil ?_
  refine NX_as (L' := [(0, _), (1, _), (4, _), (7, _), (8, _)]) [0, 1, 4, 7, 8] rfl ?_
  refine C_range (Unit) (l.length) (fun k1 x1 => ∀ j, j < k1 → ∀ y, l[j]? = some y → p y = false) (fun k1 x1 => []) (fun _ _ => []) [] [0, 1] (F := [(0, _), (1, _)]) (()) rfl rfl (by omega) (by simp) rfl rfl rfl rfl rfl rfl rfl (fun _ _ => rfl) (fun _ _ => rfl) (fun k1 x1 hk1 hJ1 => ?_) (fun x1 hJ1 => ?_)
  · refine CW_as (L' := [(0, _), (1, _), (7, _), (8, _)]) [0, 1, 7, 8] rfl ?_
    refine CW_seq ?_
    refine CW_region ?_
    refine W_q (r_move rfl) rfl ?_
    refine W_q (r_assign rfl) rfl ?_
    refine W_nil ?_
    refine NX_as (L' := [(0, _), (1, _), (5, _), (7, _), (8, _)]) [0, 1, 5, 7, 8] rfl ?_
    refine CW_seq ?_
    refine CW_region ?_
    refine W_q (r_move rfl) rfl ?_
    refine W_q (r_move rfl) rfl ?_
    refine W_q (r_move rfl) rfl ?_
    obtain ⟨ad2, hA2⟩ := h.ad (j := k1) (by omega)
    obtain ⟨z2, hz2⟩ := h.getz (j := k1) (by omega)
    refine W_q (r_index hA2 Tryz.underlying23 T.sz44 rfl rfl ⟨by omega, by omega⟩) rfl ?_
    obtain ⟨es3, f3, _, l3⟩ := Sl.get h hA2 hz2
    have F3 := f3
    obtain ⟨A3, c3, B3, d3, C3, e3, rfl, hp3, ho3, ht3, i3a, i3b⟩ := f3
    refine W_q (r_load_immk (vs := [_, _, _, _, _]) rfl T.ag44 T.sz44 l3) rfl ?_
    refine W_callv rfl rfl (hp _ hz2 _ F3) hK rfl ?_
    refine W_nil ?_
    refine NX_as (L' := [(0, _), (1, _), (5, _), (7, _), (8, _), (16, _)]) [0, 1, 5, 7, 8, 16] rfl ?_
    refine CW_condk rfl (fun h4 => ?_) (fun h4 => ?_)
    · (try simp only [decide_eq_true_eq, decide_eq_false_iff_not, beq_iff_eq, beq_eq_false_iff_ne, bne_iff_ne, bne_eq_false_iff_eq, Bool.not_eq_true', Bool.not_eq_false', Bool.not_eq_true, Bool.not_eq_false, ne_eq, Decidable.not_not] at h4)
      refine CW_seq ?_
      refine CW_region ?_
      refine W_q (r_move rfl) rfl ?_
      refine W_q (r_assign rfl) rfl ?_
      refine W_nil ?_
      refine NX_as (L' := [(0, _), (1, _), (4, _), (7, _), (8, _)]) [0, 1, 4, 7, 8] rfl ?_
      refine C_ret (RX_block (RX_then (RX_block (RX_then (RX_q1 rfl rfl ?_)))))
      rw [idxF_at hJ1 hz2 h4]
    · (try simp only [decide_eq_true_eq, decide_eq_false_iff_not, beq_iff_eq, beq_eq_false_iff_ne, bne_iff_ne, bne_eq_false_iff_eq, Bool.not_eq_true', Bool.not_eq_false', Bool.not_eq_true, Bool.not_eq_false, ne_eq, Decidable.not_not] at h4)
      refine C_skip ?_
      refine NX_block (?_)
      refine NX_rng [0, 1] (()) ?_ rfl (List.Sublist.refl _) rfl (Imm.le_refl _)
      exact lt_succ_all hJ1 (fun y hy => by rw [hz2] at hy; simp only [Option.some.injEq] at hy; subst hy; exact h4)
  · refine NX_as (L' := []) [] rfl ?_
    refine CW_seq ?_
    refine CW_region ?_
    refine W_q (r_assign rfl) rfl ?_
    refine W_nil ?_
    refine NX_as (L' := [(4, _)]) [4] rfl ?_
    refine C_ret (RX_q1 rfl rfl ?_)
    rw [idxF_none hJ1]

set_option maxHeartbeats 4000000 in
/-- slices.ContainsFunc[[]api.Block,api.Block] -/
theorem ContainsFuncB_q {m : Imm} {A : Option Addr} {c : Nat} {l : List (FBlk)} (h : Sl rBlock 5 m A c l) {p : FBlk → Bool} {K : Nat} {cap : Array Value} (hK : hasBody Tryz.prog K = true)
    (hp : ∀ {j : Nat} (z : FBlk), l[j]? = some z → ∀ es, rBlock m es z → Quiet Tryz.prog K ([.agg es.toArray] ++ cap.toList) m (.bool (p z))) : Quiet Tryz.prog 110 [.slice A l.length c, .func (.func K) #[] cap] m (.bool (l.any p)) := by
  refine quiet_of Tryz.func110 rfl Tryz.ntmps110 rfl (fun w => ?_)
  refine CW_seq ?_
  refine CW_region ?_
  refine W_q (r_assign rfl) rfl ?_
  refine W_nil ?_
  refine NX_as (L' := [(0, _), (1, _), (4, _)]) [0, 1, 4] rfl ?_
  refine CW_seq ?_
  refine CW_region ?_
  refine W_q (r_move rfl) rfl ?_
  refine W_q (r_move rfl) rfl ?_
  refine W_quiet (IndexFuncB_q h hK hp) T.hb148 rfl rfl ?_
  refine W_q (r_bin rfl rfl (bin_geq _ _ _ _)) rfl ?_
  refine W_q (r_assign rfl) rfl ?_
  refine W_nil ?_
  refine NX_as (L' := [(4, _)]) [4] rfl ?_
  refine C_ret (RX_q1 rfl rfl ?_)
  rw [idxF_any]

set_option maxHeartbeats 4000000 in
/-- slices.IndexFunc[[]api.Phi,api.Phi] -/
theorem IndexFuncP_q {m : Imm} {A : Option Addr} {c : Nat} {l : List (FPhi)} (h : Sl rPhi 4 m A c l) {p : FPhi → Bool} {K : Nat} {cap : Array Value} (hK : hasBody Tryz.prog K = true)
    (hp : ∀ {j : Nat} (z : FPhi), l[j]? = some z → ∀ es, rPhi m es z → Quiet Tryz.prog K ([.agg es.toArray] ++ cap.toList) m (.bool (p z))) : Quiet Tryz.prog 188 [.slice A l.length c, .func (.func K) #[] cap] m (.int .i64 (idxF p l)) := by
  have hlen := h.len
  refine quiet_of Tryz.func188 rfl Tryz.ntmps188 rfl (fun w => ?_)
  refine CW_seq ?_
  refine CW_region ?_
  refine W_q (r_assign rfl) rfl ?_
  refine W_nil ?_
  refine NX_as (L' := [(0, _), (1, _), (4, _)]) [0, 1, 4] rfl ?_
  refine CW_seq ?_
  refine CW_seq ?_
  refine CW_region ?_
  refine W_q (r_move rfl) rfl ?_
  refine W_q (r_len Tryz.underlying39 rfl) rfl ?_
  refine W_q (r_move rfl) rfl ?_
  refine W_nil ?_
  refine NX_as (L' := [(0, _), (1, _), (4, _), (7, _), (8, _)]) [0, 1, 4, 7, 8] rfl ?_
  refine C_range (Unit) (l.length) (fun k1 x1 => ∀ j, j < k1 → ∀ y, l[j]? = some y → p y = false) (fun k1 x1 => []) (fun _ _ => []) [] [0, 1] (F := [(0, _), (1, _)]) (()) rfl rfl (by omega) (by simp) rfl rfl rfl rfl rfl rfl rfl (fun _ _ => rfl) (fun _ _ => rfl) (fun k1 x1 hk1 hJ1 => ?_) (fun x1 hJ1 => ?_)
  · refine CW_as (L' := [(0, _), (1, _), (7, _), (8, _)]) [0, 1, 7, 8] rfl ?_
    refine CW_seq ?_
    refine CW_region ?_
    refine W_q (r_move rfl) rfl ?_
    refine W_q (r_assign rfl) rfl ?_
    refine W_nil ?_
    refine NX_as (L' := [(0, _), (1, _), (5, _), (7, _), (8, _)]) [0, 1, 5, 7, 8] rfl ?_
    refine CW_seq ?_
    refine CW_region ?_
    refine W_q (r_move rfl) rfl ?_
    refine W_q (r_move rfl) rfl ?_
    refine W_q (r_move rfl) rfl ?_
    obtain ⟨ad2, hA2⟩ := h.ad (j := k1) (by omega)
    obtain ⟨z2, hz2⟩ := h.getz (j := k1) (by omega)
    refine W_q (r_index hA2 Tryz.underlying39 T.sz61 rfl rfl ⟨by omega, by omega⟩) rfl ?_
    obtain ⟨es3, f3, _, l3⟩ := Sl.get h hA2 hz2
    have F3 := f3
    obtain ⟨A3, c3, B3, d3, rfl, h3, g3, i3a, i3b⟩ := f3
    refine W_q (r_load_immk (vs := [_, _, _, _]) rfl T.ag61 T.sz61 l3) rfl ?_
    refine W_callv rfl rfl (hp _ hz2 _ F3) hK rfl ?_
    refine W_nil ?_
    refine NX_as (L' := [(0, _), (1, _), (5, _), (7, _), (8, _), (16, _)]) [0, 1, 5, 7, 8, 16] rfl ?_
    refine CW_condk rfl (fun h4 => ?_) (fun h4 => ?_)
    · (try simp only [decide_eq_true_eq, decide_eq_false_iff_not, beq_iff_eq, beq_eq_false_iff_ne, bne_iff_ne, bne_eq_false_iff_eq, Bool.not_eq_true', Bool.not_eq_false', Bool.not_eq_true, Bool.not_eq_false, ne_eq, Decidable.not_not] at h4)
      refine CW_seq ?_
      refine CW_region ?_
      refine W_q (r_move rfl) rfl ?_
      refine W_q (r_assign rfl) rfl ?_
      refine W_nil ?_
      refine NX_as (L' := [(0, _), (1, _), (4, _), (7, _), (8, _)]) [0, 1, 4, 7, 8] rfl ?_
      refine C_ret (RX_block (RX_then (RX_block (RX_then (RX_q1 rfl rfl ?_)))))
      rw [idxF_at hJ1 hz2 h4]
    · (try simp only [decide_eq_true_eq, decide_eq_false_iff_not, beq_iff_eq, beq_eq_false_iff_ne, bne_iff_ne, bne_eq_false_iff_eq, Bool.not_eq_true', Bool.not_eq_false', Bool.not_eq_true, Bool.not_eq_false, ne_eq, Decidable.not_not] at h4)
      refine C_skip ?_
      refine NX_block (?_)
      refine NX_rng [0, 1] (()) ?_ rfl (List.Sublist.refl _) rfl (Imm.le_refl _)
      exact lt_succ_all hJ1 (fun y hy => by rw [hz2] at hy; simp only [Option.some.injEq] at hy; subst hy; exact h4)
  · refine NX_as (L' := []) [] rfl ?_
    refine CW_seq ?_
    refine CW_region ?_
    refine W_q (r_assign rfl) rfl ?_
    refine W_nil ?_
    refine NX_as (L' := [(4, _)]) [4] rfl ?_
    refine C_ret (RX_q1 rfl rfl ?_)
    rw [idxF_none hJ1]

set_option maxHeartbeats 4000000 in
/-- slices.ContainsFunc[[]api.Phi,api.Phi] -/
theorem ContainsFuncP_q {m : Imm} {A : Option Addr} {c : Nat} {l : List (FPhi)} (h : Sl rPhi 4 m A c l) {p : FPhi → Bool} {K : Nat} {cap : Array Value} (hK : hasBody Tryz.prog K = true)
    (hp : ∀ {j : Nat} (z : FPhi), l[j]? = some z → ∀ es, rPhi m es z → Quiet Tryz.prog K ([.agg es.toArray] ++ cap.toList) m (.bool (p z))) : Quiet Tryz.prog 154 [.slice A l.length c, .func (.func K) #[] cap] m (.bool (l.any p)) := by
  refine quiet_of Tryz.func154 rfl Tryz.ntmps154 rfl (fun w => ?_)
  refine CW_seq ?_
  refine CW_region ?_
  refine W_q (r_assign rfl) rfl ?_
  refine W_nil ?_
  refine NX_as (L' := [(0, _), (1, _), (4, _)]) [0, 1, 4] rfl ?_
  refine CW_seq ?_
  refine CW_region ?_
  refine W_q (r_move rfl) rfl ?_
  refine W_q (r_move rfl) rfl ?_
  refine W_quiet (IndexFuncP_q h hK hp) T.hb188 rfl rfl ?_
  refine W_q (r_bin rfl rfl (bin_geq _ _ _ _)) rfl ?_
  refine W_q (r_assign rfl) rfl ?_
  refine W_nil ?_
  refine NX_as (L' := [(4, _)]) [4] rfl ?_
  refine C_ret (RX_q1 rfl rfl ?_)
  rw [idxF_any]

set_option maxHeartbeats 4000000 in
/-- slices.IndexFunc[[]api.Op,api.Op] -/
theorem IndexFuncO_q {m : Imm} {A : Option Addr} {c : Nat} {l : List (FOp)} (h : Sl rOp 6 m A c l) {p : FOp → Bool} {K : Nat} {cap : Array Value} (hK : hasBody Tryz.prog K = true)
    (hp : ∀ {j : Nat} (z : FOp), l[j]? = some z → ∀ es, rOp m es z → Quiet Tryz.prog K ([.agg es.toArray] ++ cap.toList) m (.bool (p z))) : Quiet Tryz.prog 189 [.slice A l.length c, .func (.func K) #[] cap] m (.int .i64 (idxF p l)) := by
  have hlen := h.len
  refine quiet_of Tryz.func189 rfl Tryz.ntmps189 rfl (fun w => ?_)
  refine CW_seq ?_
  refine CW_region ?_
  refine W_q (r_assign rfl) rfl ?_
  refine W_nil ?_
  refine NX_as (L' := [(0, _), (1, _), (4, _)]) [0, 1, 4] rfl ?_
  refine CW_seq ?_
  refine CW_seq ?_
  refine CW_region ?_
  refine W_q (r_move rfl) rfl ?_
  refine W_q (r_len Tryz.underlying40 rfl) rfl ?_
  refine W_q (r_move rfl) rfl ?_
  refine W_nil ?_
  refine NX_as (L' := [(0, _), (1, _), (4, _), (7, _), (8, _)]) [0, 1, 4, 7, 8] rfl ?_
  refine C_range (Unit) (l.length) (fun k1 x1 => ∀ j, j < k1 → ∀ y, l[j]? = some y → p y = false) (fun k1 x1 => []) (fun _ _ => []) [] [0, 1] (F := [(0, _), (1, _)]) (()) rfl rfl (by omega) (by simp) rfl rfl rfl rfl rfl rfl rfl (fun _ _ => rfl) (fun _ _ => rfl) (fun k1 x1 hk1 hJ1 => ?_) (fun x1 hJ1 => ?_)
  · refine CW_as (L' := [(0, _), (1, _), (7, _), (8, _)]) [0, 1, 7, 8] rfl ?_
    refine CW_seq ?_
    refine CW_region ?_
    refine W_q (r_move rfl) rfl ?_
    refine W_q (r_assign rfl) rfl ?_
    refine W_nil ?_
    refine NX_as (L' := [(0, _), (1, _), (5, _), (7, _), (8, _)]) [0, 1, 5, 7, 8] rfl ?_
    refine CW_seq ?_
    refine CW_region ?_
    refine W_q (r_move rfl) rfl ?_
    refine W_q (r_move rfl) rfl ?_
    refine W_q (r_move rfl) rfl ?_
    obtain ⟨ad2, hA2⟩ := h.ad (j := k1) (by omega)
    obtain ⟨z2, hz2⟩ := h.getz (j := k1) (by omega)
    refine W_q (r_index hA2 Tryz.underlying40 T.sz51 rfl rfl ⟨by omega, by omega⟩) rfl ?_
    obtain ⟨es3, f3, _, l3⟩ := Sl.get h hA2 hz2
    have F3 := f3
    obtain ⟨A3, c3, rfl, h3, i3a, i3b, i3c, i3d, i3e⟩ := f3
    refine W_q (r_load_immk (vs := [_, _, _, _, _, _]) rfl T.ag51 T.sz51 l3) rfl ?_
    refine W_callv rfl rfl (hp _ hz2 _ F3) hK rfl ?_
    refine W_nil ?_
    refine NX_as (L' := [(0, _), (1, _), (5, _), (7, _), (8, _), (16, _)]) [0, 1, 5, 7, 8, 16] rfl ?_
    refine CW_condk rfl (fun h4 => ?_) (fun h4 => ?_)
    · (try simp only [decide_eq_true_eq, decide_eq_false_iff_not, beq_iff_eq, beq_eq_false_iff_ne, bne_iff_ne, bne_eq_false_iff_eq, Bool.not_eq_true', Bool.not_eq_false', Bool.not_eq_true, Bool.not_eq_false, ne_eq, Decidable.not_not] at h4)
      refine CW_seq ?_
      refine CW_region ?_
      refine W_q (r_move rfl) rfl ?_
      refine W_q (r_assign rfl) rfl ?_
      refine W_nil ?_
      refine NX_as (L' := [(0, _), (1, _), (4, _), (7, _), (8, _)]) [0, 1, 4, 7, 8] rfl ?_
      refine C_ret (RX_block (RX_then (RX_block (RX_then (RX_q1 rfl rfl ?_)))))
      rw [idxF_at hJ1 hz2 h4]
    · (try simp only [decide_eq_true_eq, decide_eq_false_iff_not, beq_iff_eq, beq_eq_false_iff_ne, bne_iff_ne, bne_eq_false_iff_eq, Bool.not_eq_true', Bool.not_eq_false', Bool.not_eq_true, Bool.not_eq_false, ne_eq, Decidable.not_not] at h4)
      refine C_skip ?_
      refine NX_block (?_)
      refine NX_rng [0, 1] (()) ?_ rfl (List.Sublist.refl _) rfl (Imm.le_refl _)
      exact lt_succ_all hJ1 (fun y hy => by rw [hz2] at hy; simp only [Option.some.injEq] at hy; subst hy; exact h4)
  · refine NX_as (L' := []) [] rfl ?_
    refine CW_seq ?_
    refine CW_region ?_
    refine W_q (r_assign rfl) rfl ?_
    refine W_nil ?_
    refine NX_as (L' := [(4, _)]) [4] rfl ?_
    refine C_ret (RX_q1 rfl rfl ?_)
    rw [idxF_none hJ1]

set_option maxHeartbeats 4000000 in
/-- slices.ContainsFunc[[]api.Op,api.Op] -/
theorem ContainsFuncO_q {m : Imm} {A : Option Addr} {c : Nat} {l : List (FOp)} (h : Sl rOp 6 m A c l) {p : FOp → Bool} {K : Nat} {cap : Array Value} (hK : hasBody Tryz.prog K = true)
    (hp : ∀ {j : Nat} (z : FOp), l[j]? = some z → ∀ es, rOp m es z → Quiet Tryz.prog K ([.agg es.toArray] ++ cap.toList) m (.bool (p z))) : Quiet Tryz.prog 156 [.slice A l.length c, .func (.func K) #[] cap] m (.bool (l.any p)) := by
  refine quiet_of Tryz.func156 rfl Tryz.ntmps156 rfl (fun w => ?_)
  refine CW_seq ?_
  refine CW_region ?_
  refine W_q (r_assign rfl) rfl ?_
  refine W_nil ?_
  refine NX_as (L' := [(0, _), (1, _), (4, _)]) [0, 1, 4] rfl ?_
  refine CW_seq ?_
  refine CW_region ?_
  refine W_q (r_move rfl) rfl ?_
  refine W_q (r_move rfl) rfl ?_
  refine W_quiet (IndexFuncO_q h hK hp) T.hb189 rfl rfl ?_
  refine W_q (r_bin rfl rfl (bin_geq _ _ _ _)) rfl ?_
  refine W_q (r_assign rfl) rfl ?_
  refine W_nil ?_
  refine NX_as (L' := [(4, _)]) [4] rfl ?_
  refine C_ret (RX_q1 rfl rfl ?_)
  rw [idxF_any]

set_option maxHeartbeats 4000000 in
/-- slices.IndexFunc[[][]int,[]int] -/
theorem IndexFuncS_q {m : Imm} {A : Option Addr} {c : Nat} {l : List (List Int)} (h : Sl (rS rI 1) 1 m A c l) {p : List Int → Bool} {K : Nat} {cap : Array Value} (hK : hasBody Tryz.prog K = true)
    (hp : ∀ {j : Nat} (z : List Int), l[j]? = some z → ∀ A' c', Ints m A' c' z → Quiet Tryz.prog K ([.slice A' z.length c'] ++ cap.toList) m (.bool (p z))) : Quiet Tryz.prog 181 [.slice A l.length c, .func (.func K) #[] cap] m (.int .i64 (idxF p l)) := by
  have hlen := h.len
  refine quiet_of Tryz.func181 rfl Tryz.ntmps181 rfl (fun w => ?_)
  refine CW_seq ?_
  refine CW_region ?_
  refine W_q (r_assign rfl) rfl ?_
  refine W_nil ?_
  refine NX_as (L' := [(0, _), (1, _), (4, _)]) [0, 1, 4] rfl ?_
  refine CW_seq ?_
  refine CW_seq ?_
  refine CW_region ?_
  refine W_q (r_move rfl) rfl ?_
  refine W_q (r_len Tryz.underlying65 rfl) rfl ?_
  refine W_q (r_move rfl) rfl ?_
  refine W_nil ?_
  refine NX_as (L' := [(0, _), (1, _), (4, _), (7, _), (8, _)]) [0, 1, 4, 7, 8] rfl ?_
  refine C_range (Unit) (l.length) (fun k1 x1 => ∀ j, j < k1 → ∀ y, l[j]? = some y → p y = false) (fun k1 x1 => []) (fun _ _ => []) [] [0, 1] (F := [(0, _), (1, _)]) (()) rfl rfl (by omega) (by simp) rfl rfl rfl rfl rfl rfl rfl (fun _ _ => rfl) (fun _ _ => rfl) (fun k1 x1 hk1 hJ1 => ?_) (fun x1 hJ1 => ?_)
  · refine CW_as (L' := [(0, _), (1, _), (7, _), (8, _)]) [0, 1, 7, 8] rfl ?_
    refine CW_seq ?_
    refine CW_region ?_
    refine W_q (r_move rfl) rfl ?_
    refine W_q (r_assign rfl) rfl ?_
    refine W_nil ?_
    refine NX_as (L' := [(0, _), (1, _), (5, _), (7, _), (8, _)]) [0, 1, 5, 7, 8] rfl ?_
    refine CW_seq ?_
    refine CW_region ?_
    refine W_q (r_move rfl) rfl ?_
    refine W_q (r_move rfl) rfl ?_
    refine W_q (r_move rfl) rfl ?_
    obtain ⟨ad2, hA2⟩ := h.ad (j := k1) (by omega)
    obtain ⟨z2, hz2⟩ := h.getz (j := k1) (by omega)
    refine W_q (r_index hA2 Tryz.underlying65 T.sz22 rfl rfl ⟨by omega, by omega⟩) rfl ?_
    obtain ⟨A3, c3, l3, h3⟩ := Sl.getS h hA2 hz2
    refine W_q (r_load_imm rfl T.ag22 l3) rfl ?_
    refine W_callv rfl rfl (hp _ hz2 _ _ h3) hK rfl ?_
    refine W_nil ?_
    refine NX_as (L' := [(0, _), (1, _), (5, _), (7, _), (8, _), (16, _)]) [0, 1, 5, 7, 8, 16] rfl ?_
    refine CW_condk rfl (fun h4 => ?_) (fun h4 => ?_)
    · (try simp only [decide_eq_true_eq, decide_eq_false_iff_not, beq_iff_eq, beq_eq_false_iff_ne, bne_iff_ne, bne_eq_false_iff_eq, Bool.not_eq_true', Bool.not_eq_false', Bool.not_eq_true, Bool.not_eq_false, ne_eq, Decidable.not_not] at h4)
      refine CW_seq ?_
      refine CW_region ?_
      refine W_q (r_move rfl) rfl ?_
      refine W_q (r_assign rfl) rfl ?_
      refine W_nil ?_
      refine NX_as (L' := [(0, _), (1, _), (4, _), (7, _), (8, _)]) [0, 1, 4, 7, 8] rfl ?_
      refine C_ret (RX_block (RX_then (RX_block (RX_then (RX_q1 rfl rfl ?_)))))
      rw [idxF_at hJ1 hz2 h4]
    · (try simp only [decide_eq_true_eq, decide_eq_false_iff_not, beq_iff_eq, beq_eq_false_iff_ne, bne_iff_ne, bne_eq_false_iff_eq, Bool.not_eq_true', Bool.not_eq_false', Bool.not_eq_true, Bool.not_eq_false, ne_eq, Decidable.not_not] at h4)
      refine C_skip ?_
      refine NX_block (?_)
      refine NX_rng [0, 1] (()) ?_ rfl (List.Sublist.refl _) rfl (Imm.le_refl _)
      exact lt_succ_all hJ1 (fun y hy => by rw [hz2] at hy; simp only [Option.some.injEq] at hy; subst hy; exact h4)
  · refine NX_as (L' := []) [] rfl ?_
    refine CW_seq ?_
    refine CW_region ?_
    refine W_q (r_assign rfl) rfl ?_
    refine W_nil ?_
    refine NX_as (L' := [(4, _)]) [4] rfl ?_
    refine C_ret (RX_q1 rfl rfl ?_)
    rw [idxF_none hJ1]

set_option maxHeartbeats 4000000 in
/-- slices.ContainsFunc[[][]int,[]int] -/
theorem ContainsFuncS_q {m : Imm} {A : Option Addr} {c : Nat} {l : List (List Int)} (h : Sl (rS rI 1) 1 m A c l) {p : List Int → Bool} {K : Nat} {cap : Array Value} (hK : hasBody Tryz.prog K = true)
    (hp : ∀ {j : Nat} (z : List Int), l[j]? = some z → ∀ A' c', Ints m A' c' z → Quiet Tryz.prog K ([.slice A' z.length c'] ++ cap.toList) m (.bool (p z))) : Quiet Tryz.prog 133 [.slice A l.length c, .func (.func K) #[] cap] m (.bool (l.any p)) := by
  refine quiet_of Tryz.func133 rfl Tryz.ntmps133 rfl (fun w => ?_)
  refine CW_seq ?_
  refine CW_region ?_
  refine W_q (r_assign rfl) rfl ?_
  refine W_nil ?_
  refine NX_as (L' := [(0, _), (1, _), (4, _)]) [0, 1, 4] rfl ?_
  refine CW_seq ?_
  refine CW_region ?_
  refine W_q (r_move rfl) rfl ?_
  refine W_q (r_move rfl) rfl ?_
  refine W_quiet (IndexFuncS_q h hK hp) T.hb181 rfl rfl ?_
  refine W_q (r_bin rfl rfl (bin_geq _ _ _ _)) rfl ?_
  refine W_q (r_assign rfl) rfl ?_
  refine W_nil ?_
  refine NX_as (L' := [(4, _)]) [4] rfl ?_
  refine C_ret (RX_q1 rfl rfl ?_)
  rw [idxF_any]

end Go.Proofs.YtipmgkhjoekaaaaGreat

set_option linter.unusedVariables false
set_option linter.unusedSimpArgs false
namespace Go.Proofs.YtipmgkhjoekaaaaGreat
open Go Go.RowKit Go.Proofs Go.Proofs.YtipmgkhjoekaaaaGreat.Fw
attribute [local irreducible] Qt WL CW NX RX EX GX DL
namespace T
theorem ag23 : agg? Tryz.prog 23 = some false := by kernel_rfl
theorem ag25 : agg? Tryz.prog 25 = some true := by kernel_rfl
theorem ag39 : agg? Tryz.prog 39 = some false := by kernel_rfl
theorem ag40 : agg? Tryz.prog 40 = some false := by kernel_rfl
theorem fo25_0 : fld? Tryz.prog 25 0 = some (0, 1) := by kernel_rfl
theorem fo25_1 : fld? Tryz.prog 25 1 = some (1, 1) := by kernel_rfl
theorem fo25_2 : fld? Tryz.prog 25 2 = some (2, 1) := by kernel_rfl
theorem fo42_0 : fld? Tryz.prog 42 0 = some (0, 1) := by kernel_rfl
theorem fo42_1 : fld? Tryz.prog 42 1 = some (1, 1) := by kernel_rfl
theorem fo42_2 : fld? Tryz.prog 42 2 = some (2, 1) := by kernel_rfl
theorem fo44_0 : fld? Tryz.prog 44 0 = some (0, 1) := by kernel_rfl
theorem fo44_1 : fld? Tryz.prog 44 1 = some (1, 1) := by kernel_rfl
theorem fo44_2 : fld? Tryz.prog 44 2 = some (2, 3) := by kernel_rfl
theorem fo51_0 : fld? Tryz.prog 51 0 = some (0, 1) := by kernel_rfl
theorem fo51_1 : fld? Tryz.prog 51 1 = some (1, 1) := by kernel_rfl
theorem fo51_2 : fld? Tryz.prog 51 2 = some (2, 1) := by kernel_rfl
theorem fo51_3 : fld? Tryz.prog 51 3 = some (3, 1) := by kernel_rfl
theorem fo51_4 : fld? Tryz.prog 51 4 = some (4, 1) := by kernel_rfl
theorem fo61_0 : fld? Tryz.prog 61 0 = some (0, 1) := by kernel_rfl
theorem fo61_1 : fld? Tryz.prog 61 1 = some (1, 1) := by kernel_rfl
theorem fo61_2 : fld? Tryz.prog 61 2 = some (2, 1) := by kernel_rfl
theorem fo61_3 : fld? Tryz.prog 61 3 = some (3, 1) := by kernel_rfl
theorem hb108 : hasBody Tryz.prog 108 = true := by kernel_rfl
theorem hb109 : hasBody Tryz.prog 109 = true := by kernel_rfl
theorem hb110 : hasBody Tryz.prog 110 = true := by kernel_rfl
theorem hb111 : hasBody Tryz.prog 111 = true := by kernel_rfl
theorem hb112 : hasBody Tryz.prog 112 = true := by kernel_rfl
theorem hb147 : hasBody Tryz.prog 147 = true := by kernel_rfl
theorem hb149 : hasBody Tryz.prog 149 = true := by kernel_rfl
theorem hb86 : hasBody Tryz.prog 86 = true := by kernel_rfl
theorem sz25 : sz? Tryz.prog 25 = some 3 := by kernel_rfl
theorem ze22 : zero? Tryz.prog 22 = some (.slice none 0 0) := by kernel_rfl
theorem ze3 : zero? Tryz.prog 3 = some (.int .i64 0) := by kernel_rfl
theorem ze44 : zero? Tryz.prog 44 = some (.agg #[(.slice none 0 0), (.slice none 0 0), (.int .i64 0), (.int .i64 0), (.slice none 0 0)]) := by kernel_rfl
theorem ze51 : zero? Tryz.prog 51 = some (.agg #[(.int .i64 0), (.int .i64 0), (.int .i64 0), (.int .i64 0), (.slice none 0 0), (.int .u64 0)]) := by kernel_rfl
theorem ze61 : zero? Tryz.prog 61 = some (.agg #[(.int .i64 0), (.int .i64 0), (.slice none 0 0), (.slice none 0 0)]) := by kernel_rfl
end T
set_option maxHeartbeats 4000000 in
/-- code.in -/
theorem in_q {m : Imm} {A : Option Addr} {c : Nat} {l : List Int} (h : Ints m A c l) : Quiet Tryz.prog 109 [.slice A l.length c] m (.bool (inB l)) := by
  refine quiet_of Tryz.func109 rfl Tryz.ntmps109 rfl (fun w => ?_)
  refine CW_seq ?_
  refine CW_region ?_
  refine W_q (r_assign rfl) rfl ?_
  refine W_nil ?_
  refine NX_as (L' := [(0, _), (2, _)]) [0, 2] rfl ?_
  refine CW_seq ?_
  refine CW_region ?_
  refine W_q (r_move rfl) rfl ?_
  refine W_quiet (ContainsFuncI_q h (p := outN) (K := 147) T.hb147 (fun z _ => in1_q z)) T.hb86 rfl rfl ?_
  refine W_q (r_not rfl) rfl ?_
  refine W_q (r_assign rfl) rfl ?_
  refine W_nil ?_
  refine NX_as (L' := [(2, _)]) [2] rfl ?_
  refine C_ret (RX_q1 rfl rfl ?_)
  rw [inB]

set_option maxHeartbeats 4000000 in
/-- code.lists -/
theorem lists_q {m : Imm} {A : Option Addr} {c : Nat} {ll : List (List Int)} (h : Sl (rS rI 1) 1 m A c ll) : Quiet Tryz.prog 149 [.slice A ll.length c] m (.bool (listsB ll)) := by
  have hlen := h.len
  refine quiet_of Tryz.func149 rfl Tryz.ntmps149 rfl (fun w => ?_)
  refine CW_seq ?_
  refine CW_region ?_
  refine W_q (r_assign rfl) rfl ?_
  refine W_nil ?_
  refine NX_as (L' := [(0, _), (2, _)]) [0, 2] rfl ?_
  refine CW_seq ?_
  refine CW_seq ?_
  refine CW_region ?_
  refine W_q (r_move rfl) rfl ?_
  refine W_q (r_len Tryz.underlying65 rfl) rfl ?_
  refine W_q (r_move rfl) rfl ?_
  refine W_nil ?_
  refine NX_as (L' := [(2, _), (5, _), (6, _), (7, _)]) [2, 5, 6, 7] rfl ?_
  refine C_range (Unit) (ll.length) (fun k1 x1 => ∀ j, j < k1 → ∀ y, ll[j]? = some y → (!(decide (64 < (y.length : Int)) || !(inB y))) = true) (fun k1 x1 => []) (fun _ _ => []) [] [5] (F := [(5, _)]) (()) rfl rfl (by omega) (by simp) rfl rfl rfl rfl rfl rfl rfl (fun _ _ => rfl) (fun _ _ => rfl) (fun k1 x1 hk1 hJ1 => ?_) (fun x1 hJ1 => ?_)
  · refine CW_as (L' := [(5, _), (6, _), (7, _)]) [5, 6, 7] rfl ?_
    refine CW_seq ?_
    refine CW_region ?_
    obtain ⟨ad2, hA2⟩ := h.ad (j := k1) (by omega)
    obtain ⟨z2, hz2⟩ := h.getz (j := k1) (by omega)
    refine W_q (r_index hA2 Tryz.underlying65 T.sz22 rfl rfl ⟨by omega, by omega⟩) rfl ?_
    obtain ⟨A3, c3, l3, h3⟩ := Sl.getS h hA2 hz2
    refine W_q (r_load_imm rfl T.ag22 l3) rfl ?_
    refine W_q (r_assign rfl) rfl ?_
    refine W_nil ?_
    refine NX_as (L' := [(4, _), (5, _), (6, _), (7, _)]) [4, 5, 6, 7] rfl ?_
    refine CW_seq ?_
    refine CW_region ?_
    refine W_q (r_move rfl) rfl ?_
    refine W_q (r_len Tryz.underlying22 rfl) rfl ?_
    refine W_q (r_bin rfl rfl (bin_gtr _ _ _ _)) rfl ?_
    refine W_q (r_move rfl) rfl ?_
    refine WL_split (t := 14) rfl (fun h4 => ?_) (fun h4 => ?_)
    · (try simp only [decide_eq_true_eq, decide_eq_false_iff_not, beq_iff_eq, beq_eq_false_iff_ne, bne_iff_ne, bne_eq_false_iff_eq, Bool.not_eq_true', Bool.not_eq_false', Bool.not_eq_true, Bool.not_eq_false, ne_eq, Decidable.not_not] at h4)
      refine WL_pass rfl rfl rfl rfl ?_
      refine WL_pass rfl rfl rfl rfl ?_
      refine WL_pass rfl rfl rfl rfl ?_
      refine W_q (r_pick_t rfl rfl) rfl ?_
      refine W_nil ?_
      refine NX_as (L' := [(5, _), (6, _), (7, _), (18, _)]) [5, 6, 7, 18] rfl ?_
      refine CW_cond_t rfl ?_
      refine CW_seq ?_
      refine CW_region ?_
      refine W_q (r_assign rfl) rfl ?_
      refine W_nil ?_
      refine NX_as (L' := [(2, _), (5, _), (6, _), (7, _)]) [2, 5, 6, 7] rfl ?_
      refine C_ret (RX_block (RX_then (RX_block (RX_then (RX_q1 rfl rfl ?_)))))
      first
        | (rw [listsB, all_false_of hz2 (by simp_all)]; done)
        | (rw [listsB, all_true_of hJ1])
    · (try simp only [decide_eq_true_eq, decide_eq_false_iff_not, beq_iff_eq, beq_eq_false_iff_ne, bne_iff_ne, bne_eq_false_iff_eq, Bool.not_eq_true', Bool.not_eq_false', Bool.not_eq_true, Bool.not_eq_false, ne_eq, Decidable.not_not] at h4)
      refine WL_take rfl rfl ?_
      refine W_q (r_move rfl) rfl ?_
      refine WL_take rfl rfl ?_
      refine W_quiet (in_q h3) T.hb109 rfl rfl ?_
      refine WL_take rfl rfl ?_
      refine W_q (r_not rfl) rfl ?_
      refine W_q (r_pick_f rfl rfl) rfl ?_
      refine W_nil ?_
      refine NX_as (L' := [(5, _), (6, _), (7, _), (18, _)]) [5, 6, 7, 18] rfl ?_
      refine CW_condk rfl (fun h5 => ?_) (fun h5 => ?_)
      · (try simp only [decide_eq_true_eq, decide_eq_false_iff_not, beq_iff_eq, beq_eq_false_iff_ne, bne_iff_ne, bne_eq_false_iff_eq, Bool.not_eq_true', Bool.not_eq_false', Bool.not_eq_true, Bool.not_eq_false, ne_eq, Decidable.not_not] at h5)
        refine CW_seq ?_
        refine CW_region ?_
        refine W_q (r_assign rfl) rfl ?_
        refine W_nil ?_
        refine NX_as (L' := [(2, _), (5, _), (6, _), (7, _)]) [2, 5, 6, 7] rfl ?_
        refine C_ret (RX_block (RX_then (RX_block (RX_then (RX_q1 rfl rfl ?_)))))
        first
          | (rw [listsB, all_false_of hz2 (by simp_all)]; done)
          | (rw [listsB, all_true_of hJ1])
      · (try simp only [decide_eq_true_eq, decide_eq_false_iff_not, beq_iff_eq, beq_eq_false_iff_ne, bne_iff_ne, bne_eq_false_iff_eq, Bool.not_eq_true', Bool.not_eq_false', Bool.not_eq_true, Bool.not_eq_false, ne_eq, Decidable.not_not] at h5)
        refine C_skip ?_
        refine NX_block (?_)
        refine NX_rng [5] (()) ?_ rfl (List.Sublist.refl _) rfl (Imm.le_refl _)
        exact lt_succ_all hJ1 (fun y hy => by rw [hz2] at hy; simp only [Option.some.injEq] at hy; subst hy; simp_all)
  · refine NX_as (L' := []) [] rfl ?_
    refine CW_seq ?_
    refine CW_region ?_
    refine W_q (r_assign rfl) rfl ?_
    refine W_nil ?_
    refine NX_as (L' := [(2, _)]) [2] rfl ?_
    refine C_ret (RX_q1 rfl rfl ?_)
    first
      | (rw [listsB, all_false_of hz2 (by simp_all)]; done)
      | (rw [listsB, all_true_of hJ1])

set_option maxHeartbeats 4000000 in
/-- code.mayBlock -/
theorem mayBlock_q {m : Imm} {es : List Value} {b : FBlk} (hB : rBlock m es b) : Quiet Tryz.prog 112 [.agg es.toArray] m (.bool (mayBlock b)) := by
  have hB_0 := hB
  obtain ⟨A90, c90, B90, d90, C90, e90, rfl, hp90, ho90, ht90, i90a, i90b⟩ := hB_0
  have hlen := hp90.len
  have hlen2 := ho90.len
  refine quiet_of Tryz.func112 rfl Tryz.ntmps112 rfl (fun w => ?_)
  refine CW_seq ?_
  refine CW_region ?_
  refine S_box (l := [_, _, _, _, _]) rfl rfl rfl (fun b1 => ?_)
  refine W_q (r_assign rfl) rfl ?_
  refine W_nil ?_
  refine NX_as (L' := [(1, _), (2, _)]) [1, 2] rfl ?_
  refine CW_seq ?_
  refine CW_seq ?_
  refine CW_region ?_
  refine W_q (r_fieldb (o' := 0) rfl T.fo44_0 rfl) rfl ?_
  refine W_q (r_loadb 0 rfl T.ag39 rfl rfl) rfl ?_
  refine W_q (r_len Tryz.underlying39 rfl) rfl ?_
  refine W_q (r_move rfl) rfl ?_
  refine W_nil ?_
  refine NX_as (L' := [(1, _), (2, _), (8, _), (9, _), (10, _)]) [1, 2, 8, 9, 10] rfl ?_
  refine C_range (Unit) (b.phis.length) (fun k2 x2 => ∀ j, j < k2 → ∀ y, b.phis[j]? = some y → mayPhi y = true) (fun k2 x2 => []) (fun _ _ => []) [] [1, 8] (F := [(1, _), (8, _)]) (()) rfl rfl (by omega) (by simp) rfl rfl rfl rfl rfl rfl rfl (fun _ _ => rfl) (fun _ _ => rfl) (fun k2 x2 hk2 hJ2 => ?_) (fun x2 hJ2 => ?_)
  · refine CW_as (L' := [(1, _), (8, _), (9, _), (10, _)]) [1, 8, 9, 10] rfl ?_
    refine CW_seq ?_
    refine CW_region ?_
    obtain ⟨ad3, hA3⟩ := hp90.ad (j := k2) (by omega)
    obtain ⟨z3, hz3⟩ := hp90.getz (j := k2) (by omega)
    refine W_q (r_index hA3 Tryz.underlying39 T.sz61 rfl rfl ⟨by omega, by omega⟩) rfl ?_
    obtain ⟨es4, f4, _, l4⟩ := Sl.get hp90 hA3 hz3
    have F4 := f4
    obtain ⟨A4, c4, B4, d4, rfl, h4, g4, i4a, i4b⟩ := f4
    refine W_q (r_load_immk (vs := [_, _, _, _]) rfl T.ag61 T.sz61 l4) rfl ?_
    refine S_alloc (l := [_, _, _, _]) T.ze61 rfl rfl (fun b5 => ?_)
    refine S_storeb 0 (l' := [_, _, _, _]) rfl rfl rfl T.sz61 rfl rfl rfl rfl ?_
    refine W_nil ?_
    refine NX_as (L' := [(1, _), (4, _), (8, _), (9, _), (10, _)]) [1, 4, 8, 9, 10] rfl ?_
    refine CW_seq ?_
    refine CW_region ?_
    refine W_q (r_fieldb (o' := 0) rfl T.fo61_0 rfl) rfl ?_
    refine W_q (r_loadb 0 rfl T.ag3 rfl rfl) rfl ?_
    refine W_q (r_fieldb (o' := 1) rfl T.fo61_1 rfl) rfl ?_
    refine W_q (r_loadb 0 rfl T.ag3 rfl rfl) rfl ?_
    refine S_lit (vs := [_, _]) (cs := [_, _]) Tryz.underlying22 T.sz3 T.ze3 rfl rfl rfl rfl rfl rfl (fun m6 ad6 le6 l6 => ?_)
    replace hB := rBlock_mono _ _ _ _ le6 hB
    replace hp90 := hp90.mono rPhi_mono le6
    replace ho90 := ho90.mono rOp_mono le6
    replace ht90 := ht90.mono rI_mono le6
    replace F4 := rPhi_mono _ _ _ _ le6 F4
    replace h4 := h4.mono rI_mono le6
    replace g4 := g4.mono rI_mono le6
    have h6 : Ints m6 (some ad6) 2 _ := Ints_lit [_, _] l6 (i64s_cons (by first | assumption | exact ⟨by omega, by omega⟩) (i64s_cons (by first | assumption | exact ⟨by omega, by omega⟩) i64s_nil))
    refine W_quiet (in_q h6) T.hb109 rfl rfl ?_
    refine W_q (r_not rfl) rfl ?_
    refine W_q (r_move rfl) rfl ?_
    refine WL_split (t := 21) rfl (fun h7 => ?_) (fun h7 => ?_)
    · (try simp only [decide_eq_true_eq, decide_eq_false_iff_not, beq_iff_eq, beq_eq_false_iff_ne, bne_iff_ne, bne_eq_false_iff_eq, Bool.not_eq_true', Bool.not_eq_false', Bool.not_eq_true, Bool.not_eq_false, ne_eq, Decidable.not_not] at h7)
      refine WL_pass rfl rfl rfl rfl ?_
      refine WL_pass rfl rfl rfl rfl ?_
      refine WL_pass rfl rfl rfl rfl ?_
      refine WL_pass rfl rfl rfl rfl ?_
      refine WL_pass rfl rfl rfl rfl ?_
      refine WL_pass rfl rfl rfl rfl ?_
      refine WL_pass rfl rfl rfl rfl ?_
      refine W_q (r_pick_t rfl rfl) rfl ?_
      refine W_nil ?_
      refine NX_as (L' := [(1, _), (8, _), (9, _), (10, _), (29, _)]) [1, 8, 9, 10, 29] rfl ?_
      refine CW_cond_t rfl ?_
      refine CW_seq ?_
      refine CW_region ?_
      refine W_q (r_assign rfl) rfl ?_
      refine W_nil ?_
      refine NX_as (L' := [(1, _), (2, _), (8, _), (9, _), (10, _)]) [1, 2, 8, 9, 10] rfl ?_
      refine C_ret (RX_block (RX_then (RX_block (RX_then (RX_q1 rfl rfl ?_)))))
      first
        | (rw [mayBlock, all_false_of hz3 (by simp_all [mayPhi])]; rfl)
        | (rw [mayBlock, all_true_of hJ2, all_false_of hz3 (by simp_all [mayOpC])]; rfl)
        | (rw [mayBlock, all_true_of hJ2, all_true_of «J1»]; simp_all)
    · (try simp only [decide_eq_true_eq, decide_eq_false_iff_not, beq_iff_eq, beq_eq_false_iff_ne, bne_iff_ne, bne_eq_false_iff_eq, Bool.not_eq_true', Bool.not_eq_false', Bool.not_eq_true, Bool.not_eq_false, ne_eq, Decidable.not_not] at h7)
      refine WL_take rfl rfl ?_
      refine W_q (r_fieldb (o' := 2) rfl T.fo61_2 rfl) rfl ?_
      refine WL_take rfl rfl ?_
      refine W_q (r_loadb 0 rfl T.ag22 rfl rfl) rfl ?_
      refine WL_take rfl rfl ?_
      refine W_q (r_fieldb (o' := 3) rfl T.fo61_3 rfl) rfl ?_
      refine WL_take rfl rfl ?_
      refine W_q (r_loadb 0 rfl T.ag22 rfl rfl) rfl ?_
      refine WL_take rfl rfl ?_
      refine S_lit (vs := [_, _]) (cs := [_, _]) Tryz.underlying65 T.sz22 T.ze22 rfl rfl rfl rfl rfl rfl (fun m8 ad8 le8 l8 => ?_)
      replace hB := rBlock_mono _ _ _ _ le8 hB
      replace hp90 := hp90.mono rPhi_mono le8
      replace ho90 := ho90.mono rOp_mono le8
      replace ht90 := ht90.mono rI_mono le8
      replace F4 := rPhi_mono _ _ _ _ le8 F4
      replace h4 := h4.mono rI_mono le8
      replace g4 := g4.mono rI_mono le8
      replace h6 := h6.mono rI_mono le8
      have h8 := slS_lit2 h4 g4 l8
      refine WL_take rfl rfl ?_
      refine W_quiet (lists_q h8) T.hb149 rfl rfl ?_
      refine WL_take rfl rfl ?_
      refine W_q (r_not rfl) rfl ?_
      refine W_q (r_pick_f rfl rfl) rfl ?_
      refine W_nil ?_
      refine NX_as (L' := [(1, _), (8, _), (9, _), (10, _), (29, _)]) [1, 8, 9, 10, 29] rfl ?_
      refine CW_condk rfl (fun h9 => ?_) (fun h9 => ?_)
      · (try simp only [decide_eq_true_eq, decide_eq_false_iff_not, beq_iff_eq, beq_eq_false_iff_ne, bne_iff_ne, bne_eq_false_iff_eq, Bool.not_eq_true', Bool.not_eq_false', Bool.not_eq_true, Bool.not_eq_false, ne_eq, Decidable.not_not] at h9)
        refine CW_seq ?_
        refine CW_region ?_
        refine W_q (r_assign rfl) rfl ?_
        refine W_nil ?_
        refine NX_as (L' := [(1, _), (2, _), (8, _), (9, _), (10, _)]) [1, 2, 8, 9, 10] rfl ?_
        refine C_ret (RX_block (RX_then (RX_block (RX_then (RX_q1 rfl rfl ?_)))))
        first
          | (rw [mayBlock, all_false_of hz3 (by simp_all [mayPhi])]; rfl)
          | (rw [mayBlock, all_true_of hJ2, all_false_of hz3 (by simp_all [mayOpC])]; rfl)
          | (rw [mayBlock, all_true_of hJ2, all_true_of «J1»]; simp_all)
      · (try simp only [decide_eq_true_eq, decide_eq_false_iff_not, beq_iff_eq, beq_eq_false_iff_ne, bne_iff_ne, bne_eq_false_iff_eq, Bool.not_eq_true', Bool.not_eq_false', Bool.not_eq_true, Bool.not_eq_false, ne_eq, Decidable.not_not] at h9)
        refine C_skip ?_
        refine NX_block (?_)
        refine NX_rng [1, 8] (()) ?_ rfl (sub_drop 1 rfl) rfl (Imm.le_trans (le6) le8)
        exact lt_succ_all hJ2 (fun y hy => by rw [hz3] at hy; simp only [Option.some.injEq] at hy; subst hy; simp_all [mayPhi])
  · refine NX_as (L' := [(1, _)]) [1] rfl ?_
    refine CW_seq ?_
    refine CW_seq ?_
    refine CW_region ?_
    refine W_q (r_fieldb (o' := 1) rfl T.fo44_1 rfl) rfl ?_
    refine W_q (r_loadb 0 rfl T.ag40 rfl rfl) rfl ?_
    refine W_q (r_len Tryz.underlying40 rfl) rfl ?_
    refine W_q (r_move rfl) rfl ?_
    refine W_nil ?_
    refine NX_as (L' := [(1, _), (32, _), (33, _), (34, _)]) [1, 32, 33, 34] rfl ?_
    refine C_range (Unit) (b.ops.length) (fun k10 x10 => ∀ j, j < k10 → ∀ y, b.ops[j]? = some y → mayOpC y = true) (fun k10 x10 => []) (fun _ _ => []) [] [1, 32] (F := [(1, _), (32, _)]) (()) rfl rfl (by omega) (by simp) rfl rfl rfl rfl rfl rfl rfl (fun _ _ => rfl) (fun _ _ => rfl) (fun k10 x10 hk10 hJ10 => ?_) (fun x10 hJ10 => ?_)
    · refine CW_as (L' := [(1, _), (32, _), (33, _), (34, _)]) [1, 32, 33, 34] rfl ?_
      refine CW_seq ?_
      refine CW_region ?_
      obtain ⟨ad11, hA11⟩ := ho90.ad (j := k10) (by omega)
      obtain ⟨z11, hz11⟩ := ho90.getz (j := k10) (by omega)
      refine W_q (r_index hA11 Tryz.underlying40 T.sz51 rfl rfl ⟨by omega, by omega⟩) rfl ?_
      obtain ⟨es12, f12, _, l12⟩ := Sl.get ho90 hA11 hz11
      have F12 := f12
      obtain ⟨A12, c12, rfl, h12, i12a, i12b, i12c, i12d, i12e⟩ := f12
      refine W_q (r_load_immk (vs := [_, _, _, _, _, _]) rfl T.ag51 T.sz51 l12) rfl ?_
      refine S_alloc (l := [_, _, _, _, _, _]) T.ze51 rfl rfl (fun b13 => ?_)
      refine S_storeb 0 (l' := [_, _, _, _, _, _]) rfl rfl rfl T.sz51 rfl rfl rfl rfl ?_
      refine W_nil ?_
      refine NX_as (L' := [(1, _), (6, _), (32, _), (33, _), (34, _)]) [1, 6, 32, 33, 34] rfl ?_
      refine CW_seq ?_
      refine CW_region ?_
      refine W_q (r_fieldb (o' := 0) rfl T.fo51_0 rfl) rfl ?_
      refine W_q (r_loadb 0 rfl T.ag3 rfl rfl) rfl ?_
      refine W_q (r_fieldb (o' := 1) rfl T.fo51_1 rfl) rfl ?_
      refine W_q (r_loadb 0 rfl T.ag3 rfl rfl) rfl ?_
      refine W_q (r_fieldb (o' := 2) rfl T.fo51_2 rfl) rfl ?_
      refine W_q (r_loadb 0 rfl T.ag3 rfl rfl) rfl ?_
      refine W_q (r_fieldb (o' := 3) rfl T.fo51_3 rfl) rfl ?_
      refine W_q (r_loadb 0 rfl T.ag3 rfl rfl) rfl ?_
      refine S_lit (vs := [_, _, _, _]) (cs := [_, _, _, _]) Tryz.underlying22 T.sz3 T.ze3 rfl rfl rfl rfl rfl rfl (fun m14 ad14 le14 l14 => ?_)
      replace hB := rBlock_mono _ _ _ _ le14 hB
      replace hp90 := hp90.mono rPhi_mono le14
      replace ho90 := ho90.mono rOp_mono le14
      replace ht90 := ht90.mono rI_mono le14
      replace F12 := rOp_mono _ _ _ _ le14 F12
      replace h12 := h12.mono rI_mono le14
      have h14 : Ints m14 (some ad14) 4 _ := Ints_lit [_, _, _, _] l14 (i64s_cons (by first | assumption | exact ⟨by omega, by omega⟩) (i64s_cons (by first | assumption | exact ⟨by omega, by omega⟩) (i64s_cons (by first | assumption | exact ⟨by omega, by omega⟩) (i64s_cons (by first | assumption | exact ⟨by omega, by omega⟩) i64s_nil))))
      refine W_quiet (in_q h14) T.hb109 rfl rfl ?_
      refine W_q (r_not rfl) rfl ?_
      refine W_q (r_move rfl) rfl ?_
      refine WL_split (t := 49) rfl (fun h15 => ?_) (fun h15 => ?_)
      · (try simp only [decide_eq_true_eq, decide_eq_false_iff_not, beq_iff_eq, beq_eq_false_iff_ne, bne_iff_ne, bne_eq_false_iff_eq, Bool.not_eq_true', Bool.not_eq_false', Bool.not_eq_true, Bool.not_eq_false, ne_eq, Decidable.not_not] at h15)
        refine WL_pass rfl rfl rfl rfl ?_
        refine WL_pass rfl rfl rfl rfl ?_
        refine WL_pass rfl rfl rfl rfl ?_
        refine WL_pass rfl rfl rfl rfl ?_
        refine WL_pass rfl rfl rfl rfl ?_
        refine W_q (r_pick_t rfl rfl) rfl ?_
        refine W_nil ?_
        refine NX_as (L' := [(1, _), (32, _), (33, _), (34, _), (55, _)]) [1, 32, 33, 34, 55] rfl ?_
        refine CW_cond_t rfl ?_
        refine CW_seq ?_
        refine CW_region ?_
        refine W_q (r_assign rfl) rfl ?_
        refine W_nil ?_
        refine NX_as (L' := [(1, _), (2, _), (32, _), (33, _), (34, _)]) [1, 2, 32, 33, 34] rfl ?_
        refine C_ret (RX_block (RX_then (RX_block (RX_then (RX_q1 rfl rfl ?_)))))
        first
          | (rw [mayBlock, all_false_of hz11 (by simp_all [mayPhi])]; rfl)
          | (rw [mayBlock, all_true_of hJ2, all_false_of hz11 (by simp_all [mayOpC])]; rfl)
          | (rw [mayBlock, all_true_of hJ2, all_true_of hJ10]; simp_all)
      · (try simp only [decide_eq_true_eq, decide_eq_false_iff_not, beq_iff_eq, beq_eq_false_iff_ne, bne_iff_ne, bne_eq_false_iff_eq, Bool.not_eq_true', Bool.not_eq_false', Bool.not_eq_true, Bool.not_eq_false, ne_eq, Decidable.not_not] at h15)
        refine WL_take rfl rfl ?_
        refine W_q (r_fieldb (o' := 4) rfl T.fo51_4 rfl) rfl ?_
        refine WL_take rfl rfl ?_
        refine W_q (r_loadb 0 rfl T.ag22 rfl rfl) rfl ?_
        refine WL_take rfl rfl ?_
        refine S_lit (vs := [_]) (cs := [_]) Tryz.underlying65 T.sz22 T.ze22 rfl rfl rfl rfl rfl rfl (fun m16 ad16 le16 l16 => ?_)
        replace hB := rBlock_mono _ _ _ _ le16 hB
        replace hp90 := hp90.mono rPhi_mono le16
        replace ho90 := ho90.mono rOp_mono le16
        replace ht90 := ht90.mono rI_mono le16
        replace F12 := rOp_mono _ _ _ _ le16 F12
        replace h12 := h12.mono rI_mono le16
        replace h14 := h14.mono rI_mono le16
        have h16 := slS_lit1 h12 l16
        refine WL_take rfl rfl ?_
        refine W_quiet (lists_q h16) T.hb149 rfl rfl ?_
        refine WL_take rfl rfl ?_
        refine W_q (r_not rfl) rfl ?_
        refine W_q (r_pick_f rfl rfl) rfl ?_
        refine W_nil ?_
        refine NX_as (L' := [(1, _), (32, _), (33, _), (34, _), (55, _)]) [1, 32, 33, 34, 55] rfl ?_
        refine CW_condk rfl (fun h17 => ?_) (fun h17 => ?_)
        · (try simp only [decide_eq_true_eq, decide_eq_false_iff_not, beq_iff_eq, beq_eq_false_iff_ne, bne_iff_ne, bne_eq_false_iff_eq, Bool.not_eq_true', Bool.not_eq_false', Bool.not_eq_true, Bool.not_eq_false, ne_eq, Decidable.not_not] at h17)
          refine CW_seq ?_
          refine CW_region ?_
          refine W_q (r_assign rfl) rfl ?_
          refine W_nil ?_
          refine NX_as (L' := [(1, _), (2, _), (32, _), (33, _), (34, _)]) [1, 2, 32, 33, 34] rfl ?_
          refine C_ret (RX_block (RX_then (RX_block (RX_then (RX_q1 rfl rfl ?_)))))
          first
            | (rw [mayBlock, all_false_of hz11 (by simp_all [mayPhi])]; rfl)
            | (rw [mayBlock, all_true_of hJ2, all_false_of hz11 (by simp_all [mayOpC])]; rfl)
            | (rw [mayBlock, all_true_of hJ2, all_true_of hJ10]; simp_all)
        · (try simp only [decide_eq_true_eq, decide_eq_false_iff_not, beq_iff_eq, beq_eq_false_iff_ne, bne_iff_ne, bne_eq_false_iff_eq, Bool.not_eq_true', Bool.not_eq_false', Bool.not_eq_true, Bool.not_eq_false, ne_eq, Decidable.not_not] at h17)
          refine C_skip ?_
          refine NX_block (?_)
          refine NX_rng [1, 32] (()) ?_ rfl (sub_drop 1 rfl) rfl (Imm.le_trans (le14) le16)
          exact lt_succ_all hJ10 (fun y hy => by rw [hz11] at hy; simp only [Option.some.injEq] at hy; subst hy; simp_all [mayOpC])
    · refine NX_as (L' := [(1, _)]) [1] rfl ?_
      refine CW_seq ?_
      refine CW_region ?_
      refine W_q (r_fieldb (o' := 2) rfl T.fo44_2 rfl) rfl ?_
      refine W_q (r_fieldb (o' := 2) rfl T.fo42_0 rfl) rfl ?_
      refine W_q (r_loadb 0 rfl T.ag3 rfl rfl) rfl ?_
      refine W_q (r_fieldb (o' := 2) rfl T.fo44_2 rfl) rfl ?_
      refine W_q (r_fieldb (o' := 3) rfl T.fo42_1 rfl) rfl ?_
      refine W_q (r_loadb 0 rfl T.ag3 rfl rfl) rfl ?_
      refine S_lit (vs := [_, _]) (cs := [_, _]) Tryz.underlying22 T.sz3 T.ze3 rfl rfl rfl rfl rfl rfl (fun m18 ad18 le18 l18 => ?_)
      replace hB := rBlock_mono _ _ _ _ le18 hB
      replace hp90 := hp90.mono rPhi_mono le18
      replace ho90 := ho90.mono rOp_mono le18
      replace ht90 := ht90.mono rI_mono le18
      have h18 : Ints m18 (some ad18) 2 _ := Ints_lit [_, _] l18 (i64s_cons (by first | assumption | exact ⟨by omega, by omega⟩) (i64s_cons (by first | assumption | exact ⟨by omega, by omega⟩) i64s_nil))
      refine W_quiet (in_q h18) T.hb109 rfl rfl ?_
      refine W_q (r_move rfl) rfl ?_
      refine WL_split (t := 65) rfl (fun h19 => ?_) (fun h19 => ?_)
      · (try simp only [decide_eq_true_eq, decide_eq_false_iff_not, beq_iff_eq, beq_eq_false_iff_ne, bne_iff_ne, bne_eq_false_iff_eq, Bool.not_eq_true', Bool.not_eq_false', Bool.not_eq_true, Bool.not_eq_false, ne_eq, Decidable.not_not] at h19)
        refine WL_take rfl rfl ?_
        refine W_q (r_fieldb (o' := 2) rfl T.fo44_2 rfl) rfl ?_
        refine WL_take rfl rfl ?_
        refine W_q (r_fieldb (o' := 4) rfl T.fo42_2 rfl) rfl ?_
        refine WL_take rfl rfl ?_
        refine W_q (r_loadb 0 rfl T.ag22 rfl rfl) rfl ?_
        refine WL_take rfl rfl ?_
        refine S_lit (vs := [_]) (cs := [_]) Tryz.underlying65 T.sz22 T.ze22 rfl rfl rfl rfl rfl rfl (fun m20 ad20 le20 l20 => ?_)
        replace hB := rBlock_mono _ _ _ _ le20 hB
        replace hp90 := hp90.mono rPhi_mono le20
        replace ho90 := ho90.mono rOp_mono le20
        replace ht90 := ht90.mono rI_mono le20
        replace h18 := h18.mono rI_mono le20
        have h20 := slS_lit1 ht90 l20
        refine WL_take rfl rfl ?_
        refine W_quiet (lists_q h20) T.hb149 rfl rfl ?_
        refine W_q (r_pick_t rfl rfl) rfl ?_
        refine W_q (r_assign rfl) rfl ?_
        refine W_nil ?_
        refine NX_as (L' := [(2, _)]) [2] rfl ?_
        refine C_ret (RX_q1 rfl rfl ?_)
        first
          | (rw [mayBlock, all_false_of hz11 (by simp_all [mayPhi])]; rfl)
          | (rw [mayBlock, all_true_of hJ2, all_false_of hz11 (by simp_all [mayOpC])]; rfl)
          | (rw [mayBlock, all_true_of hJ2, all_true_of hJ10]; simp_all)
      · (try simp only [decide_eq_true_eq, decide_eq_false_iff_not, beq_iff_eq, beq_eq_false_iff_ne, bne_iff_ne, bne_eq_false_iff_eq, Bool.not_eq_true', Bool.not_eq_false', Bool.not_eq_true, Bool.not_eq_false, ne_eq, Decidable.not_not] at h19)
        refine WL_pass rfl rfl rfl rfl ?_
        refine WL_pass rfl rfl rfl rfl ?_
        refine WL_pass rfl rfl rfl rfl ?_
        refine WL_pass rfl rfl rfl rfl ?_
        refine WL_pass rfl rfl rfl rfl ?_
        refine W_q (r_pick_f rfl rfl) rfl ?_
        refine W_q (r_assign rfl) rfl ?_
        refine W_nil ?_
        refine NX_as (L' := [(2, _)]) [2] rfl ?_
        refine C_ret (RX_q1 rfl rfl ?_)
        first
          | (rw [mayBlock, all_false_of hz11 (by simp_all [mayPhi])]; rfl)
          | (rw [mayBlock, all_true_of hJ2, all_false_of hz11 (by simp_all [mayOpC])]; rfl)
          | (rw [mayBlock, all_true_of hJ2, all_true_of hJ10]; simp_all)

set_option maxHeartbeats 4000000 in
/-- code.Size -/
theorem Size_q {m : Imm} {es : List Value} {f : FFun} (hF : rFunc m es f) (hs : f.blocks.length ≤ 100) : Quiet Tryz.prog 108 [.agg es.toArray] m (.int .i64 (sizeF f)) := by
  have hF_0 := hF
  obtain ⟨A90, c90, B90, d90, rfl, hq90, hb90, i90a⟩ := hF_0
  have hlen := hb90.len
  refine quiet_of Tryz.func108 rfl Tryz.ntmps108 rfl (fun w => ?_)
  refine CW_seq ?_
  refine CW_region ?_
  refine S_box (l := [_, _, _]) rfl rfl rfl (fun b1 => ?_)
  refine W_q (r_assign rfl) rfl ?_
  refine W_nil ?_
  refine NX_as (L' := [(1, _), (2, _)]) [1, 2] rfl ?_
  refine CW_seq ?_
  refine CW_region ?_
  refine W_q (r_fieldb (o' := 2) rfl T.fo25_2 rfl) rfl ?_
  refine W_q (r_loadb 0 rfl T.ag23 rfl rfl) rfl ?_
  refine W_q (r_len Tryz.underlying23 rfl) rfl ?_
  refine W_q (r_assign rfl) rfl ?_
  refine W_nil ?_
  refine NX_as (L' := [(1, _), (2, _), (3, _)]) [1, 2, 3] rfl ?_
  refine CW_seq ?_
  refine CW_seq ?_
  refine CW_region ?_
  refine W_q (r_fieldb (o' := 2) rfl T.fo25_2 rfl) rfl ?_
  refine W_q (r_loadb 0 rfl T.ag23 rfl rfl) rfl ?_
  refine W_q (r_len Tryz.underlying23 rfl) rfl ?_
  refine W_q (r_move rfl) rfl ?_
  refine W_nil ?_
  refine NX_as (L' := [(2, _), (3, _), (10, _), (11, _), (12, _)]) [2, 3, 10, 11, 12] rfl ?_
  refine C_range (Unit) (f.blocks.length) (fun k2 x2 => 0 ≤ sizeK f k2 ∧ sizeK f k2 ≤ 100 + (k2 : Int) * 281474976710656) (fun k2 x2 => [(3, .int .i64 (sizeK f k2))]) (fun _ _ => []) [3] [2, 10] (F := [(2, _), (10, _)]) (()) rfl rfl (by omega) (by rw [sizeK_zero]; omega) (by rw [sizeK_zero]; rfl) rfl rfl rfl rfl rfl rfl (fun _ _ => rfl) (fun _ _ => rfl) (fun k2 x2 hk2 hJ2 => ?_) (fun x2 hJ2 => ?_)
  · obtain ⟨hJa, hJb⟩ := hJ2
    refine CW_as (L' := [(2, _), (3, _), (10, _), (11, _), (12, _)]) [2, 3, 10, 11, 12] rfl ?_
    refine CW_seq ?_
    refine CW_region ?_
    obtain ⟨ad3, hA3⟩ := hb90.ad (j := k2) (by omega)
    obtain ⟨z3, hz3⟩ := hb90.getz (j := k2) (by omega)
    refine W_q (r_index hA3 Tryz.underlying23 T.sz44 rfl rfl ⟨by omega, by omega⟩) rfl ?_
    obtain ⟨es4, f4, _, l4⟩ := Sl.get hb90 hA3 hz3
    have F4 := f4
    obtain ⟨A4, c4, B4, d4, C4, e4, rfl, hp4, ho4, ht4, i4a, i4b⟩ := f4
    refine W_q (r_load_immk (vs := [_, _, _, _, _]) rfl T.ag44 T.sz44 l4) rfl ?_
    refine S_alloc (l := [_, _, _, _, _]) T.ze44 rfl rfl (fun b5 => ?_)
    refine S_storeb 0 (l' := [_, _, _, _, _]) rfl rfl rfl T.sz44 rfl rfl rfl rfl ?_
    refine W_nil ?_
    refine NX_as (L' := [(2, _), (3, _), (5, _), (10, _), (11, _), (12, _)]) [2, 3, 5, 10, 11, 12] rfl ?_
    refine CW_region ?_
    refine W_q (r_move rfl) rfl ?_
    refine W_q (r_fieldb (o' := 0) rfl T.fo44_0 rfl) rfl ?_
    refine W_q (r_loadb 0 rfl T.ag39 rfl rfl) rfl ?_
    refine W_q (r_len Tryz.underlying39 rfl) rfl ?_
    refine W_q (r_fieldb (o' := 1) rfl T.fo44_1 rfl) rfl ?_
    refine W_q (r_loadb 0 rfl T.ag40 rfl rfl) rfl ?_
    refine W_q (r_len Tryz.underlying40 rfl) rfl ?_
    refine W_q (r_add rfl rfl (by unfold I64; have := hp4.len; have := ho4.len; omega)) rfl ?_
    refine W_q (r_add rfl rfl (by unfold I64; have := hp4.len; have := ho4.len; omega)) rfl ?_
    refine W_q (r_assign rfl) rfl ?_
    refine W_nil ?_
    refine NX_block (?_)
    rw [← sizeK_succ hz3]
    refine NX_rng [3, 2, 10] (()) ?_ rfl (sub_drop 1 rfl) rfl (Imm.le_refl _)
    rw [sizeK_succ hz3]; have := hp4.len; have := ho4.len; omega
  · refine NX_as (L' := [(2, _), (3, _)]) [2, 3] rfl ?_
    refine CW_seq ?_
    refine CW_region ?_
    refine W_q (r_move rfl) rfl ?_
    refine W_q (r_assign rfl) rfl ?_
    refine W_nil ?_
    refine NX_as (L' := [(2, _)]) [2] rfl ?_
    refine C_ret (RX_q1 rfl rfl ?_)
    rw [sizeK_end]

set_option maxHeartbeats 4000000 in
/-- code.May$1 -/
theorem May1_q {m : Imm} {es : List Value} {b : FBlk} (hB : rBlock m es b) : Quiet Tryz.prog 111 [.agg es.toArray] m (.bool (!(mayBlock b))) := by
  have hB_0 := hB
  obtain ⟨A90, c90, B90, d90, C90, e90, rfl, hp90, ho90, ht90, i90a, i90b⟩ := hB_0
  refine quiet_of Tryz.func111 rfl Tryz.ntmps111 rfl (fun w => ?_)
  refine CW_seq ?_
  refine CW_region ?_
  refine S_box (l := [_, _, _, _, _]) rfl rfl rfl (fun b1 => ?_)
  refine W_q (r_assign rfl) rfl ?_
  refine W_nil ?_
  refine NX_as (L' := [(1, _), (2, _)]) [1, 2] rfl ?_
  refine CW_seq ?_
  refine CW_region ?_
  refine W_q (r_loadbk 0 (vs := [_, _, _, _, _]) rfl T.ag44 T.sz44 rfl rfl rfl) rfl ?_
  refine W_quiet (mayBlock_q hB) T.hb112 rfl rfl ?_
  refine W_q (r_not rfl) rfl ?_
  refine W_q (r_assign rfl) rfl ?_
  refine W_nil ?_
  refine NX_as (L' := [(2, _)]) [2] rfl ?_
  refine C_ret (RX_q1 rfl rfl ?_)
  rfl

set_option maxHeartbeats 4000000 in
/-- code.May -/
theorem MayF_q {m : Imm} {es : List Value} {f : FFun} (hF : rFunc m es f) : Quiet Tryz.prog 72 [.agg es.toArray] m (.bool (mayF f)) := by
  have hF_0 := hF
  obtain ⟨A90, c90, B90, d90, rfl, hq90, hb90, i90a⟩ := hF_0
  refine quiet_of Tryz.func72 rfl Tryz.ntmps72 rfl (fun w => ?_)
  refine CW_seq ?_
  refine CW_region ?_
  refine S_box (l := [_, _, _]) rfl rfl rfl (fun b1 => ?_)
  refine W_q (r_assign rfl) rfl ?_
  refine W_nil ?_
  refine NX_as (L' := [(1, _), (2, _)]) [1, 2] rfl ?_
  refine CW_seq ?_
  refine CW_seq ?_
  refine CW_region ?_
  refine W_q (r_fieldb (o' := 2) rfl T.fo25_2 rfl) rfl ?_
  refine W_q (r_loadb 0 rfl T.ag23 rfl rfl) rfl ?_
  refine W_q (r_len Tryz.underlying23 rfl) rfl ?_
  refine W_q (r_bin rfl rfl (bin_lss _ _ _ _)) rfl ?_
  refine W_q (r_move rfl) rfl ?_
  refine WL_split (t := 7) rfl (fun h2 => ?_) (fun h2 => ?_)
  · (try simp only [decide_eq_true_eq, decide_eq_false_iff_not, beq_iff_eq, beq_eq_false_iff_ne, bne_iff_ne, bne_eq_false_iff_eq, Bool.not_eq_true', Bool.not_eq_false', Bool.not_eq_true, Bool.not_eq_false, ne_eq, Decidable.not_not] at h2)
    refine WL_pass rfl rfl rfl rfl ?_
    refine WL_pass rfl rfl rfl rfl ?_
    refine WL_pass rfl rfl rfl rfl ?_
    refine WL_pass rfl rfl rfl rfl ?_
    refine W_q (r_pick_t rfl rfl) rfl ?_
    refine W_q (r_move rfl) rfl ?_
    refine WL_pass rfl rfl rfl rfl ?_
    refine WL_pass rfl rfl rfl rfl ?_
    refine WL_pass rfl rfl rfl rfl ?_
    refine WL_pass rfl rfl rfl rfl ?_
    refine W_q (r_pick_t rfl rfl) rfl ?_
    refine W_q (r_move rfl) rfl ?_
    refine WL_pass rfl rfl rfl rfl ?_
    refine WL_pass rfl rfl rfl rfl ?_
    refine WL_pass rfl rfl rfl rfl ?_
    refine W_q (r_pick_t rfl rfl) rfl ?_
    refine W_q (r_move rfl) rfl ?_
    refine WL_pass rfl rfl rfl rfl ?_
    refine WL_pass rfl rfl rfl rfl ?_
    refine WL_pass rfl rfl rfl rfl ?_
    refine WL_pass rfl rfl rfl rfl ?_
    refine WL_pass rfl rfl rfl rfl ?_
    refine W_q (r_pick_t rfl rfl) rfl ?_
    refine W_q (r_move rfl) rfl ?_
    refine WL_pass rfl rfl rfl rfl ?_
    refine WL_pass rfl rfl rfl rfl ?_
    refine WL_pass rfl rfl rfl rfl ?_
    refine WL_pass rfl rfl rfl rfl ?_
    refine W_q (r_pick_t rfl rfl) rfl ?_
    refine W_nil ?_
    refine NX_as (L' := [(1, _), (2, _), (36, _)]) [1, 2, 36] rfl ?_
    refine CW_cond_t rfl ?_
    refine CW_seq ?_
    refine CW_region ?_
    refine W_q (r_assign rfl) rfl ?_
    refine W_nil ?_
    refine NX_as (L' := [(1, _), (2, _)]) [1, 2] rfl ?_
    refine C_ret (RX_then (RX_q1 rfl rfl ?_))
    simp_all [mayF]
  · (try simp only [decide_eq_true_eq, decide_eq_false_iff_not, beq_iff_eq, beq_eq_false_iff_ne, bne_iff_ne, bne_eq_false_iff_eq, Bool.not_eq_true', Bool.not_eq_false', Bool.not_eq_true, Bool.not_eq_false, ne_eq, Decidable.not_not] at h2)
    refine WL_take rfl rfl ?_
    refine W_q (r_fieldb (o' := 2) rfl T.fo25_2 rfl) rfl ?_
    refine WL_take rfl rfl ?_
    refine W_q (r_loadb 0 rfl T.ag23 rfl rfl) rfl ?_
    refine WL_take rfl rfl ?_
    refine W_q (r_len Tryz.underlying23 rfl) rfl ?_
    refine WL_take rfl rfl ?_
    refine W_q (r_bin rfl rfl (bin_gtr _ _ _ _)) rfl ?_
    refine W_q (r_pick_f rfl rfl) rfl ?_
    refine W_q (r_move rfl) rfl ?_
    refine WL_split (t := 13) rfl (fun h3 => ?_) (fun h3 => ?_)
    · (try simp only [decide_eq_true_eq, decide_eq_false_iff_not, beq_iff_eq, beq_eq_false_iff_ne, bne_iff_ne, bne_eq_false_iff_eq, Bool.not_eq_true', Bool.not_eq_false', Bool.not_eq_true, Bool.not_eq_false, ne_eq, Decidable.not_not] at h3)
      refine WL_pass rfl rfl rfl rfl ?_
      refine WL_pass rfl rfl rfl rfl ?_
      refine WL_pass rfl rfl rfl rfl ?_
      refine WL_pass rfl rfl rfl rfl ?_
      refine W_q (r_pick_t rfl rfl) rfl ?_
      refine W_q (r_move rfl) rfl ?_
      refine WL_pass rfl rfl rfl rfl ?_
      refine WL_pass rfl rfl rfl rfl ?_
      refine WL_pass rfl rfl rfl rfl ?_
      refine W_q (r_pick_t rfl rfl) rfl ?_
      refine W_q (r_move rfl) rfl ?_
      refine WL_pass rfl rfl rfl rfl ?_
      refine WL_pass rfl rfl rfl rfl ?_
      refine WL_pass rfl rfl rfl rfl ?_
      refine WL_pass rfl rfl rfl rfl ?_
      refine WL_pass rfl rfl rfl rfl ?_
      refine W_q (r_pick_t rfl rfl) rfl ?_
      refine W_q (r_move rfl) rfl ?_
      refine WL_pass rfl rfl rfl rfl ?_
      refine WL_pass rfl rfl rfl rfl ?_
      refine WL_pass rfl rfl rfl rfl ?_
      refine WL_pass rfl rfl rfl rfl ?_
      refine W_q (r_pick_t rfl rfl) rfl ?_
      refine W_nil ?_
      refine NX_as (L' := [(1, _), (2, _), (36, _)]) [1, 2, 36] rfl ?_
      refine CW_cond_t rfl ?_
      refine CW_seq ?_
      refine CW_region ?_
      refine W_q (r_assign rfl) rfl ?_
      refine W_nil ?_
      refine NX_as (L' := [(1, _), (2, _)]) [1, 2] rfl ?_
      refine C_ret (RX_then (RX_q1 rfl rfl ?_))
      simp_all [mayF]
    · (try simp only [decide_eq_true_eq, decide_eq_false_iff_not, beq_iff_eq, beq_eq_false_iff_ne, bne_iff_ne, bne_eq_false_iff_eq, Bool.not_eq_true', Bool.not_eq_false', Bool.not_eq_true, Bool.not_eq_false, ne_eq, Decidable.not_not] at h3)
      refine WL_take rfl rfl ?_
      refine W_q (r_fieldb (o' := 0) rfl T.fo25_0 rfl) rfl ?_
      refine WL_take rfl rfl ?_
      refine W_q (r_loadb 0 rfl T.ag22 rfl rfl) rfl ?_
      refine WL_take rfl rfl ?_
      refine W_q (r_len Tryz.underlying22 rfl) rfl ?_
      refine WL_take rfl rfl ?_
      refine W_q (r_bin rfl rfl (bin_gtr _ _ _ _)) rfl ?_
      refine W_q (r_pick_f rfl rfl) rfl ?_
      refine W_q (r_move rfl) rfl ?_
      refine WL_split (t := 19) rfl (fun h4 => ?_) (fun h4 => ?_)
      · (try simp only [decide_eq_true_eq, decide_eq_false_iff_not, beq_iff_eq, beq_eq_false_iff_ne, bne_iff_ne, bne_eq_false_iff_eq, Bool.not_eq_true', Bool.not_eq_false', Bool.not_eq_true, Bool.not_eq_false, ne_eq, Decidable.not_not] at h4)
        refine WL_pass rfl rfl rfl rfl ?_
        refine WL_pass rfl rfl rfl rfl ?_
        refine WL_pass rfl rfl rfl rfl ?_
        refine W_q (r_pick_t rfl rfl) rfl ?_
        refine W_q (r_move rfl) rfl ?_
        refine WL_pass rfl rfl rfl rfl ?_
        refine WL_pass rfl rfl rfl rfl ?_
        refine WL_pass rfl rfl rfl rfl ?_
        refine WL_pass rfl rfl rfl rfl ?_
        refine WL_pass rfl rfl rfl rfl ?_
        refine W_q (r_pick_t rfl rfl) rfl ?_
        refine W_q (r_move rfl) rfl ?_
        refine WL_pass rfl rfl rfl rfl ?_
        refine WL_pass rfl rfl rfl rfl ?_
        refine WL_pass rfl rfl rfl rfl ?_
        refine WL_pass rfl rfl rfl rfl ?_
        refine W_q (r_pick_t rfl rfl) rfl ?_
        refine W_nil ?_
        refine NX_as (L' := [(1, _), (2, _), (36, _)]) [1, 2, 36] rfl ?_
        refine CW_cond_t rfl ?_
        refine CW_seq ?_
        refine CW_region ?_
        refine W_q (r_assign rfl) rfl ?_
        refine W_nil ?_
        refine NX_as (L' := [(1, _), (2, _)]) [1, 2] rfl ?_
        refine C_ret (RX_then (RX_q1 rfl rfl ?_))
        simp_all [mayF]
      · (try simp only [decide_eq_true_eq, decide_eq_false_iff_not, beq_iff_eq, beq_eq_false_iff_ne, bne_iff_ne, bne_eq_false_iff_eq, Bool.not_eq_true', Bool.not_eq_false', Bool.not_eq_true, Bool.not_eq_false, ne_eq, Decidable.not_not] at h4)
        refine WL_take rfl rfl ?_
        refine W_q (r_loadbk 0 (vs := [_, _, _]) rfl T.ag25 T.sz25 rfl rfl rfl) rfl ?_
        refine WL_take rfl rfl ?_
        refine W_quiet (Size_q hF (by omega)) T.hb108 rfl rfl ?_
        refine WL_take rfl rfl ?_
        refine W_q (r_bin rfl rfl (bin_gtr _ _ _ _)) rfl ?_
        refine W_q (r_pick_f rfl rfl) rfl ?_
        refine W_q (r_move rfl) rfl ?_
        refine WL_split (t := 24) rfl (fun h5 => ?_) (fun h5 => ?_)
        · (try simp only [decide_eq_true_eq, decide_eq_false_iff_not, beq_iff_eq, beq_eq_false_iff_ne, bne_iff_ne, bne_eq_false_iff_eq, Bool.not_eq_true', Bool.not_eq_false', Bool.not_eq_true, Bool.not_eq_false, ne_eq, Decidable.not_not] at h5)
          refine WL_pass rfl rfl rfl rfl ?_
          refine WL_pass rfl rfl rfl rfl ?_
          refine WL_pass rfl rfl rfl rfl ?_
          refine WL_pass rfl rfl rfl rfl ?_
          refine WL_pass rfl rfl rfl rfl ?_
          refine W_q (r_pick_t rfl rfl) rfl ?_
          refine W_q (r_move rfl) rfl ?_
          refine WL_pass rfl rfl rfl rfl ?_
          refine WL_pass rfl rfl rfl rfl ?_
          refine WL_pass rfl rfl rfl rfl ?_
          refine WL_pass rfl rfl rfl rfl ?_
          refine W_q (r_pick_t rfl rfl) rfl ?_
          refine W_nil ?_
          refine NX_as (L' := [(1, _), (2, _), (36, _)]) [1, 2, 36] rfl ?_
          refine CW_cond_t rfl ?_
          refine CW_seq ?_
          refine CW_region ?_
          refine W_q (r_assign rfl) rfl ?_
          refine W_nil ?_
          refine NX_as (L' := [(1, _), (2, _)]) [1, 2] rfl ?_
          refine C_ret (RX_then (RX_q1 rfl rfl ?_))
          simp_all [mayF]
        · (try simp only [decide_eq_true_eq, decide_eq_false_iff_not, beq_iff_eq, beq_eq_false_iff_ne, bne_iff_ne, bne_eq_false_iff_eq, Bool.not_eq_true', Bool.not_eq_false', Bool.not_eq_true, Bool.not_eq_false, ne_eq, Decidable.not_not] at h5)
          refine WL_take rfl rfl ?_
          refine W_q (r_fieldb (o' := 1) rfl T.fo25_1 rfl) rfl ?_
          refine WL_take rfl rfl ?_
          refine W_q (r_loadb 0 rfl T.ag3 rfl rfl) rfl ?_
          refine WL_take rfl rfl ?_
          refine S_lit (vs := [_]) (cs := [_]) Tryz.underlying22 T.sz3 T.ze3 rfl rfl rfl rfl rfl rfl (fun m6 ad6 le6 l6 => ?_)
          replace hF := rFunc_mono _ _ _ _ le6 hF
          replace hq90 := hq90.mono rI_mono le6
          replace hb90 := hb90.mono rBlock_mono le6
          have h6 : Ints m6 (some ad6) 1 _ := Ints_lit [_] l6 (i64s_cons (by first | assumption | exact ⟨by omega, by omega⟩) i64s_nil)
          refine WL_take rfl rfl ?_
          refine W_quiet (in_q h6) T.hb109 rfl rfl ?_
          refine WL_take rfl rfl ?_
          refine W_q (r_not rfl) rfl ?_
          refine W_q (r_pick_f rfl rfl) rfl ?_
          refine W_q (r_move rfl) rfl ?_
          refine WL_split (t := 31) rfl (fun h7 => ?_) (fun h7 => ?_)
          · (try simp only [decide_eq_true_eq, decide_eq_false_iff_not, beq_iff_eq, beq_eq_false_iff_ne, bne_iff_ne, bne_eq_false_iff_eq, Bool.not_eq_true', Bool.not_eq_false', Bool.not_eq_true, Bool.not_eq_false, ne_eq, Decidable.not_not] at h7)
            refine WL_pass rfl rfl rfl rfl ?_
            refine WL_pass rfl rfl rfl rfl ?_
            refine WL_pass rfl rfl rfl rfl ?_
            refine WL_pass rfl rfl rfl rfl ?_
            refine W_q (r_pick_t rfl rfl) rfl ?_
            refine W_nil ?_
            refine NX_as (L' := [(1, _), (2, _), (36, _)]) [1, 2, 36] rfl ?_
            refine CW_cond_t rfl ?_
            refine CW_seq ?_
            refine CW_region ?_
            refine W_q (r_assign rfl) rfl ?_
            refine W_nil ?_
            refine NX_as (L' := [(1, _), (2, _)]) [1, 2] rfl ?_
            refine C_ret (RX_then (RX_q1 rfl rfl ?_))
            simp_all [mayF]
          · (try simp only [decide_eq_true_eq, decide_eq_false_iff_not, beq_iff_eq, beq_eq_false_iff_ne, bne_iff_ne, bne_eq_false_iff_eq, Bool.not_eq_true', Bool.not_eq_false', Bool.not_eq_true, Bool.not_eq_false, ne_eq, Decidable.not_not] at h7)
            refine WL_take rfl rfl ?_
            refine W_q (r_fieldb (o' := 0) rfl T.fo25_0 rfl) rfl ?_
            refine WL_take rfl rfl ?_
            refine W_q (r_loadb 0 rfl T.ag22 rfl rfl) rfl ?_
            refine WL_take rfl rfl ?_
            refine W_quiet (in_q hq90) T.hb109 rfl rfl ?_
            refine WL_take rfl rfl ?_
            refine W_q (r_not rfl) rfl ?_
            refine W_q (r_pick_f rfl rfl) rfl ?_
            refine W_nil ?_
            refine NX_as (L' := [(1, _), (2, _), (36, _)]) [1, 2, 36] rfl ?_
            refine CW_condk rfl (fun h8 => ?_) (fun h8 => ?_)
            · (try simp only [decide_eq_true_eq, decide_eq_false_iff_not, beq_iff_eq, beq_eq_false_iff_ne, bne_iff_ne, bne_eq_false_iff_eq, Bool.not_eq_true', Bool.not_eq_false', Bool.not_eq_true, Bool.not_eq_false, ne_eq, Decidable.not_not] at h8)
              refine CW_seq ?_
              refine CW_region ?_
              refine W_q (r_assign rfl) rfl ?_
              refine W_nil ?_
              refine NX_as (L' := [(1, _), (2, _)]) [1, 2] rfl ?_
              refine C_ret (RX_then (RX_q1 rfl rfl ?_))
              simp_all [mayF]
            · (try simp only [decide_eq_true_eq, decide_eq_false_iff_not, beq_iff_eq, beq_eq_false_iff_ne, bne_iff_ne, bne_eq_false_iff_eq, Bool.not_eq_true', Bool.not_eq_false', Bool.not_eq_true, Bool.not_eq_false, ne_eq, Decidable.not_not] at h8)
              refine C_skip ?_
              refine NX_as (L' := [(1, _), (2, _)]) [1, 2] rfl ?_
              refine CW_seq ?_
              refine CW_region ?_
              refine W_q (r_fieldb (o' := 2) rfl T.fo25_2 rfl) rfl ?_
              refine W_q (r_loadb 0 rfl T.ag23 rfl rfl) rfl ?_
              refine W_quiet (ContainsFuncB_q hb90 (p := fun b => !(mayBlock b)) (K := 111) T.hb111 (fun z _ es hz => May1_q hz)) T.hb110 rfl rfl ?_
              refine W_q (r_not rfl) rfl ?_
              refine W_q (r_assign rfl) rfl ?_
              refine W_nil ?_
              refine NX_as (L' := [(2, _)]) [2] rfl ?_
              refine C_ret (RX_q1 rfl rfl ?_)
              simp_all [mayF]

end Go.Proofs.YtipmgkhjoekaaaaGreat

