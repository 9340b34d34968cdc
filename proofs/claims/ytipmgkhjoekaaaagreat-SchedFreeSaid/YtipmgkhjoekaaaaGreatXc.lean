/- A part of a proof about a given program: rules, plain functions and walks. -/
import Derived.Test.YtipmgkhjoekaaaaGreatXb
set_option linter.unusedVariables false
set_option linter.unusedSimpArgs false
namespace Go.Proofs.YtipmgkhjoekaaaaGreat
open Go Go.RowKit Go.Proofs Go.Proofs.YtipmgkhjoekaaaaGreat.Fw
attribute [local irreducible] Qt WL CW NX RX EX GX DL
namespace T
theorem ag49 : agg? Tryz.prog 49 = some false := by kernel_rfl
theorem ag71 : agg? Tryz.prog 71 = some true := by kernel_rfl
theorem by3 : byt? Tryz.prog 3 = some 8 := by kernel_rfl
theorem by71 : byt? Tryz.prog 71 = some 16 := by kernel_rfl
theorem fo51_5 : fld? Tryz.prog 51 5 = some (5, 1) := by kernel_rfl
theorem hb201 : hasBody Tryz.prog 201 = true := by kernel_rfl
theorem hb212 : hasBody Tryz.prog 212 = true := by kernel_rfl
theorem hb213 : hasBody Tryz.prog 213 = true := by kernel_rfl
theorem hb214 : hasBody Tryz.prog 214 = true := by kernel_rfl
theorem hb215 : hasBody Tryz.prog 215 = true := by kernel_rfl
theorem sz71 : sz? Tryz.prog 71 = some 2 := by kernel_rfl
theorem ze71 : zero? Tryz.prog 71 = some (.agg #[(.int .i64 0), (.int .i64 0)]) := by kernel_rfl
end T
set_option maxHeartbeats 4000000 in
/-- word.Cut -/
theorem Cut_q {m : Imm} (v b : Int) (hv : U64 v) : Quiet Tryz.prog 213 [.int .u64 v, .int .i64 b] m (.int .u64 (cutV v b)) := by
  refine quiet_of Tryz.func213 rfl Tryz.ntmps213 rfl (fun w => ?_)
  refine CW_seq ?_
  refine CW_region ?_
  refine W_q (r_assign rfl) rfl ?_
  refine W_nil ?_
  refine NX_as (L' := [(0, _), (1, _), (4, _)]) [0, 1, 4] rfl ?_
  refine CW_seq ?_
  refine CW_seq ?_
  refine CW_region ?_
  refine W_q (r_move rfl) rfl ?_
  refine W_quiet (May_q _) T.hb152 rfl rfl ?_
  refine W_q (r_not rfl) rfl ?_
  refine W_nil ?_
  refine NX_as (L' := [(0, _), (1, _), (4, _), (7, _)]) [0, 1, 4, 7] rfl ?_
  refine CW_condk rfl (fun h1 => ?_) (fun h1 => ?_)
  · (try simp only [decide_eq_true_eq, decide_eq_false_iff_not, beq_iff_eq, beq_eq_false_iff_ne, bne_iff_ne, bne_eq_false_iff_eq, Bool.not_eq_true', Bool.not_eq_false', Bool.not_eq_true, Bool.not_eq_false, ne_eq, Decidable.not_not] at h1)
    refine CW_seq ?_
    refine CW_region ?_
    refine W_q (r_assign rfl) rfl ?_
    refine W_nil ?_
    refine NX_as (L' := [(0, _), (1, _), (4, _)]) [0, 1, 4] rfl ?_
    refine C_ret (RX_then (RX_q1 rfl rfl ?_))
    first
      | (rw [cutV, if_neg (by simp_all)]; done)
      | exact congrArg _ (cut_eq h1 hv)
  · (try simp only [decide_eq_true_eq, decide_eq_false_iff_not, beq_iff_eq, beq_eq_false_iff_ne, bne_iff_ne, bne_eq_false_iff_eq, Bool.not_eq_true', Bool.not_eq_false', Bool.not_eq_true, Bool.not_eq_false, ne_eq, Decidable.not_not] at h1)
    refine C_skip ?_
    refine NX_as (L' := [(0, _), (1, _), (4, _)]) [0, 1, 4] rfl ?_
    refine CW_seq ?_
    refine CW_region ?_
    refine W_q (r_move rfl) rfl ?_
    refine W_q (r_move rfl) rfl ?_
    refine W_q (r_sub rfl rfl (by have := mayW_le h1; unfold I64; omega)) rfl ?_
    refine W_q (r_shl rfl rfl (by have := mayW_le h1; omega) rfl) rfl ?_
    refine W_q (r_move rfl) rfl ?_
    refine W_q (r_sub rfl rfl (by have := mayW_le h1; unfold I64; omega)) rfl ?_
    refine W_q (r_shr rfl rfl (by have := mayW_le h1; omega) rfl) rfl ?_
    refine W_q (r_assign rfl) rfl ?_
    refine W_nil ?_
    refine NX_as (L' := [(4, _)]) [4] rfl ?_
    refine C_ret (RX_q1 rfl rfl ?_)
    first
      | (rw [cutV, if_neg (by simp_all)]; done)
      | exact congrArg _ (cut_eq h1 hv)

set_option maxHeartbeats 4000000 in
/-- kind.row -/
theorem kindrow_q {m : Imm} (v : Value) : Quiet Tryz.prog 214 [v] m (v) := by
  refine quiet_of Tryz.func214 rfl Tryz.ntmps214 rfl (fun w => ?_)
  refine CW_seq ?_
  refine CW_region ?_
  refine W_q (r_assign rfl) rfl ?_
  refine W_nil ?_
  refine NX_as (L' := [(0, _), (2, _)]) [0, 2] rfl ?_
  refine CW_seq ?_
  refine CW_region ?_
  refine W_q (r_move rfl) rfl ?_
  refine W_q (r_assign rfl) rfl ?_
  refine W_nil ?_
  refine NX_as (L' := [(2, _)]) [2] rfl ?_
  refine C_ret (RX_q1 rfl rfl ?_)
  rfl

set_option maxHeartbeats 4000000 in
/-- math/bits.Mul64 -/
theorem Mul64_q {m : Imm} (k : Nat) (hk : k < 65) : Quiet Tryz.prog 212 [.int .u64 1, .int .u64 (k : Int)] m (.tuple #[.int .u64 0, .int .u64 (k : Int)]) := by
  refine quiet_of Tryz.func212 rfl Tryz.ntmps212 rfl (fun w => ?_)
  refine CW_seq ?_
  refine CW_region ?_
  refine W_q (r_assign rfl) rfl ?_
  refine W_q (r_assign rfl) rfl ?_
  refine W_nil ?_
  refine NX_as (L' := [(0, _), (1, _), (4, _), (5, _)]) [0, 1, 4, 5] rfl ?_
  refine CW_seq ?_
  refine CW_region ?_
  refine W_q (r_move rfl) rfl ?_
  refine W_q (r_and rfl rfl rfl) rfl ?_
  refine W_q (r_assign rfl) rfl ?_
  refine W_nil ?_
  refine NX_as (L' := [(0, _), (1, _), (4, _), (5, _), (6, _)]) [0, 1, 4, 5, 6] rfl ?_
  refine CW_seq ?_
  refine CW_region ?_
  refine W_q (r_move rfl) rfl ?_
  refine W_q (r_shr rfl rfl (by omega) rfl) rfl ?_
  refine W_q (r_assign rfl) rfl ?_
  refine W_nil ?_
  refine NX_as (L' := [(0, _), (1, _), (4, _), (5, _), (6, _), (7, _)]) [0, 1, 4, 5, 6, 7] rfl ?_
  refine CW_seq ?_
  refine CW_region ?_
  refine W_q (r_move rfl) rfl ?_
  refine W_q (r_and rfl rfl rfl) rfl ?_
  refine W_q (r_assign rfl) rfl ?_
  refine W_nil ?_
  refine NX_as (L' := [(0, _), (1, _), (4, _), (5, _), (6, _), (7, _), (8, _)]) [0, 1, 4, 5, 6, 7, 8] rfl ?_
  refine CW_seq ?_
  refine CW_region ?_
  refine W_q (r_move rfl) rfl ?_
  refine W_q (r_shr rfl rfl (by omega) rfl) rfl ?_
  refine W_q (r_assign rfl) rfl ?_
  refine W_nil ?_
  refine NX_as (L' := [(0, _), (1, _), (4, _), (5, _), (6, _), (7, _), (8, _), (9, _)]) [0, 1, 4, 5, 6, 7, 8, 9] rfl ?_
  refine CW_seq ?_
  refine CW_region ?_
  refine W_q (r_move rfl) rfl ?_
  refine W_q (r_move rfl) rfl ?_
  refine W_q (r_bin rfl rfl (bin_mul _ _ _ _)) rfl ?_
  refine W_q (r_assign rfl) rfl ?_
  refine W_nil ?_
  refine NX_as (L' := [(0, _), (1, _), (4, _), (5, _), (6, _), (7, _), (8, _), (9, _), (10, _)]) [0, 1, 4, 5, 6, 7, 8, 9, 10] rfl ?_
  refine CW_seq ?_
  refine CW_region ?_
  refine W_q (r_move rfl) rfl ?_
  refine W_q (r_move rfl) rfl ?_
  refine W_q (r_bin rfl rfl (bin_mul _ _ _ _)) rfl ?_
  refine W_q (r_move rfl) rfl ?_
  refine W_q (r_shr rfl rfl (by omega) rfl) rfl ?_
  refine W_q (r_bin rfl rfl (bin_add _ _ _ _)) rfl ?_
  refine W_q (r_assign rfl) rfl ?_
  refine W_nil ?_
  refine NX_as (L' := [(0, _), (1, _), (4, _), (5, _), (6, _), (7, _), (9, _), (11, _)]) [0, 1, 4, 5, 6, 7, 9, 11] rfl ?_
  refine CW_seq ?_
  refine CW_region ?_
  refine W_q (r_move rfl) rfl ?_
  refine W_q (r_and rfl rfl rfl) rfl ?_
  refine W_q (r_assign rfl) rfl ?_
  refine W_nil ?_
  refine NX_as (L' := [(0, _), (1, _), (4, _), (5, _), (6, _), (7, _), (9, _), (11, _), (12, _)]) [0, 1, 4, 5, 6, 7, 9, 11, 12] rfl ?_
  refine CW_seq ?_
  refine CW_region ?_
  refine W_q (r_move rfl) rfl ?_
  refine W_q (r_shr rfl rfl (by omega) rfl) rfl ?_
  refine W_q (r_assign rfl) rfl ?_
  refine W_nil ?_
  refine NX_as (L' := [(0, _), (1, _), (4, _), (5, _), (6, _), (7, _), (9, _), (12, _), (13, _)]) [0, 1, 4, 5, 6, 7, 9, 12, 13] rfl ?_
  refine CW_seq ?_
  refine CW_region ?_
  refine W_q (r_move rfl) rfl ?_
  refine W_q (r_move rfl) rfl ?_
  refine W_q (r_move rfl) rfl ?_
  refine W_q (r_bin rfl rfl (bin_mul _ _ _ _)) rfl ?_
  refine W_q (r_bin rfl rfl (bin_add _ _ _ _)) rfl ?_
  refine W_q (r_assign rfl) rfl ?_
  refine W_nil ?_
  refine NX_as (L' := [(0, _), (1, _), (4, _), (5, _), (7, _), (9, _), (12, _), (13, _)]) [0, 1, 4, 5, 7, 9, 12, 13] rfl ?_
  refine CW_seq ?_
  refine CW_region ?_
  refine W_q (r_move rfl) rfl ?_
  refine W_q (r_move rfl) rfl ?_
  refine W_q (r_bin rfl rfl (bin_mul _ _ _ _)) rfl ?_
  refine W_q (r_move rfl) rfl ?_
  refine W_q (r_bin rfl rfl (bin_add _ _ _ _)) rfl ?_
  refine W_q (r_move rfl) rfl ?_
  refine W_q (r_shr rfl rfl (by omega) rfl) rfl ?_
  refine W_q (r_bin rfl rfl (bin_add _ _ _ _)) rfl ?_
  refine W_q (r_assign rfl) rfl ?_
  refine W_nil ?_
  refine NX_as (L' := [(0, _), (1, _), (4, _), (5, _)]) [0, 1, 4, 5] rfl ?_
  refine CW_seq ?_
  refine CW_region ?_
  refine W_q (r_move rfl) rfl ?_
  refine W_q (r_move rfl) rfl ?_
  refine W_q (r_bin rfl rfl (bin_mul _ _ _ _)) rfl ?_
  refine W_q (r_assign rfl) rfl ?_
  refine W_nil ?_
  refine NX_as (L' := [(4, _), (5, _)]) [4, 5] rfl ?_
  refine C_ret (RX_q2 rfl rfl rfl ?_ ?_)
  · exact congrArg _ (mulHi_one k hk)
  · rw [u64_of _ ⟨by omega, by omega⟩]; simp

set_option maxHeartbeats 4000000 in
/-- math/bits.Mul -/
theorem Mul_q {m : Imm} (k : Nat) (hk : k < 65) : Quiet Tryz.prog 201 [.int .u64 1, .int .u64 (k : Int)] m (.tuple #[.int .u64 0, .int .u64 (k : Int)]) := by
  refine quiet_of Tryz.func201 rfl Tryz.ntmps201 rfl (fun w => ?_)
  refine CW_seq ?_
  refine CW_region ?_
  refine W_q (r_assign rfl) rfl ?_
  refine W_q (r_assign rfl) rfl ?_
  refine W_nil ?_
  refine NX_as (L' := [(0, _), (1, _), (4, _), (5, _)]) [0, 1, 4, 5] rfl ?_
  refine CW_seq ?_
  refine CW_cond_f rfl ?_
  refine C_skip ?_
  refine NX_as (L' := [(0, _), (1, _), (4, _), (5, _)]) [0, 1, 4, 5] rfl ?_
  refine CW_seq ?_
  refine CW_region ?_
  refine W_q (r_move rfl) rfl ?_
  refine W_q (r_move rfl) rfl ?_
  refine W_quiet (Mul64_q _ (by omega)) T.hb212 rfl rfl ?_
  refine W_q (r_move rfl) rfl ?_
  refine W_q (r_extract rfl rfl) rfl ?_
  refine W_q (r_extract rfl rfl) rfl ?_
  refine W_q (r_assign rfl) rfl ?_
  refine W_q (r_assign rfl) rfl ?_
  refine W_nil ?_
  refine NX_as (L' := [(4, _), (5, _), (8, _), (9, _)]) [4, 5, 8, 9] rfl ?_
  refine CW_seq ?_
  refine CW_region ?_
  refine W_q (r_move rfl) rfl ?_
  refine W_q (r_move rfl) rfl ?_
  refine W_q (r_assign rfl) rfl ?_
  refine W_q (r_assign rfl) rfl ?_
  refine W_nil ?_
  refine NX_as (L' := [(4, _), (5, _)]) [4, 5] rfl ?_
  refine C_ret (RX_q2 rfl rfl rfl ?_ ?_)
  · rfl
  · rfl

set_option maxHeartbeats 4000000 in
/-- slices.Repeat[[][2]int,[2]int] -/
theorem RepeatP_g {m : Imm} {A : Option Addr} {c : Nat} {p : (Int × Int)} (h : Sl rPair 2 m A c [p]) {k : Nat} {z : Int} (hz : z = (k : Int)) (hk : 1 ≤ k) (hk' : k ≤ 64) : Gives Tryz.prog 215 [.slice A 1 c, .int .i64 z] m (fun m' v => ∃ ad, v = .slice (some ad) (List.replicate k p).length k ∧ Sl rPair 2 m' (some ad) k (List.replicate k p)) := by
  subst hz
  obtain ⟨ad, rfl, es, he1, he2, he3⟩ := h.at_ 0 p rfl
  refine gives_of Tryz.func215 rfl Tryz.ntmps215 rfl (fun w => ?_)
  refine CW_seq ?_
  refine CW_region ?_
  refine W_q (r_assign rfl) rfl ?_
  refine W_nil ?_
  refine NX_as (L' := [(0, _), (1, _), (4, _)]) [0, 1, 4] rfl ?_
  refine CW_seq ?_
  refine CW_seq ?_
  refine CW_region ?_
  refine W_q (r_move rfl) rfl ?_
  refine W_q (r_bin rfl rfl (bin_lss _ _ _ _)) rfl ?_
  refine W_nil ?_
  refine NX_as (L' := [(0, _), (1, _), (4, _), (10, _)]) [0, 1, 4, 10] rfl ?_
  refine CW_condk rfl (fun h1 => ?_) (fun h1 => ?_)
  · (try simp only [decide_eq_true_eq, decide_eq_false_iff_not, beq_iff_eq, beq_eq_false_iff_ne, bne_iff_ne, bne_eq_false_iff_eq, Bool.not_eq_true', Bool.not_eq_false', Bool.not_eq_true, Bool.not_eq_false, ne_eq, Decidable.not_not] at h1)
    refine CW_region ?_
    exfalso
    omega
  · (try simp only [decide_eq_true_eq, decide_eq_false_iff_not, beq_iff_eq, beq_eq_false_iff_ne, bne_iff_ne, bne_eq_false_iff_eq, Bool.not_eq_true', Bool.not_eq_false', Bool.not_eq_true, Bool.not_eq_false, ne_eq, Decidable.not_not] at h1)
    refine C_skip ?_
    refine NX_as (L' := [(0, _), (1, _), (4, _)]) [0, 1, 4] rfl ?_
    refine CW_seq ?_
    refine CW_region ?_
    refine W_q (r_move rfl) rfl ?_
    refine W_q (r_len Tryz.underlying113 rfl) rfl ?_
    refine W_q (r_convi Tryz.underlying3 Tryz.underlying147 rfl (u64_of _ ⟨by omega, by omega⟩)) rfl ?_
    refine W_q (r_move rfl) rfl ?_
    refine W_q (r_convi Tryz.underlying3 Tryz.underlying147 rfl (u64_of _ ⟨by omega, by omega⟩)) rfl ?_
    refine W_quiet (Mul_q _ (by omega)) T.hb201 rfl rfl ?_
    refine W_q (r_move rfl) rfl ?_
    refine W_q (r_extract rfl rfl) rfl ?_
    refine W_q (r_extract rfl rfl) rfl ?_
    refine W_q (r_assign rfl) rfl ?_
    refine W_q (r_assign rfl) rfl ?_
    refine W_nil ?_
    refine NX_as (L' := [(0, _), (4, _), (5, _), (6, _)]) [0, 4, 5, 6] rfl ?_
    refine CW_seq ?_
    refine CW_seq ?_
    refine CW_region ?_
    refine W_q (r_move rfl) rfl ?_
    refine W_q (r_bin rfl rfl (bin_gtr _ _ _ _)) rfl ?_
    refine W_q (r_move rfl) rfl ?_
    refine WL_split (t := 23) rfl (fun h2 => ?_) (fun h2 => ?_)
    · (try simp only [decide_eq_true_eq, decide_eq_false_iff_not, beq_iff_eq, beq_eq_false_iff_ne, bne_iff_ne, bne_eq_false_iff_eq, Bool.not_eq_true', Bool.not_eq_false', Bool.not_eq_true, Bool.not_eq_false, ne_eq, Decidable.not_not] at h2)
      refine WL_pass rfl rfl rfl rfl ?_
      refine WL_pass rfl rfl rfl rfl ?_
      refine W_q (r_pick_t rfl rfl) rfl ?_
      refine W_nil ?_
      refine NX_as (L' := [(0, _), (4, _), (6, _), (26, _)]) [0, 4, 6, 26] rfl ?_
      refine CW_cond_t rfl ?_
      refine CW_region ?_
      exfalso
      omega
    · (try simp only [decide_eq_true_eq, decide_eq_false_iff_not, beq_iff_eq, beq_eq_false_iff_ne, bne_iff_ne, bne_eq_false_iff_eq, Bool.not_eq_true', Bool.not_eq_false', Bool.not_eq_true, Bool.not_eq_false, ne_eq, Decidable.not_not] at h2)
      refine WL_take rfl rfl ?_
      refine W_q (r_move rfl) rfl ?_
      refine WL_take rfl rfl ?_
      refine W_q (r_bin rfl rfl (bin_gtr _ _ _ _)) rfl ?_
      refine W_q (r_pick_f rfl rfl) rfl ?_
      refine W_nil ?_
      refine NX_as (L' := [(0, _), (4, _), (6, _), (26, _)]) [0, 4, 6, 26] rfl ?_
      refine CW_condk rfl (fun h3 => ?_) (fun h3 => ?_)
      · (try simp only [decide_eq_true_eq, decide_eq_false_iff_not, beq_iff_eq, beq_eq_false_iff_ne, bne_iff_ne, bne_eq_false_iff_eq, Bool.not_eq_true', Bool.not_eq_false', Bool.not_eq_true, Bool.not_eq_false, ne_eq, Decidable.not_not] at h3)
        refine CW_region ?_
        exfalso
        omega
      · (try simp only [decide_eq_true_eq, decide_eq_false_iff_not, beq_iff_eq, beq_eq_false_iff_ne, bne_iff_ne, bne_eq_false_iff_eq, Bool.not_eq_true', Bool.not_eq_false', Bool.not_eq_true, Bool.not_eq_false, ne_eq, Decidable.not_not] at h3)
        refine C_skip ?_
        refine NX_as (L' := [(0, _), (4, _), (6, _)]) [0, 4, 6] rfl ?_
        refine CW_seq ?_
        refine CW_region ?_
        refine W_q (r_move rfl) rfl ?_
        refine W_q (r_convi Tryz.underlying147 Tryz.underlying3 rfl (i64_of _ ⟨by omega, by omega⟩)) rfl ?_
        refine S_make (len := k) Tryz.underlying113 T.sz71 T.ze71 T.by71 rfl rfl rfl (by omega) (by unfold maxLen; omega) rfl (fun b4 => ?_)
        generalize hZ : Array.toList (madeCells _ (k * 2)) = Z
        have hZl : Z.length = k * 2 := by rw [← hZ]; simp [size_madeCells]
        refine W_q (r_assign rfl) rfl ?_
        refine W_nil ?_
        refine NX_as (L' := [(0, _), (4, _), (7, _)]) [0, 4, 7] rfl ?_
        refine CW_seq ?_
        refine CW_region ?_
        refine W_q (r_move rfl) rfl ?_
        refine W_q (r_move rfl) rfl ?_
        refine S_copy es 0 rfl rfl rfl Tryz.underlying113 T.sz71 (by rw [he1, show min 1 k = 1 by omega, Nat.one_mul]) (Src.sl h (by simp) (fun ad' e j u hj => by cases e; simpa using he3 j u hj) (by simp)) (by rw [List.all_eq_true]; exact (fun u hu => by obtain ⟨rfl, _⟩ := he2; simp at hu; rcases hu with rfl | rfl <;> rfl)) (by rw [he1, hZl]; omega) rfl ?_
        rw [show Z.take 0 ++ es ++ Z.drop (0 + es.length) = repL es 1 ++ Z.drop (1 * 2) by simp [repL_one, he1], show min 1 k = 1 by omega]
        refine W_q (r_assign rfl) rfl ?_
        refine W_nil ?_
        refine NX_as (L' := [(4, _), (7, _), (8, _)]) [4, 7, 8] rfl ?_
        refine CW_seq ?_
        refine CW_block ?_
        refine CW_front 0 rfl rfl ?_
        refine C_loop (Nat) (k) (fun k5 x5 => 1 ≤ x5 ∧ x5 ≤ k ∧ k5 + 1 ≤ x5) (fun k5 x5 => [(8, .int .i64 (x5 : Int))]) (fun k5 x5 => [row (some b4) k k 71 2 (repL es x5 ++ Z.drop (x5 * 2))]) [8] [4, 7] (F := [(4, _), (7, _)]) (1) (by omega) rfl rfl rfl (fun k5 x5 hk5 hJ5 => ?_)
        obtain ⟨hJa, hJb, hJc⟩ := hJ5
        refine CW_as (L' := [(4, _), (7, _), (8, _)]) [4, 7, 8] rfl ?_
        refine CW_seq ?_
        refine CW_seq ?_
        refine CW_region ?_
        refine W_q (r_move rfl) rfl ?_
        refine W_q (r_move rfl) rfl ?_
        refine W_q (r_len Tryz.underlying113 rfl) rfl ?_
        refine W_q (r_bin rfl rfl (bin_lss _ _ _ _)) rfl ?_
        refine W_nil ?_
        refine NX_as (L' := [(4, _), (7, _), (8, _), (37, _)]) [4, 7, 8, 37] rfl ?_
        refine CW_condk rfl (fun h6 => ?_) (fun h6 => ?_)
        · (try simp only [decide_eq_true_eq, decide_eq_false_iff_not, beq_iff_eq, beq_eq_false_iff_ne, bne_iff_ne, bne_eq_false_iff_eq, Bool.not_eq_true', Bool.not_eq_false', Bool.not_eq_true, Bool.not_eq_false, ne_eq, Decidable.not_not] at h6)
          refine C_skip ?_
          refine NX_as (L' := [(4, _), (7, _), (8, _)]) [4, 7, 8] rfl ?_
          refine CW_block ?_
          refine C_drawnk 1 [(0, true), (1, true), (2, true), (3, true), (4, true), (5, true), (6, true), (7, false), (8, true), (9, true)] (by kernel_rfl) rfl (by kernel_rfl) (by kernel_rfl) ?_
          refine D_q rfl (r_move rfl) rfl ?_
          refine D_q rfl (r_move rfl) rfl ?_
          refine D_q rfl (r_move rfl) rfl ?_
          refine D_q rfl (r_sllo (h := x5) Tryz.underlying113 rfl rfl (by omega) (by omega) T.sz71 (by rw [Nat.zero_add])) rfl ?_
          refine D_q rfl (r_move rfl) rfl ?_
          refine D_q rfl (r_move rfl) rfl ?_
          refine D_q rfl (r_slhi' x5 Tryz.underlying113 rfl rfl rfl (by omega) T.sz71) rfl ?_
          refine D_f rfl (fun hs7 hc7 => ?_)
          refine S_copy (repL es (min x5 (k - x5))) 0 rfl rfl rfl Tryz.underlying113 T.sz71 (repL_len he1 _) ⟨fun w hS j u hj => ⟨_, rfl, by rw [add_plain, Nat.zero_add]; exact row_cell (hS.at (i := 0) rfl) (repL_pre he1 (by omega) hj)⟩, by simp⟩ (repL_one' (fun u hu => by obtain ⟨rfl, _⟩ := he2; simp at hu; rcases hu with rfl | rfl <;> rfl) _) (by rw [repL_len he1, List.length_append, repL_len he1, List.length_drop, hZl]; omega) rfl ?_
          rw [repL_step he1 (k := k) (by omega)]
          refine W_left hs7 hc7 (fun _ hw => hw.toPre.weak (Imm.le_refl _) (sub_drop 1 rfl)) ?_
          refine D_q rfl (r_add rfl rfl (by unfold I64 at *; omega)) rfl ?_
          refine D_q rfl (r_assign rfl) rfl ?_
          refine D_end ?_
          refine NX_block (?_)
          refine NX_rnd [8, 4, 7] (by omega) (x5 + min x5 (k - x5)) ?_ rfl (List.Sublist.refl _) rfl (Imm.le_refl _)
          omega
        · (try simp only [decide_eq_true_eq, decide_eq_false_iff_not, beq_iff_eq, beq_eq_false_iff_ne, bne_iff_ne, bne_eq_false_iff_eq, Bool.not_eq_true', Bool.not_eq_false', Bool.not_eq_true, Bool.not_eq_false, ne_eq, Decidable.not_not] at h6)
          refine C_exit (EX_then (EX_then (EX_hit (?_))))
          refine NX_as (L' := [(4, _), (7, _)]) [4, 7] rfl ?_
          refine CW_seq ?_
          refine CW_region ?_
          refine W_q (r_move rfl) rfl ?_
          refine W_q (r_assign rfl) rfl ?_
          refine W_nil ?_
          refine NX_as (L' := [(4, _)]) [4] rfl ?_
          obtain rfl : x5 = k := by omega
          refine C_ret (RX_freeze 0 rfl (fun _ h => h) (fun mf lef hf => ?_))
          refine RX_g1 rfl rfl ⟨⟨b4, 0, none⟩, by simp, ?_⟩
          refine Sl_frz (gg := some b4) hf (by simp) (by unfold maxLen; omega) (by simp; omega) (fun _ => ⟨_, rfl⟩) (fun j z hj => ⟨es, he1, ?_, fun q v hv => ?_⟩)
          · rw [List.getElem?_replicate] at hj; split at hj <;> simp at hj; subst hj; exact rPair_mono _ _ _ _ (lef) he2
          · have hj' : j < x5 := by have := (List.getElem?_eq_some_iff.1 hj).1; simpa using this
            have hq : q < 2 := by have := (List.getElem?_eq_some_iff.1 hv).1; omega
            rw [List.getElem?_append_left (by rw [repL_len he1]; omega), repL_get he1 hj' hq, hv]

set_option maxHeartbeats 4000000 in
/-- slices.Repeat[[]int,int] -/
theorem RepeatI_g {m : Imm} {A : Option Addr} {c : Nat} {p : Int} (h : Sl rI 1 m A c [p]) {k : Nat} {z : Int} (hz : z = (k : Int)) (hk : 1 ≤ k) (hk' : k ≤ 64) : Gives Tryz.prog 184 [.slice A 1 c, .int .i64 z] m (fun m' v => ∃ ad, v = .slice (some ad) (List.replicate k p).length k ∧ Sl rI 1 m' (some ad) k (List.replicate k p)) := by
  subst hz
  obtain ⟨ad, rfl, es, he1, he2, he3⟩ := h.at_ 0 p rfl
  refine gives_of Tryz.func184 rfl Tryz.ntmps184 rfl (fun w => ?_)
  refine CW_seq ?_
  refine CW_region ?_
  refine W_q (r_assign rfl) rfl ?_
  refine W_nil ?_
  refine NX_as (L' := [(0, _), (1, _), (4, _)]) [0, 1, 4] rfl ?_
  refine CW_seq ?_
  refine CW_seq ?_
  refine CW_region ?_
  refine W_q (r_move rfl) rfl ?_
  refine W_q (r_bin rfl rfl (bin_lss _ _ _ _)) rfl ?_
  refine W_nil ?_
  refine NX_as (L' := [(0, _), (1, _), (4, _), (10, _)]) [0, 1, 4, 10] rfl ?_
  refine CW_condk rfl (fun h1 => ?_) (fun h1 => ?_)
  · (try simp only [decide_eq_true_eq, decide_eq_false_iff_not, beq_iff_eq, beq_eq_false_iff_ne, bne_iff_ne, bne_eq_false_iff_eq, Bool.not_eq_true', Bool.not_eq_false', Bool.not_eq_true, Bool.not_eq_false, ne_eq, Decidable.not_not] at h1)
    refine CW_region ?_
    exfalso
    omega
  · (try simp only [decide_eq_true_eq, decide_eq_false_iff_not, beq_iff_eq, beq_eq_false_iff_ne, bne_iff_ne, bne_eq_false_iff_eq, Bool.not_eq_true', Bool.not_eq_false', Bool.not_eq_true, Bool.not_eq_false, ne_eq, Decidable.not_not] at h1)
    refine C_skip ?_
    refine NX_as (L' := [(0, _), (1, _), (4, _)]) [0, 1, 4] rfl ?_
    refine CW_seq ?_
    refine CW_region ?_
    refine W_q (r_move rfl) rfl ?_
    refine W_q (r_len Tryz.underlying22 rfl) rfl ?_
    refine W_q (r_convi Tryz.underlying3 Tryz.underlying147 rfl (u64_of _ ⟨by omega, by omega⟩)) rfl ?_
    refine W_q (r_move rfl) rfl ?_
    refine W_q (r_convi Tryz.underlying3 Tryz.underlying147 rfl (u64_of _ ⟨by omega, by omega⟩)) rfl ?_
    refine W_quiet (Mul_q _ (by omega)) T.hb201 rfl rfl ?_
    refine W_q (r_move rfl) rfl ?_
    refine W_q (r_extract rfl rfl) rfl ?_
    refine W_q (r_extract rfl rfl) rfl ?_
    refine W_q (r_assign rfl) rfl ?_
    refine W_q (r_assign rfl) rfl ?_
    refine W_nil ?_
    refine NX_as (L' := [(0, _), (4, _), (5, _), (6, _)]) [0, 4, 5, 6] rfl ?_
    refine CW_seq ?_
    refine CW_seq ?_
    refine CW_region ?_
    refine W_q (r_move rfl) rfl ?_
    refine W_q (r_bin rfl rfl (bin_gtr _ _ _ _)) rfl ?_
    refine W_q (r_move rfl) rfl ?_
    refine WL_split (t := 23) rfl (fun h2 => ?_) (fun h2 => ?_)
    · (try simp only [decide_eq_true_eq, decide_eq_false_iff_not, beq_iff_eq, beq_eq_false_iff_ne, bne_iff_ne, bne_eq_false_iff_eq, Bool.not_eq_true', Bool.not_eq_false', Bool.not_eq_true, Bool.not_eq_false, ne_eq, Decidable.not_not] at h2)
      refine WL_pass rfl rfl rfl rfl ?_
      refine WL_pass rfl rfl rfl rfl ?_
      refine W_q (r_pick_t rfl rfl) rfl ?_
      refine W_nil ?_
      refine NX_as (L' := [(0, _), (4, _), (6, _), (26, _)]) [0, 4, 6, 26] rfl ?_
      refine CW_cond_t rfl ?_
      refine CW_region ?_
      exfalso
      omega
    · (try simp only [decide_eq_true_eq, decide_eq_false_iff_not, beq_iff_eq, beq_eq_false_iff_ne, bne_iff_ne, bne_eq_false_iff_eq, Bool.not_eq_true', Bool.not_eq_false', Bool.not_eq_true, Bool.not_eq_false, ne_eq, Decidable.not_not] at h2)
      refine WL_take rfl rfl ?_
      refine W_q (r_move rfl) rfl ?_
      refine WL_take rfl rfl ?_
      refine W_q (r_bin rfl rfl (bin_gtr _ _ _ _)) rfl ?_
      refine W_q (r_pick_f rfl rfl) rfl ?_
      refine W_nil ?_
      refine NX_as (L' := [(0, _), (4, _), (6, _), (26, _)]) [0, 4, 6, 26] rfl ?_
      refine CW_condk rfl (fun h3 => ?_) (fun h3 => ?_)
      · (try simp only [decide_eq_true_eq, decide_eq_false_iff_not, beq_iff_eq, beq_eq_false_iff_ne, bne_iff_ne, bne_eq_false_iff_eq, Bool.not_eq_true', Bool.not_eq_false', Bool.not_eq_true, Bool.not_eq_false, ne_eq, Decidable.not_not] at h3)
        refine CW_region ?_
        exfalso
        omega
      · (try simp only [decide_eq_true_eq, decide_eq_false_iff_not, beq_iff_eq, beq_eq_false_iff_ne, bne_iff_ne, bne_eq_false_iff_eq, Bool.not_eq_true', Bool.not_eq_false', Bool.not_eq_true, Bool.not_eq_false, ne_eq, Decidable.not_not] at h3)
        refine C_skip ?_
        refine NX_as (L' := [(0, _), (4, _), (6, _)]) [0, 4, 6] rfl ?_
        refine CW_seq ?_
        refine CW_region ?_
        refine W_q (r_move rfl) rfl ?_
        refine W_q (r_convi Tryz.underlying147 Tryz.underlying3 rfl (i64_of _ ⟨by omega, by omega⟩)) rfl ?_
        refine S_make (len := k) Tryz.underlying22 T.sz3 T.ze3 T.by3 rfl rfl rfl (by omega) (by unfold maxLen; omega) rfl (fun b4 => ?_)
        generalize hZ : Array.toList (madeCells _ (k * 1)) = Z
        have hZl : Z.length = k * 1 := by rw [← hZ]; simp [size_madeCells]
        refine W_q (r_assign rfl) rfl ?_
        refine W_nil ?_
        refine NX_as (L' := [(0, _), (4, _), (7, _)]) [0, 4, 7] rfl ?_
        refine CW_seq ?_
        refine CW_region ?_
        refine W_q (r_move rfl) rfl ?_
        refine W_q (r_move rfl) rfl ?_
        refine S_copy es 0 rfl rfl rfl Tryz.underlying22 T.sz3 (by rw [he1, show min 1 k = 1 by omega, Nat.one_mul]) (Src.sl h (by simp) (fun ad' e j u hj => by cases e; simpa using he3 j u hj) (by simp)) (by rw [List.all_eq_true]; exact (fun u hu => by obtain ⟨rfl, _⟩ := he2; simp at hu; subst hu; rfl)) (by rw [he1, hZl]; omega) rfl ?_
        rw [show Z.take 0 ++ es ++ Z.drop (0 + es.length) = repL es 1 ++ Z.drop (1 * 1) by simp [repL_one, he1], show min 1 k = 1 by omega]
        refine W_q (r_assign rfl) rfl ?_
        refine W_nil ?_
        refine NX_as (L' := [(4, _), (7, _), (8, _)]) [4, 7, 8] rfl ?_
        refine CW_seq ?_
        refine CW_block ?_
        refine CW_front 0 rfl rfl ?_
        refine C_loop (Nat) (k) (fun k5 x5 => 1 ≤ x5 ∧ x5 ≤ k ∧ k5 + 1 ≤ x5) (fun k5 x5 => [(8, .int .i64 (x5 : Int))]) (fun k5 x5 => [row (some b4) k k 3 1 (repL es x5 ++ Z.drop (x5 * 1))]) [8] [4, 7] (F := [(4, _), (7, _)]) (1) (by omega) rfl rfl rfl (fun k5 x5 hk5 hJ5 => ?_)
        obtain ⟨hJa, hJb, hJc⟩ := hJ5
        refine CW_as (L' := [(4, _), (7, _), (8, _)]) [4, 7, 8] rfl ?_
        refine CW_seq ?_
        refine CW_seq ?_
        refine CW_region ?_
        refine W_q (r_move rfl) rfl ?_
        refine W_q (r_move rfl) rfl ?_
        refine W_q (r_len Tryz.underlying22 rfl) rfl ?_
        refine W_q (r_bin rfl rfl (bin_lss _ _ _ _)) rfl ?_
        refine W_nil ?_
        refine NX_as (L' := [(4, _), (7, _), (8, _), (37, _)]) [4, 7, 8, 37] rfl ?_
        refine CW_condk rfl (fun h6 => ?_) (fun h6 => ?_)
        · (try simp only [decide_eq_true_eq, decide_eq_false_iff_not, beq_iff_eq, beq_eq_false_iff_ne, bne_iff_ne, bne_eq_false_iff_eq, Bool.not_eq_true', Bool.not_eq_false', Bool.not_eq_true, Bool.not_eq_false, ne_eq, Decidable.not_not] at h6)
          refine C_skip ?_
          refine NX_as (L' := [(4, _), (7, _), (8, _)]) [4, 7, 8] rfl ?_
          refine CW_block ?_
          refine C_drawnk 1 [(0, true), (1, true), (2, true), (3, true), (4, true), (5, true), (6, true), (7, false), (8, true), (9, true)] (by kernel_rfl) rfl (by kernel_rfl) (by kernel_rfl) ?_
          refine D_q rfl (r_move rfl) rfl ?_
          refine D_q rfl (r_move rfl) rfl ?_
          refine D_q rfl (r_move rfl) rfl ?_
          refine D_q rfl (r_sllo (h := x5) Tryz.underlying22 rfl rfl (by omega) (by omega) T.sz3 (by rw [Nat.zero_add])) rfl ?_
          refine D_q rfl (r_move rfl) rfl ?_
          refine D_q rfl (r_move rfl) rfl ?_
          refine D_q rfl (r_slhi' x5 Tryz.underlying22 rfl rfl rfl (by omega) T.sz3) rfl ?_
          refine D_f rfl (fun hs7 hc7 => ?_)
          refine S_copy (repL es (min x5 (k - x5))) 0 rfl rfl rfl Tryz.underlying22 T.sz3 (repL_len he1 _) ⟨fun w hS j u hj => ⟨_, rfl, by rw [add_plain, Nat.zero_add]; exact row_cell (hS.at (i := 0) rfl) (repL_pre he1 (by omega) hj)⟩, by simp⟩ (repL_one' (fun u hu => by obtain ⟨rfl, _⟩ := he2; simp at hu; subst hu; rfl) _) (by rw [repL_len he1, List.length_append, repL_len he1, List.length_drop, hZl]; omega) rfl ?_
          rw [repL_step he1 (k := k) (by omega)]
          refine W_left hs7 hc7 (fun _ hw => hw.toPre.weak (Imm.le_refl _) (sub_drop 1 rfl)) ?_
          refine D_q rfl (r_add rfl rfl (by unfold I64 at *; omega)) rfl ?_
          refine D_q rfl (r_assign rfl) rfl ?_
          refine D_end ?_
          refine NX_block (?_)
          refine NX_rnd [8, 4, 7] (by omega) (x5 + min x5 (k - x5)) ?_ rfl (List.Sublist.refl _) rfl (Imm.le_refl _)
          omega
        · (try simp only [decide_eq_true_eq, decide_eq_false_iff_not, beq_iff_eq, beq_eq_false_iff_ne, bne_iff_ne, bne_eq_false_iff_eq, Bool.not_eq_true', Bool.not_eq_false', Bool.not_eq_true, Bool.not_eq_false, ne_eq, Decidable.not_not] at h6)
          refine C_exit (EX_then (EX_then (EX_hit (?_))))
          refine NX_as (L' := [(4, _), (7, _)]) [4, 7] rfl ?_
          refine CW_seq ?_
          refine CW_region ?_
          refine W_q (r_move rfl) rfl ?_
          refine W_q (r_assign rfl) rfl ?_
          refine W_nil ?_
          refine NX_as (L' := [(4, _)]) [4] rfl ?_
          obtain rfl : x5 = k := by omega
          refine C_ret (RX_freeze 0 rfl (fun _ h => h) (fun mf lef hf => ?_))
          refine RX_g1 rfl rfl ⟨⟨b4, 0, none⟩, by simp, ?_⟩
          refine Sl_frz (gg := some b4) hf (by simp) (by unfold maxLen; omega) (by simp; omega) (fun _ => ⟨_, rfl⟩) (fun j z hj => ⟨es, he1, ?_, fun q v hv => ?_⟩)
          · rw [List.getElem?_replicate] at hj; split at hj <;> simp at hj; subst hj; exact rI_mono _ _ _ _ (lef) he2
          · have hj' : j < x5 := by have := (List.getElem?_eq_some_iff.1 hj).1; simpa using this
            have hq : q < 1 := by have := (List.getElem?_eq_some_iff.1 hv).1; omega
            rw [List.getElem?_append_left (by rw [repL_len he1]; omega), repL_get he1 hj' hq, hv]

set_option maxHeartbeats 40000000 in
/-- kind.takes -/
theorem takes_g {m : Imm} {es : List Value} {o : FOp} (hO : rOp m es o) (hS : shapeB o.bits o.lanes = true) : Gives Tryz.prog 206 [.agg es.toArray] m (TakesΦ (takesP o)) := by
  have hO_0 := hO
  obtain ⟨A90, c90, rfl, h90, i90a, i90b, i90c, i90d, i90e⟩ := hO_0
  have hb := shapeB_bits hS
  have hU : 0 ≤ o.imm ∧ o.imm ≤ 18446744073709551615 := i90e
  refine gives_of Tryz.func206 rfl Tryz.ntmps206 rfl (fun w => ?_)
  refine CW_seq ?_
  refine CW_region ?_
  refine S_box (l := [_, _, _, _, _, _]) rfl rfl rfl (fun b1 => ?_)
  refine W_q (r_assign rfl) rfl ?_
  refine W_q (r_assign rfl) rfl ?_
  refine W_nil ?_
  refine NX_as (L' := [(1, _), (2, _), (3, _)]) [1, 2, 3] rfl ?_
  refine CW_cut (Nat × Nat × Nat × Nat) (fun x2 => m) (fun x2 => [bx x2.1 71 [.int .i64 o.bits, .int .i64 o.lanes], bx x2.2.1 71 [.int .i64 o.bits, .int .i64 1], bx x2.2.2.1 71 [.int .i64 1, .int .i64 1], bx x2.2.2.2 71 [.int .i64 64, .int .i64 1], bx b1 51 [.int .i64 o.kind, .int .i64 o.bits, .int .i64 o.lanes, .int .i64 o.dst, .slice A90 o.args.length c90, .int .u64 o.imm]]) (fun x2 => [(1, .pointer (some ⟨b1, 0, none⟩)), (2, .slice none 0 0), (3, .bool false), (4, .pointer (some ⟨x2.1, 0, none⟩)), (5, .pointer (some ⟨x2.2.1, 0, none⟩)), (6, .pointer (some ⟨x2.2.2.1, 0, none⟩)), (7, .pointer (some ⟨x2.2.2.2, 0, none⟩))]) (fun x2 => True) ?_ (fun x2 hC2 => ?_)
  · refine C_drawnA 0 18 rfl (by kernel_rfl) (by kernel_rfl) ?_
    refine A_q (i := 0) (by kernel_rfl) rfl (r_fieldb (o' := 1) rfl T.fo51_1 rfl) rfl ?_
    refine A_q (i := 1) (by kernel_rfl) rfl (r_loadb 0 rfl T.ag3 rfl rfl) rfl ?_
    refine A_q (i := 2) (by kernel_rfl) rfl (r_fieldb (o' := 2) rfl T.fo51_2 rfl) rfl ?_
    refine A_q (i := 3) (by kernel_rfl) rfl (r_loadb 0 rfl T.ag3 rfl rfl) rfl ?_
    refine A_q (i := 4) (by kernel_rfl) rfl (r_builda (zs := [_, _]) (cs := [_, _]) Tryz.underlying71 T.sz3 T.ze71 rfl rfl rfl) rfl ?_
    refine A_q (i := 5) (by kernel_rfl) rfl (r_fieldb (o' := 1) rfl T.fo51_1 rfl) rfl ?_
    refine A_q (i := 6) (by kernel_rfl) rfl (r_loadb 0 rfl T.ag3 rfl rfl) rfl ?_
    refine A_q (i := 7) (by kernel_rfl) rfl (r_builda (zs := [_, _]) (cs := [_, _]) Tryz.underlying71 T.sz3 T.ze71 rfl rfl rfl) rfl ?_
    refine A_q (i := 8) (by kernel_rfl) rfl (r_builda (zs := [_, _]) (cs := [_, _]) Tryz.underlying71 T.sz3 T.ze71 rfl rfl rfl) rfl ?_
    refine A_q (i := 9) (by kernel_rfl) rfl (r_builda (zs := [_, _]) (cs := [_, _]) Tryz.underlying71 T.sz3 T.ze71 rfl rfl rfl) rfl ?_
    refine A_four (i := 10) (j := 11) (k := 12) (l := 13) (by kernel_rfl) rfl rfl rfl rfl (fun hs3 => ?_) (fun hs3 => ?_) (fun hs3 => ?_) (fun hs3 => ?_)
    · refine S_alloc (l := [_, _]) T.ze71 rfl rfl (fun b4 => ?_)
      refine A_left hs3 (fun _ hw => hw.toPre.weak (Imm.le_refl _) (sub_drop 1 rfl)) ?_
      refine A_three (i := 11) (j := 12) (k := 13) (by kernel_rfl) rfl rfl rfl (fun hs5 => ?_) (fun hs5 => ?_) (fun hs5 => ?_)
      · refine S_alloc (l := [_, _]) T.ze71 rfl rfl (fun b6 => ?_)
        refine A_left hs5 (fun _ hw => hw.toPre.weak (Imm.le_refl _) (sub_drop 2 rfl)) ?_
        refine A_two (i := 12) (j := 13) (by kernel_rfl) rfl rfl (fun hs7 => ?_) (fun hs7 => ?_)
        · refine S_alloc (l := [_, _]) T.ze71 rfl rfl (fun b8 => ?_)
          refine A_left hs7 (fun _ hw => hw.toPre.weak (Imm.le_refl _) (sub_drop 3 rfl)) ?_
          refine A_one (i := 13) (by kernel_rfl) rfl (fun hs9 => ?_)
          · refine S_alloc (l := [_, _]) T.ze71 rfl rfl (fun b10 => ?_)
            refine A_left hs9 (fun _ hw => hw.toPre.weak (Imm.le_refl _) (sub_drop 4 rfl)) ?_
            refine A_one (i := 14) (by kernel_rfl) rfl (fun hs11 => ?_)
            · refine S_storeb 3 (l' := [_, _]) rfl rfl rfl T.sz71 rfl rfl rfl rfl ?_
              refine A_left hs11 (fun _ hw => hw.toPre.weak (Imm.le_refl _) (sub_drop 4 rfl)) ?_
              refine A_one (i := 15) (by kernel_rfl) rfl (fun hs12 => ?_)
              · refine S_storeb 2 (l' := [_, _]) rfl rfl rfl T.sz71 rfl rfl rfl rfl ?_
                refine A_left hs12 (fun _ hw => hw.toPre.weak (Imm.le_refl _) (sub_drop 4 rfl)) ?_
                refine A_one (i := 16) (by kernel_rfl) rfl (fun hs13 => ?_)
                · refine S_storeb 1 (l' := [_, _]) rfl rfl rfl T.sz71 rfl rfl rfl rfl ?_
                  refine A_left hs13 (fun _ hw => hw.toPre.weak (Imm.le_refl _) (sub_drop 4 rfl)) ?_
                  refine A_one (i := 17) (by kernel_rfl) rfl (fun hs14 => ?_)
                  · refine S_storeb 0 (l' := [_, _]) rfl rfl rfl T.sz71 rfl rfl rfl rfl ?_
                    refine A_left hs14 (fun _ hw => hw.toPre.weak (Imm.le_refl _) (sub_drop 4 rfl)) ?_
                    refine A_end (by kernel_rfl) ?_
                    refine NX_cut ((b4, b6, b8, b10)) (trivial) [1, 2, 3, 4, 5, 6, 7] rfl (perm_take 3 rfl (perm_take 2 rfl (perm_take 1 rfl (perm_take 0 rfl (perm_take 0 rfl (List.Perm.refl _)))))) rfl
        · refine S_alloc (l := [_, _]) T.ze71 rfl rfl (fun b15 => ?_)
          refine A_left hs7 (fun _ hw => hw.toPre.weak (Imm.le_refl _) (sub_drop 3 rfl)) ?_
          refine A_one (i := 12) (by kernel_rfl) rfl (fun hs16 => ?_)
          · refine S_alloc (l := [_, _]) T.ze71 rfl rfl (fun b17 => ?_)
            refine A_left hs16 (fun _ hw => hw.toPre.weak (Imm.le_refl _) (sub_drop 4 rfl)) ?_
            refine A_one (i := 14) (by kernel_rfl) rfl (fun hs18 => ?_)
            · refine S_storeb 3 (l' := [_, _]) rfl rfl rfl T.sz71 rfl rfl rfl rfl ?_
              refine A_left hs18 (fun _ hw => hw.toPre.weak (Imm.le_refl _) (sub_drop 4 rfl)) ?_
              refine A_one (i := 15) (by kernel_rfl) rfl (fun hs19 => ?_)
              · refine S_storeb 2 (l' := [_, _]) rfl rfl rfl T.sz71 rfl rfl rfl rfl ?_
                refine A_left hs19 (fun _ hw => hw.toPre.weak (Imm.le_refl _) (sub_drop 4 rfl)) ?_
                refine A_one (i := 16) (by kernel_rfl) rfl (fun hs20 => ?_)
                · refine S_storeb 0 (l' := [_, _]) rfl rfl rfl T.sz71 rfl rfl rfl rfl ?_
                  refine A_left hs20 (fun _ hw => hw.toPre.weak (Imm.le_refl _) (sub_drop 4 rfl)) ?_
                  refine A_one (i := 17) (by kernel_rfl) rfl (fun hs21 => ?_)
                  · refine S_storeb 1 (l' := [_, _]) rfl rfl rfl T.sz71 rfl rfl rfl rfl ?_
                    refine A_left hs21 (fun _ hw => hw.toPre.weak (Imm.le_refl _) (sub_drop 4 rfl)) ?_
                    refine A_end (by kernel_rfl) ?_
                    refine NX_cut ((b4, b6, b17, b15)) (trivial) [1, 2, 3, 4, 5, 6, 7] rfl (perm_take 3 rfl (perm_take 2 rfl (perm_take 0 rfl (perm_take 0 rfl (perm_take 0 rfl (List.Perm.refl _)))))) rfl
      · refine S_alloc (l := [_, _]) T.ze71 rfl rfl (fun b22 => ?_)
        refine A_left hs5 (fun _ hw => hw.toPre.weak (Imm.le_refl _) (sub_drop 2 rfl)) ?_
        refine A_two (i := 11) (j := 13) (by kernel_rfl) rfl rfl (fun hs23 => ?_) (fun hs23 => ?_)
        · refine S_alloc (l := [_, _]) T.ze71 rfl rfl (fun b24 => ?_)
          refine A_left hs23 (fun _ hw => hw.toPre.weak (Imm.le_refl _) (sub_drop 3 rfl)) ?_
          refine A_one (i := 13) (by kernel_rfl) rfl (fun hs25 => ?_)
          · refine S_alloc (l := [_, _]) T.ze71 rfl rfl (fun b26 => ?_)
            refine A_left hs25 (fun _ hw => hw.toPre.weak (Imm.le_refl _) (sub_drop 4 rfl)) ?_
            refine A_one (i := 14) (by kernel_rfl) rfl (fun hs27 => ?_)
            · refine S_storeb 3 (l' := [_, _]) rfl rfl rfl T.sz71 rfl rfl rfl rfl ?_
              refine A_left hs27 (fun _ hw => hw.toPre.weak (Imm.le_refl _) (sub_drop 4 rfl)) ?_
              refine A_one (i := 15) (by kernel_rfl) rfl (fun hs28 => ?_)
              · refine S_storeb 1 (l' := [_, _]) rfl rfl rfl T.sz71 rfl rfl rfl rfl ?_
                refine A_left hs28 (fun _ hw => hw.toPre.weak (Imm.le_refl _) (sub_drop 4 rfl)) ?_
                refine A_one (i := 16) (by kernel_rfl) rfl (fun hs29 => ?_)
                · refine S_storeb 2 (l' := [_, _]) rfl rfl rfl T.sz71 rfl rfl rfl rfl ?_
                  refine A_left hs29 (fun _ hw => hw.toPre.weak (Imm.le_refl _) (sub_drop 4 rfl)) ?_
                  refine A_one (i := 17) (by kernel_rfl) rfl (fun hs30 => ?_)
                  · refine S_storeb 0 (l' := [_, _]) rfl rfl rfl T.sz71 rfl rfl rfl rfl ?_
                    refine A_left hs30 (fun _ hw => hw.toPre.weak (Imm.le_refl _) (sub_drop 4 rfl)) ?_
                    refine A_end (by kernel_rfl) ?_
                    refine NX_cut ((b4, b24, b22, b26)) (trivial) [1, 2, 3, 4, 5, 6, 7] rfl (perm_take 3 rfl (perm_take 1 rfl (perm_take 1 rfl (perm_take 0 rfl (perm_take 0 rfl (List.Perm.refl _)))))) rfl
        · refine S_alloc (l := [_, _]) T.ze71 rfl rfl (fun b31 => ?_)
          refine A_left hs23 (fun _ hw => hw.toPre.weak (Imm.le_refl _) (sub_drop 3 rfl)) ?_
          refine A_one (i := 11) (by kernel_rfl) rfl (fun hs32 => ?_)
          · refine S_alloc (l := [_, _]) T.ze71 rfl rfl (fun b33 => ?_)
            refine A_left hs32 (fun _ hw => hw.toPre.weak (Imm.le_refl _) (sub_drop 4 rfl)) ?_
            refine A_one (i := 14) (by kernel_rfl) rfl (fun hs34 => ?_)
            · refine S_storeb 3 (l' := [_, _]) rfl rfl rfl T.sz71 rfl rfl rfl rfl ?_
              refine A_left hs34 (fun _ hw => hw.toPre.weak (Imm.le_refl _) (sub_drop 4 rfl)) ?_
              refine A_one (i := 15) (by kernel_rfl) rfl (fun hs35 => ?_)
              · refine S_storeb 0 (l' := [_, _]) rfl rfl rfl T.sz71 rfl rfl rfl rfl ?_
                refine A_left hs35 (fun _ hw => hw.toPre.weak (Imm.le_refl _) (sub_drop 4 rfl)) ?_
                refine A_one (i := 16) (by kernel_rfl) rfl (fun hs36 => ?_)
                · refine S_storeb 2 (l' := [_, _]) rfl rfl rfl T.sz71 rfl rfl rfl rfl ?_
                  refine A_left hs36 (fun _ hw => hw.toPre.weak (Imm.le_refl _) (sub_drop 4 rfl)) ?_
                  refine A_one (i := 17) (by kernel_rfl) rfl (fun hs37 => ?_)
                  · refine S_storeb 1 (l' := [_, _]) rfl rfl rfl T.sz71 rfl rfl rfl rfl ?_
                    refine A_left hs37 (fun _ hw => hw.toPre.weak (Imm.le_refl _) (sub_drop 4 rfl)) ?_
                    refine A_end (by kernel_rfl) ?_
                    refine NX_cut ((b4, b33, b22, b31)) (trivial) [1, 2, 3, 4, 5, 6, 7] rfl (perm_take 3 rfl (perm_take 0 rfl (perm_take 1 rfl (perm_take 0 rfl (perm_take 0 rfl (List.Perm.refl _)))))) rfl
      · refine S_alloc (l := [_, _]) T.ze71 rfl rfl (fun b38 => ?_)
        refine A_left hs5 (fun _ hw => hw.toPre.weak (Imm.le_refl _) (sub_drop 2 rfl)) ?_
        refine A_two (i := 11) (j := 12) (by kernel_rfl) rfl rfl (fun hs39 => ?_) (fun hs39 => ?_)
        · refine S_alloc (l := [_, _]) T.ze71 rfl rfl (fun b40 => ?_)
          refine A_left hs39 (fun _ hw => hw.toPre.weak (Imm.le_refl _) (sub_drop 3 rfl)) ?_
          refine A_one (i := 12) (by kernel_rfl) rfl (fun hs41 => ?_)
          · refine S_alloc (l := [_, _]) T.ze71 rfl rfl (fun b42 => ?_)
            refine A_left hs41 (fun _ hw => hw.toPre.weak (Imm.le_refl _) (sub_drop 4 rfl)) ?_
            refine A_one (i := 14) (by kernel_rfl) rfl (fun hs43 => ?_)
            · refine S_storeb 3 (l' := [_, _]) rfl rfl rfl T.sz71 rfl rfl rfl rfl ?_
              refine A_left hs43 (fun _ hw => hw.toPre.weak (Imm.le_refl _) (sub_drop 4 rfl)) ?_
              refine A_one (i := 15) (by kernel_rfl) rfl (fun hs44 => ?_)
              · refine S_storeb 1 (l' := [_, _]) rfl rfl rfl T.sz71 rfl rfl rfl rfl ?_
                refine A_left hs44 (fun _ hw => hw.toPre.weak (Imm.le_refl _) (sub_drop 4 rfl)) ?_
                refine A_one (i := 16) (by kernel_rfl) rfl (fun hs45 => ?_)
                · refine S_storeb 0 (l' := [_, _]) rfl rfl rfl T.sz71 rfl rfl rfl rfl ?_
                  refine A_left hs45 (fun _ hw => hw.toPre.weak (Imm.le_refl _) (sub_drop 4 rfl)) ?_
                  refine A_one (i := 17) (by kernel_rfl) rfl (fun hs46 => ?_)
                  · refine S_storeb 2 (l' := [_, _]) rfl rfl rfl T.sz71 rfl rfl rfl rfl ?_
                    refine A_left hs46 (fun _ hw => hw.toPre.weak (Imm.le_refl _) (sub_drop 4 rfl)) ?_
                    refine A_end (by kernel_rfl) ?_
                    refine NX_cut ((b4, b40, b42, b38)) (trivial) [1, 2, 3, 4, 5, 6, 7] rfl (perm_take 3 rfl (perm_take 1 rfl (perm_take 0 rfl (perm_take 0 rfl (perm_take 0 rfl (List.Perm.refl _)))))) rfl
        · refine S_alloc (l := [_, _]) T.ze71 rfl rfl (fun b47 => ?_)
          refine A_left hs39 (fun _ hw => hw.toPre.weak (Imm.le_refl _) (sub_drop 3 rfl)) ?_
          refine A_one (i := 11) (by kernel_rfl) rfl (fun hs48 => ?_)
          · refine S_alloc (l := [_, _]) T.ze71 rfl rfl (fun b49 => ?_)
            refine A_left hs48 (fun _ hw => hw.toPre.weak (Imm.le_refl _) (sub_drop 4 rfl)) ?_
            refine A_one (i := 14) (by kernel_rfl) rfl (fun hs50 => ?_)
            · refine S_storeb 3 (l' := [_, _]) rfl rfl rfl T.sz71 rfl rfl rfl rfl ?_
              refine A_left hs50 (fun _ hw => hw.toPre.weak (Imm.le_refl _) (sub_drop 4 rfl)) ?_
              refine A_one (i := 15) (by kernel_rfl) rfl (fun hs51 => ?_)
              · refine S_storeb 0 (l' := [_, _]) rfl rfl rfl T.sz71 rfl rfl rfl rfl ?_
                refine A_left hs51 (fun _ hw => hw.toPre.weak (Imm.le_refl _) (sub_drop 4 rfl)) ?_
                refine A_one (i := 16) (by kernel_rfl) rfl (fun hs52 => ?_)
                · refine S_storeb 1 (l' := [_, _]) rfl rfl rfl T.sz71 rfl rfl rfl rfl ?_
                  refine A_left hs52 (fun _ hw => hw.toPre.weak (Imm.le_refl _) (sub_drop 4 rfl)) ?_
                  refine A_one (i := 17) (by kernel_rfl) rfl (fun hs53 => ?_)
                  · refine S_storeb 2 (l' := [_, _]) rfl rfl rfl T.sz71 rfl rfl rfl rfl ?_
                    refine A_left hs53 (fun _ hw => hw.toPre.weak (Imm.le_refl _) (sub_drop 4 rfl)) ?_
                    refine A_end (by kernel_rfl) ?_
                    refine NX_cut ((b4, b49, b47, b38)) (trivial) [1, 2, 3, 4, 5, 6, 7] rfl (perm_take 3 rfl (perm_take 0 rfl (perm_take 0 rfl (perm_take 0 rfl (perm_take 0 rfl (List.Perm.refl _)))))) rfl
    · refine S_alloc (l := [_, _]) T.ze71 rfl rfl (fun b54 => ?_)
      refine A_left hs3 (fun _ hw => hw.toPre.weak (Imm.le_refl _) (sub_drop 1 rfl)) ?_
      refine A_three (i := 10) (j := 12) (k := 13) (by kernel_rfl) rfl rfl rfl (fun hs55 => ?_) (fun hs55 => ?_) (fun hs55 => ?_)
      · refine S_alloc (l := [_, _]) T.ze71 rfl rfl (fun b56 => ?_)
        refine A_left hs55 (fun _ hw => hw.toPre.weak (Imm.le_refl _) (sub_drop 2 rfl)) ?_
        refine A_two (i := 12) (j := 13) (by kernel_rfl) rfl rfl (fun hs57 => ?_) (fun hs57 => ?_)
        · refine S_alloc (l := [_, _]) T.ze71 rfl rfl (fun b58 => ?_)
          refine A_left hs57 (fun _ hw => hw.toPre.weak (Imm.le_refl _) (sub_drop 3 rfl)) ?_
          refine A_one (i := 13) (by kernel_rfl) rfl (fun hs59 => ?_)
          · refine S_alloc (l := [_, _]) T.ze71 rfl rfl (fun b60 => ?_)
            refine A_left hs59 (fun _ hw => hw.toPre.weak (Imm.le_refl _) (sub_drop 4 rfl)) ?_
            refine A_one (i := 14) (by kernel_rfl) rfl (fun hs61 => ?_)
            · refine S_storeb 2 (l' := [_, _]) rfl rfl rfl T.sz71 rfl rfl rfl rfl ?_
              refine A_left hs61 (fun _ hw => hw.toPre.weak (Imm.le_refl _) (sub_drop 4 rfl)) ?_
              refine A_one (i := 15) (by kernel_rfl) rfl (fun hs62 => ?_)
              · refine S_storeb 3 (l' := [_, _]) rfl rfl rfl T.sz71 rfl rfl rfl rfl ?_
                refine A_left hs62 (fun _ hw => hw.toPre.weak (Imm.le_refl _) (sub_drop 4 rfl)) ?_
                refine A_one (i := 16) (by kernel_rfl) rfl (fun hs63 => ?_)
                · refine S_storeb 1 (l' := [_, _]) rfl rfl rfl T.sz71 rfl rfl rfl rfl ?_
                  refine A_left hs63 (fun _ hw => hw.toPre.weak (Imm.le_refl _) (sub_drop 4 rfl)) ?_
                  refine A_one (i := 17) (by kernel_rfl) rfl (fun hs64 => ?_)
                  · refine S_storeb 0 (l' := [_, _]) rfl rfl rfl T.sz71 rfl rfl rfl rfl ?_
                    refine A_left hs64 (fun _ hw => hw.toPre.weak (Imm.le_refl _) (sub_drop 4 rfl)) ?_
                    refine A_end (by kernel_rfl) ?_
                    refine NX_cut ((b56, b54, b58, b60)) (trivial) [1, 2, 3, 4, 5, 6, 7] rfl (perm_take 2 rfl (perm_take 2 rfl (perm_take 1 rfl (perm_take 0 rfl (perm_take 0 rfl (List.Perm.refl _)))))) rfl
        · refine S_alloc (l := [_, _]) T.ze71 rfl rfl (fun b65 => ?_)
          refine A_left hs57 (fun _ hw => hw.toPre.weak (Imm.le_refl _) (sub_drop 3 rfl)) ?_
          refine A_one (i := 12) (by kernel_rfl) rfl (fun hs66 => ?_)
          · refine S_alloc (l := [_, _]) T.ze71 rfl rfl (fun b67 => ?_)
            refine A_left hs66 (fun _ hw => hw.toPre.weak (Imm.le_refl _) (sub_drop 4 rfl)) ?_
            refine A_one (i := 14) (by kernel_rfl) rfl (fun hs68 => ?_)
            · refine S_storeb 2 (l' := [_, _]) rfl rfl rfl T.sz71 rfl rfl rfl rfl ?_
              refine A_left hs68 (fun _ hw => hw.toPre.weak (Imm.le_refl _) (sub_drop 4 rfl)) ?_
              refine A_one (i := 15) (by kernel_rfl) rfl (fun hs69 => ?_)
              · refine S_storeb 3 (l' := [_, _]) rfl rfl rfl T.sz71 rfl rfl rfl rfl ?_
                refine A_left hs69 (fun _ hw => hw.toPre.weak (Imm.le_refl _) (sub_drop 4 rfl)) ?_
                refine A_one (i := 16) (by kernel_rfl) rfl (fun hs70 => ?_)
                · refine S_storeb 0 (l' := [_, _]) rfl rfl rfl T.sz71 rfl rfl rfl rfl ?_
                  refine A_left hs70 (fun _ hw => hw.toPre.weak (Imm.le_refl _) (sub_drop 4 rfl)) ?_
                  refine A_one (i := 17) (by kernel_rfl) rfl (fun hs71 => ?_)
                  · refine S_storeb 1 (l' := [_, _]) rfl rfl rfl T.sz71 rfl rfl rfl rfl ?_
                    refine A_left hs71 (fun _ hw => hw.toPre.weak (Imm.le_refl _) (sub_drop 4 rfl)) ?_
                    refine A_end (by kernel_rfl) ?_
                    refine NX_cut ((b56, b54, b67, b65)) (trivial) [1, 2, 3, 4, 5, 6, 7] rfl (perm_take 2 rfl (perm_take 2 rfl (perm_take 0 rfl (perm_take 0 rfl (perm_take 0 rfl (List.Perm.refl _)))))) rfl
      · refine S_alloc (l := [_, _]) T.ze71 rfl rfl (fun b72 => ?_)
        refine A_left hs55 (fun _ hw => hw.toPre.weak (Imm.le_refl _) (sub_drop 2 rfl)) ?_
        refine A_two (i := 10) (j := 13) (by kernel_rfl) rfl rfl (fun hs73 => ?_) (fun hs73 => ?_)
        · refine S_alloc (l := [_, _]) T.ze71 rfl rfl (fun b74 => ?_)
          refine A_left hs73 (fun _ hw => hw.toPre.weak (Imm.le_refl _) (sub_drop 3 rfl)) ?_
          refine A_one (i := 13) (by kernel_rfl) rfl (fun hs75 => ?_)
          · refine S_alloc (l := [_, _]) T.ze71 rfl rfl (fun b76 => ?_)
            refine A_left hs75 (fun _ hw => hw.toPre.weak (Imm.le_refl _) (sub_drop 4 rfl)) ?_
            refine A_one (i := 14) (by kernel_rfl) rfl (fun hs77 => ?_)
            · refine S_storeb 1 (l' := [_, _]) rfl rfl rfl T.sz71 rfl rfl rfl rfl ?_
              refine A_left hs77 (fun _ hw => hw.toPre.weak (Imm.le_refl _) (sub_drop 4 rfl)) ?_
              refine A_one (i := 15) (by kernel_rfl) rfl (fun hs78 => ?_)
              · refine S_storeb 3 (l' := [_, _]) rfl rfl rfl T.sz71 rfl rfl rfl rfl ?_
                refine A_left hs78 (fun _ hw => hw.toPre.weak (Imm.le_refl _) (sub_drop 4 rfl)) ?_
                refine A_one (i := 16) (by kernel_rfl) rfl (fun hs79 => ?_)
                · refine S_storeb 2 (l' := [_, _]) rfl rfl rfl T.sz71 rfl rfl rfl rfl ?_
                  refine A_left hs79 (fun _ hw => hw.toPre.weak (Imm.le_refl _) (sub_drop 4 rfl)) ?_
                  refine A_one (i := 17) (by kernel_rfl) rfl (fun hs80 => ?_)
                  · refine S_storeb 0 (l' := [_, _]) rfl rfl rfl T.sz71 rfl rfl rfl rfl ?_
                    refine A_left hs80 (fun _ hw => hw.toPre.weak (Imm.le_refl _) (sub_drop 4 rfl)) ?_
                    refine A_end (by kernel_rfl) ?_
                    refine NX_cut ((b74, b54, b72, b76)) (trivial) [1, 2, 3, 4, 5, 6, 7] rfl (perm_take 1 rfl (perm_take 2 rfl (perm_take 1 rfl (perm_take 0 rfl (perm_take 0 rfl (List.Perm.refl _)))))) rfl
        · refine S_alloc (l := [_, _]) T.ze71 rfl rfl (fun b81 => ?_)
          refine A_left hs73 (fun _ hw => hw.toPre.weak (Imm.le_refl _) (sub_drop 3 rfl)) ?_
          refine A_one (i := 10) (by kernel_rfl) rfl (fun hs82 => ?_)
          · refine S_alloc (l := [_, _]) T.ze71 rfl rfl (fun b83 => ?_)
            refine A_left hs82 (fun _ hw => hw.toPre.weak (Imm.le_refl _) (sub_drop 4 rfl)) ?_
            refine A_one (i := 14) (by kernel_rfl) rfl (fun hs84 => ?_)
            · refine S_storeb 0 (l' := [_, _]) rfl rfl rfl T.sz71 rfl rfl rfl rfl ?_
              refine A_left hs84 (fun _ hw => hw.toPre.weak (Imm.le_refl _) (sub_drop 4 rfl)) ?_
              refine A_one (i := 15) (by kernel_rfl) rfl (fun hs85 => ?_)
              · refine S_storeb 3 (l' := [_, _]) rfl rfl rfl T.sz71 rfl rfl rfl rfl ?_
                refine A_left hs85 (fun _ hw => hw.toPre.weak (Imm.le_refl _) (sub_drop 4 rfl)) ?_
                refine A_one (i := 16) (by kernel_rfl) rfl (fun hs86 => ?_)
                · refine S_storeb 2 (l' := [_, _]) rfl rfl rfl T.sz71 rfl rfl rfl rfl ?_
                  refine A_left hs86 (fun _ hw => hw.toPre.weak (Imm.le_refl _) (sub_drop 4 rfl)) ?_
                  refine A_one (i := 17) (by kernel_rfl) rfl (fun hs87 => ?_)
                  · refine S_storeb 1 (l' := [_, _]) rfl rfl rfl T.sz71 rfl rfl rfl rfl ?_
                    refine A_left hs87 (fun _ hw => hw.toPre.weak (Imm.le_refl _) (sub_drop 4 rfl)) ?_
                    refine A_end (by kernel_rfl) ?_
                    refine NX_cut ((b83, b54, b72, b81)) (trivial) [1, 2, 3, 4, 5, 6, 7] rfl (perm_take 0 rfl (perm_take 2 rfl (perm_take 1 rfl (perm_take 0 rfl (perm_take 0 rfl (List.Perm.refl _)))))) rfl
      · refine S_alloc (l := [_, _]) T.ze71 rfl rfl (fun b88 => ?_)
        refine A_left hs55 (fun _ hw => hw.toPre.weak (Imm.le_refl _) (sub_drop 2 rfl)) ?_
        refine A_two (i := 10) (j := 12) (by kernel_rfl) rfl rfl (fun hs89 => ?_) (fun hs89 => ?_)
        · refine S_alloc (l := [_, _]) T.ze71 rfl rfl (fun b90 => ?_)
          refine A_left hs89 (fun _ hw => hw.toPre.weak (Imm.le_refl _) (sub_drop 3 rfl)) ?_
          refine A_one (i := 12) (by kernel_rfl) rfl (fun hs91 => ?_)
          · refine S_alloc (l := [_, _]) T.ze71 rfl rfl (fun b92 => ?_)
            refine A_left hs91 (fun _ hw => hw.toPre.weak (Imm.le_refl _) (sub_drop 4 rfl)) ?_
            refine A_one (i := 14) (by kernel_rfl) rfl (fun hs93 => ?_)
            · refine S_storeb 1 (l' := [_, _]) rfl rfl rfl T.sz71 rfl rfl rfl rfl ?_
              refine A_left hs93 (fun _ hw => hw.toPre.weak (Imm.le_refl _) (sub_drop 4 rfl)) ?_
              refine A_one (i := 15) (by kernel_rfl) rfl (fun hs94 => ?_)
              · refine S_storeb 3 (l' := [_, _]) rfl rfl rfl T.sz71 rfl rfl rfl rfl ?_
                refine A_left hs94 (fun _ hw => hw.toPre.weak (Imm.le_refl _) (sub_drop 4 rfl)) ?_
                refine A_one (i := 16) (by kernel_rfl) rfl (fun hs95 => ?_)
                · refine S_storeb 0 (l' := [_, _]) rfl rfl rfl T.sz71 rfl rfl rfl rfl ?_
                  refine A_left hs95 (fun _ hw => hw.toPre.weak (Imm.le_refl _) (sub_drop 4 rfl)) ?_
                  refine A_one (i := 17) (by kernel_rfl) rfl (fun hs96 => ?_)
                  · refine S_storeb 2 (l' := [_, _]) rfl rfl rfl T.sz71 rfl rfl rfl rfl ?_
                    refine A_left hs96 (fun _ hw => hw.toPre.weak (Imm.le_refl _) (sub_drop 4 rfl)) ?_
                    refine A_end (by kernel_rfl) ?_
                    refine NX_cut ((b90, b54, b92, b88)) (trivial) [1, 2, 3, 4, 5, 6, 7] rfl (perm_take 1 rfl (perm_take 2 rfl (perm_take 0 rfl (perm_take 0 rfl (perm_take 0 rfl (List.Perm.refl _)))))) rfl
        · refine S_alloc (l := [_, _]) T.ze71 rfl rfl (fun b97 => ?_)
          refine A_left hs89 (fun _ hw => hw.toPre.weak (Imm.le_refl _) (sub_drop 3 rfl)) ?_
          refine A_one (i := 10) (by kernel_rfl) rfl (fun hs98 => ?_)
          · refine S_alloc (l := [_, _]) T.ze71 rfl rfl (fun b99 => ?_)
            refine A_left hs98 (fun _ hw => hw.toPre.weak (Imm.le_refl _) (sub_drop 4 rfl)) ?_
            refine A_one (i := 14) (by kernel_rfl) rfl (fun hs100 => ?_)
            · refine S_storeb 0 (l' := [_, _]) rfl rfl rfl T.sz71 rfl rfl rfl rfl ?_
              refine A_left hs100 (fun _ hw => hw.toPre.weak (Imm.le_refl _) (sub_drop 4 rfl)) ?_
              refine A_one (i := 15) (by kernel_rfl) rfl (fun hs101 => ?_)
              · refine S_storeb 3 (l' := [_, _]) rfl rfl rfl T.sz71 rfl rfl rfl rfl ?_
                refine A_left hs101 (fun _ hw => hw.toPre.weak (Imm.le_refl _) (sub_drop 4 rfl)) ?_
                refine A_one (i := 16) (by kernel_rfl) rfl (fun hs102 => ?_)
                · refine S_storeb 1 (l' := [_, _]) rfl rfl rfl T.sz71 rfl rfl rfl rfl ?_
                  refine A_left hs102 (fun _ hw => hw.toPre.weak (Imm.le_refl _) (sub_drop 4 rfl)) ?_
                  refine A_one (i := 17) (by kernel_rfl) rfl (fun hs103 => ?_)
                  · refine S_storeb 2 (l' := [_, _]) rfl rfl rfl T.sz71 rfl rfl rfl rfl ?_
                    refine A_left hs103 (fun _ hw => hw.toPre.weak (Imm.le_refl _) (sub_drop 4 rfl)) ?_
                    refine A_end (by kernel_rfl) ?_
                    refine NX_cut ((b99, b54, b97, b88)) (trivial) [1, 2, 3, 4, 5, 6, 7] rfl (perm_take 0 rfl (perm_take 2 rfl (perm_take 0 rfl (perm_take 0 rfl (perm_take 0 rfl (List.Perm.refl _)))))) rfl
    · refine S_alloc (l := [_, _]) T.ze71 rfl rfl (fun b104 => ?_)
      refine A_left hs3 (fun _ hw => hw.toPre.weak (Imm.le_refl _) (sub_drop 1 rfl)) ?_
      refine A_three (i := 10) (j := 11) (k := 13) (by kernel_rfl) rfl rfl rfl (fun hs105 => ?_) (fun hs105 => ?_) (fun hs105 => ?_)
      · refine S_alloc (l := [_, _]) T.ze71 rfl rfl (fun b106 => ?_)
        refine A_left hs105 (fun _ hw => hw.toPre.weak (Imm.le_refl _) (sub_drop 2 rfl)) ?_
        refine A_two (i := 11) (j := 13) (by kernel_rfl) rfl rfl (fun hs107 => ?_) (fun hs107 => ?_)
        · refine S_alloc (l := [_, _]) T.ze71 rfl rfl (fun b108 => ?_)
          refine A_left hs107 (fun _ hw => hw.toPre.weak (Imm.le_refl _) (sub_drop 3 rfl)) ?_
          refine A_one (i := 13) (by kernel_rfl) rfl (fun hs109 => ?_)
          · refine S_alloc (l := [_, _]) T.ze71 rfl rfl (fun b110 => ?_)
            refine A_left hs109 (fun _ hw => hw.toPre.weak (Imm.le_refl _) (sub_drop 4 rfl)) ?_
            refine A_one (i := 14) (by kernel_rfl) rfl (fun hs111 => ?_)
            · refine S_storeb 2 (l' := [_, _]) rfl rfl rfl T.sz71 rfl rfl rfl rfl ?_
              refine A_left hs111 (fun _ hw => hw.toPre.weak (Imm.le_refl _) (sub_drop 4 rfl)) ?_
              refine A_one (i := 15) (by kernel_rfl) rfl (fun hs112 => ?_)
              · refine S_storeb 1 (l' := [_, _]) rfl rfl rfl T.sz71 rfl rfl rfl rfl ?_
                refine A_left hs112 (fun _ hw => hw.toPre.weak (Imm.le_refl _) (sub_drop 4 rfl)) ?_
                refine A_one (i := 16) (by kernel_rfl) rfl (fun hs113 => ?_)
                · refine S_storeb 3 (l' := [_, _]) rfl rfl rfl T.sz71 rfl rfl rfl rfl ?_
                  refine A_left hs113 (fun _ hw => hw.toPre.weak (Imm.le_refl _) (sub_drop 4 rfl)) ?_
                  refine A_one (i := 17) (by kernel_rfl) rfl (fun hs114 => ?_)
                  · refine S_storeb 0 (l' := [_, _]) rfl rfl rfl T.sz71 rfl rfl rfl rfl ?_
                    refine A_left hs114 (fun _ hw => hw.toPre.weak (Imm.le_refl _) (sub_drop 4 rfl)) ?_
                    refine A_end (by kernel_rfl) ?_
                    refine NX_cut ((b106, b108, b104, b110)) (trivial) [1, 2, 3, 4, 5, 6, 7] rfl (perm_take 2 rfl (perm_take 1 rfl (perm_take 1 rfl (perm_take 0 rfl (perm_take 0 rfl (List.Perm.refl _)))))) rfl
        · refine S_alloc (l := [_, _]) T.ze71 rfl rfl (fun b115 => ?_)
          refine A_left hs107 (fun _ hw => hw.toPre.weak (Imm.le_refl _) (sub_drop 3 rfl)) ?_
          refine A_one (i := 11) (by kernel_rfl) rfl (fun hs116 => ?_)
          · refine S_alloc (l := [_, _]) T.ze71 rfl rfl (fun b117 => ?_)
            refine A_left hs116 (fun _ hw => hw.toPre.weak (Imm.le_refl _) (sub_drop 4 rfl)) ?_
            refine A_one (i := 14) (by kernel_rfl) rfl (fun hs118 => ?_)
            · refine S_storeb 2 (l' := [_, _]) rfl rfl rfl T.sz71 rfl rfl rfl rfl ?_
              refine A_left hs118 (fun _ hw => hw.toPre.weak (Imm.le_refl _) (sub_drop 4 rfl)) ?_
              refine A_one (i := 15) (by kernel_rfl) rfl (fun hs119 => ?_)
              · refine S_storeb 0 (l' := [_, _]) rfl rfl rfl T.sz71 rfl rfl rfl rfl ?_
                refine A_left hs119 (fun _ hw => hw.toPre.weak (Imm.le_refl _) (sub_drop 4 rfl)) ?_
                refine A_one (i := 16) (by kernel_rfl) rfl (fun hs120 => ?_)
                · refine S_storeb 3 (l' := [_, _]) rfl rfl rfl T.sz71 rfl rfl rfl rfl ?_
                  refine A_left hs120 (fun _ hw => hw.toPre.weak (Imm.le_refl _) (sub_drop 4 rfl)) ?_
                  refine A_one (i := 17) (by kernel_rfl) rfl (fun hs121 => ?_)
                  · refine S_storeb 1 (l' := [_, _]) rfl rfl rfl T.sz71 rfl rfl rfl rfl ?_
                    refine A_left hs121 (fun _ hw => hw.toPre.weak (Imm.le_refl _) (sub_drop 4 rfl)) ?_
                    refine A_end (by kernel_rfl) ?_
                    refine NX_cut ((b106, b117, b104, b115)) (trivial) [1, 2, 3, 4, 5, 6, 7] rfl (perm_take 2 rfl (perm_take 0 rfl (perm_take 1 rfl (perm_take 0 rfl (perm_take 0 rfl (List.Perm.refl _)))))) rfl
      · refine S_alloc (l := [_, _]) T.ze71 rfl rfl (fun b122 => ?_)
        refine A_left hs105 (fun _ hw => hw.toPre.weak (Imm.le_refl _) (sub_drop 2 rfl)) ?_
        refine A_two (i := 10) (j := 13) (by kernel_rfl) rfl rfl (fun hs123 => ?_) (fun hs123 => ?_)
        · refine S_alloc (l := [_, _]) T.ze71 rfl rfl (fun b124 => ?_)
          refine A_left hs123 (fun _ hw => hw.toPre.weak (Imm.le_refl _) (sub_drop 3 rfl)) ?_
          refine A_one (i := 13) (by kernel_rfl) rfl (fun hs125 => ?_)
          · refine S_alloc (l := [_, _]) T.ze71 rfl rfl (fun b126 => ?_)
            refine A_left hs125 (fun _ hw => hw.toPre.weak (Imm.le_refl _) (sub_drop 4 rfl)) ?_
            refine A_one (i := 14) (by kernel_rfl) rfl (fun hs127 => ?_)
            · refine S_storeb 1 (l' := [_, _]) rfl rfl rfl T.sz71 rfl rfl rfl rfl ?_
              refine A_left hs127 (fun _ hw => hw.toPre.weak (Imm.le_refl _) (sub_drop 4 rfl)) ?_
              refine A_one (i := 15) (by kernel_rfl) rfl (fun hs128 => ?_)
              · refine S_storeb 2 (l' := [_, _]) rfl rfl rfl T.sz71 rfl rfl rfl rfl ?_
                refine A_left hs128 (fun _ hw => hw.toPre.weak (Imm.le_refl _) (sub_drop 4 rfl)) ?_
                refine A_one (i := 16) (by kernel_rfl) rfl (fun hs129 => ?_)
                · refine S_storeb 3 (l' := [_, _]) rfl rfl rfl T.sz71 rfl rfl rfl rfl ?_
                  refine A_left hs129 (fun _ hw => hw.toPre.weak (Imm.le_refl _) (sub_drop 4 rfl)) ?_
                  refine A_one (i := 17) (by kernel_rfl) rfl (fun hs130 => ?_)
                  · refine S_storeb 0 (l' := [_, _]) rfl rfl rfl T.sz71 rfl rfl rfl rfl ?_
                    refine A_left hs130 (fun _ hw => hw.toPre.weak (Imm.le_refl _) (sub_drop 4 rfl)) ?_
                    refine A_end (by kernel_rfl) ?_
                    refine NX_cut ((b124, b122, b104, b126)) (trivial) [1, 2, 3, 4, 5, 6, 7] rfl (perm_take 1 rfl (perm_take 1 rfl (perm_take 1 rfl (perm_take 0 rfl (perm_take 0 rfl (List.Perm.refl _)))))) rfl
        · refine S_alloc (l := [_, _]) T.ze71 rfl rfl (fun b131 => ?_)
          refine A_left hs123 (fun _ hw => hw.toPre.weak (Imm.le_refl _) (sub_drop 3 rfl)) ?_
          refine A_one (i := 10) (by kernel_rfl) rfl (fun hs132 => ?_)
          · refine S_alloc (l := [_, _]) T.ze71 rfl rfl (fun b133 => ?_)
            refine A_left hs132 (fun _ hw => hw.toPre.weak (Imm.le_refl _) (sub_drop 4 rfl)) ?_
            refine A_one (i := 14) (by kernel_rfl) rfl (fun hs134 => ?_)
            · refine S_storeb 0 (l' := [_, _]) rfl rfl rfl T.sz71 rfl rfl rfl rfl ?_
              refine A_left hs134 (fun _ hw => hw.toPre.weak (Imm.le_refl _) (sub_drop 4 rfl)) ?_
              refine A_one (i := 15) (by kernel_rfl) rfl (fun hs135 => ?_)
              · refine S_storeb 2 (l' := [_, _]) rfl rfl rfl T.sz71 rfl rfl rfl rfl ?_
                refine A_left hs135 (fun _ hw => hw.toPre.weak (Imm.le_refl _) (sub_drop 4 rfl)) ?_
                refine A_one (i := 16) (by kernel_rfl) rfl (fun hs136 => ?_)
                · refine S_storeb 3 (l' := [_, _]) rfl rfl rfl T.sz71 rfl rfl rfl rfl ?_
                  refine A_left hs136 (fun _ hw => hw.toPre.weak (Imm.le_refl _) (sub_drop 4 rfl)) ?_
                  refine A_one (i := 17) (by kernel_rfl) rfl (fun hs137 => ?_)
                  · refine S_storeb 1 (l' := [_, _]) rfl rfl rfl T.sz71 rfl rfl rfl rfl ?_
                    refine A_left hs137 (fun _ hw => hw.toPre.weak (Imm.le_refl _) (sub_drop 4 rfl)) ?_
                    refine A_end (by kernel_rfl) ?_
                    refine NX_cut ((b133, b122, b104, b131)) (trivial) [1, 2, 3, 4, 5, 6, 7] rfl (perm_take 0 rfl (perm_take 1 rfl (perm_take 1 rfl (perm_take 0 rfl (perm_take 0 rfl (List.Perm.refl _)))))) rfl
      · refine S_alloc (l := [_, _]) T.ze71 rfl rfl (fun b138 => ?_)
        refine A_left hs105 (fun _ hw => hw.toPre.weak (Imm.le_refl _) (sub_drop 2 rfl)) ?_
        refine A_two (i := 10) (j := 11) (by kernel_rfl) rfl rfl (fun hs139 => ?_) (fun hs139 => ?_)
        · refine S_alloc (l := [_, _]) T.ze71 rfl rfl (fun b140 => ?_)
          refine A_left hs139 (fun _ hw => hw.toPre.weak (Imm.le_refl _) (sub_drop 3 rfl)) ?_
          refine A_one (i := 11) (by kernel_rfl) rfl (fun hs141 => ?_)
          · refine S_alloc (l := [_, _]) T.ze71 rfl rfl (fun b142 => ?_)
            refine A_left hs141 (fun _ hw => hw.toPre.weak (Imm.le_refl _) (sub_drop 4 rfl)) ?_
            refine A_one (i := 14) (by kernel_rfl) rfl (fun hs143 => ?_)
            · refine S_storeb 1 (l' := [_, _]) rfl rfl rfl T.sz71 rfl rfl rfl rfl ?_
              refine A_left hs143 (fun _ hw => hw.toPre.weak (Imm.le_refl _) (sub_drop 4 rfl)) ?_
              refine A_one (i := 15) (by kernel_rfl) rfl (fun hs144 => ?_)
              · refine S_storeb 0 (l' := [_, _]) rfl rfl rfl T.sz71 rfl rfl rfl rfl ?_
                refine A_left hs144 (fun _ hw => hw.toPre.weak (Imm.le_refl _) (sub_drop 4 rfl)) ?_
                refine A_one (i := 16) (by kernel_rfl) rfl (fun hs145 => ?_)
                · refine S_storeb 3 (l' := [_, _]) rfl rfl rfl T.sz71 rfl rfl rfl rfl ?_
                  refine A_left hs145 (fun _ hw => hw.toPre.weak (Imm.le_refl _) (sub_drop 4 rfl)) ?_
                  refine A_one (i := 17) (by kernel_rfl) rfl (fun hs146 => ?_)
                  · refine S_storeb 2 (l' := [_, _]) rfl rfl rfl T.sz71 rfl rfl rfl rfl ?_
                    refine A_left hs146 (fun _ hw => hw.toPre.weak (Imm.le_refl _) (sub_drop 4 rfl)) ?_
                    refine A_end (by kernel_rfl) ?_
                    refine NX_cut ((b140, b142, b104, b138)) (trivial) [1, 2, 3, 4, 5, 6, 7] rfl (perm_take 1 rfl (perm_take 0 rfl (perm_take 1 rfl (perm_take 0 rfl (perm_take 0 rfl (List.Perm.refl _)))))) rfl
        · refine S_alloc (l := [_, _]) T.ze71 rfl rfl (fun b147 => ?_)
          refine A_left hs139 (fun _ hw => hw.toPre.weak (Imm.le_refl _) (sub_drop 3 rfl)) ?_
          refine A_one (i := 10) (by kernel_rfl) rfl (fun hs148 => ?_)
          · refine S_alloc (l := [_, _]) T.ze71 rfl rfl (fun b149 => ?_)
            refine A_left hs148 (fun _ hw => hw.toPre.weak (Imm.le_refl _) (sub_drop 4 rfl)) ?_
            refine A_one (i := 14) (by kernel_rfl) rfl (fun hs150 => ?_)
            · refine S_storeb 0 (l' := [_, _]) rfl rfl rfl T.sz71 rfl rfl rfl rfl ?_
              refine A_left hs150 (fun _ hw => hw.toPre.weak (Imm.le_refl _) (sub_drop 4 rfl)) ?_
              refine A_one (i := 15) (by kernel_rfl) rfl (fun hs151 => ?_)
              · refine S_storeb 1 (l' := [_, _]) rfl rfl rfl T.sz71 rfl rfl rfl rfl ?_
                refine A_left hs151 (fun _ hw => hw.toPre.weak (Imm.le_refl _) (sub_drop 4 rfl)) ?_
                refine A_one (i := 16) (by kernel_rfl) rfl (fun hs152 => ?_)
                · refine S_storeb 3 (l' := [_, _]) rfl rfl rfl T.sz71 rfl rfl rfl rfl ?_
                  refine A_left hs152 (fun _ hw => hw.toPre.weak (Imm.le_refl _) (sub_drop 4 rfl)) ?_
                  refine A_one (i := 17) (by kernel_rfl) rfl (fun hs153 => ?_)
                  · refine S_storeb 2 (l' := [_, _]) rfl rfl rfl T.sz71 rfl rfl rfl rfl ?_
                    refine A_left hs153 (fun _ hw => hw.toPre.weak (Imm.le_refl _) (sub_drop 4 rfl)) ?_
                    refine A_end (by kernel_rfl) ?_
                    refine NX_cut ((b149, b147, b104, b138)) (trivial) [1, 2, 3, 4, 5, 6, 7] rfl (perm_take 0 rfl (perm_take 0 rfl (perm_take 1 rfl (perm_take 0 rfl (perm_take 0 rfl (List.Perm.refl _)))))) rfl
    · refine S_alloc (l := [_, _]) T.ze71 rfl rfl (fun b154 => ?_)
      refine A_left hs3 (fun _ hw => hw.toPre.weak (Imm.le_refl _) (sub_drop 1 rfl)) ?_
      refine A_three (i := 10) (j := 11) (k := 12) (by kernel_rfl) rfl rfl rfl (fun hs155 => ?_) (fun hs155 => ?_) (fun hs155 => ?_)
      · refine S_alloc (l := [_, _]) T.ze71 rfl rfl (fun b156 => ?_)
        refine A_left hs155 (fun _ hw => hw.toPre.weak (Imm.le_refl _) (sub_drop 2 rfl)) ?_
        refine A_two (i := 11) (j := 12) (by kernel_rfl) rfl rfl (fun hs157 => ?_) (fun hs157 => ?_)
        · refine S_alloc (l := [_, _]) T.ze71 rfl rfl (fun b158 => ?_)
          refine A_left hs157 (fun _ hw => hw.toPre.weak (Imm.le_refl _) (sub_drop 3 rfl)) ?_
          refine A_one (i := 12) (by kernel_rfl) rfl (fun hs159 => ?_)
          · refine S_alloc (l := [_, _]) T.ze71 rfl rfl (fun b160 => ?_)
            refine A_left hs159 (fun _ hw => hw.toPre.weak (Imm.le_refl _) (sub_drop 4 rfl)) ?_
            refine A_one (i := 14) (by kernel_rfl) rfl (fun hs161 => ?_)
            · refine S_storeb 2 (l' := [_, _]) rfl rfl rfl T.sz71 rfl rfl rfl rfl ?_
              refine A_left hs161 (fun _ hw => hw.toPre.weak (Imm.le_refl _) (sub_drop 4 rfl)) ?_
              refine A_one (i := 15) (by kernel_rfl) rfl (fun hs162 => ?_)
              · refine S_storeb 1 (l' := [_, _]) rfl rfl rfl T.sz71 rfl rfl rfl rfl ?_
                refine A_left hs162 (fun _ hw => hw.toPre.weak (Imm.le_refl _) (sub_drop 4 rfl)) ?_
                refine A_one (i := 16) (by kernel_rfl) rfl (fun hs163 => ?_)
                · refine S_storeb 0 (l' := [_, _]) rfl rfl rfl T.sz71 rfl rfl rfl rfl ?_
                  refine A_left hs163 (fun _ hw => hw.toPre.weak (Imm.le_refl _) (sub_drop 4 rfl)) ?_
                  refine A_one (i := 17) (by kernel_rfl) rfl (fun hs164 => ?_)
                  · refine S_storeb 3 (l' := [_, _]) rfl rfl rfl T.sz71 rfl rfl rfl rfl ?_
                    refine A_left hs164 (fun _ hw => hw.toPre.weak (Imm.le_refl _) (sub_drop 4 rfl)) ?_
                    refine A_end (by kernel_rfl) ?_
                    refine NX_cut ((b156, b158, b160, b154)) (trivial) [1, 2, 3, 4, 5, 6, 7] rfl (perm_take 2 rfl (perm_take 1 rfl (perm_take 0 rfl (perm_take 0 rfl (perm_take 0 rfl (List.Perm.refl _)))))) rfl
        · refine S_alloc (l := [_, _]) T.ze71 rfl rfl (fun b165 => ?_)
          refine A_left hs157 (fun _ hw => hw.toPre.weak (Imm.le_refl _) (sub_drop 3 rfl)) ?_
          refine A_one (i := 11) (by kernel_rfl) rfl (fun hs166 => ?_)
          · refine S_alloc (l := [_, _]) T.ze71 rfl rfl (fun b167 => ?_)
            refine A_left hs166 (fun _ hw => hw.toPre.weak (Imm.le_refl _) (sub_drop 4 rfl)) ?_
            refine A_one (i := 14) (by kernel_rfl) rfl (fun hs168 => ?_)
            · refine S_storeb 2 (l' := [_, _]) rfl rfl rfl T.sz71 rfl rfl rfl rfl ?_
              refine A_left hs168 (fun _ hw => hw.toPre.weak (Imm.le_refl _) (sub_drop 4 rfl)) ?_
              refine A_one (i := 15) (by kernel_rfl) rfl (fun hs169 => ?_)
              · refine S_storeb 0 (l' := [_, _]) rfl rfl rfl T.sz71 rfl rfl rfl rfl ?_
                refine A_left hs169 (fun _ hw => hw.toPre.weak (Imm.le_refl _) (sub_drop 4 rfl)) ?_
                refine A_one (i := 16) (by kernel_rfl) rfl (fun hs170 => ?_)
                · refine S_storeb 1 (l' := [_, _]) rfl rfl rfl T.sz71 rfl rfl rfl rfl ?_
                  refine A_left hs170 (fun _ hw => hw.toPre.weak (Imm.le_refl _) (sub_drop 4 rfl)) ?_
                  refine A_one (i := 17) (by kernel_rfl) rfl (fun hs171 => ?_)
                  · refine S_storeb 3 (l' := [_, _]) rfl rfl rfl T.sz71 rfl rfl rfl rfl ?_
                    refine A_left hs171 (fun _ hw => hw.toPre.weak (Imm.le_refl _) (sub_drop 4 rfl)) ?_
                    refine A_end (by kernel_rfl) ?_
                    refine NX_cut ((b156, b167, b165, b154)) (trivial) [1, 2, 3, 4, 5, 6, 7] rfl (perm_take 2 rfl (perm_take 0 rfl (perm_take 0 rfl (perm_take 0 rfl (perm_take 0 rfl (List.Perm.refl _)))))) rfl
      · refine S_alloc (l := [_, _]) T.ze71 rfl rfl (fun b172 => ?_)
        refine A_left hs155 (fun _ hw => hw.toPre.weak (Imm.le_refl _) (sub_drop 2 rfl)) ?_
        refine A_two (i := 10) (j := 12) (by kernel_rfl) rfl rfl (fun hs173 => ?_) (fun hs173 => ?_)
        · refine S_alloc (l := [_, _]) T.ze71 rfl rfl (fun b174 => ?_)
          refine A_left hs173 (fun _ hw => hw.toPre.weak (Imm.le_refl _) (sub_drop 3 rfl)) ?_
          refine A_one (i := 12) (by kernel_rfl) rfl (fun hs175 => ?_)
          · refine S_alloc (l := [_, _]) T.ze71 rfl rfl (fun b176 => ?_)
            refine A_left hs175 (fun _ hw => hw.toPre.weak (Imm.le_refl _) (sub_drop 4 rfl)) ?_
            refine A_one (i := 14) (by kernel_rfl) rfl (fun hs177 => ?_)
            · refine S_storeb 1 (l' := [_, _]) rfl rfl rfl T.sz71 rfl rfl rfl rfl ?_
              refine A_left hs177 (fun _ hw => hw.toPre.weak (Imm.le_refl _) (sub_drop 4 rfl)) ?_
              refine A_one (i := 15) (by kernel_rfl) rfl (fun hs178 => ?_)
              · refine S_storeb 2 (l' := [_, _]) rfl rfl rfl T.sz71 rfl rfl rfl rfl ?_
                refine A_left hs178 (fun _ hw => hw.toPre.weak (Imm.le_refl _) (sub_drop 4 rfl)) ?_
                refine A_one (i := 16) (by kernel_rfl) rfl (fun hs179 => ?_)
                · refine S_storeb 0 (l' := [_, _]) rfl rfl rfl T.sz71 rfl rfl rfl rfl ?_
                  refine A_left hs179 (fun _ hw => hw.toPre.weak (Imm.le_refl _) (sub_drop 4 rfl)) ?_
                  refine A_one (i := 17) (by kernel_rfl) rfl (fun hs180 => ?_)
                  · refine S_storeb 3 (l' := [_, _]) rfl rfl rfl T.sz71 rfl rfl rfl rfl ?_
                    refine A_left hs180 (fun _ hw => hw.toPre.weak (Imm.le_refl _) (sub_drop 4 rfl)) ?_
                    refine A_end (by kernel_rfl) ?_
                    refine NX_cut ((b174, b172, b176, b154)) (trivial) [1, 2, 3, 4, 5, 6, 7] rfl (perm_take 1 rfl (perm_take 1 rfl (perm_take 0 rfl (perm_take 0 rfl (perm_take 0 rfl (List.Perm.refl _)))))) rfl
        · refine S_alloc (l := [_, _]) T.ze71 rfl rfl (fun b181 => ?_)
          refine A_left hs173 (fun _ hw => hw.toPre.weak (Imm.le_refl _) (sub_drop 3 rfl)) ?_
          refine A_one (i := 10) (by kernel_rfl) rfl (fun hs182 => ?_)
          · refine S_alloc (l := [_, _]) T.ze71 rfl rfl (fun b183 => ?_)
            refine A_left hs182 (fun _ hw => hw.toPre.weak (Imm.le_refl _) (sub_drop 4 rfl)) ?_
            refine A_one (i := 14) (by kernel_rfl) rfl (fun hs184 => ?_)
            · refine S_storeb 0 (l' := [_, _]) rfl rfl rfl T.sz71 rfl rfl rfl rfl ?_
              refine A_left hs184 (fun _ hw => hw.toPre.weak (Imm.le_refl _) (sub_drop 4 rfl)) ?_
              refine A_one (i := 15) (by kernel_rfl) rfl (fun hs185 => ?_)
              · refine S_storeb 2 (l' := [_, _]) rfl rfl rfl T.sz71 rfl rfl rfl rfl ?_
                refine A_left hs185 (fun _ hw => hw.toPre.weak (Imm.le_refl _) (sub_drop 4 rfl)) ?_
                refine A_one (i := 16) (by kernel_rfl) rfl (fun hs186 => ?_)
                · refine S_storeb 1 (l' := [_, _]) rfl rfl rfl T.sz71 rfl rfl rfl rfl ?_
                  refine A_left hs186 (fun _ hw => hw.toPre.weak (Imm.le_refl _) (sub_drop 4 rfl)) ?_
                  refine A_one (i := 17) (by kernel_rfl) rfl (fun hs187 => ?_)
                  · refine S_storeb 3 (l' := [_, _]) rfl rfl rfl T.sz71 rfl rfl rfl rfl ?_
                    refine A_left hs187 (fun _ hw => hw.toPre.weak (Imm.le_refl _) (sub_drop 4 rfl)) ?_
                    refine A_end (by kernel_rfl) ?_
                    refine NX_cut ((b183, b172, b181, b154)) (trivial) [1, 2, 3, 4, 5, 6, 7] rfl (perm_take 0 rfl (perm_take 1 rfl (perm_take 0 rfl (perm_take 0 rfl (perm_take 0 rfl (List.Perm.refl _)))))) rfl
      · refine S_alloc (l := [_, _]) T.ze71 rfl rfl (fun b188 => ?_)
        refine A_left hs155 (fun _ hw => hw.toPre.weak (Imm.le_refl _) (sub_drop 2 rfl)) ?_
        refine A_two (i := 10) (j := 11) (by kernel_rfl) rfl rfl (fun hs189 => ?_) (fun hs189 => ?_)
        · refine S_alloc (l := [_, _]) T.ze71 rfl rfl (fun b190 => ?_)
          refine A_left hs189 (fun _ hw => hw.toPre.weak (Imm.le_refl _) (sub_drop 3 rfl)) ?_
          refine A_one (i := 11) (by kernel_rfl) rfl (fun hs191 => ?_)
          · refine S_alloc (l := [_, _]) T.ze71 rfl rfl (fun b192 => ?_)
            refine A_left hs191 (fun _ hw => hw.toPre.weak (Imm.le_refl _) (sub_drop 4 rfl)) ?_
            refine A_one (i := 14) (by kernel_rfl) rfl (fun hs193 => ?_)
            · refine S_storeb 1 (l' := [_, _]) rfl rfl rfl T.sz71 rfl rfl rfl rfl ?_
              refine A_left hs193 (fun _ hw => hw.toPre.weak (Imm.le_refl _) (sub_drop 4 rfl)) ?_
              refine A_one (i := 15) (by kernel_rfl) rfl (fun hs194 => ?_)
              · refine S_storeb 0 (l' := [_, _]) rfl rfl rfl T.sz71 rfl rfl rfl rfl ?_
                refine A_left hs194 (fun _ hw => hw.toPre.weak (Imm.le_refl _) (sub_drop 4 rfl)) ?_
                refine A_one (i := 16) (by kernel_rfl) rfl (fun hs195 => ?_)
                · refine S_storeb 2 (l' := [_, _]) rfl rfl rfl T.sz71 rfl rfl rfl rfl ?_
                  refine A_left hs195 (fun _ hw => hw.toPre.weak (Imm.le_refl _) (sub_drop 4 rfl)) ?_
                  refine A_one (i := 17) (by kernel_rfl) rfl (fun hs196 => ?_)
                  · refine S_storeb 3 (l' := [_, _]) rfl rfl rfl T.sz71 rfl rfl rfl rfl ?_
                    refine A_left hs196 (fun _ hw => hw.toPre.weak (Imm.le_refl _) (sub_drop 4 rfl)) ?_
                    refine A_end (by kernel_rfl) ?_
                    refine NX_cut ((b190, b192, b188, b154)) (trivial) [1, 2, 3, 4, 5, 6, 7] rfl (perm_take 1 rfl (perm_take 0 rfl (perm_take 0 rfl (perm_take 0 rfl (perm_take 0 rfl (List.Perm.refl _)))))) rfl
        · refine S_alloc (l := [_, _]) T.ze71 rfl rfl (fun b197 => ?_)
          refine A_left hs189 (fun _ hw => hw.toPre.weak (Imm.le_refl _) (sub_drop 3 rfl)) ?_
          refine A_one (i := 10) (by kernel_rfl) rfl (fun hs198 => ?_)
          · refine S_alloc (l := [_, _]) T.ze71 rfl rfl (fun b199 => ?_)
            refine A_left hs198 (fun _ hw => hw.toPre.weak (Imm.le_refl _) (sub_drop 4 rfl)) ?_
            refine A_one (i := 14) (by kernel_rfl) rfl (fun hs200 => ?_)
            · refine S_storeb 0 (l' := [_, _]) rfl rfl rfl T.sz71 rfl rfl rfl rfl ?_
              refine A_left hs200 (fun _ hw => hw.toPre.weak (Imm.le_refl _) (sub_drop 4 rfl)) ?_
              refine A_one (i := 15) (by kernel_rfl) rfl (fun hs201 => ?_)
              · refine S_storeb 1 (l' := [_, _]) rfl rfl rfl T.sz71 rfl rfl rfl rfl ?_
                refine A_left hs201 (fun _ hw => hw.toPre.weak (Imm.le_refl _) (sub_drop 4 rfl)) ?_
                refine A_one (i := 16) (by kernel_rfl) rfl (fun hs202 => ?_)
                · refine S_storeb 2 (l' := [_, _]) rfl rfl rfl T.sz71 rfl rfl rfl rfl ?_
                  refine A_left hs202 (fun _ hw => hw.toPre.weak (Imm.le_refl _) (sub_drop 4 rfl)) ?_
                  refine A_one (i := 17) (by kernel_rfl) rfl (fun hs203 => ?_)
                  · refine S_storeb 3 (l' := [_, _]) rfl rfl rfl T.sz71 rfl rfl rfl rfl ?_
                    refine A_left hs203 (fun _ hw => hw.toPre.weak (Imm.le_refl _) (sub_drop 4 rfl)) ?_
                    refine A_end (by kernel_rfl) ?_
                    refine NX_cut ((b199, b197, b188, b154)) (trivial) [1, 2, 3, 4, 5, 6, 7] rfl (perm_take 0 rfl (perm_take 0 rfl (perm_take 0 rfl (perm_take 0 rfl (perm_take 0 rfl (List.Perm.refl _)))))) rfl
  · refine CW_seq ?_
    refine C_drawn [(0, true), (1, true), (2, true), (3, true), (4, true), (5, true), (6, true), (7, true)] (by kernel_rfl) rfl (by kernel_rfl) (by kernel_rfl) ?_
    refine D_q rfl (r_fieldb (o' := 2) rfl T.fo51_2 rfl) rfl ?_
    refine D_q rfl (r_loadb 4 rfl T.ag3 rfl rfl) rfl ?_
    refine D_q rfl (r_bin rfl rfl (bin_eql _ _ _ _)) rfl ?_
    refine D_q rfl (r_fieldb (o' := 1) rfl T.fo51_1 rfl) rfl ?_
    refine D_q rfl (r_loadb 4 rfl T.ag3 rfl rfl) rfl ?_
    refine D_q rfl (r_bin rfl rfl (bin_geq _ _ _ _)) rfl ?_
    refine D_q rfl (r_assign rfl) rfl ?_
    refine D_q rfl (r_assign rfl) rfl ?_
    refine D_end ?_
    refine NX_as (L' := [(1, _), (2, _), (3, _), (4, _), (5, _), (6, _), (7, _), (8, _), (9, _)]) [1, 2, 3, 4, 5, 6, 7, 8, 9] rfl ?_
    refine CW_seq ?_
    refine CW_seq ?_
    refine CW_region ?_
    refine W_q (r_fieldb (o' := 0) rfl T.fo51_0 rfl) rfl ?_
    refine W_q (r_loadb 4 rfl T.ag3 rfl rfl) rfl ?_
    refine W_nil ?_
    refine NX_as (L' := [(1, _), (2, _), (3, _), (4, _), (5, _), (6, _), (7, _), (8, _), (9, _), (27, _)]) [1, 2, 3, 4, 5, 6, 7, 8, 9, 27] rfl ?_
    refine CW_block ?_
    refine CW_seq ?_
    refine CW_region ?_
    refine W_q (r_bin rfl rfl (bin_eql _ _ _ _)) rfl ?_
    refine W_q (r_assign rfl) rfl ?_
    refine W_nil ?_
    refine NX_as (L' := [(1, _), (2, _), (3, _), (4, _), (5, _), (6, _), (7, _), (8, _), (9, _), (27, _), (28, _)]) [1, 2, 3, 4, 5, 6, 7, 8, 9, 27, 28] rfl ?_
    refine CW_condk rfl (fun h204 => ?_) (fun h204 => ?_)
    · (try simp only [decide_eq_true_eq, decide_eq_false_iff_not, beq_iff_eq, beq_eq_false_iff_ne, bne_iff_ne, bne_eq_false_iff_eq, Bool.not_eq_true', Bool.not_eq_false', Bool.not_eq_true, Bool.not_eq_false, ne_eq, Decidable.not_not] at h204)
      refine CW_seq ?_
      refine C_drawn [(0, true), (1, true), (2, true), (3, true), (4, true), (5, true), (6, true), (7, true), (8, true), (9, true)] (by kernel_rfl) rfl (by kernel_rfl) (by kernel_rfl) ?_
      refine D_q rfl (r_fieldb (o' := 5) rfl T.fo51_5 rfl) rfl ?_
      refine D_q rfl (r_loadb 4 rfl T.ag49 rfl rfl) rfl ?_
      refine D_q rfl (r_fieldb (o' := 1) rfl T.fo51_1 rfl) rfl ?_
      refine D_q rfl (r_loadb 4 rfl T.ag3 rfl rfl) rfl ?_
      refine D_quiet rfl (Cut_q _ _ (by assumption)) T.hb213 rfl rfl ?_
      refine D_q rfl (r_fieldb (o' := 5) rfl T.fo51_5 rfl) rfl ?_
      refine D_q rfl (r_loadb 4 rfl T.ag49 rfl rfl) rfl ?_
      refine D_q rfl (r_bin rfl rfl (bin_eql _ _ _ _)) rfl ?_
      refine D_q rfl (r_assign rfl) rfl ?_
      refine D_q rfl (r_assign rfl) rfl ?_
      refine D_end ?_
      refine NX_as (L' := [(2, _), (3, _)]) [2, 3] rfl ?_
      refine C_ret (RX_block (RX_then (RX_g2 rfl rfl rfl (takesΦ_mk (Sl.nil _ _ _) ?_))))
      simp [takesP, scalarKs, *]
    · (try simp only [decide_eq_true_eq, decide_eq_false_iff_not, beq_iff_eq, beq_eq_false_iff_ne, bne_iff_ne, bne_eq_false_iff_eq, Bool.not_eq_true', Bool.not_eq_false', Bool.not_eq_true, Bool.not_eq_false, ne_eq, Decidable.not_not] at h204)
      refine CW_seq ?_
      refine CW_seq ?_
      refine CW_region ?_
      refine W_q (r_bin rfl rfl (bin_eql _ _ _ _)) rfl ?_
      refine W_q (r_assign rfl) rfl ?_
      refine W_nil ?_
      refine NX_as (L' := [(1, _), (2, _), (3, _), (4, _), (5, _), (6, _), (7, _), (8, _), (9, _), (27, _), (38, _)]) [1, 2, 3, 4, 5, 6, 7, 8, 9, 27, 38] rfl ?_
      refine CW_condk rfl (fun h205 => ?_) (fun h205 => ?_)
      · (try simp only [decide_eq_true_eq, decide_eq_false_iff_not, beq_iff_eq, beq_eq_false_iff_ne, bne_iff_ne, bne_eq_false_iff_eq, Bool.not_eq_true', Bool.not_eq_false', Bool.not_eq_true, Bool.not_eq_false, ne_eq, Decidable.not_not] at h205)
        refine C_skip ?_
        refine NX_as (L' := [(1, _), (2, _), (3, _), (4, _), (5, _), (6, _), (7, _), (8, _), (9, _), (27, _), (38, _)]) [1, 2, 3, 4, 5, 6, 7, 8, 9, 27, 38] rfl ?_
        refine CW_cond_t rfl ?_
        refine CW_seq ?_
        refine C_drawn [(0, true), (1, true), (4, true), (5, true), (6, true), (2, false), (3, true), (7, true), (8, true)] (by kernel_rfl) rfl (by kernel_rfl) (by kernel_rfl) ?_
        refine D_q rfl (r_loadbk 0 (vs := [_, _]) rfl T.ag71 T.sz71 rfl rfl rfl) rfl ?_
        refine D_q rfl (r_loadbk 0 (vs := [_, _]) rfl T.ag71 T.sz71 rfl rfl rfl) rfl ?_
        refine D_q rfl (r_fieldb (o' := 5) rfl T.fo51_5 rfl) rfl ?_
        refine D_q rfl (r_loadb 4 rfl T.ag49 rfl rfl) rfl ?_
        refine D_q rfl (r_bin rfl rfl (bin_eql _ _ _ _)) rfl ?_
        refine D_f rfl (fun hs206 hc206 => ?_)
        refine S_lit (vs := [_, _]) (cs := [_, _, _, _]) Tryz.underlying113 T.sz71 T.ze71 rfl rfl rfl rfl rfl rfl (fun m207 ad207 le207 l207 => ?_)
        replace hO := rOp_mono _ _ _ _ le207 hO
        replace h90 := h90.mono rI_mono le207
        have h207 : Sl rPair 2 m207 (some ad207) 2 _ := Pairs_lit [(_, _), (_, _)] l207 (pairs_cons (by first | assumption | exact ⟨by omega, by omega⟩) (by first | assumption | exact ⟨by omega, by omega⟩) (pairs_cons (by first | assumption | exact ⟨by omega, by omega⟩) (by first | assumption | exact ⟨by omega, by omega⟩) pairs_nil))
        refine W_left hs206 hc206 (fun _ hw => hw.toPre.weak (le207) (List.Sublist.refl _)) ?_
        refine D_quiet rfl (kindrow_q _) T.hb214 rfl rfl ?_
        refine D_q rfl (r_assign rfl) rfl ?_
        refine D_q rfl (r_assign rfl) rfl ?_
        refine D_end ?_
        refine NX_as (L' := [(2, _), (3, _)]) [2, 3] rfl ?_
        refine C_ret (RX_block (RX_then (RX_g2 rfl rfl rfl (takesΦ_mk (h207) ?_))))
        simp [takesP, scalarKs, *]
      · (try simp only [decide_eq_true_eq, decide_eq_false_iff_not, beq_iff_eq, beq_eq_false_iff_ne, bne_iff_ne, bne_eq_false_iff_eq, Bool.not_eq_true', Bool.not_eq_false', Bool.not_eq_true, Bool.not_eq_false, ne_eq, Decidable.not_not] at h205)
        refine CW_seq ?_
        refine CW_region ?_
        refine W_q (r_bin rfl rfl (bin_eql _ _ _ _)) rfl ?_
        refine W_q (r_assign rfl) rfl ?_
        refine W_nil ?_
        refine NX_as (L' := [(1, _), (2, _), (3, _), (4, _), (5, _), (6, _), (7, _), (8, _), (9, _), (27, _), (38, _)]) [1, 2, 3, 4, 5, 6, 7, 8, 9, 27, 38] rfl ?_
        refine CW_condk rfl (fun h208 => ?_) (fun h208 => ?_)
        · (try simp only [decide_eq_true_eq, decide_eq_false_iff_not, beq_iff_eq, beq_eq_false_iff_ne, bne_iff_ne, bne_eq_false_iff_eq, Bool.not_eq_true', Bool.not_eq_false', Bool.not_eq_true, Bool.not_eq_false, ne_eq, Decidable.not_not] at h208)
          refine C_skip ?_
          refine NX_as (L' := [(1, _), (2, _), (3, _), (4, _), (5, _), (6, _), (7, _), (8, _), (9, _), (27, _), (38, _)]) [1, 2, 3, 4, 5, 6, 7, 8, 9, 27, 38] rfl ?_
          refine CW_cond_t rfl ?_
          refine CW_seq ?_
          refine C_drawn [(0, true), (1, true), (4, true), (5, true), (6, true), (2, false), (3, true), (7, true), (8, true)] (by kernel_rfl) rfl (by kernel_rfl) (by kernel_rfl) ?_
          refine D_q rfl (r_loadbk 0 (vs := [_, _]) rfl T.ag71 T.sz71 rfl rfl rfl) rfl ?_
          refine D_q rfl (r_loadbk 0 (vs := [_, _]) rfl T.ag71 T.sz71 rfl rfl rfl) rfl ?_
          refine D_q rfl (r_fieldb (o' := 5) rfl T.fo51_5 rfl) rfl ?_
          refine D_q rfl (r_loadb 4 rfl T.ag49 rfl rfl) rfl ?_
          refine D_q rfl (r_bin rfl rfl (bin_eql _ _ _ _)) rfl ?_
          refine D_f rfl (fun hs209 hc209 => ?_)
          refine S_lit (vs := [_, _]) (cs := [_, _, _, _]) Tryz.underlying113 T.sz71 T.ze71 rfl rfl rfl rfl rfl rfl (fun m210 ad210 le210 l210 => ?_)
          replace hO := rOp_mono _ _ _ _ le210 hO
          replace h90 := h90.mono rI_mono le210
          have h210 : Sl rPair 2 m210 (some ad210) 2 _ := Pairs_lit [(_, _), (_, _)] l210 (pairs_cons (by first | assumption | exact ⟨by omega, by omega⟩) (by first | assumption | exact ⟨by omega, by omega⟩) (pairs_cons (by first | assumption | exact ⟨by omega, by omega⟩) (by first | assumption | exact ⟨by omega, by omega⟩) pairs_nil))
          refine W_left hs209 hc209 (fun _ hw => hw.toPre.weak (le210) (List.Sublist.refl _)) ?_
          refine D_quiet rfl (kindrow_q _) T.hb214 rfl rfl ?_
          refine D_q rfl (r_assign rfl) rfl ?_
          refine D_q rfl (r_assign rfl) rfl ?_
          refine D_end ?_
          refine NX_as (L' := [(2, _), (3, _)]) [2, 3] rfl ?_
          refine C_ret (RX_block (RX_then (RX_g2 rfl rfl rfl (takesΦ_mk (h210) ?_))))
          simp [takesP, scalarKs, *]
        · (try simp only [decide_eq_true_eq, decide_eq_false_iff_not, beq_iff_eq, beq_eq_false_iff_ne, bne_iff_ne, bne_eq_false_iff_eq, Bool.not_eq_true', Bool.not_eq_false', Bool.not_eq_true, Bool.not_eq_false, ne_eq, Decidable.not_not] at h208)
          refine CW_seq ?_
          refine CW_region ?_
          refine W_q (r_bin rfl rfl (bin_eql _ _ _ _)) rfl ?_
          refine W_q (r_assign rfl) rfl ?_
          refine W_nil ?_
          refine NX_as (L' := [(1, _), (2, _), (3, _), (4, _), (5, _), (6, _), (7, _), (8, _), (9, _), (27, _), (38, _)]) [1, 2, 3, 4, 5, 6, 7, 8, 9, 27, 38] rfl ?_
          refine CW_condk rfl (fun h211 => ?_) (fun h211 => ?_)
          · (try simp only [decide_eq_true_eq, decide_eq_false_iff_not, beq_iff_eq, beq_eq_false_iff_ne, bne_iff_ne, bne_eq_false_iff_eq, Bool.not_eq_true', Bool.not_eq_false', Bool.not_eq_true, Bool.not_eq_false, ne_eq, Decidable.not_not] at h211)
            refine C_skip ?_
            refine NX_as (L' := [(1, _), (2, _), (3, _), (4, _), (5, _), (6, _), (7, _), (8, _), (9, _), (27, _), (38, _)]) [1, 2, 3, 4, 5, 6, 7, 8, 9, 27, 38] rfl ?_
            refine CW_cond_t rfl ?_
            refine CW_seq ?_
            refine C_drawn [(0, true), (1, true), (4, true), (5, true), (6, true), (2, false), (3, true), (7, true), (8, true)] (by kernel_rfl) rfl (by kernel_rfl) (by kernel_rfl) ?_
            refine D_q rfl (r_loadbk 0 (vs := [_, _]) rfl T.ag71 T.sz71 rfl rfl rfl) rfl ?_
            refine D_q rfl (r_loadbk 0 (vs := [_, _]) rfl T.ag71 T.sz71 rfl rfl rfl) rfl ?_
            refine D_q rfl (r_fieldb (o' := 5) rfl T.fo51_5 rfl) rfl ?_
            refine D_q rfl (r_loadb 4 rfl T.ag49 rfl rfl) rfl ?_
            refine D_q rfl (r_bin rfl rfl (bin_eql _ _ _ _)) rfl ?_
            refine D_f rfl (fun hs212 hc212 => ?_)
            refine S_lit (vs := [_, _]) (cs := [_, _, _, _]) Tryz.underlying113 T.sz71 T.ze71 rfl rfl rfl rfl rfl rfl (fun m213 ad213 le213 l213 => ?_)
            replace hO := rOp_mono _ _ _ _ le213 hO
            replace h90 := h90.mono rI_mono le213
            have h213 : Sl rPair 2 m213 (some ad213) 2 _ := Pairs_lit [(_, _), (_, _)] l213 (pairs_cons (by first | assumption | exact ⟨by omega, by omega⟩) (by first | assumption | exact ⟨by omega, by omega⟩) (pairs_cons (by first | assumption | exact ⟨by omega, by omega⟩) (by first | assumption | exact ⟨by omega, by omega⟩) pairs_nil))
            refine W_left hs212 hc212 (fun _ hw => hw.toPre.weak (le213) (List.Sublist.refl _)) ?_
            refine D_quiet rfl (kindrow_q _) T.hb214 rfl rfl ?_
            refine D_q rfl (r_assign rfl) rfl ?_
            refine D_q rfl (r_assign rfl) rfl ?_
            refine D_end ?_
            refine NX_as (L' := [(2, _), (3, _)]) [2, 3] rfl ?_
            refine C_ret (RX_block (RX_then (RX_g2 rfl rfl rfl (takesΦ_mk (h213) ?_))))
            simp [takesP, scalarKs, *]
          · (try simp only [decide_eq_true_eq, decide_eq_false_iff_not, beq_iff_eq, beq_eq_false_iff_ne, bne_iff_ne, bne_eq_false_iff_eq, Bool.not_eq_true', Bool.not_eq_false', Bool.not_eq_true, Bool.not_eq_false, ne_eq, Decidable.not_not] at h211)
            refine CW_seq ?_
            refine CW_region ?_
            refine W_q (r_bin rfl rfl (bin_eql _ _ _ _)) rfl ?_
            refine W_q (r_assign rfl) rfl ?_
            refine W_nil ?_
            refine NX_as (L' := [(1, _), (2, _), (3, _), (4, _), (5, _), (6, _), (7, _), (8, _), (9, _), (27, _), (38, _)]) [1, 2, 3, 4, 5, 6, 7, 8, 9, 27, 38] rfl ?_
            refine CW_condk rfl (fun h214 => ?_) (fun h214 => ?_)
            · (try simp only [decide_eq_true_eq, decide_eq_false_iff_not, beq_iff_eq, beq_eq_false_iff_ne, bne_iff_ne, bne_eq_false_iff_eq, Bool.not_eq_true', Bool.not_eq_false', Bool.not_eq_true, Bool.not_eq_false, ne_eq, Decidable.not_not] at h214)
              refine C_skip ?_
              refine NX_as (L' := [(1, _), (2, _), (3, _), (4, _), (5, _), (6, _), (7, _), (8, _), (9, _), (27, _), (38, _)]) [1, 2, 3, 4, 5, 6, 7, 8, 9, 27, 38] rfl ?_
              refine CW_cond_t rfl ?_
              refine CW_seq ?_
              refine C_drawn [(0, true), (1, true), (4, true), (5, true), (6, true), (2, false), (3, true), (7, true), (8, true)] (by kernel_rfl) rfl (by kernel_rfl) (by kernel_rfl) ?_
              refine D_q rfl (r_loadbk 0 (vs := [_, _]) rfl T.ag71 T.sz71 rfl rfl rfl) rfl ?_
              refine D_q rfl (r_loadbk 0 (vs := [_, _]) rfl T.ag71 T.sz71 rfl rfl rfl) rfl ?_
              refine D_q rfl (r_fieldb (o' := 5) rfl T.fo51_5 rfl) rfl ?_
              refine D_q rfl (r_loadb 4 rfl T.ag49 rfl rfl) rfl ?_
              refine D_q rfl (r_bin rfl rfl (bin_eql _ _ _ _)) rfl ?_
              refine D_f rfl (fun hs215 hc215 => ?_)
              refine S_lit (vs := [_, _]) (cs := [_, _, _, _]) Tryz.underlying113 T.sz71 T.ze71 rfl rfl rfl rfl rfl rfl (fun m216 ad216 le216 l216 => ?_)
              replace hO := rOp_mono _ _ _ _ le216 hO
              replace h90 := h90.mono rI_mono le216
              have h216 : Sl rPair 2 m216 (some ad216) 2 _ := Pairs_lit [(_, _), (_, _)] l216 (pairs_cons (by first | assumption | exact ⟨by omega, by omega⟩) (by first | assumption | exact ⟨by omega, by omega⟩) (pairs_cons (by first | assumption | exact ⟨by omega, by omega⟩) (by first | assumption | exact ⟨by omega, by omega⟩) pairs_nil))
              refine W_left hs215 hc215 (fun _ hw => hw.toPre.weak (le216) (List.Sublist.refl _)) ?_
              refine D_quiet rfl (kindrow_q _) T.hb214 rfl rfl ?_
              refine D_q rfl (r_assign rfl) rfl ?_
              refine D_q rfl (r_assign rfl) rfl ?_
              refine D_end ?_
              refine NX_as (L' := [(2, _), (3, _)]) [2, 3] rfl ?_
              refine C_ret (RX_block (RX_then (RX_g2 rfl rfl rfl (takesΦ_mk (h216) ?_))))
              simp [takesP, scalarKs, *]
            · (try simp only [decide_eq_true_eq, decide_eq_false_iff_not, beq_iff_eq, beq_eq_false_iff_ne, bne_iff_ne, bne_eq_false_iff_eq, Bool.not_eq_true', Bool.not_eq_false', Bool.not_eq_true, Bool.not_eq_false, ne_eq, Decidable.not_not] at h214)
              refine CW_seq ?_
              refine CW_region ?_
              refine W_q (r_bin rfl rfl (bin_eql _ _ _ _)) rfl ?_
              refine W_q (r_assign rfl) rfl ?_
              refine W_nil ?_
              refine NX_as (L' := [(1, _), (2, _), (3, _), (4, _), (5, _), (6, _), (7, _), (8, _), (9, _), (27, _), (38, _)]) [1, 2, 3, 4, 5, 6, 7, 8, 9, 27, 38] rfl ?_
              refine CW_condk rfl (fun h217 => ?_) (fun h217 => ?_)
              · (try simp only [decide_eq_true_eq, decide_eq_false_iff_not, beq_iff_eq, beq_eq_false_iff_ne, bne_iff_ne, bne_eq_false_iff_eq, Bool.not_eq_true', Bool.not_eq_false', Bool.not_eq_true, Bool.not_eq_false, ne_eq, Decidable.not_not] at h217)
                refine C_skip ?_
                refine NX_as (L' := [(1, _), (2, _), (3, _), (4, _), (5, _), (6, _), (7, _), (8, _), (9, _), (27, _), (38, _)]) [1, 2, 3, 4, 5, 6, 7, 8, 9, 27, 38] rfl ?_
                refine CW_cond_t rfl ?_
                refine CW_seq ?_
                refine C_drawn [(0, true), (1, true), (4, true), (5, true), (6, true), (2, false), (3, true), (7, true), (8, true)] (by kernel_rfl) rfl (by kernel_rfl) (by kernel_rfl) ?_
                refine D_q rfl (r_loadbk 0 (vs := [_, _]) rfl T.ag71 T.sz71 rfl rfl rfl) rfl ?_
                refine D_q rfl (r_loadbk 0 (vs := [_, _]) rfl T.ag71 T.sz71 rfl rfl rfl) rfl ?_
                refine D_q rfl (r_fieldb (o' := 5) rfl T.fo51_5 rfl) rfl ?_
                refine D_q rfl (r_loadb 4 rfl T.ag49 rfl rfl) rfl ?_
                refine D_q rfl (r_bin rfl rfl (bin_eql _ _ _ _)) rfl ?_
                refine D_f rfl (fun hs218 hc218 => ?_)
                refine S_lit (vs := [_, _]) (cs := [_, _, _, _]) Tryz.underlying113 T.sz71 T.ze71 rfl rfl rfl rfl rfl rfl (fun m219 ad219 le219 l219 => ?_)
                replace hO := rOp_mono _ _ _ _ le219 hO
                replace h90 := h90.mono rI_mono le219
                have h219 : Sl rPair 2 m219 (some ad219) 2 _ := Pairs_lit [(_, _), (_, _)] l219 (pairs_cons (by first | assumption | exact ⟨by omega, by omega⟩) (by first | assumption | exact ⟨by omega, by omega⟩) (pairs_cons (by first | assumption | exact ⟨by omega, by omega⟩) (by first | assumption | exact ⟨by omega, by omega⟩) pairs_nil))
                refine W_left hs218 hc218 (fun _ hw => hw.toPre.weak (le219) (List.Sublist.refl _)) ?_
                refine D_quiet rfl (kindrow_q _) T.hb214 rfl rfl ?_
                refine D_q rfl (r_assign rfl) rfl ?_
                refine D_q rfl (r_assign rfl) rfl ?_
                refine D_end ?_
                refine NX_as (L' := [(2, _), (3, _)]) [2, 3] rfl ?_
                refine C_ret (RX_block (RX_then (RX_g2 rfl rfl rfl (takesΦ_mk (h219) ?_))))
                simp [takesP, scalarKs, *]
              · (try simp only [decide_eq_true_eq, decide_eq_false_iff_not, beq_iff_eq, beq_eq_false_iff_ne, bne_iff_ne, bne_eq_false_iff_eq, Bool.not_eq_true', Bool.not_eq_false', Bool.not_eq_true, Bool.not_eq_false, ne_eq, Decidable.not_not] at h217)
                refine CW_seq ?_
                refine CW_region ?_
                refine W_q (r_bin rfl rfl (bin_eql _ _ _ _)) rfl ?_
                refine W_q (r_assign rfl) rfl ?_
                refine W_nil ?_
                refine NX_as (L' := [(1, _), (2, _), (3, _), (4, _), (5, _), (6, _), (7, _), (8, _), (9, _), (27, _), (38, _)]) [1, 2, 3, 4, 5, 6, 7, 8, 9, 27, 38] rfl ?_
                refine CW_condk rfl (fun h220 => ?_) (fun h220 => ?_)
                · (try simp only [decide_eq_true_eq, decide_eq_false_iff_not, beq_iff_eq, beq_eq_false_iff_ne, bne_iff_ne, bne_eq_false_iff_eq, Bool.not_eq_true', Bool.not_eq_false', Bool.not_eq_true, Bool.not_eq_false, ne_eq, Decidable.not_not] at h220)
                  refine C_skip ?_
                  refine NX_as (L' := [(1, _), (2, _), (3, _), (4, _), (5, _), (6, _), (7, _), (8, _), (9, _), (27, _), (38, _)]) [1, 2, 3, 4, 5, 6, 7, 8, 9, 27, 38] rfl ?_
                  refine CW_cond_t rfl ?_
                  refine CW_seq ?_
                  refine C_drawn [(0, true), (1, true), (4, true), (5, true), (6, true), (2, false), (3, true), (7, true), (8, true)] (by kernel_rfl) rfl (by kernel_rfl) (by kernel_rfl) ?_
                  refine D_q rfl (r_loadbk 0 (vs := [_, _]) rfl T.ag71 T.sz71 rfl rfl rfl) rfl ?_
                  refine D_q rfl (r_loadbk 0 (vs := [_, _]) rfl T.ag71 T.sz71 rfl rfl rfl) rfl ?_
                  refine D_q rfl (r_fieldb (o' := 5) rfl T.fo51_5 rfl) rfl ?_
                  refine D_q rfl (r_loadb 4 rfl T.ag49 rfl rfl) rfl ?_
                  refine D_q rfl (r_bin rfl rfl (bin_eql _ _ _ _)) rfl ?_
                  refine D_f rfl (fun hs221 hc221 => ?_)
                  refine S_lit (vs := [_, _]) (cs := [_, _, _, _]) Tryz.underlying113 T.sz71 T.ze71 rfl rfl rfl rfl rfl rfl (fun m222 ad222 le222 l222 => ?_)
                  replace hO := rOp_mono _ _ _ _ le222 hO
                  replace h90 := h90.mono rI_mono le222
                  have h222 : Sl rPair 2 m222 (some ad222) 2 _ := Pairs_lit [(_, _), (_, _)] l222 (pairs_cons (by first | assumption | exact ⟨by omega, by omega⟩) (by first | assumption | exact ⟨by omega, by omega⟩) (pairs_cons (by first | assumption | exact ⟨by omega, by omega⟩) (by first | assumption | exact ⟨by omega, by omega⟩) pairs_nil))
                  refine W_left hs221 hc221 (fun _ hw => hw.toPre.weak (le222) (List.Sublist.refl _)) ?_
                  refine D_quiet rfl (kindrow_q _) T.hb214 rfl rfl ?_
                  refine D_q rfl (r_assign rfl) rfl ?_
                  refine D_q rfl (r_assign rfl) rfl ?_
                  refine D_end ?_
                  refine NX_as (L' := [(2, _), (3, _)]) [2, 3] rfl ?_
                  refine C_ret (RX_block (RX_then (RX_g2 rfl rfl rfl (takesΦ_mk (h222) ?_))))
                  simp [takesP, scalarKs, *]
                · (try simp only [decide_eq_true_eq, decide_eq_false_iff_not, beq_iff_eq, beq_eq_false_iff_ne, bne_iff_ne, bne_eq_false_iff_eq, Bool.not_eq_true', Bool.not_eq_false', Bool.not_eq_true, Bool.not_eq_false, ne_eq, Decidable.not_not] at h220)
                  refine CW_seq ?_
                  refine CW_region ?_
                  refine W_q (r_bin rfl rfl (bin_eql _ _ _ _)) rfl ?_
                  refine W_q (r_assign rfl) rfl ?_
                  refine W_nil ?_
                  refine NX_as (L' := [(1, _), (2, _), (3, _), (4, _), (5, _), (6, _), (7, _), (8, _), (9, _), (27, _), (38, _)]) [1, 2, 3, 4, 5, 6, 7, 8, 9, 27, 38] rfl ?_
                  refine CW_condk rfl (fun h223 => ?_) (fun h223 => ?_)
                  · (try simp only [decide_eq_true_eq, decide_eq_false_iff_not, beq_iff_eq, beq_eq_false_iff_ne, bne_iff_ne, bne_eq_false_iff_eq, Bool.not_eq_true', Bool.not_eq_false', Bool.not_eq_true, Bool.not_eq_false, ne_eq, Decidable.not_not] at h223)
                    refine C_skip ?_
                    refine NX_as (L' := [(1, _), (2, _), (3, _), (4, _), (5, _), (6, _), (7, _), (8, _), (9, _), (27, _), (38, _)]) [1, 2, 3, 4, 5, 6, 7, 8, 9, 27, 38] rfl ?_
                    refine CW_cond_t rfl ?_
                    refine CW_seq ?_
                    refine C_drawn [(0, true), (1, true), (4, true), (5, true), (6, true), (2, false), (3, true), (7, true), (8, true)] (by kernel_rfl) rfl (by kernel_rfl) (by kernel_rfl) ?_
                    refine D_q rfl (r_loadbk 0 (vs := [_, _]) rfl T.ag71 T.sz71 rfl rfl rfl) rfl ?_
                    refine D_q rfl (r_loadbk 0 (vs := [_, _]) rfl T.ag71 T.sz71 rfl rfl rfl) rfl ?_
                    refine D_q rfl (r_fieldb (o' := 5) rfl T.fo51_5 rfl) rfl ?_
                    refine D_q rfl (r_loadb 4 rfl T.ag49 rfl rfl) rfl ?_
                    refine D_q rfl (r_bin rfl rfl (bin_eql _ _ _ _)) rfl ?_
                    refine D_f rfl (fun hs224 hc224 => ?_)
                    refine S_lit (vs := [_, _]) (cs := [_, _, _, _]) Tryz.underlying113 T.sz71 T.ze71 rfl rfl rfl rfl rfl rfl (fun m225 ad225 le225 l225 => ?_)
                    replace hO := rOp_mono _ _ _ _ le225 hO
                    replace h90 := h90.mono rI_mono le225
                    have h225 : Sl rPair 2 m225 (some ad225) 2 _ := Pairs_lit [(_, _), (_, _)] l225 (pairs_cons (by first | assumption | exact ⟨by omega, by omega⟩) (by first | assumption | exact ⟨by omega, by omega⟩) (pairs_cons (by first | assumption | exact ⟨by omega, by omega⟩) (by first | assumption | exact ⟨by omega, by omega⟩) pairs_nil))
                    refine W_left hs224 hc224 (fun _ hw => hw.toPre.weak (le225) (List.Sublist.refl _)) ?_
                    refine D_quiet rfl (kindrow_q _) T.hb214 rfl rfl ?_
                    refine D_q rfl (r_assign rfl) rfl ?_
                    refine D_q rfl (r_assign rfl) rfl ?_
                    refine D_end ?_
                    refine NX_as (L' := [(2, _), (3, _)]) [2, 3] rfl ?_
                    refine C_ret (RX_block (RX_then (RX_g2 rfl rfl rfl (takesΦ_mk (h225) ?_))))
                    simp [takesP, scalarKs, *]
                  · (try simp only [decide_eq_true_eq, decide_eq_false_iff_not, beq_iff_eq, beq_eq_false_iff_ne, bne_iff_ne, bne_eq_false_iff_eq, Bool.not_eq_true', Bool.not_eq_false', Bool.not_eq_true, Bool.not_eq_false, ne_eq, Decidable.not_not] at h223)
                    refine CW_region ?_
                    refine W_q (r_bin rfl rfl (bin_eql _ _ _ _)) rfl ?_
                    refine W_q (r_assign rfl) rfl ?_
                    refine W_nil ?_
                    refine NX_as (L' := [(1, _), (2, _), (3, _), (4, _), (5, _), (6, _), (7, _), (8, _), (9, _), (27, _), (38, _)]) [1, 2, 3, 4, 5, 6, 7, 8, 9, 27, 38] rfl ?_
                    refine CW_condk rfl (fun h226 => ?_) (fun h226 => ?_)
                    · (try simp only [decide_eq_true_eq, decide_eq_false_iff_not, beq_iff_eq, beq_eq_false_iff_ne, bne_iff_ne, bne_eq_false_iff_eq, Bool.not_eq_true', Bool.not_eq_false', Bool.not_eq_true, Bool.not_eq_false, ne_eq, Decidable.not_not] at h226)
                      refine CW_seq ?_
                      refine C_drawn [(0, true), (1, true), (4, true), (5, true), (6, true), (2, false), (3, true), (7, true), (8, true)] (by kernel_rfl) rfl (by kernel_rfl) (by kernel_rfl) ?_
                      refine D_q rfl (r_loadbk 0 (vs := [_, _]) rfl T.ag71 T.sz71 rfl rfl rfl) rfl ?_
                      refine D_q rfl (r_loadbk 0 (vs := [_, _]) rfl T.ag71 T.sz71 rfl rfl rfl) rfl ?_
                      refine D_q rfl (r_fieldb (o' := 5) rfl T.fo51_5 rfl) rfl ?_
                      refine D_q rfl (r_loadb 4 rfl T.ag49 rfl rfl) rfl ?_
                      refine D_q rfl (r_bin rfl rfl (bin_eql _ _ _ _)) rfl ?_
                      refine D_f rfl (fun hs227 hc227 => ?_)
                      refine S_lit (vs := [_, _]) (cs := [_, _, _, _]) Tryz.underlying113 T.sz71 T.ze71 rfl rfl rfl rfl rfl rfl (fun m228 ad228 le228 l228 => ?_)
                      replace hO := rOp_mono _ _ _ _ le228 hO
                      replace h90 := h90.mono rI_mono le228
                      have h228 : Sl rPair 2 m228 (some ad228) 2 _ := Pairs_lit [(_, _), (_, _)] l228 (pairs_cons (by first | assumption | exact ⟨by omega, by omega⟩) (by first | assumption | exact ⟨by omega, by omega⟩) (pairs_cons (by first | assumption | exact ⟨by omega, by omega⟩) (by first | assumption | exact ⟨by omega, by omega⟩) pairs_nil))
                      refine W_left hs227 hc227 (fun _ hw => hw.toPre.weak (le228) (List.Sublist.refl _)) ?_
                      refine D_quiet rfl (kindrow_q _) T.hb214 rfl rfl ?_
                      refine D_q rfl (r_assign rfl) rfl ?_
                      refine D_q rfl (r_assign rfl) rfl ?_
                      refine D_end ?_
                      refine NX_as (L' := [(2, _), (3, _)]) [2, 3] rfl ?_
                      refine C_ret (RX_block (RX_then (RX_g2 rfl rfl rfl (takesΦ_mk (h228) ?_))))
                      simp [takesP, scalarKs, *]
                    · (try simp only [decide_eq_true_eq, decide_eq_false_iff_not, beq_iff_eq, beq_eq_false_iff_ne, bne_iff_ne, bne_eq_false_iff_eq, Bool.not_eq_true', Bool.not_eq_false', Bool.not_eq_true, Bool.not_eq_false, ne_eq, Decidable.not_not] at h226)
                      refine CW_seq ?_
                      refine CW_seq ?_
                      refine CW_region ?_
                      refine W_q (r_bin rfl rfl (bin_eql _ _ _ _)) rfl ?_
                      refine W_q (r_assign rfl) rfl ?_
                      refine W_nil ?_
                      refine NX_as (L' := [(1, _), (2, _), (3, _), (4, _), (5, _), (6, _), (7, _), (8, _), (9, _), (27, _), (54, _)]) [1, 2, 3, 4, 5, 6, 7, 8, 9, 27, 54] rfl ?_
                      refine CW_condk rfl (fun h229 => ?_) (fun h229 => ?_)
                      · (try simp only [decide_eq_true_eq, decide_eq_false_iff_not, beq_iff_eq, beq_eq_false_iff_ne, bne_iff_ne, bne_eq_false_iff_eq, Bool.not_eq_true', Bool.not_eq_false', Bool.not_eq_true, Bool.not_eq_false, ne_eq, Decidable.not_not] at h229)
                        refine C_skip ?_
                        refine NX_as (L' := [(1, _), (2, _), (3, _), (4, _), (5, _), (6, _), (7, _), (8, _), (9, _), (27, _), (54, _)]) [1, 2, 3, 4, 5, 6, 7, 8, 9, 27, 54] rfl ?_
                        refine CW_cond_t rfl ?_
                        refine CW_seq ?_
                        refine C_drawn [(0, true), (1, true), (4, true), (5, true), (6, true), (2, false), (3, true), (7, true), (8, true), (9, true), (10, true), (11, true)] (by kernel_rfl) rfl (by kernel_rfl) (by kernel_rfl) ?_
                        refine D_q rfl (r_loadbk 0 (vs := [_, _]) rfl T.ag71 T.sz71 rfl rfl rfl) rfl ?_
                        refine D_q rfl (r_loadbk 0 (vs := [_, _]) rfl T.ag71 T.sz71 rfl rfl rfl) rfl ?_
                        refine D_q rfl (r_fieldb (o' := 5) rfl T.fo51_5 rfl) rfl ?_
                        refine D_q rfl (r_loadb 4 rfl T.ag49 rfl rfl) rfl ?_
                        refine D_q rfl (r_bin rfl rfl (bin_eql _ _ _ _)) rfl ?_
                        refine D_f rfl (fun hs230 hc230 => ?_)
                        refine S_lit (vs := [_, _]) (cs := [_, _, _, _]) Tryz.underlying113 T.sz71 T.ze71 rfl rfl rfl rfl rfl rfl (fun m231 ad231 le231 l231 => ?_)
                        replace hO := rOp_mono _ _ _ _ le231 hO
                        replace h90 := h90.mono rI_mono le231
                        have h231 : Sl rPair 2 m231 (some ad231) 2 _ := Pairs_lit [(_, _), (_, _)] l231 (pairs_cons (by first | assumption | exact ⟨by omega, by omega⟩) (by first | assumption | exact ⟨by omega, by omega⟩) (pairs_cons (by first | assumption | exact ⟨by omega, by omega⟩) (by first | assumption | exact ⟨by omega, by omega⟩) pairs_nil))
                        refine W_left hs230 hc230 (fun _ hw => hw.toPre.weak (le231) (List.Sublist.refl _)) ?_
                        refine D_quiet rfl (kindrow_q _) T.hb214 rfl rfl ?_
                        refine D_q rfl (r_move rfl) rfl ?_
                        refine D_split (t := 66) rfl (fun h232 => ?_) (fun h232 => ?_)
                        · (try simp only [decide_eq_true_eq, decide_eq_false_iff_not, beq_iff_eq, beq_eq_false_iff_ne, bne_iff_ne, bne_eq_false_iff_eq, Bool.not_eq_true', Bool.not_eq_false', Bool.not_eq_true, Bool.not_eq_false, ne_eq, Decidable.not_not] at h232)
                          refine D_qt rfl rfl rfl (r_move rfl) rfl ?_
                          refine D_q rfl (r_pick_t rfl rfl) rfl ?_
                          refine D_q rfl (r_assign rfl) rfl ?_
                          refine D_q rfl (r_assign rfl) rfl ?_
                          refine D_end ?_
                          refine NX_as (L' := [(2, _), (3, _)]) [2, 3] rfl ?_
                          refine C_ret (RX_block (RX_then (RX_g2 rfl rfl rfl (takesΦ_mk (h231) ?_))))
                          simp [takesP, scalarKs, *]
                        · (try simp only [decide_eq_true_eq, decide_eq_false_iff_not, beq_iff_eq, beq_eq_false_iff_ne, bne_iff_ne, bne_eq_false_iff_eq, Bool.not_eq_true', Bool.not_eq_false', Bool.not_eq_true, Bool.not_eq_false, ne_eq, Decidable.not_not] at h232)
                          refine D_pass rfl rfl rfl rfl rfl ?_
                          refine D_q rfl (r_pick_f rfl rfl) rfl ?_
                          refine D_q rfl (r_assign rfl) rfl ?_
                          refine D_q rfl (r_assign rfl) rfl ?_
                          refine D_end ?_
                          refine NX_as (L' := [(2, _), (3, _)]) [2, 3] rfl ?_
                          refine C_ret (RX_block (RX_then (RX_g2 rfl rfl rfl (takesΦ_mk (h231) ?_))))
                          simp [takesP, scalarKs, *]
                      · (try simp only [decide_eq_true_eq, decide_eq_false_iff_not, beq_iff_eq, beq_eq_false_iff_ne, bne_iff_ne, bne_eq_false_iff_eq, Bool.not_eq_true', Bool.not_eq_false', Bool.not_eq_true, Bool.not_eq_false, ne_eq, Decidable.not_not] at h229)
                        refine CW_seq ?_
                        refine CW_region ?_
                        refine W_q (r_bin rfl rfl (bin_eql _ _ _ _)) rfl ?_
                        refine W_q (r_assign rfl) rfl ?_
                        refine W_nil ?_
                        refine NX_as (L' := [(1, _), (2, _), (3, _), (4, _), (5, _), (6, _), (7, _), (8, _), (9, _), (27, _), (54, _)]) [1, 2, 3, 4, 5, 6, 7, 8, 9, 27, 54] rfl ?_
                        refine CW_condk rfl (fun h233 => ?_) (fun h233 => ?_)
                        · (try simp only [decide_eq_true_eq, decide_eq_false_iff_not, beq_iff_eq, beq_eq_false_iff_ne, bne_iff_ne, bne_eq_false_iff_eq, Bool.not_eq_true', Bool.not_eq_false', Bool.not_eq_true, Bool.not_eq_false, ne_eq, Decidable.not_not] at h233)
                          refine C_skip ?_
                          refine NX_as (L' := [(1, _), (2, _), (3, _), (4, _), (5, _), (6, _), (7, _), (8, _), (9, _), (27, _), (54, _)]) [1, 2, 3, 4, 5, 6, 7, 8, 9, 27, 54] rfl ?_
                          refine CW_cond_t rfl ?_
                          refine CW_seq ?_
                          refine C_drawn [(0, true), (1, true), (4, true), (5, true), (6, true), (2, false), (3, true), (7, true), (8, true), (9, true), (10, true), (11, true)] (by kernel_rfl) rfl (by kernel_rfl) (by kernel_rfl) ?_
                          refine D_q rfl (r_loadbk 0 (vs := [_, _]) rfl T.ag71 T.sz71 rfl rfl rfl) rfl ?_
                          refine D_q rfl (r_loadbk 0 (vs := [_, _]) rfl T.ag71 T.sz71 rfl rfl rfl) rfl ?_
                          refine D_q rfl (r_fieldb (o' := 5) rfl T.fo51_5 rfl) rfl ?_
                          refine D_q rfl (r_loadb 4 rfl T.ag49 rfl rfl) rfl ?_
                          refine D_q rfl (r_bin rfl rfl (bin_eql _ _ _ _)) rfl ?_
                          refine D_f rfl (fun hs234 hc234 => ?_)
                          refine S_lit (vs := [_, _]) (cs := [_, _, _, _]) Tryz.underlying113 T.sz71 T.ze71 rfl rfl rfl rfl rfl rfl (fun m235 ad235 le235 l235 => ?_)
                          replace hO := rOp_mono _ _ _ _ le235 hO
                          replace h90 := h90.mono rI_mono le235
                          have h235 : Sl rPair 2 m235 (some ad235) 2 _ := Pairs_lit [(_, _), (_, _)] l235 (pairs_cons (by first | assumption | exact ⟨by omega, by omega⟩) (by first | assumption | exact ⟨by omega, by omega⟩) (pairs_cons (by first | assumption | exact ⟨by omega, by omega⟩) (by first | assumption | exact ⟨by omega, by omega⟩) pairs_nil))
                          refine W_left hs234 hc234 (fun _ hw => hw.toPre.weak (le235) (List.Sublist.refl _)) ?_
                          refine D_quiet rfl (kindrow_q _) T.hb214 rfl rfl ?_
                          refine D_q rfl (r_move rfl) rfl ?_
                          refine D_split (t := 66) rfl (fun h236 => ?_) (fun h236 => ?_)
                          · (try simp only [decide_eq_true_eq, decide_eq_false_iff_not, beq_iff_eq, beq_eq_false_iff_ne, bne_iff_ne, bne_eq_false_iff_eq, Bool.not_eq_true', Bool.not_eq_false', Bool.not_eq_true, Bool.not_eq_false, ne_eq, Decidable.not_not] at h236)
                            refine D_qt rfl rfl rfl (r_move rfl) rfl ?_
                            refine D_q rfl (r_pick_t rfl rfl) rfl ?_
                            refine D_q rfl (r_assign rfl) rfl ?_
                            refine D_q rfl (r_assign rfl) rfl ?_
                            refine D_end ?_
                            refine NX_as (L' := [(2, _), (3, _)]) [2, 3] rfl ?_
                            refine C_ret (RX_block (RX_then (RX_g2 rfl rfl rfl (takesΦ_mk (h235) ?_))))
                            simp [takesP, scalarKs, *]
                          · (try simp only [decide_eq_true_eq, decide_eq_false_iff_not, beq_iff_eq, beq_eq_false_iff_ne, bne_iff_ne, bne_eq_false_iff_eq, Bool.not_eq_true', Bool.not_eq_false', Bool.not_eq_true, Bool.not_eq_false, ne_eq, Decidable.not_not] at h236)
                            refine D_pass rfl rfl rfl rfl rfl ?_
                            refine D_q rfl (r_pick_f rfl rfl) rfl ?_
                            refine D_q rfl (r_assign rfl) rfl ?_
                            refine D_q rfl (r_assign rfl) rfl ?_
                            refine D_end ?_
                            refine NX_as (L' := [(2, _), (3, _)]) [2, 3] rfl ?_
                            refine C_ret (RX_block (RX_then (RX_g2 rfl rfl rfl (takesΦ_mk (h235) ?_))))
                            simp [takesP, scalarKs, *]
                        · (try simp only [decide_eq_true_eq, decide_eq_false_iff_not, beq_iff_eq, beq_eq_false_iff_ne, bne_iff_ne, bne_eq_false_iff_eq, Bool.not_eq_true', Bool.not_eq_false', Bool.not_eq_true, Bool.not_eq_false, ne_eq, Decidable.not_not] at h233)
                          refine CW_seq ?_
                          refine CW_region ?_
                          refine W_q (r_bin rfl rfl (bin_eql _ _ _ _)) rfl ?_
                          refine W_q (r_assign rfl) rfl ?_
                          refine W_nil ?_
                          refine NX_as (L' := [(1, _), (2, _), (3, _), (4, _), (5, _), (6, _), (7, _), (8, _), (9, _), (27, _), (54, _)]) [1, 2, 3, 4, 5, 6, 7, 8, 9, 27, 54] rfl ?_
                          refine CW_condk rfl (fun h237 => ?_) (fun h237 => ?_)
                          · (try simp only [decide_eq_true_eq, decide_eq_false_iff_not, beq_iff_eq, beq_eq_false_iff_ne, bne_iff_ne, bne_eq_false_iff_eq, Bool.not_eq_true', Bool.not_eq_false', Bool.not_eq_true, Bool.not_eq_false, ne_eq, Decidable.not_not] at h237)
                            refine C_skip ?_
                            refine NX_as (L' := [(1, _), (2, _), (3, _), (4, _), (5, _), (6, _), (7, _), (8, _), (9, _), (27, _), (54, _)]) [1, 2, 3, 4, 5, 6, 7, 8, 9, 27, 54] rfl ?_
                            refine CW_cond_t rfl ?_
                            refine CW_seq ?_
                            refine C_drawn [(0, true), (1, true), (4, true), (5, true), (6, true), (2, false), (3, true), (7, true), (8, true), (9, true), (10, true), (11, true)] (by kernel_rfl) rfl (by kernel_rfl) (by kernel_rfl) ?_
                            refine D_q rfl (r_loadbk 0 (vs := [_, _]) rfl T.ag71 T.sz71 rfl rfl rfl) rfl ?_
                            refine D_q rfl (r_loadbk 0 (vs := [_, _]) rfl T.ag71 T.sz71 rfl rfl rfl) rfl ?_
                            refine D_q rfl (r_fieldb (o' := 5) rfl T.fo51_5 rfl) rfl ?_
                            refine D_q rfl (r_loadb 4 rfl T.ag49 rfl rfl) rfl ?_
                            refine D_q rfl (r_bin rfl rfl (bin_eql _ _ _ _)) rfl ?_
                            refine D_f rfl (fun hs238 hc238 => ?_)
                            refine S_lit (vs := [_, _]) (cs := [_, _, _, _]) Tryz.underlying113 T.sz71 T.ze71 rfl rfl rfl rfl rfl rfl (fun m239 ad239 le239 l239 => ?_)
                            replace hO := rOp_mono _ _ _ _ le239 hO
                            replace h90 := h90.mono rI_mono le239
                            have h239 : Sl rPair 2 m239 (some ad239) 2 _ := Pairs_lit [(_, _), (_, _)] l239 (pairs_cons (by first | assumption | exact ⟨by omega, by omega⟩) (by first | assumption | exact ⟨by omega, by omega⟩) (pairs_cons (by first | assumption | exact ⟨by omega, by omega⟩) (by first | assumption | exact ⟨by omega, by omega⟩) pairs_nil))
                            refine W_left hs238 hc238 (fun _ hw => hw.toPre.weak (le239) (List.Sublist.refl _)) ?_
                            refine D_quiet rfl (kindrow_q _) T.hb214 rfl rfl ?_
                            refine D_q rfl (r_move rfl) rfl ?_
                            refine D_split (t := 66) rfl (fun h240 => ?_) (fun h240 => ?_)
                            · (try simp only [decide_eq_true_eq, decide_eq_false_iff_not, beq_iff_eq, beq_eq_false_iff_ne, bne_iff_ne, bne_eq_false_iff_eq, Bool.not_eq_true', Bool.not_eq_false', Bool.not_eq_true, Bool.not_eq_false, ne_eq, Decidable.not_not] at h240)
                              refine D_qt rfl rfl rfl (r_move rfl) rfl ?_
                              refine D_q rfl (r_pick_t rfl rfl) rfl ?_
                              refine D_q rfl (r_assign rfl) rfl ?_
                              refine D_q rfl (r_assign rfl) rfl ?_
                              refine D_end ?_
                              refine NX_as (L' := [(2, _), (3, _)]) [2, 3] rfl ?_
                              refine C_ret (RX_block (RX_then (RX_g2 rfl rfl rfl (takesΦ_mk (h239) ?_))))
                              simp [takesP, scalarKs, *]
                            · (try simp only [decide_eq_true_eq, decide_eq_false_iff_not, beq_iff_eq, beq_eq_false_iff_ne, bne_iff_ne, bne_eq_false_iff_eq, Bool.not_eq_true', Bool.not_eq_false', Bool.not_eq_true, Bool.not_eq_false, ne_eq, Decidable.not_not] at h240)
                              refine D_pass rfl rfl rfl rfl rfl ?_
                              refine D_q rfl (r_pick_f rfl rfl) rfl ?_
                              refine D_q rfl (r_assign rfl) rfl ?_
                              refine D_q rfl (r_assign rfl) rfl ?_
                              refine D_end ?_
                              refine NX_as (L' := [(2, _), (3, _)]) [2, 3] rfl ?_
                              refine C_ret (RX_block (RX_then (RX_g2 rfl rfl rfl (takesΦ_mk (h239) ?_))))
                              simp [takesP, scalarKs, *]
                          · (try simp only [decide_eq_true_eq, decide_eq_false_iff_not, beq_iff_eq, beq_eq_false_iff_ne, bne_iff_ne, bne_eq_false_iff_eq, Bool.not_eq_true', Bool.not_eq_false', Bool.not_eq_true, Bool.not_eq_false, ne_eq, Decidable.not_not] at h237)
                            refine CW_region ?_
                            refine W_q (r_bin rfl rfl (bin_eql _ _ _ _)) rfl ?_
                            refine W_q (r_assign rfl) rfl ?_
                            refine W_nil ?_
                            refine NX_as (L' := [(1, _), (2, _), (3, _), (4, _), (5, _), (6, _), (7, _), (8, _), (9, _), (27, _), (54, _)]) [1, 2, 3, 4, 5, 6, 7, 8, 9, 27, 54] rfl ?_
                            refine CW_condk rfl (fun h241 => ?_) (fun h241 => ?_)
                            · (try simp only [decide_eq_true_eq, decide_eq_false_iff_not, beq_iff_eq, beq_eq_false_iff_ne, bne_iff_ne, bne_eq_false_iff_eq, Bool.not_eq_true', Bool.not_eq_false', Bool.not_eq_true, Bool.not_eq_false, ne_eq, Decidable.not_not] at h241)
                              refine CW_seq ?_
                              refine C_drawn [(0, true), (1, true), (4, true), (5, true), (6, true), (2, false), (3, true), (7, true), (8, true), (9, true), (10, true), (11, true)] (by kernel_rfl) rfl (by kernel_rfl) (by kernel_rfl) ?_
                              refine D_q rfl (r_loadbk 0 (vs := [_, _]) rfl T.ag71 T.sz71 rfl rfl rfl) rfl ?_
                              refine D_q rfl (r_loadbk 0 (vs := [_, _]) rfl T.ag71 T.sz71 rfl rfl rfl) rfl ?_
                              refine D_q rfl (r_fieldb (o' := 5) rfl T.fo51_5 rfl) rfl ?_
                              refine D_q rfl (r_loadb 4 rfl T.ag49 rfl rfl) rfl ?_
                              refine D_q rfl (r_bin rfl rfl (bin_eql _ _ _ _)) rfl ?_
                              refine D_f rfl (fun hs242 hc242 => ?_)
                              refine S_lit (vs := [_, _]) (cs := [_, _, _, _]) Tryz.underlying113 T.sz71 T.ze71 rfl rfl rfl rfl rfl rfl (fun m243 ad243 le243 l243 => ?_)
                              replace hO := rOp_mono _ _ _ _ le243 hO
                              replace h90 := h90.mono rI_mono le243
                              have h243 : Sl rPair 2 m243 (some ad243) 2 _ := Pairs_lit [(_, _), (_, _)] l243 (pairs_cons (by first | assumption | exact ⟨by omega, by omega⟩) (by first | assumption | exact ⟨by omega, by omega⟩) (pairs_cons (by first | assumption | exact ⟨by omega, by omega⟩) (by first | assumption | exact ⟨by omega, by omega⟩) pairs_nil))
                              refine W_left hs242 hc242 (fun _ hw => hw.toPre.weak (le243) (List.Sublist.refl _)) ?_
                              refine D_quiet rfl (kindrow_q _) T.hb214 rfl rfl ?_
                              refine D_q rfl (r_move rfl) rfl ?_
                              refine D_split (t := 66) rfl (fun h244 => ?_) (fun h244 => ?_)
                              · (try simp only [decide_eq_true_eq, decide_eq_false_iff_not, beq_iff_eq, beq_eq_false_iff_ne, bne_iff_ne, bne_eq_false_iff_eq, Bool.not_eq_true', Bool.not_eq_false', Bool.not_eq_true, Bool.not_eq_false, ne_eq, Decidable.not_not] at h244)
                                refine D_qt rfl rfl rfl (r_move rfl) rfl ?_
                                refine D_q rfl (r_pick_t rfl rfl) rfl ?_
                                refine D_q rfl (r_assign rfl) rfl ?_
                                refine D_q rfl (r_assign rfl) rfl ?_
                                refine D_end ?_
                                refine NX_as (L' := [(2, _), (3, _)]) [2, 3] rfl ?_
                                refine C_ret (RX_block (RX_then (RX_g2 rfl rfl rfl (takesΦ_mk (h243) ?_))))
                                simp [takesP, scalarKs, *]
                              · (try simp only [decide_eq_true_eq, decide_eq_false_iff_not, beq_iff_eq, beq_eq_false_iff_ne, bne_iff_ne, bne_eq_false_iff_eq, Bool.not_eq_true', Bool.not_eq_false', Bool.not_eq_true, Bool.not_eq_false, ne_eq, Decidable.not_not] at h244)
                                refine D_pass rfl rfl rfl rfl rfl ?_
                                refine D_q rfl (r_pick_f rfl rfl) rfl ?_
                                refine D_q rfl (r_assign rfl) rfl ?_
                                refine D_q rfl (r_assign rfl) rfl ?_
                                refine D_end ?_
                                refine NX_as (L' := [(2, _), (3, _)]) [2, 3] rfl ?_
                                refine C_ret (RX_block (RX_then (RX_g2 rfl rfl rfl (takesΦ_mk (h243) ?_))))
                                simp [takesP, scalarKs, *]
                            · (try simp only [decide_eq_true_eq, decide_eq_false_iff_not, beq_iff_eq, beq_eq_false_iff_ne, bne_iff_ne, bne_eq_false_iff_eq, Bool.not_eq_true', Bool.not_eq_false', Bool.not_eq_true, Bool.not_eq_false, ne_eq, Decidable.not_not] at h241)
                              refine CW_seq ?_
                              refine CW_region ?_
                              refine W_q (r_bin rfl rfl (bin_eql _ _ _ _)) rfl ?_
                              refine W_q (r_assign rfl) rfl ?_
                              refine W_nil ?_
                              refine NX_as (L' := [(1, _), (2, _), (3, _), (4, _), (5, _), (6, _), (7, _), (8, _), (9, _), (27, _), (69, _)]) [1, 2, 3, 4, 5, 6, 7, 8, 9, 27, 69] rfl ?_
                              refine CW_condk rfl (fun h245 => ?_) (fun h245 => ?_)
                              · (try simp only [decide_eq_true_eq, decide_eq_false_iff_not, beq_iff_eq, beq_eq_false_iff_ne, bne_iff_ne, bne_eq_false_iff_eq, Bool.not_eq_true', Bool.not_eq_false', Bool.not_eq_true, Bool.not_eq_false, ne_eq, Decidable.not_not] at h245)
                                refine CW_seq ?_
                                refine C_drawn [(0, true), (1, true), (2, true), (5, true), (6, true), (7, true), (3, false), (4, true), (8, true), (9, true)] (by kernel_rfl) rfl (by kernel_rfl) (by kernel_rfl) ?_
                                refine D_q rfl (r_loadbk 2 (vs := [_, _]) rfl T.ag71 T.sz71 rfl rfl rfl) rfl ?_
                                refine D_q rfl (r_loadbk 0 (vs := [_, _]) rfl T.ag71 T.sz71 rfl rfl rfl) rfl ?_
                                refine D_q rfl (r_loadbk 0 (vs := [_, _]) rfl T.ag71 T.sz71 rfl rfl rfl) rfl ?_
                                refine D_q rfl (r_fieldb (o' := 5) rfl T.fo51_5 rfl) rfl ?_
                                refine D_q rfl (r_loadb 4 rfl T.ag49 rfl rfl) rfl ?_
                                refine D_q rfl (r_bin rfl rfl (bin_eql _ _ _ _)) rfl ?_
                                refine D_f rfl (fun hs246 hc246 => ?_)
                                refine S_lit (vs := [_, _, _]) (cs := [_, _, _, _, _, _]) Tryz.underlying113 T.sz71 T.ze71 rfl rfl rfl rfl rfl rfl (fun m247 ad247 le247 l247 => ?_)
                                replace hO := rOp_mono _ _ _ _ le247 hO
                                replace h90 := h90.mono rI_mono le247
                                have h247 : Sl rPair 2 m247 (some ad247) 3 _ := Pairs_lit [(_, _), (_, _), (_, _)] l247 (pairs_cons (by first | assumption | exact ⟨by omega, by omega⟩) (by first | assumption | exact ⟨by omega, by omega⟩) (pairs_cons (by first | assumption | exact ⟨by omega, by omega⟩) (by first | assumption | exact ⟨by omega, by omega⟩) (pairs_cons (by first | assumption | exact ⟨by omega, by omega⟩) (by first | assumption | exact ⟨by omega, by omega⟩) pairs_nil)))
                                refine W_left hs246 hc246 (fun _ hw => hw.toPre.weak (le247) (List.Sublist.refl _)) ?_
                                refine D_quiet rfl (kindrow_q _) T.hb214 rfl rfl ?_
                                refine D_q rfl (r_assign rfl) rfl ?_
                                refine D_q rfl (r_assign rfl) rfl ?_
                                refine D_end ?_
                                refine NX_as (L' := [(2, _), (3, _)]) [2, 3] rfl ?_
                                refine C_ret (RX_block (RX_then (RX_g2 rfl rfl rfl (takesΦ_mk (h247) ?_))))
                                simp [takesP, scalarKs, *]
                              · (try simp only [decide_eq_true_eq, decide_eq_false_iff_not, beq_iff_eq, beq_eq_false_iff_ne, bne_iff_ne, bne_eq_false_iff_eq, Bool.not_eq_true', Bool.not_eq_false', Bool.not_eq_true, Bool.not_eq_false, ne_eq, Decidable.not_not] at h245)
                                refine CW_seq ?_
                                refine CW_region ?_
                                refine W_q (r_bin rfl rfl (bin_eql _ _ _ _)) rfl ?_
                                refine W_q (r_assign rfl) rfl ?_
                                refine W_nil ?_
                                refine NX_as (L' := [(1, _), (2, _), (3, _), (4, _), (5, _), (6, _), (7, _), (8, _), (9, _), (27, _), (79, _)]) [1, 2, 3, 4, 5, 6, 7, 8, 9, 27, 79] rfl ?_
                                refine CW_condk rfl (fun h248 => ?_) (fun h248 => ?_)
                                · (try simp only [decide_eq_true_eq, decide_eq_false_iff_not, beq_iff_eq, beq_eq_false_iff_ne, bne_iff_ne, bne_eq_false_iff_eq, Bool.not_eq_true', Bool.not_eq_false', Bool.not_eq_true, Bool.not_eq_false, ne_eq, Decidable.not_not] at h248)
                                  refine CW_seq ?_
                                  refine CW_region ?_
                                  refine W_q (r_fieldb (o' := 5) rfl T.fo51_5 rfl) rfl ?_
                                  refine W_q (r_loadb 4 rfl T.ag49 rfl rfl) rfl ?_
                                  refine W_q (r_min rfl rfl) rfl ?_
                                  refine W_q (r_convi Tryz.underlying49 Tryz.underlying3 rfl (i64_of _ ⟨by omega, by omega⟩)) rfl ?_
                                  refine W_q (r_builda (zs := [_, _]) (cs := [_, _]) Tryz.underlying71 T.sz3 T.ze71 rfl rfl rfl) rfl ?_
                                  refine S_lit (vs := [_]) (cs := [_, _]) Tryz.underlying113 T.sz71 T.ze71 rfl rfl rfl rfl rfl rfl (fun m249 ad249 le249 l249 => ?_)
                                  replace hO := rOp_mono _ _ _ _ le249 hO
                                  replace h90 := h90.mono rI_mono le249
                                  have h249 : Sl rPair 2 m249 (some ad249) 1 _ := Pairs_lit [(_, _)] l249 (pairs_cons (by first | assumption | exact ⟨by omega, by omega⟩) (by first | assumption | exact ⟨by omega, by omega⟩) pairs_nil)
                                  refine W_quiet (kindrow_q _) T.hb214 rfl rfl ?_
                                  refine W_q (r_move rfl) rfl ?_
                                  refine W_q (r_move rfl) rfl ?_
                                  refine WL_split (t := 89) rfl (fun h250 => ?_) (fun h250 => ?_)
                                  · (try simp only [decide_eq_true_eq, decide_eq_false_iff_not, beq_iff_eq, beq_eq_false_iff_ne, bne_iff_ne, bne_eq_false_iff_eq, Bool.not_eq_true', Bool.not_eq_false', Bool.not_eq_true, Bool.not_eq_false, ne_eq, Decidable.not_not] at h250)
                                    refine WL_take rfl rfl ?_
                                    refine W_q (r_fieldb (o' := 5) rfl T.fo51_5 rfl) rfl ?_
                                    refine WL_take rfl rfl ?_
                                    refine W_q (r_loadb 4 rfl T.ag49 rfl rfl) rfl ?_
                                    refine WL_take rfl rfl ?_
                                    refine W_q (r_fieldb (o' := 1) rfl T.fo51_1 rfl) rfl ?_
                                    refine WL_take rfl rfl ?_
                                    refine W_q (r_loadb 4 rfl T.ag3 rfl rfl) rfl ?_
                                    refine WL_take rfl rfl ?_
                                    refine W_q (r_convi Tryz.underlying3 Tryz.underlying49 rfl (u64_of _ ⟨by omega, by omega⟩)) rfl ?_
                                    refine WL_take rfl rfl ?_
                                    refine W_q (r_bin rfl rfl (bin_lss _ _ _ _)) rfl ?_
                                    refine W_q (r_pick_t rfl rfl) rfl ?_
                                    refine W_q (r_move rfl) rfl ?_
                                    refine WL_split (t := 97) rfl (fun h251 => ?_) (fun h251 => ?_)
                                    · (try simp only [decide_eq_true_eq, decide_eq_false_iff_not, beq_iff_eq, beq_eq_false_iff_ne, bne_iff_ne, bne_eq_false_iff_eq, Bool.not_eq_true', Bool.not_eq_false', Bool.not_eq_true, Bool.not_eq_false, ne_eq, Decidable.not_not] at h251)
                                      refine WL_take rfl rfl ?_
                                      refine W_q (r_fieldb (o' := 5) rfl T.fo51_5 rfl) rfl ?_
                                      refine WL_take rfl rfl ?_
                                      refine W_q (r_loadb 4 rfl T.ag49 rfl rfl) rfl ?_
                                      refine WL_take rfl rfl ?_
                                      refine W_q (r_convi Tryz.underlying49 Tryz.underlying3 rfl (i64_of _ ⟨by omega, by omega⟩)) rfl ?_
                                      refine WL_take rfl rfl ?_
                                      refine W_quiet (May_q _) T.hb152 rfl rfl ?_
                                      refine W_q (r_pick_t rfl rfl) rfl ?_
                                      refine W_q (r_assign rfl) rfl ?_
                                      refine W_q (r_assign rfl) rfl ?_
                                      refine W_nil ?_
                                      refine NX_as (L' := [(2, _), (3, _)]) [2, 3] rfl ?_
                                      refine C_ret (RX_block (RX_then (RX_g2 rfl rfl rfl (takesΦ_mk (h249) ?_))))
                                      simp [takesP, scalarKs, *]
                                    · (try simp only [decide_eq_true_eq, decide_eq_false_iff_not, beq_iff_eq, beq_eq_false_iff_ne, bne_iff_ne, bne_eq_false_iff_eq, Bool.not_eq_true', Bool.not_eq_false', Bool.not_eq_true, Bool.not_eq_false, ne_eq, Decidable.not_not] at h251)
                                      refine WL_pass rfl rfl rfl rfl ?_
                                      refine WL_pass rfl rfl rfl rfl ?_
                                      refine WL_pass rfl rfl rfl rfl ?_
                                      refine WL_pass rfl rfl rfl rfl ?_
                                      refine W_q (r_pick_f rfl rfl) rfl ?_
                                      refine W_q (r_assign rfl) rfl ?_
                                      refine W_q (r_assign rfl) rfl ?_
                                      refine W_nil ?_
                                      refine NX_as (L' := [(2, _), (3, _)]) [2, 3] rfl ?_
                                      refine C_ret (RX_block (RX_then (RX_g2 rfl rfl rfl (takesΦ_mk (h249) ?_))))
                                      simp [takesP, scalarKs, *]
                                  · (try simp only [decide_eq_true_eq, decide_eq_false_iff_not, beq_iff_eq, beq_eq_false_iff_ne, bne_iff_ne, bne_eq_false_iff_eq, Bool.not_eq_true', Bool.not_eq_false', Bool.not_eq_true, Bool.not_eq_false, ne_eq, Decidable.not_not] at h250)
                                    refine WL_pass rfl rfl rfl rfl ?_
                                    refine WL_pass rfl rfl rfl rfl ?_
                                    refine WL_pass rfl rfl rfl rfl ?_
                                    refine WL_pass rfl rfl rfl rfl ?_
                                    refine WL_pass rfl rfl rfl rfl ?_
                                    refine WL_pass rfl rfl rfl rfl ?_
                                    refine W_q (r_pick_f rfl rfl) rfl ?_
                                    refine W_q (r_move rfl) rfl ?_
                                    refine WL_pass rfl rfl rfl rfl ?_
                                    refine WL_pass rfl rfl rfl rfl ?_
                                    refine WL_pass rfl rfl rfl rfl ?_
                                    refine WL_pass rfl rfl rfl rfl ?_
                                    refine W_q (r_pick_f rfl rfl) rfl ?_
                                    refine W_q (r_assign rfl) rfl ?_
                                    refine W_q (r_assign rfl) rfl ?_
                                    refine W_nil ?_
                                    refine NX_as (L' := [(2, _), (3, _)]) [2, 3] rfl ?_
                                    refine C_ret (RX_block (RX_then (RX_g2 rfl rfl rfl (takesΦ_mk (h249) ?_))))
                                    simp [takesP, scalarKs, *]
                                · (try simp only [decide_eq_true_eq, decide_eq_false_iff_not, beq_iff_eq, beq_eq_false_iff_ne, bne_iff_ne, bne_eq_false_iff_eq, Bool.not_eq_true', Bool.not_eq_false', Bool.not_eq_true, Bool.not_eq_false, ne_eq, Decidable.not_not] at h248)
                                  refine CW_seq ?_
                                  refine CW_region ?_
                                  refine W_q (r_bin rfl rfl (bin_eql _ _ _ _)) rfl ?_
                                  refine W_q (r_assign rfl) rfl ?_
                                  refine W_nil ?_
                                  refine NX_as (L' := [(1, _), (2, _), (3, _), (4, _), (5, _), (6, _), (7, _), (8, _), (9, _), (27, _), (103, _)]) [1, 2, 3, 4, 5, 6, 7, 8, 9, 27, 103] rfl ?_
                                  refine CW_condk rfl (fun h252 => ?_) (fun h252 => ?_)
                                  · (try simp only [decide_eq_true_eq, decide_eq_false_iff_not, beq_iff_eq, beq_eq_false_iff_ne, bne_iff_ne, bne_eq_false_iff_eq, Bool.not_eq_true', Bool.not_eq_false', Bool.not_eq_true, Bool.not_eq_false, ne_eq, Decidable.not_not] at h252)
                                    refine CW_seq ?_
                                    refine CW_region ?_
                                    refine W_q (r_fieldb (o' := 5) rfl T.fo51_5 rfl) rfl ?_
                                    refine W_q (r_loadb 4 rfl T.ag49 rfl rfl) rfl ?_
                                    refine W_q (r_min rfl rfl) rfl ?_
                                    refine W_q (r_convi Tryz.underlying49 Tryz.underlying3 rfl (i64_of _ ⟨by omega, by omega⟩)) rfl ?_
                                    refine W_q (r_builda (zs := [_, _]) (cs := [_, _]) Tryz.underlying71 T.sz3 T.ze71 rfl rfl rfl) rfl ?_
                                    refine S_lit (vs := [_]) (cs := [_, _]) Tryz.underlying113 T.sz71 T.ze71 rfl rfl rfl rfl rfl rfl (fun m253 ad253 le253 l253 => ?_)
                                    replace hO := rOp_mono _ _ _ _ le253 hO
                                    replace h90 := h90.mono rI_mono le253
                                    have h253 : Sl rPair 2 m253 (some ad253) 1 _ := Pairs_lit [(_, _)] l253 (pairs_cons (by first | assumption | exact ⟨by omega, by omega⟩) (by first | assumption | exact ⟨by omega, by omega⟩) pairs_nil)
                                    refine W_quiet (kindrow_q _) T.hb214 rfl rfl ?_
                                    refine W_q (r_move rfl) rfl ?_
                                    refine W_q (r_move rfl) rfl ?_
                                    refine WL_split (t := 113) rfl (fun h254 => ?_) (fun h254 => ?_)
                                    · (try simp only [decide_eq_true_eq, decide_eq_false_iff_not, beq_iff_eq, beq_eq_false_iff_ne, bne_iff_ne, bne_eq_false_iff_eq, Bool.not_eq_true', Bool.not_eq_false', Bool.not_eq_true, Bool.not_eq_false, ne_eq, Decidable.not_not] at h254)
                                      refine WL_take rfl rfl ?_
                                      refine W_q (r_fieldb (o' := 5) rfl T.fo51_5 rfl) rfl ?_
                                      refine WL_take rfl rfl ?_
                                      refine W_q (r_loadb 4 rfl T.ag49 rfl rfl) rfl ?_
                                      refine WL_take rfl rfl ?_
                                      refine W_q (r_fieldb (o' := 1) rfl T.fo51_1 rfl) rfl ?_
                                      refine WL_take rfl rfl ?_
                                      refine W_q (r_loadb 4 rfl T.ag3 rfl rfl) rfl ?_
                                      refine WL_take rfl rfl ?_
                                      refine W_q (r_convi Tryz.underlying3 Tryz.underlying49 rfl (u64_of _ ⟨by omega, by omega⟩)) rfl ?_
                                      refine WL_take rfl rfl ?_
                                      refine W_q (r_bin rfl rfl (bin_gtr _ _ _ _)) rfl ?_
                                      refine W_q (r_pick_t rfl rfl) rfl ?_
                                      refine W_q (r_move rfl) rfl ?_
                                      refine WL_split (t := 121) rfl (fun h255 => ?_) (fun h255 => ?_)
                                      · (try simp only [decide_eq_true_eq, decide_eq_false_iff_not, beq_iff_eq, beq_eq_false_iff_ne, bne_iff_ne, bne_eq_false_iff_eq, Bool.not_eq_true', Bool.not_eq_false', Bool.not_eq_true, Bool.not_eq_false, ne_eq, Decidable.not_not] at h255)
                                        refine WL_take rfl rfl ?_
                                        refine W_q (r_fieldb (o' := 5) rfl T.fo51_5 rfl) rfl ?_
                                        refine WL_take rfl rfl ?_
                                        refine W_q (r_loadb 4 rfl T.ag49 rfl rfl) rfl ?_
                                        refine WL_take rfl rfl ?_
                                        refine W_q (r_bin rfl rfl (bin_leq _ _ _ _)) rfl ?_
                                        refine W_q (r_pick_t rfl rfl) rfl ?_
                                        refine W_q (r_move rfl) rfl ?_
                                        refine WL_split (t := 126) rfl (fun h256 => ?_) (fun h256 => ?_)
                                        · (try simp only [decide_eq_true_eq, decide_eq_false_iff_not, beq_iff_eq, beq_eq_false_iff_ne, bne_iff_ne, bne_eq_false_iff_eq, Bool.not_eq_true', Bool.not_eq_false', Bool.not_eq_true, Bool.not_eq_false, ne_eq, Decidable.not_not] at h256)
                                          refine WL_take rfl rfl ?_
                                          refine W_q (r_fieldb (o' := 5) rfl T.fo51_5 rfl) rfl ?_
                                          refine WL_take rfl rfl ?_
                                          refine W_q (r_loadb 4 rfl T.ag49 rfl rfl) rfl ?_
                                          refine WL_take rfl rfl ?_
                                          refine W_q (r_convi Tryz.underlying49 Tryz.underlying3 rfl (i64_of _ ⟨by omega, by omega⟩)) rfl ?_
                                          refine WL_take rfl rfl ?_
                                          refine W_quiet (May_q _) T.hb152 rfl rfl ?_
                                          refine W_q (r_pick_t rfl rfl) rfl ?_
                                          refine W_q (r_assign rfl) rfl ?_
                                          refine W_q (r_assign rfl) rfl ?_
                                          refine W_nil ?_
                                          refine NX_as (L' := [(2, _), (3, _)]) [2, 3] rfl ?_
                                          refine C_ret (RX_block (RX_then (RX_g2 rfl rfl rfl (takesΦ_mk (h253) ?_))))
                                          simp [takesP, scalarKs, *]
                                        · (try simp only [decide_eq_true_eq, decide_eq_false_iff_not, beq_iff_eq, beq_eq_false_iff_ne, bne_iff_ne, bne_eq_false_iff_eq, Bool.not_eq_true', Bool.not_eq_false', Bool.not_eq_true, Bool.not_eq_false, ne_eq, Decidable.not_not] at h256)
                                          refine WL_pass rfl rfl rfl rfl ?_
                                          refine WL_pass rfl rfl rfl rfl ?_
                                          refine WL_pass rfl rfl rfl rfl ?_
                                          refine WL_pass rfl rfl rfl rfl ?_
                                          refine W_q (r_pick_f rfl rfl) rfl ?_
                                          refine W_q (r_assign rfl) rfl ?_
                                          refine W_q (r_assign rfl) rfl ?_
                                          refine W_nil ?_
                                          refine NX_as (L' := [(2, _), (3, _)]) [2, 3] rfl ?_
                                          refine C_ret (RX_block (RX_then (RX_g2 rfl rfl rfl (takesΦ_mk (h253) ?_))))
                                          simp [takesP, scalarKs, *]
                                      · (try simp only [decide_eq_true_eq, decide_eq_false_iff_not, beq_iff_eq, beq_eq_false_iff_ne, bne_iff_ne, bne_eq_false_iff_eq, Bool.not_eq_true', Bool.not_eq_false', Bool.not_eq_true, Bool.not_eq_false, ne_eq, Decidable.not_not] at h255)
                                        refine WL_pass rfl rfl rfl rfl ?_
                                        refine WL_pass rfl rfl rfl rfl ?_
                                        refine WL_pass rfl rfl rfl rfl ?_
                                        refine W_q (r_pick_f rfl rfl) rfl ?_
                                        refine W_q (r_move rfl) rfl ?_
                                        refine WL_pass rfl rfl rfl rfl ?_
                                        refine WL_pass rfl rfl rfl rfl ?_
                                        refine WL_pass rfl rfl rfl rfl ?_
                                        refine WL_pass rfl rfl rfl rfl ?_
                                        refine W_q (r_pick_f rfl rfl) rfl ?_
                                        refine W_q (r_assign rfl) rfl ?_
                                        refine W_q (r_assign rfl) rfl ?_
                                        refine W_nil ?_
                                        refine NX_as (L' := [(2, _), (3, _)]) [2, 3] rfl ?_
                                        refine C_ret (RX_block (RX_then (RX_g2 rfl rfl rfl (takesΦ_mk (h253) ?_))))
                                        simp [takesP, scalarKs, *]
                                    · (try simp only [decide_eq_true_eq, decide_eq_false_iff_not, beq_iff_eq, beq_eq_false_iff_ne, bne_iff_ne, bne_eq_false_iff_eq, Bool.not_eq_true', Bool.not_eq_false', Bool.not_eq_true, Bool.not_eq_false, ne_eq, Decidable.not_not] at h254)
                                      refine WL_pass rfl rfl rfl rfl ?_
                                      refine WL_pass rfl rfl rfl rfl ?_
                                      refine WL_pass rfl rfl rfl rfl ?_
                                      refine WL_pass rfl rfl rfl rfl ?_
                                      refine WL_pass rfl rfl rfl rfl ?_
                                      refine WL_pass rfl rfl rfl rfl ?_
                                      refine W_q (r_pick_f rfl rfl) rfl ?_
                                      refine W_q (r_move rfl) rfl ?_
                                      refine WL_pass rfl rfl rfl rfl ?_
                                      refine WL_pass rfl rfl rfl rfl ?_
                                      refine WL_pass rfl rfl rfl rfl ?_
                                      refine W_q (r_pick_f rfl rfl) rfl ?_
                                      refine W_q (r_move rfl) rfl ?_
                                      refine WL_pass rfl rfl rfl rfl ?_
                                      refine WL_pass rfl rfl rfl rfl ?_
                                      refine WL_pass rfl rfl rfl rfl ?_
                                      refine WL_pass rfl rfl rfl rfl ?_
                                      refine W_q (r_pick_f rfl rfl) rfl ?_
                                      refine W_q (r_assign rfl) rfl ?_
                                      refine W_q (r_assign rfl) rfl ?_
                                      refine W_nil ?_
                                      refine NX_as (L' := [(2, _), (3, _)]) [2, 3] rfl ?_
                                      refine C_ret (RX_block (RX_then (RX_g2 rfl rfl rfl (takesΦ_mk (h253) ?_))))
                                      simp [takesP, scalarKs, *]
                                  · (try simp only [decide_eq_true_eq, decide_eq_false_iff_not, beq_iff_eq, beq_eq_false_iff_ne, bne_iff_ne, bne_eq_false_iff_eq, Bool.not_eq_true', Bool.not_eq_false', Bool.not_eq_true, Bool.not_eq_false, ne_eq, Decidable.not_not] at h252)
                                    refine CW_seq ?_
                                    refine CW_region ?_
                                    refine W_q (r_bin rfl rfl (bin_eql _ _ _ _)) rfl ?_
                                    refine W_q (r_assign rfl) rfl ?_
                                    refine W_nil ?_
                                    refine NX_as (L' := [(1, _), (2, _), (3, _), (4, _), (5, _), (6, _), (7, _), (8, _), (9, _), (27, _), (132, _)]) [1, 2, 3, 4, 5, 6, 7, 8, 9, 27, 132] rfl ?_
                                    refine CW_condk rfl (fun h257 => ?_) (fun h257 => ?_)
                                    · (try simp only [decide_eq_true_eq, decide_eq_false_iff_not, beq_iff_eq, beq_eq_false_iff_ne, bne_iff_ne, bne_eq_false_iff_eq, Bool.not_eq_true', Bool.not_eq_false', Bool.not_eq_true, Bool.not_eq_false, ne_eq, Decidable.not_not] at h257)
                                      refine CW_seq ?_
                                      refine C_drawn [(0, true), (3, true), (4, true), (5, true), (1, false), (2, true), (6, true), (7, true), (8, true), (9, true), (10, true)] (by kernel_rfl) rfl (by kernel_rfl) (by kernel_rfl) ?_
                                      refine D_q rfl (r_loadbk 3 (vs := [_, _]) rfl T.ag71 T.sz71 rfl rfl rfl) rfl ?_
                                      refine D_q rfl (r_fieldb (o' := 5) rfl T.fo51_5 rfl) rfl ?_
                                      refine D_q rfl (r_loadb 4 rfl T.ag49 rfl rfl) rfl ?_
                                      refine D_q rfl (r_bin rfl rfl (bin_eql _ _ _ _)) rfl ?_
                                      refine D_f rfl (fun hs258 hc258 => ?_)
                                      refine S_lit (vs := [_]) (cs := [_, _]) Tryz.underlying113 T.sz71 T.ze71 rfl rfl rfl rfl rfl rfl (fun m259 ad259 le259 l259 => ?_)
                                      replace hO := rOp_mono _ _ _ _ le259 hO
                                      replace h90 := h90.mono rI_mono le259
                                      have h259 : Sl rPair 2 m259 (some ad259) 1 _ := Pairs_lit [(_, _)] l259 (pairs_cons (by first | assumption | exact ⟨by omega, by omega⟩) (by first | assumption | exact ⟨by omega, by omega⟩) pairs_nil)
                                      refine W_left hs258 hc258 (fun _ hw => hw.toPre.weak (le259) (List.Sublist.refl _)) ?_
                                      refine D_quiet rfl (kindrow_q _) T.hb214 rfl rfl ?_
                                      refine D_q rfl (r_move rfl) rfl ?_
                                      refine D_split (t := 140) rfl (fun h260 => ?_) (fun h260 => ?_)
                                      · (try simp only [decide_eq_true_eq, decide_eq_false_iff_not, beq_iff_eq, beq_eq_false_iff_ne, bne_iff_ne, bne_eq_false_iff_eq, Bool.not_eq_true', Bool.not_eq_false', Bool.not_eq_true, Bool.not_eq_false, ne_eq, Decidable.not_not] at h260)
                                        refine D_qt rfl rfl rfl (r_move rfl) rfl ?_
                                        refine D_q rfl (r_pick_t rfl rfl) rfl ?_
                                        refine D_q rfl (r_assign rfl) rfl ?_
                                        refine D_q rfl (r_assign rfl) rfl ?_
                                        refine D_end ?_
                                        refine NX_as (L' := [(2, _), (3, _)]) [2, 3] rfl ?_
                                        refine C_ret (RX_block (RX_then (RX_g2 rfl rfl rfl (takesΦ_mk (h259) ?_))))
                                        simp [takesP, scalarKs, *]
                                      · (try simp only [decide_eq_true_eq, decide_eq_false_iff_not, beq_iff_eq, beq_eq_false_iff_ne, bne_iff_ne, bne_eq_false_iff_eq, Bool.not_eq_true', Bool.not_eq_false', Bool.not_eq_true, Bool.not_eq_false, ne_eq, Decidable.not_not] at h260)
                                        refine D_pass rfl rfl rfl rfl rfl ?_
                                        refine D_q rfl (r_pick_f rfl rfl) rfl ?_
                                        refine D_q rfl (r_assign rfl) rfl ?_
                                        refine D_q rfl (r_assign rfl) rfl ?_
                                        refine D_end ?_
                                        refine NX_as (L' := [(2, _), (3, _)]) [2, 3] rfl ?_
                                        refine C_ret (RX_block (RX_then (RX_g2 rfl rfl rfl (takesΦ_mk (h259) ?_))))
                                        simp [takesP, scalarKs, *]
                                    · (try simp only [decide_eq_true_eq, decide_eq_false_iff_not, beq_iff_eq, beq_eq_false_iff_ne, bne_iff_ne, bne_eq_false_iff_eq, Bool.not_eq_true', Bool.not_eq_false', Bool.not_eq_true, Bool.not_eq_false, ne_eq, Decidable.not_not] at h257)
                                      refine CW_seq ?_
                                      refine CW_region ?_
                                      refine W_q (r_bin rfl rfl (bin_eql _ _ _ _)) rfl ?_
                                      refine W_q (r_assign rfl) rfl ?_
                                      refine W_nil ?_
                                      refine NX_as (L' := [(1, _), (2, _), (3, _), (4, _), (5, _), (6, _), (7, _), (8, _), (9, _), (27, _), (143, _)]) [1, 2, 3, 4, 5, 6, 7, 8, 9, 27, 143] rfl ?_
                                      refine CW_condk rfl (fun h261 => ?_) (fun h261 => ?_)
                                      · (try simp only [decide_eq_true_eq, decide_eq_false_iff_not, beq_iff_eq, beq_eq_false_iff_ne, bne_iff_ne, bne_eq_false_iff_eq, Bool.not_eq_true', Bool.not_eq_false', Bool.not_eq_true, Bool.not_eq_false, ne_eq, Decidable.not_not] at h261)
                                        refine CW_seq ?_
                                        refine C_drawn [(0, true), (1, true), (4, true), (5, true), (6, true), (2, false), (3, true), (7, true), (8, true), (9, true), (10, true), (11, true)] (by kernel_rfl) rfl (by kernel_rfl) (by kernel_rfl) ?_
                                        refine D_q rfl (r_loadbk 3 (vs := [_, _]) rfl T.ag71 T.sz71 rfl rfl rfl) rfl ?_
                                        refine D_q rfl (r_loadbk 0 (vs := [_, _]) rfl T.ag71 T.sz71 rfl rfl rfl) rfl ?_
                                        refine D_q rfl (r_fieldb (o' := 5) rfl T.fo51_5 rfl) rfl ?_
                                        refine D_q rfl (r_loadb 4 rfl T.ag49 rfl rfl) rfl ?_
                                        refine D_q rfl (r_bin rfl rfl (bin_eql _ _ _ _)) rfl ?_
                                        refine D_f rfl (fun hs262 hc262 => ?_)
                                        refine S_lit (vs := [_, _]) (cs := [_, _, _, _]) Tryz.underlying113 T.sz71 T.ze71 rfl rfl rfl rfl rfl rfl (fun m263 ad263 le263 l263 => ?_)
                                        replace hO := rOp_mono _ _ _ _ le263 hO
                                        replace h90 := h90.mono rI_mono le263
                                        have h263 : Sl rPair 2 m263 (some ad263) 2 _ := Pairs_lit [(_, _), (_, _)] l263 (pairs_cons (by first | assumption | exact ⟨by omega, by omega⟩) (by first | assumption | exact ⟨by omega, by omega⟩) (pairs_cons (by first | assumption | exact ⟨by omega, by omega⟩) (by first | assumption | exact ⟨by omega, by omega⟩) pairs_nil))
                                        refine W_left hs262 hc262 (fun _ hw => hw.toPre.weak (le263) (List.Sublist.refl _)) ?_
                                        refine D_quiet rfl (kindrow_q _) T.hb214 rfl rfl ?_
                                        refine D_q rfl (r_move rfl) rfl ?_
                                        refine D_split (t := 152) rfl (fun h264 => ?_) (fun h264 => ?_)
                                        · (try simp only [decide_eq_true_eq, decide_eq_false_iff_not, beq_iff_eq, beq_eq_false_iff_ne, bne_iff_ne, bne_eq_false_iff_eq, Bool.not_eq_true', Bool.not_eq_false', Bool.not_eq_true, Bool.not_eq_false, ne_eq, Decidable.not_not] at h264)
                                          refine D_qt rfl rfl rfl (r_move rfl) rfl ?_
                                          refine D_q rfl (r_pick_t rfl rfl) rfl ?_
                                          refine D_q rfl (r_assign rfl) rfl ?_
                                          refine D_q rfl (r_assign rfl) rfl ?_
                                          refine D_end ?_
                                          refine NX_as (L' := [(2, _), (3, _)]) [2, 3] rfl ?_
                                          refine C_ret (RX_block (RX_then (RX_g2 rfl rfl rfl (takesΦ_mk (h263) ?_))))
                                          simp [takesP, scalarKs, *]
                                        · (try simp only [decide_eq_true_eq, decide_eq_false_iff_not, beq_iff_eq, beq_eq_false_iff_ne, bne_iff_ne, bne_eq_false_iff_eq, Bool.not_eq_true', Bool.not_eq_false', Bool.not_eq_true, Bool.not_eq_false, ne_eq, Decidable.not_not] at h264)
                                          refine D_pass rfl rfl rfl rfl rfl ?_
                                          refine D_q rfl (r_pick_f rfl rfl) rfl ?_
                                          refine D_q rfl (r_assign rfl) rfl ?_
                                          refine D_q rfl (r_assign rfl) rfl ?_
                                          refine D_end ?_
                                          refine NX_as (L' := [(2, _), (3, _)]) [2, 3] rfl ?_
                                          refine C_ret (RX_block (RX_then (RX_g2 rfl rfl rfl (takesΦ_mk (h263) ?_))))
                                          simp [takesP, scalarKs, *]
                                      · (try simp only [decide_eq_true_eq, decide_eq_false_iff_not, beq_iff_eq, beq_eq_false_iff_ne, bne_iff_ne, bne_eq_false_iff_eq, Bool.not_eq_true', Bool.not_eq_false', Bool.not_eq_true, Bool.not_eq_false, ne_eq, Decidable.not_not] at h261)
                                        refine CW_seq ?_
                                        refine CW_seq ?_
                                        refine CW_region ?_
                                        refine W_q (r_bin rfl rfl (bin_eql _ _ _ _)) rfl ?_
                                        refine W_q (r_assign rfl) rfl ?_
                                        refine W_nil ?_
                                        refine NX_as (L' := [(1, _), (2, _), (3, _), (4, _), (5, _), (6, _), (7, _), (8, _), (9, _), (27, _), (155, _)]) [1, 2, 3, 4, 5, 6, 7, 8, 9, 27, 155] rfl ?_
                                        refine CW_condk rfl (fun h265 => ?_) (fun h265 => ?_)
                                        · (try simp only [decide_eq_true_eq, decide_eq_false_iff_not, beq_iff_eq, beq_eq_false_iff_ne, bne_iff_ne, bne_eq_false_iff_eq, Bool.not_eq_true', Bool.not_eq_false', Bool.not_eq_true, Bool.not_eq_false, ne_eq, Decidable.not_not] at h265)
                                          refine C_skip ?_
                                          refine NX_as (L' := [(1, _), (2, _), (3, _), (4, _), (5, _), (6, _), (7, _), (8, _), (9, _), (27, _), (155, _)]) [1, 2, 3, 4, 5, 6, 7, 8, 9, 27, 155] rfl ?_
                                          refine CW_cond_t rfl ?_
                                          refine CW_seq ?_
                                          refine C_drawn [(0, true), (1, true), (2, true), (5, true), (6, true), (7, true), (3, false), (4, true), (8, true), (9, true), (10, true), (11, true), (12, true), (13, true), (14, true), (15, true)] (by kernel_rfl) rfl (by kernel_rfl) (by kernel_rfl) ?_
                                          refine D_q rfl (r_loadbk 2 (vs := [_, _]) rfl T.ag71 T.sz71 rfl rfl rfl) rfl ?_
                                          refine D_q rfl (r_loadbk 3 (vs := [_, _]) rfl T.ag71 T.sz71 rfl rfl rfl) rfl ?_
                                          refine D_q rfl (r_loadbk 0 (vs := [_, _]) rfl T.ag71 T.sz71 rfl rfl rfl) rfl ?_
                                          refine D_q rfl (r_fieldb (o' := 5) rfl T.fo51_5 rfl) rfl ?_
                                          refine D_q rfl (r_loadb 4 rfl T.ag49 rfl rfl) rfl ?_
                                          refine D_q rfl (r_bin rfl rfl (bin_eql _ _ _ _)) rfl ?_
                                          refine D_f rfl (fun hs266 hc266 => ?_)
                                          refine S_lit (vs := [_, _, _]) (cs := [_, _, _, _, _, _]) Tryz.underlying113 T.sz71 T.ze71 rfl rfl rfl rfl rfl rfl (fun m267 ad267 le267 l267 => ?_)
                                          replace hO := rOp_mono _ _ _ _ le267 hO
                                          replace h90 := h90.mono rI_mono le267
                                          have h267 : Sl rPair 2 m267 (some ad267) 3 _ := Pairs_lit [(_, _), (_, _), (_, _)] l267 (pairs_cons (by first | assumption | exact ⟨by omega, by omega⟩) (by first | assumption | exact ⟨by omega, by omega⟩) (pairs_cons (by first | assumption | exact ⟨by omega, by omega⟩) (by first | assumption | exact ⟨by omega, by omega⟩) (pairs_cons (by first | assumption | exact ⟨by omega, by omega⟩) (by first | assumption | exact ⟨by omega, by omega⟩) pairs_nil)))
                                          refine W_left hs266 hc266 (fun _ hw => hw.toPre.weak (le267) (List.Sublist.refl _)) ?_
                                          refine D_quiet rfl (kindrow_q _) T.hb214 rfl rfl ?_
                                          refine D_q rfl (r_move rfl) rfl ?_
                                          refine D_split (t := 166) rfl (fun h268 => ?_) (fun h268 => ?_)
                                          · (try simp only [decide_eq_true_eq, decide_eq_false_iff_not, beq_iff_eq, beq_eq_false_iff_ne, bne_iff_ne, bne_eq_false_iff_eq, Bool.not_eq_true', Bool.not_eq_false', Bool.not_eq_true, Bool.not_eq_false, ne_eq, Decidable.not_not] at h268)
                                            refine D_qt rfl rfl rfl (r_move rfl) rfl ?_
                                            refine D_q rfl (r_pick_t rfl rfl) rfl ?_
                                            refine D_q rfl (r_move rfl) rfl ?_
                                            refine D_split (t := 169) rfl (fun h269 => ?_) (fun h269 => ?_)
                                            · (try simp only [decide_eq_true_eq, decide_eq_false_iff_not, beq_iff_eq, beq_eq_false_iff_ne, bne_iff_ne, bne_eq_false_iff_eq, Bool.not_eq_true', Bool.not_eq_false', Bool.not_eq_true, Bool.not_eq_false, ne_eq, Decidable.not_not] at h269)
                                              refine D_qt rfl rfl rfl (r_move rfl) rfl ?_
                                              refine D_q rfl (r_pick_t rfl rfl) rfl ?_
                                              refine D_q rfl (r_assign rfl) rfl ?_
                                              refine D_q rfl (r_assign rfl) rfl ?_
                                              refine D_end ?_
                                              refine NX_as (L' := [(2, _), (3, _)]) [2, 3] rfl ?_
                                              refine C_ret (RX_block (RX_then (RX_g2 rfl rfl rfl (takesΦ_mk (h267) ?_))))
                                              simp [takesP, scalarKs, *]
                                            · (try simp only [decide_eq_true_eq, decide_eq_false_iff_not, beq_iff_eq, beq_eq_false_iff_ne, bne_iff_ne, bne_eq_false_iff_eq, Bool.not_eq_true', Bool.not_eq_false', Bool.not_eq_true, Bool.not_eq_false, ne_eq, Decidable.not_not] at h269)
                                              refine D_pass rfl rfl rfl rfl rfl ?_
                                              refine D_q rfl (r_pick_f rfl rfl) rfl ?_
                                              refine D_q rfl (r_assign rfl) rfl ?_
                                              refine D_q rfl (r_assign rfl) rfl ?_
                                              refine D_end ?_
                                              refine NX_as (L' := [(2, _), (3, _)]) [2, 3] rfl ?_
                                              refine C_ret (RX_block (RX_then (RX_g2 rfl rfl rfl (takesΦ_mk (h267) ?_))))
                                              simp [takesP, scalarKs, *]
                                          · (try simp only [decide_eq_true_eq, decide_eq_false_iff_not, beq_iff_eq, beq_eq_false_iff_ne, bne_iff_ne, bne_eq_false_iff_eq, Bool.not_eq_true', Bool.not_eq_false', Bool.not_eq_true, Bool.not_eq_false, ne_eq, Decidable.not_not] at h268)
                                            refine D_pass rfl rfl rfl rfl rfl ?_
                                            refine D_q rfl (r_pick_f rfl rfl) rfl ?_
                                            refine D_q rfl (r_move rfl) rfl ?_
                                            refine D_pass rfl rfl rfl rfl rfl ?_
                                            refine D_q rfl (r_pick_f rfl rfl) rfl ?_
                                            refine D_q rfl (r_assign rfl) rfl ?_
                                            refine D_q rfl (r_assign rfl) rfl ?_
                                            refine D_end ?_
                                            refine NX_as (L' := [(2, _), (3, _)]) [2, 3] rfl ?_
                                            refine C_ret (RX_block (RX_then (RX_g2 rfl rfl rfl (takesΦ_mk (h267) ?_))))
                                            simp [takesP, scalarKs, *]
                                        · (try simp only [decide_eq_true_eq, decide_eq_false_iff_not, beq_iff_eq, beq_eq_false_iff_ne, bne_iff_ne, bne_eq_false_iff_eq, Bool.not_eq_true', Bool.not_eq_false', Bool.not_eq_true, Bool.not_eq_false, ne_eq, Decidable.not_not] at h265)
                                          refine CW_region ?_
                                          refine W_q (r_bin rfl rfl (bin_eql _ _ _ _)) rfl ?_
                                          refine W_q (r_assign rfl) rfl ?_
                                          refine W_nil ?_
                                          refine NX_as (L' := [(1, _), (2, _), (3, _), (4, _), (5, _), (6, _), (7, _), (8, _), (9, _), (27, _), (155, _)]) [1, 2, 3, 4, 5, 6, 7, 8, 9, 27, 155] rfl ?_
                                          refine CW_condk rfl (fun h270 => ?_) (fun h270 => ?_)
                                          · (try simp only [decide_eq_true_eq, decide_eq_false_iff_not, beq_iff_eq, beq_eq_false_iff_ne, bne_iff_ne, bne_eq_false_iff_eq, Bool.not_eq_true', Bool.not_eq_false', Bool.not_eq_true, Bool.not_eq_false, ne_eq, Decidable.not_not] at h270)
                                            refine CW_seq ?_
                                            refine C_drawn [(0, true), (1, true), (2, true), (5, true), (6, true), (7, true), (3, false), (4, true), (8, true), (9, true), (10, true), (11, true), (12, true), (13, true), (14, true), (15, true)] (by kernel_rfl) rfl (by kernel_rfl) (by kernel_rfl) ?_
                                            refine D_q rfl (r_loadbk 2 (vs := [_, _]) rfl T.ag71 T.sz71 rfl rfl rfl) rfl ?_
                                            refine D_q rfl (r_loadbk 3 (vs := [_, _]) rfl T.ag71 T.sz71 rfl rfl rfl) rfl ?_
                                            refine D_q rfl (r_loadbk 0 (vs := [_, _]) rfl T.ag71 T.sz71 rfl rfl rfl) rfl ?_
                                            refine D_q rfl (r_fieldb (o' := 5) rfl T.fo51_5 rfl) rfl ?_
                                            refine D_q rfl (r_loadb 4 rfl T.ag49 rfl rfl) rfl ?_
                                            refine D_q rfl (r_bin rfl rfl (bin_eql _ _ _ _)) rfl ?_
                                            refine D_f rfl (fun hs271 hc271 => ?_)
                                            refine S_lit (vs := [_, _, _]) (cs := [_, _, _, _, _, _]) Tryz.underlying113 T.sz71 T.ze71 rfl rfl rfl rfl rfl rfl (fun m272 ad272 le272 l272 => ?_)
                                            replace hO := rOp_mono _ _ _ _ le272 hO
                                            replace h90 := h90.mono rI_mono le272
                                            have h272 : Sl rPair 2 m272 (some ad272) 3 _ := Pairs_lit [(_, _), (_, _), (_, _)] l272 (pairs_cons (by first | assumption | exact ⟨by omega, by omega⟩) (by first | assumption | exact ⟨by omega, by omega⟩) (pairs_cons (by first | assumption | exact ⟨by omega, by omega⟩) (by first | assumption | exact ⟨by omega, by omega⟩) (pairs_cons (by first | assumption | exact ⟨by omega, by omega⟩) (by first | assumption | exact ⟨by omega, by omega⟩) pairs_nil)))
                                            refine W_left hs271 hc271 (fun _ hw => hw.toPre.weak (le272) (List.Sublist.refl _)) ?_
                                            refine D_quiet rfl (kindrow_q _) T.hb214 rfl rfl ?_
                                            refine D_q rfl (r_move rfl) rfl ?_
                                            refine D_split (t := 166) rfl (fun h273 => ?_) (fun h273 => ?_)
                                            · (try simp only [decide_eq_true_eq, decide_eq_false_iff_not, beq_iff_eq, beq_eq_false_iff_ne, bne_iff_ne, bne_eq_false_iff_eq, Bool.not_eq_true', Bool.not_eq_false', Bool.not_eq_true, Bool.not_eq_false, ne_eq, Decidable.not_not] at h273)
                                              refine D_qt rfl rfl rfl (r_move rfl) rfl ?_
                                              refine D_q rfl (r_pick_t rfl rfl) rfl ?_
                                              refine D_q rfl (r_move rfl) rfl ?_
                                              refine D_split (t := 169) rfl (fun h274 => ?_) (fun h274 => ?_)
                                              · (try simp only [decide_eq_true_eq, decide_eq_false_iff_not, beq_iff_eq, beq_eq_false_iff_ne, bne_iff_ne, bne_eq_false_iff_eq, Bool.not_eq_true', Bool.not_eq_false', Bool.not_eq_true, Bool.not_eq_false, ne_eq, Decidable.not_not] at h274)
                                                refine D_qt rfl rfl rfl (r_move rfl) rfl ?_
                                                refine D_q rfl (r_pick_t rfl rfl) rfl ?_
                                                refine D_q rfl (r_assign rfl) rfl ?_
                                                refine D_q rfl (r_assign rfl) rfl ?_
                                                refine D_end ?_
                                                refine NX_as (L' := [(2, _), (3, _)]) [2, 3] rfl ?_
                                                refine C_ret (RX_block (RX_then (RX_g2 rfl rfl rfl (takesΦ_mk (h272) ?_))))
                                                simp [takesP, scalarKs, *]
                                              · (try simp only [decide_eq_true_eq, decide_eq_false_iff_not, beq_iff_eq, beq_eq_false_iff_ne, bne_iff_ne, bne_eq_false_iff_eq, Bool.not_eq_true', Bool.not_eq_false', Bool.not_eq_true, Bool.not_eq_false, ne_eq, Decidable.not_not] at h274)
                                                refine D_pass rfl rfl rfl rfl rfl ?_
                                                refine D_q rfl (r_pick_f rfl rfl) rfl ?_
                                                refine D_q rfl (r_assign rfl) rfl ?_
                                                refine D_q rfl (r_assign rfl) rfl ?_
                                                refine D_end ?_
                                                refine NX_as (L' := [(2, _), (3, _)]) [2, 3] rfl ?_
                                                refine C_ret (RX_block (RX_then (RX_g2 rfl rfl rfl (takesΦ_mk (h272) ?_))))
                                                simp [takesP, scalarKs, *]
                                            · (try simp only [decide_eq_true_eq, decide_eq_false_iff_not, beq_iff_eq, beq_eq_false_iff_ne, bne_iff_ne, bne_eq_false_iff_eq, Bool.not_eq_true', Bool.not_eq_false', Bool.not_eq_true, Bool.not_eq_false, ne_eq, Decidable.not_not] at h273)
                                              refine D_pass rfl rfl rfl rfl rfl ?_
                                              refine D_q rfl (r_pick_f rfl rfl) rfl ?_
                                              refine D_q rfl (r_move rfl) rfl ?_
                                              refine D_pass rfl rfl rfl rfl rfl ?_
                                              refine D_q rfl (r_pick_f rfl rfl) rfl ?_
                                              refine D_q rfl (r_assign rfl) rfl ?_
                                              refine D_q rfl (r_assign rfl) rfl ?_
                                              refine D_end ?_
                                              refine NX_as (L' := [(2, _), (3, _)]) [2, 3] rfl ?_
                                              refine C_ret (RX_block (RX_then (RX_g2 rfl rfl rfl (takesΦ_mk (h272) ?_))))
                                              simp [takesP, scalarKs, *]
                                          · (try simp only [decide_eq_true_eq, decide_eq_false_iff_not, beq_iff_eq, beq_eq_false_iff_ne, bne_iff_ne, bne_eq_false_iff_eq, Bool.not_eq_true', Bool.not_eq_false', Bool.not_eq_true, Bool.not_eq_false, ne_eq, Decidable.not_not] at h270)
                                            refine CW_seq ?_
                                            refine CW_region ?_
                                            refine W_q (r_bin rfl rfl (bin_eql _ _ _ _)) rfl ?_
                                            refine W_q (r_assign rfl) rfl ?_
                                            refine W_nil ?_
                                            refine NX_as (L' := [(1, _), (2, _), (3, _), (4, _), (5, _), (6, _), (8, _), (27, _), (172, _)]) [1, 2, 3, 4, 5, 6, 8, 27, 172] rfl ?_
                                            refine CW_condk rfl (fun h275 => ?_) (fun h275 => ?_)
                                            · (try simp only [decide_eq_true_eq, decide_eq_false_iff_not, beq_iff_eq, beq_eq_false_iff_ne, bne_iff_ne, bne_eq_false_iff_eq, Bool.not_eq_true', Bool.not_eq_false', Bool.not_eq_true, Bool.not_eq_false, ne_eq, Decidable.not_not] at h275)
                                              refine CW_seq ?_
                                              refine C_drawn [(0, true), (1, true), (2, true), (3, true), (6, true), (7, true), (8, true), (4, false), (5, true), (9, true), (10, true), (11, true), (12, true), (13, true)] (by kernel_rfl) rfl (by kernel_rfl) (by kernel_rfl) ?_
                                              refine D_q rfl (r_loadbk 2 (vs := [_, _]) rfl T.ag71 T.sz71 rfl rfl rfl) rfl ?_
                                              refine D_q rfl (r_loadbk 0 (vs := [_, _]) rfl T.ag71 T.sz71 rfl rfl rfl) rfl ?_
                                              refine D_q rfl (r_loadbk 0 (vs := [_, _]) rfl T.ag71 T.sz71 rfl rfl rfl) rfl ?_
                                              refine D_q rfl (r_loadbk 0 (vs := [_, _]) rfl T.ag71 T.sz71 rfl rfl rfl) rfl ?_
                                              refine D_q rfl (r_fieldb (o' := 5) rfl T.fo51_5 rfl) rfl ?_
                                              refine D_q rfl (r_loadb 4 rfl T.ag49 rfl rfl) rfl ?_
                                              refine D_q rfl (r_bin rfl rfl (bin_eql _ _ _ _)) rfl ?_
                                              refine D_f rfl (fun hs276 hc276 => ?_)
                                              refine S_lit (vs := [_, _, _, _]) (cs := [_, _, _, _, _, _, _, _]) Tryz.underlying113 T.sz71 T.ze71 rfl rfl rfl rfl rfl rfl (fun m277 ad277 le277 l277 => ?_)
                                              replace hO := rOp_mono _ _ _ _ le277 hO
                                              replace h90 := h90.mono rI_mono le277
                                              have h277 : Sl rPair 2 m277 (some ad277) 4 _ := Pairs_lit [(_, _), (_, _), (_, _), (_, _)] l277 (pairs_cons (by first | assumption | exact ⟨by omega, by omega⟩) (by first | assumption | exact ⟨by omega, by omega⟩) (pairs_cons (by first | assumption | exact ⟨by omega, by omega⟩) (by first | assumption | exact ⟨by omega, by omega⟩) (pairs_cons (by first | assumption | exact ⟨by omega, by omega⟩) (by first | assumption | exact ⟨by omega, by omega⟩) (pairs_cons (by first | assumption | exact ⟨by omega, by omega⟩) (by first | assumption | exact ⟨by omega, by omega⟩) pairs_nil))))
                                              refine W_left hs276 hc276 (fun _ hw => hw.toPre.weak (le277) (List.Sublist.refl _)) ?_
                                              refine D_quiet rfl (kindrow_q _) T.hb214 rfl rfl ?_
                                              refine D_q rfl (r_move rfl) rfl ?_
                                              refine D_split (t := 183) rfl (fun h278 => ?_) (fun h278 => ?_)
                                              · (try simp only [decide_eq_true_eq, decide_eq_false_iff_not, beq_iff_eq, beq_eq_false_iff_ne, bne_iff_ne, bne_eq_false_iff_eq, Bool.not_eq_true', Bool.not_eq_false', Bool.not_eq_true, Bool.not_eq_false, ne_eq, Decidable.not_not] at h278)
                                                refine D_qt rfl rfl rfl (r_move rfl) rfl ?_
                                                refine D_q rfl (r_pick_t rfl rfl) rfl ?_
                                                refine D_q rfl (r_assign rfl) rfl ?_
                                                refine D_q rfl (r_assign rfl) rfl ?_
                                                refine D_end ?_
                                                refine NX_as (L' := [(2, _), (3, _)]) [2, 3] rfl ?_
                                                refine C_ret (RX_block (RX_then (RX_g2 rfl rfl rfl (takesΦ_mk (h277) ?_))))
                                                simp [takesP, scalarKs, *]
                                              · (try simp only [decide_eq_true_eq, decide_eq_false_iff_not, beq_iff_eq, beq_eq_false_iff_ne, bne_iff_ne, bne_eq_false_iff_eq, Bool.not_eq_true', Bool.not_eq_false', Bool.not_eq_true, Bool.not_eq_false, ne_eq, Decidable.not_not] at h278)
                                                refine D_pass rfl rfl rfl rfl rfl ?_
                                                refine D_q rfl (r_pick_f rfl rfl) rfl ?_
                                                refine D_q rfl (r_assign rfl) rfl ?_
                                                refine D_q rfl (r_assign rfl) rfl ?_
                                                refine D_end ?_
                                                refine NX_as (L' := [(2, _), (3, _)]) [2, 3] rfl ?_
                                                refine C_ret (RX_block (RX_then (RX_g2 rfl rfl rfl (takesΦ_mk (h277) ?_))))
                                                simp [takesP, scalarKs, *]
                                            · (try simp only [decide_eq_true_eq, decide_eq_false_iff_not, beq_iff_eq, beq_eq_false_iff_ne, bne_iff_ne, bne_eq_false_iff_eq, Bool.not_eq_true', Bool.not_eq_false', Bool.not_eq_true, Bool.not_eq_false, ne_eq, Decidable.not_not] at h275)
                                              refine CW_seq ?_
                                              refine CW_region ?_
                                              refine W_q (r_bin rfl rfl (bin_eql _ _ _ _)) rfl ?_
                                              refine W_q (r_assign rfl) rfl ?_
                                              refine W_nil ?_
                                              refine NX_as (L' := [(1, _), (2, _), (3, _), (4, _), (5, _), (8, _), (27, _), (186, _)]) [1, 2, 3, 4, 5, 8, 27, 186] rfl ?_
                                              refine CW_condk rfl (fun h279 => ?_) (fun h279 => ?_)
                                              · (try simp only [decide_eq_true_eq, decide_eq_false_iff_not, beq_iff_eq, beq_eq_false_iff_ne, bne_iff_ne, bne_eq_false_iff_eq, Bool.not_eq_true', Bool.not_eq_false', Bool.not_eq_true, Bool.not_eq_false, ne_eq, Decidable.not_not] at h279)
                                                refine CW_seq ?_
                                                refine C_drawn [(0, true), (3, true), (4, true), (6, true), (7, true), (8, true), (1, false), (2, true), (5, false), (9, true), (10, true), (11, true), (12, true), (13, true), (14, true)] (by kernel_rfl) rfl (by kernel_rfl) (by kernel_rfl) ?_
                                                refine D_q rfl (r_loadbk 1 (vs := [_, _]) rfl T.ag71 T.sz71 rfl rfl rfl) rfl ?_
                                                refine D_q rfl (r_fieldb (o' := 2) rfl T.fo51_2 rfl) rfl ?_
                                                refine D_q rfl (r_loadb 4 rfl T.ag3 rfl rfl) rfl ?_
                                                refine D_q rfl (r_fieldb (o' := 5) rfl T.fo51_5 rfl) rfl ?_
                                                refine D_q rfl (r_loadb 4 rfl T.ag49 rfl rfl) rfl ?_
                                                refine D_q rfl (r_bin rfl rfl (bin_eql _ _ _ _)) rfl ?_
                                                refine D_f rfl (fun hs280 hc280 => ?_)
                                                refine S_lit (vs := [_]) (cs := [_, _]) Tryz.underlying113 T.sz71 T.ze71 rfl rfl rfl rfl rfl rfl (fun m281 ad281 le281 l281 => ?_)
                                                replace hO := rOp_mono _ _ _ _ le281 hO
                                                replace h90 := h90.mono rI_mono le281
                                                have h281 : Sl rPair 2 m281 (some ad281) 1 _ := Pairs_lit [(_, _)] l281 (pairs_cons (by first | assumption | exact ⟨by omega, by omega⟩) (by first | assumption | exact ⟨by omega, by omega⟩) pairs_nil)
                                                refine W_left hs280 hc280 (fun _ hw => hw.toPre.weak (le281) (List.Sublist.refl _)) ?_
                                                refine D_quiet rfl (kindrow_q _) T.hb214 rfl rfl ?_
                                                refine D_f rfl (fun hs282 hc282 => ?_)
                                                refine S_gives (RepeatP_g h281 (k := o.lanes.toNat) (by omega) (by omega) (by omega)) T.hb215 rfl rfl (fun m283 v283 le283 hv283 => ?_)
                                                replace hO := rOp_mono _ _ _ _ le283 hO
                                                replace h90 := h90.mono rI_mono le283
                                                replace h281 := h281.mono rPair_mono le283
                                                obtain ⟨ad283, rfl, h283⟩ := hv283
                                                refine W_left hs282 hc282 (fun _ hw => hw.toPre.weak (Imm.le_trans (le281) le283) (List.Sublist.refl _)) ?_
                                                refine D_q rfl (r_move rfl) rfl ?_
                                                refine D_split (t := 197) rfl (fun h284 => ?_) (fun h284 => ?_)
                                                · (try simp only [decide_eq_true_eq, decide_eq_false_iff_not, beq_iff_eq, beq_eq_false_iff_ne, bne_iff_ne, bne_eq_false_iff_eq, Bool.not_eq_true', Bool.not_eq_false', Bool.not_eq_true, Bool.not_eq_false, ne_eq, Decidable.not_not] at h284)
                                                  refine D_qt rfl rfl rfl (r_move rfl) rfl ?_
                                                  refine D_qt rfl rfl rfl (r_not rfl) rfl ?_
                                                  refine D_q rfl (r_pick_t rfl rfl) rfl ?_
                                                  refine D_q rfl (r_assign rfl) rfl ?_
                                                  refine D_q rfl (r_assign rfl) rfl ?_
                                                  refine D_end ?_
                                                  refine NX_as (L' := [(2, _), (3, _)]) [2, 3] rfl ?_
                                                  refine C_ret (RX_block (RX_then (RX_g2 rfl rfl rfl (takesΦ_mk (h283) ?_))))
                                                  simp [takesP, scalarKs, *]
                                                · (try simp only [decide_eq_true_eq, decide_eq_false_iff_not, beq_iff_eq, beq_eq_false_iff_ne, bne_iff_ne, bne_eq_false_iff_eq, Bool.not_eq_true', Bool.not_eq_false', Bool.not_eq_true, Bool.not_eq_false, ne_eq, Decidable.not_not] at h284)
                                                  refine D_pass rfl rfl rfl rfl rfl ?_
                                                  refine D_pass rfl rfl rfl rfl rfl ?_
                                                  refine D_q rfl (r_pick_f rfl rfl) rfl ?_
                                                  refine D_q rfl (r_assign rfl) rfl ?_
                                                  refine D_q rfl (r_assign rfl) rfl ?_
                                                  refine D_end ?_
                                                  refine NX_as (L' := [(2, _), (3, _)]) [2, 3] rfl ?_
                                                  refine C_ret (RX_block (RX_then (RX_g2 rfl rfl rfl (takesΦ_mk (h283) ?_))))
                                                  simp [takesP, scalarKs, *]
                                              · (try simp only [decide_eq_true_eq, decide_eq_false_iff_not, beq_iff_eq, beq_eq_false_iff_ne, bne_iff_ne, bne_eq_false_iff_eq, Bool.not_eq_true', Bool.not_eq_false', Bool.not_eq_true, Bool.not_eq_false, ne_eq, Decidable.not_not] at h279)
                                                refine CW_seq ?_
                                                refine CW_region ?_
                                                refine W_q (r_bin rfl rfl (bin_eql _ _ _ _)) rfl ?_
                                                refine W_q (r_assign rfl) rfl ?_
                                                refine W_nil ?_
                                                refine NX_as (L' := [(1, _), (2, _), (3, _), (4, _), (8, _), (201, _)]) [1, 2, 3, 4, 8, 201] rfl ?_
                                                refine CW_condk rfl (fun h285 => ?_) (fun h285 => ?_)
                                                · (try simp only [decide_eq_true_eq, decide_eq_false_iff_not, beq_iff_eq, beq_eq_false_iff_ne, bne_iff_ne, bne_eq_false_iff_eq, Bool.not_eq_true', Bool.not_eq_false', Bool.not_eq_true, Bool.not_eq_false, ne_eq, Decidable.not_not] at h285)
                                                  refine CW_seq ?_
                                                  refine C_drawn [(0, true), (3, true), (4, true), (1, false), (2, true), (5, true), (6, true), (7, true), (8, true), (9, true), (10, true), (11, true), (12, true), (13, true), (14, true)] (by kernel_rfl) rfl (by kernel_rfl) (by kernel_rfl) ?_
                                                  refine D_q rfl (r_loadbk 0 (vs := [_, _]) rfl T.ag71 T.sz71 rfl rfl rfl) rfl ?_
                                                  refine D_q rfl (r_move rfl) rfl ?_
                                                  refine D_q rfl (r_not rfl) rfl ?_
                                                  refine D_f rfl (fun hs286 hc286 => ?_)
                                                  refine S_lit (vs := [_]) (cs := [_, _]) Tryz.underlying113 T.sz71 T.ze71 rfl rfl rfl rfl rfl rfl (fun m287 ad287 le287 l287 => ?_)
                                                  replace hO := rOp_mono _ _ _ _ le287 hO
                                                  replace h90 := h90.mono rI_mono le287
                                                  have h287 : Sl rPair 2 m287 (some ad287) 1 _ := Pairs_lit [(_, _)] l287 (pairs_cons (by first | assumption | exact ⟨by omega, by omega⟩) (by first | assumption | exact ⟨by omega, by omega⟩) pairs_nil)
                                                  refine W_left hs286 hc286 (fun _ hw => hw.toPre.weak (le287) (List.Sublist.refl _)) ?_
                                                  refine D_quiet rfl (kindrow_q _) T.hb214 rfl rfl ?_
                                                  refine D_q rfl (r_move rfl) rfl ?_
                                                  refine D_split (t := 208) rfl (fun h288 => ?_) (fun h288 => ?_)
                                                  · (try simp only [decide_eq_true_eq, decide_eq_false_iff_not, beq_iff_eq, beq_eq_false_iff_ne, bne_iff_ne, bne_eq_false_iff_eq, Bool.not_eq_true', Bool.not_eq_false', Bool.not_eq_true, Bool.not_eq_false, ne_eq, Decidable.not_not] at h288)
                                                    refine D_qt rfl rfl rfl (r_fieldb (o' := 5) rfl T.fo51_5 rfl) rfl ?_
                                                    refine D_qt rfl rfl rfl (r_loadb 4 rfl T.ag49 rfl rfl) rfl ?_
                                                    refine D_qt rfl rfl rfl (r_fieldb (o' := 2) rfl T.fo51_2 rfl) rfl ?_
                                                    refine D_qt rfl rfl rfl (r_loadb 4 rfl T.ag3 rfl rfl) rfl ?_
                                                    refine D_qt rfl rfl rfl (r_convi Tryz.underlying3 Tryz.underlying49 rfl (u64_of _ ⟨by omega, by omega⟩)) rfl ?_
                                                    refine D_qt rfl rfl rfl (r_bin rfl rfl (bin_lss _ _ _ _)) rfl ?_
                                                    refine D_q rfl (r_pick_t rfl rfl) rfl ?_
                                                    refine D_q rfl (r_assign rfl) rfl ?_
                                                    refine D_q rfl (r_assign rfl) rfl ?_
                                                    refine D_end ?_
                                                    refine NX_as (L' := [(2, _), (3, _)]) [2, 3] rfl ?_
                                                    refine C_ret (RX_block (RX_then (RX_g2 rfl rfl rfl (takesΦ_mk (h287) ?_))))
                                                    simp [takesP, scalarKs, *]
                                                  · (try simp only [decide_eq_true_eq, decide_eq_false_iff_not, beq_iff_eq, beq_eq_false_iff_ne, bne_iff_ne, bne_eq_false_iff_eq, Bool.not_eq_true', Bool.not_eq_false', Bool.not_eq_true, Bool.not_eq_false, ne_eq, Decidable.not_not] at h288)
                                                    refine D_pass rfl rfl rfl rfl rfl ?_
                                                    refine D_pass rfl rfl rfl rfl rfl ?_
                                                    refine D_pass rfl rfl rfl rfl rfl ?_
                                                    refine D_pass rfl rfl rfl rfl rfl ?_
                                                    refine D_pass rfl rfl rfl rfl rfl ?_
                                                    refine D_pass rfl rfl rfl rfl rfl ?_
                                                    refine D_q rfl (r_pick_f rfl rfl) rfl ?_
                                                    refine D_q rfl (r_assign rfl) rfl ?_
                                                    refine D_q rfl (r_assign rfl) rfl ?_
                                                    refine D_end ?_
                                                    refine NX_as (L' := [(2, _), (3, _)]) [2, 3] rfl ?_
                                                    refine C_ret (RX_block (RX_then (RX_g2 rfl rfl rfl (takesΦ_mk (h287) ?_))))
                                                    simp [takesP, scalarKs, *]
                                                · (try simp only [decide_eq_true_eq, decide_eq_false_iff_not, beq_iff_eq, beq_eq_false_iff_ne, bne_iff_ne, bne_eq_false_iff_eq, Bool.not_eq_true', Bool.not_eq_false', Bool.not_eq_true, Bool.not_eq_false, ne_eq, Decidable.not_not] at h285)
                                                  refine C_skip ?_
                                                  refine NX_block (NX_as (L' := [(2, _), (3, _)]) [2, 3] rfl ?_)
                                                  refine CW_seq ?_
                                                  refine CW_region ?_
                                                  refine W_q (r_assign rfl) rfl ?_
                                                  refine W_q (r_assign rfl) rfl ?_
                                                  refine W_nil ?_
                                                  refine NX_as (L' := [(2, _), (3, _)]) [2, 3] rfl ?_
                                                  refine C_ret (RX_g2 rfl rfl rfl (takesΦ_mk (Sl.nil _ _ _) ?_))
                                                  simp [takesP, scalarKs, *]

end Go.Proofs.YtipmgkhjoekaaaaGreat

set_option linter.unusedVariables false
set_option linter.unusedSimpArgs false
namespace Go.Proofs.YtipmgkhjoekaaaaGreat
open Go Go.RowKit Go.Proofs Go.Proofs.YtipmgkhjoekaaaaGreat.Fw
attribute [local irreducible] Qt WL CW NX RX EX GX DL
namespace T
theorem hb190 : hasBody Tryz.prog 190 = true := by kernel_rfl
theorem hb191 : hasBody Tryz.prog 191 = true := by kernel_rfl
theorem hb205 : hasBody Tryz.prog 205 = true := by kernel_rfl
theorem hb206 : hasBody Tryz.prog 206 = true := by kernel_rfl
theorem hb207 : hasBody Tryz.prog 207 = true := by kernel_rfl
theorem hb208 : hasBody Tryz.prog 208 = true := by kernel_rfl
end T
set_option maxHeartbeats 4000000 in
/-- kind.May$1 -/
theorem KMay1_q {m : Imm} (v : Int) : Quiet Tryz.prog 208 [.int .i64 v] m (.bool (!(valueB v))) := by
  refine quiet_of Tryz.func208 rfl Tryz.ntmps208 rfl (fun w => ?_)
  refine CW_seq ?_
  refine CW_region ?_
  refine W_q (r_assign rfl) rfl ?_
  refine W_nil ?_
  refine NX_as (L' := [(0, _), (2, _)]) [0, 2] rfl ?_
  refine CW_seq ?_
  refine CW_region ?_
  refine W_q (r_move rfl) rfl ?_
  refine W_quiet (value_q _) T.hb207 rfl rfl ?_
  refine W_q (r_not rfl) rfl ?_
  refine W_q (r_assign rfl) rfl ?_
  refine W_nil ?_
  refine NX_as (L' := [(2, _)]) [2] rfl ?_
  refine C_ret (RX_q1 rfl rfl ?_)
  rfl

set_option maxHeartbeats 40000000 in
/-- kind.May -/
theorem KMay_q {m : Imm} {es : List Value} {o : FOp} (hO : rOp m es o) : Quiet Tryz.prog 190 [.agg es.toArray] m (.bool (mayOpK o)) := by
  have hO_0 := hO
  obtain ⟨A90, c90, rfl, h90, i90a, i90b, i90c, i90d, i90e⟩ := hO_0
  refine quiet_of Tryz.func190 rfl Tryz.ntmps190 rfl (fun w => ?_)
  refine CW_seq ?_
  refine CW_region ?_
  refine S_box (l := [_, _, _, _, _, _]) rfl rfl rfl (fun b1 => ?_)
  refine W_q (r_assign rfl) rfl ?_
  refine W_nil ?_
  refine NX_as (L' := [(1, _), (2, _)]) [1, 2] rfl ?_
  refine CW_seq ?_
  refine CW_seq ?_
  refine CW_region ?_
  refine W_q (r_fieldb (o' := 1) rfl T.fo51_1 rfl) rfl ?_
  refine W_q (r_loadb 0 rfl T.ag3 rfl rfl) rfl ?_
  refine W_q (r_fieldb (o' := 2) rfl T.fo51_2 rfl) rfl ?_
  refine W_q (r_loadb 0 rfl T.ag3 rfl rfl) rfl ?_
  refine W_quiet (Shape_q _ _) T.hb205 rfl rfl ?_
  refine W_q (r_not rfl) rfl ?_
  refine W_nil ?_
  refine NX_as (L' := [(1, _), (2, _), (11, _)]) [1, 2, 11] rfl ?_
  refine CW_condk rfl (fun h2 => ?_) (fun h2 => ?_)
  · (try simp only [decide_eq_true_eq, decide_eq_false_iff_not, beq_iff_eq, beq_eq_false_iff_ne, bne_iff_ne, bne_eq_false_iff_eq, Bool.not_eq_true', Bool.not_eq_false', Bool.not_eq_true, Bool.not_eq_false, ne_eq, Decidable.not_not] at h2)
    refine CW_seq ?_
    refine CW_region ?_
    refine W_q (r_assign rfl) rfl ?_
    refine W_nil ?_
    refine NX_as (L' := [(1, _), (2, _)]) [1, 2] rfl ?_
    refine C_ret (RX_then (RX_q1 rfl rfl ?_))
    simp_all [mayOpK]
  · (try simp only [decide_eq_true_eq, decide_eq_false_iff_not, beq_iff_eq, beq_eq_false_iff_ne, bne_iff_ne, bne_eq_false_iff_eq, Bool.not_eq_true', Bool.not_eq_false', Bool.not_eq_true, Bool.not_eq_false, ne_eq, Decidable.not_not] at h2)
    refine C_skip ?_
    refine NX_as (L' := [(1, _), (2, _)]) [1, 2] rfl ?_
    refine CW_seq ?_
    refine CW_region ?_
    refine W_q (r_loadbk 0 (vs := [_, _, _, _, _, _]) rfl T.ag51 T.sz51 rfl rfl rfl) rfl ?_
    refine S_gives (takes_g hO h2) T.hb206 rfl rfl (fun m3 v3 le3 hv3 => ?_)
    replace hO := rOp_mono _ _ _ _ le3 hO
    replace h90 := h90.mono rI_mono le3
    obtain ⟨A3, c3, rfl, h3⟩ := hv3
    refine W_q (r_move rfl) rfl ?_
    refine W_q (r_extract rfl rfl) rfl ?_
    refine W_q (r_extract rfl rfl) rfl ?_
    refine W_q (r_assign rfl) rfl ?_
    refine W_q (r_assign rfl) rfl ?_
    refine W_nil ?_
    refine NX_as (L' := [(1, _), (2, _), (3, _), (4, _)]) [1, 2, 3, 4] rfl ?_
    refine CW_seq ?_
    refine CW_region ?_
    refine W_q (r_fieldb (o' := 3) rfl T.fo51_3 rfl) rfl ?_
    refine W_q (r_loadb 0 rfl T.ag3 rfl rfl) rfl ?_
    refine W_quiet (value_q _) T.hb207 rfl rfl ?_
    refine W_q (r_assign rfl) rfl ?_
    refine W_nil ?_
    refine NX_as (L' := [(1, _), (2, _), (3, _), (4, _), (5, _)]) [1, 2, 3, 4, 5] rfl ?_
    refine CW_seq ?_
    refine CW_seq ?_
    refine CW_region ?_
    refine W_q (r_fieldb (o' := 0) rfl T.fo51_0 rfl) rfl ?_
    refine W_q (r_loadb 0 rfl T.ag3 rfl rfl) rfl ?_
    refine W_quiet (stores_q _) T.hb191 rfl rfl ?_
    refine W_nil ?_
    refine NX_as (L' := [(1, _), (2, _), (3, _), (4, _), (5, _), (22, _)]) [1, 2, 3, 4, 5, 22] rfl ?_
    refine CW_condk rfl (fun h4 => ?_) (fun h4 => ?_)
    · (try simp only [decide_eq_true_eq, decide_eq_false_iff_not, beq_iff_eq, beq_eq_false_iff_ne, bne_iff_ne, bne_eq_false_iff_eq, Bool.not_eq_true', Bool.not_eq_false', Bool.not_eq_true, Bool.not_eq_false, ne_eq, Decidable.not_not] at h4)
      refine CW_region ?_
      refine W_q (r_fieldb (o' := 3) rfl T.fo51_3 rfl) rfl ?_
      refine W_q (r_loadb 0 rfl T.ag3 rfl rfl) rfl ?_
      refine W_q (r_bin rfl rfl (bin_eql _ _ _ _)) rfl ?_
      refine W_q (r_assign rfl) rfl ?_
      refine W_nil ?_
      refine NX_as (L' := [(1, _), (2, _), (3, _), (4, _), (5, _)]) [1, 2, 3, 4, 5] rfl ?_
      refine CW_seq ?_
      refine CW_region ?_
      refine W_q (r_move rfl) rfl ?_
      refine W_q (r_move rfl) rfl ?_
      refine WL_split (t := 27) rfl (fun h5 => ?_) (fun h5 => ?_)
      · (try simp only [decide_eq_true_eq, decide_eq_false_iff_not, beq_iff_eq, beq_eq_false_iff_ne, bne_iff_ne, bne_eq_false_iff_eq, Bool.not_eq_true', Bool.not_eq_false', Bool.not_eq_true, Bool.not_eq_false, ne_eq, Decidable.not_not] at h5)
        refine WL_take rfl rfl ?_
        refine W_q (r_move rfl) rfl ?_
        refine W_q (r_pick_t rfl rfl) rfl ?_
        refine W_q (r_move rfl) rfl ?_
        refine WL_split (t := 30) rfl (fun h6 => ?_) (fun h6 => ?_)
        · (try simp only [decide_eq_true_eq, decide_eq_false_iff_not, beq_iff_eq, beq_eq_false_iff_ne, bne_iff_ne, bne_eq_false_iff_eq, Bool.not_eq_true', Bool.not_eq_false', Bool.not_eq_true, Bool.not_eq_false, ne_eq, Decidable.not_not] at h6)
          refine WL_take rfl rfl ?_
          refine W_q (r_move rfl) rfl ?_
          refine WL_take rfl rfl ?_
          refine W_q (r_len Tryz.underlying113 rfl) rfl ?_
          refine WL_take rfl rfl ?_
          refine W_q (r_fieldb (o' := 4) rfl T.fo51_4 rfl) rfl ?_
          refine WL_take rfl rfl ?_
          refine W_q (r_loadb 0 rfl T.ag22 rfl rfl) rfl ?_
          refine WL_take rfl rfl ?_
          refine W_q (r_len Tryz.underlying22 rfl) rfl ?_
          refine WL_take rfl rfl ?_
          refine W_q (r_bin rfl rfl (bin_eql _ _ _ _)) rfl ?_
          refine W_q (r_pick_t rfl rfl) rfl ?_
          refine W_q (r_move rfl) rfl ?_
          refine WL_split (t := 38) rfl (fun h7 => ?_) (fun h7 => ?_)
          · (try simp only [decide_eq_true_eq, decide_eq_false_iff_not, beq_iff_eq, beq_eq_false_iff_ne, bne_iff_ne, bne_eq_false_iff_eq, Bool.not_eq_true', Bool.not_eq_false', Bool.not_eq_true, Bool.not_eq_false, ne_eq, Decidable.not_not] at h7)
            refine WL_take rfl rfl ?_
            refine W_q (r_fieldb (o' := 4) rfl T.fo51_4 rfl) rfl ?_
            refine WL_take rfl rfl ?_
            refine W_q (r_loadb 0 rfl T.ag22 rfl rfl) rfl ?_
            refine WL_take rfl rfl ?_
            refine W_quiet (ContainsFuncI_q h90 (p := fun v => !(valueB v)) (K := 208) T.hb208 (fun z _ => KMay1_q z)) T.hb86 rfl rfl ?_
            refine WL_take rfl rfl ?_
            refine W_q (r_not rfl) rfl ?_
            refine W_q (r_pick_t rfl rfl) rfl ?_
            refine W_q (r_assign rfl) rfl ?_
            refine W_nil ?_
            refine NX_as (L' := [(2, _)]) [2] rfl ?_
            refine C_ret (RX_q1 rfl rfl ?_)
            simp_all [mayOpK]
          · (try simp only [decide_eq_true_eq, decide_eq_false_iff_not, beq_iff_eq, beq_eq_false_iff_ne, bne_iff_ne, bne_eq_false_iff_eq, Bool.not_eq_true', Bool.not_eq_false', Bool.not_eq_true, Bool.not_eq_false, ne_eq, Decidable.not_not] at h7)
            refine WL_pass rfl rfl rfl rfl ?_
            refine WL_pass rfl rfl rfl rfl ?_
            refine WL_pass rfl rfl rfl rfl ?_
            refine WL_pass rfl rfl rfl rfl ?_
            refine W_q (r_pick_f rfl rfl) rfl ?_
            refine W_q (r_assign rfl) rfl ?_
            refine W_nil ?_
            refine NX_as (L' := [(2, _)]) [2] rfl ?_
            refine C_ret (RX_q1 rfl rfl ?_)
            simp_all [mayOpK]
        · (try simp only [decide_eq_true_eq, decide_eq_false_iff_not, beq_iff_eq, beq_eq_false_iff_ne, bne_iff_ne, bne_eq_false_iff_eq, Bool.not_eq_true', Bool.not_eq_false', Bool.not_eq_true, Bool.not_eq_false, ne_eq, Decidable.not_not] at h6)
          refine WL_pass rfl rfl rfl rfl ?_
          refine WL_pass rfl rfl rfl rfl ?_
          refine WL_pass rfl rfl rfl rfl ?_
          refine WL_pass rfl rfl rfl rfl ?_
          refine WL_pass rfl rfl rfl rfl ?_
          refine WL_pass rfl rfl rfl rfl ?_
          refine W_q (r_pick_f rfl rfl) rfl ?_
          refine W_q (r_move rfl) rfl ?_
          refine WL_pass rfl rfl rfl rfl ?_
          refine WL_pass rfl rfl rfl rfl ?_
          refine WL_pass rfl rfl rfl rfl ?_
          refine WL_pass rfl rfl rfl rfl ?_
          refine W_q (r_pick_f rfl rfl) rfl ?_
          refine W_q (r_assign rfl) rfl ?_
          refine W_nil ?_
          refine NX_as (L' := [(2, _)]) [2] rfl ?_
          refine C_ret (RX_q1 rfl rfl ?_)
          simp_all [mayOpK]
      · (try simp only [decide_eq_true_eq, decide_eq_false_iff_not, beq_iff_eq, beq_eq_false_iff_ne, bne_iff_ne, bne_eq_false_iff_eq, Bool.not_eq_true', Bool.not_eq_false', Bool.not_eq_true, Bool.not_eq_false, ne_eq, Decidable.not_not] at h5)
        refine WL_pass rfl rfl rfl rfl ?_
        refine W_q (r_pick_f rfl rfl) rfl ?_
        refine W_q (r_move rfl) rfl ?_
        refine WL_pass rfl rfl rfl rfl ?_
        refine WL_pass rfl rfl rfl rfl ?_
        refine WL_pass rfl rfl rfl rfl ?_
        refine WL_pass rfl rfl rfl rfl ?_
        refine WL_pass rfl rfl rfl rfl ?_
        refine WL_pass rfl rfl rfl rfl ?_
        refine W_q (r_pick_f rfl rfl) rfl ?_
        refine W_q (r_move rfl) rfl ?_
        refine WL_pass rfl rfl rfl rfl ?_
        refine WL_pass rfl rfl rfl rfl ?_
        refine WL_pass rfl rfl rfl rfl ?_
        refine WL_pass rfl rfl rfl rfl ?_
        refine W_q (r_pick_f rfl rfl) rfl ?_
        refine W_q (r_assign rfl) rfl ?_
        refine W_nil ?_
        refine NX_as (L' := [(2, _)]) [2] rfl ?_
        refine C_ret (RX_q1 rfl rfl ?_)
        simp_all [mayOpK]
    · (try simp only [decide_eq_true_eq, decide_eq_false_iff_not, beq_iff_eq, beq_eq_false_iff_ne, bne_iff_ne, bne_eq_false_iff_eq, Bool.not_eq_true', Bool.not_eq_false', Bool.not_eq_true, Bool.not_eq_false, ne_eq, Decidable.not_not] at h4)
      refine C_skip ?_
      refine NX_as (L' := [(1, _), (2, _), (3, _), (4, _), (5, _)]) [1, 2, 3, 4, 5] rfl ?_
      refine CW_seq ?_
      refine CW_region ?_
      refine W_q (r_move rfl) rfl ?_
      refine W_q (r_move rfl) rfl ?_
      refine WL_split (t := 27) rfl (fun h8 => ?_) (fun h8 => ?_)
      · (try simp only [decide_eq_true_eq, decide_eq_false_iff_not, beq_iff_eq, beq_eq_false_iff_ne, bne_iff_ne, bne_eq_false_iff_eq, Bool.not_eq_true', Bool.not_eq_false', Bool.not_eq_true, Bool.not_eq_false, ne_eq, Decidable.not_not] at h8)
        refine WL_take rfl rfl ?_
        refine W_q (r_move rfl) rfl ?_
        refine W_q (r_pick_t rfl rfl) rfl ?_
        refine W_q (r_move rfl) rfl ?_
        refine WL_split (t := 30) rfl (fun h9 => ?_) (fun h9 => ?_)
        · (try simp only [decide_eq_true_eq, decide_eq_false_iff_not, beq_iff_eq, beq_eq_false_iff_ne, bne_iff_ne, bne_eq_false_iff_eq, Bool.not_eq_true', Bool.not_eq_false', Bool.not_eq_true, Bool.not_eq_false, ne_eq, Decidable.not_not] at h9)
          refine WL_take rfl rfl ?_
          refine W_q (r_move rfl) rfl ?_
          refine WL_take rfl rfl ?_
          refine W_q (r_len Tryz.underlying113 rfl) rfl ?_
          refine WL_take rfl rfl ?_
          refine W_q (r_fieldb (o' := 4) rfl T.fo51_4 rfl) rfl ?_
          refine WL_take rfl rfl ?_
          refine W_q (r_loadb 0 rfl T.ag22 rfl rfl) rfl ?_
          refine WL_take rfl rfl ?_
          refine W_q (r_len Tryz.underlying22 rfl) rfl ?_
          refine WL_take rfl rfl ?_
          refine W_q (r_bin rfl rfl (bin_eql _ _ _ _)) rfl ?_
          refine W_q (r_pick_t rfl rfl) rfl ?_
          refine W_q (r_move rfl) rfl ?_
          refine WL_split (t := 38) rfl (fun h10 => ?_) (fun h10 => ?_)
          · (try simp only [decide_eq_true_eq, decide_eq_false_iff_not, beq_iff_eq, beq_eq_false_iff_ne, bne_iff_ne, bne_eq_false_iff_eq, Bool.not_eq_true', Bool.not_eq_false', Bool.not_eq_true, Bool.not_eq_false, ne_eq, Decidable.not_not] at h10)
            refine WL_take rfl rfl ?_
            refine W_q (r_fieldb (o' := 4) rfl T.fo51_4 rfl) rfl ?_
            refine WL_take rfl rfl ?_
            refine W_q (r_loadb 0 rfl T.ag22 rfl rfl) rfl ?_
            refine WL_take rfl rfl ?_
            refine W_quiet (ContainsFuncI_q h90 (p := fun v => !(valueB v)) (K := 208) T.hb208 (fun z _ => KMay1_q z)) T.hb86 rfl rfl ?_
            refine WL_take rfl rfl ?_
            refine W_q (r_not rfl) rfl ?_
            refine W_q (r_pick_t rfl rfl) rfl ?_
            refine W_q (r_assign rfl) rfl ?_
            refine W_nil ?_
            refine NX_as (L' := [(2, _)]) [2] rfl ?_
            refine C_ret (RX_q1 rfl rfl ?_)
            simp_all [mayOpK]
          · (try simp only [decide_eq_true_eq, decide_eq_false_iff_not, beq_iff_eq, beq_eq_false_iff_ne, bne_iff_ne, bne_eq_false_iff_eq, Bool.not_eq_true', Bool.not_eq_false', Bool.not_eq_true, Bool.not_eq_false, ne_eq, Decidable.not_not] at h10)
            refine WL_pass rfl rfl rfl rfl ?_
            refine WL_pass rfl rfl rfl rfl ?_
            refine WL_pass rfl rfl rfl rfl ?_
            refine WL_pass rfl rfl rfl rfl ?_
            refine W_q (r_pick_f rfl rfl) rfl ?_
            refine W_q (r_assign rfl) rfl ?_
            refine W_nil ?_
            refine NX_as (L' := [(2, _)]) [2] rfl ?_
            refine C_ret (RX_q1 rfl rfl ?_)
            simp_all [mayOpK]
        · (try simp only [decide_eq_true_eq, decide_eq_false_iff_not, beq_iff_eq, beq_eq_false_iff_ne, bne_iff_ne, bne_eq_false_iff_eq, Bool.not_eq_true', Bool.not_eq_false', Bool.not_eq_true, Bool.not_eq_false, ne_eq, Decidable.not_not] at h9)
          refine WL_pass rfl rfl rfl rfl ?_
          refine WL_pass rfl rfl rfl rfl ?_
          refine WL_pass rfl rfl rfl rfl ?_
          refine WL_pass rfl rfl rfl rfl ?_
          refine WL_pass rfl rfl rfl rfl ?_
          refine WL_pass rfl rfl rfl rfl ?_
          refine W_q (r_pick_f rfl rfl) rfl ?_
          refine W_q (r_move rfl) rfl ?_
          refine WL_pass rfl rfl rfl rfl ?_
          refine WL_pass rfl rfl rfl rfl ?_
          refine WL_pass rfl rfl rfl rfl ?_
          refine WL_pass rfl rfl rfl rfl ?_
          refine W_q (r_pick_f rfl rfl) rfl ?_
          refine W_q (r_assign rfl) rfl ?_
          refine W_nil ?_
          refine NX_as (L' := [(2, _)]) [2] rfl ?_
          refine C_ret (RX_q1 rfl rfl ?_)
          simp_all [mayOpK]
      · (try simp only [decide_eq_true_eq, decide_eq_false_iff_not, beq_iff_eq, beq_eq_false_iff_ne, bne_iff_ne, bne_eq_false_iff_eq, Bool.not_eq_true', Bool.not_eq_false', Bool.not_eq_true, Bool.not_eq_false, ne_eq, Decidable.not_not] at h8)
        refine WL_pass rfl rfl rfl rfl ?_
        refine W_q (r_pick_f rfl rfl) rfl ?_
        refine W_q (r_move rfl) rfl ?_
        refine WL_pass rfl rfl rfl rfl ?_
        refine WL_pass rfl rfl rfl rfl ?_
        refine WL_pass rfl rfl rfl rfl ?_
        refine WL_pass rfl rfl rfl rfl ?_
        refine WL_pass rfl rfl rfl rfl ?_
        refine WL_pass rfl rfl rfl rfl ?_
        refine W_q (r_pick_f rfl rfl) rfl ?_
        refine W_q (r_move rfl) rfl ?_
        refine WL_pass rfl rfl rfl rfl ?_
        refine WL_pass rfl rfl rfl rfl ?_
        refine WL_pass rfl rfl rfl rfl ?_
        refine WL_pass rfl rfl rfl rfl ?_
        refine W_q (r_pick_f rfl rfl) rfl ?_
        refine W_q (r_assign rfl) rfl ?_
        refine W_nil ?_
        refine NX_as (L' := [(2, _)]) [2] rfl ?_
        refine C_ret (RX_q1 rfl rfl ?_)
        simp_all [mayOpK]

set_option maxHeartbeats 40000000 in
/-- kind.Takes -/
theorem Takes_g {m : Imm} {es : List Value} {o : FOp} (hO : rOp m es o) : Gives Tryz.prog 192 [.agg es.toArray] m (PairsΦ (takesK o)) := by
  have hO_0 := hO
  obtain ⟨A90, c90, rfl, h90, i90a, i90b, i90c, i90d, i90e⟩ := hO_0
  refine gives_of Tryz.func192 rfl Tryz.ntmps192 rfl (fun w => ?_)
  refine CW_seq ?_
  refine CW_region ?_
  refine S_box (l := [_, _, _, _, _, _]) rfl rfl rfl (fun b1 => ?_)
  refine W_q (r_assign rfl) rfl ?_
  refine W_nil ?_
  refine NX_as (L' := [(1, _), (2, _)]) [1, 2] rfl ?_
  refine CW_seq ?_
  refine CW_seq ?_
  refine CW_region ?_
  refine W_q (r_loadbk 0 (vs := [_, _, _, _, _, _]) rfl T.ag51 T.sz51 rfl rfl rfl) rfl ?_
  refine W_quiet (KMay_q hO) T.hb190 rfl rfl ?_
  refine W_q (r_not rfl) rfl ?_
  refine W_nil ?_
  refine NX_as (L' := [(1, _), (2, _), (7, _)]) [1, 2, 7] rfl ?_
  refine CW_condk rfl (fun h2 => ?_) (fun h2 => ?_)
  · (try simp only [decide_eq_true_eq, decide_eq_false_iff_not, beq_iff_eq, beq_eq_false_iff_ne, bne_iff_ne, bne_eq_false_iff_eq, Bool.not_eq_true', Bool.not_eq_false', Bool.not_eq_true, Bool.not_eq_false, ne_eq, Decidable.not_not] at h2)
    refine CW_seq ?_
    refine CW_region ?_
    refine W_q (r_assign rfl) rfl ?_
    refine W_nil ?_
    refine NX_as (L' := [(1, _), (2, _)]) [1, 2] rfl ?_
    refine C_ret (RX_then (RX_g1 rfl rfl (takesK_mk (Sl.nil _ _ _) ?_)))
    simp_all [takesK]
  · (try simp only [decide_eq_true_eq, decide_eq_false_iff_not, beq_iff_eq, beq_eq_false_iff_ne, bne_iff_ne, bne_eq_false_iff_eq, Bool.not_eq_true', Bool.not_eq_false', Bool.not_eq_true, Bool.not_eq_false, ne_eq, Decidable.not_not] at h2)
    refine C_skip ?_
    refine NX_as (L' := [(1, _), (2, _)]) [1, 2] rfl ?_
    refine CW_seq ?_
    refine CW_region ?_
    refine W_q (r_loadbk 0 (vs := [_, _, _, _, _, _]) rfl T.ag51 T.sz51 rfl rfl rfl) rfl ?_
    refine S_gives (takes_g hO (mayOpK_shape h2)) T.hb206 rfl rfl (fun m3 v3 le3 hv3 => ?_)
    replace hO := rOp_mono _ _ _ _ le3 hO
    replace h90 := h90.mono rI_mono le3
    obtain ⟨A3, c3, rfl, h3⟩ := hv3
    refine W_q (r_move rfl) rfl ?_
    refine W_q (r_extract rfl rfl) rfl ?_
    refine W_q (r_extract rfl rfl) rfl ?_
    refine W_q (r_assign rfl) rfl ?_
    refine W_q (r_assign rfl) rfl ?_
    refine W_nil ?_
    refine NX_as (L' := [(2, _), (3, _)]) [2, 3] rfl ?_
    refine CW_seq ?_
    refine CW_region ?_
    refine W_q (r_move rfl) rfl ?_
    refine W_q (r_assign rfl) rfl ?_
    refine W_nil ?_
    refine NX_as (L' := [(2, _)]) [2] rfl ?_
    refine C_ret (RX_g1 rfl rfl (takesK_mk h3 ?_))
    simp_all [takesK]

set_option maxHeartbeats 40000000 in
/-- kind.Gives -/
theorem Gives_q {m : Imm} {es : List Value} {o : FOp} (hO : rOp m es o) : Quiet Tryz.prog 161 [.agg es.toArray] m (.tuple #[.int .i64 (givesP o).1, .int .i64 (givesP o).2]) := by
  have hO_0 := hO
  obtain ⟨A90, c90, rfl, h90, i90a, i90b, i90c, i90d, i90e⟩ := hO_0
  refine quiet_of Tryz.func161 rfl Tryz.ntmps161 rfl (fun w => ?_)
  refine CW_seq ?_
  refine CW_region ?_
  refine S_box (l := [_, _, _, _, _, _]) rfl rfl rfl (fun b1 => ?_)
  refine W_q (r_assign rfl) rfl ?_
  refine W_q (r_assign rfl) rfl ?_
  refine W_nil ?_
  refine NX_as (L' := [(1, _), (2, _), (3, _)]) [1, 2, 3] rfl ?_
  refine CW_seq ?_
  refine CW_block ?_
  refine CW_seq ?_
  refine CW_region ?_
  refine W_q (r_loadbk 0 (vs := [_, _, _, _, _, _]) rfl T.ag51 T.sz51 rfl rfl rfl) rfl ?_
  refine W_quiet (KMay_q hO) T.hb190 rfl rfl ?_
  refine W_q (r_not rfl) rfl ?_
  refine W_q (r_move rfl) rfl ?_
  refine WL_split (t := 8) rfl (fun h2 => ?_) (fun h2 => ?_)
  · (try simp only [decide_eq_true_eq, decide_eq_false_iff_not, beq_iff_eq, beq_eq_false_iff_ne, bne_iff_ne, bne_eq_false_iff_eq, Bool.not_eq_true', Bool.not_eq_false', Bool.not_eq_true, Bool.not_eq_false, ne_eq, Decidable.not_not] at h2)
    refine WL_pass rfl rfl rfl rfl ?_
    refine WL_pass rfl rfl rfl rfl ?_
    refine WL_pass rfl rfl rfl rfl ?_
    refine W_q (r_pick_t rfl rfl) rfl ?_
    refine W_q (r_assign rfl) rfl ?_
    refine W_nil ?_
    refine NX_as (L' := [(1, _), (2, _), (3, _), (4, _)]) [1, 2, 3, 4] rfl ?_
    refine CW_cond_t rfl ?_
    refine CW_seq ?_
    refine CW_region ?_
    refine W_q (r_assign rfl) rfl ?_
    refine W_q (r_assign rfl) rfl ?_
    refine W_nil ?_
    refine NX_as (L' := [(1, _), (2, _), (3, _)]) [1, 2, 3] rfl ?_
    refine C_ret (RX_block (RX_then (RX_q2 rfl rfl rfl ?_ ?_)))
    · first
        | (simp_all [givesP]; done)
        | (simp_all [givesP]; rw [if_neg (by omega)])
    · first
        | (simp_all [givesP]; done)
        | (simp_all [givesP]; rw [if_neg (by omega)])
  · (try simp only [decide_eq_true_eq, decide_eq_false_iff_not, beq_iff_eq, beq_eq_false_iff_ne, bne_iff_ne, bne_eq_false_iff_eq, Bool.not_eq_true', Bool.not_eq_false', Bool.not_eq_true, Bool.not_eq_false, ne_eq, Decidable.not_not] at h2)
    refine WL_take rfl rfl ?_
    refine W_q (r_fieldb (o' := 0) rfl T.fo51_0 rfl) rfl ?_
    refine WL_take rfl rfl ?_
    refine W_q (r_loadb 0 rfl T.ag3 rfl rfl) rfl ?_
    refine WL_take rfl rfl ?_
    refine W_quiet (stores_q _) T.hb191 rfl rfl ?_
    refine W_q (r_pick_f rfl rfl) rfl ?_
    refine W_q (r_assign rfl) rfl ?_
    refine W_nil ?_
    refine NX_as (L' := [(1, _), (2, _), (3, _), (4, _)]) [1, 2, 3, 4] rfl ?_
    refine CW_condk rfl (fun h3 => ?_) (fun h3 => ?_)
    · (try simp only [decide_eq_true_eq, decide_eq_false_iff_not, beq_iff_eq, beq_eq_false_iff_ne, bne_iff_ne, bne_eq_false_iff_eq, Bool.not_eq_true', Bool.not_eq_false', Bool.not_eq_true, Bool.not_eq_false, ne_eq, Decidable.not_not] at h3)
      refine CW_seq ?_
      refine CW_region ?_
      refine W_q (r_assign rfl) rfl ?_
      refine W_q (r_assign rfl) rfl ?_
      refine W_nil ?_
      refine NX_as (L' := [(1, _), (2, _), (3, _)]) [1, 2, 3] rfl ?_
      refine C_ret (RX_block (RX_then (RX_q2 rfl rfl rfl ?_ ?_)))
      · first
          | (simp_all [givesP]; done)
          | (simp_all [givesP]; rw [if_neg (by omega)])
      · first
          | (simp_all [givesP]; done)
          | (simp_all [givesP]; rw [if_neg (by omega)])
    · (try simp only [decide_eq_true_eq, decide_eq_false_iff_not, beq_iff_eq, beq_eq_false_iff_ne, bne_iff_ne, bne_eq_false_iff_eq, Bool.not_eq_true', Bool.not_eq_false', Bool.not_eq_true, Bool.not_eq_false, ne_eq, Decidable.not_not] at h3)
      refine CW_seq ?_
      refine CW_region ?_
      refine W_q (r_fieldb (o' := 0) rfl T.fo51_0 rfl) rfl ?_
      refine W_q (r_loadb 0 rfl T.ag3 rfl rfl) rfl ?_
      refine W_q (r_bin rfl rfl (bin_geq _ _ _ _)) rfl ?_
      refine W_q (r_move rfl) rfl ?_
      refine WL_split (t := 17) rfl (fun h4 => ?_) (fun h4 => ?_)
      · (try simp only [decide_eq_true_eq, decide_eq_false_iff_not, beq_iff_eq, beq_eq_false_iff_ne, bne_iff_ne, bne_eq_false_iff_eq, Bool.not_eq_true', Bool.not_eq_false', Bool.not_eq_true, Bool.not_eq_false, ne_eq, Decidable.not_not] at h4)
        refine WL_take rfl rfl ?_
        refine W_q (r_fieldb (o' := 0) rfl T.fo51_0 rfl) rfl ?_
        refine WL_take rfl rfl ?_
        refine W_q (r_loadb 0 rfl T.ag3 rfl rfl) rfl ?_
        refine WL_take rfl rfl ?_
        refine W_q (r_bin rfl rfl (bin_leq _ _ _ _)) rfl ?_
        refine W_q (r_pick_t rfl rfl) rfl ?_
        refine W_q (r_assign rfl) rfl ?_
        refine W_nil ?_
        refine NX_as (L' := [(1, _), (2, _), (3, _), (13, _)]) [1, 2, 3, 13] rfl ?_
        refine CW_condk rfl (fun h5 => ?_) (fun h5 => ?_)
        · (try simp only [decide_eq_true_eq, decide_eq_false_iff_not, beq_iff_eq, beq_eq_false_iff_ne, bne_iff_ne, bne_eq_false_iff_eq, Bool.not_eq_true', Bool.not_eq_false', Bool.not_eq_true, Bool.not_eq_false, ne_eq, Decidable.not_not] at h5)
          refine CW_seq ?_
          refine CW_region ?_
          refine W_q (r_assign rfl) rfl ?_
          refine W_q (r_assign rfl) rfl ?_
          refine W_nil ?_
          refine NX_as (L' := [(1, _), (2, _), (3, _)]) [1, 2, 3] rfl ?_
          refine C_ret (RX_block (RX_then (RX_q2 rfl rfl rfl ?_ ?_)))
          · first
              | (simp_all [givesP]; done)
              | (simp_all [givesP]; rw [if_neg (by omega)])
          · first
              | (simp_all [givesP]; done)
              | (simp_all [givesP]; rw [if_neg (by omega)])
        · (try simp only [decide_eq_true_eq, decide_eq_false_iff_not, beq_iff_eq, beq_eq_false_iff_ne, bne_iff_ne, bne_eq_false_iff_eq, Bool.not_eq_true', Bool.not_eq_false', Bool.not_eq_true, Bool.not_eq_false, ne_eq, Decidable.not_not] at h5)
          refine CW_seq ?_
          refine CW_region ?_
          refine W_q (r_fieldb (o' := 0) rfl T.fo51_0 rfl) rfl ?_
          refine W_q (r_loadb 0 rfl T.ag3 rfl rfl) rfl ?_
          refine W_q (r_bin rfl rfl (bin_eql _ _ _ _)) rfl ?_
          refine W_q (r_assign rfl) rfl ?_
          refine W_nil ?_
          refine NX_as (L' := [(1, _), (2, _), (3, _), (22, _)]) [1, 2, 3, 22] rfl ?_
          refine CW_condk rfl (fun h6 => ?_) (fun h6 => ?_)
          · (try simp only [decide_eq_true_eq, decide_eq_false_iff_not, beq_iff_eq, beq_eq_false_iff_ne, bne_iff_ne, bne_eq_false_iff_eq, Bool.not_eq_true', Bool.not_eq_false', Bool.not_eq_true, Bool.not_eq_false, ne_eq, Decidable.not_not] at h6)
            refine CW_seq ?_
            refine CW_region ?_
            refine W_q (r_fieldb (o' := 1) rfl T.fo51_1 rfl) rfl ?_
            refine W_q (r_loadb 0 rfl T.ag3 rfl rfl) rfl ?_
            refine W_q (r_assign rfl) rfl ?_
            refine W_q (r_assign rfl) rfl ?_
            refine W_nil ?_
            refine NX_as (L' := [(1, _), (2, _), (3, _)]) [1, 2, 3] rfl ?_
            refine C_ret (RX_block (RX_then (RX_q2 rfl rfl rfl ?_ ?_)))
            · first
                | (simp_all [givesP]; done)
                | (simp_all [givesP]; rw [if_neg (by omega)])
            · first
                | (simp_all [givesP]; done)
                | (simp_all [givesP]; rw [if_neg (by omega)])
          · (try simp only [decide_eq_true_eq, decide_eq_false_iff_not, beq_iff_eq, beq_eq_false_iff_ne, bne_iff_ne, bne_eq_false_iff_eq, Bool.not_eq_true', Bool.not_eq_false', Bool.not_eq_true, Bool.not_eq_false, ne_eq, Decidable.not_not] at h6)
            refine C_skip ?_
            refine NX_block (NX_as (L' := [(1, _), (2, _), (3, _)]) [1, 2, 3] rfl ?_)
            refine CW_seq ?_
            refine C_drawn [(0, true), (1, true), (2, true), (3, true), (4, true), (5, true)] (by kernel_rfl) rfl (by kernel_rfl) (by kernel_rfl) ?_
            refine D_q rfl (r_fieldb (o' := 1) rfl T.fo51_1 rfl) rfl ?_
            refine D_q rfl (r_loadb 0 rfl T.ag3 rfl rfl) rfl ?_
            refine D_q rfl (r_fieldb (o' := 2) rfl T.fo51_2 rfl) rfl ?_
            refine D_q rfl (r_loadb 0 rfl T.ag3 rfl rfl) rfl ?_
            refine D_q rfl (r_assign rfl) rfl ?_
            refine D_q rfl (r_assign rfl) rfl ?_
            refine D_end ?_
            refine NX_as (L' := [(2, _), (3, _)]) [2, 3] rfl ?_
            refine C_ret (RX_q2 rfl rfl rfl ?_ ?_)
            · first
                | (simp_all [givesP]; done)
                | (simp_all [givesP]; rw [if_neg (by omega)])
            · first
                | (simp_all [givesP]; done)
                | (simp_all [givesP]; rw [if_neg (by omega)])
      · (try simp only [decide_eq_true_eq, decide_eq_false_iff_not, beq_iff_eq, beq_eq_false_iff_ne, bne_iff_ne, bne_eq_false_iff_eq, Bool.not_eq_true', Bool.not_eq_false', Bool.not_eq_true, Bool.not_eq_false, ne_eq, Decidable.not_not] at h4)
        refine WL_pass rfl rfl rfl rfl ?_
        refine WL_pass rfl rfl rfl rfl ?_
        refine WL_pass rfl rfl rfl rfl ?_
        refine W_q (r_pick_f rfl rfl) rfl ?_
        refine W_q (r_assign rfl) rfl ?_
        refine W_nil ?_
        refine NX_as (L' := [(1, _), (2, _), (3, _), (13, _)]) [1, 2, 3, 13] rfl ?_
        refine CW_cond_f rfl ?_
        refine CW_seq ?_
        refine CW_region ?_
        refine W_q (r_fieldb (o' := 0) rfl T.fo51_0 rfl) rfl ?_
        refine W_q (r_loadb 0 rfl T.ag3 rfl rfl) rfl ?_
        refine W_q (r_bin rfl rfl (bin_eql _ _ _ _)) rfl ?_
        refine W_q (r_assign rfl) rfl ?_
        refine W_nil ?_
        refine NX_as (L' := [(1, _), (2, _), (3, _), (22, _)]) [1, 2, 3, 22] rfl ?_
        refine CW_condk rfl (fun h7 => ?_) (fun h7 => ?_)
        · (try simp only [decide_eq_true_eq, decide_eq_false_iff_not, beq_iff_eq, beq_eq_false_iff_ne, bne_iff_ne, bne_eq_false_iff_eq, Bool.not_eq_true', Bool.not_eq_false', Bool.not_eq_true, Bool.not_eq_false, ne_eq, Decidable.not_not] at h7)
          refine CW_seq ?_
          refine CW_region ?_
          refine W_q (r_fieldb (o' := 1) rfl T.fo51_1 rfl) rfl ?_
          refine W_q (r_loadb 0 rfl T.ag3 rfl rfl) rfl ?_
          refine W_q (r_assign rfl) rfl ?_
          refine W_q (r_assign rfl) rfl ?_
          refine W_nil ?_
          refine NX_as (L' := [(1, _), (2, _), (3, _)]) [1, 2, 3] rfl ?_
          refine C_ret (RX_block (RX_then (RX_q2 rfl rfl rfl ?_ ?_)))
          · first
              | (simp_all [givesP]; done)
              | (simp_all [givesP]; rw [if_neg (by omega)])
          · first
              | (simp_all [givesP]; done)
              | (simp_all [givesP]; rw [if_neg (by omega)])
        · (try simp only [decide_eq_true_eq, decide_eq_false_iff_not, beq_iff_eq, beq_eq_false_iff_ne, bne_iff_ne, bne_eq_false_iff_eq, Bool.not_eq_true', Bool.not_eq_false', Bool.not_eq_true, Bool.not_eq_false, ne_eq, Decidable.not_not] at h7)
          refine C_skip ?_
          refine NX_block (NX_as (L' := [(1, _), (2, _), (3, _)]) [1, 2, 3] rfl ?_)
          refine CW_seq ?_
          refine C_drawn [(0, true), (1, true), (2, true), (3, true), (4, true), (5, true)] (by kernel_rfl) rfl (by kernel_rfl) (by kernel_rfl) ?_
          refine D_q rfl (r_fieldb (o' := 1) rfl T.fo51_1 rfl) rfl ?_
          refine D_q rfl (r_loadb 0 rfl T.ag3 rfl rfl) rfl ?_
          refine D_q rfl (r_fieldb (o' := 2) rfl T.fo51_2 rfl) rfl ?_
          refine D_q rfl (r_loadb 0 rfl T.ag3 rfl rfl) rfl ?_
          refine D_q rfl (r_assign rfl) rfl ?_
          refine D_q rfl (r_assign rfl) rfl ?_
          refine D_end ?_
          refine NX_as (L' := [(2, _), (3, _)]) [2, 3] rfl ?_
          refine C_ret (RX_q2 rfl rfl rfl ?_ ?_)
          · first
              | (simp_all [givesP]; done)
              | (simp_all [givesP]; rw [if_neg (by omega)])
          · first
              | (simp_all [givesP]; done)
              | (simp_all [givesP]; rw [if_neg (by omega)])

end Go.Proofs.YtipmgkhjoekaaaaGreat

set_option linter.unusedVariables false
set_option linter.unusedSimpArgs false
namespace Go.Proofs.YtipmgkhjoekaaaaGreat
open Go Go.RowKit Go.Proofs Go.Proofs.YtipmgkhjoekaaaaGreat.Fw
attribute [local irreducible] Qt WL CW NX RX EX GX DL
namespace T
theorem by22 : byt? Tryz.prog 22 = some 24 := by kernel_rfl
theorem hb135 : hasBody Tryz.prog 135 = true := by kernel_rfl
theorem hb139 : hasBody Tryz.prog 139 = true := by kernel_rfl
end T
set_option maxHeartbeats 4000000 in
/-- graph.rising -/
theorem rising_q {m : Imm} {A : Option Addr} {c : Nat} {l : List Int} (h : Ints m A c l) (n : Int) : Quiet Tryz.prog 135 [.slice A l.length c, .int .i64 n] m (.bool (risingP l n)) := by
  have hlen := h.len
  refine quiet_of Tryz.func135 rfl Tryz.ntmps135 rfl (fun w => ?_)
  refine CW_seq ?_
  refine CW_region ?_
  refine W_q (r_assign rfl) rfl ?_
  refine W_nil ?_
  refine NX_as (L' := [(0, _), (1, _), (4, _)]) [0, 1, 4] rfl ?_
  refine CW_seq ?_
  refine CW_region ?_
  refine W_q (r_assign rfl) rfl ?_
  refine W_nil ?_
  refine NX_as (L' := [(0, _), (1, _), (4, _), (5, _)]) [0, 1, 4, 5] rfl ?_
  refine CW_seq ?_
  refine CW_seq ?_
  refine CW_region ?_
  refine W_q (r_move rfl) rfl ?_
  refine W_q (r_len Tryz.underlying22 rfl) rfl ?_
  refine W_q (r_move rfl) rfl ?_
  refine W_nil ?_
  refine NX_as (L' := [(1, _), (4, _), (5, _), (8, _), (9, _), (10, _)]) [1, 4, 5, 8, 9, 10] rfl ?_
  refine C_range (Unit) (l.length) (fun k1 x1 => ∀ j, j < k1 → okR l n j = true) (fun k1 x1 => [(5, .int .i64 (prevL l k1))]) (fun _ _ => []) [5] [1, 8] (F := [(1, _), (8, _)]) (()) rfl rfl (by omega) (by simp) rfl rfl rfl rfl rfl rfl rfl (fun _ _ => rfl) (fun _ _ => rfl) (fun k1 x1 hk1 hJ1 => ?_) (fun x1 hJ1 => ?_)
  · refine CW_as (L' := [(1, _), (5, _), (8, _), (9, _), (10, _)]) [1, 5, 8, 9, 10] rfl ?_
    refine CW_seq ?_
    refine CW_region ?_
    obtain ⟨ad2, hA2⟩ := h.ad (j := k1) (by omega)
    obtain ⟨z2, hz2⟩ := h.getz (j := k1) (by omega)
    refine W_q (r_index hA2 Tryz.underlying22 T.sz3 rfl rfl ⟨by omega, by omega⟩) rfl ?_
    obtain ⟨l3, r3⟩ := Sl.getI h hA2 hz2
    refine W_q (r_load_imm rfl T.ag3 l3) rfl ?_
    refine W_q (r_assign rfl) rfl ?_
    refine W_nil ?_
    refine NX_as (L' := [(1, _), (5, _), (7, _), (8, _), (9, _), (10, _)]) [1, 5, 7, 8, 9, 10] rfl ?_
    refine CW_seq ?_
    refine CW_seq ?_
    refine CW_region ?_
    refine W_q (r_move rfl) rfl ?_
    refine W_q (r_move rfl) rfl ?_
    refine W_q (r_bin rfl rfl (bin_leq _ _ _ _)) rfl ?_
    refine W_q (r_move rfl) rfl ?_
    refine WL_split (t := 17) rfl (fun h4 => ?_) (fun h4 => ?_)
    · (try simp only [decide_eq_true_eq, decide_eq_false_iff_not, beq_iff_eq, beq_eq_false_iff_ne, bne_iff_ne, bne_eq_false_iff_eq, Bool.not_eq_true', Bool.not_eq_false', Bool.not_eq_true, Bool.not_eq_false, ne_eq, Decidable.not_not] at h4)
      refine WL_pass rfl rfl rfl rfl ?_
      refine WL_pass rfl rfl rfl rfl ?_
      refine WL_pass rfl rfl rfl rfl ?_
      refine W_q (r_pick_t rfl rfl) rfl ?_
      refine W_nil ?_
      refine NX_as (L' := [(1, _), (5, _), (7, _), (8, _), (9, _), (10, _), (21, _)]) [1, 5, 7, 8, 9, 10, 21] rfl ?_
      refine CW_cond_t rfl ?_
      refine CW_seq ?_
      refine CW_region ?_
      refine W_q (r_assign rfl) rfl ?_
      refine W_nil ?_
      refine NX_as (L' := [(1, _), (4, _), (5, _), (7, _), (8, _), (9, _), (10, _)]) [1, 4, 5, 7, 8, 9, 10] rfl ?_
      refine C_ret (RX_then (RX_block (RX_then (RX_block (RX_then (RX_q1 rfl rfl ?_))))))
      first
        | (rw [risingP, range_all_true hJ1]; done)
        | (rw [risingP, range_all_false (hk1) (by have e1 := getD_of (d := 0) hz2; simp only [okR, e1, Bool.and_eq_false_iff, decide_eq_false_iff_not]; omega)])
    · (try simp only [decide_eq_true_eq, decide_eq_false_iff_not, beq_iff_eq, beq_eq_false_iff_ne, bne_iff_ne, bne_eq_false_iff_eq, Bool.not_eq_true', Bool.not_eq_false', Bool.not_eq_true, Bool.not_eq_false, ne_eq, Decidable.not_not] at h4)
      refine WL_take rfl rfl ?_
      refine W_q (r_move rfl) rfl ?_
      refine WL_take rfl rfl ?_
      refine W_q (r_move rfl) rfl ?_
      refine WL_take rfl rfl ?_
      refine W_q (r_bin rfl rfl (bin_geq _ _ _ _)) rfl ?_
      refine W_q (r_pick_f rfl rfl) rfl ?_
      refine W_nil ?_
      refine NX_as (L' := [(1, _), (5, _), (7, _), (8, _), (9, _), (10, _), (21, _)]) [1, 5, 7, 8, 9, 10, 21] rfl ?_
      refine CW_condk rfl (fun h5 => ?_) (fun h5 => ?_)
      · (try simp only [decide_eq_true_eq, decide_eq_false_iff_not, beq_iff_eq, beq_eq_false_iff_ne, bne_iff_ne, bne_eq_false_iff_eq, Bool.not_eq_true', Bool.not_eq_false', Bool.not_eq_true, Bool.not_eq_false, ne_eq, Decidable.not_not] at h5)
        refine CW_seq ?_
        refine CW_region ?_
        refine W_q (r_assign rfl) rfl ?_
        refine W_nil ?_
        refine NX_as (L' := [(1, _), (4, _), (5, _), (7, _), (8, _), (9, _), (10, _)]) [1, 4, 5, 7, 8, 9, 10] rfl ?_
        refine C_ret (RX_then (RX_block (RX_then (RX_block (RX_then (RX_q1 rfl rfl ?_))))))
        first
          | (rw [risingP, range_all_true hJ1]; done)
          | (rw [risingP, range_all_false (hk1) (by have e1 := getD_of (d := 0) hz2; simp only [okR, e1, Bool.and_eq_false_iff, decide_eq_false_iff_not]; omega)])
      · (try simp only [decide_eq_true_eq, decide_eq_false_iff_not, beq_iff_eq, beq_eq_false_iff_ne, bne_iff_ne, bne_eq_false_iff_eq, Bool.not_eq_true', Bool.not_eq_false', Bool.not_eq_true, Bool.not_eq_false, ne_eq, Decidable.not_not] at h5)
        refine C_skip ?_
        refine NX_as (L' := [(1, _), (5, _), (7, _), (8, _), (9, _), (10, _)]) [1, 5, 7, 8, 9, 10] rfl ?_
        refine CW_region ?_
        refine W_q (r_move rfl) rfl ?_
        refine W_q (r_assign rfl) rfl ?_
        refine W_nil ?_
        refine NX_block (?_)
        rw [← prevL_succ hz2]
        refine NX_rng [5, 1, 8] (()) ?_ rfl (List.Sublist.refl _) rfl (Imm.le_refl _)
        refine lt_succ_all hJ1 ?_
        have e1 := getD_of (d := 0) hz2
        have e2 := prevL_succ hz2
        simp only [okR, e1, Bool.and_eq_true, decide_eq_true_eq]
        omega
  · refine NX_as (L' := []) [] rfl ?_
    refine CW_seq ?_
    refine CW_region ?_
    refine W_q (r_assign rfl) rfl ?_
    refine W_nil ?_
    refine NX_as (L' := [(4, _)]) [4] rfl ?_
    refine C_ret (RX_q1 rfl rfl ?_)
    first
      | (rw [risingP, range_all_true hJ1]; done)
      | (rw [risingP, range_all_false (hk1) (by have e1 := getD_of (d := 0) hz2; simp only [okR, e1, Bool.and_eq_false_iff, decide_eq_false_iff_not]; omega)])

set_option maxHeartbeats 4000000 in
/-- graph.Make$1 -/
theorem Make1_q {m : Imm} {A : Option Addr} {c : Nat} {l : List Int} (h : Ints m A c l) {ad : Addr} {n : Int} (hn : m.cell? ad = some (.int .i64 n)) : Quiet Tryz.prog 134 [.slice A l.length c, .pointer (some ad)] m (.bool (!(risingP l n))) := by
  refine quiet_of Tryz.func134 rfl Tryz.ntmps134 rfl (fun w => ?_)
  refine CW_seq ?_
  refine CW_region ?_
  refine W_q (r_assign rfl) rfl ?_
  refine W_nil ?_
  refine NX_as (L' := [(0, _), (1, _), (3, _)]) [0, 1, 3] rfl ?_
  refine CW_seq ?_
  refine CW_region ?_
  refine W_q (r_move rfl) rfl ?_
  refine W_q (r_load_imm rfl T.ag3 hn) rfl ?_
  refine W_quiet (rising_q h _) T.hb135 rfl rfl ?_
  refine W_q (r_not rfl) rfl ?_
  refine W_q (r_assign rfl) rfl ?_
  refine W_nil ?_
  refine NX_as (L' := [(3, _)]) [3] rfl ?_
  refine C_ret (RX_q1 rfl rfl ?_)
  rfl

set_option maxHeartbeats 4000000 in
/-- graph.Of$1 -/
theorem Of1_q {m : Imm} (k : Int) {ad : Addr} {n : Int} (hn : m.cell? ad = some (.int .i64 n)) : Quiet Tryz.prog 101 [.int .i64 k, .pointer (some ad)] m (.bool (decide (k < 1) || decide (n ≤ k))) := by
  refine quiet_of Tryz.func101 rfl Tryz.ntmps101 rfl (fun w => ?_)
  refine CW_seq ?_
  refine CW_region ?_
  refine W_q (r_assign rfl) rfl ?_
  refine W_nil ?_
  refine NX_as (L' := [(0, _), (1, _), (3, _)]) [0, 1, 3] rfl ?_
  refine CW_seq ?_
  refine CW_region ?_
  refine W_q (r_move rfl) rfl ?_
  refine W_q (r_bin rfl rfl (bin_lss _ _ _ _)) rfl ?_
  refine W_q (r_move rfl) rfl ?_
  refine WL_split (t := 6) rfl (fun h1 => ?_) (fun h1 => ?_)
  · (try simp only [decide_eq_true_eq, decide_eq_false_iff_not, beq_iff_eq, beq_eq_false_iff_ne, bne_iff_ne, bne_eq_false_iff_eq, Bool.not_eq_true', Bool.not_eq_false', Bool.not_eq_true, Bool.not_eq_false, ne_eq, Decidable.not_not] at h1)
    refine WL_pass rfl rfl rfl rfl ?_
    refine WL_pass rfl rfl rfl rfl ?_
    refine WL_pass rfl rfl rfl rfl ?_
    refine W_q (r_pick_t rfl rfl) rfl ?_
    refine W_q (r_assign rfl) rfl ?_
    refine W_nil ?_
    refine NX_as (L' := [(3, _)]) [3] rfl ?_
    refine C_ret (RX_q1 rfl rfl ?_)
    first
      | (simp_all; done)
      | (simp_all; omega)
  · (try simp only [decide_eq_true_eq, decide_eq_false_iff_not, beq_iff_eq, beq_eq_false_iff_ne, bne_iff_ne, bne_eq_false_iff_eq, Bool.not_eq_true', Bool.not_eq_false', Bool.not_eq_true, Bool.not_eq_false, ne_eq, Decidable.not_not] at h1)
    refine WL_take rfl rfl ?_
    refine W_q (r_move rfl) rfl ?_
    refine WL_take rfl rfl ?_
    refine W_q (r_load_imm rfl T.ag3 hn) rfl ?_
    refine WL_take rfl rfl ?_
    refine W_q (r_bin rfl rfl (bin_geq _ _ _ _)) rfl ?_
    refine W_q (r_pick_f rfl rfl) rfl ?_
    refine W_q (r_assign rfl) rfl ?_
    refine W_nil ?_
    refine NX_as (L' := [(3, _)]) [3] rfl ?_
    refine C_ret (RX_q1 rfl rfl ?_)
    first
      | (simp_all; done)
      | (simp_all; omega)

set_option maxHeartbeats 4000000 in
/-- slices.Clone[[]int,int] -/
theorem CloneI_g {m : Imm} {A : Option Addr} {c : Nat} {l : List Int} (h : Ints m A c l) (hl : l.length ≤ 1000000) : Gives Tryz.prog 136 [.slice A l.length c] m (fun m' v => ∃ A' c', v = .slice A' ([] ++ l).length c' ∧ Ints m' A' c' ([] ++ l)) := by
  have hlen := h.len
  refine gives_of Tryz.func136 rfl Tryz.ntmps136 rfl (fun w => ?_)
  refine CW_seq ?_
  refine CW_region ?_
  refine W_q (r_assign rfl) rfl ?_
  refine W_nil ?_
  refine NX_as (L' := [(0, _), (2, _)]) [0, 2] rfl ?_
  refine CW_seq ?_
  refine CW_seq ?_
  refine CW_region ?_
  refine W_q (r_move rfl) rfl ?_
  refine W_q (r_sliceeq rfl rfl Tryz.underlying22) rfl ?_
  refine W_nil ?_
  refine NX_as (L' := [(0, _), (2, _), (4, _)]) [0, 2, 4] rfl ?_
  refine CW_condk rfl (fun h1 => ?_) (fun h1 => ?_)
  · (try simp only [decide_eq_true_eq, decide_eq_false_iff_not, beq_iff_eq, beq_eq_false_iff_ne, bne_iff_ne, bne_eq_false_iff_eq, Bool.not_eq_true', Bool.not_eq_false', Bool.not_eq_true, Bool.not_eq_false, ne_eq, Decidable.not_not] at h1)
    refine CW_seq ?_
    refine CW_region ?_
    refine W_q (r_assign rfl) rfl ?_
    refine W_nil ?_
    refine NX_as (L' := [(0, _), (2, _)]) [0, 2] rfl ?_
    have e0 := Ints_none h h1
    subst e0
    exact C_ret (RX_then (RX_g1 rfl rfl ⟨_, _, rfl, Sl.nil _ _ _⟩))
  · (try simp only [decide_eq_true_eq, decide_eq_false_iff_not, beq_iff_eq, beq_eq_false_iff_ne, bne_iff_ne, bne_eq_false_iff_eq, Bool.not_eq_true', Bool.not_eq_false', Bool.not_eq_true, Bool.not_eq_false, ne_eq, Decidable.not_not] at h1)
    refine C_skip ?_
    refine NX_as (L' := [(0, _), (2, _)]) [0, 2] rfl ?_
    refine CW_seq ?_
    refine CW_region ?_
    refine S_litr (vs := []) (cs := []) Tryz.underlying22 T.sz3 T.ze3 rfl rfl rfl rfl rfl rfl rfl (fun b2 => ?_)
    refine W_q (r_move rfl) rfl ?_
    refine S_appendI (l := []) (g1 := (some b2)) l 0 rfl rfl rfl Tryz.underlying22 T.sz3 T.ze3 T.by3 rfl rfl (Src_ints h h1) (by simp; omega) rfl (fun g3 c3 hg3 => ?_)
    refine W_q (r_assign rfl) rfl ?_
    refine W_nil ?_
    refine NX_as (L' := [(2, _)]) [2] rfl ?_
    refine C_ret (RX_know (k_rowI 0 rfl) (fun hr => ?_))
    refine RX_freeze 0 rfl (fun _ h => h) (fun mf lef hf => ?_)
    have hfin : Ints mf _ _ _ := Ints_frz hf hr.1 hr.2.1 (by simp; omega) hr.2.2 (by simpa using Ints_all h)
    exact RX_g1 rfl rfl ⟨_, _, rfl, by simpa using hfin⟩

set_option maxHeartbeats 4000000 in
/-- slices.Equal[[]int,int] -/
theorem EqualI_q {m : Imm} {A : Option Addr} {c : Nat} {l : List Int} (h : Ints m A c l) {A' : Option Addr} {c' : Nat} {l' : List Int} (h' : Ints m A' c' l') : Quiet Tryz.prog 139 [.slice A l.length c, .slice A' l'.length c'] m (.bool (l == l')) := by
  have hlen := h.len
  have hlen' := h'.len
  refine quiet_of Tryz.func139 rfl Tryz.ntmps139 rfl (fun w => ?_)
  refine CW_seq ?_
  refine CW_region ?_
  refine W_q (r_assign rfl) rfl ?_
  refine W_nil ?_
  refine NX_as (L' := [(0, _), (1, _), (4, _)]) [0, 1, 4] rfl ?_
  refine CW_seq ?_
  refine CW_seq ?_
  refine CW_region ?_
  refine W_q (r_move rfl) rfl ?_
  refine W_q (r_len Tryz.underlying22 rfl) rfl ?_
  refine W_q (r_move rfl) rfl ?_
  refine W_q (r_len Tryz.underlying22 rfl) rfl ?_
  refine W_q (r_bin rfl rfl (bin_neq _ _ _ _)) rfl ?_
  refine W_nil ?_
  refine NX_as (L' := [(0, _), (1, _), (4, _), (10, _)]) [0, 1, 4, 10] rfl ?_
  refine CW_condk rfl (fun h1 => ?_) (fun h1 => ?_)
  · (try simp only [decide_eq_true_eq, decide_eq_false_iff_not, beq_iff_eq, beq_eq_false_iff_ne, bne_iff_ne, bne_eq_false_iff_eq, Bool.not_eq_true', Bool.not_eq_false', Bool.not_eq_true, Bool.not_eq_false, ne_eq, Decidable.not_not] at h1)
    refine CW_seq ?_
    refine CW_region ?_
    refine W_q (r_assign rfl) rfl ?_
    refine W_nil ?_
    refine NX_as (L' := [(0, _), (1, _), (4, _)]) [0, 1, 4] rfl ?_
    refine C_ret (RX_then (RX_q1 rfl rfl ?_))
    first
      | (have : l ≠ l' := by rintro rfl; omega
         simp [this]; done)
      | (have : l ≠ l' := by rintro rfl; simp_all
         simp [this]; done)
      | (rw [eq_of_all (by omega) «J0»]; simp)
  · (try simp only [decide_eq_true_eq, decide_eq_false_iff_not, beq_iff_eq, beq_eq_false_iff_ne, bne_iff_ne, bne_eq_false_iff_eq, Bool.not_eq_true', Bool.not_eq_false', Bool.not_eq_true, Bool.not_eq_false, ne_eq, Decidable.not_not] at h1)
    refine C_skip ?_
    refine NX_as (L' := [(0, _), (1, _), (4, _)]) [0, 1, 4] rfl ?_
    refine CW_seq ?_
    refine CW_seq ?_
    refine CW_region ?_
    refine W_q (r_move rfl) rfl ?_
    refine W_q (r_len Tryz.underlying22 rfl) rfl ?_
    refine W_q (r_move rfl) rfl ?_
    refine W_nil ?_
    refine NX_as (L' := [(0, _), (1, _), (4, _), (12, _), (13, _)]) [0, 1, 4, 12, 13] rfl ?_
    refine C_range (Unit) (l.length) (fun k2 x2 => ∀ j, j < k2 → l[j]? = l'[j]?) (fun k2 x2 => []) (fun _ _ => []) [] [0, 1] (F := [(0, _), (1, _)]) (()) rfl rfl (by omega) (by simp) rfl rfl rfl rfl rfl rfl rfl (fun _ _ => rfl) (fun _ _ => rfl) (fun k2 x2 hk2 hJ2 => ?_) (fun x2 hJ2 => ?_)
    · refine CW_as (L' := [(0, _), (1, _), (12, _), (13, _)]) [0, 1, 12, 13] rfl ?_
      refine CW_seq ?_
      refine CW_region ?_
      refine W_q (r_move rfl) rfl ?_
      refine W_q (r_assign rfl) rfl ?_
      refine W_nil ?_
      refine NX_as (L' := [(0, _), (1, _), (5, _), (12, _), (13, _)]) [0, 1, 5, 12, 13] rfl ?_
      refine CW_seq ?_
      refine C_drawn [(0, true), (1, true), (2, true), (3, true), (4, true), (5, true), (6, true), (7, true), (8, true)] (by kernel_rfl) rfl (by kernel_rfl) (by kernel_rfl) ?_
      refine D_q rfl (r_move rfl) rfl ?_
      refine D_q rfl (r_move rfl) rfl ?_
      obtain ⟨ad3, hA3⟩ := h.ad (j := k2) (by omega)
      obtain ⟨z3, hz3⟩ := h.getz (j := k2) (by omega)
      refine D_q rfl (r_index hA3 Tryz.underlying22 T.sz3 rfl rfl ⟨by omega, by omega⟩) rfl ?_
      obtain ⟨l4, r4⟩ := Sl.getI h hA3 hz3
      refine D_q rfl (r_load_imm rfl T.ag3 l4) rfl ?_
      refine D_q rfl (r_move rfl) rfl ?_
      refine D_q rfl (r_move rfl) rfl ?_
      obtain ⟨ad5, hA5⟩ := h'.ad (j := k2) (by omega)
      obtain ⟨z5, hz5⟩ := h'.getz (j := k2) (by omega)
      refine D_q rfl (r_index hA5 Tryz.underlying22 T.sz3 rfl rfl ⟨by omega, by omega⟩) rfl ?_
      obtain ⟨l6, r6⟩ := Sl.getI h' hA5 hz5
      refine D_q rfl (r_load_imm rfl T.ag3 l6) rfl ?_
      refine D_q rfl (r_bin rfl rfl (bin_neq _ _ _ _)) rfl ?_
      refine D_end ?_
      refine NX_as (L' := [(0, _), (1, _), (12, _), (13, _), (24, _)]) [0, 1, 12, 13, 24] rfl ?_
      refine CW_condk rfl (fun h7 => ?_) (fun h7 => ?_)
      · (try simp only [decide_eq_true_eq, decide_eq_false_iff_not, beq_iff_eq, beq_eq_false_iff_ne, bne_iff_ne, bne_eq_false_iff_eq, Bool.not_eq_true', Bool.not_eq_false', Bool.not_eq_true, Bool.not_eq_false, ne_eq, Decidable.not_not] at h7)
        refine CW_seq ?_
        refine CW_region ?_
        refine W_q (r_assign rfl) rfl ?_
        refine W_nil ?_
        refine NX_as (L' := [(0, _), (1, _), (4, _), (12, _), (13, _)]) [0, 1, 4, 12, 13] rfl ?_
        refine C_ret (RX_block (RX_then (RX_block (RX_then (RX_q1 rfl rfl ?_)))))
        first
          | (have : l ≠ l' := by rintro rfl; omega
             simp [this]; done)
          | (have : l ≠ l' := by rintro rfl; simp_all
             simp [this]; done)
          | (rw [eq_of_all (by omega) hJ2]; simp)
      · (try simp only [decide_eq_true_eq, decide_eq_false_iff_not, beq_iff_eq, beq_eq_false_iff_ne, bne_iff_ne, bne_eq_false_iff_eq, Bool.not_eq_true', Bool.not_eq_false', Bool.not_eq_true, Bool.not_eq_false, ne_eq, Decidable.not_not] at h7)
        refine C_skip ?_
        refine NX_block (?_)
        refine NX_rng [0, 1] (()) ?_ rfl (List.Sublist.refl _) rfl (Imm.le_refl _)
        exact lt_succ_all hJ2 (by simp_all)
    · refine NX_as (L' := []) [] rfl ?_
      refine CW_seq ?_
      refine CW_region ?_
      refine W_q (r_assign rfl) rfl ?_
      refine W_nil ?_
      refine NX_as (L' := [(4, _)]) [4] rfl ?_
      refine C_ret (RX_q1 rfl rfl ?_)
      first
        | (have : l ≠ l' := by rintro rfl; omega
           simp [this]; done)
        | (have : l ≠ l' := by rintro rfl; simp_all
           simp [this]; done)
        | (rw [eq_of_all (by omega) hJ2]; simp)

set_option maxHeartbeats 4000000 in
/-- slices.EqualFunc[[][]int,[][]int,[]int,[]int] -/
theorem EqualFunc_q {m : Imm} {A : Option Addr} {c : Nat} {ll : List (List Int)} (h : Sl (rS rI 1) 1 m A c ll) {A' : Option Addr} {c' : Nat} {ll' : List (List Int)} (h' : Sl (rS rI 1) 1 m A' c' ll') : Quiet Tryz.prog 138 [.slice A ll.length c, .slice A' ll'.length c', .func (.func 139) #[] #[]] m (.bool (ll == ll')) := by
  have hlen := h.len
  have hlen' := h'.len
  refine quiet_of Tryz.func138 rfl Tryz.ntmps138 rfl (fun w => ?_)
  refine CW_seq ?_
  refine CW_region ?_
  refine W_q (r_assign rfl) rfl ?_
  refine W_nil ?_
  refine NX_as (L' := [(0, _), (1, _), (2, _), (6, _)]) [0, 1, 2, 6] rfl ?_
  refine CW_seq ?_
  refine CW_seq ?_
  refine CW_region ?_
  refine W_q (r_move rfl) rfl ?_
  refine W_q (r_len Tryz.underlying65 rfl) rfl ?_
  refine W_q (r_move rfl) rfl ?_
  refine W_q (r_len Tryz.underlying65 rfl) rfl ?_
  refine W_q (r_bin rfl rfl (bin_neq _ _ _ _)) rfl ?_
  refine W_nil ?_
  refine NX_as (L' := [(0, _), (1, _), (2, _), (6, _), (14, _)]) [0, 1, 2, 6, 14] rfl ?_
  refine CW_condk rfl (fun h1 => ?_) (fun h1 => ?_)
  · (try simp only [decide_eq_true_eq, decide_eq_false_iff_not, beq_iff_eq, beq_eq_false_iff_ne, bne_iff_ne, bne_eq_false_iff_eq, Bool.not_eq_true', Bool.not_eq_false', Bool.not_eq_true, Bool.not_eq_false, ne_eq, Decidable.not_not] at h1)
    refine CW_seq ?_
    refine CW_region ?_
    refine W_q (r_assign rfl) rfl ?_
    refine W_nil ?_
    refine NX_as (L' := [(0, _), (1, _), (2, _), (6, _)]) [0, 1, 2, 6] rfl ?_
    refine C_ret (RX_then (RX_q1 rfl rfl ?_))
    first
      | (have : ll ≠ ll' := by rintro rfl; omega
         simp [this]; done)
      | (have : ll ≠ ll' := by rintro rfl; simp_all
         simp [this]; done)
      | (rw [eq_of_allg (by omega) «J0»]; simp)
  · (try simp only [decide_eq_true_eq, decide_eq_false_iff_not, beq_iff_eq, beq_eq_false_iff_ne, bne_iff_ne, bne_eq_false_iff_eq, Bool.not_eq_true', Bool.not_eq_false', Bool.not_eq_true, Bool.not_eq_false, ne_eq, Decidable.not_not] at h1)
    refine C_skip ?_
    refine NX_as (L' := [(0, _), (1, _), (2, _), (6, _)]) [0, 1, 2, 6] rfl ?_
    refine CW_seq ?_
    refine CW_seq ?_
    refine CW_region ?_
    refine W_q (r_move rfl) rfl ?_
    refine W_q (r_len Tryz.underlying65 rfl) rfl ?_
    refine W_q (r_move rfl) rfl ?_
    refine W_nil ?_
    refine NX_as (L' := [(1, _), (2, _), (6, _), (15, _), (16, _), (17, _)]) [1, 2, 6, 15, 16, 17] rfl ?_
    refine C_range (Unit) (ll.length) (fun k2 x2 => ∀ j, j < k2 → ll[j]? = ll'[j]?) (fun k2 x2 => []) (fun _ _ => []) [] [1, 2, 15] (F := [(1, _), (2, _), (15, _)]) (()) rfl rfl (by omega) (by simp) rfl rfl rfl rfl rfl rfl rfl (fun _ _ => rfl) (fun _ _ => rfl) (fun k2 x2 hk2 hJ2 => ?_) (fun x2 hJ2 => ?_)
    · refine CW_as (L' := [(1, _), (2, _), (15, _), (16, _), (17, _)]) [1, 2, 15, 16, 17] rfl ?_
      refine CW_seq ?_
      refine CW_region ?_
      refine W_q (r_move rfl) rfl ?_
      obtain ⟨ad3, hA3⟩ := h.ad (j := k2) (by omega)
      obtain ⟨z3, hz3⟩ := h.getz (j := k2) (by omega)
      refine W_q (r_index hA3 Tryz.underlying65 T.sz22 rfl rfl ⟨by omega, by omega⟩) rfl ?_
      obtain ⟨A4, c4, l4, h4⟩ := Sl.getS h hA3 hz3
      refine W_q (r_load_imm rfl T.ag22 l4) rfl ?_
      refine W_q (r_assign rfl) rfl ?_
      refine W_q (r_assign rfl) rfl ?_
      refine W_nil ?_
      refine NX_as (L' := [(1, _), (2, _), (7, _), (8, _), (15, _), (16, _), (17, _)]) [1, 2, 7, 8, 15, 16, 17] rfl ?_
      refine CW_seq ?_
      refine CW_region ?_
      refine W_q (r_move rfl) rfl ?_
      refine W_q (r_move rfl) rfl ?_
      obtain ⟨ad5, hA5⟩ := h'.ad (j := k2) (by omega)
      obtain ⟨z5, hz5⟩ := h'.getz (j := k2) (by omega)
      refine W_q (r_index hA5 Tryz.underlying65 T.sz22 rfl rfl ⟨by omega, by omega⟩) rfl ?_
      obtain ⟨A6, c6, l6, h6⟩ := Sl.getS h' hA5 hz5
      refine W_q (r_load_imm rfl T.ag22 l6) rfl ?_
      refine W_q (r_assign rfl) rfl ?_
      refine W_nil ?_
      refine NX_as (L' := [(1, _), (2, _), (8, _), (9, _), (15, _), (16, _), (17, _)]) [1, 2, 8, 9, 15, 16, 17] rfl ?_
      refine CW_seq ?_
      refine CW_region ?_
      refine W_q (r_move rfl) rfl ?_
      refine W_q (r_move rfl) rfl ?_
      refine W_q (r_move rfl) rfl ?_
      refine W_callv rfl rfl (EqualI_q h4 h6) T.hb139 rfl ?_
      refine W_q (r_not rfl) rfl ?_
      refine W_nil ?_
      refine NX_as (L' := [(1, _), (2, _), (15, _), (16, _), (17, _), (30, _)]) [1, 2, 15, 16, 17, 30] rfl ?_
      refine CW_condk rfl (fun h7 => ?_) (fun h7 => ?_)
      · (try simp only [decide_eq_true_eq, decide_eq_false_iff_not, beq_iff_eq, beq_eq_false_iff_ne, bne_iff_ne, bne_eq_false_iff_eq, Bool.not_eq_true', Bool.not_eq_false', Bool.not_eq_true, Bool.not_eq_false, ne_eq, Decidable.not_not] at h7)
        refine CW_seq ?_
        refine CW_region ?_
        refine W_q (r_assign rfl) rfl ?_
        refine W_nil ?_
        refine NX_as (L' := [(1, _), (2, _), (6, _), (15, _), (16, _), (17, _)]) [1, 2, 6, 15, 16, 17] rfl ?_
        refine C_ret (RX_block (RX_then (RX_block (RX_then (RX_q1 rfl rfl ?_)))))
        first
          | (have : ll ≠ ll' := by rintro rfl; omega
             simp [this]; done)
          | (have : ll ≠ ll' := by rintro rfl; simp_all
             simp [this]; done)
          | (rw [eq_of_allg (by omega) hJ2]; simp)
      · (try simp only [decide_eq_true_eq, decide_eq_false_iff_not, beq_iff_eq, beq_eq_false_iff_ne, bne_iff_ne, bne_eq_false_iff_eq, Bool.not_eq_true', Bool.not_eq_false', Bool.not_eq_true, Bool.not_eq_false, ne_eq, Decidable.not_not] at h7)
        refine C_skip ?_
        refine NX_block (?_)
        refine NX_rng [1, 2, 15] (()) ?_ rfl (List.Sublist.refl _) rfl (Imm.le_refl _)
        exact lt_succ_all hJ2 (by simp_all)
    · refine NX_as (L' := []) [] rfl ?_
      refine CW_seq ?_
      refine CW_region ?_
      refine W_q (r_assign rfl) rfl ?_
      refine W_nil ?_
      refine NX_as (L' := [(6, _)]) [6] rfl ?_
      refine C_ret (RX_q1 rfl rfl ?_)
      first
        | (have : ll ≠ ll' := by rintro rfl; omega
           simp [this]; done)
        | (have : ll ≠ ll' := by rintro rfl; simp_all
           simp [this]; done)
        | (rw [eq_of_allg (by omega) hJ2]; simp)

set_option maxHeartbeats 10000000 in
/-- graph.preds -/
theorem preds_g {m : Imm} {A : Option Addr} {c : Nat} {succ : List (List Int)} (h : Sl (rS rI 1) 1 m A c succ) (hn : succ.length ≤ 64) (hr : ∀ l ∈ succ, risingP l succ.length = true) : Gives Tryz.prog 137 [.slice A succ.length c] m (fun m' v => ∃ A' c', v = .slice A' (predsP succ).length c' ∧ Sl (rS rI 1) 1 m' A' c' (predsP succ)) := by
  refine gives_of Tryz.func137 rfl Tryz.ntmps137 rfl (fun w => ?_)
  refine CW_seq ?_
  refine CW_region ?_
  refine W_q (r_assign rfl) rfl ?_
  refine W_nil ?_
  refine NX_as (L' := [(0, _), (2, _)]) [0, 2] rfl ?_
  refine CW_seq ?_
  refine CW_region ?_
  refine W_q (r_move rfl) rfl ?_
  refine W_q (r_len Tryz.underlying65 rfl) rfl ?_
  refine S_make1 succ.length Tryz.underlying65 T.sz22 T.ze22 T.by22 rfl rfl rfl rfl rfl (by omega) (by unfold maxLen; omega) rfl (fun b1 => ?_)
  refine W_q (r_assign rfl) rfl ?_
  refine W_nil ?_
  refine NX_as (L' := [(0, _), (2, _), (3, _)]) [0, 2, 3] rfl ?_
  refine CW_seq ?_
  refine CW_seq ?_
  refine CW_region ?_
  refine W_q (r_move rfl) rfl ?_
  refine W_q (r_len Tryz.underlying65 rfl) rfl ?_
  refine W_q (r_move rfl) rfl ?_
  refine W_nil ?_
  refine NX_as (L' := [(2, _), (3, _), (11, _), (12, _), (13, _)]) [2, 3, 11, 12, 13] rfl ?_
  refine CW_matrix 3 ?_
  refine C_range (List IRow) (succ.length) (fun k2 x2 => x2.length = succ.length ∧ x2.map (fun y => y.2.2) = predsK succ k2 ∧ ∀ y ∈ x2, y.2.2.length ≤ k2 * 64) (fun k2 x2 => []) (fun k2 x2 => row (some b1) succ.length succ.length 22 1 (x2.map IRow.val) :: x2.map (IRow.res 3)) [] [2, 3, 11] (F := [(2, _), (3, _), (11, _)]) (List.replicate succ.length (none, 0, [])) rfl rfl (by omega) (by refine ⟨by simp, by simp [predsK], by simp⟩) rfl rfl rfl rfl rfl rfl rfl (fun _ _ => rfl) (fun _ _ => rfl) (fun k2 x2 hk2 hJ2 => ?_) (fun x2 hJ2 => ?_)
  · refine CW_as (L' := [(2, _), (3, _), (11, _), (12, _), (13, _)]) [2, 3, 11, 12, 13] rfl ?_
    refine CW_seq ?_
    refine CW_region ?_
    refine W_q (r_move rfl) rfl ?_
    obtain ⟨ad3, hA3⟩ := h.ad (j := k2) (by omega)
    obtain ⟨z3, hz3⟩ := h.getz (j := k2) (by omega)
    refine W_q (r_index hA3 Tryz.underlying65 T.sz22 rfl rfl ⟨by omega, by omega⟩) rfl ?_
    obtain ⟨A4, c4, l4, h4⟩ := Sl.getS h hA3 hz3
    refine W_q (r_load_imm rfl T.ag22 l4) rfl ?_
    refine W_q (r_assign rfl) rfl ?_
    refine W_q (r_assign rfl) rfl ?_
    refine W_nil ?_
    refine NX_as (L' := [(2, _), (3, _), (4, _), (5, _), (11, _), (12, _), (13, _)]) [2, 3, 4, 5, 11, 12, 13] rfl ?_
    refine CW_seq ?_
    refine CW_region ?_
    refine W_q (r_move rfl) rfl ?_
    refine W_q (r_len Tryz.underlying22 rfl) rfl ?_
    refine W_q (r_move rfl) rfl ?_
    refine W_nil ?_
    refine NX_as (L' := [(2, _), (3, _), (4, _), (11, _), (12, _), (13, _), (18, _), (19, _), (20, _)]) [2, 3, 4, 11, 12, 13, 18, 19, 20] rfl ?_
    have hR := hr _ (List.mem_of_getElem? hz3)
    obtain ⟨hIa, hIb, hIc⟩ := hJ2
    refine C_range (List IRow) (z3.length) (fun k5 x5 => x5.length = succ.length ∧ x5.map (fun y => y.2.2) = predRow (predsK succ k2) (k2 : Int) (z3.take k5) ∧ ∀ y ∈ x5, y.2.2.length ≤ k2 * 64 + k5) (fun k5 x5 => []) (fun k5 x5 => row (some b1) succ.length succ.length 22 1 (x5.map IRow.val) :: x5.map (IRow.res 3)) [] [2, 3, 4, 11, 12, 13, 18] (F := [(2, _), (3, _), (4, _), (11, _), (12, _), (13, _), (18, _)]) (x2) rfl rfl (by have := rising_len hR; omega) (by refine ⟨hIa, by simpa [predRow] using hIb, fun y hy => by have := hIc y hy; omega⟩) rfl rfl rfl rfl rfl rfl rfl (fun _ _ => rfl) (fun _ _ => rfl) (fun k5 x5 hk5 hJ5 => ?_) (fun x5 hJ5 => ?_)
    · obtain ⟨hJa, hJb, hJl⟩ := hJ5
      have hkk := hk5
      refine CW_as (L' := [(2, _), (3, _), (4, _), (11, _), (12, _), (13, _), (18, _), (19, _), (20, _)]) [2, 3, 4, 11, 12, 13, 18, 19, 20] rfl ?_
      refine CW_seq ?_
      refine CW_region ?_
      obtain ⟨ad6, hA6⟩ := h4.ad (j := k5) (by omega)
      obtain ⟨z6, hz6⟩ := h4.getz (j := k5) (by omega)
      refine W_q (r_index hA6 Tryz.underlying22 T.sz3 rfl rfl ⟨by omega, by omega⟩) rfl ?_
      obtain ⟨l7, r7⟩ := Sl.getI h4 hA6 hz6
      refine W_q (r_load_imm rfl T.ag3 l7) rfl ?_
      refine W_q (r_assign rfl) rfl ?_
      refine W_nil ?_
      refine NX_as (L' := [(2, _), (3, _), (4, _), (7, _), (11, _), (12, _), (13, _), (18, _), (19, _), (20, _)]) [2, 3, 4, 7, 11, 12, 13, 18, 19, 20] rfl ?_
      refine CW_region ?_
      refine W_q (r_move rfl) rfl ?_
      refine W_q (r_move rfl) rfl ?_
      refine W_q (r_move rfl) rfl ?_
      refine W_q (r_move rfl) rfl ?_
      refine W_q (r_indexr (o := z6.toNat) Tryz.underlying65 T.sz22 rfl rfl ⟨(rising_get hR hz6).1, (rising_get hR hz6).2⟩ (by omega)) rfl ?_
      obtain ⟨it9, hit9⟩ : ∃ it, x5[z6.toNat]? = some it := ⟨_, List.getElem?_eq_getElem (by have := rising_get hR hz6; omega)⟩
      refine W_q (r_loadr 0 rfl T.ag22 rfl (v := IRow.val it9) (by rw [List.getElem?_map, hit9]; rfl)) rfl ?_
      refine W_q (r_move rfl) rfl ?_
      refine S_litr (vs := [_]) (cs := [_]) Tryz.underlying22 T.sz3 T.ze3 rfl rfl rfl rfl rfl rfl rfl (fun b10 => ?_)
      refine S_appendM [_] rfl hit9 rfl rfl Tryz.underlying22 T.sz3 T.ze3 T.by3 rfl rfl (.row 0 rfl) (by have := hJl _ (List.mem_of_getElem? hit9); have := rising_len hR; simp only [List.length_cons, List.length_nil]; omega) rfl (fun g11 c11 hg11 => ?_)
      refine W_q (r_indexr (o := z6.toNat) Tryz.underlying65 T.sz22 rfl rfl ⟨(rising_get hR hz6).1, (rising_get hR hz6).2⟩ (by omega)) rfl ?_
      refine S_storeM 1 rfl rfl T.sz22 rfl (by have := (List.getElem?_eq_some_iff.1 hit9).1; omega) ?_
      refine W_nil ?_
      refine NX_block (?_)
      refine NX_rng [2, 3, 4, 11, 12, 13, 18] (x5.set z6.toNat (g11, c11, it9.2.2 ++ [(k2 : Int)])) ?_ rfl (sub_drop 1 rfl) rfl (Imm.le_refl _)
      refine ⟨by simp [hJa], ?_, fun y hy => ?_⟩
      · rw [pushAt_rows hit9, hJb, predRow_take hz6]
      · rcases List.mem_or_eq_of_mem_set hy with hy | rfl
        · have := hJl y hy; omega
        · have := hJl _ (List.mem_of_getElem? hit9); simp; omega
    · refine NX_block (?_)
      refine NX_rng [2, 3, 11] (x5) ?_ rfl (List.Sublist.refl _) rfl (Imm.le_refl _)
      obtain ⟨hJa, hJb, hJc⟩ := hJ5
      refine ⟨hJa, ?_, fun y hy => by have := hJc y hy; have := rising_len hR; omega⟩
      rw [predsK_succ, hJb, List.take_of_length_le (Nat.le_refl _), getDl_of hz3]
  · refine NX_as (L' := [(2, _), (3, _)]) [2, 3] rfl ?_
    refine CW_seq ?_
    refine CW_region ?_
    refine W_q (r_move rfl) rfl ?_
    refine W_q (r_assign rfl) rfl ?_
    refine W_nil ?_
    refine NX_as (L' := [(2, _)]) [2] rfl ?_
    obtain ⟨hJa, hJb, hJc⟩ := hJ2
    refine C_ret (RX_freezeM (rs := x2) rfl (fun _ h => h) (fun y hy z hz => ?_) (fun y hy => by have := hJc y hy; omega) (by omega) (fun mf lef hfin hn => ?_))
    · exact predsK_i64 (succ := succ) (k := succ.length) (by omega) (l := y.2.2) (by rw [← hJb]; exact List.mem_map_of_mem hy) hz
    · exact RX_g1 rfl rfl ⟨_, _, by rw [predsP_length], by rw [predsP, ← hJb]; exact hfin⟩

end Go.Proofs.YtipmgkhjoekaaaaGreat

set_option linter.unusedVariables false
set_option linter.unusedSimpArgs false
namespace Go.Proofs.YtipmgkhjoekaaaaGreat
open Go Go.RowKit Go.Proofs Go.Proofs.YtipmgkhjoekaaaaGreat.Fw
attribute [local irreducible] Qt WL CW NX RX EX GX DL
namespace T
theorem ag65 : agg? Tryz.prog 65 = some false := by kernel_rfl
theorem ag79 : agg? Tryz.prog 79 = some true := by kernel_rfl
theorem bl79 : bls? Tryz.prog 79 = some ([(0, 1), (1, 1)], ([(.slice none 0 0), (.slice none 0 0)] : List Value)) := by kernel_rfl
theorem fo79_0 : fld? Tryz.prog 79 0 = some (0, 1) := by kernel_rfl
theorem fo79_1 : fld? Tryz.prog 79 1 = some (1, 1) := by kernel_rfl
theorem hb104 : hasBody Tryz.prog 104 = true := by kernel_rfl
theorem hb133 : hasBody Tryz.prog 133 = true := by kernel_rfl
theorem hb134 : hasBody Tryz.prog 134 = true := by kernel_rfl
theorem hb136 : hasBody Tryz.prog 136 = true := by kernel_rfl
theorem hb137 : hasBody Tryz.prog 137 = true := by kernel_rfl
theorem hb138 : hasBody Tryz.prog 138 = true := by kernel_rfl
theorem sz79 : sz? Tryz.prog 79 = some 2 := by kernel_rfl
theorem ze79 : zero? Tryz.prog 79 = some (.agg #[(.slice none 0 0), (.slice none 0 0)]) := by kernel_rfl
end T
set_option maxHeartbeats 10000000 in
/-- graph.Make -/
theorem Make_g {m : Imm} {A : Option Addr} {c : Nat} {succ : List (List Int)} (h : Sl (rS rI 1) 1 m A c succ) : Gives Tryz.prog 104 [.slice A succ.length c] m (GraphΦ (makeP succ)) := by
  have hlen := h.len
  refine gives_of Tryz.func104 rfl Tryz.ntmps104 rfl (fun w => ?_)
  refine CW_seq ?_
  refine CW_region ?_
  refine S_alloc (l := [_, _]) T.ze79 rfl rfl (fun b1 => ?_)
  refine W_q (r_assign rfl) rfl ?_
  refine W_nil ?_
  refine NX_as (L' := [(0, _), (2, _), (3, _)]) [0, 2, 3] rfl ?_
  refine CW_seq ?_
  refine CW_region ?_
  refine W_q (r_move rfl) rfl ?_
  refine W_q (r_len Tryz.underlying65 rfl) rfl ?_
  refine S_alloc (l := [_]) T.ze3 rfl rfl (fun b2 => ?_)
  refine S_storeb 0 (l' := [_]) rfl rfl rfl T.sz3 rfl rfl rfl rfl ?_
  refine W_nil ?_
  refine NX_as (L' := [(0, _), (2, _), (3, _), (4, _)]) [0, 2, 3, 4] rfl ?_
  refine CW_seq ?_
  refine CW_seq ?_
  refine CW_region ?_
  refine W_q (r_loadb 0 rfl T.ag3 rfl rfl) rfl ?_
  refine W_q (r_bin rfl rfl (bin_lss _ _ _ _)) rfl ?_
  refine W_q (r_move rfl) rfl ?_
  refine WL_split (t := 12) rfl (fun h3 => ?_) (fun h3 => ?_)
  · (try simp only [decide_eq_true_eq, decide_eq_false_iff_not, beq_iff_eq, beq_eq_false_iff_ne, bne_iff_ne, bne_eq_false_iff_eq, Bool.not_eq_true', Bool.not_eq_false', Bool.not_eq_true, Bool.not_eq_false, ne_eq, Decidable.not_not] at h3)
    refine WL_pass rfl rfl rfl rfl ?_
    refine WL_pass rfl rfl rfl rfl ?_
    refine W_q (r_pick_t rfl rfl) rfl ?_
    refine W_q (r_move rfl) rfl ?_
    refine WL_pass rfl rfl rfl rfl ?_
    refine WL_pass rfl rfl rfl rfl ?_
    refine WL_pass rfl rfl rfl rfl ?_
    refine W_q (r_pick_t rfl rfl) rfl ?_
    refine W_nil ?_
    refine NX_as (L' := [(0, _), (2, _), (3, _), (4, _), (20, _)]) [0, 2, 3, 4, 20] rfl ?_
    refine CW_cond_t rfl ?_
    refine CW_seq ?_
    refine CW_region ?_
    refine W_q (r_builds (cs := [_, _]) T.bl79 rfl rfl) rfl ?_
    refine S_storeb 1 (l' := [_, _]) rfl rfl rfl T.sz79 rfl rfl rfl rfl ?_
    refine W_q (r_assign rfl) rfl ?_
    refine W_nil ?_
    refine NX_as (L' := [(0, _), (2, _), (3, _), (4, _)]) [0, 2, 3, 4] rfl ?_
    refine C_ret (RX_then (RX_gR (res_ct 1 rfl rfl rfl T.ag79 T.sz79 rfl) ?_))
    rw [show makeP succ = none by simp_all [makeP]]
    exact ⟨_, rfl, _, _, _, _, rfl, Sl.nil _ _ _, Sl.nil _ _ _⟩
  · (try simp only [decide_eq_true_eq, decide_eq_false_iff_not, beq_iff_eq, beq_eq_false_iff_ne, bne_iff_ne, bne_eq_false_iff_eq, Bool.not_eq_true', Bool.not_eq_false', Bool.not_eq_true, Bool.not_eq_false, ne_eq, Decidable.not_not] at h3)
    refine WL_take rfl rfl ?_
    refine W_q (r_loadb 0 rfl T.ag3 rfl rfl) rfl ?_
    refine WL_take rfl rfl ?_
    refine W_q (r_bin rfl rfl (bin_gtr _ _ _ _)) rfl ?_
    refine W_q (r_pick_f rfl rfl) rfl ?_
    refine W_q (r_move rfl) rfl ?_
    refine WL_split (t := 16) rfl (fun h4 => ?_) (fun h4 => ?_)
    · (try simp only [decide_eq_true_eq, decide_eq_false_iff_not, beq_iff_eq, beq_eq_false_iff_ne, bne_iff_ne, bne_eq_false_iff_eq, Bool.not_eq_true', Bool.not_eq_false', Bool.not_eq_true, Bool.not_eq_false, ne_eq, Decidable.not_not] at h4)
      refine WL_pass rfl rfl rfl rfl ?_
      refine WL_pass rfl rfl rfl rfl ?_
      refine WL_pass rfl rfl rfl rfl ?_
      refine W_q (r_pick_t rfl rfl) rfl ?_
      refine W_nil ?_
      refine NX_as (L' := [(0, _), (2, _), (3, _), (4, _), (20, _)]) [0, 2, 3, 4, 20] rfl ?_
      refine CW_cond_t rfl ?_
      refine CW_seq ?_
      refine CW_region ?_
      refine W_q (r_builds (cs := [_, _]) T.bl79 rfl rfl) rfl ?_
      refine S_storeb 1 (l' := [_, _]) rfl rfl rfl T.sz79 rfl rfl rfl rfl ?_
      refine W_q (r_assign rfl) rfl ?_
      refine W_nil ?_
      refine NX_as (L' := [(0, _), (2, _), (3, _), (4, _)]) [0, 2, 3, 4] rfl ?_
      refine C_ret (RX_then (RX_gR (res_ct 1 rfl rfl rfl T.ag79 T.sz79 rfl) ?_))
      rw [show makeP succ = none by simp_all [makeP]]
      exact ⟨_, rfl, _, _, _, _, rfl, Sl.nil _ _ _, Sl.nil _ _ _⟩
    · (try simp only [decide_eq_true_eq, decide_eq_false_iff_not, beq_iff_eq, beq_eq_false_iff_ne, bne_iff_ne, bne_eq_false_iff_eq, Bool.not_eq_true', Bool.not_eq_false', Bool.not_eq_true, Bool.not_eq_false, ne_eq, Decidable.not_not] at h4)
      refine WL_take rfl rfl ?_
      refine W_q (r_move rfl) rfl ?_
      refine WL_take rfl rfl ?_
      refine W_q (r_makeFunc (first := []) (cap := [_]) rfl rfl) rfl ?_
      refine WL_take rfl rfl ?_
      refine W_q (r_quietb 0 rfl (fun m' le hc => ContainsFuncS_q (h.mono (rS_mono rI_mono) le) (p := fun l => !(risingP l succ.length)) (K := 134) T.hb134 (fun z hz A' c' hz' => Make1_q hz' (hc 0 _ rfl))) T.hb133 rfl) rfl ?_
      refine W_q (r_pick_f rfl rfl) rfl ?_
      refine W_nil ?_
      refine NX_as (L' := [(0, _), (2, _), (3, _), (4, _), (20, _)]) [0, 2, 3, 4, 20] rfl ?_
      refine CW_condk rfl (fun h5 => ?_) (fun h5 => ?_)
      · (try simp only [decide_eq_true_eq, decide_eq_false_iff_not, beq_iff_eq, beq_eq_false_iff_ne, bne_iff_ne, bne_eq_false_iff_eq, Bool.not_eq_true', Bool.not_eq_false', Bool.not_eq_true, Bool.not_eq_false, ne_eq, Decidable.not_not] at h5)
        refine CW_seq ?_
        refine CW_region ?_
        refine W_q (r_builds (cs := [_, _]) T.bl79 rfl rfl) rfl ?_
        refine S_storeb 1 (l' := [_, _]) rfl rfl rfl T.sz79 rfl rfl rfl rfl ?_
        refine W_q (r_assign rfl) rfl ?_
        refine W_nil ?_
        refine NX_as (L' := [(0, _), (2, _), (3, _), (4, _)]) [0, 2, 3, 4] rfl ?_
        refine C_ret (RX_then (RX_gR (res_ct 1 rfl rfl rfl T.ag79 T.sz79 rfl) ?_))
        rw [show makeP succ = none by simp_all [makeP]]
        exact ⟨_, rfl, _, _, _, _, rfl, Sl.nil _ _ _, Sl.nil _ _ _⟩
      · (try simp only [decide_eq_true_eq, decide_eq_false_iff_not, beq_iff_eq, beq_eq_false_iff_ne, bne_iff_ne, bne_eq_false_iff_eq, Bool.not_eq_true', Bool.not_eq_false', Bool.not_eq_true, Bool.not_eq_false, ne_eq, Decidable.not_not] at h5)
        refine C_skip ?_
        refine NX_as (L' := [(0, _), (2, _), (3, _), (4, _)]) [0, 2, 3, 4] rfl ?_
        refine CW_seq ?_
        refine CW_region ?_
        refine W_q (r_loadb 0 rfl T.ag3 rfl rfl) rfl ?_
        refine S_make0 (cap := succ.length) Tryz.underlying65 T.sz22 T.ze22 T.by22 rfl rfl rfl rfl (by omega) (by unfold maxLen; omega) rfl (fun b6 => ?_)
        refine W_q (r_assign rfl) rfl ?_
        refine W_nil ?_
        refine NX_as (L' := [(0, _), (2, _), (3, _), (5, _)]) [0, 2, 3, 5] rfl ?_
        refine CW_seq ?_
        refine CW_seq ?_
        refine CW_region ?_
        refine W_q (r_move rfl) rfl ?_
        refine W_q (r_len Tryz.underlying65 rfl) rfl ?_
        refine W_q (r_move rfl) rfl ?_
        refine W_nil ?_
        refine NX_as (L' := [(2, _), (3, _), (5, _), (24, _), (25, _), (26, _)]) [2, 3, 5, 24, 25, 26] rfl ?_
        have hR : ∀ l ∈ succ, risingP l succ.length = true := fun l hl => by simpa using List.any_eq_false.1 h5 l hl
        refine CW_front 0 rfl rfl ?_
        refine C_rangeM (Option Nat × Nat × List Value) (succ.length) (fun k7 mk7 x7 => m.le mk7 ∧ (SlCells mk7 x7.2.2 (succ.take k7))) (fun k7 x7 => [(5, .slice (rowA x7.1) k7 x7.2.1)]) (fun k7 x7 => [row x7.1 k7 x7.2.1 22 1 x7.2.2]) [5] [2, 3, 24] (F := [(2, _), (3, _), (24, _)]) ((some b6, succ.length, [])) rfl rfl (by omega) ⟨Imm.le_refl _, SlCells.nil _⟩ rfl rfl rfl rfl rfl rfl rfl (fun _ _ => rfl) (fun _ _ => rfl) (fun k7 mk7 x7 hk7 hJ7 => ?_) (fun mk7 x7 hJ7 => ?_)
        · obtain ⟨hle7, hJ7⟩ := hJ7
          replace h := h.mono (rS_mono rI_mono) hle7
          refine CW_as (L' := [(2, _), (3, _), (5, _), (24, _), (25, _), (26, _)]) [2, 3, 5, 24, 25, 26] rfl ?_
          refine CW_seq ?_
          refine CW_region ?_
          obtain ⟨ad8, hA8⟩ := h.ad (j := k7) (by omega)
          obtain ⟨z8, hz8⟩ := h.getz (j := k7) (by omega)
          refine W_q (r_index hA8 Tryz.underlying65 T.sz22 rfl rfl ⟨by omega, by omega⟩) rfl ?_
          obtain ⟨A9, c9, l9, h9⟩ := Sl.getS h hA8 hz8
          refine W_q (r_load_imm rfl T.ag22 l9) rfl ?_
          refine W_q (r_assign rfl) rfl ?_
          refine W_nil ?_
          refine NX_as (L' := [(2, _), (3, _), (5, _), (7, _), (24, _), (25, _), (26, _)]) [2, 3, 5, 7, 24, 25, 26] rfl ?_
          refine CW_region ?_
          refine W_q (r_move rfl) rfl ?_
          refine W_q (r_move rfl) rfl ?_
          refine S_gives (CloneI_g h9 (by have := rising_len (hR _ (List.mem_of_getElem? hz8)); omega)) T.hb136 rfl rfl (fun m10 v10 le10 hv10 => ?_)
          replace h := h.mono (rS_mono rI_mono) le10
          replace h9 := h9.mono rI_mono le10
          obtain ⟨A10, c10, rfl, h10⟩ := hv10
          refine S_litr (vs := [_]) (cs := [_]) Tryz.underlying65 T.sz22 T.ze22 rfl rfl rfl rfl rfl rfl rfl (fun b11 => ?_)
          refine S_appendG [_] 1 rfl rfl rfl Tryz.underlying65 T.sz22 T.ze22 T.by22 rfl rfl rfl (.row 0 rfl) rfl (by omega) (by unfold maxLen; omega) rfl (fun g12 c12 hg12 => ?_)
          refine W_q (r_assign rfl) rfl ?_
          refine W_nil ?_
          refine NX_block (?_)
          refine NX_rngM [5, 2, 3, 24] ((_, _, _)) ⟨Imm.le_trans (hle7) le10, ?_⟩ rfl (sub_drop 1 rfl) rfl
          rw [List.take_add_one, hz8]
          exact (hJ7.mono (le10)).snoc h10
        · obtain ⟨hle7, hJ7⟩ := hJ7
          replace h := h.mono (rS_mono rI_mono) hle7
          refine NX_know (k_rowG 0 rfl) (fun hr13 => ?_)
          refine NX_freeze 0 rfl (fun _ h => h) (fun m13 le13 hf13 => ?_)
          replace h := h.mono (rS_mono rI_mono) le13
          rw [List.take_of_length_le (Nat.le_refl _)] at hJ7
          have h13 := (hJ7.mono le13).sl hf13 hr13.2.1 hr13.2.2.1 (by omega) hr13.2.2.2
          refine NX_as (L' := [(2, _), (3, _), (5, _)]) [2, 3, 5] rfl ?_
          refine CW_seq ?_
          refine CW_region ?_
          refine W_q (r_move rfl) rfl ?_
          refine W_q (r_move rfl) rfl ?_
          refine S_gives (preds_g h13 (by omega) hR) T.hb137 rfl rfl (fun m14 v14 le14 hv14 => ?_)
          replace h := h.mono (rS_mono rI_mono) le14
          replace h13 := h13.mono (rS_mono rI_mono) le14
          obtain ⟨A14, c14, rfl, h14⟩ := hv14
          refine W_q (r_builds (cs := [_, _]) T.bl79 rfl rfl) rfl ?_
          refine S_storeb 1 (l' := [_, _]) rfl rfl rfl T.sz79 rfl rfl rfl rfl ?_
          refine W_q (r_assign rfl) rfl ?_
          refine W_nil ?_
          refine NX_as (L' := [(2, _), (3, _)]) [2, 3] rfl ?_
          refine C_ret (RX_gR (res_ct 1 rfl rfl rfl T.ag79 T.sz79 rfl) ?_)
          rw [show makeP succ = some ⟨succ, predsP succ⟩ by simp_all [makeP]]
          exact ⟨_, rfl, _, _, _, _, rfl, h13, h14⟩

set_option maxHeartbeats 10000000 in
/-- graph.May -/
theorem MayG_q {m : Imm} {es : List Value} {g : FGraph} (hG : rGraph m es g) : Quiet Tryz.prog 105 [.agg es.toArray] m (.bool (mayG g)) := by
  have hG_0 := hG
  obtain ⟨A90, c90, B90, d90, rfl, hs90, hp90⟩ := hG_0
  refine quiet_of Tryz.func105 rfl Tryz.ntmps105 rfl (fun w => ?_)
  refine CW_seq ?_
  refine CW_region ?_
  refine S_box (l := [_, _]) rfl rfl rfl (fun b1 => ?_)
  refine W_q (r_assign rfl) rfl ?_
  refine W_nil ?_
  refine NX_as (L' := [(1, _), (2, _)]) [1, 2] rfl ?_
  refine CW_seq ?_
  refine CW_region ?_
  refine W_q (r_fieldb (o' := 0) rfl T.fo79_0 rfl) rfl ?_
  refine W_q (r_loadb 0 rfl T.ag65 rfl rfl) rfl ?_
  refine S_gives (Make_g hs90) T.hb104 rfl rfl (fun m2 v2 le2 hv2 => ?_)
  replace hG := rGraph_mono _ _ _ _ le2 hG
  replace hs90 := hs90.mono (rS_mono rI_mono) le2
  replace hp90 := hp90.mono (rS_mono rI_mono) le2
  obtain ⟨_, rfl, A2, c2, B2, d2, rfl, h2, g2⟩ := hv2
  refine W_q (r_move rfl) rfl ?_
  refine W_q (r_extract rfl rfl) rfl ?_
  refine W_q (r_extract rfl rfl) rfl ?_
  refine S_alloc (l := [_, _]) T.ze79 rfl rfl (fun b3 => ?_)
  refine S_storeb 0 (l' := [_, _]) rfl rfl rfl T.sz79 rfl rfl rfl rfl ?_
  refine W_q (r_assign rfl) rfl ?_
  refine W_nil ?_
  refine NX_as (L' := [(1, _), (2, _), (3, _), (4, _)]) [1, 2, 3, 4] rfl ?_
  refine CW_seq ?_
  refine CW_region ?_
  refine W_q (r_move rfl) rfl ?_
  refine W_q (r_bin rfl rfl (bin_eql _ _ _ _)) rfl ?_
  refine W_q (r_move rfl) rfl ?_
  refine WL_split (t := 13) rfl (fun h4 => ?_) (fun h4 => ?_)
  · (try simp only [decide_eq_true_eq, decide_eq_false_iff_not, beq_iff_eq, beq_eq_false_iff_ne, bne_iff_ne, bne_eq_false_iff_eq, Bool.not_eq_true', Bool.not_eq_false', Bool.not_eq_true, Bool.not_eq_false, ne_eq, Decidable.not_not] at h4)
    refine WL_take rfl rfl ?_
    refine W_q (r_fieldb (o' := 1) rfl T.fo79_1 rfl) rfl ?_
    refine WL_take rfl rfl ?_
    refine W_q (r_loadb 0 rfl T.ag65 rfl rfl) rfl ?_
    refine WL_take rfl rfl ?_
    refine W_q (r_fieldb (o' := 1) rfl T.fo79_1 rfl) rfl ?_
    refine WL_take rfl rfl ?_
    refine W_q (r_loadb 1 rfl T.ag65 rfl rfl) rfl ?_
    refine WL_take rfl rfl ?_
    refine W_quiet (EqualFunc_q g2 hp90) T.hb138 rfl rfl ?_
    refine W_q (r_pick_t rfl rfl) rfl ?_
    refine W_q (r_assign rfl) rfl ?_
    refine W_nil ?_
    refine NX_as (L' := [(2, _)]) [2] rfl ?_
    refine C_ret (RX_q1 rfl rfl ?_)
    simp_all [mayG]
  · (try simp only [decide_eq_true_eq, decide_eq_false_iff_not, beq_iff_eq, beq_eq_false_iff_ne, bne_iff_ne, bne_eq_false_iff_eq, Bool.not_eq_true', Bool.not_eq_false', Bool.not_eq_true, Bool.not_eq_false, ne_eq, Decidable.not_not] at h4)
    refine WL_pass rfl rfl rfl rfl ?_
    refine WL_pass rfl rfl rfl rfl ?_
    refine WL_pass rfl rfl rfl rfl ?_
    refine WL_pass rfl rfl rfl rfl ?_
    refine WL_pass rfl rfl rfl rfl ?_
    refine W_q (r_pick_f rfl rfl) rfl ?_
    refine W_q (r_assign rfl) rfl ?_
    refine W_nil ?_
    refine NX_as (L' := [(2, _)]) [2] rfl ?_
    refine C_ret (RX_q1 rfl rfl ?_)
    simp_all [mayG]

end Go.Proofs.YtipmgkhjoekaaaaGreat

