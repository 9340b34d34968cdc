/- A part of a proof about a given program: rules, plain functions and walks. -/
import Derived.Sort.Grow
import Derived.Lib.SlicesCompact
import Derived.LoopN
import Derived.Shelf.Small.Bits
import Derived.Shelf.Small.Wraps
import Derived.Shelf.Strconv.Itoa0
import Derived.Shelf.Sort.Plain
import Derived.Shelf.Slices.Reverse
import Derived.Ground.Names2Prog
import Derived.Shelf.Slices.CompactI
import Derived.Shelf.Slices.Cells
import Derived.Shelf.Slices.In.SortNone
import Derived.Test.YtipmgkhjoekaaaaGreatProg
import Derived.Shelf.SlIterI.Sorted
import Derived.RangeFuncBox
import Derived.RangeFuncLeaves
import Derived.Shelf.Abstract
import Derived.WalkKit
import Derived.OwnWalkIn
import Derived.TacticsInMore
import Derived.LoopNIn
import Derived.LoopIn
import Derived.Test.YtipmgkhjoekaaaaGreatXb
set_option linter.unusedVariables false
set_option linter.unusedSimpArgs false
namespace Go.Proofs.YtipmgkhjoekaaaaGreat
open Go Go.RowKit Go.Proofs Go.Proofs.YtipmgkhjoekaaaaGreat.Fw
attribute [local irreducible] Qt WL CW NX RX EX GX DL
namespace T
theorem by22 : byt? Tryz.prog 22 = some 24 := by kernel_rfl
theorem hb135 : hasBody Tryz.prog 135 = true := by kernel_rfl
theorem hb139 : hasBody Tryz.prog 139 = true := by kernel_rfl
end T
set_option maxHeartbeats 4000000 in
/-- graph.rising -/
theorem rising_q {m : Imm} {A : Option Addr} {c : Nat} {l : List Int} (h : Ints m A c l) (n : Int) : Quiet Tryz.prog 135 [.slice A l.length c, .int .i64 n] m (.bool (risingP l n)) := by
 have hlen := h.len
 refine quiet_of Tryz.func135 rfl Tryz.ntmps135 rfl (fun w => ?_)
 refine CW_seq ?_
 refine CW_region ?_
 refine W_q (r_assign rfl) rfl ?_
 refine W_nil ?_
 refine NX_as (L' := [(0, _), (1, _), (4, _)]) [0, 1, 4] rfl ?_
 refine CW_seq ?_
 refine CW_region ?_
 refine W_q (r_assign rfl) rfl ?_
 refine W_nil ?_
 refine NX_as (L' := [(0, _), (1, _), (4, _), (5, _)]) [0, 1, 4, 5] rfl ?_
 refine CW_seq ?_
 refine CW_seq ?_
 refine CW_region ?_
 refine W_q (r_move rfl) rfl ?_
 refine W_q (r_len Tryz.underlying22 rfl) rfl ?_
 refine W_q (r_move rfl) rfl ?_
 refine W_nil ?_
 refine NX_as (L' := [(1, _), (4, _), (5, _), (8, _), (9, _), (10, _)]) [1, 4, 5, 8, 9, 10] rfl ?_
 refine C_range (Unit) (l.length) (fun k1 x1 => ∀ j, j < k1 → okR l n j = true) (fun k1 x1 => [(5, .int .i64 (prevL l k1))]) (fun _ _ => []) [5] [1, 8] (F := [(1, _), (8, _)]) (()) rfl rfl (by omega) (by simp) rfl rfl rfl rfl rfl rfl rfl (fun _ _ => rfl) (fun _ _ => rfl) (fun k1 x1 hk1 hJ1 => ?_) (fun x1 hJ1 => ?_)
 ·refine CW_as (L' := [(1, _), (5, _), (8, _), (9, _), (10, _)]) [1, 5, 8, 9, 10] rfl ?_
  refine CW_seq ?_
  refine CW_region ?_
  obtain ⟨ad2, hA2⟩ := h.ad (j := k1) (by omega)
  obtain ⟨z2, hz2⟩ := h.getz (j := k1) (by omega)
  refine W_q (r_index hA2 Tryz.underlying22 T.sz3 rfl rfl ⟨by omega, by omega⟩) rfl ?_
  obtain ⟨l3, r3⟩ := Sl.getI h hA2 hz2
  refine W_q (r_load_imm rfl T.ag3 l3) rfl ?_
  refine W_q (r_assign rfl) rfl ?_
  refine W_nil ?_
  refine NX_as (L' := [(1, _), (5, _), (7, _), (8, _), (9, _), (10, _)]) [1, 5, 7, 8, 9, 10] rfl ?_
  refine CW_seq ?_
  refine CW_seq ?_
  refine CW_region ?_
  refine W_q (r_move rfl) rfl ?_
  refine W_q (r_move rfl) rfl ?_
  refine W_q (r_bin rfl rfl (bin_leq _ _ _ _)) rfl ?_
  refine W_q (r_move rfl) rfl ?_
  refine WL_split (t := 17) rfl (fun h4 => ?_) (fun h4 => ?_)
  ·(try simp only [tA, tB, tC, tD, tE, tF, tG, tH, tI, tJ, tK, tL] at h4)
   refine WL_pass rfl rfl rfl rfl ?_
   refine WL_pass rfl rfl rfl rfl ?_
   refine WL_pass rfl rfl rfl rfl ?_
   refine W_q (r_pick_t rfl rfl) rfl ?_
   refine W_nil ?_
   refine NX_as (L' := [(1, _), (5, _), (7, _), (8, _), (9, _), (10, _), (21, _)]) [1, 5, 7, 8, 9, 10, 21] rfl ?_
   refine CW_cond_t rfl ?_
   refine CW_seq ?_
   refine CW_region ?_
   refine W_q (r_assign rfl) rfl ?_
   refine W_nil ?_
   refine NX_as (L' := [(1, _), (4, _), (5, _), (7, _), (8, _), (9, _), (10, _)]) [1, 4, 5, 7, 8, 9, 10] rfl ?_
   refine C_ret (RX_then (RX_block (RX_then (RX_block (RX_then (RX_q1 rfl rfl ?_))))))
   first
     | (rw [risingP, range_all_true hJ1]; done)
     | (rw [risingP, range_all_false (hk1) (by have e1 := getD_of (d := 0) hz2; simp only [okR, e1, Bool.and_eq_false_iff, decide_eq_false_iff_not]; omega)])
  ·(try simp only [tA, tB, tC, tD, tE, tF, tG, tH, tI, tJ, tK, tL] at h4)
   refine WL_take rfl rfl ?_
   refine W_q (r_move rfl) rfl ?_
   refine WL_take rfl rfl ?_
   refine W_q (r_move rfl) rfl ?_
   refine WL_take rfl rfl ?_
   refine W_q (r_bin rfl rfl (bin_geq _ _ _ _)) rfl ?_
   refine W_q (r_pick_f rfl rfl) rfl ?_
   refine W_nil ?_
   refine NX_as (L' := [(1, _), (5, _), (7, _), (8, _), (9, _), (10, _), (21, _)]) [1, 5, 7, 8, 9, 10, 21] rfl ?_
   refine CW_condk rfl (fun h5 => ?_) (fun h5 => ?_)
   ·(try simp only [tA, tB, tC, tD, tE, tF, tG, tH, tI, tJ, tK, tL] at h5)
    refine CW_seq ?_
    refine CW_region ?_
    refine W_q (r_assign rfl) rfl ?_
    refine W_nil ?_
    refine NX_as (L' := [(1, _), (4, _), (5, _), (7, _), (8, _), (9, _), (10, _)]) [1, 4, 5, 7, 8, 9, 10] rfl ?_
    refine C_ret (RX_then (RX_block (RX_then (RX_block (RX_then (RX_q1 rfl rfl ?_))))))
    first
      | (rw [risingP, range_all_true hJ1]; done)
      | (rw [risingP, range_all_false (hk1) (by have e1 := getD_of (d := 0) hz2; simp only [okR, e1, Bool.and_eq_false_iff, decide_eq_false_iff_not]; omega)])
   ·(try simp only [tA, tB, tC, tD, tE, tF, tG, tH, tI, tJ, tK, tL] at h5)
    refine C_skip ?_
    refine NX_as (L' := [(1, _), (5, _), (7, _), (8, _), (9, _), (10, _)]) [1, 5, 7, 8, 9, 10] rfl ?_
    refine CW_region ?_
    refine W_q (r_move rfl) rfl ?_
    refine W_q (r_assign rfl) rfl ?_
    refine W_nil ?_
    refine NX_block (?_)
    rw [← prevL_succ hz2]
    refine NX_rng [5, 1, 8] (()) ?_ rfl (List.Sublist.refl _) rfl (Imm.le_refl _)
    refine lt_succ_all hJ1 ?_
    have e1 := getD_of (d := 0) hz2
    have e2 := prevL_succ hz2
    simp only [okR, e1, Bool.and_eq_true, decide_eq_true_eq]
    omega
 ·refine NX_as (L' := []) [] rfl ?_
  refine CW_seq ?_
  refine CW_region ?_
  refine W_q (r_assign rfl) rfl ?_
  refine W_nil ?_
  refine NX_as (L' := [(4, _)]) [4] rfl ?_
  refine C_ret (RX_q1 rfl rfl ?_)
  first
    | (rw [risingP, range_all_true hJ1]; done)
    | (rw [risingP, range_all_false (hk1) (by have e1 := getD_of (d := 0) hz2; simp only [okR, e1, Bool.and_eq_false_iff, decide_eq_false_iff_not]; omega)])

set_option maxHeartbeats 4000000 in
/-- graph.Make$1 -/
theorem Make1_q {m : Imm} {A : Option Addr} {c : Nat} {l : List Int} (h : Ints m A c l) {ad : Addr} {n : Int} (hn : m.cell? ad = some (.int .i64 n)) : Quiet Tryz.prog 134 [.slice A l.length c, .pointer (some ad)] m (.bool (!(risingP l n))) := by
 refine quiet_of Tryz.func134 rfl Tryz.ntmps134 rfl (fun w => ?_)
 refine CW_seq ?_
 refine CW_region ?_
 refine W_q (r_assign rfl) rfl ?_
 refine W_nil ?_
 refine NX_as (L' := [(0, _), (1, _), (3, _)]) [0, 1, 3] rfl ?_
 refine CW_seq ?_
 refine CW_region ?_
 refine W_q (r_move rfl) rfl ?_
 refine W_q (r_load_imm rfl T.ag3 hn) rfl ?_
 refine W_quiet (rising_q h _) T.hb135 rfl rfl ?_
 refine W_q (r_not rfl) rfl ?_
 refine W_q (r_assign rfl) rfl ?_
 refine W_nil ?_
 refine NX_as (L' := [(3, _)]) [3] rfl ?_
 refine C_ret (RX_q1 rfl rfl ?_)
 rfl

set_option maxHeartbeats 4000000 in
/-- graph.Of$1 -/
theorem Of1_q {m : Imm} (k : Int) {ad : Addr} {n : Int} (hn : m.cell? ad = some (.int .i64 n)) : Quiet Tryz.prog 101 [.int .i64 k, .pointer (some ad)] m (.bool (decide (k < 1) || decide (n ≤ k))) := by
 refine quiet_of Tryz.func101 rfl Tryz.ntmps101 rfl (fun w => ?_)
 refine CW_seq ?_
 refine CW_region ?_
 refine W_q (r_assign rfl) rfl ?_
 refine W_nil ?_
 refine NX_as (L' := [(0, _), (1, _), (3, _)]) [0, 1, 3] rfl ?_
 refine CW_seq ?_
 refine CW_region ?_
 refine W_q (r_move rfl) rfl ?_
 refine W_q (r_bin rfl rfl (bin_lss _ _ _ _)) rfl ?_
 refine W_q (r_move rfl) rfl ?_
 refine WL_split (t := 6) rfl (fun h1 => ?_) (fun h1 => ?_)
 ·(try simp only [tA, tB, tC, tD, tE, tF, tG, tH, tI, tJ, tK, tL] at h1)
  refine WL_pass rfl rfl rfl rfl ?_
  refine WL_pass rfl rfl rfl rfl ?_
  refine WL_pass rfl rfl rfl rfl ?_
  refine W_q (r_pick_t rfl rfl) rfl ?_
  refine W_q (r_assign rfl) rfl ?_
  refine W_nil ?_
  refine NX_as (L' := [(3, _)]) [3] rfl ?_
  refine C_ret (RX_q1 rfl rfl ?_)
  first
    | (simp_all; done)
    | (simp_all; omega)
 ·(try simp only [tA, tB, tC, tD, tE, tF, tG, tH, tI, tJ, tK, tL] at h1)
  refine WL_take rfl rfl ?_
  refine W_q (r_move rfl) rfl ?_
  refine WL_take rfl rfl ?_
  refine W_q (r_load_imm rfl T.ag3 hn) rfl ?_
  refine WL_take rfl rfl ?_
  refine W_q (r_bin rfl rfl (bin_geq _ _ _ _)) rfl ?_
  refine W_q (r_pick_f rfl rfl) rfl ?_
  refine W_q (r_assign rfl) rfl ?_
  refine W_nil ?_
  refine NX_as (L' := [(3, _)]) [3] rfl ?_
  refine C_ret (RX_q1 rfl rfl ?_)
  first
    | (simp_all; done)
    | (simp_all; omega)

set_option maxHeartbeats 4000000 in
/-- slices.Clone[[]int,int] -/
theorem CloneI_g {m : Imm} {A : Option Addr} {c : Nat} {l : List Int} (h : Ints m A c l) (hl : l.length ≤ 1000000) : Gives Tryz.prog 136 [.slice A l.length c] m (fun m' v => ∃ A' c', v = .slice A' ([] ++ l).length c' ∧ Ints m' A' c' ([] ++ l)) := by
 have hlen := h.len
 refine gives_of Tryz.func136 rfl Tryz.ntmps136 rfl (fun w => ?_)
 refine CW_seq ?_
 refine CW_region ?_
 refine W_q (r_assign rfl) rfl ?_
 refine W_nil ?_
 refine NX_as (L' := [(0, _), (2, _)]) [0, 2] rfl ?_
 refine CW_seq ?_
 refine CW_seq ?_
 refine CW_region ?_
 refine W_q (r_move rfl) rfl ?_
 refine W_q (r_sliceeq rfl rfl Tryz.underlying22) rfl ?_
 refine W_nil ?_
 refine NX_as (L' := [(0, _), (2, _), (4, _)]) [0, 2, 4] rfl ?_
 refine CW_condk rfl (fun h1 => ?_) (fun h1 => ?_)
 ·(try simp only [tA, tB, tC, tD, tE, tF, tG, tH, tI, tJ, tK, tL] at h1)
  refine CW_seq ?_
  refine CW_region ?_
  refine W_q (r_assign rfl) rfl ?_
  refine W_nil ?_
  refine NX_as (L' := [(0, _), (2, _)]) [0, 2] rfl ?_
  have e0 := Ints_none h h1
  subst e0
  exact C_ret (RX_then (RX_g1 rfl rfl ⟨_, _, rfl, Sl.nil _ _ _⟩))
 ·(try simp only [tA, tB, tC, tD, tE, tF, tG, tH, tI, tJ, tK, tL] at h1)
  refine C_skip ?_
  refine NX_as (L' := [(0, _), (2, _)]) [0, 2] rfl ?_
  refine CW_seq ?_
  refine CW_region ?_
  refine S_litr (vs := []) (cs := []) Tryz.underlying22 T.sz3 T.ze3 rfl rfl rfl rfl rfl rfl rfl (fun b2 => ?_)
  refine W_q (r_move rfl) rfl ?_
  refine S_appendI (l := []) (g1 := (some b2)) l 0 rfl rfl rfl Tryz.underlying22 T.sz3 T.ze3 T.by3 rfl rfl (Src_ints h h1) (by simp; omega) rfl (fun g3 c3 hg3 => ?_)
  refine W_q (r_assign rfl) rfl ?_
  refine W_nil ?_
  refine NX_as (L' := [(2, _)]) [2] rfl ?_
  refine C_ret (RX_know (k_rowI 0 rfl) (fun hr => ?_))
  refine RX_freeze 0 rfl (fun _ h => h) (fun mf lef hf => ?_)
  have hfin : Ints mf _ _ _ := Ints_frz hf hr.1 hr.2.1 (by simp; omega) hr.2.2 (by simpa using Ints_all h)
  exact RX_g1 rfl rfl ⟨_, _, rfl, by simpa using hfin⟩

set_option maxHeartbeats 4000000 in
/-- slices.Equal[[]int,int] -/
theorem EqualI_q {m : Imm} {A : Option Addr} {c : Nat} {l : List Int} (h : Ints m A c l) {A' : Option Addr} {c' : Nat} {l' : List Int} (h' : Ints m A' c' l') : Quiet Tryz.prog 139 [.slice A l.length c, .slice A' l'.length c'] m (.bool (l == l')) := by
 have hlen := h.len
 have hlen' := h'.len
 refine quiet_of Tryz.func139 rfl Tryz.ntmps139 rfl (fun w => ?_)
 refine CW_seq ?_
 refine CW_region ?_
 refine W_q (r_assign rfl) rfl ?_
 refine W_nil ?_
 refine NX_as (L' := [(0, _), (1, _), (4, _)]) [0, 1, 4] rfl ?_
 refine CW_seq ?_
 refine CW_seq ?_
 refine CW_region ?_
 refine W_q (r_move rfl) rfl ?_
 refine W_q (r_len Tryz.underlying22 rfl) rfl ?_
 refine W_q (r_move rfl) rfl ?_
 refine W_q (r_len Tryz.underlying22 rfl) rfl ?_
 refine W_q (r_bin rfl rfl (bin_neq _ _ _ _)) rfl ?_
 refine W_nil ?_
 refine NX_as (L' := [(0, _), (1, _), (4, _), (10, _)]) [0, 1, 4, 10] rfl ?_
 refine CW_condk rfl (fun h1 => ?_) (fun h1 => ?_)
 ·(try simp only [tA, tB, tC, tD, tE, tF, tG, tH, tI, tJ, tK, tL] at h1)
  refine CW_seq ?_
  refine CW_region ?_
  refine W_q (r_assign rfl) rfl ?_
  refine W_nil ?_
  refine NX_as (L' := [(0, _), (1, _), (4, _)]) [0, 1, 4] rfl ?_
  refine C_ret (RX_then (RX_q1 rfl rfl ?_))
  first
    | (have : l ≠ l' := by rintro rfl; omega
       simp [this]; done)
    | (have : l ≠ l' := by rintro rfl; simp_all
       simp [this]; done)
    | (rw [eq_of_all (by omega) «J0»]; simp)
 ·(try simp only [tA, tB, tC, tD, tE, tF, tG, tH, tI, tJ, tK, tL] at h1)
  refine C_skip ?_
  refine NX_as (L' := [(0, _), (1, _), (4, _)]) [0, 1, 4] rfl ?_
  refine CW_seq ?_
  refine CW_seq ?_
  refine CW_region ?_
  refine W_q (r_move rfl) rfl ?_
  refine W_q (r_len Tryz.underlying22 rfl) rfl ?_
  refine W_q (r_move rfl) rfl ?_
  refine W_nil ?_
  refine NX_as (L' := [(0, _), (1, _), (4, _), (12, _), (13, _)]) [0, 1, 4, 12, 13] rfl ?_
  refine C_range (Unit) (l.length) (fun k2 x2 => ∀ j, j < k2 → l[j]? = l'[j]?) (fun k2 x2 => []) (fun _ _ => []) [] [0, 1] (F := [(0, _), (1, _)]) (()) rfl rfl (by omega) (by simp) rfl rfl rfl rfl rfl rfl rfl (fun _ _ => rfl) (fun _ _ => rfl) (fun k2 x2 hk2 hJ2 => ?_) (fun x2 hJ2 => ?_)
  ·refine CW_as (L' := [(0, _), (1, _), (12, _), (13, _)]) [0, 1, 12, 13] rfl ?_
   refine CW_seq ?_
   refine CW_region ?_
   refine W_q (r_move rfl) rfl ?_
   refine W_q (r_assign rfl) rfl ?_
   refine W_nil ?_
   refine NX_as (L' := [(0, _), (1, _), (5, _), (12, _), (13, _)]) [0, 1, 5, 12, 13] rfl ?_
   refine CW_seq ?_
   refine C_drawn [(0, true), (1, true), (2, true), (3, true), (4, true), (5, true), (6, true), (7, true), (8, true)] (by kernel_rfl) rfl (by kernel_rfl) (by kernel_rfl) ?_
   refine D_q rfl (r_move rfl) rfl ?_
   refine D_q rfl (r_move rfl) rfl ?_
   obtain ⟨ad3, hA3⟩ := h.ad (j := k2) (by omega)
   obtain ⟨z3, hz3⟩ := h.getz (j := k2) (by omega)
   refine D_q rfl (r_index hA3 Tryz.underlying22 T.sz3 rfl rfl ⟨by omega, by omega⟩) rfl ?_
   obtain ⟨l4, r4⟩ := Sl.getI h hA3 hz3
   refine D_q rfl (r_load_imm rfl T.ag3 l4) rfl ?_
   refine D_q rfl (r_move rfl) rfl ?_
   refine D_q rfl (r_move rfl) rfl ?_
   obtain ⟨ad5, hA5⟩ := h'.ad (j := k2) (by omega)
   obtain ⟨z5, hz5⟩ := h'.getz (j := k2) (by omega)
   refine D_q rfl (r_index hA5 Tryz.underlying22 T.sz3 rfl rfl ⟨by omega, by omega⟩) rfl ?_
   obtain ⟨l6, r6⟩ := Sl.getI h' hA5 hz5
   refine D_q rfl (r_load_imm rfl T.ag3 l6) rfl ?_
   refine D_q rfl (r_bin rfl rfl (bin_neq _ _ _ _)) rfl ?_
   refine D_end ?_
   refine NX_as (L' := [(0, _), (1, _), (12, _), (13, _), (24, _)]) [0, 1, 12, 13, 24] rfl ?_
   refine CW_condk rfl (fun h7 => ?_) (fun h7 => ?_)
   ·(try simp only [tA, tB, tC, tD, tE, tF, tG, tH, tI, tJ, tK, tL] at h7)
    refine CW_seq ?_
    refine CW_region ?_
    refine W_q (r_assign rfl) rfl ?_
    refine W_nil ?_
    refine NX_as (L' := [(0, _), (1, _), (4, _), (12, _), (13, _)]) [0, 1, 4, 12, 13] rfl ?_
    refine C_ret (RX_block (RX_then (RX_block (RX_then (RX_q1 rfl rfl ?_)))))
    first
      | (have : l ≠ l' := by rintro rfl; omega
         simp [this]; done)
      | (have : l ≠ l' := by rintro rfl; simp_all
         simp [this]; done)
      | (rw [eq_of_all (by omega) hJ2]; simp)
   ·(try simp only [tA, tB, tC, tD, tE, tF, tG, tH, tI, tJ, tK, tL] at h7)
    refine C_skip ?_
    refine NX_block (?_)
    refine NX_rng [0, 1] (()) ?_ rfl (List.Sublist.refl _) rfl (Imm.le_refl _)
    exact lt_succ_all hJ2 (by simp_all)
  ·refine NX_as (L' := []) [] rfl ?_
   refine CW_seq ?_
   refine CW_region ?_
   refine W_q (r_assign rfl) rfl ?_
   refine W_nil ?_
   refine NX_as (L' := [(4, _)]) [4] rfl ?_
   refine C_ret (RX_q1 rfl rfl ?_)
   first
     | (have : l ≠ l' := by rintro rfl; omega
        simp [this]; done)
     | (have : l ≠ l' := by rintro rfl; simp_all
        simp [this]; done)
     | (rw [eq_of_all (by omega) hJ2]; simp)

set_option maxHeartbeats 4000000 in
/-- slices.EqualFunc[[][]int,[][]int,[]int,[]int] -/
theorem EqualFunc_q {m : Imm} {A : Option Addr} {c : Nat} {ll : List (List Int)} (h : Sl (rS rI 1) 1 m A c ll) {A' : Option Addr} {c' : Nat} {ll' : List (List Int)} (h' : Sl (rS rI 1) 1 m A' c' ll') : Quiet Tryz.prog 138 [.slice A ll.length c, .slice A' ll'.length c', .func (.func 139) #[] #[]] m (.bool (ll == ll')) := by
 have hlen := h.len
 have hlen' := h'.len
 refine quiet_of Tryz.func138 rfl Tryz.ntmps138 rfl (fun w => ?_)
 refine CW_seq ?_
 refine CW_region ?_
 refine W_q (r_assign rfl) rfl ?_
 refine W_nil ?_
 refine NX_as (L' := [(0, _), (1, _), (2, _), (6, _)]) [0, 1, 2, 6] rfl ?_
 refine CW_seq ?_
 refine CW_seq ?_
 refine CW_region ?_
 refine W_q (r_move rfl) rfl ?_
 refine W_q (r_len Tryz.underlying65 rfl) rfl ?_
 refine W_q (r_move rfl) rfl ?_
 refine W_q (r_len Tryz.underlying65 rfl) rfl ?_
 refine W_q (r_bin rfl rfl (bin_neq _ _ _ _)) rfl ?_
 refine W_nil ?_
 refine NX_as (L' := [(0, _), (1, _), (2, _), (6, _), (14, _)]) [0, 1, 2, 6, 14] rfl ?_
 refine CW_condk rfl (fun h1 => ?_) (fun h1 => ?_)
 ·(try simp only [tA, tB, tC, tD, tE, tF, tG, tH, tI, tJ, tK, tL] at h1)
  refine CW_seq ?_
  refine CW_region ?_
  refine W_q (r_assign rfl) rfl ?_
  refine W_nil ?_
  refine NX_as (L' := [(0, _), (1, _), (2, _), (6, _)]) [0, 1, 2, 6] rfl ?_
  refine C_ret (RX_then (RX_q1 rfl rfl ?_))
  first
    | (have : ll ≠ ll' := by rintro rfl; omega
       simp [this]; done)
    | (have : ll ≠ ll' := by rintro rfl; simp_all
       simp [this]; done)
    | (rw [eq_of_allg (by omega) «J0»]; simp)
 ·(try simp only [tA, tB, tC, tD, tE, tF, tG, tH, tI, tJ, tK, tL] at h1)
  refine C_skip ?_
  refine NX_as (L' := [(0, _), (1, _), (2, _), (6, _)]) [0, 1, 2, 6] rfl ?_
  refine CW_seq ?_
  refine CW_seq ?_
  refine CW_region ?_
  refine W_q (r_move rfl) rfl ?_
  refine W_q (r_len Tryz.underlying65 rfl) rfl ?_
  refine W_q (r_move rfl) rfl ?_
  refine W_nil ?_
  refine NX_as (L' := [(1, _), (2, _), (6, _), (15, _), (16, _), (17, _)]) [1, 2, 6, 15, 16, 17] rfl ?_
  refine C_range (Unit) (ll.length) (fun k2 x2 => ∀ j, j < k2 → ll[j]? = ll'[j]?) (fun k2 x2 => []) (fun _ _ => []) [] [1, 2, 15] (F := [(1, _), (2, _), (15, _)]) (()) rfl rfl (by omega) (by simp) rfl rfl rfl rfl rfl rfl rfl (fun _ _ => rfl) (fun _ _ => rfl) (fun k2 x2 hk2 hJ2 => ?_) (fun x2 hJ2 => ?_)
  ·refine CW_as (L' := [(1, _), (2, _), (15, _), (16, _), (17, _)]) [1, 2, 15, 16, 17] rfl ?_
   refine CW_seq ?_
   refine CW_region ?_
   refine W_q (r_move rfl) rfl ?_
   obtain ⟨ad3, hA3⟩ := h.ad (j := k2) (by omega)
   obtain ⟨z3, hz3⟩ := h.getz (j := k2) (by omega)
   refine W_q (r_index hA3 Tryz.underlying65 T.sz22 rfl rfl ⟨by omega, by omega⟩) rfl ?_
   obtain ⟨A4, c4, l4, h4⟩ := Sl.getS h hA3 hz3
   refine W_q (r_load_imm rfl T.ag22 l4) rfl ?_
   refine W_q (r_assign rfl) rfl ?_
   refine W_q (r_assign rfl) rfl ?_
   refine W_nil ?_
   refine NX_as (L' := [(1, _), (2, _), (7, _), (8, _), (15, _), (16, _), (17, _)]) [1, 2, 7, 8, 15, 16, 17] rfl ?_
   refine CW_seq ?_
   refine CW_region ?_
   refine W_q (r_move rfl) rfl ?_
   refine W_q (r_move rfl) rfl ?_
   obtain ⟨ad5, hA5⟩ := h'.ad (j := k2) (by omega)
   obtain ⟨z5, hz5⟩ := h'.getz (j := k2) (by omega)
   refine W_q (r_index hA5 Tryz.underlying65 T.sz22 rfl rfl ⟨by omega, by omega⟩) rfl ?_
   obtain ⟨A6, c6, l6, h6⟩ := Sl.getS h' hA5 hz5
   refine W_q (r_load_imm rfl T.ag22 l6) rfl ?_
   refine W_q (r_assign rfl) rfl ?_
   refine W_nil ?_
   refine NX_as (L' := [(1, _), (2, _), (8, _), (9, _), (15, _), (16, _), (17, _)]) [1, 2, 8, 9, 15, 16, 17] rfl ?_
   refine CW_seq ?_
   refine CW_region ?_
   refine W_q (r_move rfl) rfl ?_
   refine W_q (r_move rfl) rfl ?_
   refine W_q (r_move rfl) rfl ?_
   refine W_callv rfl rfl (EqualI_q h4 h6) T.hb139 rfl ?_
   refine W_q (r_not rfl) rfl ?_
   refine W_nil ?_
   refine NX_as (L' := [(1, _), (2, _), (15, _), (16, _), (17, _), (30, _)]) [1, 2, 15, 16, 17, 30] rfl ?_
   refine CW_condk rfl (fun h7 => ?_) (fun h7 => ?_)
   ·(try simp only [tA, tB, tC, tD, tE, tF, tG, tH, tI, tJ, tK, tL] at h7)
    refine CW_seq ?_
    refine CW_region ?_
    refine W_q (r_assign rfl) rfl ?_
    refine W_nil ?_
    refine NX_as (L' := [(1, _), (2, _), (6, _), (15, _), (16, _), (17, _)]) [1, 2, 6, 15, 16, 17] rfl ?_
    refine C_ret (RX_block (RX_then (RX_block (RX_then (RX_q1 rfl rfl ?_)))))
    first
      | (have : ll ≠ ll' := by rintro rfl; omega
         simp [this]; done)
      | (have : ll ≠ ll' := by rintro rfl; simp_all
         simp [this]; done)
      | (rw [eq_of_allg (by omega) hJ2]; simp)
   ·(try simp only [tA, tB, tC, tD, tE, tF, tG, tH, tI, tJ, tK, tL] at h7)
    refine C_skip ?_
    refine NX_block (?_)
    refine NX_rng [1, 2, 15] (()) ?_ rfl (List.Sublist.refl _) rfl (Imm.le_refl _)
    exact lt_succ_all hJ2 (by simp_all)
  ·refine NX_as (L' := []) [] rfl ?_
   refine CW_seq ?_
   refine CW_region ?_
   refine W_q (r_assign rfl) rfl ?_
   refine W_nil ?_
   refine NX_as (L' := [(6, _)]) [6] rfl ?_
   refine C_ret (RX_q1 rfl rfl ?_)
   first
     | (have : ll ≠ ll' := by rintro rfl; omega
        simp [this]; done)
     | (have : ll ≠ ll' := by rintro rfl; simp_all
        simp [this]; done)
     | (rw [eq_of_allg (by omega) hJ2]; simp)

set_option maxHeartbeats 10000000 in
/-- graph.preds -/
theorem preds_g {m : Imm} {A : Option Addr} {c : Nat} {succ : List (List Int)} (h : Sl (rS rI 1) 1 m A c succ) (hn : succ.length ≤ 64) (hr : ∀ l ∈ succ, risingP l succ.length = true) : Gives Tryz.prog 137 [.slice A succ.length c] m (fun m' v => ∃ A' c', v = .slice A' (predsP succ).length c' ∧ Sl (rS rI 1) 1 m' A' c' (predsP succ)) := by
 refine gives_of Tryz.func137 rfl Tryz.ntmps137 rfl (fun w => ?_)
 refine CW_seq ?_
 refine CW_region ?_
 refine W_q (r_assign rfl) rfl ?_
 refine W_nil ?_
 refine NX_as (L' := [(0, _), (2, _)]) [0, 2] rfl ?_
 refine CW_seq ?_
 refine CW_region ?_
 refine W_q (r_move rfl) rfl ?_
 refine W_q (r_len Tryz.underlying65 rfl) rfl ?_
 refine S_make1 succ.length Tryz.underlying65 T.sz22 T.ze22 T.by22 rfl rfl rfl rfl rfl (by omega) (by unfold maxLen; omega) rfl (fun b1 => ?_)
 refine W_q (r_assign rfl) rfl ?_
 refine W_nil ?_
 refine NX_as (L' := [(0, _), (2, _), (3, _)]) [0, 2, 3] rfl ?_
 refine CW_seq ?_
 refine CW_seq ?_
 refine CW_region ?_
 refine W_q (r_move rfl) rfl ?_
 refine W_q (r_len Tryz.underlying65 rfl) rfl ?_
 refine W_q (r_move rfl) rfl ?_
 refine W_nil ?_
 refine NX_as (L' := [(2, _), (3, _), (11, _), (12, _), (13, _)]) [2, 3, 11, 12, 13] rfl ?_
 refine CW_matrix 3 ?_
 refine C_range (List IRow) (succ.length) (fun k2 x2 => x2.length = succ.length ∧ x2.map (fun y => y.2.2) = predsK succ k2 ∧ ∀ y ∈ x2, y.2.2.length ≤ k2 * 64) (fun k2 x2 => []) (fun k2 x2 => row (some b1) succ.length succ.length 22 1 (x2.map IRow.val) :: x2.map (IRow.res 3)) [] [2, 3, 11] (F := [(2, _), (3, _), (11, _)]) (List.replicate succ.length (none, 0, [])) rfl rfl (by omega) (by refine ⟨by simp, by simp [predsK], by simp⟩) rfl rfl rfl rfl rfl rfl rfl (fun _ _ => rfl) (fun _ _ => rfl) (fun k2 x2 hk2 hJ2 => ?_) (fun x2 hJ2 => ?_)
 ·refine CW_as (L' := [(2, _), (3, _), (11, _), (12, _), (13, _)]) [2, 3, 11, 12, 13] rfl ?_
  refine CW_seq ?_
  refine CW_region ?_
  refine W_q (r_move rfl) rfl ?_
  obtain ⟨ad3, hA3⟩ := h.ad (j := k2) (by omega)
  obtain ⟨z3, hz3⟩ := h.getz (j := k2) (by omega)
  refine W_q (r_index hA3 Tryz.underlying65 T.sz22 rfl rfl ⟨by omega, by omega⟩) rfl ?_
  obtain ⟨A4, c4, l4, h4⟩ := Sl.getS h hA3 hz3
  refine W_q (r_load_imm rfl T.ag22 l4) rfl ?_
  refine W_q (r_assign rfl) rfl ?_
  refine W_q (r_assign rfl) rfl ?_
  refine W_nil ?_
  refine NX_as (L' := [(2, _), (3, _), (4, _), (5, _), (11, _), (12, _), (13, _)]) [2, 3, 4, 5, 11, 12, 13] rfl ?_
  refine CW_seq ?_
  refine CW_region ?_
  refine W_q (r_move rfl) rfl ?_
  refine W_q (r_len Tryz.underlying22 rfl) rfl ?_
  refine W_q (r_move rfl) rfl ?_
  refine W_nil ?_
  refine NX_as (L' := [(2, _), (3, _), (4, _), (11, _), (12, _), (13, _), (18, _), (19, _), (20, _)]) [2, 3, 4, 11, 12, 13, 18, 19, 20] rfl ?_
  have hR := hr _ (List.mem_of_getElem? hz3)
  obtain ⟨hIa, hIb, hIc⟩ := hJ2
  refine C_range (List IRow) (z3.length) (fun k5 x5 => x5.length = succ.length ∧ x5.map (fun y => y.2.2) = predRow (predsK succ k2) (k2 : Int) (z3.take k5) ∧ ∀ y ∈ x5, y.2.2.length ≤ k2 * 64 + k5) (fun k5 x5 => []) (fun k5 x5 => row (some b1) succ.length succ.length 22 1 (x5.map IRow.val) :: x5.map (IRow.res 3)) [] [2, 3, 4, 11, 12, 13, 18] (F := [(2, _), (3, _), (4, _), (11, _), (12, _), (13, _), (18, _)]) (x2) rfl rfl (by have := rising_len hR; omega) (by refine ⟨hIa, by simpa [predRow] using hIb, fun y hy => by have := hIc y hy; omega⟩) rfl rfl rfl rfl rfl rfl rfl (fun _ _ => rfl) (fun _ _ => rfl) (fun k5 x5 hk5 hJ5 => ?_) (fun x5 hJ5 => ?_)
  ·obtain ⟨hJa, hJb, hJl⟩ := hJ5
   have hkk := hk5
   refine CW_as (L' := [(2, _), (3, _), (4, _), (11, _), (12, _), (13, _), (18, _), (19, _), (20, _)]) [2, 3, 4, 11, 12, 13, 18, 19, 20] rfl ?_
   refine CW_seq ?_
   refine CW_region ?_
   obtain ⟨ad6, hA6⟩ := h4.ad (j := k5) (by omega)
   obtain ⟨z6, hz6⟩ := h4.getz (j := k5) (by omega)
   refine W_q (r_index hA6 Tryz.underlying22 T.sz3 rfl rfl ⟨by omega, by omega⟩) rfl ?_
   obtain ⟨l7, r7⟩ := Sl.getI h4 hA6 hz6
   refine W_q (r_load_imm rfl T.ag3 l7) rfl ?_
   refine W_q (r_assign rfl) rfl ?_
   refine W_nil ?_
   refine NX_as (L' := [(2, _), (3, _), (4, _), (7, _), (11, _), (12, _), (13, _), (18, _), (19, _), (20, _)]) [2, 3, 4, 7, 11, 12, 13, 18, 19, 20] rfl ?_
   refine CW_region ?_
   refine W_q (r_move rfl) rfl ?_
   refine W_q (r_move rfl) rfl ?_
   refine W_q (r_move rfl) rfl ?_
   refine W_q (r_move rfl) rfl ?_
   refine W_q (r_indexr (o := z6.toNat) Tryz.underlying65 T.sz22 rfl rfl ⟨(rising_get hR hz6).1, (rising_get hR hz6).2⟩ (by omega)) rfl ?_
   obtain ⟨it9, hit9⟩ : ∃ it, x5[z6.toNat]? = some it := ⟨_, List.getElem?_eq_getElem (by have := rising_get hR hz6; omega)⟩
   refine W_q (r_loadr 0 rfl T.ag22 rfl (v := IRow.val it9) (by rw [List.getElem?_map, hit9]; rfl)) rfl ?_
   refine W_q (r_move rfl) rfl ?_
   refine S_litr (vs := [_]) (cs := [_]) Tryz.underlying22 T.sz3 T.ze3 rfl rfl rfl rfl rfl rfl rfl (fun b10 => ?_)
   refine S_appendM [_] rfl hit9 rfl rfl Tryz.underlying22 T.sz3 T.ze3 T.by3 rfl rfl (.row 0 rfl) (by have := hJl _ (List.mem_of_getElem? hit9); have := rising_len hR; simp only [List.length_cons, List.length_nil]; omega) rfl (fun g11 c11 hg11 => ?_)
   refine W_q (r_indexr (o := z6.toNat) Tryz.underlying65 T.sz22 rfl rfl ⟨(rising_get hR hz6).1, (rising_get hR hz6).2⟩ (by omega)) rfl ?_
   refine S_storeM 1 rfl rfl T.sz22 rfl (by have := (List.getElem?_eq_some_iff.1 hit9).1; omega) ?_
   refine W_nil ?_
   refine NX_block (?_)
   refine NX_rng [2, 3, 4, 11, 12, 13, 18] (x5.set z6.toNat (g11, c11, it9.2.2 ++ [(k2 : Int)])) ?_ rfl (sub_drop 1 rfl) rfl (Imm.le_refl _)
   refine ⟨by simp [hJa], ?_, fun y hy => ?_⟩
   · rw [pushAt_rows hit9, hJb, predRow_take hz6]
   · rcases List.mem_or_eq_of_mem_set hy with hy | rfl
     · have := hJl y hy; omega
     · have := hJl _ (List.mem_of_getElem? hit9); simp; omega
  ·refine NX_block (?_)
   refine NX_rng [2, 3, 11] (x5) ?_ rfl (List.Sublist.refl _) rfl (Imm.le_refl _)
   obtain ⟨hJa, hJb, hJc⟩ := hJ5
   refine ⟨hJa, ?_, fun y hy => by have := hJc y hy; have := rising_len hR; omega⟩
   rw [predsK_succ, hJb, List.take_of_length_le (Nat.le_refl _), getDl_of hz3]
 ·refine NX_as (L' := [(2, _), (3, _)]) [2, 3] rfl ?_
  refine CW_seq ?_
  refine CW_region ?_
  refine W_q (r_move rfl) rfl ?_
  refine W_q (r_assign rfl) rfl ?_
  refine W_nil ?_
  refine NX_as (L' := [(2, _)]) [2] rfl ?_
  obtain ⟨hJa, hJb, hJc⟩ := hJ2
  refine C_ret (RX_freezeM (rs := x2) rfl (fun _ h => h) (fun y hy z hz => ?_) (fun y hy => by have := hJc y hy; omega) (by omega) (fun mf lef hfin hn => ?_))
  · exact predsK_i64 (succ := succ) (k := succ.length) (by omega) (l := y.2.2) (by rw [← hJb]; exact List.mem_map_of_mem hy) hz
  · exact RX_g1 rfl rfl ⟨_, _, by rw [predsP_length], by rw [predsP, ← hJb]; exact hfin⟩

end Go.Proofs.YtipmgkhjoekaaaaGreat

set_option linter.unusedVariables false
set_option linter.unusedSimpArgs false
namespace Go.Proofs.YtipmgkhjoekaaaaGreat
open Go Go.RowKit Go.Proofs Go.Proofs.YtipmgkhjoekaaaaGreat.Fw
attribute [local irreducible] Qt WL CW NX RX EX GX DL
namespace T
theorem ag65 : agg? Tryz.prog 65 = some false := by kernel_rfl
theorem ag79 : agg? Tryz.prog 79 = some true := by kernel_rfl
theorem bl79 : bls? Tryz.prog 79 = some ([(0, 1), (1, 1)], ([(.slice none 0 0), (.slice none 0 0)] : List Value)) := by kernel_rfl
theorem fo79_0 : fld? Tryz.prog 79 0 = some (0, 1) := by kernel_rfl
theorem fo79_1 : fld? Tryz.prog 79 1 = some (1, 1) := by kernel_rfl
theorem hb104 : hasBody Tryz.prog 104 = true := by kernel_rfl
theorem hb133 : hasBody Tryz.prog 133 = true := by kernel_rfl
theorem hb134 : hasBody Tryz.prog 134 = true := by kernel_rfl
theorem hb136 : hasBody Tryz.prog 136 = true := by kernel_rfl
theorem hb137 : hasBody Tryz.prog 137 = true := by kernel_rfl
theorem hb138 : hasBody Tryz.prog 138 = true := by kernel_rfl
theorem sz79 : sz? Tryz.prog 79 = some 2 := by kernel_rfl
theorem ze79 : zero? Tryz.prog 79 = some (.agg #[(.slice none 0 0), (.slice none 0 0)]) := by kernel_rfl
end T
set_option maxHeartbeats 10000000 in
/-- graph.Make -/
theorem Make_g {m : Imm} {A : Option Addr} {c : Nat} {succ : List (List Int)} (h : Sl (rS rI 1) 1 m A c succ) : Gives Tryz.prog 104 [.slice A succ.length c] m (GraphΦ (makeP succ)) := by
 have hlen := h.len
 refine gives_of Tryz.func104 rfl Tryz.ntmps104 rfl (fun w => ?_)
 refine CW_seq ?_
 refine CW_region ?_
 refine S_alloc (l := [_, _]) T.ze79 rfl rfl (fun b1 => ?_)
 refine W_q (r_assign rfl) rfl ?_
 refine W_nil ?_
 refine NX_as (L' := [(0, _), (2, _), (3, _)]) [0, 2, 3] rfl ?_
 refine CW_seq ?_
 refine CW_region ?_
 refine W_q (r_move rfl) rfl ?_
 refine W_q (r_len Tryz.underlying65 rfl) rfl ?_
 refine S_alloc (l := [_]) T.ze3 rfl rfl (fun b2 => ?_)
 refine S_storeb 0 (l' := [_]) rfl rfl rfl T.sz3 rfl rfl rfl rfl ?_
 refine W_nil ?_
 refine NX_as (L' := [(0, _), (2, _), (3, _), (4, _)]) [0, 2, 3, 4] rfl ?_
 refine CW_seq ?_
 refine CW_seq ?_
 refine CW_region ?_
 refine W_q (r_loadb 0 rfl T.ag3 rfl rfl) rfl ?_
 refine W_q (r_bin rfl rfl (bin_lss _ _ _ _)) rfl ?_
 refine W_q (r_move rfl) rfl ?_
 refine WL_split (t := 12) rfl (fun h3 => ?_) (fun h3 => ?_)
 ·(try simp only [tA, tB, tC, tD, tE, tF, tG, tH, tI, tJ, tK, tL] at h3)
  refine WL_pass rfl rfl rfl rfl ?_
  refine WL_pass rfl rfl rfl rfl ?_
  refine W_q (r_pick_t rfl rfl) rfl ?_
  refine W_q (r_move rfl) rfl ?_
  refine WL_pass rfl rfl rfl rfl ?_
  refine WL_pass rfl rfl rfl rfl ?_
  refine WL_pass rfl rfl rfl rfl ?_
  refine W_q (r_pick_t rfl rfl) rfl ?_
  refine W_nil ?_
  refine NX_as (L' := [(0, _), (2, _), (3, _), (4, _), (20, _)]) [0, 2, 3, 4, 20] rfl ?_
  refine CW_cond_t rfl ?_
  refine CW_seq ?_
  refine CW_region ?_
  refine W_q (r_builds (cs := [_, _]) T.bl79 rfl rfl) rfl ?_
  refine S_storeb 1 (l' := [_, _]) rfl rfl rfl T.sz79 rfl rfl rfl rfl ?_
  refine W_q (r_assign rfl) rfl ?_
  refine W_nil ?_
  refine NX_as (L' := [(0, _), (2, _), (3, _), (4, _)]) [0, 2, 3, 4] rfl ?_
  refine C_ret (RX_then (RX_gR (res_ct 1 rfl rfl rfl T.ag79 T.sz79 rfl) ?_))
  rw [show makeP succ = none by simp_all [makeP]]
  exact ⟨_, rfl, _, _, _, _, rfl, Sl.nil _ _ _, Sl.nil _ _ _⟩
 ·(try simp only [tA, tB, tC, tD, tE, tF, tG, tH, tI, tJ, tK, tL] at h3)
  refine WL_take rfl rfl ?_
  refine W_q (r_loadb 0 rfl T.ag3 rfl rfl) rfl ?_
  refine WL_take rfl rfl ?_
  refine W_q (r_bin rfl rfl (bin_gtr _ _ _ _)) rfl ?_
  refine W_q (r_pick_f rfl rfl) rfl ?_
  refine W_q (r_move rfl) rfl ?_
  refine WL_split (t := 16) rfl (fun h4 => ?_) (fun h4 => ?_)
  ·(try simp only [tA, tB, tC, tD, tE, tF, tG, tH, tI, tJ, tK, tL] at h4)
   refine WL_pass rfl rfl rfl rfl ?_
   refine WL_pass rfl rfl rfl rfl ?_
   refine WL_pass rfl rfl rfl rfl ?_
   refine W_q (r_pick_t rfl rfl) rfl ?_
   refine W_nil ?_
   refine NX_as (L' := [(0, _), (2, _), (3, _), (4, _), (20, _)]) [0, 2, 3, 4, 20] rfl ?_
   refine CW_cond_t rfl ?_
   refine CW_seq ?_
   refine CW_region ?_
   refine W_q (r_builds (cs := [_, _]) T.bl79 rfl rfl) rfl ?_
   refine S_storeb 1 (l' := [_, _]) rfl rfl rfl T.sz79 rfl rfl rfl rfl ?_
   refine W_q (r_assign rfl) rfl ?_
   refine W_nil ?_
   refine NX_as (L' := [(0, _), (2, _), (3, _), (4, _)]) [0, 2, 3, 4] rfl ?_
   refine C_ret (RX_then (RX_gR (res_ct 1 rfl rfl rfl T.ag79 T.sz79 rfl) ?_))
   rw [show makeP succ = none by simp_all [makeP]]
   exact ⟨_, rfl, _, _, _, _, rfl, Sl.nil _ _ _, Sl.nil _ _ _⟩
  ·(try simp only [tA, tB, tC, tD, tE, tF, tG, tH, tI, tJ, tK, tL] at h4)
   refine WL_take rfl rfl ?_
   refine W_q (r_move rfl) rfl ?_
   refine WL_take rfl rfl ?_
   refine W_q (r_makeFunc (first := []) (cap := [_]) rfl rfl) rfl ?_
   refine WL_take rfl rfl ?_
   refine W_q (r_quietb 0 rfl (fun m' le hc => ContainsFuncS_q (h.mono (rS_mono rI_mono) le) (p := fun l => !(risingP l succ.length)) (K := 134) T.hb134 (fun z hz A' c' hz' => Make1_q hz' (hc 0 _ rfl))) T.hb133 rfl) rfl ?_
   refine W_q (r_pick_f rfl rfl) rfl ?_
   refine W_nil ?_
   refine NX_as (L' := [(0, _), (2, _), (3, _), (4, _), (20, _)]) [0, 2, 3, 4, 20] rfl ?_
   refine CW_condk rfl (fun h5 => ?_) (fun h5 => ?_)
   ·(try simp only [tA, tB, tC, tD, tE, tF, tG, tH, tI, tJ, tK, tL] at h5)
    refine CW_seq ?_
    refine CW_region ?_
    refine W_q (r_builds (cs := [_, _]) T.bl79 rfl rfl) rfl ?_
    refine S_storeb 1 (l' := [_, _]) rfl rfl rfl T.sz79 rfl rfl rfl rfl ?_
    refine W_q (r_assign rfl) rfl ?_
    refine W_nil ?_
    refine NX_as (L' := [(0, _), (2, _), (3, _), (4, _)]) [0, 2, 3, 4] rfl ?_
    refine C_ret (RX_then (RX_gR (res_ct 1 rfl rfl rfl T.ag79 T.sz79 rfl) ?_))
    rw [show makeP succ = none by simp_all [makeP]]
    exact ⟨_, rfl, _, _, _, _, rfl, Sl.nil _ _ _, Sl.nil _ _ _⟩
   ·(try simp only [tA, tB, tC, tD, tE, tF, tG, tH, tI, tJ, tK, tL] at h5)
    refine C_skip ?_
    refine NX_as (L' := [(0, _), (2, _), (3, _), (4, _)]) [0, 2, 3, 4] rfl ?_
    refine CW_seq ?_
    refine CW_region ?_
    refine W_q (r_loadb 0 rfl T.ag3 rfl rfl) rfl ?_
    refine S_make0 (cap := succ.length) Tryz.underlying65 T.sz22 T.ze22 T.by22 rfl rfl rfl rfl (by omega) (by unfold maxLen; omega) rfl (fun b6 => ?_)
    refine W_q (r_assign rfl) rfl ?_
    refine W_nil ?_
    refine NX_as (L' := [(0, _), (2, _), (3, _), (5, _)]) [0, 2, 3, 5] rfl ?_
    refine CW_seq ?_
    refine CW_seq ?_
    refine CW_region ?_
    refine W_q (r_move rfl) rfl ?_
    refine W_q (r_len Tryz.underlying65 rfl) rfl ?_
    refine W_q (r_move rfl) rfl ?_
    refine W_nil ?_
    refine NX_as (L' := [(2, _), (3, _), (5, _), (24, _), (25, _), (26, _)]) [2, 3, 5, 24, 25, 26] rfl ?_
    have hR : ∀ l ∈ succ, risingP l succ.length = true := fun l hl => by simpa using List.any_eq_false.1 h5 l hl
    refine CW_front 0 rfl rfl ?_
    refine C_rangeM (Option Nat × Nat × List Value) (succ.length) (fun k7 mk7 x7 => m.le mk7 ∧ (SlCells mk7 x7.2.2 (succ.take k7))) (fun k7 x7 => [(5, .slice (rowA x7.1) k7 x7.2.1)]) (fun k7 x7 => [row x7.1 k7 x7.2.1 22 1 x7.2.2]) [5] [2, 3, 24] (F := [(2, _), (3, _), (24, _)]) ((some b6, succ.length, [])) rfl rfl (by omega) ⟨Imm.le_refl _, SlCells.nil _⟩ rfl rfl rfl rfl rfl rfl rfl (fun _ _ => rfl) (fun _ _ => rfl) (fun k7 mk7 x7 hk7 hJ7 => ?_) (fun mk7 x7 hJ7 => ?_)
    ·obtain ⟨hle7, hJ7⟩ := hJ7
     replace h := h.mono (rS_mono rI_mono) hle7
     refine CW_as (L' := [(2, _), (3, _), (5, _), (24, _), (25, _), (26, _)]) [2, 3, 5, 24, 25, 26] rfl ?_
     refine CW_seq ?_
     refine CW_region ?_
     obtain ⟨ad8, hA8⟩ := h.ad (j := k7) (by omega)
     obtain ⟨z8, hz8⟩ := h.getz (j := k7) (by omega)
     refine W_q (r_index hA8 Tryz.underlying65 T.sz22 rfl rfl ⟨by omega, by omega⟩) rfl ?_
     obtain ⟨A9, c9, l9, h9⟩ := Sl.getS h hA8 hz8
     refine W_q (r_load_imm rfl T.ag22 l9) rfl ?_
     refine W_q (r_assign rfl) rfl ?_
     refine W_nil ?_
     refine NX_as (L' := [(2, _), (3, _), (5, _), (7, _), (24, _), (25, _), (26, _)]) [2, 3, 5, 7, 24, 25, 26] rfl ?_
     refine CW_region ?_
     refine W_q (r_move rfl) rfl ?_
     refine W_q (r_move rfl) rfl ?_
     refine S_gives (CloneI_g h9 (by have := rising_len (hR _ (List.mem_of_getElem? hz8)); omega)) T.hb136 rfl rfl (fun m10 v10 le10 hv10 => ?_)
     replace h := h.mono (rS_mono rI_mono) le10
     replace h9 := h9.mono rI_mono le10
     obtain ⟨A10, c10, rfl, h10⟩ := hv10
     refine S_litr (vs := [_]) (cs := [_]) Tryz.underlying65 T.sz22 T.ze22 rfl rfl rfl rfl rfl rfl rfl (fun b11 => ?_)
     refine S_appendG [_] 1 rfl rfl rfl Tryz.underlying65 T.sz22 T.ze22 T.by22 rfl rfl rfl (.row 0 rfl) rfl (by omega) (by unfold maxLen; omega) rfl (fun g12 c12 hg12 => ?_)
     refine W_q (r_assign rfl) rfl ?_
     refine W_nil ?_
     refine NX_block (?_)
     refine NX_rngM [5, 2, 3, 24] ((_, _, _)) ⟨Imm.le_trans (hle7) le10, ?_⟩ rfl (sub_drop 1 rfl) rfl
     rw [List.take_add_one, hz8]
     exact (hJ7.mono (le10)).snoc h10
    ·obtain ⟨hle7, hJ7⟩ := hJ7
     replace h := h.mono (rS_mono rI_mono) hle7
     refine NX_know (k_rowG 0 rfl) (fun hr13 => ?_)
     refine NX_freeze 0 rfl (fun _ h => h) (fun m13 le13 hf13 => ?_)
     replace h := h.mono (rS_mono rI_mono) le13
     rw [List.take_of_length_le (Nat.le_refl _)] at hJ7
     have h13 := (hJ7.mono le13).sl hf13 hr13.2.1 hr13.2.2.1 (by omega) hr13.2.2.2
     refine NX_as (L' := [(2, _), (3, _), (5, _)]) [2, 3, 5] rfl ?_
     refine CW_seq ?_
     refine CW_region ?_
     refine W_q (r_move rfl) rfl ?_
     refine W_q (r_move rfl) rfl ?_
     refine S_gives (preds_g h13 (by omega) hR) T.hb137 rfl rfl (fun m14 v14 le14 hv14 => ?_)
     replace h := h.mono (rS_mono rI_mono) le14
     replace h13 := h13.mono (rS_mono rI_mono) le14
     obtain ⟨A14, c14, rfl, h14⟩ := hv14
     refine W_q (r_builds (cs := [_, _]) T.bl79 rfl rfl) rfl ?_
     refine S_storeb 1 (l' := [_, _]) rfl rfl rfl T.sz79 rfl rfl rfl rfl ?_
     refine W_q (r_assign rfl) rfl ?_
     refine W_nil ?_
     refine NX_as (L' := [(2, _), (3, _)]) [2, 3] rfl ?_
     refine C_ret (RX_gR (res_ct 1 rfl rfl rfl T.ag79 T.sz79 rfl) ?_)
     rw [show makeP succ = some ⟨succ, predsP succ⟩ by simp_all [makeP]]
     exact ⟨_, rfl, _, _, _, _, rfl, h13, h14⟩

set_option maxHeartbeats 10000000 in
/-- graph.May -/
theorem MayG_q {m : Imm} {es : List Value} {g : FGraph} (hG : rGraph m es g) : Quiet Tryz.prog 105 [.agg es.toArray] m (.bool (mayG g)) := by
 have hG_0 := hG
 obtain ⟨A90, c90, B90, d90, rfl, hs90, hp90⟩ := hG_0
 refine quiet_of Tryz.func105 rfl Tryz.ntmps105 rfl (fun w => ?_)
 refine CW_seq ?_
 refine CW_region ?_
 refine S_box (l := [_, _]) rfl rfl rfl (fun b1 => ?_)
 refine W_q (r_assign rfl) rfl ?_
 refine W_nil ?_
 refine NX_as (L' := [(1, _), (2, _)]) [1, 2] rfl ?_
 refine CW_seq ?_
 refine CW_region ?_
 refine W_q (r_fieldb (o' := 0) rfl T.fo79_0 rfl) rfl ?_
 refine W_q (r_loadb 0 rfl T.ag65 rfl rfl) rfl ?_
 refine S_gives (Make_g hs90) T.hb104 rfl rfl (fun m2 v2 le2 hv2 => ?_)
 replace hG := rGraph_mono _ _ _ _ le2 hG
 replace hs90 := hs90.mono (rS_mono rI_mono) le2
 replace hp90 := hp90.mono (rS_mono rI_mono) le2
 obtain ⟨_, rfl, A2, c2, B2, d2, rfl, h2, g2⟩ := hv2
 refine W_q (r_move rfl) rfl ?_
 refine W_q (r_extract rfl rfl) rfl ?_
 refine W_q (r_extract rfl rfl) rfl ?_
 refine S_alloc (l := [_, _]) T.ze79 rfl rfl (fun b3 => ?_)
 refine S_storeb 0 (l' := [_, _]) rfl rfl rfl T.sz79 rfl rfl rfl rfl ?_
 refine W_q (r_assign rfl) rfl ?_
 refine W_nil ?_
 refine NX_as (L' := [(1, _), (2, _), (3, _), (4, _)]) [1, 2, 3, 4] rfl ?_
 refine CW_seq ?_
 refine CW_region ?_
 refine W_q (r_move rfl) rfl ?_
 refine W_q (r_bin rfl rfl (bin_eql _ _ _ _)) rfl ?_
 refine W_q (r_move rfl) rfl ?_
 refine WL_split (t := 13) rfl (fun h4 => ?_) (fun h4 => ?_)
 ·(try simp only [tA, tB, tC, tD, tE, tF, tG, tH, tI, tJ, tK, tL] at h4)
  refine WL_take rfl rfl ?_
  refine W_q (r_fieldb (o' := 1) rfl T.fo79_1 rfl) rfl ?_
  refine WL_take rfl rfl ?_
  refine W_q (r_loadb 0 rfl T.ag65 rfl rfl) rfl ?_
  refine WL_take rfl rfl ?_
  refine W_q (r_fieldb (o' := 1) rfl T.fo79_1 rfl) rfl ?_
  refine WL_take rfl rfl ?_
  refine W_q (r_loadb 1 rfl T.ag65 rfl rfl) rfl ?_
  refine WL_take rfl rfl ?_
  refine W_quiet (EqualFunc_q g2 hp90) T.hb138 rfl rfl ?_
  refine W_q (r_pick_t rfl rfl) rfl ?_
  refine W_q (r_assign rfl) rfl ?_
  refine W_nil ?_
  refine NX_as (L' := [(2, _)]) [2] rfl ?_
  refine C_ret (RX_q1 rfl rfl ?_)
  simp_all [mayG]
 ·(try simp only [tA, tB, tC, tD, tE, tF, tG, tH, tI, tJ, tK, tL] at h4)
  refine WL_pass rfl rfl rfl rfl ?_
  refine WL_pass rfl rfl rfl rfl ?_
  refine WL_pass rfl rfl rfl rfl ?_
  refine WL_pass rfl rfl rfl rfl ?_
  refine WL_pass rfl rfl rfl rfl ?_
  refine W_q (r_pick_f rfl rfl) rfl ?_
  refine W_q (r_assign rfl) rfl ?_
  refine W_nil ?_
  refine NX_as (L' := [(2, _)]) [2] rfl ?_
  refine C_ret (RX_q1 rfl rfl ?_)
  simp_all [mayG]

end Go.Proofs.YtipmgkhjoekaaaaGreat

set_option linter.unusedVariables false
set_option linter.unusedSimpArgs false
namespace Go.Proofs.YtipmgkhjoekaaaaGreat
open Go Go.RowKit Go.Proofs Go.Proofs.YtipmgkhjoekaaaaGreat.Fw
attribute [local irreducible] Qt WL CW NX RX EX GX DL
namespace T
theorem hb186 : hasBody Tryz.prog 186 = true := by kernel_rfl
theorem hb187 : hasBody Tryz.prog 187 = true := by kernel_rfl
theorem hb202 : hasBody Tryz.prog 202 = true := by kernel_rfl
theorem hb203 : hasBody Tryz.prog 203 = true := by kernel_rfl
theorem hb204 : hasBody Tryz.prog 204 = true := by kernel_rfl
end T
set_option maxHeartbeats 4000000 in
/-- dom.depth -/
theorem depth_q {m : Imm} {A : Option Addr} {c : Nat} {t : List Int} (h : Ints m A c t) (a : Int) : Quiet Tryz.prog 204 [.slice A t.length c, .int .i64 a] m (.int .i64 (depthP t a)) := by
 have hlen := h.len
 refine quiet_of Tryz.func204 rfl Tryz.ntmps204 rfl (fun w => ?_)
 refine CW_seq ?_
 refine CW_region ?_
 refine W_q (r_assign rfl) rfl ?_
 refine W_nil ?_
 refine NX_as (L' := [(0, _), (1, _), (4, _)]) [0, 1, 4] rfl ?_
 refine CW_seq ?_
 refine CW_seq ?_
 refine CW_region ?_
 refine W_q (r_move rfl) rfl ?_
 refine W_q (r_len Tryz.underlying22 rfl) rfl ?_
 refine W_q (r_move rfl) rfl ?_
 refine W_nil ?_
 refine NX_as (L' := [(0, _), (1, _), (4, _), (7, _), (8, _)]) [0, 1, 4, 7, 8] rfl ?_
 refine C_range (Int) (t.length) (fun k1 x1 => depthP t a = depthF t (t.length - k1) (k1 : Int) x1) (fun k1 x1 => [(1, .int .i64 x1)]) (fun _ _ => []) [1] [0] (F := [(0, _)]) (a) rfl rfl (by omega) (by simp [depthP]) rfl rfl rfl rfl rfl rfl rfl (fun _ _ => rfl) (fun _ _ => rfl) (fun k1 x1 hk1 hJ1 => ?_) (fun x1 hJ1 => ?_)
 ·refine CW_as (L' := [(0, _), (1, _), (7, _), (8, _)]) [0, 1, 7, 8] rfl ?_
  refine CW_seq ?_
  refine CW_region ?_
  refine W_q (r_move rfl) rfl ?_
  refine W_q (r_assign rfl) rfl ?_
  refine W_nil ?_
  refine NX_as (L' := [(0, _), (1, _), (5, _), (7, _), (8, _)]) [0, 1, 5, 7, 8] rfl ?_
  refine CW_seq ?_
  refine CW_seq ?_
  refine CW_region ?_
  refine W_q (r_move rfl) rfl ?_
  refine W_q (r_bin rfl rfl (bin_lss _ _ _ _)) rfl ?_
  refine W_q (r_move rfl) rfl ?_
  refine WL_split (t := 13) rfl (fun h2 => ?_) (fun h2 => ?_)
  ·(try simp only [tA, tB, tC, tD, tE, tF, tG, tH, tI, tJ, tK, tL] at h2)
   refine WL_pass rfl rfl rfl rfl ?_
   refine WL_pass rfl rfl rfl rfl ?_
   refine WL_pass rfl rfl rfl rfl ?_
   refine WL_pass rfl rfl rfl rfl ?_
   refine W_q (r_pick_t rfl rfl) rfl ?_
   refine W_nil ?_
   refine NX_as (L' := [(0, _), (1, _), (5, _), (7, _), (8, _), (18, _)]) [0, 1, 5, 7, 8, 18] rfl ?_
   refine CW_cond_t rfl ?_
   refine CW_seq ?_
   refine CW_region ?_
   refine W_q (r_assign rfl) rfl ?_
   refine W_nil ?_
   refine NX_as (L' := [(0, _), (1, _), (4, _), (5, _), (7, _), (8, _)]) [0, 1, 4, 5, 7, 8] rfl ?_
   refine C_ret (RX_then (RX_block (RX_then (RX_block (RX_then (RX_q1 rfl rfl ?_))))))
   first
     | (rw [hJ1, depthF_out (by omega)]; done)
     | (rw [hJ1, depthF_top (by omega) (by omega) (by simp_all)]; done)
     | (rw [hJ1]; simp [depthF])
  ·(try simp only [tA, tB, tC, tD, tE, tF, tG, tH, tI, tJ, tK, tL] at h2)
   refine WL_take rfl rfl ?_
   refine W_q (r_move rfl) rfl ?_
   refine WL_take rfl rfl ?_
   refine W_q (r_move rfl) rfl ?_
   refine WL_take rfl rfl ?_
   refine W_q (r_len Tryz.underlying22 rfl) rfl ?_
   refine WL_take rfl rfl ?_
   refine W_q (r_bin rfl rfl (bin_geq _ _ _ _)) rfl ?_
   refine W_q (r_pick_f rfl rfl) rfl ?_
   refine W_nil ?_
   refine NX_as (L' := [(0, _), (1, _), (5, _), (7, _), (8, _), (18, _)]) [0, 1, 5, 7, 8, 18] rfl ?_
   refine CW_condk rfl (fun h3 => ?_) (fun h3 => ?_)
   ·(try simp only [tA, tB, tC, tD, tE, tF, tG, tH, tI, tJ, tK, tL] at h3)
    refine CW_seq ?_
    refine CW_region ?_
    refine W_q (r_assign rfl) rfl ?_
    refine W_nil ?_
    refine NX_as (L' := [(0, _), (1, _), (4, _), (5, _), (7, _), (8, _)]) [0, 1, 4, 5, 7, 8] rfl ?_
    refine C_ret (RX_then (RX_block (RX_then (RX_block (RX_then (RX_q1 rfl rfl ?_))))))
    first
      | (rw [hJ1, depthF_out (by omega)]; done)
      | (rw [hJ1, depthF_top (by omega) (by omega) (by simp_all)]; done)
      | (rw [hJ1]; simp [depthF])
   ·(try simp only [tA, tB, tC, tD, tE, tF, tG, tH, tI, tJ, tK, tL] at h3)
    refine C_skip ?_
    refine NX_as (L' := [(0, _), (1, _), (5, _), (7, _), (8, _)]) [0, 1, 5, 7, 8] rfl ?_
    refine CW_seq ?_
    refine CW_seq ?_
    refine CW_region ?_
    refine W_q (r_move rfl) rfl ?_
    refine W_q (r_move rfl) rfl ?_
    obtain ⟨ad4, hA4⟩ := h.ad (j := x1.toNat) (by omega)
    obtain ⟨z4, hz4⟩ := h.getz (j := x1.toNat) (by omega)
    refine W_q (r_index hA4 Tryz.underlying22 T.sz3 rfl rfl ⟨by omega, by omega⟩) rfl ?_
    obtain ⟨l5, r5⟩ := Sl.getI h hA4 hz4
    refine W_q (r_load_imm rfl T.ag3 l5) rfl ?_
    refine W_q (r_bin rfl rfl (bin_eql _ _ _ _)) rfl ?_
    refine W_nil ?_
    refine NX_as (L' := [(0, _), (1, _), (5, _), (7, _), (8, _), (23, _)]) [0, 1, 5, 7, 8, 23] rfl ?_
    refine CW_condk rfl (fun h6 => ?_) (fun h6 => ?_)
    ·(try simp only [tA, tB, tC, tD, tE, tF, tG, tH, tI, tJ, tK, tL] at h6)
     refine CW_seq ?_
     refine CW_region ?_
     refine W_q (r_move rfl) rfl ?_
     refine W_q (r_assign rfl) rfl ?_
     refine W_nil ?_
     refine NX_as (L' := [(0, _), (1, _), (4, _), (7, _), (8, _)]) [0, 1, 4, 7, 8] rfl ?_
     refine C_ret (RX_then (RX_block (RX_then (RX_block (RX_then (RX_q1 rfl rfl ?_))))))
     first
       | (rw [hJ1, depthF_out (by omega)]; done)
       | (rw [hJ1, depthF_top (by omega) (by omega) (by simp_all)]; done)
       | (rw [hJ1]; simp [depthF])
    ·(try simp only [tA, tB, tC, tD, tE, tF, tG, tH, tI, tJ, tK, tL] at h6)
     refine C_skip ?_
     refine NX_as (L' := [(0, _), (1, _), (7, _), (8, _)]) [0, 1, 7, 8] rfl ?_
     refine CW_region ?_
     refine W_q (r_move rfl) rfl ?_
     refine W_q (r_move rfl) rfl ?_
     obtain ⟨ad7, hA7⟩ := h.ad (j := x1.toNat) (by omega)
     refine W_q (r_index hA7 Tryz.underlying22 T.sz3 rfl rfl ⟨by omega, by omega⟩) rfl ?_
     obtain ⟨l8, r8⟩ := Sl.getI h hA7 hz4
     refine W_q (r_load_imm rfl T.ag3 l8) rfl ?_
     refine W_q (r_assign rfl) rfl ?_
     refine W_nil ?_
     refine NX_block (?_)
     refine NX_rng [1, 0] (_) ?_ rfl (List.Sublist.refl _) rfl (Imm.le_refl _)
     rw [hJ1, show t.length - k1 = (t.length - (k1 + 1)) + 1 by omega]
     exact depthF_up (by omega) hz4 (by simp_all)
 ·refine NX_as (L' := []) [] rfl ?_
  refine CW_seq ?_
  refine CW_region ?_
  refine W_q (r_assign rfl) rfl ?_
  refine W_nil ?_
  refine NX_as (L' := [(4, _)]) [4] rfl ?_
  refine C_ret (RX_q1 rfl rfl ?_)
  first
    | (rw [hJ1, depthF_out (by omega)]; done)
    | (rw [hJ1, depthF_top (by omega) (by omega) (by simp_all)]; done)
    | (rw [hJ1]; simp [depthF])

set_option maxHeartbeats 4000000 in
/-- dom.right -/
theorem right_q {m : Imm} {A : Option Addr} {c : Nat} {t : List Int} (h : Ints m A c t) : Quiet Tryz.prog 202 [.slice A t.length c] m (.bool (rightT t)) := by
 have hlen := h.len
 refine quiet_of Tryz.func202 rfl Tryz.ntmps202 rfl (fun w => ?_)
 refine CW_seq ?_
 refine CW_region ?_
 refine W_q (r_assign rfl) rfl ?_
 refine W_nil ?_
 refine NX_as (L' := [(0, _), (2, _)]) [0, 2] rfl ?_
 refine CW_seq ?_
 refine CW_region ?_
 refine W_q (r_assign rfl) rfl ?_
 refine W_nil ?_
 refine NX_as (L' := [(0, _), (2, _), (3, _)]) [0, 2, 3] rfl ?_
 refine CW_seq ?_
 refine CW_seq ?_
 refine CW_region ?_
 refine W_q (r_move rfl) rfl ?_
 refine W_q (r_len Tryz.underlying22 rfl) rfl ?_
 refine W_q (r_move rfl) rfl ?_
 refine W_nil ?_
 refine NX_as (L' := [(0, _), (2, _), (3, _), (6, _), (7, _), (8, _)]) [0, 2, 3, 6, 7, 8] rfl ?_
 refine C_range (Unit) (t.length) (fun k1 x1 => ∀ j, j < k1 → okT t j = true) (fun k1 x1 => [(3, .int .i64 (topsK t k1))]) (fun _ _ => []) [3] [0, 6] (F := [(0, _), (6, _)]) (()) rfl rfl (by omega) (by simp) rfl rfl rfl rfl rfl rfl rfl (fun _ _ => rfl) (fun _ _ => rfl) (fun k1 x1 hk1 hJ1 => ?_) (fun x1 hJ1 => ?_)
 ·have htk := topsK_le t k1
  refine CW_as (L' := [(0, _), (3, _), (6, _), (7, _), (8, _)]) [0, 3, 6, 7, 8] rfl ?_
  refine CW_seq ?_
  refine CW_region ?_
  refine W_q (r_move rfl) rfl ?_
  obtain ⟨ad2, hA2⟩ := h.ad (j := k1) (by omega)
  obtain ⟨z2, hz2⟩ := h.getz (j := k1) (by omega)
  refine W_q (r_index hA2 Tryz.underlying22 T.sz3 rfl rfl ⟨by omega, by omega⟩) rfl ?_
  obtain ⟨l3, r3⟩ := Sl.getI h hA2 hz2
  refine W_q (r_load_imm rfl T.ag3 l3) rfl ?_
  refine W_q (r_assign rfl) rfl ?_
  refine W_q (r_assign rfl) rfl ?_
  refine W_nil ?_
  refine NX_as (L' := [(0, _), (3, _), (4, _), (5, _), (6, _), (7, _), (8, _)]) [0, 3, 4, 5, 6, 7, 8] rfl ?_
  refine CW_seq ?_
  refine CW_seq ?_
  refine CW_region ?_
  refine W_q (r_move rfl) rfl ?_
  refine W_q (r_bin rfl rfl (bin_eql _ _ _ _)) rfl ?_
  refine W_nil ?_
  refine NX_as (L' := [(0, _), (3, _), (4, _), (5, _), (6, _), (7, _), (8, _), (14, _)]) [0, 3, 4, 5, 6, 7, 8, 14] rfl ?_
  refine CW_condk rfl (fun h4 => ?_) (fun h4 => ?_)
  ·(try simp only [tA, tB, tC, tD, tE, tF, tG, tH, tI, tJ, tK, tL] at h4)
   refine CW_region ?_
   refine W_q (r_move rfl) rfl ?_
   refine W_q (r_add rfl rfl (by unfold I64 at *; omega)) rfl ?_
   refine W_q (r_assign rfl) rfl ?_
   refine W_nil ?_
   refine NX_as (L' := [(0, _), (3, _), (4, _), (5, _), (6, _), (7, _), (8, _)]) [0, 3, 4, 5, 6, 7, 8] rfl ?_
   refine CW_seq ?_
   refine CW_region ?_
   refine W_q (r_move rfl) rfl ?_
   refine W_q (r_bin rfl rfl (bin_neq _ _ _ _)) rfl ?_
   refine W_q (r_move rfl) rfl ?_
   refine WL_split (t := 19) rfl (fun h5 => ?_) (fun h5 => ?_)
   ·(try simp only [tA, tB, tC, tD, tE, tF, tG, tH, tI, tJ, tK, tL] at h5)
    refine WL_take rfl rfl ?_
    refine W_q (r_move rfl) rfl ?_
    refine WL_take rfl rfl ?_
    refine W_q (r_move rfl) rfl ?_
    refine WL_take rfl rfl ?_
    refine W_quiet (depth_q h _) T.hb204 rfl rfl ?_
    refine WL_take rfl rfl ?_
    refine W_q (r_bin rfl rfl (bin_lss _ _ _ _)) rfl ?_
    refine W_q (r_pick_t rfl rfl) rfl ?_
    refine W_nil ?_
    refine NX_as (L' := [(0, _), (3, _), (6, _), (7, _), (8, _), (24, _)]) [0, 3, 6, 7, 8, 24] rfl ?_
    refine CW_condk rfl (fun h6 => ?_) (fun h6 => ?_)
    ·(try simp only [tA, tB, tC, tD, tE, tF, tG, tH, tI, tJ, tK, tL] at h6)
     refine CW_seq ?_
     refine CW_region ?_
     refine W_q (r_assign rfl) rfl ?_
     refine W_nil ?_
     refine NX_as (L' := [(0, _), (2, _), (3, _), (6, _), (7, _), (8, _)]) [0, 2, 3, 6, 7, 8] rfl ?_
     refine C_ret (RX_block (RX_then (RX_block (RX_then (RX_q1 rfl rfl ?_)))))
     first
       | (rw [rightT, range_all_true hJ1]; simp; done)
       | (rw [rightT, range_all_false hk1 (by have e1 := getD_of (d := 0) hz2; simp_all [okT])]; rfl)
    ·(try simp only [tA, tB, tC, tD, tE, tF, tG, tH, tI, tJ, tK, tL] at h6)
     refine C_skip ?_
     refine NX_block (?_)
     have e0 := topsK_succ hz2
     first | rw [if_pos (by assumption)] at e0 | rw [if_neg (by assumption)] at e0
     rw [← e0]
     refine NX_rng [3, 0, 6] (()) ?_ rfl (List.Sublist.refl _) rfl (Imm.le_refl _)
     refine lt_succ_all hJ1 ?_
     have e1 := getD_of (d := 0) hz2
     simp_all [okT]
   ·(try simp only [tA, tB, tC, tD, tE, tF, tG, tH, tI, tJ, tK, tL] at h5)
    refine WL_pass rfl rfl rfl rfl ?_
    refine WL_pass rfl rfl rfl rfl ?_
    refine WL_pass rfl rfl rfl rfl ?_
    refine WL_pass rfl rfl rfl rfl ?_
    refine W_q (r_pick_f rfl rfl) rfl ?_
    refine W_nil ?_
    refine NX_as (L' := [(0, _), (3, _), (6, _), (7, _), (8, _), (24, _)]) [0, 3, 6, 7, 8, 24] rfl ?_
    refine CW_cond_f rfl ?_
    refine C_skip ?_
    refine NX_block (?_)
    have e0 := topsK_succ hz2
    first | rw [if_pos (by assumption)] at e0 | rw [if_neg (by assumption)] at e0
    rw [← e0]
    refine NX_rng [3, 0, 6] (()) ?_ rfl (List.Sublist.refl _) rfl (Imm.le_refl _)
    refine lt_succ_all hJ1 ?_
    have e1 := getD_of (d := 0) hz2
    simp_all [okT]
  ·(try simp only [tA, tB, tC, tD, tE, tF, tG, tH, tI, tJ, tK, tL] at h4)
   refine C_skip ?_
   refine NX_as (L' := [(0, _), (3, _), (4, _), (5, _), (6, _), (7, _), (8, _)]) [0, 3, 4, 5, 6, 7, 8] rfl ?_
   refine CW_seq ?_
   refine CW_region ?_
   refine W_q (r_move rfl) rfl ?_
   refine W_q (r_bin rfl rfl (bin_neq _ _ _ _)) rfl ?_
   refine W_q (r_move rfl) rfl ?_
   refine WL_split (t := 19) rfl (fun h7 => ?_) (fun h7 => ?_)
   ·(try simp only [tA, tB, tC, tD, tE, tF, tG, tH, tI, tJ, tK, tL] at h7)
    refine WL_take rfl rfl ?_
    refine W_q (r_move rfl) rfl ?_
    refine WL_take rfl rfl ?_
    refine W_q (r_move rfl) rfl ?_
    refine WL_take rfl rfl ?_
    refine W_quiet (depth_q h _) T.hb204 rfl rfl ?_
    refine WL_take rfl rfl ?_
    refine W_q (r_bin rfl rfl (bin_lss _ _ _ _)) rfl ?_
    refine W_q (r_pick_t rfl rfl) rfl ?_
    refine W_nil ?_
    refine NX_as (L' := [(0, _), (3, _), (6, _), (7, _), (8, _), (24, _)]) [0, 3, 6, 7, 8, 24] rfl ?_
    refine CW_condk rfl (fun h8 => ?_) (fun h8 => ?_)
    ·(try simp only [tA, tB, tC, tD, tE, tF, tG, tH, tI, tJ, tK, tL] at h8)
     refine CW_seq ?_
     refine CW_region ?_
     refine W_q (r_assign rfl) rfl ?_
     refine W_nil ?_
     refine NX_as (L' := [(0, _), (2, _), (3, _), (6, _), (7, _), (8, _)]) [0, 2, 3, 6, 7, 8] rfl ?_
     refine C_ret (RX_block (RX_then (RX_block (RX_then (RX_q1 rfl rfl ?_)))))
     first
       | (rw [rightT, range_all_true hJ1]; simp; done)
       | (rw [rightT, range_all_false hk1 (by have e1 := getD_of (d := 0) hz2; simp_all [okT])]; rfl)
    ·(try simp only [tA, tB, tC, tD, tE, tF, tG, tH, tI, tJ, tK, tL] at h8)
     refine C_skip ?_
     refine NX_block (?_)
     have e0 := topsK_succ hz2
     first | rw [if_pos (by assumption)] at e0 | rw [if_neg (by assumption)] at e0
     rw [← e0]
     refine NX_rng [3, 0, 6] (()) ?_ rfl (List.Sublist.refl _) rfl (Imm.le_refl _)
     refine lt_succ_all hJ1 ?_
     have e1 := getD_of (d := 0) hz2
     simp_all [okT]
   ·(try simp only [tA, tB, tC, tD, tE, tF, tG, tH, tI, tJ, tK, tL] at h7)
    refine WL_pass rfl rfl rfl rfl ?_
    refine WL_pass rfl rfl rfl rfl ?_
    refine WL_pass rfl rfl rfl rfl ?_
    refine WL_pass rfl rfl rfl rfl ?_
    refine W_q (r_pick_f rfl rfl) rfl ?_
    refine W_nil ?_
    refine NX_as (L' := [(0, _), (3, _), (6, _), (7, _), (8, _), (24, _)]) [0, 3, 6, 7, 8, 24] rfl ?_
    refine CW_cond_f rfl ?_
    refine C_skip ?_
    refine NX_block (?_)
    have e0 := topsK_succ hz2
    first | rw [if_pos (by assumption)] at e0 | rw [if_neg (by assumption)] at e0
    rw [← e0]
    refine NX_rng [3, 0, 6] (()) ?_ rfl (List.Sublist.refl _) rfl (Imm.le_refl _)
    refine lt_succ_all hJ1 ?_
    have e1 := getD_of (d := 0) hz2
    simp_all [okT]
 ·refine NX_as (L' := [(3, _)]) [3] rfl ?_
  refine CW_seq ?_
  refine CW_region ?_
  refine W_q (r_move rfl) rfl ?_
  refine W_q (r_bin rfl rfl (bin_eql _ _ _ _)) rfl ?_
  refine W_q (r_assign rfl) rfl ?_
  refine W_nil ?_
  refine NX_as (L' := [(2, _)]) [2] rfl ?_
  refine C_ret (RX_q1 rfl rfl ?_)
  first
    | (rw [rightT, range_all_true hJ1]; simp; done)
    | (rw [rightT, range_all_false hk1 (by have e1 := getD_of (d := 0) hz2; simp_all [okT])]; rfl)

set_option maxHeartbeats 4000000 in
/-- dom.in$1 -/
theorem in1T_q {m : Imm} {A : Option Addr} {c : Nat} {t : List Int} (h : Ints m A c t) (a : Int) {ad : Addr} (hp : m.cell? ad = some (.slice A t.length c)) : Quiet Tryz.prog 203 [.int .i64 a, .pointer (some ad)] m (.bool (decide (depthP t a < 0))) := by
 refine quiet_of Tryz.func203 rfl Tryz.ntmps203 rfl (fun w => ?_)
 refine CW_seq ?_
 refine CW_region ?_
 refine W_q (r_assign rfl) rfl ?_
 refine W_nil ?_
 refine NX_as (L' := [(0, _), (1, _), (3, _)]) [0, 1, 3] rfl ?_
 refine CW_seq ?_
 refine CW_region ?_
 refine W_q (r_load_imm rfl T.ag22 hp) rfl ?_
 refine W_q (r_move rfl) rfl ?_
 refine W_quiet (depth_q h _) T.hb204 rfl rfl ?_
 refine W_q (r_bin rfl rfl (bin_lss _ _ _ _)) rfl ?_
 refine W_q (r_assign rfl) rfl ?_
 refine W_nil ?_
 refine NX_as (L' := [(3, _)]) [3] rfl ?_
 refine C_ret (RX_q1 rfl rfl ?_)
 rfl

set_option maxHeartbeats 4000000 in
/-- dom.in -/
theorem inT_q {m : Imm} {A : Option Addr} {c : Nat} {t : List Int} (h : Ints m A c t) {A' : Option Addr} {c' : Nat} {l : List Int} (h' : Ints m A' c' l) : Quiet Tryz.prog 186 [.slice A t.length c, .slice A' l.length c'] m (.bool (inT t l)) := by
 refine quiet_of Tryz.func186 rfl Tryz.ntmps186 rfl (fun w => ?_)
 refine CW_seq ?_
 refine CW_region ?_
 refine S_box (l := [_]) rfl rfl rfl (fun b1 => ?_)
 refine W_q (r_assign rfl) rfl ?_
 refine W_nil ?_
 refine NX_as (L' := [(1, _), (2, _), (4, _)]) [1, 2, 4] rfl ?_
 refine CW_seq ?_
 refine CW_region ?_
 refine W_q (r_loadb 0 rfl T.ag22 rfl rfl) rfl ?_
 refine W_quiet (right_q h) T.hb202 rfl rfl ?_
 refine W_q (r_move rfl) rfl ?_
 refine WL_split (t := 7) rfl (fun h2 => ?_) (fun h2 => ?_)
 ·(try simp only [tA, tB, tC, tD, tE, tF, tG, tH, tI, tJ, tK, tL] at h2)
  refine WL_take rfl rfl ?_
  refine W_q (r_move rfl) rfl ?_
  refine WL_take rfl rfl ?_
  refine W_q (r_makeFunc (first := []) (cap := [_]) rfl rfl) rfl ?_
  refine WL_take rfl rfl ?_
  refine W_q (r_quietb 0 rfl (fun m' le hc => ContainsFuncI_q (h'.mono rI_mono le) (p := fun a => decide (depthP t a < 0)) (K := 203) T.hb203 (fun z hz => in1T_q (h.mono rI_mono le) z (hc 0 _ rfl))) T.hb86 rfl) rfl ?_
  refine WL_take rfl rfl ?_
  refine W_q (r_not rfl) rfl ?_
  refine W_q (r_pick_t rfl rfl) rfl ?_
  refine W_q (r_assign rfl) rfl ?_
  refine W_nil ?_
  refine NX_as (L' := [(4, _)]) [4] rfl ?_
  refine C_ret (RX_q1 rfl rfl ?_)
  simp_all [inT]
 ·(try simp only [tA, tB, tC, tD, tE, tF, tG, tH, tI, tJ, tK, tL] at h2)
  refine WL_pass rfl rfl rfl rfl ?_
  refine WL_pass rfl rfl rfl rfl ?_
  refine WL_pass rfl rfl rfl rfl ?_
  refine WL_pass rfl rfl rfl rfl ?_
  refine W_q (r_pick_f rfl rfl) rfl ?_
  refine W_q (r_assign rfl) rfl ?_
  refine W_nil ?_
  refine NX_as (L' := [(4, _)]) [4] rfl ?_
  refine C_ret (RX_q1 rfl rfl ?_)
  simp_all [inT]

set_option maxHeartbeats 4000000 in
/-- dom.Meet -/
theorem Meet_q {m : Imm} {A : Option Addr} {c : Nat} {t : List Int} (h : Ints m A c t) (a b : Int) (ha : I64 a) (hb : I64 b) : Quiet Tryz.prog 187 [.slice A t.length c, .int .i64 a, .int .i64 b] m (.int .i64 (meetP t a b)) := by
 have hlen := h.len
 refine quiet_of Tryz.func187 rfl Tryz.ntmps187 rfl (fun w => ?_)
 refine CW_seq ?_
 refine CW_region ?_
 refine W_q (r_assign rfl) rfl ?_
 refine W_nil ?_
 refine NX_as (L' := [(0, _), (1, _), (2, _), (6, _)]) [0, 1, 2, 6] rfl ?_
 refine CW_seq ?_
 refine CW_seq ?_
 refine CW_region ?_
 refine W_q (r_move rfl) rfl ?_
 refine W_q (r_move rfl) rfl ?_
 refine W_q (r_move rfl) rfl ?_
 refine S_lit (vs := [_, _]) (cs := [_, _]) Tryz.underlying22 T.sz3 T.ze3 rfl rfl rfl rfl rfl rfl (fun m1 ad1 le1 l1 => ?_)
 replace h := h.mono rI_mono le1
 have h1 : Ints m1 (some ad1) 2 _ := Ints_lit [_, _] l1 (i64s_cons (by first | assumption | exact ⟨by omega, by omega⟩) (i64s_cons (by first | assumption | exact ⟨by omega, by omega⟩) i64s_nil))
 refine W_quiet (inT_q h h1) T.hb186 rfl rfl ?_
 refine W_q (r_not rfl) rfl ?_
 refine W_nil ?_
 refine NX_as (L' := [(0, _), (1, _), (2, _), (6, _), (12, _)]) [0, 1, 2, 6, 12] rfl ?_
 refine CW_condk rfl (fun h2 => ?_) (fun h2 => ?_)
 ·(try simp only [tA, tB, tC, tD, tE, tF, tG, tH, tI, tJ, tK, tL] at h2)
  refine CW_seq ?_
  refine CW_region ?_
  refine W_q (r_assign rfl) rfl ?_
  refine W_nil ?_
  refine NX_as (L' := [(0, _), (1, _), (2, _), (6, _)]) [0, 1, 2, 6] rfl ?_
  refine C_ret (RX_then (RX_q1 rfl rfl ?_))
  first
    | (rw [meetP, if_pos hin, hJa]; have he : «x0».1 = «x0».2 := by assumption
       rw [← he, meetF_eq]; done)
    | (simp_all [meetP])
 ·(try simp only [tA, tB, tC, tD, tE, tF, tG, tH, tI, tJ, tK, tL] at h2)
  refine C_skip ?_
  refine NX_as (L' := [(0, _), (1, _), (2, _), (6, _)]) [0, 1, 2, 6] rfl ?_
  refine CW_seq ?_
  refine CW_block ?_
  obtain ⟨hr, hda, hdb⟩ := inT_two h2
  have hin := h2
  refine C_loop (Int × Int) (meetN t a b) (fun k3 x3 => meetF t (meetN t a b) a b = meetF t (meetN t a b - k3) x3.1 x3.2 ∧ 0 ≤ depthP t x3.1 ∧ 0 ≤ depthP t x3.2 ∧ depthP t x3.1 + depthP t x3.2 + (k3 : Int) = depthP t a + depthP t b) (fun k3 x3 => [(1, .int .i64 x3.1), (2, .int .i64 x3.2)]) (fun _ _ => []) [1, 2] [0, 6] (F := [(0, _), (6, _)]) ((a, b)) ⟨by simp, hda, hdb, by simp⟩ rfl rfl rfl (fun k3 x3 hk3 hJ3 => ?_)
  obtain ⟨hJa, hJb, hJc, hJd⟩ := hJ3
  refine CW_as (L' := [(0, _), (1, _), (2, _), (6, _)]) [0, 1, 2, 6] rfl ?_
  refine CW_seq ?_
  refine CW_seq ?_
  refine CW_region ?_
  refine W_q (r_move rfl) rfl ?_
  refine W_q (r_move rfl) rfl ?_
  refine W_q (r_bin rfl rfl (bin_neq _ _ _ _)) rfl ?_
  refine W_nil ?_
  refine NX_as (L' := [(0, _), (1, _), (2, _), (6, _), (15, _)]) [0, 1, 2, 6, 15] rfl ?_
  refine CW_condk rfl (fun h4 => ?_) (fun h4 => ?_)
  ·(try simp only [tA, tB, tC, tD, tE, tF, tG, tH, tI, tJ, tK, tL] at h4)
   refine C_skip ?_
   refine NX_as (L' := [(0, _), (1, _), (2, _), (6, _)]) [0, 1, 2, 6] rfl ?_
   refine CW_block ?_
   refine CW_seq ?_
   refine CW_region ?_
   refine W_q (r_move rfl) rfl ?_
   refine W_q (r_move rfl) rfl ?_
   refine W_quiet (depth_q h _) T.hb204 rfl rfl ?_
   refine W_q (r_move rfl) rfl ?_
   refine W_q (r_move rfl) rfl ?_
   refine W_quiet (depth_q h _) T.hb204 rfl rfl ?_
   refine W_q (r_bin rfl rfl (bin_geq _ _ _ _)) rfl ?_
   refine W_nil ?_
   refine NX_as (L' := [(0, _), (1, _), (2, _), (6, _), (22, _)]) [0, 1, 2, 6, 22] rfl ?_
   refine CW_condk rfl (fun h5 => ?_) (fun h5 => ?_)
   ·(try simp only [tA, tB, tC, tD, tE, tF, tG, tH, tI, tJ, tK, tL] at h5)
    refine CW_region ?_
    refine W_q (r_move rfl) rfl ?_
    refine W_q (r_move rfl) rfl ?_
    obtain ⟨ad6, hA6⟩ := h.ad (j := x3.1.toNat) (by have := depth_in hJb; omega)
    obtain ⟨z6, hz6⟩ := h.getz (j := x3.1.toNat) (by have := depth_in hJb; omega)
    refine W_q (r_index hA6 Tryz.underlying22 T.sz3 rfl rfl ⟨by have := depth_in hJb; omega, by have := depth_in hJb; omega⟩) rfl ?_
    obtain ⟨l7, r7⟩ := Sl.getI h hA6 hz6
    refine W_q (r_load_imm rfl T.ag3 l7) rfl ?_
    refine W_q (r_assign rfl) rfl ?_
    refine W_nil ?_
    refine NX_block (?_)
    have hne : x3.1 ≠ x3.2 := by assumption
    have hle : depthP t x3.2 ≤ depthP t x3.1 := by assumption
    have hz' := meet_up hr hJb hJc hne hle hz6
    have hu := depth_up hJb hz6 hz'
    have hlt : k3 < meetN t a b := by simp only [meetN]; omega
    refine NX_rnd [1, 2, 0, 6] hlt ((z6, x3.2)) ?_ rfl (List.Sublist.refl _) rfl (Imm.le_refl _)
    refine ⟨?_, hu.2, hJc, by have := hu.1; dsimp only; omega⟩
    rw [hJa, show meetN t a b - k3 = (meetN t a b - (k3 + 1)) + 1 by omega]
    exact meetF_a hne hle hz6
   ·(try simp only [tA, tB, tC, tD, tE, tF, tG, tH, tI, tJ, tK, tL] at h5)
    refine CW_region ?_
    refine W_q (r_move rfl) rfl ?_
    refine W_q (r_move rfl) rfl ?_
    obtain ⟨ad8, hA8⟩ := h.ad (j := x3.2.toNat) (by have := depth_in hJc; omega)
    obtain ⟨z8, hz8⟩ := h.getz (j := x3.2.toNat) (by have := depth_in hJc; omega)
    refine W_q (r_index hA8 Tryz.underlying22 T.sz3 rfl rfl ⟨by have := depth_in hJc; omega, by have := depth_in hJc; omega⟩) rfl ?_
    obtain ⟨l9, r9⟩ := Sl.getI h hA8 hz8
    refine W_q (r_load_imm rfl T.ag3 l9) rfl ?_
    refine W_q (r_assign rfl) rfl ?_
    refine W_nil ?_
    refine NX_block (?_)
    have hne : x3.1 ≠ x3.2 := by assumption
    have hle : ¬ depthP t x3.2 ≤ depthP t x3.1 := by omega
    have hz' := meet_up hr hJc hJb (Ne.symm hne) (by omega) hz8
    have hu := depth_up hJc hz8 hz'
    have hlt : k3 < meetN t a b := by simp only [meetN]; omega
    refine NX_rnd [1, 2, 0, 6] hlt ((x3.1, z8)) ?_ rfl (List.Sublist.refl _) rfl (Imm.le_refl _)
    refine ⟨?_, hJb, hu.2, by have := hu.1; dsimp only; omega⟩
    rw [hJa, show meetN t a b - k3 = (meetN t a b - (k3 + 1)) + 1 by omega]
    exact meetF_b hne hle hz8
  ·(try simp only [tA, tB, tC, tD, tE, tF, tG, tH, tI, tJ, tK, tL] at h4)
   refine C_exit (EX_then (EX_then (EX_hit (?_))))
   refine NX_as (L' := [(1, _), (6, _)]) [1, 6] rfl ?_
   refine CW_seq ?_
   refine CW_region ?_
   refine W_q (r_move rfl) rfl ?_
   refine W_q (r_assign rfl) rfl ?_
   refine W_nil ?_
   refine NX_as (L' := [(6, _)]) [6] rfl ?_
   refine C_ret (RX_q1 rfl rfl ?_)
   first
     | (rw [meetP, if_pos hin, hJa]; have he : x3.1 = x3.2 := by assumption
        rw [← he, meetF_eq]; done)
     | (simp_all [meetP])

set_option maxHeartbeats 4000000 in
/-- dom.Over -/
theorem Over_q {m : Imm} {A : Option Addr} {c : Nat} {t : List Int} (h : Ints m A c t) (a b : Int) (ha : I64 a) (hb : I64 b) : Quiet Tryz.prog 151 [.slice A t.length c, .int .i64 a, .int .i64 b] m (.bool (overP t a b)) := by
 refine quiet_of Tryz.func151 rfl Tryz.ntmps151 rfl (fun w => ?_)
 refine CW_seq ?_
 refine CW_region ?_
 refine W_q (r_assign rfl) rfl ?_
 refine W_nil ?_
 refine NX_as (L' := [(0, _), (1, _), (2, _), (6, _)]) [0, 1, 2, 6] rfl ?_
 refine CW_seq ?_
 refine CW_region ?_
 refine W_q (r_move rfl) rfl ?_
 refine W_q (r_move rfl) rfl ?_
 refine W_q (r_move rfl) rfl ?_
 refine S_lit (vs := [_, _]) (cs := [_, _]) Tryz.underlying22 T.sz3 T.ze3 rfl rfl rfl rfl rfl rfl (fun m1 ad1 le1 l1 => ?_)
 replace h := h.mono rI_mono le1
 have h1 : Ints m1 (some ad1) 2 _ := Ints_lit [_, _] l1 (i64s_cons (by first | assumption | exact ⟨by omega, by omega⟩) (i64s_cons (by first | assumption | exact ⟨by omega, by omega⟩) i64s_nil))
 refine W_quiet (inT_q h h1) T.hb186 rfl rfl ?_
 refine W_q (r_move rfl) rfl ?_
 refine WL_split (t := 12) rfl (fun h2 => ?_) (fun h2 => ?_)
 ·(try simp only [tA, tB, tC, tD, tE, tF, tG, tH, tI, tJ, tK, tL] at h2)
  refine WL_take rfl rfl ?_
  refine W_q (r_move rfl) rfl ?_
  refine WL_take rfl rfl ?_
  refine W_q (r_move rfl) rfl ?_
  refine WL_take rfl rfl ?_
  refine W_q (r_move rfl) rfl ?_
  refine WL_take rfl rfl ?_
  refine W_quiet (Meet_q h _ _ (by assumption) (by assumption)) T.hb187 rfl rfl ?_
  refine WL_take rfl rfl ?_
  refine W_q (r_move rfl) rfl ?_
  refine WL_take rfl rfl ?_
  refine W_q (r_bin rfl rfl (bin_eql _ _ _ _)) rfl ?_
  refine W_q (r_pick_t rfl rfl) rfl ?_
  refine W_q (r_assign rfl) rfl ?_
  refine W_nil ?_
  refine NX_as (L' := [(6, _)]) [6] rfl ?_
  refine C_ret (RX_q1 rfl rfl ?_)
  simp_all [overP]
 ·(try simp only [tA, tB, tC, tD, tE, tF, tG, tH, tI, tJ, tK, tL] at h2)
  refine WL_pass rfl rfl rfl rfl ?_
  refine WL_pass rfl rfl rfl rfl ?_
  refine WL_pass rfl rfl rfl rfl ?_
  refine WL_pass rfl rfl rfl rfl ?_
  refine WL_pass rfl rfl rfl rfl ?_
  refine WL_pass rfl rfl rfl rfl ?_
  refine W_q (r_pick_f rfl rfl) rfl ?_
  refine W_q (r_assign rfl) rfl ?_
  refine W_nil ?_
  refine NX_as (L' := [(6, _)]) [6] rfl ?_
  refine C_ret (RX_q1 rfl rfl ?_)
  simp_all [overP]

end Go.Proofs.YtipmgkhjoekaaaaGreat

set_option linter.unusedVariables false
set_option linter.unusedSimpArgs false
namespace Go.Proofs.YtipmgkhjoekaaaaGreat
open Go Go.RowKit Go.Proofs Go.Proofs.YtipmgkhjoekaaaaGreat.Fw
attribute [local irreducible] Qt WL CW NX RX EX GX DL
set_option maxHeartbeats 10000000 in
/-- dom.meet -/
theorem meet_q {m : Imm} {A : Option Addr} {c : Nat} {t : List Int} (h : Ints m A c t) {A' : Option Addr} {c' : Nat} {at_ : List Int} (h' : Ints m A' c' at_) {root : Int} {S : Int → Prop} (hC : Climb t at_ root S) (a b : Int) (ha : S a) (hb : S b) : Quiet Tryz.prog 185 [.slice A t.length c, .slice A' at_.length c', .int .i64 a, .int .i64 b] m (.int .i64 (climbP t at_ a b)) := by
 refine quiet_of Tryz.func185 rfl Tryz.ntmps185 rfl (fun w => ?_)
 refine CW_seq ?_
 refine CW_region ?_
 refine W_q (r_assign rfl) rfl ?_
 refine W_nil ?_
 refine NX_as (L' := [(0, _), (1, _), (2, _), (3, _), (8, _)]) [0, 1, 2, 3, 8] rfl ?_
 refine CW_seq ?_
 refine CW_block ?_
 refine C_loop (Int × Int) ((atS at_ a + atS at_ b).toNat + 1) (fun k1 x1 => climbP t at_ a b = climbP t at_ x1.1 x1.2 ∧ S x1.1 ∧ S x1.2 ∧ atS at_ x1.1 + atS at_ x1.2 + (k1 : Int) ≤ atS at_ a + atS at_ b) (fun k1 x1 => [(2, .int .i64 x1.1), (3, .int .i64 x1.2)]) (fun _ _ => []) [2, 3] [0, 1, 8] (F := [(0, _), (1, _), (8, _)]) ((a, b)) ⟨rfl, ha, hb, by simp⟩ rfl rfl rfl (fun k1 x1 hk1 hJ1 => ?_)
 obtain ⟨hJa, hJb, hJc, hJd⟩ := hJ1
 have hn1 := hC.nn _ hJb
 have hn2 := hC.nn _ hJc
 refine CW_as (L' := [(0, _), (1, _), (2, _), (3, _), (8, _)]) [0, 1, 2, 3, 8] rfl ?_
 refine CW_seq ?_
 refine CW_seq ?_
 refine CW_region ?_
 refine W_q (r_move rfl) rfl ?_
 refine W_q (r_move rfl) rfl ?_
 refine W_q (r_bin rfl rfl (bin_neq _ _ _ _)) rfl ?_
 refine W_nil ?_
 refine NX_as (L' := [(0, _), (1, _), (2, _), (3, _), (8, _), (11, _)]) [0, 1, 2, 3, 8, 11] rfl ?_
 refine CW_condk rfl (fun h2 => ?_) (fun h2 => ?_)
 ·(try simp only [tA, tB, tC, tD, tE, tF, tG, tH, tI, tJ, tK, tL] at h2)
  refine C_skip ?_
  refine NX_as (L' := [(0, _), (1, _), (2, _), (3, _), (8, _)]) [0, 1, 2, 3, 8] rfl ?_
  refine CW_block ?_
  refine CW_seq ?_
  refine CW_block ?_
  refine C_loop (Int) ((atS at_ x1.1 + atS at_ x1.2).toNat + 1) (fun k3 x3 => climbP t at_ a b = climbP t at_ x3 x1.2 ∧ S x3 ∧ atS at_ x3 + (k3 : Int) ≤ atS at_ x1.1) (fun k3 x3 => [(2, .int .i64 x3)]) (fun _ _ => []) [2] [0, 1, 3, 8] (F := [(0, _), (1, _), (3, _), (8, _)]) (x1.1) ⟨hJa, hJb, by simp⟩ rfl rfl rfl (fun k3 x3 hk3 hJ3 => ?_)
  obtain ⟨hT1, hS1, hU1⟩ := hJ3
  refine CW_as (L' := [(0, _), (1, _), (2, _), (3, _), (8, _)]) [0, 1, 2, 3, 8] rfl ?_
  refine CW_seq ?_
  refine CW_seq ?_
  refine C_drawn [(0, true), (1, true), (2, true), (3, true), (4, true), (5, true), (6, true), (7, true), (8, true)] (by kernel_rfl) rfl (by kernel_rfl) (by kernel_rfl) ?_
  refine D_q rfl (r_move rfl) rfl ?_
  refine D_q rfl (r_move rfl) rfl ?_
  obtain ⟨ad4, hA4⟩ := h'.ad (j := x3.toNat) (by have := hC.inn _ hS1; have := hC.len; omega)
  obtain ⟨z4, hz4⟩ := h'.getz (j := x3.toNat) (by have := hC.inn _ hS1; have := hC.len; omega)
  refine D_q rfl (r_index hA4 Tryz.underlying22 T.sz3 rfl rfl ⟨by have := hC.inn _ hS1; omega, by have := hC.inn _ hS1; have := hC.len; omega⟩) rfl ?_
  obtain ⟨l5, r5⟩ := Sl.getI h' hA4 hz4
  refine D_q rfl (r_load_imm rfl T.ag3 l5) rfl ?_
  refine D_q rfl (r_move rfl) rfl ?_
  refine D_q rfl (r_move rfl) rfl ?_
  obtain ⟨ad6, hA6⟩ := h'.ad (j := x1.2.toNat) (by have := hC.inn _ hJc; have := hC.len; omega)
  obtain ⟨z6, hz6⟩ := h'.getz (j := x1.2.toNat) (by have := hC.inn _ hJc; have := hC.len; omega)
  refine D_q rfl (r_index hA6 Tryz.underlying22 T.sz3 rfl rfl ⟨by have := hC.inn _ hJc; omega, by have := hC.inn _ hJc; have := hC.len; omega⟩) rfl ?_
  obtain ⟨l7, r7⟩ := Sl.getI h' hA6 hz6
  refine D_q rfl (r_load_imm rfl T.ag3 l7) rfl ?_
  refine D_q rfl (r_bin rfl rfl (bin_gtr _ _ _ _)) rfl ?_
  refine D_end ?_
  refine NX_as (L' := [(0, _), (1, _), (2, _), (3, _), (8, _), (20, _)]) [0, 1, 2, 3, 8, 20] rfl ?_
  refine CW_condk rfl (fun h8 => ?_) (fun h8 => ?_)
  ·(try simp only [tA, tB, tC, tD, tE, tF, tG, tH, tI, tJ, tK, tL] at h8)
   refine C_skip ?_
   refine NX_as (L' := [(0, _), (1, _), (2, _), (3, _), (8, _)]) [0, 1, 2, 3, 8] rfl ?_
   refine CW_block ?_
   refine CW_region ?_
   refine W_q (r_move rfl) rfl ?_
   refine W_q (r_move rfl) rfl ?_
   obtain ⟨ad9, hA9⟩ := h.ad (j := x3.toNat) (by have := hC.inn _ hS1; omega)
   obtain ⟨z9, hz9⟩ := h.getz (j := x3.toNat) (by have := hC.inn _ hS1; omega)
   refine W_q (r_index hA9 Tryz.underlying22 T.sz3 rfl rfl ⟨by have := hC.inn _ hS1; omega, by have := hC.inn _ hS1; omega⟩) rfl ?_
   obtain ⟨l10, r10⟩ := Sl.getI h hA9 hz9
   refine W_q (r_load_imm rfl T.ag3 l10) rfl ?_
   refine W_q (r_assign rfl) rfl ?_
   refine W_nil ?_
   refine NX_block (?_)
   have f1 : atS at_ x3 = _ := atS_of (by assumption)
   have f2 : atS at_ x1.2 = _ := atS_of (by assumption)
   have hs := hC.step hS1 hJc (by omega)
   rw [getD_of hz9] at hs
   have hlt1 : k3 < (atS at_ x1.1 + atS at_ x1.2).toNat + 1 := by have h1 : 0 ≤ atS at_ x1.2 := hC.nn _ hJc; omega
   refine NX_rnd [2, 0, 1, 3, 8] hlt1 (z9) ?_ rfl (List.Sublist.refl _) rfl (Imm.le_refl _)
   refine ⟨?_, hs.1, by have := hs.2; omega⟩
   rw [hT1, climb_a hC hS1 hJc (by omega), getD_of hz9]
  ·(try simp only [tA, tB, tC, tD, tE, tF, tG, tH, tI, tJ, tK, tL] at h8)
   refine C_exit (EX_then (EX_then (EX_hit (?_))))
   refine NX_as (L' := [(0, _), (1, _), (2, _), (3, _), (8, _)]) [0, 1, 2, 3, 8] rfl ?_
   refine CW_block ?_
   refine C_loop (Int) ((atS at_ x3 + atS at_ x1.2).toNat + 1) (fun k11 x11 => climbP t at_ a b = climbP t at_ x3 x11 ∧ S x11 ∧ atS at_ x11 + (k11 : Int) ≤ atS at_ x1.2) (fun k11 x11 => [(3, .int .i64 x11)]) (fun _ _ => []) [3] [0, 1, 2, 8] (F := [(0, _), (1, _), (2, _), (8, _)]) (x1.2) ⟨hT1, hJc, by simp⟩ rfl rfl rfl (fun k11 x11 hk11 hJ11 => ?_)
   obtain ⟨hT2, hS2, hU2⟩ := hJ11
   refine CW_as (L' := [(0, _), (1, _), (2, _), (3, _), (8, _)]) [0, 1, 2, 3, 8] rfl ?_
   refine CW_seq ?_
   refine CW_seq ?_
   refine C_drawn [(0, true), (1, true), (2, true), (3, true), (4, true), (5, true), (6, true), (7, true), (8, true)] (by kernel_rfl) rfl (by kernel_rfl) (by kernel_rfl) ?_
   refine D_q rfl (r_move rfl) rfl ?_
   refine D_q rfl (r_move rfl) rfl ?_
   obtain ⟨ad12, hA12⟩ := h'.ad (j := x11.toNat) (by have := hC.inn _ hS2; have := hC.len; omega)
   obtain ⟨z12, hz12⟩ := h'.getz (j := x11.toNat) (by have := hC.inn _ hS2; have := hC.len; omega)
   refine D_q rfl (r_index hA12 Tryz.underlying22 T.sz3 rfl rfl ⟨by have := hC.inn _ hS2; omega, by have := hC.inn _ hS2; have := hC.len; omega⟩) rfl ?_
   obtain ⟨l13, r13⟩ := Sl.getI h' hA12 hz12
   refine D_q rfl (r_load_imm rfl T.ag3 l13) rfl ?_
   refine D_q rfl (r_move rfl) rfl ?_
   refine D_q rfl (r_move rfl) rfl ?_
   obtain ⟨ad14, hA14⟩ := h'.ad (j := x3.toNat) (by have := hC.inn _ hS1; have := hC.len; omega)
   refine D_q rfl (r_index hA14 Tryz.underlying22 T.sz3 rfl rfl ⟨by have := hC.inn _ hS1; omega, by have := hC.inn _ hS1; have := hC.len; omega⟩) rfl ?_
   obtain ⟨l15, r15⟩ := Sl.getI h' hA14 hz4
   refine D_q rfl (r_load_imm rfl T.ag3 l15) rfl ?_
   refine D_q rfl (r_bin rfl rfl (bin_gtr _ _ _ _)) rfl ?_
   refine D_end ?_
   refine NX_as (L' := [(0, _), (1, _), (2, _), (3, _), (8, _), (33, _)]) [0, 1, 2, 3, 8, 33] rfl ?_
   refine CW_condk rfl (fun h16 => ?_) (fun h16 => ?_)
   ·(try simp only [tA, tB, tC, tD, tE, tF, tG, tH, tI, tJ, tK, tL] at h16)
    refine C_skip ?_
    refine NX_as (L' := [(0, _), (1, _), (2, _), (3, _), (8, _)]) [0, 1, 2, 3, 8] rfl ?_
    refine CW_block ?_
    refine CW_region ?_
    refine W_q (r_move rfl) rfl ?_
    refine W_q (r_move rfl) rfl ?_
    obtain ⟨ad17, hA17⟩ := h.ad (j := x11.toNat) (by have := hC.inn _ hS2; omega)
    obtain ⟨z17, hz17⟩ := h.getz (j := x11.toNat) (by have := hC.inn _ hS2; omega)
    refine W_q (r_index hA17 Tryz.underlying22 T.sz3 rfl rfl ⟨by have := hC.inn _ hS2; omega, by have := hC.inn _ hS2; omega⟩) rfl ?_
    obtain ⟨l18, r18⟩ := Sl.getI h hA17 hz17
    refine W_q (r_load_imm rfl T.ag3 l18) rfl ?_
    refine W_q (r_assign rfl) rfl ?_
    refine W_nil ?_
    refine NX_block (?_)
    have f1 : atS at_ x3 = _ := atS_of (by assumption)
    have f3 : atS at_ x11 = _ := atS_of (by assumption)
    have hs := hC.step hS2 hS1 (by omega)
    rw [getD_of hz17] at hs
    have hlt2 : k11 < (atS at_ x3 + atS at_ x1.2).toNat + 1 := by have h1 : 0 ≤ atS at_ x3 := hC.nn _ hS1; omega
    refine NX_rnd [3, 0, 1, 2, 8] hlt2 (z17) ?_ rfl (List.Sublist.refl _) rfl (Imm.le_refl _)
    refine ⟨?_, hs.1, by have := hs.2; omega⟩
    rw [hT2, climb_b hC hS1 hS2 (by omega), getD_of hz17]
   ·(try simp only [tA, tB, tC, tD, tE, tF, tG, tH, tI, tJ, tK, tL] at h16)
    refine C_exit (EX_then (EX_then (EX_hit (?_))))
    refine NX_block (?_)
    have f1 : atS at_ x3 = _ := atS_of (by assumption)
    have f2 : atS at_ x1.2 = _ := atS_of (by assumption)
    have f3 : atS at_ x11 = _ := atS_of (by assumption)
    have hd : atS at_ x1.1 ≠ atS at_ x1.2 := fun e => (by assumption : x1.1 ≠ x1.2) (hC.inj _ _ hJb hJc e)
    have h1 : 0 ≤ atS at_ x1.2 := hC.nn _ hJc
    have h2 : 0 ≤ atS at_ x1.1 := hC.nn _ hJb
    have hlt : k1 < (atS at_ a + atS at_ b).toNat + 1 := by omega
    refine NX_rnd [2, 3, 0, 1, 8] hlt ((x3, x11)) ?_ rfl (List.Sublist.refl _) rfl (Imm.le_refl _)
    exact ⟨hT2, hS1, hS2, by dsimp only; omega⟩
 ·(try simp only [tA, tB, tC, tD, tE, tF, tG, tH, tI, tJ, tK, tL] at h2)
  refine C_exit (EX_then (EX_then (EX_hit (?_))))
  refine NX_as (L' := [(2, _), (8, _)]) [2, 8] rfl ?_
  refine CW_seq ?_
  refine CW_region ?_
  refine W_q (r_move rfl) rfl ?_
  refine W_q (r_assign rfl) rfl ?_
  refine W_nil ?_
  refine NX_as (L' := [(8, _)]) [8] rfl ?_
  refine C_ret (RX_q1 rfl rfl ?_)
  have he : x1.1 = x1.2 := by assumption
  rw [hJa, ← he, climb_eq]

end Go.Proofs.YtipmgkhjoekaaaaGreat

set_option linter.unusedVariables false
namespace Go.Proofs.YtipmgkhjoekaaaaGreat.Fw
open Go Go.RowKit
/-! Scopes with jumps to one label. -/
section
variable {P : Program} {Q : Post} {n : Nat} {s : Start} {m : Imm} {R : List Res} {L : Loc}
/-- From the label on all comes to Q, with fewer than k jumps. -/
def SafeK (P : Program) (rest : Code) (l : Nat) (Q : Post) : Nat → Act → World → Prop
  | 0 => fun _ _ => False
  | k + 1 => fun a w => rest.wp P (Exit.jump l (SafeK P rest l Q k) Q) a w
def Safe (P : Program) (rest : Code) (l : Nat) (Q : Post) (a : Act) (w : World) : Prop := ∃ k, SafeK P rest l Q k a w
theorem jump_mono {l : Nat} {J J' : Act → World → Prop} (h : ∀ a w, J a w → J' a w) : ∀ e a w, Exit.jump l J Q e a w → Exit.jump l J' Q e a w := by
  intro e a w hq
  cases e with
  | goto l' => exact ⟨hq.1, h _ _ hq.2⟩
  | normal => exact hq
  | exit id => exact hq
  | ret => exact hq
  | panic ch => exact hq
  | outgrown => exact hq
theorem C_scope {c rest : Code} (l : Nat) (hf : findLabel c l = some rest) (h : CW P c (Exit.jump l (Safe P rest l Q) Q) n s m R L) : CW P (.scope c) Q n s m R L := fun a w hF hS =>
  wp_scope_jumps l (Safe P rest l Q) (fun a w => leastOf (fun k => SafeK P rest l Q k a w)) hf (h a w hF hS) (fun a w hs => by
    have h1 := (leastOf_spec hs).1
    generalize leastOf (fun k => SafeK P rest l Q k a w) = k at h1
    cases k with
    | zero => exact h1.elim
    | succ k => exact wp_mono h1 (jump_mono fun a' w' h' => ⟨⟨k, h'⟩, Nat.lt_of_le_of_lt ((leastOf_spec ⟨k, h'⟩).2 k h') (Nat.lt_succ_self k)⟩))
/-- What a jump hands on. -/
def Low (X : Type) (n : Nat) (s : Start) (J : Imm → X → Prop) (μ : X → Nat) (Mf : X → Loc) (Rf : X → List Res) (RR : List Res) (F : Loc) (x : X) (a : Act) (w : World) : Prop :=
  ∃ x' m1, μ x' < μ x ∧ J m1 x' ∧ Fr n (Mf x' ++ F) a ∧ St s m1 (Rf x' ++ RR) w
theorem safe_of {rest : Code} {l : Nat} {X : Type} {J : Imm → X → Prop} {μ : X → Nat} {Mf : X → Loc} {Rf : X → List Res} {RR : List Res} {F : Loc}
    (pass : ∀ m1 x, J m1 x → CW P rest (Exit.jump l (Low X n s J μ Mf Rf RR F x) Q) n s m1 (Rf x ++ RR) (Mf x ++ F)) :
    ∀ (k : Nat) (x : X) (m1 : Imm) (a : Act) (w : World), μ x < k → J m1 x → Fr n (Mf x ++ F) a → St s m1 (Rf x ++ RR) w → SafeK P (.seq .skip rest) l Q k a w := by
  intro k
  induction k with
  | zero => intro x m1 a w h; omega
  | succ k ih =>
    intro x m1 a w hk hJ hF hS
    refine wp_seq (wp_skip ?_)
    exact wp_mono (pass m1 x hJ a w hF hS) (jump_mono fun a' w' h' => by
      obtain ⟨x', m2, hlt, hJ', hF', hS'⟩ := h'
      exact ih x' m2 a' w' (by omega) hJ' hF' hS')
/-- The label is come to. -/
theorem C_again {rest : Code} {l : Nat} (X : Type) (J : Imm → X → Prop) (μ : X → Nat) (Mf : X → Loc) (Rf : X → List Res) (mks ks : List Nat) {F : Loc} {RR : List Res} (x0 : X) (h0 : J m x0) (hM : sel L mks = Mf x0) (hks : sel L ks = F) (hR : R = Rf x0 ++ RR)
    (pass : ∀ m1 x, J m1 x → CW P rest (Exit.jump l (Low X n s J μ Mf Rf RR F x) Q) n s m1 (Rf x ++ RR) (Mf x ++ F)) :
    CW P (.seq (.label l) rest) (Exit.jump l (Safe P (.seq .skip rest) l Q) Q) n s m R L := fun a w hF hS => by
  subst hks hR
  refine wp_seq (wp_label ?_)
  have h1 := hF.keep (mks ++ ks)
  rw [sel_append, hM] at h1
  exact wp_mono (pass m x0 h0 a w h1 hS) (jump_mono fun a' w' h' => by
    obtain ⟨x', m2, hlt, hJ', hF', hS'⟩ := h'
    exact ⟨_, safe_of pass (μ x' + 1) x' m2 a' w' (Nat.lt_succ_self _) hJ' hF' hS'⟩)
/-- A jump back. -/
theorem GX_low {l : Nat} {X : Type} {J : Imm → X → Prop} {μ : X → Nat} {Mf : X → Loc} {Rf : X → List Res} {RR : List Res} {F : Loc} {x : X} {R' : List Res} (ks : List Nat) (x' : X) (hμ : μ x' < μ x) (hJ : J m x') (hL : sel L ks = Mf x' ++ F) (hs : R'.Sublist R) (hR : R' = Rf x' ++ RR) :
    GX l (Exit.jump l (Low X n s J μ Mf Rf RR F x) Q) n s m R L := fun a w hF hS => ⟨rfl, x', m, hμ, hJ, hL ▸ hF.keep ks, hR ▸ hS.sub hs⟩
/-! A label ahead: what holds there is told at once. -/
def At (X : Type) (n : Nat) (s : Start) (J : Imm → X → Prop) (Mf : X → Loc) (Rf : X → List Res) (RR : List Res) (F : Loc) (a : Act) (w : World) : Prop :=
  ∃ x m1, J m1 x ∧ Fr n (Mf x ++ F) a ∧ St s m1 (Rf x ++ RR) w
theorem C_ahead {c rest : Code} (l : Nat) (hf : findLabel c l = some rest) (X : Type) (J : Imm → X → Prop) (Mf : X → Loc) (Rf : X → List Res) (ks : List Nat) {F : Loc} {RR : List Res} (hks : sel L ks = F) (hRR : R = RR)
    (first : CW P c (Exit.jump l (At X n s J Mf Rf RR F) Q) n s m R L)
    (pass : ∀ m1 x, J m1 x → CW P rest (Exit.jump l (fun _ _ => False) Q) n s m1 (Rf x ++ RR) (Mf x ++ F)) : CW P (.scope c) Q n s m R L := fun a w hF hS => by
  refine wp_scope_jumps l (At X n s J Mf Rf RR F) (fun _ _ => 0) hf (first a w hF hS) (fun a w h => ?_)
  obtain ⟨x, m1, hJ, hF, hS⟩ := h
  exact wp_mono (pass m1 x hJ a w hF hS) (jump_mono fun _ _ h => h.elim)
theorem GX_ahead {l : Nat} {X : Type} {J : Imm → X → Prop} {Mf : X → Loc} {Rf : X → List Res} {RR : List Res} {F : Loc} {R' : List Res} (ks : List Nat) (x : X) (hJ : J m x) (hL : sel L ks = Mf x ++ F) (hs : R'.Sublist R) (hR : R' = Rf x ++ RR) :
    GX l (Exit.jump l (At X n s J Mf Rf RR F) Q) n s m R L := fun a w hF hS => ⟨rfl, x, m, hJ, hL ▸ hF.keep ks, hR ▸ hS.sub hs⟩
end
end Go.Proofs.YtipmgkhjoekaaaaGreat.Fw

set_option linter.unusedVariables false
set_option linter.unusedSimpArgs false
namespace Go.Proofs.YtipmgkhjoekaaaaGreat.Fw
open Go Go.RowKit
section
variable {P : Program} {ops : Array Oper} {Q : Post} {rest : List Oper} {n : Nat} {s : Start} {m : Imm} {R : List Res} {L : Loc}
variable {d : Nat} {dst : Option Nat} {ty : TypeId} {pos : String} {af : Array Edge} {g : Option (Nat × Bool)} {x y : Operand}
theorem WL_front {r : Res} {R' : List Res} (i : Nat) (hi : R[i]? = some r) (hR : R.eraseIdx i = R') (next : WL P ops Q rest n s m (r :: R') L) : WL P ops Q rest n s m R L := fun a w hF hS => next a w hF (hS.perm (hR ▸ front_perm hi))
/-- A function that ends at its end. -/
theorem NX_top {fn : Go.Func} {Rp : Ending → World → Prop} (h : RX (bodyPost P fn Rp) n s m R L) : NX (bodyPost P fn Rp) n s m R L := fun a w hF hS => h a w hF hS
/-! The rest of an own row is let go. -/
theorem St.trimI {w : World} {i E cap : Nat} {gg : Option Nat} {l : List Int} (h : St s m R w) (hi : R[i]? = some (rowI E gg cap l)) (k : Nat) : St s m (R.set i (rowI E gg cap (l.take k))) w := by
  obtain ⟨hl, h1, h2, h3, hb⟩ := row_g (h.at hi)
  refine h.turn (r' := rowI E gg cap (l.take k)) hi rfl rfl rfl (Nat.le_refl _) (fun b _ _ => rfl) ?_ (fun b hb => .inl hb)
  cases gg with
  | none =>
    obtain ⟨h4, h5⟩ := h3 rfl
    have : l = [] := by simpa using h4
    subst this h5
    simp only [List.take_nil]; exact row_nil E 1 w
  | some b =>
    obtain ⟨cur, hg, hs, ht⟩ := hb b rfl
    refine row_mk (cur := cur) (by simp) hg (by simp; omega) h2 hs ?_
    rw [← List.map_take.symm, ← ht, List.take_take]
    simp only [List.length_take, Nat.mul_one]
theorem WL_trimI {E cap : Nat} {gg : Option Nat} {l l' : List Int} (i k : Nat) (hi : R[i]? = some (rowI E gg cap l)) (he : l.take k = l') (next : WL P ops Q rest n s m (R.set i (rowI E gg cap l')) L) : WL P ops Q rest n s m R L := fun a w hF hS => next a w hF (he ▸ hS.trimI hi k)
/-! Arrays of one's own, of one kind of elements. -/
theorem r_loadbm {α : Type} {f : α → Value} {T E b o : Nat} {l : List α} {v : α} (i : Nat) (hx : ev L x = some (.pointer (some ⟨b, o, none⟩))) (hT : agg? P T = some false) (hi : R[i]? = some (bx b E (l.map f))) (hv : l[o]? = some v) : Qt P ⟨dst, .load T x, ty, pos, af, g⟩ n m R L (f v) := r_loadb i hx hT hi (by rw [List.getElem?_map, hv]; rfl)
theorem S_storebm {α : Type} {f : α → Value} {T E b o : Nat} {l : List α} (v : α) (i : Nat) (hx : ev L x = some (.pointer (some ⟨b, o, none⟩))) (hy : ev L y = some (f v)) (hc : (f v).cells = #[f v]) (h1 : (f v).oneCell' = true) (hs : sz? P T = some 1) (hi : R[i]? = some (bx b E (l.map f)))
    (ho : o < l.length) (next : WL P ops Q rest n s m (R.set i (bx b E ((l.set o v).map f))) L) : WL P ops Q (⟨none, .store T x y, ty, pos, af, none⟩ :: rest) n s m R L :=
  S_storeba i hx hy hc h1 hs hi (by simpa using ho) (by have := next; rwa [List.map_set] at this)
/-! A slice that is read, but its first. -/
def tlA (A : Option Addr) (c sz : Nat) : Option Addr := if c = 1 then A else A.map fun ad => ad.add sz
theorem Sl.tail {α : Type _} {r : Rep α} {sz c : Nat} {A : Option Addr} {l : List α} (h : Sl r sz m A c l) (hl : 0 < l.length) : Sl r sz m (tlA A c sz) (c - 1) (l.drop 1) := by
  have h1 := h.le; have h2 := h.cap; have h3 := h.len
  refine ⟨by simp; omega, by omega, by simp; omega, fun j z hj => ?_⟩
  rw [List.getElem?_drop] at hj
  obtain ⟨ad, rfl, es, h4, h5, h6⟩ := h.at_ (1 + j) z hj
  have hjl := (List.getElem?_eq_some_iff.1 hj).1
  have hj1 := (List.getElem?_eq_some_iff.1 hj).1
  refine ⟨ad.add sz, by rw [tlA, if_neg (show ¬ c = 1 by omega)]; rfl, es, h4, h5, fun k v hk => ?_⟩
  have := h6 k v hk
  rw [show (1 + j) * sz + k = sz + (j * sz + k) by rw [Nat.add_mul, Nat.one_mul]; omega] at this
  rw [← this]
  rw [add_add]
theorem r_sltail {T E : TypeId} {A : Option Addr} {len c sz : Nat} {k : IntKind} (hT : P.underlying T = some (.slice E)) (hx : ev L x = some (.slice A len c)) (hy : ev L y = some (.int k 1)) (hl : 0 < len) (hlc : len ≤ c) (hs : sz? P E = some sz) : Qt P ⟨dst, .slice T x (some y) none none, ty, pos, af, g⟩ n m R L (.slice (tlA A c sz) (len - 1) (c - 1)) :=
  .of fun a w hF _ => by
    have h1 : (0 : Int) ≤ (1 : Int) ∧ (1 : Int) ≤ (len : Int) := by omega
    have h2 : (1 : Nat) ≤ len := hl
    have e' : (if c = 1 then A else A.map fun x => x.add sz) = tlA A c sz := rfl
    simp [execOp, hF.eval hx, hF.eval hy, Instr.sliceAt, Instr.slice, run_underlying hT, Instr.sliceBounds, Instr.sliceBound, asIntOf, h1, h2, run_sizeOf_of hs]
    exact e'
end
end Go.Proofs.YtipmgkhjoekaaaaGreat.Fw

set_option linter.unusedVariables false
set_option linter.unusedSimpArgs false
namespace Go.Proofs.YtipmgkhjoekaaaaGreat.Fw
open Go Go.RowKit Go.Sort
/-! Contracts of the shelf that turn a row of numbers. -/
theorem holds_row {E b cap : Nat} {l : List Int} {w : World} (h : (rowI E (some b) cap l).holds w) : Holds (Value.int .i64) w b 0 l.toArray ∧ b < w.heap.size := by
  obtain ⟨hl, h1, h2, _, hb⟩ := row_g h
  obtain ⟨cur, hg, hs, ht⟩ := hb b rfl
  refine ⟨fun j hj => ?_, (Array.getElem?_eq_some_iff.1 hg).1⟩
  have hj' : j < l.length := by simpa using hj
  refine ⟨?_, by simp [World.frozen?, hg]⟩
  have h3 : (l.map (Value.int .i64))[j]? = some (.int .i64 l[j]) := by simp [hj']
  rw [← ht, List.getElem?_take_of_lt (by omega)] at h3
  simp only [World.cell?, hg, Nat.zero_add]
  simp only [Option.isSome_none, Bool.false_eq_true, if_false]
  rw [← Array.getElem?_toList, h3]
  simp [hj']
theorem heap_put {b n : Nat} {os : Array Obj} {cur : Array Value} {e : TypeId} {fr : Nat × Nat} {w : World} (d : Array Int) (hb : w.heap[b]? = some (.cells cur e fr)) :
    (grow (putRow (Value.int .i64) (Sort.ahead w n) b 0 d) os).heap[b]? = some (.cells (putCells (Value.int .i64) 0 d cur) e fr) := by
  have hg : b < w.heap.size := (Array.getElem?_eq_some_iff.1 hb).1
  rw [heap_grow_old _ _ (by simpa using hg)]
  simp [putRow, mapBlock, Sort.ahead, Array.getElem?_modify, hb, onCells]
theorem take_put (cur : Array Value) (l : List Int) (h : l.length ≤ cur.size) : (putCells (Value.int .i64) 0 l.toArray cur).toList.take l.length = l.map (Value.int .i64) := by
  apply List.ext_getElem?
  intro j
  by_cases hj : j < l.length
  · rw [List.getElem?_take_of_lt hj, Array.getElem?_toList]
    simp [putCells, hj, show j < cur.size by omega]
  · rw [List.getElem?_take_eq_none (by omega), List.getElem?_eq_none (by simp; omega)]
theorem St.put {s : Start} {m : Imm} {R : List Res} {w : World} {i E b cap n : Nat} {l l' : List Int} {os : Array Obj} (hS : St s m R w) (hi : R[i]? = some (rowI E (some b) cap l)) (hl : l'.length = l.length) :
    St s m (R.set i (rowI E (some b) cap l')) (Go.Sort.grow (putRow (Value.int .i64) (Sort.ahead w n) b 0 l'.toArray) os) := by
  obtain ⟨h0, h1, h2, _, hb⟩ := row_g (hS.at hi)
  obtain ⟨cur, hg, hs, ht⟩ := hb b rfl
  refine hS.turn (r' := rowI E (some b) cap l') hi rfl rfl rfl (by simp [Go.Sort.grow]) (fun k hk hne => ?_) ?_ (fun k hk => .inl hk)
  · rw [heap_grow_old _ _ (by simpa using hk)]
    have : b ≠ k := fun e => hne (by show some b = some k; rw [e])
    simp [putRow, mapBlock, Sort.ahead, Array.getElem?_modify, this]
  · refine row_mk (cur := putCells (Value.int .i64) 0 l'.toArray cur) (by simp) (heap_put _ hg) (by omega) h2 (by simp [putCells, hs]) ?_
    rw [Nat.mul_one]; exact take_put cur l' (by rw [hs]; omega)
/-- A contract of the shelf, as one that turns a row. -/
theorem does_put {P : Program} {f : FuncId} {m : Imm} {E b cap : Nat} {l l' : List Int} {v : Value} (hl : l'.length = l.length)
    (h : ∀ w, Holds (Value.int .i64) w b 0 l.toArray → b < w.heap.size → Calls P f #[.slice (some ⟨b, 0, none⟩) l.length cap] w fun e w' => e = .returned v ∧ ∃ n os, w' = grow (putRow (Value.int .i64) (Sort.ahead w n) b 0 l'.toArray) os) :
    Does P f [slI (some b) cap l] m [rowI E (some b) cap l] (fun m' R' v' => m' = m ∧ R' = [rowI E (some b) cap l'] ∧ v' = v) := fun w hp => by
  obtain ⟨h1, h2⟩ := holds_row (hp.at (i := 0) rfl)
  refine (h w h1 h2).mono fun e w' => ?_
  rintro ⟨rfl, n, os, rfl⟩
  exact ⟨v, m, _, rfl, ⟨rfl, rfl, rfl⟩, hp.start.put (i := 0) rfl hl⟩
end Go.Proofs.YtipmgkhjoekaaaaGreat.Fw

set_option linter.unusedVariables false
set_option linter.unusedSimpArgs false
namespace Go.Proofs.YtipmgkhjoekaaaaGreat.Fw
open Go Go.RowKit Go.Sort
/-! Contracts of the shelf that hand back a new row. -/
theorem row_own {w : World} {base E n : Nat} {v : Value} {xs : List Value} (h : w.ownsRow base E 1 v n xs) : ∃ g cap, v = .slice (rowA g) n cap ∧ (row g n cap E 1 xs).holds w ∧ (∀ k, g = some k → base ≤ k) ∧ (0 < n → ∃ b, g = some b) := by
  rcases h.2 with ⟨rfl, rfl⟩ | ⟨b, cap, cur, rfl, hb, hg, h1, h2, h3, h4⟩
  · exact ⟨none, 0, rfl, ⟨h.1, .inl ⟨rfl, rfl⟩⟩, (fun k e => by cases e), (fun e => by omega)⟩
  · exact ⟨some b, cap, rfl, row_mk h.1 hg h1 h2 h3 h4, (fun k e => by cases e; exact hb), (fun _ => ⟨b, rfl⟩)⟩
theorem cell_plain {m : Imm} {a : Addr} {v : Value} (h : m.cell? a = some v) : a = ⟨a.block, a.off, none⟩ := by
  unfold Imm.cell? at h
  split at h
  · split at h
    · cases h
    · rename_i hs
      cases a with
      | mk b o s => cases s with
        | none => rfl
        | some s => simp at hs
  · cases h
theorem boxed_of {m : Imm} {w : World} {b T c : Nat} {A : Option Addr} {l : List Int} (hp : Pre m [bx b T [.slice A l.length c]] w) (hI : Ints m A c l) :
    b < w.heap.size ∧ w.cell? ⟨b, 0, none⟩ = some (.slice A l.length c) ∧ (l = [] ∨ ∃ b' off, A = some ⟨b', off, none⟩ ∧ b' < w.heap.size ∧ ∀ j, j < l.length → w.cell? ⟨b', off + j, none⟩ = some (.int .i64 (l[j]?.getD 0))) := by
  have hh := hp.at (i := 0) rfl
  have hb : w.heap[b]? = some (.cells #[.slice A l.length c] T (0, 0)) := hh
  refine ⟨(Array.getElem?_eq_some_iff.1 hb).1, by simp [World.cell?, hb], ?_⟩
  cases l with
  | nil => exact .inl rfl
  | cons z r =>
    right
    obtain ⟨ad, rfl⟩ := hI.ad (j := 0) (by simp)
    have h0 := (Sl.getI hI rfl (j := 0) (z := z) rfl).1
    have ead : ad = ⟨ad.block, ad.off, none⟩ := cell_plain (by simpa [Addr.add] using h0)
    have hw := hp.inW.cell h0
    refine ⟨ad.block, ad.off, congrArg some ead, ?_, fun j hj => ?_⟩
    · rw [ead] at hw
      simp only [Nat.zero_mul, Addr.add, World.cell?] at hw
      simp only [if_true] at hw
      by_cases hlt : ad.block < w.heap.size
      · exact hlt
      · rw [Array.getElem?_eq_none (by omega)] at hw; simp at hw
    · have hz : (z :: r)[j]? = some (z :: r)[j] := List.getElem?_eq_getElem hj
      have h1 := hp.inW.cell (Sl.getI hI rfl hz).1
      rw [ead, add_plain, Nat.mul_one] at h1
      rw [h1, hz]; rfl
/-- What is handed back is a new row; what was handed over is let go. -/
theorem does_new {P : Program} {f : FuncId} {args : List Value} {m : Imm} {R : List Res} {E : Nat} {l : List Int}
    (h : ∀ w, Pre m R w → Calls P f args.toArray w fun e w' => ∃ v, e = .returned v ∧ w'.ownsRow w.heap.size E 1 v l.length (l.map (Value.int .i64)) ∧ Below w.heap.size w w') :
    Does P f args m R (fun m' R' v => m' = m ∧ ∃ g cap, (0 < l.length → ∃ b, g = some b) ∧ R' = [rowI E g cap l] ∧ v = slI g cap l) := fun w hp => by
  refine (h w hp).mono fun e w' => ?_
  rintro ⟨v, rfl, hown, hb⟩
  obtain ⟨g, cap, rfl, hh, hk, hg⟩ := row_own hown
  exact ⟨_, m, _, rfl, ⟨rfl, g, cap, hg, rfl, rfl⟩, (hp.start.sub (List.nil_sublist _)).allocR (Evolve.of_below hb) (rowI E g cap l) hh (fun k hk' => hk k hk')⟩
/-- slices.Compact: the row keeps what stays. -/
theorem compact_len (l : List Int) : (Lib.compact l).length ≤ l.length := by
  have h := List.length_filter_le (Lib.keeps l.toArray) (List.range l.length)
  simp only [Lib.compact, Lib.compactUpTo, List.length_map, List.length_range] at *
  exact h
theorem compact_nil : Lib.compact ([] : List Int) = [] := rfl
theorem does_compact {P : Program} {f : FuncId} {m : Imm} {E cap : Nat} {g : Option Nat} {l : List Int} (hg : 0 < l.length → ∃ b, g = some b)
    (h : ∀ b w, Holds (Value.int .i64) w b 0 l.toArray → b < w.heap.size → l.length ≤ cap → Calls P f #[.slice (some ⟨b, 0, none⟩) l.length cap] w fun e w' => e = .returned (.slice (some ⟨b, 0, none⟩) (Lib.compact l).length cap) ∧ ∃ q, w' = putRow (Value.int .i64) (Sort.ahead w q) b 0 (Lib.compact l ++ List.replicate (l.length - (Lib.compact l).length) 0).toArray)
    (h0 : ∀ a w, Calls P f #[.slice a 0 cap] w fun e w' => e = .returned (.slice a 0 cap) ∧ w' = w) :
    Does P f [slI g cap l] m [rowI E g cap l] (fun m' R' v => m' = m ∧ R' = [rowI E g cap (Lib.compact l)] ∧ v = slI g cap (Lib.compact l)) := fun w hp => by
  cases hl : l with
  | nil =>
    subst hl
    refine (h0 (rowA g) w).mono fun e w' => ?_
    rintro ⟨rfl, rfl⟩
    exact ⟨_, m, _, rfl, ⟨rfl, rfl, rfl⟩, hp.start⟩
  | cons z r =>
    rw [← hl]
    obtain ⟨b, rfl⟩ := hg (by rw [hl]; simp)
    have hh := hp.at (i := 0) rfl
    obtain ⟨h1, h2⟩ := holds_row hh
    have hc := (row_g hh).2.1
    refine (h b w h1 h2 hc).mono fun e w' => ?_
    rintro ⟨rfl, q, rfl⟩
    have hle := compact_len l
    have hS := hp.start.put (i := 0) (n := q) (os := #[]) (l' := Lib.compact l ++ List.replicate (l.length - (Lib.compact l).length) 0) rfl (by simp; omega)
    have hS' := hS.trimI (i := 0) rfl (Lib.compact l).length
    rw [grow_empty] at hS'
    refine ⟨_, m, _, rfl, ⟨rfl, ?_, rfl⟩, hS'⟩
    show [rowI E (some b) cap (List.take _ _)] = _
    rw [List.take_left]
end Go.Proofs.YtipmgkhjoekaaaaGreat.Fw

set_option linter.unusedVariables false
set_option linter.unusedSimpArgs false
namespace Go.Proofs.YtipmgkhjoekaaaaGreat.Fw
open Go Go.RowKit
/-! Lists of pairs, whatever the values. -/
def putL {α : Type} : List (Int × α) → Int → α → List (Int × α)
  | [], x, v => [(x, v)]
  | p :: r, x, v => if p.1 = x then (x, v) :: r else p :: putL r x v
def getL {α : Type} : List (Int × α) → Int → Option α
  | [], _ => none
  | p :: r, x => if p.1 = x then some p.2 else getL r x
def valL {α : Type} (f : α → Value) (l : List (Int × α)) : List (Int × Value) := l.map fun p => (p.1, f p.2)
theorem putA_val {α : Type} (f : α → Value) (l : List (Int × α)) (x : Int) (d : α) : putA (valL f l) x (f d) = valL f (putL l x d) := by
  induction l with
  | nil => rfl
  | cons p r ih =>
    simp only [valL, List.map_cons, putA, putL] at *
    split
    · simp
    · simp [ih]
theorem getA_val {α : Type} (f : α → Value) (l : List (Int × α)) (x : Int) : getA (valL f l) x = (getL l x).map f := by
  induction l with
  | nil => rfl
  | cons p r ih =>
    simp only [valL, List.map_cons, getA, getL] at *
    split
    · rfl
    · exact ih
theorem putL_new {α : Type} {l : List (Int × α)} {x : Int} {d : α} (h : getL l x = none) : putL l x d = l ++ [(x, d)] := by
  induction l with
  | nil => rfl
  | cons p r ih =>
    simp only [getL] at h
    split at h
    · cases h
    · rename_i hp; simp [putL, hp, ih h]
theorem getL_mem {α : Type} {l : List (Int × α)} {x : Int} : (getL l x).isSome = true ↔ x ∈ l.map (·.1) := by
  induction l with
  | nil => simp [getL]
  | cons p r ih =>
    simp only [getL, List.map_cons, List.mem_cons]
    by_cases h : p.1 = x
    · simp [h]
    · rw [if_neg h, ih]; simp [Ne.symm h]
/-! A map that stays. -/
def MapIn (m : Imm) (b : Nat) (l : List (Int × Value)) : Prop := ∃ es clock, m b = some (.map es clock) ∧ es.toList.map (fun e => (e.key, e.val)) = l.map (fun p => (Value.int .i64 p.1, p.2))
theorem MapIn.mono {m m' : Imm} {b : Nat} {l : List (Int × Value)} (h : MapIn m b l) (hm : m.le m') : MapIn m' b l := by
  obtain ⟨es, clock, h1, h2⟩ := h; exact ⟨es, clock, hm _ _ h1, h2⟩
section
variable {P : Program} {ops : Array Oper} {Q : Post} {rest : List Oper} {n : Nat} {s : Start} {m : Imm} {R : List Res} {L : Loc}
variable {d : Nat} {dst : Option Nat} {ty : TypeId} {pos : String} {af : Array Edge} {g : Option (Nat × Bool)} {x y : Operand}
theorem MapIn.pre {b : Nat} {l : List (Int × Value)} {w : World} (h : MapIn m b l) (hi : In m w) : (imap b l).holds w := by
  obtain ⟨es, clock, h1, h2⟩ := h; exact ⟨es, clock, hi _ _ h1, h2⟩
theorem r_lookupF {T K E b : Nat} {x' : Int} {l : List (Int × Value)} {v : Value} {z : Value} (hM : MapIn m b l) (hT : P.underlying T = some (.map K E)) (hK : P.underlying K = some (.int .i64)) (hz : zero? P E = some z) (hx : ev L x = some (.map (some b))) (hy : ev L y = some (.int .i64 x')) (hv : v = (getA l x').getD z) :
    Qt P ⟨dst, .lookup T x y false, ty, pos, af, g⟩ n m R L v := .of fun a w hF hp => by
  obtain ⟨es, clock, hb, he⟩ := hM.pre hp.inW
  have hk : MapKept.IsKey (.int .i64) (.int .i64 x') := by simp [MapKept.IsKey]
  rcases findNow_map x' es.toList l 0 he with ⟨h1, h2, _⟩ | ⟨j, u, e, h1, h2, h3, _⟩
  · simp [execOp, hF.eval hx, hF.eval hy, Instr.lookup, run_underlying hT, MapKept.run_getObj_map hb, MapKept.run_checkKey hK hk, MapKept.run_findKey hK h1, run_zero_of hz, Result.andThen, hv, h2]
  · simp [execOp, hF.eval hx, hF.eval hy, Instr.lookup, run_underlying hT, MapKept.run_getObj_map hb, MapKept.run_checkKey hK hk, MapKept.run_findKey hK h1, Result.andThen, hv, h2]
theorem r_lookup2F {T K E b : Nat} {x' : Int} {l : List (Int × Value)} {v : Value} {q : Bool} {z : Value} (hM : MapIn m b l) (hT : P.underlying T = some (.map K E)) (hK : P.underlying K = some (.int .i64)) (hz : zero? P E = some z) (hx : ev L x = some (.map (some b))) (hy : ev L y = some (.int .i64 x')) (hv : v = (getA l x').getD z) (hq : q = (getA l x').isSome) :
    Qt P ⟨dst, .lookup T x y true, ty, pos, af, g⟩ n m R L (.tuple #[v, .bool q]) := .of fun a w hF hp => by
  obtain ⟨es, clock, hb, he⟩ := hM.pre hp.inW
  have hk : MapKept.IsKey (.int .i64) (.int .i64 x') := by simp [MapKept.IsKey]
  rcases findNow_map x' es.toList l 0 he with ⟨h1, h2, _⟩ | ⟨j, u, e, h1, h2, h3, _⟩
  · simp [execOp, hF.eval hx, hF.eval hy, Instr.lookup, run_underlying hT, MapKept.run_getObj_map hb, MapKept.run_checkKey hK hk, MapKept.run_findKey hK h1, run_zero_of hz, Result.andThen, hv, hq, h2]
  · simp [execOp, hF.eval hx, hF.eval hy, Instr.lookup, run_underlying hT, MapKept.run_getObj_map hb, MapKept.run_checkKey hK hk, MapKept.run_findKey hK h1, Result.andThen, hv, hq, h2]
/-! Variables and maps of one's own, as memory that stays for the length of a quiet call. -/
/-- What lies at an address. -/
def Lies (m : Imm) (b : Nat) (l : List Value) : Prop := ∀ o v, l[o]? = some v → m.cell? ⟨b, o, none⟩ = some v
theorem Lies.mono {m m' : Imm} {b : Nat} {l : List Value} (h : Lies m b l) (hm : m.le m') : Lies m' b l := fun o v hv => hm.cell (h o v hv)
theorem Pre.putB {w : World} {i b T : Nat} {l : List Value} (h : Pre m R w) (hi : R[i]? = some (bx b T l)) : ∃ m', Pre m' (R.eraseIdx i) w ∧ m.le m' ∧ Lies m' b l := by
  obtain ⟨m', h1, h2, h3⟩ := h.putG hi
  have hb : w.heap[b]? = some (.cells l.toArray T (0, 0)) := h.at hi
  refine ⟨m', h1, h2, fun o v hv => ?_⟩
  have := h3 b rfl
  rw [hb] at this
  simp [Imm.cell?, this, hv]
theorem Pre.putM {w : World} {i b : Nat} {l : List (Int × Value)} (h : Pre m R w) (hi : R[i]? = some (imap b l)) : ∃ m', Pre m' (R.eraseIdx i) w ∧ m.le m' ∧ MapIn m' b l := by
  obtain ⟨m', h1, h2, h3⟩ := h.putG hi
  obtain ⟨es, clock, hb, he⟩ := h.at hi
  have := h3 b rfl
  rw [hb] at this
  exact ⟨m', h1, h2, es, clock, this, he⟩
/-! They stay for good. -/
theorem WL_freezeB {b T : Nat} {l : List Value} (i : Nat) (hi : R[i]? = some (bx b T l)) (hm : ∀ k, ¬ s.mods k) (next : ∀ m', m.le m' → Lies m' b l → WL P ops Q rest n s m' (R.eraseIdx i) L) : WL P ops Q rest n s m R L := fun a w hF hS => by
  have hb : w.heap[b]? = some (.cells l.toArray T (0, 0)) := hS.at hi
  obtain ⟨m', h1, h2, h3⟩ := hS.freezeG hi (fun k hk => (hS.own _ (List.mem_of_getElem? hi) k hk).resolve_right (hm k))
  refine next m' h1 (fun o v hv => ?_) a w hF h2
  have := h3 b rfl
  rw [hb] at this
  simp [Imm.cell?, this, hv]
theorem WL_freezeM {b : Nat} {l : List (Int × Value)} (i : Nat) (hi : R[i]? = some (imap b l)) (hm : ∀ k, ¬ s.mods k) (next : ∀ m', m.le m' → MapIn m' b l → WL P ops Q rest n s m' (R.eraseIdx i) L) : WL P ops Q rest n s m R L := fun a w hF hS => by
  obtain ⟨es, clock, hb, he⟩ := hS.at hi
  obtain ⟨m', h1, h2, h3⟩ := hS.freezeG hi (fun k hk => (hS.own _ (List.mem_of_getElem? hi) k hk).resolve_right (hm k))
  refine next m' h1 ?_ a w hF h2
  have := h3 b rfl
  rw [hb] at this
  exact ⟨es, clock, this, he⟩
/-! Calls of values with first arguments. -/
theorem run_callf {a : Act} {w : World} {f : FuncId} {c : Operand} {first cap : Array Value} {xs : List Operand} {tys : Array TypeId} {vs : List Value} {dst : Option Nat} {g : Option (Nat × Bool)} (hF : Fr n L a) (hc : ev L c = some (.func (.func f) first cap)) (hf : hasBody P f = true) (hxs : evs L xs = some vs) :
    (execOp a.eval ⟨dst, .call ⟨.value c, xs.toArray, tys⟩, ty, pos, af, g⟩).run P w = .ok (.enter f (first.toList ++ vs ++ cap.toList).toArray) w := by
  have h2 := hF.evals hxs
  have h1 := hF.eval hc
  simp only [execOp, resolve, Sem.run_bind, h1, Deferred.ofValue, Sem.run_pure, Result.andThen_ok, invoke]
  simp [h2, run_callFunc hf]
theorem S_doesf {f : FuncId} {c : Operand} {first cap : Array Value} {xs : List Operand} {tys : Array TypeId} {vs us : List Value} {R0 F : List Res} {Φ : Imm → List Res → Value → Prop} (hc : ev L c = some (.func (.func f) first cap)) (hR : R = R0 ++ F) (hxs : evs L xs = some vs) (hu : first.toList ++ vs ++ cap.toList = us) (hq : Does P f us m R0 Φ) (hf : hasBody P f = true) (hd : Nat.blt d n = true)
    (next : ∀ m' R' v, m.le m' → Φ m' R' v → WL P ops Q rest n s m' (R' ++ F) ((d, v) :: L)) : WL P ops Q (⟨some d, .call ⟨.value c, xs.toArray, tys⟩, ty, pos, af, none⟩ :: rest) n s m R L := fun a w hF hS =>
  wpList_go (wanted_none rfl _) (by
    unfold Oper.wp
    rw [run_callf hF hc hf hxs, Oper.upon_enter]
    subst hR hu
    refine (hq w (hS.toPre.sub (List.sublist_append_left _ _))).mono fun e w' h => ?_
    obtain ⟨v, m', R', he, hΦ, hS'⟩ := h
    subst he
    exact next m' R' v (hS'.ext.le hS.inW) hΦ _ _ (hF.put hd v) (hS.call hS'))
theorem r_callf {f : FuncId} {c : Operand} {first cap : Array Value} {xs : List Operand} {tys : Array TypeId} {vs us : List Value} {v : Value} (hc : ev L c = some (.func (.func f) first cap)) (hf : hasBody P f = true) (hxs : evs L xs = some vs) (hu : first.toList ++ vs ++ cap.toList = us) (hq : ∀ w, Pre m R w → ∃ m', In m' w ∧ Quiet P f us m' v) : Qt P ⟨dst, .call ⟨.value c, xs.toArray, tys⟩, ty, pos, af, g⟩ n m R L v := fun a w hF hp => by
  unfold Oper.quietAt
  rw [run_callf hF hc hf hxs]
  subst hu
  obtain ⟨m', hi, hq⟩ := hq w hp
  exact ⟨rfl, hq w hi⟩
/-! A loop that is gone through so many times. -/
theorem C_unroll {c : Code} (k : Nat) (h : CW P c (Exit.then (Code.rounds P c Q k) Q) n s m R L) : CW P (.loop c) Q n s m R L := fun a w hF hS => wp_loop_rounds (k + 1) (by rw [rounds_succ]; exact h a w hF hS)
theorem NX_unroll {c : Code} (k : Nat) {L' : Loc} (ks : List Nat) (e : sel L ks = L') (h : CW P c (Exit.then (Code.rounds P c Q k) Q) n s m R L') : NX (Exit.then (Code.rounds P c Q (k + 1)) Q) n s m R L := fun a w hF hS => by
  show Code.rounds P c Q (k + 1) a w
  rw [rounds_succ]
  exact h a w (e ▸ hF.keep ks) hS
theorem Lies.part {b : Nat} {l vs : List Value} (h : Lies m b l) (off k : Nat) (hv : vs = (l.drop off).take k) : ∀ j v, vs[j]? = some v → m.cell? ((⟨b, off, none⟩ : Addr).add j) = some v := by
  intro j v hj
  rw [add_plain]
  refine h _ _ ?_
  subst hv
  rw [List.getElem?_take] at hj
  split at hj
  · rwa [List.getElem?_drop] at hj
  · cases hj
theorem r_fieldk {S f off k : Nat} {cs vs : List Value} (hx : ev L x = some (.agg cs.toArray)) (hf : fld? P S f = some (off, k)) (hT : ∀ fs y, P.underlying S = some (.struct fs) → fs[f]? = some y → agg? P y.type = some true) (hv : vs = (cs.drop off).take k) (hk : vs.length = k) (hk0 : 0 < k) : Qt P ⟨dst, .field S x f, ty, pos, af, g⟩ n m R L (.agg vs.toArray) := .of fun a w hF _ => by
  unfold fld? at hf
  split at hf
  · rename_i fs hu
    cases hff : fs[f]? with
    | none => rw [hff] at hf; cases hf
    | some y =>
      rw [hff] at hf
      simp only [Option.bind_some] at hf
      cases hs : sz? P y.type with
      | none => rw [hs] at hf; cases hf
      | some k' =>
        rw [hs] at hf
        simp only [Option.map_some, Option.some.injEq, Prod.mk.injEq] at hf
        obtain ⟨rfl, rfl⟩ := hf
        have hle : y.offset + k' ≤ cs.length := by
          rw [hv, List.length_take, List.length_drop] at hk
          omega
        simp [execOp, hF.eval hx, Instr.field, run_underlying hu, hff, asAgg, part, run_isAgg_of (hT fs y hu hff), run_sizeOf_of hs, hle, hv, Result.andThen]
  · cases hf
/-! What waits for what wasn't done isn't done either. -/
theorem yielded_u {a : Act} {j d : Nat} (hF : Fr n L a) (hj : (ops[j]?).bind (·.dst) = some d) (hl : lk L d = some undef) : yielded ops a.tmps j = none := by
  unfold yielded
  rw [hj]
  simp only [Option.bind_some, hF.get d _ hl]
  rfl
theorem WL_passu {d' : Nat} {op : Op} {ty : TypeId} {pos : String} {af : Array Edge} {j d : Nat} {b : Bool} (hj : (ops[j]?).bind (·.dst) = some d) (hl : lk L d = some undef)
    (hd : Nat.blt d' n = true) (h : WL P ops Q rest n s m R ((d', undef) :: L)) : WL P ops Q (⟨some d', op, ty, pos, af, some (j, b)⟩ :: rest) n s m R L := fun a w hF hS => by
  unfold wpList
  rw [if_neg (by simp [Region.wanted, yielded_u hF hj hl])]
  exact h _ _ (hF.put hd undef) hS
theorem D_passu {m0 : Imm} {R0 : List Res} {listed : Array Bool} {ord : List (Nat × Bool)} {i d' : Nat} {op : Op} {ty : TypeId} {pos : String} {af : Array Edge} {j t : Nat} {b : Bool} (hi : ops[i]? = some ⟨some d', op, ty, pos, af, some (j, b)⟩) (hj : (ops[j]?).bind (·.dst) = some t) (hl : lk L t = some undef) (hd : Nat.blt d' n = true)
    (next : DL P ops Q m0 R0 (listed.setIfInBounds i true) ord n s m R ((d', undef) :: L)) : DL P ops Q m0 R0 listed ((i, true) :: ord) n s m R L :=
  D_yields hi (fun a w hF _ => .inr ⟨by simp [Region.wanted, yielded_u hF hj hl], rfl⟩) (fun a hF => hF.put hd undef) next
/-- An entry of a map that is made at once. -/
theorem S_insert {T K E b : Nat} {x' : Int} {l : List (Int × Value)} {v : Value} {z : Operand} (i : Nat) (hT : P.underlying T = some (.map K E)) (hK : P.underlying K = some (.int .i64)) (hx : ev L x = some (.map (some b))) (hy : ev L y = some (.int .i64 x')) (hz : ev L z = some v) (hi : R[i]? = some (imap b l))
    (next : WL P ops Q rest n s m (R.set i (imap b (putA l x' v))) L) : WL P ops Q (⟨none, .insert T x y z, ty, pos, af, none⟩ :: rest) n s m R L := fun a w hF hS =>
  S_mapUpdate (ty := ty) (pos := pos) (af := af) i hT hK hx hy hz hi next a w hF hS
theorem RX_front {r : Res} {R' : List Res} (i : Nat) (hi : R[i]? = some r) (hR : R.eraseIdx i = R') (next : RX Q n s m (r :: R') L) : RX Q n s m R L := fun a w hF hS => next a w hF (hS.perm (hR ▸ front_perm hi))
theorem sub_one {r : Res} (i : Nat) (hi : R[i]? = some r) : [r].Sublist R := List.singleton_sublist.2 (List.mem_of_getElem? hi)
theorem sub_two {r r' : Res} (i j : Nat) (hi : R[i]? = some r) (hj : (R.drop (i + 1))[j]? = some r') : [r, r'].Sublist R := by
  have h1 := List.take_append_drop i R
  have hlt := (List.getElem?_eq_some_iff.1 hi).1
  have h2 : R.drop i = r :: R.drop (i + 1) := by
    rw [List.drop_eq_getElem_cons hlt, (List.getElem?_eq_some_iff.1 hi).2]
  rw [← h1, h2]
  exact ((sub_one j hj).cons_cons r).trans (List.sublist_append_right _ _)
end
end Go.Proofs.YtipmgkhjoekaaaaGreat.Fw

set_option linter.unusedVariables false
set_option linter.unusedSimpArgs false
namespace Go.Proofs.YtipmgkhjoekaaaaGreat.Fw
open Go Go.RowKit Go.Sort
theorem val_getD {α : Type} (f : α → Value) (l : List (Int × α)) (x : Int) (d : α) : f ((getL l x).getD d) = (getA (valL f l) x).getD (f d) := by
  rw [getA_val]; cases getL l x <;> rfl
theorem val_is {α : Type} (f : α → Value) (l : List (Int × α)) (x : Int) : (getL l x).isSome = (getA (valL f l) x).isSome := by
  rw [getA_val]; cases getL l x <;> rfl
section
variable {P : Program} {ops : Array Oper} {Q : Post} {rest : List Oper} {n : Nat} {s : Start} {m : Imm} {R : List Res} {L : Loc}
variable {d : Nat} {dst : Option Nat} {ty : TypeId} {pos : String} {af : Array Edge} {g : Option (Nat × Bool)} {x y : Operand}
theorem S_mapUpdateV {α : Type} {f : α → Value} {T K E b : Nat} {x' : Int} {l : List (Int × α)} (v : α) {z : Operand} (i : Nat) (hT : P.underlying T = some (.map K E)) (hK : P.underlying K = some (.int .i64)) (hx : ev L x = some (.map (some b))) (hy : ev L y = some (.int .i64 x')) (hz : ev L z = some (f v)) (hi : R[i]? = some (imap b (valL f l)))
    (next : WL P ops Q rest n s m (R.set i (imap b (valL f (putL l x' v)))) L) : WL P ops Q (⟨none, .mapUpdate T x y z, ty, pos, af, none⟩ :: rest) n s m R L :=
  S_mapUpdate i hT hK hx hy hz hi (by rw [putA_val]; exact next)
/-- A quiet call whose callee reads a map of one's own. -/
theorem r_quietM {f : FuncId} {xs : List Operand} {tys : Array TypeId} {vs : List Value} {v : Value} {b : Nat} {l : List (Int × Value)} (i : Nat) (hi : R[i]? = some (imap b l))
    (hq : ∀ m', m.le m' → MapIn m' b l → Quiet P f vs m' v) (hf : hasBody P f = true) (hxs : evs L xs = some vs) : Qt P ⟨dst, .call ⟨.value (.func f), xs.toArray, tys⟩, ty, pos, af, g⟩ n m R L v :=
  r_quietx (fun w hp => by obtain ⟨m', p, le, h⟩ := hp.putM hi; exact ⟨m', p.inW, hq m' le h⟩) hf hxs
theorem k_row0 {g' : Option Nat} {n' cap e sz : Nat} {xs : List Value} (i : Nat) (hi : R[i]? = some (row g' n' cap e sz xs)) : ∀ w, St s m R w → (g' = none → cap = 0) := fun w hS hg => ((row_g (hS.at hi)).2.2.2.1 hg).2
end
/-- A contract of the shelf that turns a row, a nil one too. -/
theorem does_putO {P : Program} {f : FuncId} {m : Imm} {E cap : Nat} {g : Option Nat} {l : List Int} (T : List Int → List Int) (h0 : T [] = []) (hT : (T l).length = l.length) (hg : 0 < l.length → ∃ b, g = some b)
    (h : ∀ b w, Holds (Value.int .i64) w b 0 l.toArray → b < w.heap.size → Calls P f #[.slice (some ⟨b, 0, none⟩) l.length cap] w fun e w' => e = .returned (.tuple #[]) ∧ ∃ n os, w' = grow (putRow (Value.int .i64) (Sort.ahead w n) b 0 (T l).toArray) os)
    (hn : ∀ a w, Calls P f #[.slice a 0 cap] w fun e w' => e = .returned (.tuple #[]) ∧ w' = w) :
    Does P f [slI g cap l] m [rowI E g cap l] (fun m' R' v => m' = m ∧ R' = [rowI E g cap (T l)] ∧ v = .tuple #[]) := by
  cases hl : l with
  | nil =>
    intro w hp
    refine (hn (rowA g) w).mono fun e w' => ?_
    rintro ⟨rfl, rfl⟩
    exact ⟨_, m, _, rfl, ⟨rfl, by rw [h0], rfl⟩, hp.start⟩
  | cons z r =>
    rw [← hl]
    obtain ⟨b, rfl⟩ := hg (by rw [hl]; simp)
    exact does_put hT (h b)
end Go.Proofs.YtipmgkhjoekaaaaGreat.Fw

set_option linter.unusedVariables false
namespace Go.Proofs.YtipmgkhjoekaaaaGreat
open Go Go.Proofs.YtipmgkhjoekaaaaGreat.Fw
/-! Ways, chains, and dominators. -/
/-- From one to the other by steps of E, all along P. -/
inductive RA (E : Int → Int → Prop) (P : Int → Prop) : Int → Int → Prop
  | refl {a : Int} : P a → RA E P a a
  | step {a b c : Int} : RA E P a b → E b c → P c → RA E P a c
section
variable {E : Int → Int → Prop} {P P' : Int → Prop}
theorem RA.mono (h : ∀ v, P v → P' v) {a b : Int} (r : RA E P a b) : RA E P' a b := by
  induction r with
  | refl hp => exact .refl (h _ hp)
  | step _ he hp ih => exact .step ih he (h _ hp)
theorem RA.trans {a b c : Int} (r : RA E P a b) (s : RA E P b c) : RA E P a c := by
  induction s with
  | refl _ => exact r
  | step _ he hp ih => exact .step ih he hp
theorem RA.last {a b : Int} (r : RA E P a b) : P b := by cases r <;> assumption
theorem RA.first {a b : Int} (r : RA E P a b) : P a := by induction r <;> assumption
end
/-- The chain from one up to the root. -/
inductive Ch (τ : Int → Int) (root : Int) : Int → Int → Prop
  | self {a : Int} : Ch τ root a a
  | up {a w : Int} : a ≠ root → Ch τ root (τ a) w → Ch τ root a w
section
variable {τ τ' : Int → Int} {root : Int}
theorem Ch.inv {a w : Int} (h : Ch τ root a w) : w = a ∨ (a ≠ root ∧ Ch τ root (τ a) w) := by
  cases h with
  | self => exact .inl rfl
  | up h1 h2 => exact .inr ⟨h1, h2⟩
theorem Ch.trans {a b c : Int} (h : Ch τ root a b) (h' : Ch τ root b c) : Ch τ root a c := by
  induction h with
  | self => exact h'
  | up hn _ ih => exact .up hn (ih h')
theorem Ch.total {a b c : Int} (h : Ch τ root a b) (h' : Ch τ root a c) : Ch τ root b c ∨ Ch τ root c b := by
  induction h with
  | self => exact .inl h'
  | up hn hb ih =>
    rcases h'.inv with rfl | ⟨_, h'⟩
    · exact .inr (.up hn hb)
    · exact ih h'
theorem Ch.of_root {w : Int} (h : Ch τ root root w) : w = root := by
  rcases h.inv with rfl | ⟨h, _⟩
  · rfl
  · exact absurd rfl h
theorem Ch.congr {a w x : Int} (hx : ∀ y, y ≠ x → τ' y = τ y) (h : Ch τ root a w) (hn : ¬ Ch τ root a x) : Ch τ' root a w := by
  induction h with
  | self => exact .self
  | @up a w hr h ih =>
    have ha : a ≠ x := by rintro rfl; exact hn .self
    refine .up hr ?_
    rw [hx a ha]
    exact ih (fun h' => hn (.up hr h'))
theorem Ch.congr' {a w x : Int} (hx : ∀ y, y ≠ x → τ' y = τ y) (h : Ch τ' root a w) (hn : ¬ Ch τ root a x) : Ch τ root a w := by
  induction h with
  | self => exact .self
  | @up a w hr h ih =>
    have ha : a ≠ x := by rintro rfl; exact hn .self
    rw [hx a ha] at ih
    exact .up hr (ih (fun h' => hn (.up hr h')))
end
/-- An order: the root first, each other one behind one that leads to it; whatever one leads to is in it. -/
structure Ord (E : Int → Int → Prop) (root : Int) (O : Int → Prop) (π : Int → Int) : Prop where
  r0 : O root
  p0 : π root = 0
  inj : ∀ a b, O a → O b → π a = π b → a = b
  nn : ∀ a, O a → 0 ≤ π a
  pre : ∀ a, O a → a ≠ root → ∃ p, O p ∧ E p a ∧ π p < π a
  out : ∀ a b, O a → E a b → O b
section
variable {E : Int → Int → Prop} {root : Int} {O : Int → Prop} {π : Int → Int} {k r : Int} {τ : Int → Int}
/-- One of the first k. -/
def Sk (O : Int → Prop) (π : Int → Int) (k : Int) (y : Int) : Prop := O y ∧ π y < k
/-- The chain of m is what the chains of all from which one comes to x have in common. -/
def Mt (E : Int → Int → Prop) (root : Int) (S : Int → Prop) (τ : Int → Int) (x m : Int) : Prop := (∃ p, S p ∧ E p x) ∧ S m ∧ ∀ w, Ch τ root m w ↔ ∀ p, S p → E p x → Ch τ root p w
structure Inv (E : Int → Int → Prop) (root : Int) (O : Int → Prop) (π : Int → Int) (k r : Int) (τ : Int → Int) : Prop where
  kr : O r ∧ π r + 1 = k
  up : ∀ y, Sk O π k y → y ≠ root → Sk O π k (τ y) ∧ π (τ y) < π y
  P : ∀ y, Sk O π k y → y ≠ root → RA E (fun v => v = τ y ∨ ¬ Ch τ root (τ y) v) (τ y) y
  Q : ∀ y, Sk O π k y → ∀ w, ¬ Ch τ root y w → RA E (· ≠ w) root y
  J : ∀ z, Sk O π k z → z ≠ root → ∃ m, Mt E root (Sk O π k) τ z m ∧ (m = τ z ∨ (¬ Ch τ root r z ∧ ∀ w, Ch τ root m w ↔ Ch τ root r w ∧ Ch τ root z w))
theorem Ord.low (h : Ord E root O π) {a : Int} (ha : O a) (hr : a ≠ root) : 0 < π a := by
  have h1 := h.nn a ha
  have h2 : π a ≠ 0 := fun e => hr (h.inj _ _ ha h.r0 (by rw [e, h.p0]))
  omega
theorem Inv.sr (h : Inv E root O π k r τ) : Sk O π k r := ⟨h.kr.1, by have := h.kr.2; omega⟩
theorem Inv.chS (h : Inv E root O π k r τ) {a w : Int} (c : Ch τ root a w) : Sk O π k a → Sk O π k w ∧ π w ≤ π a := by
  induction c with
  | self => intro ha; exact ⟨ha, Int.le_refl _⟩
  | up hr _ ih => intro ha; have h1 := h.up _ ha hr; have h2 := ih h1.1; exact ⟨h2.1, by omega⟩
theorem Inv.anti (ho : Ord E root O π) (h : Inv E root O π k r τ) {a w : Int} (ha : Sk O π k a) (c : Ch τ root a w) (c' : Ch τ root w a) : w = a := by
  have h1 := h.chS c ha
  have h2 := h.chS c' h1.1
  exact ho.inj _ _ h1.1.1 ha.1 (by omega)
theorem Inv.ne (h : Inv E root O π k r τ) {a w : Int} (ha : Sk O π k a) (hr : a ≠ root) (c : Ch τ root (τ a) w) : w ≠ a := by
  have h1 := h.up a ha hr
  have h2 := h.chS c h1.1
  rintro rfl; omega
theorem Inv.path (h : Inv E root O π k r τ) {a w : Int} (c : Ch τ root a w) : Sk O π k a → RA E (fun v => v = w ∨ ¬ Ch τ root w v) w a := by
  induction c with
  | self => intro _; exact .refl (.inl rfl)
  | @up a w hr c ih =>
    intro ha
    have h1 := ih (h.up _ ha hr).1
    have h2 := h.P a ha hr
    refine h1.trans (h2.mono fun v hv => ?_)
    rcases hv with rfl | hv
    · exact h1.last
    · exact .inr fun hc => hv (c.trans hc)
theorem Inv.nca (ho : Ord E root O π) (h : Inv E root O π k r τ) : ∀ (f : Nat) (a b : Int), Sk O π k a → Sk O π k b → π a + π b ≤ f → ∃ c, Sk O π k c ∧ ∀ w, Ch τ root c w ↔ Ch τ root a w ∧ Ch τ root b w := by
  intro f
  induction f with
  | zero =>
    intro a b ha hb hf
    have h1 := ho.nn a ha.1; have h2 := ho.nn b hb.1
    have e : a = b := ho.inj _ _ ha.1 hb.1 (by omega)
    subst e; exact ⟨a, ha, fun w => by simp⟩
  | succ f ih =>
    intro a b ha hb hf
    by_cases e : a = b
    · subst e; exact ⟨a, ha, fun w => by simp⟩
    have hne : π a ≠ π b := fun he => e (ho.inj _ _ ha.1 hb.1 he)
    have key : ∀ a b, Sk O π k a → Sk O π k b → π a + π b ≤ (f : Int) + 1 → π b < π a → ∃ c, Sk O π k c ∧ ∀ w, Ch τ root c w ↔ Ch τ root a w ∧ Ch τ root b w := by
      intro a b ha hb hf hlt
      have har : a ≠ root := by rintro rfl; have := ho.p0; have := ho.nn b hb.1; omega
      have hu := h.up a ha har
      obtain ⟨c, hc, hw⟩ := ih (τ a) b hu.1 hb (by omega)
      refine ⟨c, hc, fun w => (hw w).trans ⟨fun ⟨x, y⟩ => ⟨.up har x, y⟩, fun ⟨x, y⟩ => ⟨?_, y⟩⟩⟩
      rcases x.inv with rfl | ⟨_, x⟩
      · have := (h.chS y hb).2; omega
      · exact x
    rcases Int.lt_or_gt_of_ne hne with hlt | hlt
    · obtain ⟨c, hc, hw⟩ := key b a hb ha (by push_cast at hf; omega) hlt
      exact ⟨c, hc, fun w => (hw w).trans And.comm⟩
    · exact key a b ha hb (by push_cast at hf; omega) hlt
/-! An entry that was there turns. -/
section turn
variable {x d : Int} {τ' : Int → Int}
theorem Inv.chT (ho : Ord E root O π) (h : Inv E root O π k r τ) (hx : Sk O π k x) (hxr : x ≠ root) (hnr : ¬ Ch τ root r x) (hd : ∀ w, Ch τ root d w ↔ Ch τ root r w ∧ Ch τ root x w) (ht : ∀ y, y ≠ x → τ' y = τ y) (htx : τ' x = d) :
    ∀ a w, Sk O π k a → (Ch τ' root a w ↔ Ch τ root a w ∧ (Ch τ root a x → Ch τ root w x ∨ Ch τ root d w)) := by
  have hdc := (hd d).1 .self
  have hdx : ¬ Ch τ root d x := fun hc => hnr (hdc.1.trans hc)
  intro a w ha
  by_cases hax : Ch τ root a x
  · have key : Ch τ' root a w ↔ (Ch τ root a w ∧ Ch τ root w x) ∨ Ch τ root d w := by
      induction hax with
      | self =>
        constructor
        · intro hc
          rcases hc.inv with rfl | ⟨_, hc⟩
          · exact .inl ⟨.self, .self⟩
          · rw [htx] at hc; exact .inr (hc.congr' ht hdx)
        · rintro (⟨h1, h2⟩ | hc)
          · rw [h.anti ho hx h1 h2]; exact .self
          · refine .up hxr ?_
            rw [htx]; exact hc.congr ht hdx
      | @up a x hr hc ih =>
        have hax : a ≠ x := by rintro rfl; exact h.ne ha hr hc rfl
        have ih := ih hx hxr hnr hd ht htx hdc hdx (h.up _ ha hr).1
        constructor
        · intro hc'
          rcases hc'.inv with rfl | ⟨_, hc'⟩
          · exact .inl ⟨.self, .up hr hc⟩
          · rw [ht a hax] at hc'
            rcases ih.1 hc' with ⟨h1, h2⟩ | h1
            · exact .inl ⟨.up hr h1, h2⟩
            · exact .inr h1
        · intro hc'
          rcases hc' with ⟨h1, h2⟩ | h1
          · rcases h1.inv with rfl | ⟨_, h1⟩
            · exact .self
            · refine .up hr ?_
              rw [ht a hax]; exact ih.2 (.inl ⟨h1, h2⟩)
          · refine .up hr ?_
            rw [ht a hax]; exact ih.2 (.inr h1)
    rw [key]
    constructor
    · rintro (⟨h1, h2⟩ | h1)
      · exact ⟨h1, fun _ => .inl h2⟩
      · exact ⟨hax.trans (hdc.2.trans h1), fun _ => .inr h1⟩
    · rintro ⟨h1, h2⟩
      rcases h2 hax with h2 | h2
      · exact .inl ⟨h1, h2⟩
      · exact .inr h2
  · constructor
    · intro hc; exact ⟨hc.congr' ht hax, fun h' => absurd h' hax⟩
    · intro hc; exact hc.1.congr ht hax
theorem Inv.turn (ho : Ord E root O π) (h : Inv E root O π k r τ) (hx : Sk O π k x) (hxr : x ≠ root) (hm : Mt E root (Sk O π k) τ x d) (hne : d ≠ τ x) (ht : ∀ y, y ≠ x → τ' y = τ y) (htx : τ' x = d) : Inv E root O π k r τ' ∧ π d < π (τ x) := by
  obtain ⟨m, hm', hJ⟩ := h.J x hx hxr
  have hmd : m = d := by
    have h1 : Ch τ root m d := (hm'.2.2 d).2 ((hm.2.2 d).1 .self)
    have h2 : Ch τ root d m := (hm.2.2 m).2 ((hm'.2.2 m).1 .self)
    exact (h.anti ho hm'.2.1 h1 h2).symm
  subst hmd
  obtain ⟨hnr, hd⟩ : ¬ Ch τ root r x ∧ ∀ w, Ch τ root m w ↔ Ch τ root r w ∧ Ch τ root x w := by
    rcases hJ with e | hJ
    · exact absurd e hne
    · exact hJ
  have F := h.chT ho hx hxr hnr hd ht htx
  have hdc := (hd m).1 .self
  have hdx : ¬ Ch τ root m x := fun hc => hnr (hdc.1.trans hc)
  have hmS := hm.2.1
  have hux := h.up x hx hxr
  have hxm : Ch τ root (τ x) m := by
    rcases hdc.2.inv with e | ⟨_, e⟩
    · exact absurd (e ▸ hdc.1) hnr
    · exact e
  have hlt : π m < π (τ x) := by
    have h1 := h.chS hxm hux.1
    have h2 : π m ≠ π (τ x) := fun e => hne (ho.inj _ _ hmS.1 hux.1.1 e)
    omega
  refine ⟨⟨h.kr, fun y hy hr => ?_, fun y hy hr => ?_, fun y hy w hw => ?_, fun z hz hzr => ?_⟩, hlt⟩
  · by_cases e : y = x
    · subst e; rw [htx]; exact ⟨hmS, by have := hux.2; omega⟩
    · rw [ht y e]; exact h.up y hy hr
  · by_cases e : y = x
    · subst e; rw [htx]
      exact (h.path hdc.2 hy).mono fun v hv => hv.imp id fun hv hc => hv ((F m v hmS).1 hc).1
    · rw [ht y e]
      exact (h.P y hy hr).mono fun v hv => hv.imp id fun hv hc => hv ((F _ v (h.up y hy hr).1).1 hc).1
  · by_cases hyw : Ch τ root y w
    · have hnot : ¬ (Ch τ root y x → Ch τ root w x ∨ Ch τ root m w) := fun hc => hw ((F y w hy).2 ⟨hyw, hc⟩)
      have hyx : Ch τ root y x := Classical.byContradiction fun hc => hnot fun h' => absurd h' hc
      have hwx : ¬ Ch τ root w x := fun hc => hnot fun _ => .inl hc
      have hmw : ¬ Ch τ root m w := fun hc => hnot fun _ => .inr hc
      have hxw : Ch τ root x w := (hyw.total hyx).resolve_left hwx
      have hwne : x ≠ w := by rintro rfl; exact hwx .self
      obtain ⟨p, hp⟩ : ∃ p, ¬ (Sk O π k p → E p x → Ch τ root p w) := Classical.byContradiction fun hc => hmw ((hm.2.2 w).2 fun p hp hE => Classical.byContradiction fun h' => hc ⟨p, fun h'' => h' (h'' hp hE)⟩)
      have hpS : Sk O π k p := Classical.byContradiction fun hc => hp fun h' => absurd h' hc
      have hpE : E p x := Classical.byContradiction fun hc => hp fun _ h' => absurd h' hc
      have hpw : ¬ Ch τ root p w := fun hc => hp fun _ _ => hc
      refine ((h.Q p hpS w hpw).step hpE hwne).trans ((h.path hyx hy).mono fun v hv => ?_)
      rcases hv with rfl | hv
      · exact hwne
      · rintro rfl; exact hv hxw
    · exact h.Q y hy w hyw
  · have hR : ∀ w, Ch τ' root r w ↔ Ch τ root r w := fun w => ⟨fun hc => ((F r w h.sr).1 hc).1, fun hc => (F r w h.sr).2 ⟨hc, fun h' => absurd h' hnr⟩⟩
    have hM : ∀ w, Ch τ' root m w ↔ Ch τ root m w := fun w => ⟨fun hc => ((F m w hmS).1 hc).1, fun hc => (F m w hmS).2 ⟨hc, fun h' => absurd h' hdx⟩⟩
    by_cases e : z = x
    · subst e
      refine ⟨m, ⟨hm.1, hmS, fun w => ?_⟩, .inl htx.symm⟩
      rw [hM]
      exact ⟨fun hc p hp hE => (F p w hp).2 ⟨(hm.2.2 w).1 hc p hp hE, fun _ => .inr hc⟩, fun hc => (hm.2.2 w).2 fun p hp hE => ((F p w hp).1 (hc p hp hE)).1⟩
    · obtain ⟨n, hn, hJn⟩ := h.J z hz hzr
      have huz := h.up z hz hzr
      rcases hJn with rfl | ⟨hnz, hN⟩
      · by_cases hall : ∀ p, Sk O π k p → E p z → Ch τ' root p (τ z)
        · refine ⟨τ z, ⟨hn.1, huz.1, fun w => ⟨fun hc p hp hE => (hall p hp hE).trans hc, fun hc => (F _ w huz.1).2 ⟨(hn.2.2 w).2 fun p hp hE => ((F p w hp).1 (hc p hp hE)).1, fun hzx => ?_⟩⟩⟩, .inl (ht z e).symm⟩
          obtain ⟨p, hp, hE⟩ := hn.1
          exact ((F p w hp).1 (hc p hp hE)).2 (((hn.2.2 _).1 .self p hp hE).trans hzx)
        · obtain ⟨p, hpn⟩ : ∃ p, ¬ (Sk O π k p → E p z → Ch τ' root p (τ z)) := Classical.byContradiction fun hc => hall fun p hp hE => Classical.byContradiction fun h' => hc ⟨p, fun h'' => h' (h'' hp hE)⟩
          have hpS : Sk O π k p := Classical.byContradiction fun hc => hpn fun h' => absurd h' hc
          have hpE : E p z := Classical.byContradiction fun hc => hpn fun _ h' => absurd h' hc
          have hpz : ¬ Ch τ' root p (τ z) := fun hc => hpn fun _ _ => hc
          have hpz0 : Ch τ root p (τ z) := (hn.2.2 _).1 .self p hpS hpE
          have hnot : ¬ (Ch τ root p x → Ch τ root (τ z) x ∨ Ch τ root m (τ z)) := fun hc => hpz ((F p _ hpS).2 ⟨hpz0, hc⟩)
          have hpx : Ch τ root p x := Classical.byContradiction fun hc => hnot fun h' => absurd h' hc
          have hzx : ¬ Ch τ root (τ z) x := fun hc => hnot fun _ => .inl hc
          have hmz : ¬ Ch τ root m (τ z) := fun hc => hnot fun _ => .inr hc
          have hxz : Ch τ root x (τ z) := (hpz0.total hpx).resolve_left hzx
          have hzm : Ch τ root (τ z) m := (hxz.total hdc.2).resolve_right hmz
          refine ⟨m, ⟨hn.1, hmS, fun w => ?_⟩, .inr ⟨fun hc => ?_, fun w => ?_⟩⟩
          · rw [hM]
            refine ⟨fun hc q hq hE => (F q w hq).2 ⟨(hn.2.2 w).1 (hzm.trans hc) q hq hE, fun _ => .inr hc⟩, fun hc => ?_⟩
            have h1 : Ch τ root (τ z) w := (hn.2.2 w).2 fun q hq hE => ((F q w hq).1 (hc q hq hE)).1
            rcases ((F p w hpS).1 (hc p hpS hpE)).2 hpx with h2 | h2
            · exact absurd (h1.trans h2) hzx
            · exact h2
          · rw [hR] at hc
            exact hmz ((hd _).2 ⟨hc.trans (.up hzr .self), hxz⟩)
          · rw [hM, hR, F z w hz]
            refine ⟨fun hc => ⟨hdc.1.trans hc, .up hzr (hzm.trans hc), fun _ => .inr hc⟩, fun ⟨h1, h2, _⟩ => ?_⟩
            rcases h2.inv with rfl | ⟨_, h2⟩
            · exact absurd ((hd _).2 ⟨h1.trans (.up hzr .self), hxz⟩) hmz
            · exact (hd w).2 ⟨h1, hxz.trans h2⟩
      · have hnS := hn.2.1
        have hrn := ((hN n).1 .self)
        have hnx : ¬ Ch τ root n x := fun hc => hnr (hrn.1.trans hc)
        have hNn : ∀ w, Ch τ' root n w ↔ Ch τ root n w := fun w => ⟨fun hc => ((F n w hnS).1 hc).1, fun hc => (F n w hnS).2 ⟨hc, fun h' => absurd h' hnx⟩⟩
        have side : ∀ a w, Sk O π k a → Ch τ root n w → Ch τ root a w → Ch τ' root a w := fun a w ha hnw haw => (F a w ha).2 ⟨haw, fun hax => by
          rcases haw.total hax with h1 | h1
          · exact .inl h1
          · exact .inr ((hd w).2 ⟨((hN w).1 hnw).1, h1⟩)⟩
        refine ⟨n, ⟨hn.1, hnS, fun w => ?_⟩, .inr ⟨fun hc => hnz ((hR z).1 hc), fun w => ?_⟩⟩
        · rw [hNn]
          exact ⟨fun hc p hp hE => side p w hp hc ((hn.2.2 w).1 hc p hp hE), fun hc => (hn.2.2 w).2 fun p hp hE => ((F p w hp).1 (hc p hp hE)).1⟩
        · rw [hNn, hR]
          exact ⟨fun hc => ⟨((hN w).1 hc).1, side z w hz hc ((hN w).1 hc).2⟩, fun ⟨h1, h2⟩ => (hN w).2 ⟨h1, ((F z w hz).1 h2).1⟩⟩
/-- A new one. -/
theorem Inv.new (ho : Ord E root O π) (h : Inv E root O π k r τ) (hst : ∀ z, Sk O π k z → z ≠ root → Mt E root (Sk O π k) τ z (τ z)) (hx : O x) (hxk : π x = k) (hm : Mt E root (Sk O π k) τ x d) (ht : ∀ y, y ≠ x → τ' y = τ y) (htx : τ' x = d) : Inv E root O π (k + 1) x τ' := by
  have hk0 : 0 < k := by have := h.kr; have := ho.nn r h.kr.1; omega
  have hxr : x ≠ root := by rintro rfl; have := ho.p0; omega
  have hSk : ∀ y, Sk O π (k + 1) y → y = x ∨ Sk O π k y := fun y hy => by
    by_cases hyk : π y < k
    · exact .inr ⟨hy.1, hyk⟩
    · exact .inl (ho.inj _ _ hy.1 hx (by have := hy.2; omega))
  have hS1 : ∀ y, Sk O π k y → Sk O π (k + 1) y := fun y hy => ⟨hy.1, by have := hy.2; omega⟩
  have hSx : ∀ y, Sk O π k y → y ≠ x := by rintro y hy rfl; have := hy.2; omega
  have hnx : ∀ a, Sk O π k a → ¬ Ch τ root a x := fun a ha hc => hSx _ (h.chS hc ha).1 rfl
  have G : ∀ a w, Sk O π k a → (Ch τ' root a w ↔ Ch τ root a w) := fun a w ha => ⟨fun hc => hc.congr' ht (hnx a ha), fun hc => hc.congr ht (hnx a ha)⟩
  have hmS := hm.2.1
  have GX : ∀ w, Ch τ' root x w ↔ w = x ∨ Ch τ root d w := fun w => by
    constructor
    · intro hc
      rcases hc.inv with rfl | ⟨_, hc⟩
      · exact .inl rfl
      · rw [htx] at hc; exact .inr ((G d w hmS).1 hc)
    · rintro (rfl | hc)
      · exact .self
      · exact .up hxr (by rw [htx]; exact (G d w hmS).2 hc)
  refine ⟨⟨hx, by omega⟩, fun y hy hr => ?_, fun y hy hr => ?_, fun y hy w hw => ?_, fun z hz hzr => ?_⟩
  · rcases hSk y hy with rfl | hy
    · rw [htx]; exact ⟨hS1 _ hmS, by have := hmS.2; omega⟩
    · rw [ht y (hSx y hy)]; have := h.up y hy hr; exact ⟨hS1 _ this.1, this.2⟩
  · rcases hSk y hy with rfl | hy
    · rw [htx]
      obtain ⟨p, hp, hE⟩ := hm.1
      have hpd : Ch τ root p d := (hm.2.2 d).1 .self p hp hE
      exact ((h.path hpd hp).mono fun v hv => hv.imp id fun hv hc => hv ((G d v hmS).1 hc)).step hE (.inr fun hc => hnx d hmS ((G d _ hmS).1 hc))
    · rw [ht y (hSx y hy)]
      exact (h.P y hy hr).mono fun v hv => hv.imp id fun hv hc => hv ((G _ v (h.up y hy hr).1).1 hc)
  · rcases hSk y hy with rfl | hy
    · have hw1 : w ≠ y := fun e => hw ((GX w).2 (.inl e))
      have hw2 : ¬ Ch τ root d w := fun e => hw ((GX w).2 (.inr e))
      obtain ⟨p, hp⟩ : ∃ p, ¬ (Sk O π k p → E p y → Ch τ root p w) := Classical.byContradiction fun hc => hw2 ((hm.2.2 w).2 fun p hp hE => Classical.byContradiction fun h' => hc ⟨p, fun h'' => h' (h'' hp hE)⟩)
      have hpS : Sk O π k p := Classical.byContradiction fun hc => hp fun h' => absurd h' hc
      have hpE : E p y := Classical.byContradiction fun hc => hp fun _ h' => absurd h' hc
      have hpw : ¬ Ch τ root p w := fun hc => hp fun _ _ => hc
      exact (h.Q p hpS w hpw).step hpE (Ne.symm hw1)
    · exact h.Q y hy w fun hc => hw ((G y w hy).2 hc)
  · rcases hSk z hz with rfl | hz
    · refine ⟨d, ⟨?_, hS1 _ hmS, fun w => ?_⟩, .inl htx.symm⟩
      · obtain ⟨p, hp, hE⟩ := hm.1; exact ⟨p, hS1 p hp, hE⟩
      · rw [G d w hmS]
        refine ⟨fun hc p hp hE => ?_, fun hc => (hm.2.2 w).2 fun p hp hE => (G p w hp).1 (hc p (hS1 p hp) hE)⟩
        rcases hSk p hp with rfl | hp
        · exact (GX w).2 (.inr hc)
        · exact (G p w hp).2 ((hm.2.2 w).1 hc p hp hE)
    · have hzs := hst z hz hzr
      have hux := h.up z hz hzr
      have hex : ∃ p, Sk O π (k + 1) p ∧ E p z := by obtain ⟨p, hp, hE⟩ := hzs.1; exact ⟨p, hS1 p hp, hE⟩
      have hback : ∀ w, (∀ p, Sk O π (k + 1) p → E p z → Ch τ' root p w) → Ch τ root (τ z) w := fun w hc => (hzs.2.2 w).2 fun p hp hE => (G p w hp).1 (hc p (hS1 p hp) hE)
      by_cases hall : E x z → Ch τ' root x (τ z)
      · refine ⟨τ z, ⟨hex, hS1 _ hux.1, fun w => ?_⟩, .inl (ht z (hSx z hz)).symm⟩
        rw [G _ w hux.1]
        refine ⟨fun hc p hp hE => ?_, hback w⟩
        rcases hSk p hp with rfl | hp
        · exact (hall hE).trans ((G _ w hux.1).2 hc)
        · exact (G p w hp).2 ((hzs.2.2 w).1 hc p hp hE)
      · have hE : E x z := Classical.byContradiction fun hc => hall fun h' => absurd h' hc
        have hxz : ¬ Ch τ' root x (τ z) := fun hc => hall fun _ => hc
        have hdz : ¬ Ch τ root d (τ z) := fun hc => hxz ((GX _).2 (.inr hc))
        obtain ⟨c, hc, hcw⟩ := h.nca ho (π d + π (τ z)).toNat d (τ z) hmS hux.1 (by have := ho.nn d hmS.1; have := ho.nn _ hux.1.1; omega)
        have hCx : ∀ w, Ch τ root (τ z) w → (Ch τ' root x w ↔ Ch τ root d w) := fun w hw => by
          rw [GX w]
          refine ⟨fun h' => h'.resolve_left ?_, .inr⟩
          rintro rfl; exact hnx _ hux.1 hw
        refine ⟨c, ⟨hex, hS1 _ hc, fun w => ?_⟩, .inr ⟨fun h' => ?_, fun w => ?_⟩⟩
        · rw [G c w hc, hcw w]
          refine ⟨fun ⟨h1, h2⟩ p hp hE => ?_, fun h' => ?_⟩
          · rcases hSk p hp with rfl | hp
            · exact (hCx w h2).2 h1
            · exact (G p w hp).2 ((hzs.2.2 w).1 h2 p hp hE)
          · have h2 := hback w h'
            exact ⟨(hCx w h2).1 (h' x ⟨hx, by omega⟩ hE), h2⟩
        · rcases (GX z).1 h' with e | h'
          · exact hSx z hz e
          · exact hdz (h'.trans (.up hzr .self))
        · rw [G c w hc, hcw w, G z w hz]
          refine ⟨fun ⟨h1, h2⟩ => ⟨(hCx w h2).2 h1, .up hzr h2⟩, fun ⟨h1, h2⟩ => ?_⟩
          rcases h2.inv with rfl | ⟨_, h2⟩
          · rcases (GX w).1 h1 with e | h1
            · exact absurd e (hSx w hz)
            · exact absurd (h1.trans (.up hzr .self)) hdz
          · exact ⟨(hCx w h2).1 h1, h2⟩
end turn
theorem Inv.init (ho : Ord E root O π) (τ : Int → Int) : Inv E root O π 1 root τ := by
  have hS : ∀ y, Sk O π 1 y → y = root := fun y hy => Classical.byContradiction fun hc => by have := ho.low hy.1 hc; have := hy.2; omega
  refine ⟨⟨ho.r0, by have := ho.p0; omega⟩, fun y hy hr => absurd (hS y hy) hr, fun y hy hr => absurd (hS y hy) hr, fun y hy w hw => ?_, fun y hy hr => absurd (hS y hy) hr⟩
  obtain rfl := hS y hy
  exact .refl fun e => hw (e ▸ .self)
/-! Dominators. -/
/-- One is gone through on every way to the other. -/
def Dom (E : Int → Int → Prop) (root w y : Int) : Prop := ¬ RA E (· ≠ w) root y
def Rch (E : Int → Int → Prop) (root y : Int) : Prop := RA E (fun _ => True) root y
theorem Inv.dom (ho : Ord E root O π) (h : Inv E root O π k r τ) (hall : ∀ y, O y → Sk O π k y) (hst : ∀ z, Sk O π k z → z ≠ root → Mt E root (Sk O π k) τ z (τ z)) {y : Int} (hy : O y) (w : Int) : Ch τ root y w ↔ Dom E root w y := by
  constructor
  · intro hc hr
    have key : ∀ {a b : Int}, RA E (· ≠ w) a b → a = root → O b ∧ ¬ Ch τ root b w := by
      intro a b hr
      induction hr with
      | refl hp => rintro rfl; exact ⟨ho.r0, fun hc => hp hc.of_root.symm⟩
      | @step b c _ hE hp ih =>
        intro e
        obtain ⟨h1, h2⟩ := ih e
        refine ⟨ho.out _ _ h1 hE, fun hc => ?_⟩
        rcases hc.inv with rfl | ⟨hcr, hc⟩
        · exact hp rfl
        · have := hst c (hall c (ho.out _ _ h1 hE)) hcr
          exact h2 ((this.2.2 w).1 hc b (hall b h1) hE)
    exact (key hr rfl).2 hc
  · intro hd
    exact Classical.byContradiction fun hc => hd (h.Q y (hall y hy) w hc)
theorem Ord.reach (ho : Ord E root O π) {y : Int} : O y ↔ Rch E root y := by
  constructor
  · intro hy
    have key : ∀ (f : Nat) (y : Int), O y → π y ≤ f → Rch E root y := by
      intro f
      induction f with
      | zero =>
        intro y hy hf
        have e : y = root := Classical.byContradiction fun hc => by have := ho.low hy hc; omega
        subst e; exact .refl trivial
      | succ f ih =>
        intro y hy hf
        by_cases e : y = root
        · subst e; exact .refl trivial
        · obtain ⟨p, hp, hE, hlt⟩ := ho.pre y hy e
          exact (ih p hp (by omega)).step hE trivial
    exact key (π y).toNat y hy (by have := ho.nn y hy; omega)
  · intro hr
    have key : ∀ {a b : Int}, RA E (fun _ => True) a b → a = root → O b := by
      intro a b hr
      induction hr with
      | refl _ => rintro rfl; exact ho.r0
      | step _ hE _ ih => intro e; exact ho.out _ _ (ih e) hE
    exact key hr rfl
/-- Of two of which each dominates the other both are the same. -/
theorem Dom.anti {a b y : Int} (hr : Rch E root y) (hab : Dom E root a b) (hba : Dom E root b a) (hy : y = a) : a = b := by
  refine Classical.byContradiction fun hne => ?_
  have key : ∀ {x y : Int}, RA E (fun _ => True) x y → x = root → (RA E (fun v => v ≠ a ∧ v ≠ b) root y ∨ RA E (· ≠ a) root b ∨ RA E (· ≠ b) root a) := by
    intro x y hr
    induction hr with
    | refl _ =>
      rintro rfl
      by_cases h1 : x = a
      · subst h1; exact .inr (.inr (.refl hne))
      · by_cases h2 : x = b
        · subst h2; exact .inr (.inl (.refl (Ne.symm hne)))
        · exact .inl (.refl ⟨h1, h2⟩)
    | @step p c _ hE _ ih =>
      intro e
      rcases ih e with h | h
      · by_cases h1 : c = a
        · exact .inr (.inr ((h.mono fun v hv => hv.2).step (h1 ▸ hE) hne))
        · by_cases h2 : c = b
          · exact .inr (.inl ((h.mono fun v hv => hv.1).step (h2 ▸ hE) (Ne.symm hne)))
          · exact .inl (h.step hE ⟨h1, h2⟩)
      · exact .inr h
  rcases key hr rfl with h | h | h
  · exact h.last.1 hy
  · exact hab h
  · exact hba h
end
end Go.Proofs.YtipmgkhjoekaaaaGreat

set_option linter.unusedVariables false
namespace Go.Proofs.YtipmgkhjoekaaaaGreat
open Go Go.Proofs.YtipmgkhjoekaaaaGreat.Fw
/-! A graph's steps, its orders, and its tree. -/
/-- One goes on to the other. -/
def Ed (g : FGraph) (a b : Int) : Prop := 0 ≤ a ∧ b ∈ g.succ.getD a.toNat []
structure GOk (g : FGraph) : Prop where
  len : g.succ.length ≤ 64
  ne : 1 ≤ g.succ.length
  rise : ∀ l ∈ g.succ, risingP l g.succ.length = true
  pred : g.pred = predsP g.succ
theorem mayG_ok {g : FGraph} (h : mayG g = true) : GOk g := by
  by_cases hc : (decide ((g.succ.length : Int) < 1) || (decide (64 < (g.succ.length : Int)) || g.succ.any fun l => !(risingP l g.succ.length))) = true
  · rw [mayG, show makeP g.succ = none by unfold makeP; rw [if_pos hc]] at h
    simp [graphQ] at h
  · rw [mayG, show makeP g.succ = some ⟨g.succ, predsP g.succ⟩ by unfold makeP; rw [if_neg hc]] at h
    rw [Bool.not_eq_true, Bool.or_eq_false_iff, Bool.or_eq_false_iff, decide_eq_false_iff_not, decide_eq_false_iff_not] at hc
    obtain ⟨h1, h2, h3⟩ := hc
    refine ⟨by omega, by omega, fun l hl => ?_, ?_⟩
    · have := List.any_eq_false.1 h3 l hl
      simpa using this
    · simp [graphQ] at h; exact h.symm
theorem mem_getD {l : List (List Int)} {j : Nat} {z : Int} (h : z ∈ l.getD j []) : l.getD j [] ∈ l ∧ j < l.length := by
  by_cases hj : j < l.length
  · have e : l.getD j [] = l[j] := by simp [List.getD, List.getElem?_eq_getElem hj]
    exact ⟨by rw [e]; exact List.getElem_mem hj, hj⟩
  · simp [List.getD, List.getElem?_eq_none (by omega : l.length ≤ j)] at h
theorem rising_mem {l : List Int} {n : Int} (h : risingP l n = true) {z : Int} (hz : z ∈ l) : 0 ≤ z ∧ z < n := by
  obtain ⟨j, hj⟩ := List.mem_iff_getElem?.1 hz
  exact rising_get h hj
theorem Ed.rng {g : FGraph} (hg : GOk g) {a b : Int} (h : Ed g a b) : (0 ≤ a ∧ a < g.succ.length) ∧ 0 ≤ b ∧ b < g.succ.length := by
  have h1 := mem_getD h.2
  exact ⟨⟨h.1, by omega⟩, rising_mem (hg.rise _ h1.1) h.2⟩
theorem mem_push {out : List (List Int)} {k i p : Int} {x : Nat} (hk : 0 ≤ k) (hx : x < out.length) : p ∈ (pushAt out k i).getD x [] ↔ p ∈ out.getD x [] ∨ (p = i ∧ k = x) := by
  have e : out.getD x [] = out[x] := by simp [List.getD, List.getElem?_eq_getElem hx]
  have e' : (pushAt out k i).getD x [] = if k.toNat = x then out[x] ++ [i] else out[x] := by
    simp only [pushAt, List.getD, List.getElem?_modify, List.getElem?_eq_getElem hx]
    split <;> simp
  rw [e, e']
  split
  · rename_i h
    have : k = x := by omega
    simp [this]
  · rename_i h
    have : k ≠ x := by omega
    simp [this]
theorem mem_row {i p : Int} {x : Nat} : ∀ (l : List Int) (out : List (List Int)), (∀ k ∈ l, 0 ≤ k) → x < out.length → (p ∈ (predRow out i l).getD x [] ↔ p ∈ out.getD x [] ∨ (p = i ∧ (x : Int) ∈ l))
  | [], out, _, _ => by simp [predRow]
  | k :: l, out, hl, hx => by
    have h1 := mem_row (i := i) (p := p) l (pushAt out k i) (fun z hz => hl z (List.mem_cons_of_mem _ hz)) (by rw [pushAt_length]; exact hx)
    have e : predRow out i (k :: l) = predRow (pushAt out k i) i l := rfl
    rw [e, h1, mem_push (hl k (List.mem_cons_self ..)) hx, List.mem_cons]
    constructor
    · rintro ((h | ⟨h, h'⟩) | ⟨h, h'⟩)
      · exact .inl h
      · exact .inr ⟨h, .inl h'.symm⟩
      · exact .inr ⟨h, .inr h'⟩
    · rintro (h | ⟨h, h' | h'⟩)
      · exact .inl (.inl h)
      · exact .inl (.inr ⟨h, h'.symm⟩)
      · exact .inr ⟨h, h'⟩
theorem mem_predsK {succ : List (List Int)} (hr : ∀ l ∈ succ, risingP l succ.length = true) {p : Int} {x : Nat} (hx : x < succ.length) : ∀ k : Nat, k ≤ succ.length → (p ∈ (predsK succ k).getD x [] ↔ 0 ≤ p ∧ p < k ∧ (x : Int) ∈ succ.getD p.toNat [])
  | 0, _ => by
    have : (predsK succ 0).getD x [] = [] := by simp [predsK, List.getD, List.getElem?_replicate, hx]
    rw [this]; simp; omega
  | k + 1, hk => by
    have hl : succ.getD k [] = succ[k] := by simp [List.getD, List.getElem?_eq_getElem (by omega : k < succ.length)]
    rw [predsK_succ, mem_row _ _ (fun z hz => (rising_mem (hr _ (mem_getD hz).1) hz).1) (by rw [predsK_length]; exact hx), mem_predsK hr hx k (by omega)]
    constructor
    · rintro (⟨h1, h2, h3⟩ | ⟨h1, h2⟩)
      · exact ⟨h1, by omega, h3⟩
      · subst h1; exact ⟨by omega, by omega, by simpa using h2⟩
    · rintro ⟨h1, h2, h3⟩
      by_cases e : p = k
      · subst e; exact .inr ⟨rfl, by simpa using h3⟩
      · exact .inl ⟨h1, by omega, h3⟩
theorem mem_pred {g : FGraph} (hg : GOk g) {p x : Int} (hx : 0 ≤ x) : p ∈ g.pred.getD x.toNat [] ↔ Ed g p x := by
  by_cases hxl : x.toNat < g.succ.length
  · rw [hg.pred, predsP, mem_predsK hg.rise hxl _ (Nat.le_refl _)]
    have ex : ((x.toNat : Nat) : Int) = x := by omega
    rw [ex]
    constructor
    · rintro ⟨h1, _, h3⟩; exact ⟨h1, h3⟩
    · intro h; have := h.rng hg; exact ⟨h.1, this.1.2, h.2⟩
  · constructor
    · intro h; have := (mem_getD h).2; rw [hg.pred, predsP_length] at this; exact absurd this hxl
    · intro h; have := (h.rng hg).2; omega
/-- An order from a root. -/
structure OrdL (g : FGraph) (root : Int) (o : List Int) : Prop where
  nd : o.Nodup
  hd : o[0]? = some root
  pre : ∀ (i : Nat) x, o[i]? = some x → 0 < i → ∃ (j : Nat) (p : Int), j < i ∧ o[j]? = some p ∧ Ed g p x
  out : ∀ a b, a ∈ o → Ed g a b → b ∈ o
  rng : ∀ a ∈ o, 0 ≤ a ∧ a < g.succ.length
theorem nodup_idx {α : Type _} {o : List α} (h : o.Nodup) {i j : Nat} {x : α} (hi : o[i]? = some x) (hj : o[j]? = some x) : i = j := by
  exact (List.getElem?_inj (List.getElem?_eq_some_iff.1 hi).1 h).1 (hi.trans hj.symm)
theorem snoc_ind {α : Type _} {p : List α → Prop} (h0 : p []) (h1 : ∀ l x, p l → p (l ++ [x])) (l : List α) : p l := by
  have key : ∀ r : List α, p r.reverse := fun r => by
    induction r with
    | nil => exact h0
    | cons x r ih => rw [List.reverse_cons]; exact h1 _ _ ih
  have := key l.reverse
  rwa [List.reverse_reverse] at this
/-- Each one's place in the order. -/
def AtOk (o at_ : List Int) : Prop := ∀ (i : Nat) x, o[i]? = some x → atS at_ x = i
theorem OrdL.ord {g : FGraph} {root : Int} {o at_ : List Int} (h : OrdL g root o) (ha : AtOk o at_) : Ord (Ed g) root (· ∈ o) (atS at_) where
  r0 := List.mem_of_getElem? h.hd
  p0 := ha 0 root h.hd
  inj := fun a b hA hB e => by
    obtain ⟨i, hi⟩ := List.mem_iff_getElem?.1 hA
    obtain ⟨j, hj⟩ := List.mem_iff_getElem?.1 hB
    rw [ha i a hi, ha j b hj] at e
    have : i = j := by omega
    subst this; rw [hi] at hj; exact Option.some.inj hj
  nn := fun a hA => by obtain ⟨i, hi⟩ := List.mem_iff_getElem?.1 hA; rw [ha i a hi]; omega
  pre := fun a hA hr => by
    obtain ⟨i, hi⟩ := List.mem_iff_getElem?.1 hA
    have h0 : 0 < i := by
      rcases Nat.eq_zero_or_pos i with rfl | h0
      · rw [h.hd] at hi; exact absurd (Option.some.inj hi).symm hr
      · exact h0
    obtain ⟨j, p, hj, hp, hE⟩ := h.pre i a hi h0
    exact ⟨p, List.mem_of_getElem? hp, hE, by rw [ha j p hp, ha i a hi]; omega⟩
  out := h.out
/-! The meet of all that were gone through. -/
section
variable {t at_ : List Int} {root : Int} {S : Int → Prop}
theorem Climb.chS (h : Climb t at_ root S) {a w : Int} (c : Ch (atS t) root a w) : S a → S w ∧ atS at_ w ≤ atS at_ a := by
  induction c with
  | self => intro ha; exact ⟨ha, Int.le_refl _⟩
  | up hr _ ih => intro ha; have h1 := h.up _ ha hr; have h2 := ih h1.1; have h3 := h1.2; simp only [atS] at *; exact ⟨h2.1, by omega⟩
theorem climb_nca (h : Climb t at_ root S) : ∀ (f : Nat) (a b : Int), S a → S b → atS at_ a + atS at_ b ≤ f → S (climb t at_ f a b) ∧ ∀ w, Ch (atS t) root (climb t at_ f a b) w ↔ Ch (atS t) root a w ∧ Ch (atS t) root b w
  | 0, a, b, ha, hb, hf => by
    have h1 := h.nn a ha; have h2 := h.nn b hb
    have e : a = b := h.inj a b ha hb (by simp only [atS] at hf; omega)
    subst e; exact ⟨ha, fun w => by simp [climb]⟩
  | f + 1, a, b, ha, hb, hf => by
    rw [climb]
    by_cases e : a = b
    · subst e; rw [if_pos rfl]; exact ⟨ha, fun w => by simp⟩
    rw [if_neg e]
    have key : ∀ a b, S a → S b → atS at_ b < atS at_ a → a ≠ root ∧ S (atS t a) ∧ atS at_ (atS t a) < atS at_ a ∧ ∀ w, (Ch (atS t) root (atS t a) w ∧ Ch (atS t) root b w ↔ Ch (atS t) root a w ∧ Ch (atS t) root b w) := by
      intro a b ha hb hlt
      have har : a ≠ root := by rintro rfl; have := h.low b hb; simp only [atS] at hlt; omega
      have hs := h.step ha hb hlt
      refine ⟨har, hs.1, hs.2, fun w => ⟨fun ⟨x, y⟩ => ⟨.up har x, y⟩, fun ⟨x, y⟩ => ⟨?_, y⟩⟩⟩
      rcases x.inv with rfl | ⟨_, x⟩
      · have := (h.chS y hb).2; omega
      · exact x
    by_cases hlt : at_.getD b.toNat 0 < at_.getD a.toNat 0
    · rw [if_pos hlt]
      obtain ⟨_, h1, h2, h3⟩ := key a b ha hb hlt
      obtain ⟨h4, h5⟩ := climb_nca h f _ b h1 hb (by simp only [atS] at *; omega)
      exact ⟨h4, fun w => (h5 w).trans (h3 w)⟩
    · rw [if_neg hlt]
      have hne : at_.getD a.toNat 0 ≠ at_.getD b.toNat 0 := fun he => e (h.inj a b ha hb he)
      obtain ⟨_, h1, h2, h3⟩ := key b a hb ha (by simp only [atS]; omega)
      obtain ⟨h4, h5⟩ := climb_nca h f a _ ha h1 (by simp only [atS] at *; omega)
      exact ⟨h4, fun w => (h5 w).trans (And.comm.trans ((h3 w).trans And.comm))⟩
theorem climbP_nca (h : Climb t at_ root S) {a b : Int} (ha : S a) (hb : S b) : S (climbP t at_ a b) ∧ ∀ w, Ch (atS t) root (climbP t at_ a b) w ↔ Ch (atS t) root a w ∧ Ch (atS t) root b w :=
  climb_nca h _ a b ha hb (by have h1 := h.nn a ha; have h2 := h.nn b hb; simp only [atS] at *; omega)
def bestS (t at_ : List Int) (b p : Int) : Int := if atS t p = -2 then b else if b = -2 then p else climbP t at_ b p
def bestF (t at_ l : List Int) : Int := l.foldl (bestS t at_) (-2)
theorem bestF_take {l : List Int} {j : Nat} {p : Int} (h : l[j]? = some p) : bestF t at_ (l.take (j + 1)) = bestS t at_ (bestF t at_ (l.take j)) p := by
  rw [List.take_add_one, h]; simp [bestF]
theorem bestF_law (h : Climb t at_ root S) : ∀ (l : List Int), (∀ p ∈ l, (atS t p ≠ -2 ↔ S p)) →
    (bestF t at_ l = -2 ∧ ∀ p ∈ l, ¬ S p) ∨ (bestF t at_ l ≠ -2 ∧ S (bestF t at_ l) ∧ (∃ p ∈ l, S p) ∧ ∀ w, Ch (atS t) root (bestF t at_ l) w ↔ ∀ p ∈ l, S p → Ch (atS t) root p w) := by
  intro l
  refine snoc_ind (p := fun l => (∀ p ∈ l, (atS t p ≠ -2 ↔ S p)) →
    (bestF t at_ l = -2 ∧ ∀ p ∈ l, ¬ S p) ∨ (bestF t at_ l ≠ -2 ∧ S (bestF t at_ l) ∧ (∃ p ∈ l, S p) ∧ ∀ w, Ch (atS t) root (bestF t at_ l) w ↔ ∀ p ∈ l, S p → Ch (atS t) root p w)) (fun _ => .inl ⟨rfl, by simp⟩) ?_ l
  · intro l p ih hl
    have ih := ih fun q hq => hl q (List.mem_append_left _ hq)
    have hp := hl p (by simp)
    have e : bestF t at_ (l ++ [p]) = bestS t at_ (bestF t at_ l) p := by simp [bestF]
    rw [e, bestS]
    have m2 : ¬ S (-2) := fun hs => by have := h.inn _ hs; omega
    by_cases hpS : S p
    · rw [if_neg (hp.2 hpS)]
      rcases ih with ⟨h1, h2⟩ | ⟨h0, h1, h2, h3⟩
      · rw [if_pos h1]
        refine .inr ⟨fun e => m2 (e ▸ hpS), hpS, ⟨p, by simp, hpS⟩, fun w => ⟨fun hc q hq hs => ?_, fun hc => hc p (by simp) hpS⟩⟩
        rcases List.mem_append.1 hq with hq | hq
        · exact absurd hs (h2 q hq)
        · simp at hq; subst hq; exact hc
      · rw [if_neg h0]
        obtain ⟨h4, h5⟩ := climbP_nca h h1 hpS
        refine .inr ⟨fun e => m2 (e ▸ h4), h4, ⟨p, by simp, hpS⟩, fun w => ?_⟩
        rw [h5, h3]
        constructor
        · rintro ⟨h6, h7⟩ q hq hs
          rcases List.mem_append.1 hq with hq | hq
          · exact h6 q hq hs
          · simp at hq; subst hq; exact h7
        · intro h6; exact ⟨fun q hq hs => h6 q (List.mem_append_left _ hq) hs, h6 p (by simp) hpS⟩
    · have : atS t p = -2 := Classical.byContradiction fun hc => hpS (hp.1 hc)
      rw [if_pos this]
      rcases ih with ⟨h1, h2⟩ | ⟨h0, h1, ⟨q, hq, hs⟩, h3⟩
      · refine .inl ⟨h1, fun q hq => ?_⟩
        rcases List.mem_append.1 hq with hq | hq
        · exact h2 q hq
        · simp at hq; subst hq; exact hpS
      · refine .inr ⟨h0, h1, ⟨q, by simp [hq], hs⟩, fun w => ?_⟩
        rw [h3]
        refine ⟨fun h6 q hq hs => ?_, fun h6 q hq hs => h6 q (List.mem_append_left _ hq) hs⟩
        rcases List.mem_append.1 hq with hq | hq
        · exact h6 q hq hs
        · simp at hq; subst hq; exact absurd hs hpS
end
/-! The tree under way. -/
structure TreeSt (g : FGraph) (root : Int) (o at_ t : List Int) (k r : Int) : Prop where
  inv : Inv (Ed g) root (· ∈ o) (atS at_) k r (atS t)
  len : t.length = g.succ.length
  none : ∀ y : Int, 0 ≤ y → y < g.succ.length → (atS t y ≠ -2 ↔ Sk (· ∈ o) (atS at_) k y)
  vals : ∀ z : Int, z ∈ t → -2 ≤ z ∧ z < g.succ.length
def wgt (g : FGraph) (at_ t : List Int) (y : Int) : Nat := if atS t y = -2 then g.succ.length + 1 else (atS at_ (atS t y)).toNat
def mu (g : FGraph) (o at_ t : List Int) : Nat := (o.map (wgt g at_ t)).sum
theorem sum_le {o : List Int} {f f' : Int → Nat} (h : ∀ y ∈ o, f' y ≤ f y) : (o.map f').sum ≤ (o.map f).sum := by
  induction o with
  | nil => simp
  | cons y r ih =>
    have h1 := h y (by simp)
    have h2 := ih fun z hz => h z (by simp [hz])
    simp only [List.map_cons, List.sum_cons]; omega
theorem sum_lt {o : List Int} {f f' : Int → Nat} {x : Int} (hx : x ∈ o) (h : ∀ y ∈ o, f' y ≤ f y) (hl : f' x < f x) : (o.map f').sum < (o.map f).sum := by
  induction o with
  | nil => simp at hx
  | cons y r ih =>
    have h1 := h y (by simp)
    simp only [List.map_cons, List.sum_cons]
    rcases List.mem_cons.1 hx with rfl | hx
    · have h2 := sum_le (o := r) fun z hz => h z (by simp [hz])
      omega
    · have h2 := ih hx fun z hz => h z (by simp [hz])
      omega
section
variable {g : FGraph} {root : Int} {o at_ t : List Int} {k r : Int}
theorem TreeSt.climb (hg : GOk g) (ho : OrdL g root o) (ha : AtOk o at_) (hal : at_.length = g.succ.length) (h : TreeSt g root o at_ t k r) : Climb t at_ root (Sk (· ∈ o) (atS at_) k) where
  len := by rw [hal, h.len]
  inn := fun a hA => by have := ho.rng a hA.1; rw [h.len]; exact this
  nn := fun a hA => (ho.ord ha).nn a hA.1
  up := fun a hA hr => h.inv.up a hA hr
  inj := fun a b hA hB e => (ho.ord ha).inj a b hA.1 hB.1 e
  low := fun a hA => by have h1 := (ho.ord ha).p0; have h2 := (ho.ord ha).nn a hA.1; simp only [atS] at *; omega
/-- What the entry of one should be. -/
def bestX (g : FGraph) (t at_ : List Int) (x : Int) : Int := bestF t at_ (g.pred.getD x.toNat [])
theorem TreeSt.best (hg : GOk g) (ho : OrdL g root o) (ha : AtOk o at_) (hal : at_.length = g.succ.length) (h : TreeSt g root o at_ t k r) {x : Int} (hx : 0 ≤ x) :
    (bestX g t at_ x = -2 ∧ ∀ p, Sk (· ∈ o) (atS at_) k p → ¬ Ed g p x) ∨ (bestX g t at_ x ≠ -2 ∧ Mt (Ed g) root (Sk (· ∈ o) (atS at_) k) (atS t) x (bestX g t at_ x)) := by
  have hC := h.climb hg ho ha hal
  have hm : ∀ p, p ∈ g.pred.getD x.toNat [] ↔ Ed g p x := fun p => mem_pred hg hx
  rcases bestF_law hC (g.pred.getD x.toNat []) (fun p hp => by have := ((hm p).1 hp).rng hg; exact h.none p this.1.1 this.1.2) with ⟨h1, h2⟩ | ⟨h0, h1, ⟨q, hq, hs⟩, h3⟩
  · exact .inl ⟨h1, fun p hp hE => h2 p ((hm p).2 hE) hp⟩
  · refine .inr ⟨h0, ⟨q, hs, (hm q).1 hq⟩, h1, fun w => (h3 w).trans ⟨fun h4 p hp hE => h4 p ((hm p).2 hE) hp, fun h4 p hp hs => h4 p hs ((hm p).1 hp)⟩⟩
theorem TreeSt.bestV (hg : GOk g) (ho : OrdL g root o) (ha : AtOk o at_) (hal : at_.length = g.succ.length) (h : TreeSt g root o at_ t k r) {x : Int} (hx : 0 ≤ x) : -2 ≤ bestX g t at_ x ∧ bestX g t at_ x < g.succ.length := by
  rcases h.best hg ho ha hal hx with ⟨h1, _⟩ | ⟨_, h1⟩
  · have := hg.ne; omega
  · have := ho.rng _ h1.2.1.1; omega
theorem atS_set {t : List Int} {x y v : Int} (hx : 0 ≤ x) (hxl : x < t.length) (hy : 0 ≤ y) : atS (t.set x.toNat v) y = if y = x then v else atS t y := by
  simp only [atS, List.getD, List.getElem?_set]
  by_cases e : y = x
  · subst e; rw [if_pos rfl, if_pos (by omega), if_pos rfl]; rfl
  · rw [if_neg (by omega), if_neg e]
/-- All ahead of one were gone through, if they are as they should be. -/
theorem TreeSt.ahead (hg : GOk g) (ho : OrdL g root o) (ha : AtOk o at_) (hal : at_.length = g.succ.length) (h : TreeSt g root o at_ t k r) {i : Nat} (hst : ∀ (j : Nat) y, 0 < j → j < i → o[j]? = some y → atS t y = bestX g t at_ y) : ∀ (j : Nat) y, j < i → o[j]? = some y → Sk (· ∈ o) (atS at_) k y := by
  have hO := ho.ord ha
  intro j
  induction j using Nat.strongRecOn with
  | _ j ih =>
    intro y hj hy
    have hyo := List.mem_of_getElem? hy
    have hyr := ho.rng y hyo
    rcases Nat.eq_zero_or_pos j with rfl | h0
    · rw [ho.hd] at hy; cases hy
      exact ⟨hyo, by have := hO.p0; have := h.inv.kr; have := hO.nn r this.1; omega⟩
    · refine (h.none y hyr.1 hyr.2).1 ?_
      rw [hst j y h0 hj hy]
      rcases h.best hg ho ha hal hyr.1 with ⟨_, h2⟩ | ⟨h1, _⟩
      · obtain ⟨q, p, hq, hp, hE⟩ := ho.pre j y hy h0
        exact absurd hE (h2 p (ih q hq p (by omega) hp))
      · exact h1
theorem TreeSt.step (hg : GOk g) (ho : OrdL g root o) (ha : AtOk o at_) (hal : at_.length = g.succ.length) (h : TreeSt g root o at_ t k r) {i : Nat} {x : Int} (h0 : 0 < i) (hi : o[i]? = some x) (hst : ∀ (j : Nat) y, 0 < j → j < i → o[j]? = some y → atS t y = bestX g t at_ y) (hne : atS t x ≠ bestX g t at_ x) :
    ∃ k' r', TreeSt g root o at_ (t.set x.toNat (bestX g t at_ x)) k' r' ∧ mu g o at_ (t.set x.toNat (bestX g t at_ x)) < mu g o at_ t := by
  have hO := ho.ord ha
  have hxo := List.mem_of_getElem? hi
  have hxr := ho.rng x hxo
  have hah := h.ahead hg ho ha hal hst
  have hxt : x < t.length := by rw [h.len]; exact hxr.2
  have hnr : x ≠ root := by
    rintro rfl
    have := nodup_idx ho.nd hi ho.hd; omega
  have hset := fun y (hy : 0 ≤ y) => atS_set (v := bestX g t at_ x) hxr.1 hxt hy
  -- outside of the places the entries are those of place 0; so turned by the function itself
  obtain ⟨hb, hm⟩ : bestX g t at_ x ≠ -2 ∧ Mt (Ed g) root (Sk (· ∈ o) (atS at_) k) (atS t) x (bestX g t at_ x) := by
    rcases h.best hg ho ha hal hxr.1 with ⟨_, h2⟩ | h1
    · obtain ⟨q, p, hq, hp, hE⟩ := ho.pre i x hi h0
      exact absurd hE (h2 p (hah q p hq hp))
    · exact h1
  have hbr := ho.rng _ hm.2.1.1
  -- the entries turned as a function that differs at x alone
  obtain ⟨τ', hτx, hτ⟩ : ∃ τ' : Int → Int, τ' x = bestX g t at_ x ∧ ∀ y, y ≠ x → τ' y = atS t y := ⟨fun y => if y = x then bestX g t at_ x else atS t y, by simp, fun y hy => by simp [hy]⟩
  have hagree : ∀ y, 0 ≤ y → atS (t.set x.toNat (bestX g t at_ x)) y = τ' y := fun y hy => by
    rw [hset y hy]; split
    · rename_i e; subst e; exact hτx.symm
    · rename_i e; exact (hτ y e).symm
  have chEq : ∀ {σ σ' : Int → Int} {k' : Int}, (∀ y, 0 ≤ y → σ y = σ' y) → (∀ y, Sk (· ∈ o) (atS at_) k' y → y ≠ root → Sk (· ∈ o) (atS at_) k' (σ y)) → ∀ a w, Sk (· ∈ o) (atS at_) k' a → Ch σ root a w → Ch σ' root a w := by
    intro σ σ' k' e hu a w hA hc
    induction hc with
    | self => exact .self
    | @up a w hr _ ih => exact .up hr (by rw [← e a (ho.rng a hA.1).1]; exact ih (hu a hA hr))
  have conv : ∀ {k' r'}, Inv (Ed g) root (· ∈ o) (atS at_) k' r' τ' → Inv (Ed g) root (· ∈ o) (atS at_) k' r' (atS (t.set x.toNat (bestX g t at_ x))) := by
    intro k' r' hI
    have e1 : ∀ y, 0 ≤ y → τ' y = atS (t.set x.toNat (bestX g t at_ x)) y := fun y hy => (hagree y hy).symm
    have hu1 : ∀ y, Sk (· ∈ o) (atS at_) k' y → y ≠ root → Sk (· ∈ o) (atS at_) k' (τ' y) := fun y hy hr => (hI.up y hy hr).1
    have hu2 : ∀ y, Sk (· ∈ o) (atS at_) k' y → y ≠ root → Sk (· ∈ o) (atS at_) k' (atS (t.set x.toNat (bestX g t at_ x)) y) := fun y hy hr => by rw [hagree y (ho.rng y hy.1).1]; exact hu1 y hy hr
    have hc : ∀ a w, Sk (· ∈ o) (atS at_) k' a → (Ch τ' root a w ↔ Ch (atS (t.set x.toNat (bestX g t at_ x))) root a w) := fun a w hA => ⟨chEq e1 hu1 a w hA, chEq hagree hu2 a w hA⟩
    refine ⟨hI.kr, fun y hy hr => ?_, fun y hy hr => ?_, fun y hy w hw => hI.Q y hy w fun h' => hw ((hc y w hy).1 h'), fun z hz hr => ?_⟩
    · rw [hagree y (ho.rng y hy.1).1]; exact hI.up y hy hr
    · rw [hagree y (ho.rng y hy.1).1]
      exact (hI.P y hy hr).mono fun v hv => hv.imp id fun hv h' => hv ((hc _ v (hu1 y hy hr)).2 h')
    · obtain ⟨m, ⟨hm1, hm2, hm3⟩, hm4⟩ := hI.J z hz hr
      refine ⟨m, ⟨hm1, hm2, fun w => ?_⟩, ?_⟩
      · rw [← hc m w hm2, hm3]
        exact ⟨fun h' p hp hE => (hc p w hp).1 (h' p hp hE), fun h' p hp hE => (hc p w hp).2 (h' p hp hE)⟩
      · rw [hagree z (ho.rng z hz.1).1]
        refine hm4.imp id fun ⟨h5, h6⟩ => ⟨fun h' => h5 ((hc _ _ hI.sr).2 h'), fun w => ?_⟩
        rw [← hc m w hm2, ← hc _ w hI.sr, ← hc z w hz]; exact h6 w
  have hvals : ∀ z : Int, z ∈ t.set x.toNat (bestX g t at_ x) → -2 ≤ z ∧ z < g.succ.length := fun z hz => by
    rcases List.mem_or_eq_of_mem_set hz with hz | rfl
    · exact h.vals z hz
    · omega
  have hmu : wgt g at_ (t.set x.toNat (bestX g t at_ x)) x < wgt g at_ t x → mu g o at_ (t.set x.toNat (bestX g t at_ x)) < mu g o at_ t := fun hlt => by
    refine sum_lt hxo (fun y hy => ?_) hlt
    by_cases e : y = x
    · subst e; omega
    · simp only [wgt]; rw [hset y (ho.rng y hy).1, if_neg e]; exact Nat.le_refl _
  have hwx : wgt g at_ (t.set x.toNat (bestX g t at_ x)) x = (atS at_ (bestX g t at_ x)).toNat := by simp only [wgt]; rw [hset x hxr.1, if_pos rfl, if_neg hb]
  by_cases hxS : Sk (· ∈ o) (atS at_) k x
  · obtain ⟨hI, hlt⟩ := h.inv.turn hO hxS hnr hm (Ne.symm hne) hτ hτx
    refine ⟨k, r, ⟨conv hI, by rw [List.length_set]; exact h.len, fun y hy0 hyn => ?_, hvals⟩, hmu ?_⟩
    · rw [hset y hy0]
      split
      · rename_i e; subst e; exact ⟨fun _ => hxS, fun _ => hb⟩
      · exact h.none y hy0 hyn
    · rw [hwx]; simp only [wgt]
      rw [if_neg ((h.none x hxr.1 hxr.2).2 hxS)]
      have := hO.nn _ hm.2.1.1
      omega
  · have hxk : atS at_ x = k := by
      have h1 : k ≤ atS at_ x := Int.not_lt.1 fun hc => hxS ⟨hxo, hc⟩
      have h2 : atS at_ x ≤ k := Int.not_lt.1 fun hc => by
        have e := ha i x hi
        have hk0 : 0 ≤ k := by have := h.inv.kr; have := hO.nn r this.1; omega
        have hil := (List.getElem?_eq_some_iff.1 hi).1
        have hkk : k.toNat < i := by omega
        have hz : o[k.toNat]? = some o[k.toNat] := List.getElem?_eq_getElem (by omega)
        have := (hah k.toNat _ hkk hz).2
        rw [ha _ _ hz] at this; omega
      omega
    have hstab : ∀ z, Sk (· ∈ o) (atS at_) k z → z ≠ root → Mt (Ed g) root (Sk (· ∈ o) (atS at_) k) (atS t) z (atS t z) := fun z hz hzr => by
      obtain ⟨j, hj⟩ := List.mem_iff_getElem?.1 hz.1
      have hj0 : 0 < j := by
        rcases Nat.eq_zero_or_pos j with rfl | h0
        · rw [ho.hd] at hj; exact absurd (Option.some.inj hj).symm hzr
        · exact h0
      have hji : j < i := by have h1 := hz.2; rw [ha j z hj] at h1; have h2 := ha i x hi; omega
      have hzR := ho.rng z hz.1
      have e := hst j z hj0 hji hj
      rcases h.best hg ho ha hal hzR.1 with ⟨h1, _⟩ | ⟨_, h1⟩
      · exact absurd (e.trans h1) ((h.none z hzR.1 hzR.2).2 hz)
      · rw [e]; exact h1
    have hI := h.inv.new hO hstab hxo hxk hm hτ hτx
    refine ⟨k + 1, x, ⟨conv hI, by rw [List.length_set]; exact h.len, fun y hy0 hyn => ?_, hvals⟩, hmu ?_⟩
    · rw [hset y hy0]
      split
      · rename_i e; subst e; exact ⟨fun _ => ⟨hxo, by omega⟩, fun _ => hb⟩
      · rename_i e
        rw [h.none y hy0 hyn]
        refine ⟨fun h' => ⟨h'.1, by have := h'.2; omega⟩, fun h' => ⟨h'.1, ?_⟩⟩
        have h1 := h'.2
        have h2 : atS at_ y ≠ k := fun e' => e (hO.inj _ _ h'.1 hxo (by rw [e', hxk]))
        omega
    · rw [hwx]; simp only [wgt]
      rw [if_pos (Classical.byContradiction fun hc => hxS ((h.none x hxr.1 hxr.2).1 hc))]
      have hbi : ∀ y ∈ o, atS at_ y ≤ g.succ.length := fun y hy => by
        obtain ⟨j, hj⟩ := List.mem_iff_getElem?.1 hy
        rw [ha j y hj]
        have hjl := (List.getElem?_eq_some_iff.1 hj).1
        have hs : o ⊆ (List.range g.succ.length).map (fun i : Nat => (i : Int)) := fun z hz => by
          have := ho.rng z hz
          exact List.mem_map.2 ⟨z.toNat, List.mem_range.2 (by omega), by omega⟩
        have := List.Nodup.length_le_of_subset ho.nd hs
        simp only [List.length_map, List.length_range] at this
        omega
      have := hbi _ hm.2.1.1; have := hO.nn _ hm.2.1.1
      omega
/-- The dominators: -1 at the root; -2 where one doesn't come. -/
structure DomTree (g : FGraph) (root : Int) (t : List Int) : Prop where
  len : t.length = g.succ.length
  top : atS t root = -1
  none : ∀ y : Int, 0 ≤ y → y < g.succ.length → ¬ Rch (Ed g) root y → atS t y = -2
  up : ∀ y : Int, 0 ≤ y → y < g.succ.length → Rch (Ed g) root y → y ≠ root → Rch (Ed g) root (atS t y) ∧ 0 ≤ atS t y ∧ atS t y < g.succ.length ∧ ∀ w, Dom (Ed g) root w (atS t y) ↔ Dom (Ed g) root w y ∧ w ≠ y
theorem TreeSt.done (hg : GOk g) (ho : OrdL g root o) (ha : AtOk o at_) (hal : at_.length = g.succ.length) (h : TreeSt g root o at_ t k r) (hst : ∀ (j : Nat) y, 0 < j → o[j]? = some y → atS t y = bestX g t at_ y) : DomTree g root (t.set root.toNat (-1)) := by
  have hO := ho.ord ha
  have hall : ∀ y, y ∈ o → Sk (· ∈ o) (atS at_) k y := fun y hy => by
    obtain ⟨j, hj⟩ := List.mem_iff_getElem?.1 hy
    exact h.ahead hg ho ha hal (i := j + 1) (fun q y h0 _ hq => hst q y h0 hq) j y (by omega) hj
  have hrr := ho.rng root hO.r0
  have hrl : root < t.length := by rw [h.len]; exact hrr.2
  have hstab : ∀ z, Sk (· ∈ o) (atS at_) k z → z ≠ root → Mt (Ed g) root (Sk (· ∈ o) (atS at_) k) (atS t) z (atS t z) := fun z hz hzr => by
    obtain ⟨j, hj⟩ := List.mem_iff_getElem?.1 hz.1
    have hj0 : 0 < j := by
      rcases Nat.eq_zero_or_pos j with rfl | h0
      · rw [ho.hd] at hj; exact absurd (Option.some.inj hj).symm hzr
      · exact h0
    have hzR := ho.rng z hz.1
    have e := hst j z hj0 hj
    rcases h.best hg ho ha hal hzR.1 with ⟨h1, _⟩ | ⟨_, h1⟩
    · exact absurd (e.trans h1) ((h.none z hzR.1 hzR.2).2 hz)
    · rw [e]; exact h1
  refine ⟨by rw [List.length_set]; exact h.len, by rw [atS_set hrr.1 hrl hrr.1, if_pos rfl], fun y hy0 hyn hnr => ?_, fun y hy0 hyn hr hne => ?_⟩
  · have hno : y ∉ o := fun hc => hnr (hO.reach.1 hc)
    rw [atS_set hrr.1 hrl hy0, if_neg (fun e : y = root => hno (e ▸ hO.r0))]
    exact Classical.byContradiction fun hc => hno ((h.none y hy0 hyn).1 hc).1
  · have hyo := hO.reach.2 hr
    rw [atS_set hrr.1 hrl hy0, if_neg hne]
    have hu := h.inv.up y (hall y hyo) hne
    have hur := ho.rng _ hu.1.1
    refine ⟨hO.reach.1 hu.1.1, hur.1, hur.2, fun w => ?_⟩
    rw [← h.inv.dom hO hall hstab hu.1.1, ← h.inv.dom hO hall hstab hyo]
    refine ⟨fun hc => ⟨.up hne hc, h.inv.ne (hall y hyo) hne hc⟩, fun ⟨hc, hw⟩ => ?_⟩
    rcases hc.inv with rfl | ⟨_, hc⟩
    · exact absurd rfl hw
    · exact hc
theorem Dom.self {E : Int → Int → Prop} {root a : Int} : Dom E root a a := fun h => h.last rfl
theorem DomTree.unique {t' : List Int} (hr0 : 0 ≤ root) (h : DomTree g root t) (h' : DomTree g root t') : t = t' := by
  refine List.ext_getElem? fun j => ?_
  by_cases hj : j < g.succ.length
  · have e1 : t[j]? = some (atS t j) := by simp [atS, List.getD, List.getElem?_eq_getElem (by rw [h.len]; exact hj : j < t.length)]
    have e2 : t'[j]? = some (atS t' j) := by simp [atS, List.getD, List.getElem?_eq_getElem (by rw [h'.len]; exact hj : j < t'.length)]
    rw [e1, e2]
    refine congrArg some ?_
    by_cases e : (j : Int) = root
    · rw [e, h.top, h'.top]
    · by_cases hr : Rch (Ed g) root j
      · obtain ⟨a1, a2, a3, a4⟩ := h.up j (by omega) (by omega) hr e
        obtain ⟨b1, b2, b3, b4⟩ := h'.up j (by omega) (by omega) hr e
        have c1 := (a4 _).1 Dom.self
        have c2 := (b4 _).1 Dom.self
        exact Dom.anti a1 ((b4 _).2 c1) ((a4 _).2 c2) rfl
      · rw [h.none j (by omega) (by omega) hr, h'.none j (by omega) (by omega) hr]
  · rw [List.getElem?_eq_none (by rw [h.len]; omega), List.getElem?_eq_none (by rw [h'.len]; omega)]
/-- The immediate dominators. -/
noncomputable def treeP (g : FGraph) (root : Int) : List Int := open Classical in if h : ∃ t, DomTree g root t then h.choose else []
theorem treeP_eq (hr0 : 0 ≤ root) (h : DomTree g root t) : treeP g root = t := by
  have he : ∃ t, DomTree g root t := ⟨t, h⟩
  simp only [treeP, dif_pos he]
  exact DomTree.unique hr0 he.choose_spec h
end
end Go.Proofs.YtipmgkhjoekaaaaGreat

set_option linter.unusedVariables false
namespace Go.Proofs.YtipmgkhjoekaaaaGreat
open Go Go.Proofs.YtipmgkhjoekaaaaGreat.Fw
/-! A list turned round, in place. -/
def RevK (l x : List Int) (k : Nat) : Prop := x.length = l.length ∧ ∀ p, p < l.length → x[p]? = if p < k ∨ l.length ≤ p + k then l[l.length - 1 - p]? else l[p]?
theorem revK_zero (l : List Int) : RevK l l 0 := ⟨rfl, fun p hp => by rw [if_neg (by omega)]⟩
theorem revK_set {l x : List Int} {k i j : Nat} {zi zj : Int} (h : RevK l x k) (hi : i = k) (hj : j + k + 1 = l.length) (hlt : i < j) (e1 : x[i]? = some zi) (e2 : x[j]? = some zj) : RevK l ((x.set i zj).set j zi) (k + 1) := by
  subst hi
  refine ⟨by simp [h.1], fun p hp => ?_⟩
  have h1 := h.2 i (by omega); rw [if_neg (by omega), e1] at h1
  have h2 := h.2 j (by omega); rw [if_neg (by omega), e2] at h2
  have hl := h.1
  simp only [List.getElem?_set, List.length_set]
  by_cases hpj : j = p
  · subst hpj; rw [if_pos rfl, if_pos (by omega), if_pos (by omega), h1]; congr 1; omega
  · rw [if_neg hpj]
    by_cases hpi : i = p
    · subst hpi; rw [if_pos rfl, if_pos (by omega), if_pos (by omega), h2]; congr 1; omega
    · rw [if_neg hpi, h.2 p hp]
      by_cases hc : p < i ∨ l.length ≤ p + i
      · rw [if_pos hc, if_pos (by omega)]
      · rw [if_neg hc, if_neg (by omega)]
theorem revK_swap {l x : List Int} {k i j : Nat} {zi zj : Int} (h : RevK l x k) (hi : i = k) (hj : j + k + 1 = l.length) (hlt : i < j) (e1 : x[i]? = some zi) (e2 : x[j]? = some zj) : RevK l ((x.set j zi).set i zj) (k + 1) := by
  have := revK_set h hi hj hlt e1 e2
  rwa [List.set_comm _ _ (by omega : i ≠ j)] at this
theorem revK_end {l x : List Int} {k : Nat} (h : RevK l x k) (hk : l.length ≤ 2 * k + 1) : x = l.reverse := by
  refine List.ext_getElem? fun p => ?_
  by_cases hp : p < l.length
  · rw [h.2 p hp, List.getElem?_reverse hp]
    split
    · rfl
    · congr 1; omega
  · rw [List.getElem?_eq_none (by rw [h.1]; omega), List.getElem?_eq_none (by simp; omega)]
/-! An order under way: what was seen, how far each one went, who waits, who is done. -/
structure OrdSt (g : FGraph) (root : Int) (sn : List Bool) (nx st out : List Int) : Prop where
  sl : sn.length = 64
  nl : nx.length = 64
  nd : (out ++ st.reverse).Nodup
  seen : ∀ y : Int, 0 ≤ y → y < g.succ.length → (sn[y.toNat]? = some true ↔ y ∈ out ++ st.reverse)
  rng : ∀ y : Int, y ∈ out ++ st.reverse → 0 ≤ y ∧ y < g.succ.length
  last : (out ++ st.reverse).getLast? = some root
  pre : ∀ A x B, out ++ st.reverse = A ++ x :: B → B ≠ [] → ∃ p ∈ B, Ed g p x
  nxt : ∀ y : Int, y ∈ out ++ st.reverse → 0 ≤ atS nx y ∧ atS nx y ≤ (g.succ.getD y.toNat []).length ∧ ∀ (j : Nat) z, (j : Int) < atS nx y → (g.succ.getD y.toNat [])[j]? = some z → z ∈ out ++ st.reverse
  fin : ∀ y ∈ out, atS nx y = (g.succ.getD y.toNat []).length
  nx0 : ∀ y : Int, 0 ≤ y → y < g.succ.length → y ∉ out ++ st.reverse → atS nx y = 0
section
variable {g : FGraph} {root : Int} {sn : List Bool} {nx st out : List Int}
theorem OrdSt.len (h : OrdSt g root sn nx st out) : out.length + st.length ≤ g.succ.length := by
  have hs : out ++ st.reverse ⊆ (List.range g.succ.length).map (fun i : Nat => (i : Int)) := fun z hz => by
    have := h.rng z hz
    exact List.mem_map.2 ⟨z.toNat, List.mem_range.2 (by omega), by omega⟩
  have := List.Nodup.length_le_of_subset h.nd hs
  simpa using this
theorem atS_rep (n : Nat) (y : Int) : atS (List.replicate n (0 : Int)) y = 0 := by
  simp only [atS, List.getD, List.getElem?_replicate]; split <;> rfl
theorem rep_ne (n j : Nat) : ¬ (List.replicate n false)[j]? = some true := by
  simp only [List.getElem?_replicate]; split <;> simp
theorem ordSt_init (hg : GOk g) {r : Int} (hr : 0 ≤ r) (hrn : r < g.succ.length) : OrdSt g r ((List.replicate 64 false).set r.toNat true) (List.replicate 64 0) [r] [] := by
  have hl := hg.len
  refine ⟨by simp, by simp, by simp, fun y hy hyn => ?_, fun y hy => ?_, by simp, fun A x B hAB hB => ?_, fun y hy => ?_, fun y hy => by simp at hy, fun y hy hyn hno => ?_⟩
  · rw [List.getElem?_set, List.length_replicate]
    simp only [List.nil_append, List.reverse_cons, List.reverse_nil, List.mem_singleton]
    by_cases e : y = r
    · subst e; simp; omega
    · rw [if_neg (by omega)]
      exact ⟨fun h => absurd h (rep_ne _ _), fun h => absurd h e⟩
  · simp at hy; subst hy; exact ⟨hr, hrn⟩
  · have e : A ++ x :: B = [r] := by simpa using hAB.symm
    cases A with
    | nil => simp at e; exact absurd e.2 hB
    | cons a A => simp at e
  · rw [atS_rep]; exact ⟨by omega, by omega, fun j z hj => by omega⟩
  · exact atS_rep _ _
theorem GOk.lenX (hg : GOk g) (x : Nat) : (g.succ.getD x []).length ≤ g.succ.length := by
  by_cases hx : x < g.succ.length
  · have e : g.succ.getD x [] = g.succ[x] := by simp [List.getD, List.getElem?_eq_getElem hx]
    rw [e]; exact rising_len (hg.rise _ (List.getElem_mem hx))
  · simp [List.getD, List.getElem?_eq_none (by omega : g.succ.length ≤ x)]
/-- One step on along the top's ways, to one that was seen. -/
theorem OrdSt.pass (hg : GOk g) {st0 : List Int} {x y : Int} (hst : st = st0 ++ [x]) (h : OrdSt g root sn nx st out) {j : Nat} (hj : atS nx x = j) (hy : (g.succ.getD x.toNat [])[j]? = some y) (hs : y ∈ out ++ st.reverse) : OrdSt g root sn (nx.set x.toNat (j + 1)) st out := by
  have hxm : x ∈ out ++ st.reverse := by rw [hst]; simp
  have hx := h.rng x hxm
  have hl := hg.len
  have hset : ∀ y, 0 ≤ y → atS (nx.set x.toNat ((j : Int) + 1)) y = if y = x then (j : Int) + 1 else atS nx y := fun y hy => atS_set hx.1 (by rw [h.nl]; omega) hy
  have hjl := (List.getElem?_eq_some_iff.1 hy).1
  refine ⟨h.sl, by rw [List.length_set]; exact h.nl, h.nd, h.seen, h.rng, h.last, h.pre, fun v hv => ?_, fun v hv => ?_, fun v hv hvn hno => ?_⟩
  · rw [hset v (h.rng v hv).1]
    by_cases e : v = x
    · subst e; rw [if_pos rfl]
      refine ⟨by omega, by omega, fun q z hq hz => ?_⟩
      by_cases hqj : q = j
      · subst hqj; rw [hy] at hz; cases hz; exact hs
      · exact (h.nxt v hv).2.2 q z (by omega) hz
    · rw [if_neg e]; exact h.nxt v hv
  · rw [hset v (h.rng v (by simp [hv])).1]
    have hne : v ≠ x := by
      rintro rfl
      have := h.nd
      rw [hst, List.reverse_append, List.nodup_append] at this
      exact this.2.2 _ hv _ (by simp) rfl
    rw [if_neg hne]; exact h.fin v hv
  · rw [hset v hv, if_neg (fun e : v = x => hno (e ▸ hxm))]; exact h.nx0 v hv hvn hno
/-- One that wasn't seen is put on top. -/
theorem OrdSt.push (hg : GOk g) {st0 : List Int} {x y : Int} (hst : st = st0 ++ [x]) (h : OrdSt g root sn nx st out) {j : Nat} (hj : atS nx x = j) (hy : (g.succ.getD x.toNat [])[j]? = some y) (hs : y ∉ out ++ st.reverse) : OrdSt g root (sn.set y.toNat true) (nx.set x.toNat (j + 1)) (st ++ [y]) out := by
  have hxm : x ∈ out ++ st.reverse := by rw [hst]; simp
  have hx := h.rng x hxm
  have hl := hg.len
  have hE : Ed g x y := ⟨hx.1, List.mem_of_getElem? hy⟩
  have hyr := (hE.rng hg).2
  have hset : ∀ y, 0 ≤ y → atS (nx.set x.toNat ((j : Int) + 1)) y = if y = x then (j : Int) + 1 else atS nx y := fun y hy => atS_set hx.1 (by rw [h.nl]; omega) hy
  have hjl := (List.getElem?_eq_some_iff.1 hy).1
  have hmem : ∀ v, v ∈ out ++ (st ++ [y]).reverse ↔ v = y ∨ v ∈ out ++ st.reverse := fun v => by
    simp only [List.mem_append, List.mem_reverse, List.mem_singleton]
    constructor
    · rintro (h | h | h)
      · exact .inr (.inl h)
      · exact .inr (.inr h)
      · exact .inl h
    · rintro (h | h | h)
      · exact .inr (.inr h)
      · exact .inl h
      · exact .inr (.inl h)
  have hxy : x ≠ y := fun e => hs (e ▸ hxm)
  have hrev : out ++ (st ++ [y]).reverse = out ++ y :: st.reverse := by simp
  refine ⟨by rw [List.length_set]; exact h.sl, by rw [List.length_set]; exact h.nl, ?_, fun v hv hvn => ?_, fun v hv => ?_, ?_, fun A v B hAB hB => ?_, fun v hv => ?_, fun v hv => ?_, fun v hv hvn hno => ?_⟩
  · rw [hrev]
    have h1 : (out ++ y :: st.reverse).Perm (y :: (out ++ st.reverse)) := List.perm_middle
    exact h1.nodup_iff.2 (List.nodup_cons.2 ⟨hs, h.nd⟩)
  · rw [hmem, ← h.seen v hv hvn]
    simp only [List.getElem?_set, h.sl]
    by_cases e : v = y
    · subst e; simp; omega
    · rw [if_neg (by omega)]; simp [e]
  · rcases (hmem v).1 hv with rfl | hv
    · exact hyr
    · exact h.rng v hv
  · rw [hrev]
    have := h.last
    rw [hst] at this ⊢
    simp only [List.reverse_append, List.reverse_cons, List.reverse_nil, List.nil_append, List.singleton_append, List.getLast?_append, List.getLast?_cons] at this ⊢
    simpa using this
  · rw [hrev] at hAB
    rcases List.append_eq_append_iff.1 hAB with ⟨A', h1, h2⟩ | ⟨C, h1, h2⟩
    · -- the place lies behind out
      cases A' with
      | nil =>
        simp only [List.nil_append, List.cons.injEq] at h2
        obtain ⟨rfl, rfl⟩ := h2
        exact ⟨x, by rw [hst]; simp, hE⟩
      | cons a A' =>
        simp only [List.cons_append, List.cons.injEq] at h2
        obtain ⟨rfl, h2⟩ := h2
        exact h.pre (out ++ A') v B (by rw [h2]; simp) hB
    · cases C with
      | nil =>
        simp only [List.nil_append, List.cons.injEq] at h2
        obtain ⟨rfl, rfl⟩ := h2
        exact ⟨x, by rw [hst]; simp, hE⟩
      | cons c C =>
        simp only [List.cons_append, List.cons.injEq] at h2
        obtain ⟨rfl, h2⟩ := h2
        obtain ⟨p, hp, hpE⟩ := h.pre A v (C ++ st.reverse) (by rw [h1]; simp) (by rw [hst]; simp)
        refine ⟨p, ?_, hpE⟩
        rw [h2]
        rcases List.mem_append.1 hp with hp | hp
        · simp [hp]
        · simp only [List.mem_append, List.mem_cons]; exact .inr (.inr hp)
  · rcases (hmem v).1 hv with rfl | hv
    · rw [hset v hyr.1, if_neg (Ne.symm hxy), h.nx0 v hyr.1 hyr.2 hs]
      exact ⟨by omega, by omega, fun q z hq => by omega⟩
    · rw [hset v (h.rng v hv).1]
      by_cases e : v = x
      · subst e; rw [if_pos rfl]
        refine ⟨by omega, by omega, fun q z hq hz => ?_⟩
        by_cases hqj : q = j
        · subst hqj; rw [hy] at hz; cases hz; exact (hmem y).2 (.inl rfl)
        · exact (hmem z).2 (.inr ((h.nxt v hv).2.2 q z (by omega) hz))
      · rw [if_neg e]
        have := h.nxt v hv
        exact ⟨this.1, this.2.1, fun q z hq hz => (hmem z).2 (.inr (this.2.2 q z hq hz))⟩
  · rw [hset v (h.rng v (by simp [hv])).1]
    have hne : v ≠ x := by
      rintro rfl
      have := h.nd
      rw [hst, List.reverse_append, List.nodup_append] at this
      exact this.2.2 _ hv _ (by simp) rfl
    rw [if_neg hne]; exact h.fin v hv
  · have hno' : v ∉ out ++ st.reverse := fun h' => hno ((hmem v).2 (.inr h'))
    rw [hset v hv, if_neg (fun e : v = x => hno' (e ▸ hxm))]; exact h.nx0 v hv hvn hno'
/-- The top is done. -/
theorem OrdSt.pop {x : Int} (h : OrdSt g root sn nx (st ++ [x]) out) (hx : atS nx x = (g.succ.getD x.toNat []).length) : OrdSt g root sn nx st (out ++ [x]) := by
  have e : out ++ (st ++ [x]).reverse = out ++ [x] ++ st.reverse := by simp
  have h' := h
  obtain ⟨h1, h2, h3, h4, h5, h6, h7, h8, h9, h10⟩ := h
  rw [e] at h3 h6
  simp only [e] at h4 h5 h7 h8 h10
  refine ⟨h1, h2, h3, h4, h5, h6, h7, h8, fun v hv => ?_, h10⟩
  rcases List.mem_append.1 hv with hv | hv
  · exact h9 v hv
  · simp at hv; subst hv; exact hx
theorem OrdSt.done (h : OrdSt g root sn nx [] out) : OrdL g root out.reverse := by
  obtain ⟨h1, h2, h3, h4, h5, h6, h7, h8, h9, h10⟩ := h
  simp only [List.reverse_nil, List.append_nil] at h3 h4 h5 h6 h7 h8 h10
  have hlen : ∀ (i : Nat) x, out.reverse[i]? = some x → i < out.length ∧ out[out.length - 1 - i]? = some x := fun i x hi => by
    have hil : i < out.length := by have := (List.getElem?_eq_some_iff.1 hi).1; simpa using this
    rw [List.getElem?_reverse hil] at hi
    exact ⟨hil, hi⟩
  refine ⟨((List.reverse_perm out).nodup_iff.2 h3), ?_, fun i x hi h0 => ?_, fun a b ha hE => ?_, fun a ha => h5 a (List.mem_reverse.1 ha)⟩
  · have hne : out ≠ [] := by rintro rfl; simp at h6
    have hl := List.length_pos_iff.2 hne
    rw [List.getElem?_reverse hl, ← h6, List.getLast?_eq_getElem?]
    simp
  · obtain ⟨hil, hx⟩ := hlen i x hi
    have hsp : out = out.take (out.length - 1 - i) ++ x :: out.drop (out.length - i) := by
      have e1 := List.take_append_drop (out.length - 1 - i) out
      have e2 : out.drop (out.length - 1 - i) = x :: out.drop (out.length - 1 - i + 1) := by
        rw [List.drop_eq_getElem_cons (by omega)]
        have := (List.getElem?_eq_some_iff.1 hx).2
        rw [this]
      rw [e2] at e1
      rw [show out.length - i = out.length - 1 - i + 1 by omega]; exact e1.symm
    obtain ⟨p, hp, hE⟩ := h7 _ x _ hsp (by
      intro e; have := congrArg List.length e; simp at this; omega)
    obtain ⟨q, hq⟩ := List.mem_iff_getElem?.1 hp
    rw [List.getElem?_drop] at hq
    have hql := (List.getElem?_eq_some_iff.1 hq).1
    refine ⟨out.length - 1 - (out.length - i + q), p, by omega, ?_, hE⟩
    rw [List.getElem?_reverse (by omega), ← hq]; congr 1; omega
  · have hao := List.mem_reverse.1 ha
    obtain ⟨j, hj⟩ := List.mem_iff_getElem?.1 hE.2
    have := h8 a hao
    exact List.mem_reverse.2 (this.2.2 j b (by rw [h9 a hao]; have := (List.getElem?_eq_some_iff.1 hj).1; omega) hj)
end
theorem exists_snoc {α : Type _} {l : List α} (h : 0 < l.length) : ∃ a b, l = a ++ [b] := by
  rcases List.eq_nil_or_concat l with e | ⟨a, b, e⟩
  · subst e; simp at h
  · exact ⟨a, b, by rw [e, List.concat_eq_append]⟩
/-! The tree, as it begins. -/
theorem treeSt_init {g : FGraph} {r : Int} {o at_ : List Int} (hg : GOk g) (ho : OrdL g r o) (ha : AtOk o at_) : TreeSt g r o at_ ((List.replicate g.succ.length (-2)).set r.toNat r) 1 r := by
  have hr := ho.rng r (List.mem_of_getElem? ho.hd)
  have hO := ho.ord ha
  refine ⟨Inv.init hO _, by simp, fun y hy hyn => ?_, fun z hz => ?_⟩
  · rw [atS_set hr.1 (by simp; omega) hy]
    by_cases e : y = r
    · subst e; rw [if_pos rfl]
      exact ⟨fun _ => ⟨hO.r0, by have := hO.p0; omega⟩, fun _ => by omega⟩
    · rw [if_neg e]
      have e2 : atS (List.replicate g.succ.length (-2 : Int)) y = -2 := by
        simp only [atS, List.getD, List.getElem?_replicate]; rw [if_pos (by omega)]; rfl
      exact ⟨fun h => absurd e2 h, fun h => absurd (Classical.byContradiction fun hc => by have := hO.low h.1 hc; have := h.2; omega) e⟩
  · rcases List.mem_or_eq_of_mem_set hz with hz | rfl
    · have := List.eq_of_mem_replicate hz; omega
    · omega
theorem TreeSt.bestS {g : FGraph} {root : Int} {o at_ t : List Int} {k r : Int} (hg : GOk g) (ho : OrdL g root o) (ha : AtOk o at_) (hal : at_.length = g.succ.length) (h : TreeSt g root o at_ t k r) {x : Int} (hx : 0 ≤ x) {l : List Int} (hl : ∀ p ∈ l, Ed g p x) (hne : bestF t at_ l ≠ -2) : Sk (· ∈ o) (atS at_) k (bestF t at_ l) := by
  rcases bestF_law (h.climb hg ho ha hal) l (fun p hp => by have := (hl p hp).rng hg; exact h.none p this.1.1 this.1.2) with ⟨h1, _⟩ | ⟨_, h1, _⟩
  · exact absurd h1 hne
  · exact h1
/-- Places of an order, put one by one. -/
def AtK (o at_ : List Int) (n k : Nat) : Prop := at_.length = n ∧ (∀ (j : Nat) y, j < k → o[j]? = some y → atS at_ y = j) ∧ ∀ z ∈ at_, 0 ≤ z ∧ z ≤ 64
theorem atK_zero (o : List Int) (n : Nat) : AtK o (List.replicate n 0) n 0 := ⟨by simp, fun j y h => by omega, fun z hz => by have := List.eq_of_mem_replicate hz; omega⟩
theorem atK_step {g : FGraph} {r : Int} {o at_ : List Int} (ho : OrdL g r o) (hl : o.length ≤ 64) {k : Nat} {x : Int} (h : AtK o at_ g.succ.length k) (hx : o[k]? = some x) : AtK o (at_.set x.toNat (k : Int)) g.succ.length (k + 1) := by
  have hxr := ho.rng x (List.mem_of_getElem? hx)
  have hkl := (List.getElem?_eq_some_iff.1 hx).1
  refine ⟨by rw [List.length_set]; exact h.1, fun j y hj hy => ?_, fun z hz => ?_⟩
  · have hyr := ho.rng y (List.mem_of_getElem? hy)
    rw [atS_set hxr.1 (by rw [h.1]; omega) hyr.1]
    by_cases e : y = x
    · subst e; rw [if_pos rfl, nodup_idx ho.nd hy hx]
    · rw [if_neg e]
      refine h.2.1 j y ?_ hy
      rcases Nat.lt_or_ge j k with h' | h'
      · exact h'
      · have : j = k := by omega
        subst this; rw [hx] at hy; exact absurd (Option.some.inj hy).symm e
  · rcases List.mem_or_eq_of_mem_set hz with hz | rfl
    · exact h.2.2 z hz
    · omega
theorem atK_ok {o at_ : List Int} {n : Nat} (h : AtK o at_ n o.length) : AtOk o at_ := fun i x hi => h.2.1 i x (List.getElem?_eq_some_iff.1 hi).1 hi
theorem OrdL.len {g : FGraph} {r : Int} {o : List Int} (ho : OrdL g r o) : o.length ≤ g.succ.length := by
  have hs : o ⊆ (List.range g.succ.length).map (fun i : Nat => (i : Int)) := fun z hz => by
    have := ho.rng z hz
    exact List.mem_map.2 ⟨z.toNat, List.mem_range.2 (by omega), by omega⟩
  have := List.Nodup.length_le_of_subset ho.nd hs
  simpa using this
/-- What Tree hands back. -/
def TreeΦ (g : FGraph) (r : Int) (m : Imm) (v : Value) : Prop := ∃ A c t, v = .slice A t.length c ∧ Ints m A c t ∧ ((mayG g = true ∧ 0 ≤ r ∧ r < g.succ.length) → DomTree g r t ∧ t = treeP g r) ∧ (¬ (mayG g = true ∧ 0 ≤ r ∧ r < g.succ.length) → t = [])
/-- What Order hands back. -/
def OrderΦ (g : FGraph) (r : Int) (m : Imm) (v : Value) : Prop := ∃ A c o, v = .slice A o.length c ∧ Ints m A c o ∧ ((mayG g = true ∧ 0 ≤ r ∧ r < g.succ.length) → OrdL g r o) ∧ (¬ (mayG g = true ∧ 0 ≤ r ∧ r < g.succ.length) → o = [])
end Go.Proofs.YtipmgkhjoekaaaaGreat

namespace Go.Proofs
open Go.Shelf
def Tryz.lays128_ren : Go.Shelf.Ren := ⟨fun | 128 => 177 | n => n, fun | 51 => 177 | 3 => 3 | 4 => 4 | 46 => 147 | 5 => 5 | 9 => 9 | n => n, fun | n => n⟩
theorem Tryz.lays128 : Go.Proofs.Lays.n128 Tryz.prog Tryz.lays128_ren := {
  mixed := by kernel_rfl
  f128 := Tryz.func177.trans (congrArg some (by kernel_rfl))
  t3 := Tryz.underlying3
  a3 := Tryz.isAgg3
  z3 := Tryz.sizeOf3
  v3 := Tryz.zeroValue3
  t4 := Tryz.underlying4
  a4 := Tryz.isAgg4
  z4 := Tryz.sizeOf4
  v4 := Tryz.zeroValue4
  t5 := Tryz.underlying5
  a5 := Tryz.isAgg5
  z5 := Tryz.sizeOf5
  v5 := Tryz.zeroValue5
  t9 := Tryz.underlying9
  a9 := Tryz.isAgg9
  z9 := Tryz.sizeOf9
  v9 := Tryz.zeroValue9
  t46 := Tryz.underlying147
  a46 := Tryz.isAgg147
  z46 := Tryz.sizeOf147
  v46 := Tryz.zeroValue147
  t51 := Tryz.underlying177
  a51 := Tryz.isAgg177
  z51 := Tryz.sizeOf177
  v51 := Tryz.zeroValue177 }
/-- bits.Len32: "Len32 returns the minimum number of bits required to represent x; the result is 0 for x == 0.": IT RETURNS 'Lib.bitLen x'; the world is as it was. ('h0', 'h1': x is a uint32.) (LAID: no walk: one application.) -/
theorem Tryz.bits_Len32 (x : Int) (w : World) (h0 : 0 ≤ x) (h1 : x ≤ 4294967295) :
    Calls Tryz.prog 177 #[.int .u32 x] w fun e w' => e = .returned (.int .i64 (Lib.bitLen x.toNat)) ∧ w' = w := Any.bits_Len32 Tryz.lays128 x w h0 h1
def Tryz.lays125_ren : Go.Shelf.Ren := ⟨fun | 125 => 125 | 128 => 177 | 129 => 178 | n => n, fun | 46 => 147 | 3 => 3 | 51 => 177 | 53 => 49 | 4 => 4 | 5 => 5 | 9 => 9 | n => n, fun | n => n⟩
theorem Tryz.lays125 : Go.Proofs.Lays.n125 Tryz.prog Tryz.lays125_ren := {
  mixed := by kernel_rfl
  f125 := Tryz.func125.trans (congrArg some (by kernel_rfl))
  f128 := Tryz.func177.trans (congrArg some (by kernel_rfl))
  f129 := Tryz.func178.trans (congrArg some (by kernel_rfl))
  t3 := Tryz.underlying3
  a3 := Tryz.isAgg3
  z3 := Tryz.sizeOf3
  v3 := Tryz.zeroValue3
  t4 := Tryz.underlying4
  a4 := Tryz.isAgg4
  z4 := Tryz.sizeOf4
  v4 := Tryz.zeroValue4
  t5 := Tryz.underlying5
  a5 := Tryz.isAgg5
  z5 := Tryz.sizeOf5
  v5 := Tryz.zeroValue5
  t9 := Tryz.underlying9
  a9 := Tryz.isAgg9
  z9 := Tryz.sizeOf9
  v9 := Tryz.zeroValue9
  t46 := Tryz.underlying147
  a46 := Tryz.isAgg147
  z46 := Tryz.sizeOf147
  v46 := Tryz.zeroValue147
  t51 := Tryz.underlying177
  a51 := Tryz.isAgg177
  z51 := Tryz.sizeOf177
  v51 := Tryz.zeroValue177
  t53 := Tryz.underlying49
  a53 := Tryz.isAgg49
  z53 := Tryz.sizeOf49
  v53 := Tryz.zeroValue49 }
/-- bits.Len: "Len returns the minimum number of bits required to represent x; the result is 0 for x == 0.": IT RETURNS 'Lib.bitLen x'; the world is as it was. (A uint has 64 bits in the model.) ITS CALLEE bits.Len64 IS MET BY ITS OWN CONTRACT OFF THE SHELF (lay that first). (LAID: no walk: one application.) -/
theorem Tryz.bits_Len (x : Int) (w : World) (h0 : 0 ≤ x) (h1 : x ≤ 18446744073709551615) :
    Calls Tryz.prog 125 #[.int .u64 x] w fun e w' => e = .returned (.int .i64 (Lib.bitLen x.toNat)) ∧ w' = w := Any.bits_Len Tryz.lays125 x w h0 h1
def Tryz.lays215_ren : Go.Shelf.Ren := ⟨fun | 215 => 200 | n => n, fun | 3 => 3 | 4 => 4 | n => n, fun | n => n⟩
theorem Tryz.lays215 : Go.Proofs.Lays.n215 Tryz.prog Tryz.lays215_ren := {
  mixed := by kernel_rfl
  f215 := Tryz.func200.trans (congrArg some (by kernel_rfl))
  t3 := Tryz.underlying3
  a3 := Tryz.isAgg3
  z3 := Tryz.sizeOf3
  v3 := Tryz.zeroValue3
  t4 := Tryz.underlying4
  a4 := Tryz.isAgg4
  z4 := Tryz.sizeOf4
  v4 := Tryz.zeroValue4 }
open Go.RowKit in
/-- cmp.isNaN at int: 'x != x': false. (LAID: no walk: one application.) -/
theorem Tryz.cmp_isNaN_int (x : Int) (w : World) :
    Calls Tryz.prog 200 #[.int .i64 x] w fun e w' => e = .returned (.bool false) ∧ w' = w := Any.cmp_isNaN_int Tryz.lays215 x w
def Tryz.lays129_ren : Go.Shelf.Ren := ⟨fun | 129 => 178 | n => n, fun | 53 => 49 | 3 => 3 | 4 => 4 | 46 => 147 | 5 => 5 | 9 => 9 | n => n, fun | n => n⟩
theorem Tryz.lays129 : Go.Proofs.Lays.n129 Tryz.prog Tryz.lays129_ren := {
  mixed := by kernel_rfl
  f129 := Tryz.func178.trans (congrArg some (by kernel_rfl))
  t3 := Tryz.underlying3
  a3 := Tryz.isAgg3
  z3 := Tryz.sizeOf3
  v3 := Tryz.zeroValue3
  t4 := Tryz.underlying4
  a4 := Tryz.isAgg4
  z4 := Tryz.sizeOf4
  v4 := Tryz.zeroValue4
  t5 := Tryz.underlying5
  a5 := Tryz.isAgg5
  z5 := Tryz.sizeOf5
  v5 := Tryz.zeroValue5
  t9 := Tryz.underlying9
  a9 := Tryz.isAgg9
  z9 := Tryz.sizeOf9
  v9 := Tryz.zeroValue9
  t46 := Tryz.underlying147
  a46 := Tryz.isAgg147
  z46 := Tryz.sizeOf147
  v46 := Tryz.zeroValue147
  t53 := Tryz.underlying49
  a53 := Tryz.isAgg49
  z53 := Tryz.sizeOf49
  v53 := Tryz.zeroValue49 }
/-- bits.Len64: "Len64 returns the minimum number of bits required to represent x; the result is 0 for x == 0.": IT RETURNS 'Lib.bitLen x'; the world is as it was. ('h0', 'h1': x is a uint64.) (LAID: no walk: one application.) -/
theorem Tryz.bits_Len64 (x : Int) (w : World) (h0 : 0 ≤ x) (h1 : x ≤ 18446744073709551615) :
    Calls Tryz.prog 178 #[.int .u64 x] w fun e w' => e = .returned (.int .i64 (Lib.bitLen x.toNat)) ∧ w' = w := Any.bits_Len64 Tryz.lays129 x w h0 h1
def Tryz.lays189_ren : Go.Shelf.Ren := ⟨fun | 189 => 84 | 125 => 125 | 257 => 124 | 128 => 177 | 129 => 178 | 294 => 168 | 295 => 169 | 296 => 170 | 297 => 171 | 298 => 172 | 299 => 173 | 216 => 174 | 300 => 175 | 301 => 176 | 328 => 195 | 329 => 196 | 330 => 197 | 331 => 198 | 332 => 199 | 215 => 200 | 343 => 210 | n => n, fun | 28 => 22 | 3 => 3 | 46 => 147 | 0 => 0 | 51 => 177 | 53 => 49 | 4 => 4 | 183 => 172 | 182 => 171 | 131 => 105 | 5 => 5 | 9 => 9 | 218 => 190 | 222 => 194 | 228 => 200 | 229 => 111 | n => n, fun | n => n⟩
theorem Tryz.lays189 : Go.Proofs.Lays.n189 Tryz.prog Tryz.lays189_ren := {
  mixed := by kernel_rfl
  f125 := Tryz.func125.trans (congrArg some (by kernel_rfl))
  f128 := Tryz.func177.trans (congrArg some (by kernel_rfl))
  f129 := Tryz.func178.trans (congrArg some (by kernel_rfl))
  f189 := Tryz.func84.trans (congrArg some (by kernel_rfl))
  f215 := Tryz.func200.trans (congrArg some (by kernel_rfl))
  f216 := Tryz.func174.trans (congrArg some (by kernel_rfl))
  f257 := Tryz.func124.trans (congrArg some (by kernel_rfl))
  f294 := Tryz.func168.trans (congrArg some (by kernel_rfl))
  f295 := Tryz.func169.trans (congrArg some (by kernel_rfl))
  f296 := Tryz.func170.trans (congrArg some (by kernel_rfl))
  f297 := Tryz.func171.trans (congrArg some (by kernel_rfl))
  f298 := Tryz.func172.trans (congrArg some (by kernel_rfl))
  f299 := Tryz.func173.trans (congrArg some (by kernel_rfl))
  f300 := Tryz.func175.trans (congrArg some (by kernel_rfl))
  f301 := Tryz.func176.trans (congrArg some (by kernel_rfl))
  f328 := Tryz.func195.trans (congrArg some (by kernel_rfl))
  f329 := Tryz.func196.trans (congrArg some (by kernel_rfl))
  f330 := Tryz.func197.trans (congrArg some (by kernel_rfl))
  f331 := Tryz.func198.trans (congrArg some (by kernel_rfl))
  f332 := Tryz.func199.trans (congrArg some (by kernel_rfl))
  f343 := Tryz.func210.trans (congrArg some (by kernel_rfl))
  t0 := Tryz.underlying0
  a0 := Tryz.isAgg0
  z0 := Tryz.sizeOf0
  v0 := Tryz.zeroValue0
  t3 := Tryz.underlying3
  a3 := Tryz.isAgg3
  z3 := Tryz.sizeOf3
  v3 := Tryz.zeroValue3
  t4 := Tryz.underlying4
  a4 := Tryz.isAgg4
  z4 := Tryz.sizeOf4
  v4 := Tryz.zeroValue4
  t5 := Tryz.underlying5
  a5 := Tryz.isAgg5
  z5 := Tryz.sizeOf5
  v5 := Tryz.zeroValue5
  t9 := Tryz.underlying9
  a9 := Tryz.isAgg9
  z9 := Tryz.sizeOf9
  v9 := Tryz.zeroValue9
  t28 := Tryz.underlying22
  a28 := Tryz.isAgg22
  z28 := Tryz.sizeOf22
  v28 := Tryz.zeroValue22
  t46 := Tryz.underlying147
  a46 := Tryz.isAgg147
  z46 := Tryz.sizeOf147
  v46 := Tryz.zeroValue147
  t51 := Tryz.underlying177
  a51 := Tryz.isAgg177
  z51 := Tryz.sizeOf177
  v51 := Tryz.zeroValue177
  t53 := Tryz.underlying49
  a53 := Tryz.isAgg49
  z53 := Tryz.sizeOf49
  v53 := Tryz.zeroValue49
  t131 := Tryz.underlying105
  a131 := Tryz.isAgg105
  z131 := Tryz.sizeOf105
  v131 := Tryz.zeroValue105
  t182 := Tryz.underlying171
  a182 := Tryz.isAgg171
  z182 := Tryz.sizeOf171
  v182 := Tryz.zeroValue171
  t183 := Tryz.underlying172
  a183 := Tryz.isAgg172
  z183 := Tryz.sizeOf172
  v183 := Tryz.zeroValue172
  t218 := Tryz.underlying190
  a218 := Tryz.isAgg190
  z218 := Tryz.sizeOf190
  v218 := Tryz.zeroValue190
  t222 := Tryz.underlying194
  a222 := Tryz.isAgg194
  z222 := Tryz.sizeOf194
  v222 := Tryz.zeroValue194
  t228 := Tryz.underlying200
  a228 := Tryz.isAgg200
  z228 := Tryz.sizeOf200
  v228 := Tryz.zeroValue200
  t229 := Tryz.underlying111
  a229 := Tryz.isAgg111
  z229 := Tryz.sizeOf111
  v229 := Tryz.zeroValue111 }
open Go.Sort Go.RowKit in
theorem Tryz.slices_Sort_int (blk off cap : Nat) (zs : List Int) (w : World) (hH : Holds (Value.int .i64) w blk off zs.toArray) (hblk : blk < w.heap.size) (hsz : zs.length < 4611686018427387904) :
    Calls Tryz.prog 84 #[.slice (some ⟨blk, off, none⟩) zs.length cap] w fun e w' =>
      e = .returned (.tuple #[]) ∧ ∃ n os, w' = grow (putRow (Value.int .i64) (Sort.ahead w n) blk off (zs.mergeSort fun x y => decide (x ≤ y)).toArray) os := Any.slices_Sort_int Tryz.lays189 blk off cap zs w hH hblk hsz
def Tryz.lays112_ren : Go.Shelf.Ren := ⟨fun | 112 => 106 | n => n, fun | 28 => 22 | 3 => 3 | 4 => 4 | 0 => 0 | n => n, fun | n => n⟩
theorem Tryz.lays112 : Go.Proofs.Lays.n112 Tryz.prog Tryz.lays112_ren := {
  mixed := by kernel_rfl
  f112 := Tryz.func106.trans (congrArg some (by kernel_rfl))
  t0 := Tryz.underlying0
  a0 := Tryz.isAgg0
  z0 := Tryz.sizeOf0
  v0 := Tryz.zeroValue0
  t3 := Tryz.underlying3
  a3 := Tryz.isAgg3
  z3 := Tryz.sizeOf3
  v3 := Tryz.zeroValue3
  t4 := Tryz.underlying4
  a4 := Tryz.isAgg4
  z4 := Tryz.sizeOf4
  v4 := Tryz.zeroValue4
  t28 := Tryz.underlying22
  a28 := Tryz.isAgg22
  z28 := Tryz.sizeOf22
  v28 := Tryz.zeroValue22 }
open Go.RowKit Go.Lib Go.Sort in
/-- slices.Reverse at []int, over an array: Go's loop from the two ends inward is walked; it makes 'Sort.reverseLoop 0 (len - 1)', which is 'Array.reverse' (Derived/Lib/SlicesMore.lean). (LAID: no walk: one application.) -/
theorem Tryz.slices_Reverse_int_arr (blk off cap : Nat) (d : Array Int) (w : World) (hH : Holds encI w blk off d) (hsz : d.size ≤ 9223372036854775807) :
    Calls Tryz.prog 106 #[.slice (some ⟨blk, off, none⟩) d.size cap] w fun e w' => e = .returned (.tuple #[]) ∧ ∃ n, w' = putRow encI (Sort.ahead w n) blk off d.reverse := Any.slices_Reverse_int_arr Tryz.lays112 blk off cap d w hH hsz
open Go.RowKit Go.Lib Go.Sort in
/-- slices.Reverse at []int: "Reverse reverses the elements of the slice in place.": THE SLICE's CELLS HOLD 'zs.reverse' BEHIND THE CALL; all else is as it was, but for the count of draws (the exchange 's[i], s[j] = s[j], s[i]' draws its order, once a round). IN THE WORDS OF slices.Sort's CONTRACT: 'Holds': the cells hold zs and none is frozen; 'putRow': the world with those cells holding another array. A slice of length 0 that is not nil is among them ('zs = []'); nil: '.._nil'. (LAID: no walk: one application.) -/
theorem Tryz.slices_Reverse_int (blk off cap : Nat) (zs : List Int) (w : World) (hH : Holds (Value.int .i64) w blk off zs.toArray) (hsz : zs.length ≤ 9223372036854775807) :
    Calls Tryz.prog 106 #[.slice (some ⟨blk, off, none⟩) zs.length cap] w fun e w' => e = .returned (.tuple #[]) ∧ ∃ n, w' = putRow (Value.int .i64) (Sort.ahead w n) blk off zs.reverse.toArray := Any.slices_Reverse_int Tryz.lays112 blk off cap zs w hH hsz
open Go.RowKit Go.Lib Go.Sort in
/-- The same at a slice of length 0, a nil one too: nothing is read, nothing written, nothing drawn. (LAID: no walk: one application.) -/
theorem Tryz.slices_Reverse_int_empty (a : Option Addr) (cap : Nat) (w : World) :
    Calls Tryz.prog 106 #[.slice a 0 cap] w fun e w' => e = .returned (.tuple #[]) ∧ w' = w := Any.slices_Reverse_int_empty Tryz.lays112 a cap w
def Tryz.laysNm220_ren : Go.Shelf.Ren := ⟨fun | 20 => 85 | n => n, fun | 22 => 22 | 3 => 3 | 4 => 4 | 0 => 0 | n => n, fun | n => n⟩
theorem Tryz.laysNm220 : Go.Proofs.Lays2.n20 Tryz.prog Tryz.laysNm220_ren := {
  mixed := by kernel_rfl
  f20 := Tryz.func85.trans (congrArg some (by kernel_rfl))
  t0 := Tryz.underlying0
  a0 := Tryz.isAgg0
  z0 := Tryz.sizeOf0
  v0 := Tryz.zeroValue0
  t3 := Tryz.underlying3
  a3 := Tryz.isAgg3
  z3 := Tryz.sizeOf3
  v3 := Tryz.zeroValue3
  t4 := Tryz.underlying4
  a4 := Tryz.isAgg4
  z4 := Tryz.sizeOf4
  v4 := Tryz.zeroValue4
  t22 := Tryz.underlying22
  a22 := Tryz.isAgg22
  z22 := Tryz.sizeOf22
  v22 := Tryz.zeroValue22
  i3 := by kernel_rfl }
open Go.RowKit Go.Lib Go.Sort in
/-- slices.Compact at []int, over an array: the library's two loops are walked. (LAID: no walk: one application.) -/
theorem Tryz.slices_Compact_int_arr (blk off cap : Nat) (d : Array Int) (w : World) (hH : Holds encI w blk off d) (hsz : d.size ≤ 9223372036854775807) (hcap : d.size ≤ cap) :
    Calls Tryz.prog 85 #[.slice (some ⟨blk, off, none⟩) d.size cap] w fun e w' => e = .returned (.slice (some ⟨blk, off, none⟩) (compactUpTo d d.size).length cap) ∧ ∃ q, w' = putRow encI (Sort.ahead w q) blk off (compactUpTo d d.size ++ List.replicate (d.size - (compactUpTo d d.size).length) 0).toArray := Any.slices_Compact_int_arr Tryz.laysNm220 blk off cap d w hH hsz hcap
open Go.RowKit Go.Lib Go.Sort in
/-- slices.Compact at []int: "Compact replaces consecutive runs of equal elements with a single copy. This is like the uniq command found on Unix. Compact modifies the contents of the slice s and returns the modified slice, which may have a smaller length. Compact zeroes the elements between the new length and the original length. The result preserves the nilness of s.": IT RETURNS THE SLICE CUT TO 'Lib.compact zs'; ITS CELLS HOLD 'Lib.compact zs', THEN ZERO VALUES up to the old length; all else is as it was, but for the count of draws. IN THE WORDS OF slices.Sort's CONTRACT ('Holds', 'putRow'): so the everyday 'slices.Sort(xs); xs = slices.Compact(xs)' goes from the one contract to the other. It asks 'zs.length ≤ cap' (every slice's: the reslicing 's[:k]' looks at it). Length 0, nil: '.._empty'. (LAID: no walk: one application.) -/
theorem Tryz.slices_Compact_int (blk off cap : Nat) (zs : List Int) (w : World) (hH : Holds (Value.int .i64) w blk off zs.toArray) (hsz : zs.length ≤ 9223372036854775807) (hcap : zs.length ≤ cap) :
    Calls Tryz.prog 85 #[.slice (some ⟨blk, off, none⟩) zs.length cap] w fun e w' => e = .returned (.slice (some ⟨blk, off, none⟩) (Lib.compact zs).length cap) ∧ ∃ q, w' = putRow (Value.int .i64) (Sort.ahead w q) blk off (Lib.compact zs ++ List.replicate (zs.length - (Lib.compact zs).length) 0).toArray := Any.slices_Compact_int Tryz.laysNm220 blk off cap zs w hH hsz hcap
open Go.RowKit Go.Lib Go.Sort in
/-- The same at a slice of length 0, a nil one too: it comes back as it is. (LAID: no walk: one application.) -/
theorem Tryz.slices_Compact_int_empty (a : Option Addr) (cap : Nat) (w : World) :
    Calls Tryz.prog 85 #[.slice a 0 cap] w fun e w' => e = .returned (.slice a 0 cap) ∧ w' = w := Any.slices_Compact_int_empty Tryz.laysNm220 a cap w
open Go.RowKit Go.Lib Go.Sort in
/-- slices.Reverse at []int, of an argument: the n cells hold the elements in reverse. (LAID: no walk: one application.) -/
theorem Tryz.slices_Reverse_int_cells (b off n c : Nat) (zs : List Int) (w : World) (hz : n ≤ zs.length) (hbig : n ≤ 9223372036854775807) (hc : ∀ j, j < zs.length → w.cell? ⟨b, off + j, none⟩ = some (.int .i64 (zs.getD j 0))) (hf : ∀ j, j < n → w.frozen? ⟨b, off + j, none⟩ = false) :
    Calls Tryz.prog 106 #[.slice (some ⟨b, off, none⟩) n c] w fun e w' => e = .returned (.tuple #[]) ∧ ∃ q, w' = (w.drewN q).setCells b off ((zs.take n).reverse.map (Value.int .i64)) := Any.slices_Reverse_int_cells Tryz.lays112 b off n c zs w hz hbig hc hf
open Go.RowKit Go.Lib Go.Sort in
/-- slices.Compact at []int, of an argument: the slice cut to 'Lib.compact (elements)'; the n cells hold that, then zeros. (LAID: no walk: one application.) -/
theorem Tryz.slices_Compact_int_cells (b off n c : Nat) (zs : List Int) (w : World) (hz : n ≤ zs.length) (hbig : n ≤ 9223372036854775807) (hcap : n ≤ c) (hc : ∀ j, j < zs.length → w.cell? ⟨b, off + j, none⟩ = some (.int .i64 (zs.getD j 0))) (hf : ∀ j, j < n → w.frozen? ⟨b, off + j, none⟩ = false) :
    Calls Tryz.prog 85 #[.slice (some ⟨b, off, none⟩) n c] w fun e w' => e = .returned (.slice (some ⟨b, off, none⟩) (Lib.compact (zs.take n)).length c) ∧ ∃ q, w' = (w.drewN q).setCells b off ((Lib.compact (zs.take n) ++ List.replicate (n - (Lib.compact (zs.take n)).length) 0).map (Value.int .i64)) := Any.slices_Compact_int_cells Tryz.laysNm220 b off n c zs w hz hbig hcap hc hf
open Go.RowKit Go.Sort in
/-- .. and plain. (LAID: no walk: one application.) -/
theorem Tryz.slices_Sort_int_none (p : Option Addr) (cap : Nat) (w : World) :
    Calls Tryz.prog 84 #[.slice p 0 cap] w fun e w' => e = .returned (.tuple #[]) ∧ w' = w := Any.slices_Sort_int_none Tryz.lays189 p cap w
end Go.Proofs

set_option linter.unusedVariables false
namespace Go.Proofs
open Go.RowKit Go.Maps Go.Sort Go.Shelf
attribute [local go_sem] Oper.semAt_some
def Tryz.zi6_ren : Go.Shelf.Ren := ⟨fun | 6 => 102 | 8 => 131 | 9 => 84 | 11 => 180 | n => n, fun | 26 => 3 | 28 => 121 | 24 => 22 | 0 => 0 | 3 => 3 | 4 => 4 | 33 => 48 | n => n, fun | n => n⟩
theorem Tryz.zi6 : SlLaysZI.n6 Tryz.prog Tryz.zi6_ren := {
  mixed := by kernel_rfl
  f6 := ⟨Tryz.f102.name, by decide, Tryz.func102.trans (congrArg some (by kernel_rfl))⟩
  f8 := ⟨Tryz.f131.name, by decide, Tryz.func131.trans (congrArg some (by kernel_rfl))⟩
  f11 := ⟨Tryz.f180.name, by decide, Tryz.func180.trans (congrArg some (by kernel_rfl))⟩
  t0 := Tryz.underlying0
  a0 := Tryz.isAgg0
  z0 := Tryz.sizeOf0
  v0 := Tryz.zeroValue0
  t24 := Tryz.underlying22
  a24 := Tryz.isAgg22
  z24 := Tryz.sizeOf22
  v24 := Tryz.zeroValue22
  t26 := Tryz.underlying3
  a26 := Tryz.isAgg3
  z26 := Tryz.sizeOf3
  v26 := Tryz.zeroValue3
  t28 := Tryz.underlying121
  a28 := Tryz.isAgg121
  z28 := Tryz.sizeOf121
  v28 := Tryz.zeroValue121
  i26 := by kernel_rfl }
set_option maxRecDepth 100000 in
set_option maxHeartbeats 2000000 in
/-- The closure of slices.Values, for a loop body that keeps what lay below n₀. -/
theorem Tryz.values1_in (F : Fence) (n : Nat) (hf : F.fn 132) (hro : F.round = none) (hn : 1 ≤ n) (l Bs n₀ b off len cap : Nat) (zs : List Int) (hz : zs.length = len) (hr : len ≤ 1000000) (hb : b < n₀) (hBn : Bs < n₀) (W0 : World) (J : List Int → World → Prop)
    (hJB : ∀ s W', J s W' → Below n₀ W0 W')
    (hY : ∀ pre x W, J pre W → pre.length < len → YieldAt F (n - 1) Tryz.prog l #[.int .i64 x] W fun e W' => e = .returned (.bool true) ∧ J (pre ++ [x]) W' ∧ KeepsWalks W W')
    (W : World) (hBs : W0.cell? ⟨Bs, 0, none⟩ = some (.slice (some ⟨b, off, none⟩) len cap)) (hc : ∀ j, j < len → W0.cell? ⟨b, off + j, none⟩ = some (.int .i64 (zs[j]?.getD 0))) (h0 : J [] W) :
    CallsIn F n Tryz.prog 132 #[.func (.yield l) #[] #[], .pointer (some ⟨Bs, 0, none⟩)] W fun e W' => (∃ v, e = .returned v) ∧ J zs W' := by
  have hBs' : W.cell? ⟨Bs, 0, none⟩ = some (.slice (some ⟨b, off, none⟩) len cap) := ((hJB _ _ h0).cell (p := ⟨Bs, 0, none⟩) hBn).trans hBs
  refine callsIn_of_wp Tryz.func132 rfl hf ?_ hro
  simp only [Tryz.ntmps132, List.size_toArray, List.length_cons, List.length_nil, Nat.reduceAdd, Nat.reduceSub, Array.replicate_succ, Array.replicate_zero, List.push_toArray, List.append_toArray, List.nil_append, List.cons_append]
  gi_wp2
  gi_loopw [7] (fun i wr => ∃ k : Nat, k ≤ len ∧ i = .int .i64 k ∧ J (zs.take k) wr)
    (fun i _ => len - (intOf i).toNat)
  case atStart => exact ⟨0, Nat.zero_le _, rfl, by simpa using h0⟩
  case round =>
    obtain ⟨k, hk, rfl, hJs⟩ := hrel
    have hnx := hJB _ _ hJs
    have hcx : k < len → wr.cell? ⟨b, off + k, none⟩ = some (.int .i64 (zs[k]?.getD 0)) := fun h => (hnx.cell (p := ⟨b, off + k, none⟩) hb).trans (hc k h)
    by_cases hlt : k < len
    · obtain ⟨z, hzk⟩ : ∃ z, zs[k]?.getD 0 = z := ⟨_, rfl⟩
      have hcx' := hcx hlt
      rw [hzk] at hcx'
      obtain ⟨fn, tmps, assign, body, hy, hR⟩ := hY _ z wr hJs (by rw [List.length_take]; omega)
      have hnext : zs.take (k + 1) = zs.take k ++ [z] := by
        rw [List.take_add_one, List.getElem?_eq_getElem (by omega)]
        rw [List.getElem?_eq_getElem (by omega)] at hzk
        simp only [Option.getD_some] at hzk
        simp [hzk]
      clear hzk hcx
      gi_wp2
      refine hR.mono ?_
      rintro e W3 ⟨rfl, hJ3, hk3⟩
      gi_wp2
      go_roundw
      case rel =>
        exact ⟨k + 1, by omega, by simp, by rw [hnext]; exact hJ3⟩
      case measure => simp [intOf]; omega
    · obtain rfl : k = len := by omega
      gi_wp2
      go_end0
      exact ⟨⟨_, rfl⟩, by rwa [← hz, List.take_length] at hJs⟩
set_option maxRecDepth 100000 in
set_option maxHeartbeats 1000000 in
/-- At a slice without an element: no round. -/
theorem Tryz.values0_in (F : Fence) (n : Nat) (hf : F.fn 132) (hro : F.round = none) (l Bs : Nat) (a : Option Addr) (cap : Nat) (J : List Int → World → Prop) (W : World) (hBs : W.cell? ⟨Bs, 0, none⟩ = some (.slice a 0 cap)) (h0 : J [] W) :
    CallsIn F n Tryz.prog 132 #[.func (.yield l) #[] #[], .pointer (some ⟨Bs, 0, none⟩)] W fun e W' => (∃ v, e = .returned v) ∧ J [] W' := by
  refine callsIn_of_wp Tryz.func132 rfl hf ?_ hro
  simp only [Tryz.ntmps132, List.size_toArray, List.length_cons, List.length_nil, Nat.reduceAdd, Nat.reduceSub, Array.replicate_succ, Array.replicate_zero, List.push_toArray, List.append_toArray, List.nil_append, List.cons_append]
  gi_wp2
  gi_loopw [7] (fun i wr => i = .int .i64 0 ∧ J [] wr) (fun _ _ => 0)
  case atStart => exact ⟨rfl, h0⟩
  case round =>
    obtain ⟨rfl, hJs⟩ := hrel
    gi_wp2
    go_end0
    exact ⟨⟨_, rfl⟩, hJs⟩
/-- What lies in a world: a box with a slice of numbers. -/
structure Tryz.Boxed (w : World) (Bs : Nat) (a : Option Addr) (cap : Nat) (zs : List Int) : Prop where
  lt : Bs < w.heap.size
  box : w.cell? ⟨Bs, 0, none⟩ = some (.slice a zs.length cap)
  elems : zs = [] ∨ ∃ b off, a = some ⟨b, off, none⟩ ∧ b < w.heap.size ∧ ∀ j, j < zs.length → w.cell? ⟨b, off + j, none⟩ = some (.int .i64 (zs[j]?.getD 0))
theorem Tryz.values_in (F : Fence) (n : Nat) (hf : F.fn 132) (hro : F.round = none) (hn : 1 ≤ n) (l Bs : Nat) (a : Option Addr) (cap : Nat) (zs : List Int) (hr : zs.length ≤ 1000000) (w : World) (hB : Tryz.Boxed w Bs a cap zs) (J : List Int → World → Prop)
    (hJB : ∀ s W', J s W' → Below w.heap.size w W')
    (hY : ∀ pre x W, J pre W → pre.length < zs.length → YieldAt F (n - 1) Tryz.prog l #[.int .i64 x] W fun e W' => e = .returned (.bool true) ∧ J (pre ++ [x]) W' ∧ KeepsWalks W W')
    (W : World) (h0 : J [] W) : CallsIn F n Tryz.prog 132 #[.func (.yield l) #[] #[], .pointer (some ⟨Bs, 0, none⟩)] W fun e W' => (∃ v, e = .returned v) ∧ J zs W' := by
  rcases hB.elems with rfl | ⟨b, off, rfl, hb, hc⟩
  · exact Tryz.values0_in F n hf hro l Bs a cap J W (((hJB _ _ h0).cell (p := ⟨Bs, 0, none⟩) hB.lt).trans hB.box) h0
  · exact Tryz.values1_in F n hf hro hn l Bs w.heap.size b off zs.length cap zs rfl hr hb hB.lt w J hJB hY W hB.box hc h0
set_option maxRecDepth 100000 in
set_option maxHeartbeats 2000000 in
/-- slices.AppendSeq(nil, slices.Values(l)). -/
theorem Tryz.appendValues_in (F : Fence) (n : Nat) (h11 : F.fn 180) (hf : F.fn 132) (hro : F.round = none) (hn : 3 ≤ n) (Bs : Nat) (a : Option Addr) (cap : Nat) (zs : List Int) (hr : zs.length ≤ 1000000) (w : World) (hB : Tryz.Boxed w Bs a cap zs) :
    CallsIn F n Tryz.prog 180 #[.slice none 0 0, .func (.func 132) #[] #[.pointer (some ⟨Bs, 0, none⟩)]] w fun e w' => ∃ (v : Value), e = .returned v ∧ w'.ownsRow w.heap.size 3 1 v zs.length (zs.map encZ) ∧ (v = .slice none 0 0 ↔ zs = []) ∧ Below w.heap.size w w' := by
  have h1 : 1 ≤ n := by omega
  have hne : (22 : Nat) ≠ 3 := by decide
  have L := Tryz.zi6
  have mixed := L.mixed; have t0 := L.t0; have a0 := L.a0; have z0 := L.z0; have v0 := L.v0; have t24 := L.t24; have a24 := L.a24; have z24 := L.z24; have v24 := L.v24; have t26 := L.t26; have a26 := L.a26; have z26 := L.z26; have v26 := L.v26; have t28 := L.t28; have a28 := L.a28; have z28 := L.z28; have v28 := L.v28
  have eg : ∀ args w, (callFunc 132 args).run Tryz.prog w = .ok (.enter 132 args) w := enters_of Tryz.func132 (by kernel_rfl) rfl
  generalize hlb : (#[.pointer (some ⟨Bs, 0, none⟩)] : Array Value) = lb
  refine callsIn_of_wp_marks Tryz.func180 rfl h11 ?_ hro
  simp only [Tryz.ntmps180, List.size_toArray, List.length_cons, List.length_nil, Nat.reduceAdd, Nat.reduceSub, Array.replicate_succ, Array.replicate_zero, List.push_toArray, List.append_toArray, List.nil_append, List.cons_append]
  gi_wp2
  refine wpIn_rangeFunc ?_
  intro fn hfn
  rw [hro]
  obtain ⟨W0, hW0⟩ : ∃ W0, w.alloc (.cells #[.slice none 0 0] 22) = W0 := ⟨_, rfl⟩
  have hs0 : W0.heap.size = w.heap.size + 1 := by rw [← hW0]; simp
  have hv0 : W0.heap[w.heap.size]? = some (.cells #[.slice none 0 0] 22 (0, 0)) := by rw [← hW0]; exact World.alloc_heap_new w _
  have hb0 : Below w.heap.size w W0 := by rw [← hW0]; exact (Below.refl _ w).alloc (Nat.le_refl _) _
  rw [hW0]
  obtain ⟨W1, hW1⟩ : ∃ W1, (W0.alloc (.deferred (some []))).alloc (.loop (AnyZI.apRec Tryz.zi6_ren fn (.func (.func 132) #[] lb) w.heap.size W0.heap.size .ready none)) = W1 := ⟨_, rfl⟩
  have hold : ∀ k, k < W0.heap.size → W1.heap[k]? = W0.heap[k]? := fun k hk => by
    rw [← hW1]; exact (Below.heap_alloc _ _ k (by simp; omega)).trans (Below.heap_alloc _ _ k hk)
  have hb1 : Below w.heap.size w W1 := by rw [← hW1]; exact (hb0.alloc hb0.size _).alloc (by have := hb0.size; simp; omega) _
  have hs1 : W1.heap.size = W0.heap.size + 2 := by rw [← hW1]; simp
  have hM : AnyZI.ApAt Tryz.zi6_ren w fn (.func (.func 132) #[] lb) w.heap.size (W0.heap.size + 1) W0.heap.size [] W1 :=
    ⟨⟨_, (hold w.heap.size (by omega)).trans hv0, ⟨rfl, .inl ⟨rfl, rfl⟩⟩, by simp⟩,
     by rw [← hW1]; have := World.alloc_heap_new (W0.alloc (.deferred (some []))) (.loop (AnyZI.apRec Tryz.zi6_ren fn (.func (.func 132) #[] lb) w.heap.size W0.heap.size .ready none)); rwa [World.size_alloc] at this,
     by rw [← hW1]; exact (Below.heap_alloc _ _ _ (by simp)).trans (World.alloc_heap_new W0 _), hb1⟩
  refine ⟨W0.heap.size + 1, [{ target := .collected W0.heap.size, args := #[] }], W1, { target := .fn (.func 132) lb, args := #[.func (.yield (W0.heap.size + 1)) #[] #[]] }, W1, 132,
    #[.func (.yield (W0.heap.size + 1)) #[] #[]] ++ lb, W1, ?_, ?_, ?_, ?_, fun _ => h1, ?_⟩
  · rw [← hW1]; exact run_enterLoop_outer _ _ _ _ _
  · simp [resolve, go_sem]
  · intro f' hf'; simp [Target.leads] at hf'; subst hf'; exact hf
  · simp [invoke, go_sem, eg]
  · subst hlb
    refine (Tryz.values_in F (n - 1) hf hro (by omega) (W0.heap.size + 1) Bs a cap zs hr w hB (AnyZI.ApAt Tryz.zi6_ren w fn (.func (.func 132) #[] #[.pointer (some ⟨Bs, 0, none⟩)]) w.heap.size (W0.heap.size + 1) W0.heap.size) (fun s W' h => h.below)
      (fun pre x W hJ hl => AnyZI.apYield { L with } F (n - 1 - 1) w fn hfn _ w.heap.size (W0.heap.size + 1) W0.heap.size (by omega) (by omega) (by omega) (Nat.le_refl _) (by omega) zs.length (by unfold maxLen; omega) (by omega) pre x W hJ hl) W1 hM).mono ?_
    rintro e W2 ⟨⟨v0, rfl⟩, h2⟩
    obtain ⟨v, hv, hrow, hnil⟩ := h2.box
    have hend := run_endLoop (P := Tryz.prog) h2.L (by simp [AnyZI.apRec])
    obtain ⟨W3, hW3⟩ : ∃ W3, W2.putObj (W0.heap.size + 1) (.loop { AnyZI.apRec Tryz.zi6_ren fn (.func (.func 132) #[] #[.pointer (some ⟨Bs, 0, none⟩)]) w.heap.size W0.heap.size .ready none with state := .exhausted }) = W3 := ⟨_, rfl⟩
    rw [hW3] at hend
    have hg3 : W2.grownBy W3 (some (W0.heap.size + 1)) := by rw [← hW3]; exact grownBy_putObj_a _ _ _
    have hv3 : W3.heap[w.heap.size]? = some (.cells #[v] 22 (0, 0)) := by rw [← hW3]; exact (World.putObj_heap_other (by omega)).trans hv
    have hK3 : W3.heap[W0.heap.size]? = some (.deferred (some [])) := by rw [← hW3]; exact (World.putObj_heap_other (by omega)).trans h2.K
    have hrow3 := hrow.kept hg3 (ownsRow_ne_a hrow h2.L (fun cur e => by first | cases e | exact hne (Obj.cells.inj e).2.1))
    have hb3 : Below w.heap.size w W3 := h2.below.grown hg3 h2.below.size (fun k e => by cases e; omega)
    obtain ⟨hc3, hf3⟩ := cell_of_box_a hv3
    clear hW3
    refine ⟨none, W3, hend, ?_⟩
    gi_wp2
    rw [← hs0]
    refine ⟨by simp, .inl ⟨_, _, rfl, run_takeDeferred hK3, ?_⟩⟩
    exact ⟨_, results_tmp rfl _ _ _, v, rfl, hrow3.kept (grownBy_putObj_a _ _ _) (ownsRow_ne_a hrow3 hK3 (fun cur e => by first | cases e | exact hne (Obj.cells.inj e).2.1)), hnil, hb3.grown (grownBy_putObj_a _ _ _) hb3.size (fun k e => by cases e; omega)⟩
set_option maxHeartbeats 1000000 in
/-- slices.Collect(slices.Values(l)). -/
theorem Tryz.collectValues_in (Bs : Nat) (a : Option Addr) (cap : Nat) (zs : List Int) (hr : zs.length ≤ 1000000) (w : World) (hB : Tryz.Boxed w Bs a cap zs) :
    CallsIn Fence.wide 4 Tryz.prog 131 #[.func (.func 132) #[] #[.pointer (some ⟨Bs, 0, none⟩)]] w fun e w' => ∃ (v : Value), e = .returned v ∧ w'.ownsRow w.heap.size 3 1 v zs.length (zs.map encZ) ∧ (v = .slice none 0 0 ↔ zs = []) ∧ Below w.heap.size w w' := by
  have h1 : 1 ≤ 4 := by omega
  have e180 : ∀ args w, (callFunc 180 args).run Tryz.prog w = .ok (.enter 180 args) w := enters_of Tryz.func180 (by kernel_rfl) rfl
  have hf180 : Fence.wide.fn 180 := trivial
  have cA := Tryz.appendValues_in Fence.wide 3 trivial trivial rfl (by omega) Bs a cap zs hr w hB
  refine callsIn_of_wp Tryz.func131 rfl trivial ?_ rfl
  simp only [Tryz.ntmps131, List.size_toArray, List.length_cons, List.length_nil, Nat.reduceAdd, Nat.reduceSub, Array.replicate_succ, Array.replicate_zero, List.push_toArray, List.append_toArray, List.nil_append, List.cons_append]
  gi_wp2_with (gi_at_call 180; refine cA.mono ?_; rintro e w' ⟨v, rfl, hrow, hnil, hb⟩)
  go_ret
  exact ⟨v, rfl, hrow, hnil, hb⟩
set_option maxHeartbeats 1000000 in
/-- slices.Sorted(slices.Values(l)): a new slice, of the numbers in their order. -/
theorem Tryz.sortedValues (Bs : Nat) (a : Option Addr) (cap : Nat) (zs : List Int) (hr : zs.length ≤ 1000000) (w : World) (hB : Tryz.Boxed w Bs a cap zs) :
    Calls Tryz.prog 102 #[.func (.func 132) #[] #[.pointer (some ⟨Bs, 0, none⟩)]] w fun e w' => ∃ (v : Value), e = .returned v ∧ w'.ownsRow w.heap.size 3 1 v zs.length ((zs.mergeSort fun x y => decide (x ≤ y)).map encZ) ∧ Below w.heap.size w w' := by
  refine (callsIn_wide (n := 5)).1 ?_
  have h1 : 1 ≤ 5 := by omega
  have e131 : ∀ args w, (callFunc 131 args).run Tryz.prog w = .ok (.enter 131 args) w := enters_of Tryz.func131 (by kernel_rfl) rfl
  have e84 : ∀ args w, (callFunc 84 args).run Tryz.prog w = .ok (.enter 84 args) w := enters_of Tryz.func84 (by kernel_rfl) rfl
  have hf131 : Fence.wide.fn 131 := trivial
  have hf84 : Fence.wide.fn 84 := trivial
  have cC := Tryz.collectValues_in Bs a cap zs hr w hB
  refine callsIn_of_wp Tryz.func102 rfl trivial ?_ rfl
  simp only [Tryz.ntmps102, List.size_toArray, List.length_cons, List.length_nil, Nat.reduceAdd, Nat.reduceSub, Array.replicate_succ, Array.replicate_zero, List.push_toArray, List.append_toArray, List.nil_append, List.cons_append]
  gi_wp2_with (gi_at_call 131; refine cC.mono ?_; rintro e W ⟨v, rfl, hrow, hnil, hb⟩)
  rcases hrow.2 with ⟨rfl, hz⟩ | ⟨gb, cap, cur, rfl, hbase, hgb, r1, r2, r3, r4⟩
  · have hss : zs = [] := List.eq_nil_of_length_eq_zero hz
    subst hss
    have cS : CallsIn Fence.wide 4 Tryz.prog 84 #[.slice none 0 0] W fun e w' => e = .returned (.tuple #[]) ∧ w' = W := callsIn_wide.2 (Tryz.slices_Sort_int_none none 0 W)
    gi_wp2_with (gi_at_call 84; refine cS.mono ?_; rintro e w' ⟨rfl, rfl⟩)
    go_ret
    exact ⟨.slice none 0 0, rfl, by simpa using hrow, hb⟩
  · have hH : Holds encZ W gb 0 zs.toArray := holds_of_block_i hgb (by simpa using r4)
    have hgl : gb < W.heap.size := (Array.getElem?_eq_some_iff.1 hgb).1
    have cS : CallsIn Fence.wide 4 Tryz.prog 84 #[.slice (some ⟨gb, 0, none⟩) zs.length cap] W fun e w' => e = .returned (.tuple #[]) ∧ ∃ n os, w' = grow (putRow encZ (Sort.ahead W n) gb 0 (zs.mergeSort fun x y => decide (x ≤ y)).toArray) os := callsIn_wide.2 (Tryz.slices_Sort_int gb 0 cap zs W hH hgl (by omega))
    gi_wp2_with (gi_at_call 84; refine cS.mono ?_; rintro e w' ⟨rfl, nn, os, rfl⟩)
    go_ret
    exact ⟨_, rfl, ownsRow_sorted_i (by simp) hbase hgb r1 r2 r3, hb.grown (grownBy_sorted_i _) hb.size (fun j hj => by cases hj; exact hbase)⟩
end Go.Proofs

set_option linter.unusedVariables false
namespace Go.Proofs.YtipmgkhjoekaaaaGreat
open Go Go.Proofs.YtipmgkhjoekaaaaGreat.Fw
/-! A function's graph. -/
/-- In order, each once. -/
def sortC (l : List Int) : List Int := Lib.compact (l.mergeSort fun x y => decide (x ≤ y))
theorem compact_sub (l : List Int) : ∀ x ∈ Lib.compact l, x ∈ l := by
  intro x hx
  simp only [Lib.compact, Lib.compactUpTo, List.mem_map, List.mem_filter, List.mem_range] at hx
  obtain ⟨j, ⟨hj, _⟩, rfl⟩ := hx
  have : l.toArray[j]! = l[j] := by rw [getElem!_pos _ j (by simpa using hj)]; simp
  rw [this]; exact List.getElem_mem hj
theorem sortC_sub (l : List Int) : ∀ x ∈ sortC l, x ∈ l := fun x hx => List.mem_mergeSort.1 (compact_sub _ x hx)
theorem sortC_i64 {l : List Int} (h : ∀ z ∈ l, I64 z) : ∀ z ∈ sortC l, I64 z := fun z hz => h z (sortC_sub l z hz)
theorem sortC_len (l : List Int) : (sortC l).length ≤ l.length := by
  have := compact_len (l.mergeSort fun x y => decide (x ≤ y))
  rwa [List.length_mergeSort] at this
def badB (n : Nat) (b : FBlk) : Bool := (goesK b.fin.kind != (b.fin.to.length : Int)) || b.fin.to.any fun k => decide (k < 1) || decide ((n : Int) ≤ k)
def ofP (f : FFun) : Option FGraph := if 64 < f.blocks.length then none else if f.blocks.any (badB f.blocks.length) then none else makeP (f.blocks.map fun b => sortC b.fin.to)
theorem take_map_succ {α β : Type _} {F : α → β} {l : List α} {k : Nat} {z : α} (h : l[k]? = some z) : (l.take (k + 1)).map F = (l.take k).map F ++ [F z] := by
  rw [List.take_add_one, h]; simp
theorem goes_len {n : Nat} {b : FBlk} (h : badB n b = false) : b.fin.to.length ≤ 2 := by
  simp only [badB, Bool.or_eq_false_iff, bne_eq_false_iff_eq] at h
  have h1 := h.1
  simp only [goesK] at h1
  split at h1
  · omega
  · split at h1
    · omega
    · split at h1 <;> omega
theorem ofP_big {f : FFun} (h : 64 < f.blocks.length) : ofP f = none := by rw [ofP, if_pos h]
theorem ofP_bad {f : FFun} {k : Nat} {b : FBlk} (hk : f.blocks[k]? = some b) (hb : badB f.blocks.length b = true) : ofP f = none := by
  rw [ofP]; split
  · rfl
  · rw [if_pos (List.any_eq_true.2 ⟨b, List.mem_of_getElem? hk, hb⟩)]
theorem ofP_ok {f : FFun} (h : ¬ 64 < f.blocks.length) (hb : ∀ j b, j < f.blocks.length → f.blocks[j]? = some b → badB f.blocks.length b = false) : ofP f = makeP (f.blocks.map fun b => sortC b.fin.to) := by
  rw [ofP, if_neg h, if_neg]
  intro hc
  obtain ⟨b, hm, hx⟩ := List.any_eq_true.1 hc
  obtain ⟨j, hj⟩ := List.mem_iff_getElem?.1 hm
  rw [hb j b (List.getElem?_eq_some_iff.1 hj).1 hj] at hx; cases hx
end Go.Proofs.YtipmgkhjoekaaaaGreat

set_option linter.unusedVariables false
namespace Go.Proofs.YtipmgkhjoekaaaaGreat
open Go Go.Proofs.YtipmgkhjoekaaaaGreat.Fw
/-! What is right. -/
theorem makeP_some {succ : List (List Int)} {g : FGraph} (h : makeP succ = some g) : mayG g = true ∧ g = ⟨succ, predsP succ⟩ ∧ 1 ≤ succ.length := by
  have h0 := h
  unfold makeP at h
  split at h
  · cases h
  · rename_i hc
    cases h
    refine ⟨by rw [mayG, h0]; simp [graphQ], rfl, ?_⟩
    rw [Bool.not_eq_true, Bool.or_eq_false_iff, decide_eq_false_iff_not] at hc
    omega
theorem ofP_some {f : FFun} {g : FGraph} (h : ofP f = some g) : mayG g = true ∧ g.succ = (f.blocks.map fun b => sortC b.fin.to) ∧ g.succ.length = f.blocks.length ∧ 1 ≤ f.blocks.length ∧ f.blocks.length ≤ 64 := by
  unfold ofP at h
  split at h
  · cases h
  · split at h
    · cases h
    · obtain ⟨h1, rfl, h3⟩ := makeP_some h
      exact ⟨h1, rfl, by simp, by simpa using h3, by omega⟩
def okPhi (pr : List Int) (p : FPhi) : Bool := !(decide ((p.fr.length : Int) = 0) || (!(p.fr == pr) || !(decide ((p.args.length : Int) = (p.fr.length : Int)))))
def okShape (g : FGraph) (t : List Int) (i : Nat) (b : FBlk) : Bool :=
  overP t i i && (b.phis.all (okPhi (g.pred.getD i [])) && !((b.fin.kind == 1 || b.fin.kind == 3) && !(b.fin.arg == 0)))
open Classical in
/-- The code of a graph's shape. -/
noncomputable def shapeP (f : FFun) : Int := match ofP f with
  | none => 5
  | some g => if ∀ (i : Nat) b, f.blocks[i]? = some b → okShape g (treeP g 0) i b = true then 0 else 5
theorem shapeP_none {f : FFun} (h : ofP f = none) : shapeP f = 5 := by rw [shapeP, h]
theorem shapeP_ok {f : FFun} {g : FGraph} (h : ofP f = some g) (ha : ∀ (i : Nat) b, f.blocks[i]? = some b → okShape g (treeP g 0) i b = true) : shapeP f = 0 := by rw [shapeP, h]; exact if_pos ha
theorem shapeP_bad {f : FFun} {g : FGraph} (h : ofP f = some g) {i : Nat} {b : FBlk} (hi : f.blocks[i]? = some b) (hb : okShape g (treeP g 0) i b = false) : shapeP f = 5 := by
  rw [shapeP, h]; exact if_neg fun ha => by rw [ha i b hi] at hb; cases hb
theorem shapeP_zero {f : FFun} (h : shapeP f = 0) : ∃ g, ofP f = some g ∧ ∀ (i : Nat) b, f.blocks[i]? = some b → okShape g (treeP g 0) i b = true := by
  unfold shapeP at h
  split at h
  · cases h
  · rename_i g hg
    refine ⟨g, hg, ?_⟩
    split at h
    · assumption
    · cases h
def ofK (level : Int) (o : FOp) : Bool := !(decide (level < 2) && (decide (1 < o.lanes) || decide (20 < o.kind))) && (!(decide (level < 1) && decide (17 < o.kind)) && mayOpK o)
def okTyped (level : Int) (b : FBlk) : Bool := b.phis.all (fun p => mayW p.bits) && b.ops.all (ofK level)
def typedP (f : FFun) (level : Int) : Int := if mayW f.ret && (f.params.all mayW && f.blocks.all (okTyped level)) then 0 else 6
/-! What is used: the value, the shape that is taken, and where. -/
abbrev Use := Int × (Int × Int) × Int × Int
def phiU (p : FPhi) : List Use := (List.range p.args.length).map fun k => (p.args.getD k 0, (p.bits, 1), p.fr.getD k 0, 1048576)
def opU (i : Nat) (x : FOp × Nat) : List Use := (List.range (takesK x.1).length).map fun k => (x.1.args.getD k 0, (takesK x.1).getD k (0, 0), (i : Int), (x.2 : Int))
def endBits (f : FFun) (b : FBlk) : Int := if b.fin.kind = 0 then f.ret else if b.fin.kind = 2 then 1 else 0
def endU (f : FFun) (i : Nat) (b : FBlk) : List Use := if endBits f b = 0 then [] else [(b.fin.arg, (endBits f b, 1), (i : Int), 1048576)]
def blockU (f : FFun) (x : FBlk × Nat) : List Use := x.1.phis.flatMap phiU ++ (x.1.ops.zipIdx.flatMap (opU x.2) ++ endU f x.2 x.1)
def usesL (f : FFun) : List Use := f.blocks.zipIdx.flatMap (blockU f)
def firstN (ask : Use → Int) (l : List Use) : Int := match l.find? (fun u => !(ask u == 0)) with
  | some u => ask u
  | none => 0
def usesP (f : FFun) (ask : Use → Int) : Int := firstN ask (usesL f)
section
variable {ask : Use → Int}
theorem firstN_nil : firstN ask [] = 0 := rfl
theorem firstN_append (a b : List Use) : firstN ask (a ++ b) = if firstN ask a = 0 then firstN ask b else firstN ask a := by
  induction a with
  | nil => simp [firstN]
  | cons u r ih =>
    by_cases h : ask u = 0
    · have e : ∀ l, firstN ask (u :: l) = firstN ask l := fun l => by simp [firstN, h]
      rw [List.cons_append, e, e, ih]
    · have e : ∀ l, firstN ask (u :: l) = ask u := fun l => by simp [firstN, h]
      rw [List.cons_append, e, e, if_neg h]
theorem firstN_one (u : Use) : firstN ask [u] = ask u := by
  by_cases h : ask u = 0 <;> simp [firstN, h]
theorem firstN_add {a b : List Use} (ha : firstN ask a = 0) : firstN ask (a ++ b) = firstN ask b := by rw [firstN_append, if_pos ha]
theorem firstN_hit {a b : List Use} {x : Int} (ha : firstN ask a = x) (hx : x ≠ 0) : firstN ask (a ++ b) = x := by rw [firstN_append, if_neg (by rw [ha]; exact hx), ha]
theorem flat_take {α : Type _} {F : α → List Use} {l : List α} {k : Nat} {z : α} (h : l[k]? = some z) : (l.take (k + 1)).flatMap F = (l.take k).flatMap F ++ F z := by
  rw [List.take_add_one, h]; simp
theorem flat_split {α : Type _} {F : α → List Use} {l : List α} {k : Nat} {z : α} (h : l[k]? = some z) : l.flatMap F = (l.take k).flatMap F ++ (F z ++ (l.drop (k + 1)).flatMap F) := by
  have e := List.take_append_drop (k + 1) l
  conv => lhs; rw [← e]
  rw [List.flatMap_append, flat_take h, List.append_assoc]
theorem firstN_flat {α : Type _} {F : α → List Use} {l : List α} {k : Nat} {z : α} {x : Int} (h : l[k]? = some z) (h0 : firstN ask ((l.take k).flatMap F) = 0) (hz : firstN ask (F z) = x) (hx : x ≠ 0) : firstN ask (l.flatMap F) = x := by
  rw [flat_split h, firstN_add h0, firstN_hit hz hx]
theorem firstN_step {α : Type _} {F : α → List Use} {l : List α} {k : Nat} {z : α} (h : l[k]? = some z) (h0 : firstN ask ((l.take k).flatMap F) = 0) (hz : firstN ask (F z) = 0) : firstN ask ((l.take (k + 1)).flatMap F) = 0 := by
  rw [flat_take h, firstN_add h0, hz]
theorem firstN_snoc {l : List Use} {k : Nat} {u : Use} (h : l[k]? = some u) (h0 : firstN ask (l.take k) = 0) (hu : ask u = 0) : firstN ask (l.take (k + 1)) = 0 := by
  rw [List.take_add_one, h, Option.toList, firstN_add h0, firstN_one, hu]
theorem firstN_at {l : List Use} {k : Nat} {u : Use} (h : l[k]? = some u) (h0 : firstN ask (l.take k) = 0) (hu : ask u ≠ 0) : firstN ask l = ask u := by
  have e := List.take_append_drop (k + 1) l
  rw [← e, List.take_add_one, h, Option.toList]
  exact firstN_hit (by rw [firstN_add h0, firstN_one]) hu
end
theorem zip_get {α : Type _} {l : List α} {k : Nat} {z : α} (h : l[k]? = some z) : l.zipIdx[k]? = some (z, k) := by
  rw [List.getElem?_zipIdx, h]; simp
theorem phiU_get {p : FPhi} {k : Nat} {z y : Int} (h : p.args[k]? = some z) (h' : p.fr[k]? = some y) : (phiU p)[k]? = some (z, (p.bits, 1), y, 1048576) := by
  have hk := (List.getElem?_eq_some_iff.1 h).1
  rw [phiU, List.getElem?_map, List.getElem?_range hk]
  simp only [Option.map_some]
  rw [getD_of h, getD_of h']
theorem getDp_of {l : List (Int × Int)} {k : Nat} {z d : Int × Int} (h : l[k]? = some z) : l.getD k d = z := by simp [List.getD, h]
theorem opU_get {o : FOp} {i at_ k : Nat} {z : Int} {sh : Int × Int} (h : o.args[k]? = some z) (h' : (takesK o)[k]? = some sh) : (opU i (o, at_))[k]? = some (z, sh, (i : Int), (at_ : Int)) := by
  have hk := (List.getElem?_eq_some_iff.1 h').1
  rw [opU, List.getElem?_map, List.getElem?_range hk]
  simp only [Option.map_some]
  rw [getD_of h, getDp_of h']
theorem takesK_len (o : FOp) : (takesK o).length ≤ o.args.length := by
  unfold takesK
  split
  · rename_i h
    simp only [mayOpK, Bool.and_eq_true, decide_eq_true_eq] at h
    have := h.2.2.2.1
    omega
  · simp
theorem phiU_len (p : FPhi) : (phiU p).length = p.args.length := by simp [phiU]
theorem opU_len (i : Nat) (x : FOp × Nat) : (opU i x).length = (takesK x.1).length := by simp [opU]
/-! What is defined: the block (-1: a parameter), the place, the shape. -/
abbrev Def := Int × Int × Int × Int
def defV (d : Def) : Value := .agg #[.int .i64 d.1, .int .i64 d.2.1, .int .i64 d.2.2.1, .int .i64 d.2.2.2]
theorem defs_get (l : List (Int × Def)) (x : Int) : defV ((getL l x).getD (0, 0, 0, 0)) = (getA (valL defV l) x).getD (.agg #[.int .i64 0, .int .i64 0, .int .i64 0, .int .i64 0]) := by
  rw [getA_val]; cases getL l x <;> rfl
theorem defs_is (l : List (Int × Def)) (x : Int) : (getL l x).isSome = (getA (valL defV l) x).isSome := by
  rw [getA_val]; cases getL l x <;> rfl
def paramD (x : Int × Nat) : Int × Def := ((x.2 : Int) + 1, (-1, 0, x.1, 1))
def phiD (i : Nat) (p : FPhi) : Int × Def := (p.dst, ((i : Int), -1, p.bits, 1))
def opD (i : Nat) (x : FOp × Nat) : List (Int × Def) := if 0 < (givesP x.1).1 then [(x.1.dst, ((i : Int), (x.2 : Int), (givesP x.1).1, (givesP x.1).2))] else []
def blockD (x : FBlk × Nat) : List (Int × Def) := x.1.phis.map (phiD x.2) ++ x.1.ops.zipIdx.flatMap (opD x.2)
def defsL (f : FFun) : List (Int × Def) := f.params.zipIdx.map paramD ++ f.blocks.zipIdx.flatMap blockD
def okDst (p : FPhi) : Bool := decide (1 ≤ p.dst) && decide (p.dst ≤ 1023)
def askD (f : FFun) (u : Use) : Int := if (getL (defsL f) u.1).isSome then 0 else 7
def defOK (f : FFun) : Prop := (∀ b ∈ f.blocks, ∀ p ∈ b.phis, okDst p = true) ∧ ((defsL f).map (·.1)).Nodup
open Classical in
noncomputable def definedP (f : FFun) : Int := if defOK f then usesP f (askD f) else 7
def askS (f : FFun) (u : Use) : Int := if ((getL (defsL f) u.1).getD (0, 0, 0, 0)).2.2 = u.2.1 then 0 else 6
def askP (f : FFun) (t : List Int) (u : Use) : Int :=
  let d := (getL (defsL f) u.1).getD (0, 0, 0, 0)
  if d.1 < 0 then 0 else if (d.1 = u.2.2.1 ∧ d.2.1 < u.2.2.2) ∨ (d.1 ≠ u.2.2.1 ∧ overP t d.1 u.2.2.1 = true) then 0 else 7
open Classical in
noncomputable def lookP (f : FFun) (level : Int) : Int :=
  if mayF f = false then 4 else if shapeP f ≠ 0 then shapeP f else if typedP f level ≠ 0 then typedP f level else if definedP f ≠ 0 then definedP f
  else if usesP f (askS f) ≠ 0 then usesP f (askS f) else usesP f (askP f (match ofP f with | some g => treeP g 0 | none => []))
noncomputable def checkP (f : FFun) (level : Int) : Int := if level < 0 ∨ 2 < level then 1 else lookP f level
/-- A closure that is asked of each use. -/
def AskQ (P : Program) (K : FuncId) (cap : Array Value) (ask : Use → Int) (m : Imm) : Prop := ∀ m', m.le m' → ∀ v s1 s2 b a, I64 b → Quiet P K ([.int .i64 v, .agg #[.int .i64 s1, .int .i64 s2], .int .i64 b, .int .i64 a] ++ cap.toList) m' (.int .i64 (ask (v, (s1, s2), b, a)))
theorem AskQ.mono {P : Program} {K : FuncId} {cap : Array Value} {ask : Use → Int} {m m' : Imm} (h : AskQ P K cap ask m) (hm : m.le m') : AskQ P K cap ask m' := fun m'' h' => h m'' (Imm.le_trans hm h')
theorem bits_get1 (f : FFun) (b : FBlk) : Value.int .i64 (endBits f b) = (getA (putA (putA [] 0 (.int .i64 f.ret)) 2 (.int .i64 1)) b.fin.kind).getD (.int .i64 0) := by
  rw [getA_put, getA_put, endBits]
  by_cases h0 : b.fin.kind = 0
  · simp [h0]
  · by_cases h2 : b.fin.kind = 2
    · simp [h2]
    · rw [if_neg (Ne.symm h2), if_neg (Ne.symm h0), if_neg h0, if_neg h2]; rfl
theorem bits_get2 (f : FFun) (b : FBlk) : Value.int .i64 (endBits f b) = (getA (putA (putA [] 2 (.int .i64 1)) 0 (.int .i64 f.ret)) b.fin.kind).getD (.int .i64 0) := by
  rw [getA_put, getA_put, endBits]
  by_cases h0 : b.fin.kind = 0
  · simp [h0]
  · by_cases h2 : b.fin.kind = 2
    · simp [h2]
    · rw [if_neg (Ne.symm h0), if_neg (Ne.symm h2), if_neg h0, if_neg h2]; rfl
theorem getL_i64 {ds : List (Int × Def)} (h : ∀ p ∈ ds, I64 p.2.1) (x : Int) : I64 ((getL ds x).getD (0, 0, 0, 0)).1 := by
  induction ds with
  | nil => exact ⟨by simp [getL], by simp [getL]⟩
  | cons p r ih =>
    simp only [getL]
    split
    · exact h p (by simp)
    · exact ih fun q hq => h q (by simp [hq])
section
variable {ask : Use → Int} {f : FFun} {b : FBlk} {k0 : Nat}
theorem uses_phi {p : FPhi} {k1 k2 : Nat} {z y : Int} (hb : f.blocks[k0]? = some b) (hp : b.phis[k1]? = some p) (hz : p.args[k2]? = some z) (hy : p.fr[k2]? = some y) (h0 : firstN ask ((f.blocks.zipIdx.take k0).flatMap (blockU f)) = 0)
    (h1 : firstN ask ((b.phis.take k1).flatMap phiU) = 0) (h2 : firstN ask ((phiU p).take k2) = 0) (hne : ask (z, (p.bits, 1), y, 1048576) ≠ 0) : usesP f ask = ask (z, (p.bits, 1), y, 1048576) :=
  firstN_flat (zip_get hb) h0 (by rw [blockU]; exact firstN_hit (firstN_flat hp h1 (firstN_at (phiU_get hz hy) h2 hne) hne) hne) hne
theorem uses_op {o : FOp} {k3 k4 : Nat} {z : Int} {sh : Int × Int} (hb : f.blocks[k0]? = some b) (ho : b.ops[k3]? = some o) (hz : o.args[k4]? = some z) (hs : (takesK o)[k4]? = some sh) (h0 : firstN ask ((f.blocks.zipIdx.take k0).flatMap (blockU f)) = 0)
    (h1 : firstN ask (b.phis.flatMap phiU) = 0) (h3 : firstN ask ((b.ops.zipIdx.take k3).flatMap (opU k0)) = 0) (h4 : firstN ask ((opU k0 (o, k3)).take k4) = 0) (hne : ask (z, sh, (k0 : Int), (k3 : Int)) ≠ 0) : usesP f ask = ask (z, sh, (k0 : Int), (k3 : Int)) :=
  firstN_flat (zip_get hb) h0 (by rw [blockU, firstN_add h1]; exact firstN_hit (firstN_flat (zip_get ho) h3 (firstN_at (opU_get hz hs) h4 hne) hne) hne) hne
theorem uses_end (hb : f.blocks[k0]? = some b) (h0 : firstN ask ((f.blocks.zipIdx.take k0).flatMap (blockU f)) = 0)
    (h1 : firstN ask (b.phis.flatMap phiU) = 0) (h3 : firstN ask (b.ops.zipIdx.flatMap (opU k0)) = 0) (he : endBits f b ≠ 0) (hne : ask (b.fin.arg, (endBits f b, 1), (k0 : Int), 1048576) ≠ 0) : usesP f ask = ask (b.fin.arg, (endBits f b, 1), (k0 : Int), 1048576) :=
  firstN_flat (zip_get hb) h0 (by rw [blockU, firstN_add h1, firstN_add h3, endU, if_neg he, firstN_one]) hne
theorem uses_step (hb : f.blocks[k0]? = some b) (h0 : firstN ask ((f.blocks.zipIdx.take k0).flatMap (blockU f)) = 0)
    (h1 : firstN ask (b.phis.flatMap phiU) = 0) (h3 : firstN ask (b.ops.zipIdx.flatMap (opU k0)) = 0) (he : endBits f b = 0 ∨ ask (b.fin.arg, (endBits f b, 1), (k0 : Int), 1048576) = 0) : firstN ask ((f.blocks.zipIdx.take (k0 + 1)).flatMap (blockU f)) = 0 := by
  refine firstN_step (zip_get hb) h0 ?_
  rw [blockU, firstN_add h1, firstN_add h3, endU]
  by_cases hz : endBits f b = 0
  · rw [if_pos hz]; rfl
  · rw [if_neg hz, firstN_one]; exact he.resolve_left hz
theorem uses_none (h0 : firstN ask ((f.blocks.zipIdx.take f.blocks.length).flatMap (blockU f)) = 0) : usesP f ask = 0 := by
  rw [List.take_of_length_le (by simp)] at h0; exact h0
theorem take_all {α : Type _} {l : List α} {n : Nat} (h : n = l.length) : l.take n = l := by subst h; exact List.take_length
end
theorem graphQ_zero {r : Option FGraph} {q : FGraph × Int} (h : graphQ r = q) (h0 : q.2 = 0) : r = some q.1 := by
  cases r with
  | none => simp [graphQ] at h; rw [← h] at h0; cases h0
  | some g => simp [graphQ] at h; rw [← h]
theorem graphQ_non {r : Option FGraph} {q : FGraph × Int} (h : graphQ r = q) (h0 : q.2 ≠ 0) : r = none := by
  cases r with
  | none => rfl
  | some g => simp [graphQ] at h; rw [← h] at h0; exact absurd rfl h0
theorem okPhi_t {pr : List Int} {p : FPhi} (h1 : ¬ (p.fr.length : Int) = 0) (h2 : p.fr = pr) (h3 : (p.args.length : Int) = (p.fr.length : Int)) : okPhi pr p = true := by
  simp only [okPhi, beq_iff_eq.2 h2, decide_eq_false h1, decide_eq_true h3]; rfl
theorem okPhi_f1 {pr : List Int} {p : FPhi} (h1 : (p.fr.length : Int) = 0) : okPhi pr p = false := by simp only [okPhi, decide_eq_true h1]; rfl
theorem okPhi_f2 {pr : List Int} {p : FPhi} (h2 : ¬ p.fr = pr) : okPhi pr p = false := by simp [okPhi, h2]
theorem okPhi_f3 {pr : List Int} {p : FPhi} (h3 : ¬ (p.args.length : Int) = (p.fr.length : Int)) : okPhi pr p = false := by simp only [okPhi, decide_eq_false h3]; simp
theorem okPhi_len {pr : List Int} {p : FPhi} (h : okPhi pr p = true) : p.fr = pr ∧ p.args.length = p.fr.length := by
  simp only [okPhi, Bool.not_eq_true', Bool.or_eq_false_iff, Bool.not_eq_false', beq_iff_eq, decide_eq_true_eq] at h
  exact ⟨h.2.1, by have := h.2.2; omega⟩
theorem okShape_t {g : FGraph} {t pr : List Int} {i : Nat} {b : FBlk} (hpr : g.pred[i]? = some pr) (h1 : overP t i i = true) (h2 : ∀ (j : Nat) p, j < b.phis.length → b.phis[j]? = some p → okPhi pr p = true) (h3 : (b.fin.kind = 1 ∨ b.fin.kind = 3) → b.fin.arg = 0) : okShape g t i b = true := by
  have e2 : b.phis.all (okPhi (g.pred.getD i [])) = true := List.all_eq_true.2 fun p hp => by
    obtain ⟨j, hj⟩ := List.mem_iff_getElem?.1 hp
    rw [getDl_of hpr]; exact h2 j p (List.getElem?_eq_some_iff.1 hj).1 hj
  rw [okShape, h1, e2]
  by_cases hk : b.fin.kind = 1 ∨ b.fin.kind = 3
  · rw [h3 hk]; simp
  · have : (b.fin.kind == 1 || b.fin.kind == 3) = false := by simpa using hk
    rw [this]; rfl
theorem okShape_f1 {g : FGraph} {t : List Int} {i : Nat} {b : FBlk} (h : overP t i i = false) : okShape g t i b = false := by rw [okShape, h]; rfl
theorem okShape_f2 {g : FGraph} {t pr : List Int} {i j : Nat} {b : FBlk} {p : FPhi} (hpr : g.pred[i]? = some pr) (hp : b.phis[j]? = some p) (h : okPhi pr p = false) : okShape g t i b = false := by
  have : b.phis.all (okPhi (g.pred.getD i [])) = false := List.all_eq_false.2 ⟨p, List.mem_of_getElem? hp, by rw [getDl_of hpr, h]; simp⟩
  rw [okShape, this]; simp
theorem okShape_f3 {g : FGraph} {t : List Int} {i : Nat} {b : FBlk} (hk : b.fin.kind = 1 ∨ b.fin.kind = 3) (h : ¬ b.fin.arg = 0) : okShape g t i b = false := by
  have e1 : (b.fin.kind == 1 || b.fin.kind == 3) = true := by simpa using hk
  have e2 : (b.fin.arg == 0) = false := by simpa using h
  rw [okShape, e1, e2]; simp
/-- What shape does. -/
noncomputable def CheckC (f : FFun) (A B : Option Addr) (c d : Nat) (lev : Int) (g : FGraph) (A1 A2 A3 : Option Addr) (c1 c2 c3 : Nat) (mv : Value) : List Value :=
  [.slice A f.params.length c, .int .i64 f.ret, .slice B f.blocks.length d, .int .i64 lev, .slice A1 g.succ.length c1, .slice A2 g.pred.length c2, .slice A3 (treeP g 0).length c3, mv]
end Go.Proofs.YtipmgkhjoekaaaaGreat

set_option linter.unusedVariables false
namespace Go.Proofs.YtipmgkhjoekaaaaGreat
open Go Go.Proofs.YtipmgkhjoekaaaaGreat.Fw
/-! What is defined, one by one. -/
theorem getL_none {α : Type} {l : List (Int × α)} {x : Int} : getL l x = none ↔ x ∉ l.map (·.1) := by
  rw [← getL_mem]; cases getL l x <;> simp
theorem nodup_snoc {α : Type} {x : List (Int × α)} {v : Int} {d : α} (h : (x.map (·.1)).Nodup) (hn : getL x v = none) : ((x ++ [(v, d)]).map (·.1)).Nodup := by
  rw [List.map_append, List.nodup_append]
  refine ⟨h, by simp, fun a ha b hb => ?_⟩
  simp at hb; subst hb
  rintro rfl
  exact getL_none.1 hn ha
def PD (f : FFun) : List (Int × Def) := f.params.zipIdx.map paramD
theorem params_keys (f : FFun) (k : Nat) : ∀ v : Int, v ∈ ((f.params.zipIdx.take k).map paramD).map (·.1) → 1 ≤ v ∧ v ≤ k := by
  intro v hv
  simp only [List.map_map, List.mem_map, Function.comp] at hv
  obtain ⟨x, hx, rfl⟩ := hv
  obtain ⟨j, hj⟩ := List.mem_iff_getElem?.1 hx
  rw [List.getElem?_take] at hj
  split at hj
  · rw [List.getElem?_zipIdx] at hj
    cases hp : f.params[j]? with
    | none => rw [hp] at hj; cases hj
    | some z => rw [hp] at hj; simp at hj; subst hj; simp [paramD]; omega
  · cases hj
theorem params_new (f : FFun) (k : Nat) : getL ((f.params.zipIdx.take k).map paramD) ((k : Int) + 1) = none := getL_none.2 fun h => by have := params_keys f k _ h; omega
theorem params_step {f : FFun} {k : Nat} {z : Int} (h : f.params[k]? = some z) : putL ((f.params.zipIdx.take k).map paramD) ((k : Int) + 1) (-1, 0, z, 1) = (f.params.zipIdx.take (k + 1)).map paramD := by
  rw [putL_new (params_new f k), take_map_succ (zip_get h)]; rfl
theorem params_nodup (f : FFun) : ∀ k : Nat, k ≤ f.params.length → (((f.params.zipIdx.take k).map paramD).map (·.1)).Nodup
  | 0, _ => by simp
  | k + 1, hk => by
    have hz : f.params[k]? = some f.params[k] := List.getElem?_eq_getElem (by omega)
    have ih := params_nodup f k (by omega)
    rw [take_map_succ (zip_get hz)]
    exact nodup_snoc ih (params_new f k)
theorem flatD_take {α β : Type _} {F : α → List β} {l : List α} {k : Nat} {z : α} (h : l[k]? = some z) : (l.take (k + 1)).flatMap F = (l.take k).flatMap F ++ F z := by
  rw [List.take_add_one, h]; simp
theorem flatD_split {α β : Type _} {F : α → List β} {l : List α} {k : Nat} {z : α} (h : l[k]? = some z) : l.flatMap F = (l.take k).flatMap F ++ (F z ++ (l.drop (k + 1)).flatMap F) := by
  have e := List.take_append_drop (k + 1) l
  conv => lhs; rw [← e]
  rw [List.flatMap_append, flatD_take h, List.append_assoc]
section
variable {f : FFun} {b : FBlk} {k1 : Nat}
theorem map_split {α β : Type _} {F : α → β} {l : List α} {k : Nat} {z : α} (h : l[k]? = some z) : l.map F = (l.take k).map F ++ (F z :: (l.drop (k + 1)).map F) := by
  have e := List.take_append_drop (k + 1) l
  conv => lhs; rw [← e]
  rw [List.map_append, take_map_succ h]; simp
theorem pre_phi {p : FPhi} {k2 : Nat} (hb : f.blocks[k1]? = some b) (hp : b.phis[k2]? = some p) : (PD f ++ (f.blocks.zipIdx.take k1).flatMap blockD ++ (b.phis.take k2).map (phiD k1) ++ [phiD k1 p]) <+: defsL f := by
  refine ⟨(b.phis.drop (k2 + 1)).map (phiD k1) ++ b.ops.zipIdx.flatMap (opD k1) ++ (f.blocks.zipIdx.drop (k1 + 1)).flatMap blockD, ?_⟩
  rw [defsL, flatD_split (zip_get hb), blockD, map_split hp]
  simp [PD]
theorem pre_op {o : FOp} {k3 : Nat} (hb : f.blocks[k1]? = some b) (ho : b.ops[k3]? = some o) : (PD f ++ (f.blocks.zipIdx.take k1).flatMap blockD ++ b.phis.map (phiD k1) ++ (b.ops.zipIdx.take k3).flatMap (opD k1) ++ opD k1 (o, k3)) <+: defsL f := by
  refine ⟨(b.ops.zipIdx.drop (k3 + 1)).flatMap (opD k1) ++ (f.blocks.zipIdx.drop (k1 + 1)).flatMap blockD, ?_⟩
  rw [defsL, flatD_split (zip_get hb), blockD, flatD_split (zip_get ho)]
  simp [PD]
theorem definedP_bad1 {p : FPhi} (hb : f.blocks[k1]? = some b) {k2 : Nat} (hp : b.phis[k2]? = some p) (h : okDst p = false) : definedP f = 7 := by
  refine if_neg fun hd => ?_
  rw [hd.1 b (List.mem_of_getElem? hb) p (List.mem_of_getElem? hp)] at h; cases h
theorem definedP_bad2 {x : List (Int × Def)} {v : Int} {d : Def} (hp : (x ++ [(v, d)]) <+: defsL f) (h : (getL x v).isSome = true) : definedP f = 7 := by
  refine if_neg fun hd => ?_
  obtain ⟨r, hr⟩ := hp
  have := hd.2
  rw [← hr, List.map_append, List.map_append] at this
  have h1 := (List.nodup_append.1 (List.nodup_append.1 this).1).2.2
  exact h1 v (getL_mem.1 h) v (by simp) rfl
theorem definedP_ok (h1 : ∀ (j : Nat) b, j < f.blocks.length → f.blocks[j]? = some b → ∀ p ∈ b.phis, okDst p = true) (h2 : ((defsL f).map (·.1)).Nodup) : definedP f = usesP f (askD f) := by
  refine if_pos ⟨fun b hb => ?_, h2⟩
  obtain ⟨j, hj⟩ := List.mem_iff_getElem?.1 hb
  exact h1 j b (List.getElem?_eq_some_iff.1 hj).1 hj
theorem defsL_eq (f : FFun) : defsL f = PD f ++ (f.blocks.zipIdx.take f.blocks.length).flatMap blockD := by
  rw [List.take_of_length_le (by simp)]; rfl
theorem blockD_step (hb : f.blocks[k1]? = some b) (X : List (Int × Def)) : X ++ (f.blocks.zipIdx.take k1).flatMap blockD ++ b.phis.map (phiD k1) ++ b.ops.zipIdx.flatMap (opD k1) = X ++ (f.blocks.zipIdx.take (k1 + 1)).flatMap blockD := by
  rw [flatD_take (zip_get hb), blockD]; simp
theorem defs_i64 (h : f.blocks.length ≤ 140737488355328) : ∀ p ∈ defsL f, I64 p.2.1 := by
  intro p hp
  rcases List.mem_append.1 hp with hp | hp
  · obtain ⟨x, _, rfl⟩ := List.mem_map.1 hp
    exact ⟨by simp [paramD], by simp [paramD]⟩
  · obtain ⟨x, hx, hp⟩ := List.mem_flatMap.1 hp
    obtain ⟨j, hj⟩ := List.mem_iff_getElem?.1 hx
    have hjl := (List.getElem?_eq_some_iff.1 hj).1
    rw [List.getElem?_zipIdx] at hj
    have hx2 : x.2 < f.blocks.length := by
      cases hz : f.blocks[j]? with
      | none => rw [hz] at hj; cases hj
      | some z => rw [hz] at hj; simp at hj; subst hj; simpa using hjl
    rcases List.mem_append.1 hp with hp | hp
    · obtain ⟨q, _, rfl⟩ := List.mem_map.1 hp
      exact ⟨by simp only [phiD]; omega, by simp only [phiD]; omega⟩
    · obtain ⟨q, _, hp⟩ := List.mem_flatMap.1 hp
      unfold opD at hp
      split at hp
      · simp at hp; subst hp; exact ⟨by dsimp only; omega, by dsimp only; omega⟩
      · cases hp
theorem shapeP_phis (h : shapeP f = 0) : ∀ b ∈ f.blocks, ∀ p ∈ b.phis, p.args.length ≤ p.fr.length := by
  obtain ⟨g, _, ha⟩ := shapeP_zero h
  intro b hb p hp
  obtain ⟨i, hi⟩ := List.mem_iff_getElem?.1 hb
  have h1 := ha i b hi
  simp only [okShape, Bool.and_eq_true] at h1
  exact Nat.le_of_eq (okPhi_len (List.all_eq_true.1 h1.2.1 p hp)).2
end
end Go.Proofs.YtipmgkhjoekaaaaGreat

set_option linter.unusedVariables false
namespace Go.Proofs.YtipmgkhjoekaaaaGreat
open Go Go.Proofs.YtipmgkhjoekaaaaGreat.Fw
/-! Orders of operations: what hangs on what. -/
def idV (z : Int) : Value := .int .i64 z
def defsH (ops : List FOp) (k : Nat) : List (Int × Int) := (ops.zipIdx.take k).foldl (fun d x => if 0 < x.1.dst then putL d x.1.dst (x.2 : Int) else d) []
def impH (ops : List FOp) (k : Nat) : List Int := ((ops.zipIdx.take k).filter fun x => !(pureK x.1.kind)).map fun x => (x.2 : Int)
def argsH (ops : List FOp) (k : Nat) (l : List Int) : List Int := l.filterMap (getL (defsH ops k))
def rawH (ops : List FOp) (x : FOp × Nat) : List Int := argsH ops x.2 x.1.args ++ (if pureK x.1.kind then [] else impH ops x.2)
def hangsP (ops : List FOp) : List (List Int) := ops.zipIdx.map fun x => sortC (rawH ops x)
theorem hangsP_len (ops : List FOp) : (hangsP ops).length = ops.length := by simp [hangsP]
section
variable {ops : List FOp} {k : Nat} {o : FOp}
theorem defsH_step1 (h : ops[k]? = some o) (hd : 0 < o.dst) : defsH ops (k + 1) = putL (defsH ops k) o.dst (k : Int) := by
  rw [defsH, List.take_add_one, zip_get h]; simp [defsH, hd]
theorem defsH_step0 (h : ops[k]? = some o) (hd : ¬ 0 < o.dst) : defsH ops (k + 1) = defsH ops k := by
  rw [defsH, List.take_add_one, zip_get h]; simp [defsH, hd]
theorem impH_step1 (h : ops[k]? = some o) (hp : pureK o.kind = false) : impH ops (k + 1) = impH ops k ++ [(k : Int)] := by
  rw [impH, List.take_add_one, zip_get h]; simp [impH, hp]
theorem impH_step0 (h : ops[k]? = some o) (hp : pureK o.kind = true) : impH ops (k + 1) = impH ops k := by
  rw [impH, List.take_add_one, zip_get h]; simp [impH, hp]
theorem mem_zip_take {α : Type _} {l : List α} {k : Nat} {x : α × Nat} (h : x ∈ l.zipIdx.take k) : x.2 < k ∧ l[x.2]? = some x.1 := by
  obtain ⟨j, hj⟩ := List.mem_iff_getElem?.1 h
  rw [List.getElem?_take] at hj
  split at hj
  · rename_i hjk
    rw [List.getElem?_zipIdx] at hj
    cases hz : l[j]? with
    | none => rw [hz] at hj; cases hj
    | some z => rw [hz] at hj; simp at hj; subst hj; exact ⟨by simpa using hjk, by simpa using hz⟩
  · cases hj
theorem impH_len (ops : List FOp) (k : Nat) : (impH ops k).length ≤ k := by
  rw [impH, List.length_map]
  have h1 := List.length_filter_le (fun x : FOp × Nat => !(pureK x.1.kind)) (ops.zipIdx.take k)
  have h2 := List.length_take_le k ops.zipIdx
  omega
theorem mem_impH {v : Int} : v ∈ impH ops k ↔ ∃ j o, j < k ∧ ops[j]? = some o ∧ pureK o.kind = false ∧ v = j := by
  simp only [impH, List.mem_map, List.mem_filter]
  constructor
  · rintro ⟨x, ⟨hx, hp⟩, rfl⟩
    have := mem_zip_take hx
    exact ⟨x.2, x.1, this.1, this.2, by simpa using hp, rfl⟩
  · rintro ⟨j, o, hj, ho, hp, rfl⟩
    refine ⟨(o, j), ⟨List.mem_of_getElem? (i := j) ?_, by simp [hp]⟩, rfl⟩
    rw [List.getElem?_take, if_pos hj]; exact zip_get ho
theorem putL_vals {α : Type} {p : α → Prop} {l : List (Int × α)} (h : ∀ q ∈ l, p q.2) {x : Int} {v : α} (hv : p v) : ∀ q ∈ putL l x v, p q.2 := by
  induction l with
  | nil => intro q hq; simp [putL] at hq; subst hq; exact hv
  | cons a r ih =>
    intro q hq
    simp only [putL] at hq
    split at hq
    · rcases List.mem_cons.1 hq with rfl | hq
      · exact hv
      · exact h q (by simp [hq])
    · rcases List.mem_cons.1 hq with rfl | hq
      · exact h _ (by simp)
      · exact ih (fun q hq => h q (by simp [hq])) q hq
theorem getL_val {α : Type} {l : List (Int × α)} {x : Int} {v : α} (h : getL l x = some v) : ∃ q ∈ l, q.2 = v := by
  induction l with
  | nil => cases h
  | cons a r ih =>
    simp only [getL] at h
    split at h
    · cases h; exact ⟨a, by simp, rfl⟩
    · obtain ⟨q, hq, e⟩ := ih h; exact ⟨q, by simp [hq], e⟩
theorem defsH_vals (ops : List FOp) : ∀ k : Nat, ∀ q ∈ defsH ops k, 0 ≤ q.2 ∧ q.2 < (k : Int)
  | 0 => by simp [defsH]
  | k + 1 => by
    have ih := defsH_vals ops k
    by_cases hk : k < ops.length
    · have ho : ops[k]? = some ops[k] := List.getElem?_eq_getElem hk
      by_cases hd : 0 < ops[k].dst
      · rw [defsH_step1 ho hd]
        exact putL_vals (p := fun z : Int => 0 ≤ z ∧ z < ((k + 1 : Nat) : Int)) (fun q hq => by have := ih q hq; omega) (by omega)
      · rw [defsH_step0 ho hd]; intro q hq; have := ih q hq; omega
    · have e : defsH ops (k + 1) = defsH ops k := by
        rw [defsH, defsH, List.take_of_length_le (by simp; omega), List.take_of_length_le (by simp; omega)]
      rw [e]; intro q hq; have := ih q hq; omega
theorem rawH_rng (x : FOp × Nat) : ∀ v ∈ rawH ops x, 0 ≤ v ∧ v < (x.2 : Int) := by
  intro v hv
  rcases List.mem_append.1 hv with hv | hv
  · simp only [argsH, List.mem_filterMap] at hv
    obtain ⟨a, _, ha⟩ := hv
    obtain ⟨q, hq, rfl⟩ := getL_val ha
    exact defsH_vals ops x.2 q hq
  · split at hv
    · cases hv
    · obtain ⟨j, o, hj, _, _, rfl⟩ := mem_impH.1 hv
      omega
theorem hangsP_get (h : ops[k]? = some o) : (hangsP ops)[k]? = some (sortC (rawH ops (o, k))) := by
  rw [hangsP, List.getElem?_map, zip_get h]; rfl
theorem hangsP_rng {l : List Int} (h : (hangsP ops)[k]? = some l) : ∀ v ∈ l, 0 ≤ v ∧ v < (k : Int) := by
  have hk : k < ops.length := by have := (List.getElem?_eq_some_iff.1 h).1; rwa [hangsP_len] at this
  rw [hangsP_get (List.getElem?_eq_getElem hk)] at h
  cases h
  exact fun v hv => rawH_rng (ops := ops) (ops[k], k) v (sortC_sub _ v hv)
theorem argsH_step1 {l : List Int} {j : Nat} {z v : Int} (h : l[j]? = some z) (hv : getL (defsH ops k) z = some v) : argsH ops k (l.take (j + 1)) = argsH ops k (l.take j) ++ [v] := by
  rw [argsH, List.take_add_one, h]; simp [argsH, hv]
theorem argsH_step0 {l : List Int} {j : Nat} {z : Int} (h : l[j]? = some z) (hv : getL (defsH ops k) z = none) : argsH ops k (l.take (j + 1)) = argsH ops k (l.take j) := by
  rw [argsH, List.take_add_one, h]; simp [argsH, hv]
theorem argsH_len (ops : List FOp) (k : Nat) (l : List Int) : (argsH ops k l).length ≤ l.length := List.length_filterMap_le _ _
end
theorem take_set_end {α : Type _} {l : List α} {k : Nat} {v : α} (h : k < l.length) : (l.set k v).take (k + 1) = l.take k ++ [v] := by
  rw [List.take_add_one, List.take_set_of_le (Nat.le_refl _), List.getElem?_set_self h]; rfl
theorem set_same {α : Type _} {l : List α} {k : Nat} {v : α} (h : l[k]? = some v) : l.set k v = l := by
  obtain ⟨hk, rfl⟩ := List.getElem?_eq_some_iff.1 h
  exact List.set_getElem_self hk
end Go.Proofs.YtipmgkhjoekaaaaGreat

set_option linter.unusedVariables false
set_option linter.unusedSimpArgs false
namespace Go.Proofs.YtipmgkhjoekaaaaGreat
open Go Go.RowKit Go.Proofs Go.Proofs.YtipmgkhjoekaaaaGreat.Fw
attribute [local irreducible] Qt WL CW NX RX EX GX DL
namespace T
theorem ag4 : agg? Tryz.prog 4 = some false := by kernel_rfl
theorem hb105 : hasBody Tryz.prog 105 = true := by kernel_rfl
theorem hb106 : hasBody Tryz.prog 106 = true := by kernel_rfl
theorem sz4 : sz? Tryz.prog 4 = some 1 := by kernel_rfl
theorem ze123 : zero? Tryz.prog 123 = some (.agg #[(.bool false), (.bool false), (.bool false), (.bool false), (.bool false), (.bool false), (.bool false), (.bool false), (.bool false), (.bool false), (.bool false), (.bool false), (.bool false), (.bool false), (.bool false), (.bool false), (.bool false), (.bool false), (.bool false), (.bool false), (.bool false), (.bool false), (.bool false), (.bool false), (.bool false), (.bool false), (.bool false), (.bool false), (.bool false), (.bool false), (.bool false), (.bool false), (.bool false), (.bool false), (.bool false), (.bool false), (.bool false), (.bool false), (.bool false), (.bool false), (.bool false), (.bool false), (.bool false), (.bool false), (.bool false), (.bool false), (.bool false), (.bool false), (.bool false), (.bool false), (.bool false), (.bool false), (.bool false), (.bool false), (.bool false), (.bool false), (.bool false), (.bool false), (.bool false), (.bool false), (.bool false), (.bool false), (.bool false), (.bool false)]) := by kernel_rfl
theorem ze124 : zero? Tryz.prog 124 = some (.agg #[(.int .i64 0), (.int .i64 0), (.int .i64 0), (.int .i64 0), (.int .i64 0), (.int .i64 0), (.int .i64 0), (.int .i64 0), (.int .i64 0), (.int .i64 0), (.int .i64 0), (.int .i64 0), (.int .i64 0), (.int .i64 0), (.int .i64 0), (.int .i64 0), (.int .i64 0), (.int .i64 0), (.int .i64 0), (.int .i64 0), (.int .i64 0), (.int .i64 0), (.int .i64 0), (.int .i64 0), (.int .i64 0), (.int .i64 0), (.int .i64 0), (.int .i64 0), (.int .i64 0), (.int .i64 0), (.int .i64 0), (.int .i64 0), (.int .i64 0), (.int .i64 0), (.int .i64 0), (.int .i64 0), (.int .i64 0), (.int .i64 0), (.int .i64 0), (.int .i64 0), (.int .i64 0), (.int .i64 0), (.int .i64 0), (.int .i64 0), (.int .i64 0), (.int .i64 0), (.int .i64 0), (.int .i64 0), (.int .i64 0), (.int .i64 0), (.int .i64 0), (.int .i64 0), (.int .i64 0), (.int .i64 0), (.int .i64 0), (.int .i64 0), (.int .i64 0), (.int .i64 0), (.int .i64 0), (.int .i64 0), (.int .i64 0), (.int .i64 0), (.int .i64 0), (.int .i64 0)]) := by kernel_rfl
end T
/-- slices.Reverse of numbers, by the shelf's contract -/
theorem Reverse_d {m : Imm} {b cap : Nat} {l : List Int} (hlen : l.length ≤ 1000000) : Does Tryz.prog 106 [slI (some b) cap l] m [rowI 3 (some b) cap l] (fun m' R' v => m' = m ∧ R' = [rowI 3 (some b) cap l.reverse] ∧ v = .tuple #[]) :=
  does_put (by simp) fun w hH hb => (Tryz.slices_Reverse_int b 0 cap l w hH (by omega)).mono fun e w' h => by
    obtain ⟨rfl, n, rfl⟩ := h
    exact ⟨rfl, n, #[], (Go.Sort.grow_empty _).symm⟩
/-- slices.Sort of numbers, by the shelf's contract -/
theorem Sort_d {m : Imm} {b cap : Nat} {l : List Int} (hlen : l.length ≤ 1000000) : Does Tryz.prog 84 [slI (some b) cap l] m [rowI 3 (some b) cap l] (fun m' R' v => m' = m ∧ R' = [rowI 3 (some b) cap (l.mergeSort fun x y => decide (x ≤ y))] ∧ v = .tuple #[]) :=
  does_put (by simp) fun w hH hb => Tryz.slices_Sort_int b 0 cap l w hH hb (by omega)
set_option maxHeartbeats 20000000 in
/-- graph.Order -/
theorem Order_g {m : Imm} {es : List Value} {g : FGraph} (hG : rGraph m es g) (r : Int) : Gives Tryz.prog 67 [.agg es.toArray, .int .i64 r] m (OrderΦ g r) := by
 have hG_0 := hG
 obtain ⟨A90, c90, B90, d90, rfl, hs90, hp90⟩ := hG_0
 refine gives_of Tryz.func67 rfl Tryz.ntmps67 rfl (fun w => ?_)
 refine CW_seq ?_
 refine CW_region ?_
 refine S_box (l := [_, _]) rfl rfl rfl (fun b1 => ?_)
 refine W_q (r_assign rfl) rfl ?_
 refine W_nil ?_
 refine NX_as (L' := [(1, _), (2, _), (4, _)]) [1, 2, 4] rfl ?_
 refine C_scope 0 rfl ?_
 refine CW_seq ?_
 refine CW_seq ?_
 refine CW_region ?_
 refine W_q (r_loadbk 0 (vs := [_, _]) rfl T.ag79 T.sz79 rfl rfl rfl) rfl ?_
 refine W_quiet (MayG_q hG) T.hb105 rfl rfl ?_
 refine W_q (r_not rfl) rfl ?_
 refine W_q (r_move rfl) rfl ?_
 refine WL_split (t := 14) rfl (fun h2 => ?_) (fun h2 => ?_)
 ·(try simp only [tA, tB, tC, tD, tE, tF, tG, tH, tI, tJ, tK, tL] at h2)
  refine WL_pass rfl rfl rfl rfl ?_
  refine WL_pass rfl rfl rfl rfl ?_
  refine W_q (r_pick_t rfl rfl) rfl ?_
  refine W_q (r_move rfl) rfl ?_
  refine WL_pass rfl rfl rfl rfl ?_
  refine WL_pass rfl rfl rfl rfl ?_
  refine WL_pass rfl rfl rfl rfl ?_
  refine WL_pass rfl rfl rfl rfl ?_
  refine WL_pass rfl rfl rfl rfl ?_
  refine W_q (r_pick_t rfl rfl) rfl ?_
  refine W_nil ?_
  refine NX_as (L' := [(1, _), (2, _), (4, _), (24, _)]) [1, 2, 4, 24] rfl ?_
  refine CW_cond_t rfl ?_
  refine CW_seq ?_
  refine CW_region ?_
  refine W_q (r_assign rfl) rfl ?_
  refine W_nil ?_
  refine NX_as (L' := [(1, _), (2, _), (4, _)]) [1, 2, 4] rfl ?_
  exact C_ret (RX_then (RX_jump (RX_g1 rfl rfl ⟨none, 0, [], rfl, Sl.nil _ _ _, fun h => (by obtain ⟨h1, h2, h3⟩ := h; first | (simp_all; done) | omega), fun _ => rfl⟩)))
 ·(try simp only [tA, tB, tC, tD, tE, tF, tG, tH, tI, tJ, tK, tL] at h2)
  refine WL_take rfl rfl ?_
  refine W_q (r_move rfl) rfl ?_
  refine WL_take rfl rfl ?_
  refine W_q (r_bin rfl rfl (bin_lss _ _ _ _)) rfl ?_
  refine W_q (r_pick_f rfl rfl) rfl ?_
  refine W_q (r_move rfl) rfl ?_
  refine WL_split (t := 18) rfl (fun h3 => ?_) (fun h3 => ?_)
  ·(try simp only [tA, tB, tC, tD, tE, tF, tG, tH, tI, tJ, tK, tL] at h3)
   refine WL_pass rfl rfl rfl rfl ?_
   refine WL_pass rfl rfl rfl rfl ?_
   refine WL_pass rfl rfl rfl rfl ?_
   refine WL_pass rfl rfl rfl rfl ?_
   refine WL_pass rfl rfl rfl rfl ?_
   refine W_q (r_pick_t rfl rfl) rfl ?_
   refine W_nil ?_
   refine NX_as (L' := [(1, _), (2, _), (4, _), (24, _)]) [1, 2, 4, 24] rfl ?_
   refine CW_cond_t rfl ?_
   refine CW_seq ?_
   refine CW_region ?_
   refine W_q (r_assign rfl) rfl ?_
   refine W_nil ?_
   refine NX_as (L' := [(1, _), (2, _), (4, _)]) [1, 2, 4] rfl ?_
   exact C_ret (RX_then (RX_jump (RX_g1 rfl rfl ⟨none, 0, [], rfl, Sl.nil _ _ _, fun h => (by obtain ⟨h1, h2, h3⟩ := h; first | (simp_all; done) | omega), fun _ => rfl⟩)))
  ·(try simp only [tA, tB, tC, tD, tE, tF, tG, tH, tI, tJ, tK, tL] at h3)
   refine WL_take rfl rfl ?_
   refine W_q (r_move rfl) rfl ?_
   refine WL_take rfl rfl ?_
   refine W_q (r_fieldb (o' := 0) rfl T.fo79_0 rfl) rfl ?_
   refine WL_take rfl rfl ?_
   refine W_q (r_loadb 0 rfl T.ag65 rfl rfl) rfl ?_
   refine WL_take rfl rfl ?_
   refine W_q (r_len Tryz.underlying65 rfl) rfl ?_
   refine WL_take rfl rfl ?_
   refine W_q (r_bin rfl rfl (bin_geq _ _ _ _)) rfl ?_
   refine W_q (r_pick_f rfl rfl) rfl ?_
   refine W_nil ?_
   refine NX_as (L' := [(1, _), (2, _), (4, _), (24, _)]) [1, 2, 4, 24] rfl ?_
   refine CW_condk rfl (fun h4 => ?_) (fun h4 => ?_)
   ·(try simp only [tA, tB, tC, tD, tE, tF, tG, tH, tI, tJ, tK, tL] at h4)
    refine CW_seq ?_
    refine CW_region ?_
    refine W_q (r_assign rfl) rfl ?_
    refine W_nil ?_
    refine NX_as (L' := [(1, _), (2, _), (4, _)]) [1, 2, 4] rfl ?_
    exact C_ret (RX_then (RX_jump (RX_g1 rfl rfl ⟨none, 0, [], rfl, Sl.nil _ _ _, fun h => (by obtain ⟨h1, h2, h3⟩ := h; first | (simp_all; done) | omega), fun _ => rfl⟩)))
   ·(try simp only [tA, tB, tC, tD, tE, tF, tG, tH, tI, tJ, tK, tL] at h4)
    refine C_skip ?_
    refine NX_as (L' := [(1, _), (2, _), (4, _)]) [1, 2, 4] rfl ?_
    refine CW_seq ?_
    refine CW_region ?_
    have hgo := mayG_ok (g := g) (by assumption)
    have hl64 := hgo.len
    refine S_alloc (l := (List.replicate 64 false).map Value.bool) T.ze123 rfl rfl (fun b5 => ?_)
    refine W_nil ?_
    refine NX_as (L' := [(1, _), (2, _), (4, _), (5, _)]) [1, 2, 4, 5] rfl ?_
    refine CW_seq ?_
    refine CW_region ?_
    refine S_alloc (l := (List.replicate 64 (0 : Int)).map (Value.int .i64)) T.ze124 rfl rfl (fun b6 => ?_)
    refine W_nil ?_
    refine NX_as (L' := [(1, _), (2, _), (4, _), (5, _), (6, _)]) [1, 2, 4, 5, 6] rfl ?_
    refine CW_seq ?_
    refine CW_region ?_
    refine W_q (r_assign rfl) rfl ?_
    refine W_nil ?_
    refine NX_as (L' := [(1, _), (2, _), (4, _), (5, _), (6, _), (7, _)]) [1, 2, 4, 5, 6, 7] rfl ?_
    refine CW_seq ?_
    refine CW_region ?_
    refine W_q (r_move rfl) rfl ?_
    refine S_litr (vs := [_]) (cs := [_]) Tryz.underlying22 T.sz3 T.ze3 rfl rfl rfl rfl rfl rfl rfl (fun b7 => ?_)
    refine W_q (r_assign rfl) rfl ?_
    refine W_nil ?_
    refine NX_as (L' := [(1, _), (2, _), (4, _), (5, _), (6, _), (7, _), (8, _)]) [1, 2, 4, 5, 6, 7, 8] rfl ?_
    refine CW_seq ?_
    refine CW_region ?_
    refine W_q (r_move rfl) rfl ?_
    refine W_q (r_indexa (o' := r.toNat) Tryz.underlying123 T.sz4 rfl rfl ⟨by omega, by omega⟩ (by omega)) rfl ?_
    refine S_storebm (f := Value.bool) (l := (List.replicate 64 false)) (true) 2 rfl rfl rfl rfl T.sz4 rfl (by first | (rw [hO1.sl]; omega) | (rw [hO1.nl]; omega) | (simp only [List.length_replicate]; omega)) ?_
    refine W_nil ?_
    refine NX_as (L' := [(2, _), (4, _), (5, _), (6, _), (7, _), (8, _)]) [2, 4, 5, 6, 7, 8] rfl ?_
    refine CW_nilRow 3 1 ?_
    refine CW_front 0 rfl rfl ?_
    refine CW_front 1 rfl rfl ?_
    refine CW_front 3 rfl rfl ?_
    refine CW_front 3 rfl rfl ?_
    refine C_again (List Int × List Bool × List Int × Int × Option Nat × Nat × List Int × Option Nat × Nat) (fun mk9 x9 => m.le mk9 ∧ (OrdSt g r x9.2.1 x9.1 (x9.2.2.1 ++ [x9.2.2.2.1]) x9.2.2.2.2.2.2.1 ∧ (∃ b, x9.2.2.2.2.1 = some b) ∧ (0 < x9.2.2.2.2.2.2.1.length → ∃ b, x9.2.2.2.2.2.2.2.1 = some b))) (fun x9 => 2 * g.succ.length - (2 * x9.2.2.2.2.2.2.1.length + (x9.2.2.1.length + 1))) (fun x9 => [(7, .slice (rowA x9.2.2.2.2.2.2.2.1) x9.2.2.2.2.2.2.1.length x9.2.2.2.2.2.2.2.2), (8, .slice (rowA x9.2.2.2.2.1) (x9.2.2.1 ++ [x9.2.2.2.1]).length x9.2.2.2.2.2.1)]) (fun x9 => [bx b6 124 (x9.1.map (Value.int .i64)), bx b5 123 (x9.2.1.map Value.bool), rowI 3 x9.2.2.2.2.1 x9.2.2.2.2.2.1 (x9.2.2.1 ++ [x9.2.2.2.1]), rowI 3 x9.2.2.2.2.2.2.2.1 x9.2.2.2.2.2.2.2.2 x9.2.2.2.2.2.2.1]) [7, 8] [2, 5, 6] (F := [(2, _), (5, _), (6, _)]) ((List.replicate 64 0, (List.replicate 64 false).set r.toNat true, [], r, some b7, 1, [], none, 0)) ⟨Imm.le_refl _, ⟨ordSt_init hgo (by omega) (by omega), ⟨_, rfl⟩, by simp⟩⟩ rfl rfl rfl (fun mk9 x9 hJ9 => ?_)
    obtain ⟨hle9, hJ9⟩ := hJ9
    replace hG := rGraph_mono _ _ _ _ hle9 hG
    replace hs90 := hs90.mono (rS_mono rI_mono) hle9
    replace hp90 := hp90.mono (rS_mono rI_mono) hle9
    obtain ⟨nx, sn, st0, tp, gs, cs, out, go, co⟩ := x9
    dsimp only at hJ9 ⊢
    obtain ⟨hO, ⟨gb, rfl⟩, hgo1⟩ := hJ9
    have hln := hO.len
    have htp := hO.rng tp (by simp)
    have hsl : (st0 ++ [tp]).length = st0.length + 1 := by simp
    have h0n := (hO.nxt tp (by simp)).1
    have hsn := hgo.lenX tp.toNat
    refine CW_as (L' := [(2, _), (5, _), (6, _), (7, _), (8, _)]) [2, 5, 6, 7, 8] rfl ?_
    refine CW_seq ?_
    refine CW_region ?_
    refine W_q (r_move rfl) rfl ?_
    refine W_q (r_move rfl) rfl ?_
    refine W_q (r_len Tryz.underlying22 rfl) rfl ?_
    refine W_q (r_sub rfl rfl (by unfold I64 at *; omega)) rfl ?_
    refine W_q (r_indexr (o := ((st0 ++ [tp]).length - 1)) Tryz.underlying22 T.sz3 rfl rfl ⟨by omega, by omega⟩ (by omega)) rfl ?_
    refine W_q (r_loadrI 2 rfl T.ag3 rfl (by simp : (st0 ++ [tp])[(st0 ++ [tp]).length - 1]? = some tp)) rfl ?_
    refine W_q (r_assign rfl) rfl ?_
    refine W_nil ?_
    refine NX_as (L' := [(2, _), (5, _), (6, _), (7, _), (8, _), (9, _)]) [2, 5, 6, 7, 8, 9] rfl ?_
    refine CW_seq ?_
    refine CW_block ?_
    refine CW_front 0 rfl rfl ?_
    refine C_loop (List Int) ((g.succ.getD tp.toNat []).length + 1) (fun k12 x12 => OrdSt g r sn x12 (st0 ++ [tp]) out ∧ atS nx tp + (k12 : Int) ≤ atS x12 tp) (fun k12 x12 => [(8, .slice (rowA (some gb)) (st0 ++ [tp]).length cs)]) (fun k12 x12 => [bx b6 124 (x12.map (Value.int .i64))]) [8] [2, 5, 6, 7, 9] (F := [(2, _), (5, _), (6, _), (7, _), (9, _)]) (nx) ⟨hO, by simp⟩ rfl rfl rfl (fun k12 x12 hk12 hJ12 => ?_)
    obtain ⟨hO1, hk1⟩ := hJ12
    have hnx := hO1.nxt tp (by simp)
    obtain ⟨zz, hzz⟩ : ∃ z, x12[tp.toNat]? = some z := ⟨_, List.getElem?_eq_getElem (by rw [hO1.nl]; omega)⟩
    have hza : atS x12 tp = zz := atS_of hzz
    refine CW_as (L' := [(2, _), (5, _), (6, _), (7, _), (8, _), (9, _)]) [2, 5, 6, 7, 8, 9] rfl ?_
    refine CW_seq ?_
    refine CW_seq ?_
    refine C_drawn [(0, true), (1, true), (2, true), (3, true), (4, true), (5, true), (6, true), (7, true), (8, true), (9, true)] (by kernel_rfl) rfl (by kernel_rfl) (by kernel_rfl) ?_
    refine D_q rfl (r_move rfl) rfl ?_
    refine D_q rfl (r_indexa (o' := tp.toNat) Tryz.underlying124 T.sz3 rfl rfl ⟨by omega, by omega⟩ (by omega)) rfl ?_
    refine D_q rfl (r_loadbm (f := (Value.int .i64)) 0 rfl T.ag3 rfl hzz) rfl ?_
    refine D_q rfl (r_fieldb (o' := 0) rfl T.fo79_0 rfl) rfl ?_
    refine D_q rfl (r_loadb 4 rfl T.ag65 rfl rfl) rfl ?_
    refine D_q rfl (r_move rfl) rfl ?_
    obtain ⟨ad14, hA14⟩ := hs90.ad (j := tp.toNat) (by omega)
    obtain ⟨z14, hz14⟩ := hs90.getz (j := tp.toNat) (by omega)
    refine D_q rfl (r_index hA14 Tryz.underlying65 T.sz22 rfl rfl ⟨by omega, by omega⟩) rfl ?_
    obtain ⟨A15, c15, l15, h15⟩ := Sl.getS hs90 hA14 hz14
    refine D_q rfl (r_load_imm rfl T.ag22 l15) rfl ?_
    have hze : (g.succ.getD tp.toNat []).length = z14.length := by rw [getDl_of hz14]
    refine D_q rfl (r_len Tryz.underlying22 rfl) rfl ?_
    refine D_q rfl (r_bin rfl rfl (bin_lss _ _ _ _)) rfl ?_
    refine D_end ?_
    refine NX_as (L' := [(2, _), (5, _), (6, _), (7, _), (8, _), (9, _), (44, _)]) [2, 5, 6, 7, 8, 9, 44] rfl ?_
    refine CW_condk rfl (fun h16 => ?_) (fun h16 => ?_)
    ·(try simp only [tA, tB, tC, tD, tE, tF, tG, tH, tI, tJ, tK, tL] at h16)
     refine C_skip ?_
     refine NX_as (L' := [(2, _), (5, _), (6, _), (7, _), (8, _), (9, _)]) [2, 5, 6, 7, 8, 9] rfl ?_
     refine CW_block ?_
     refine CW_seq ?_
     refine C_drawn [(0, true), (1, true), (2, true), (3, true), (4, true), (5, true), (6, true), (7, true), (8, true), (9, true), (10, true)] (by kernel_rfl) rfl (by kernel_rfl) (by kernel_rfl) ?_
     refine D_q rfl (r_fieldb (o' := 0) rfl T.fo79_0 rfl) rfl ?_
     refine D_q rfl (r_loadb 4 rfl T.ag65 rfl rfl) rfl ?_
     refine D_q rfl (r_move rfl) rfl ?_
     obtain ⟨ad17, hA17⟩ := hs90.ad (j := tp.toNat) (by omega)
     refine D_q rfl (r_index hA17 Tryz.underlying65 T.sz22 rfl rfl ⟨by omega, by omega⟩) rfl ?_
     obtain ⟨A18, c18, l18, h18⟩ := Sl.getS hs90 hA17 hz14
     refine D_q rfl (r_load_imm rfl T.ag22 l18) rfl ?_
     refine D_q rfl (r_move rfl) rfl ?_
     refine D_q rfl (r_indexa (o' := tp.toNat) Tryz.underlying124 T.sz3 rfl rfl ⟨by omega, by omega⟩ (by omega)) rfl ?_
     refine D_q rfl (r_loadbm (f := (Value.int .i64)) 0 rfl T.ag3 rfl hzz) rfl ?_
     obtain ⟨ad20, hA20⟩ := h18.ad (j := zz.toNat) (by omega)
     obtain ⟨z20, hz20⟩ := h18.getz (j := zz.toNat) (by omega)
     refine D_q rfl (r_index hA20 Tryz.underlying22 T.sz3 rfl rfl ⟨by omega, by omega⟩) rfl ?_
     obtain ⟨l21, r21⟩ := Sl.getI h18 hA20 hz20
     refine D_q rfl (r_load_imm rfl T.ag3 l21) rfl ?_
     refine D_q rfl (r_assign rfl) rfl ?_
     refine D_end ?_
     refine NX_as (L' := [(2, _), (5, _), (6, _), (7, _), (8, _), (9, _), (10, _)]) [2, 5, 6, 7, 8, 9, 10] rfl ?_
     refine CW_seq ?_
     refine CW_region ?_
     refine W_q (r_move rfl) rfl ?_
     refine W_q (r_indexa (o' := tp.toNat) Tryz.underlying124 T.sz3 rfl rfl ⟨by omega, by omega⟩ (by omega)) rfl ?_
     refine W_q (r_loadbm (f := (Value.int .i64)) 0 rfl T.ag3 rfl hzz) rfl ?_
     refine W_q (r_add rfl rfl (by unfold I64 at *; omega)) rfl ?_
     refine W_q (r_indexa (o' := tp.toNat) Tryz.underlying124 T.sz3 rfl rfl ⟨by omega, by omega⟩ (by omega)) rfl ?_
     refine S_storebm (f := (Value.int .i64)) (l := x12) (zz + 1) 0 rfl rfl rfl rfl T.sz3 rfl (by first | (rw [hO1.sl]; omega) | (rw [hO1.nl]; omega) | (simp only [List.length_replicate]; omega)) ?_
     refine W_nil ?_
     refine NX_as (L' := [(2, _), (5, _), (6, _), (7, _), (8, _), (9, _), (10, _)]) [2, 5, 6, 7, 8, 9, 10] rfl ?_
     refine CW_seq ?_
     refine CW_region ?_
     have hyr := rising_get (hgo.rise _ (List.mem_of_getElem? hz14)) hz20
     have hyS : (g.succ.getD tp.toNat [])[zz.toNat]? = some z20 := by rw [getDl_of hz14]; exact hz20
     have ez : ((zz.toNat : Nat) : Int) = zz := by omega
     refine W_q (r_move rfl) rfl ?_
     refine W_q (r_indexa (o' := z20.toNat) Tryz.underlying123 T.sz4 rfl rfl ⟨by omega, by omega⟩ (by omega)) rfl ?_
     obtain ⟨bb, hbb⟩ : ∃ z, sn[z20.toNat]? = some z := ⟨_, List.getElem?_eq_getElem (by rw [hO1.sl]; omega)⟩
     refine W_q (r_loadbm (f := Value.bool) 1 rfl T.ag4 rfl hbb) rfl ?_
     refine W_q (r_not rfl) rfl ?_
     refine W_nil ?_
     refine NX_as (L' := [(2, _), (5, _), (6, _), (7, _), (8, _), (9, _), (10, _), (63, _)]) [2, 5, 6, 7, 8, 9, 10, 63] rfl ?_
     refine CW_condk rfl (fun h25 => ?_) (fun h25 => ?_)
     ·(try simp only [tA, tB, tC, tD, tE, tF, tG, tH, tI, tJ, tK, tL] at h25)
      refine CW_seq ?_
      refine CW_region ?_
      refine W_q (r_move rfl) rfl ?_
      refine W_q (r_indexa (o' := z20.toNat) Tryz.underlying123 T.sz4 rfl rfl ⟨by omega, by omega⟩ (by omega)) rfl ?_
      refine S_storebm (f := Value.bool) (l := sn) (true) 1 rfl rfl rfl rfl T.sz4 rfl (by first | (rw [hO1.sl]; omega) | (rw [hO1.nl]; omega) | (simp only [List.length_replicate]; omega)) ?_
      refine W_nil ?_
      refine NX_as (L' := [(2, _), (5, _), (6, _), (7, _), (8, _), (9, _), (10, _)]) [2, 5, 6, 7, 8, 9, 10] rfl ?_
      refine CW_seq ?_
      refine CW_region ?_
      refine W_q (r_move rfl) rfl ?_
      refine W_q (r_move rfl) rfl ?_
      refine S_litr (vs := [_]) (cs := [_]) Tryz.underlying22 T.sz3 T.ze3 rfl rfl rfl rfl rfl rfl rfl (fun b27 => ?_)
      refine S_appendI (l := (st0 ++ [tp])) (g1 := (some gb)) [_] 3 rfl rfl rfl Tryz.underlying22 T.sz3 T.ze3 T.by3 rfl rfl (.row 0 rfl) (by simp only [List.length_cons, List.length_nil]; omega) rfl (fun g28 c28 hg28 => ?_)
      refine W_q (r_assign rfl) rfl ?_
      refine W_nil ?_
      refine NX_as (L' := [(2, _), (5, _), (6, _), (7, _), (8, _), (9, _)]) [2, 5, 6, 7, 8, 9] rfl ?_
      refine C_goto (GX_block (GX_then (GX_block (GX_then (?_)))))
      have hnew := hO1.push hgo rfl (j := zz.toNat) (by omega) hyS (fun hm => by have h := (hO1.seen _ hyr.1 hyr.2).2 hm; rw [hbb] at h; simp_all)
      rw [ez] at hnew
      refine GX_low [7, 8, 2, 5, 6] ((_, _, st0 ++ [tp], z20, _, _, out, _, _)) ?_ ⟨hle9, ?_⟩ rfl (sub_drop 1 rfl) rfl
      ·have := hnew.len; dsimp only; simp only [List.length_append, List.length_cons, List.length_nil] at *; omega
      ·exact ⟨hnew, hg28 (by simp), hgo1⟩
     ·(try simp only [tA, tB, tC, tD, tE, tF, tG, tH, tI, tJ, tK, tL] at h25)
      refine C_skip ?_
      refine NX_block (?_)
      refine NX_rnd [8, 2, 5, 6, 7, 9] (by omega) (_) ?_ rfl (List.Sublist.refl _) rfl (Imm.le_refl _)
      have hnew := hO1.pass hgo rfl (j := zz.toNat) (by omega) hyS ((hO1.seen _ hyr.1 hyr.2).1 (by rw [hbb]; simp_all))
      rw [ez] at hnew
      refine ⟨hnew, ?_⟩
      rw [atS_set htp.1 (by rw [hO1.nl]; omega) htp.1, if_pos rfl]
      omega
    ·(try simp only [tA, tB, tC, tD, tE, tF, tG, tH, tI, tJ, tK, tL] at h16)
     refine C_exit (EX_then (EX_then (EX_hit (?_))))
     refine NX_as (L' := [(2, _), (5, _), (6, _), (7, _), (8, _), (9, _)]) [2, 5, 6, 7, 8, 9] rfl ?_
     refine CW_seq ?_
     refine CW_region ?_
     have hpop := hO1.pop (by have := hO1.nxt tp (by simp); omega)
     refine W_q (r_move rfl) rfl ?_
     refine W_q (r_move rfl) rfl ?_
     refine S_litr (vs := [_]) (cs := [_]) Tryz.underlying22 T.sz3 T.ze3 rfl rfl rfl rfl rfl rfl rfl (fun b29 => ?_)
     refine S_appendI (l := out) (g1 := go) [_] 4 rfl rfl rfl Tryz.underlying22 T.sz3 T.ze3 T.by3 rfl rfl (.row 0 rfl) (by simp only [List.length_cons, List.length_nil]; omega) rfl (fun g30 c30 hg30 => ?_)
     refine W_q (r_assign rfl) rfl ?_
     refine W_nil ?_
     refine NX_as (L' := [(2, _), (5, _), (6, _), (7, _), (8, _)]) [2, 5, 6, 7, 8] rfl ?_
     refine CW_seq ?_
     refine CW_region ?_
     refine W_q (r_move rfl) rfl ?_
     refine W_q (r_move rfl) rfl ?_
     refine W_q (r_len Tryz.underlying22 rfl) rfl ?_
     refine W_q (r_sub rfl rfl (by unfold I64 at *; omega)) rfl ?_
     refine WL_know (k_rowI 3 rfl) (fun hr31 => ?_)
     have hrc31 := hr31.1
     refine W_q (r_slhi' (st0.length) Tryz.underlying22 rfl rfl (by omega) (by omega) T.sz3) rfl ?_
     refine WL_trimI (l' := st0) 3 (st0.length) rfl (by simp) ?_
     refine W_q (r_assign rfl) rfl ?_
     refine W_nil ?_
     refine NX_as (L' := [(2, _), (5, _), (6, _), (7, _), (8, _)]) [2, 5, 6, 7, 8] rfl ?_
     refine CW_seq ?_
     refine CW_seq ?_
     refine CW_region ?_
     refine W_q (r_move rfl) rfl ?_
     refine W_q (r_len Tryz.underlying22 rfl) rfl ?_
     refine W_q (r_bin rfl rfl (bin_gtr _ _ _ _)) rfl ?_
     refine W_nil ?_
     refine NX_as (L' := [(2, _), (5, _), (6, _), (7, _), (8, _), (81, _)]) [2, 5, 6, 7, 8, 81] rfl ?_
     refine CW_condk rfl (fun h32 => ?_) (fun h32 => ?_)
     ·(try simp only [tA, tB, tC, tD, tE, tF, tG, tH, tI, tJ, tK, tL] at h32)
      refine C_goto (GX_then (?_))
      obtain ⟨st1, tq, rfl⟩ := exists_snoc (l := st0) (by omega)
      refine GX_low [7, 8, 2, 5, 6] ((_, _, st1, tq, _, _, out ++ [tp], _, _)) ?_ ⟨hle9, ?_⟩ rfl (sub_drop 1 rfl) rfl
      ·have := hpop.len; dsimp only; simp only [List.length_append, List.length_cons, List.length_nil] at *; omega
      ·exact ⟨hpop, ⟨_, rfl⟩, hg30⟩
     ·(try simp only [tA, tB, tC, tD, tE, tF, tG, tH, tI, tJ, tK, tL] at h32)
      refine C_skip ?_
      refine NX_as (L' := [(2, _), (5, _), (6, _), (7, _), (8, _)]) [2, 5, 6, 7, 8] rfl ?_
      refine CW_seq ?_
      refine CW_region ?_
      refine W_q (r_move rfl) rfl ?_
      obtain ⟨ob33, rfl⟩ := hg30 (by simp)
      refine WL_front 4 rfl rfl ?_
      refine S_does (R0 := [_]) rfl (Reverse_d (l := (out ++ [_])) (by simp only [List.length_append, List.length_cons, List.length_nil]; omega)) T.hb106 rfl rfl (fun m33 R33 v33 le33 hR33 => ?_)
      obtain ⟨rfl, rfl, rfl⟩ := hR33
      refine W_nil ?_
      refine NX_as (L' := [(2, _), (5, _), (6, _), (7, _), (8, _)]) [2, 5, 6, 7, 8] rfl ?_
      refine CW_seq ?_
      refine CW_region ?_
      refine W_q (r_move rfl) rfl ?_
      refine W_q (r_assign rfl) rfl ?_
      refine W_nil ?_
      refine NX_as (L' := [(2, _), (4, _), (5, _), (6, _), (7, _), (8, _)]) [2, 4, 5, 6, 7, 8] rfl ?_
      have e0 : st0 = [] := List.eq_nil_of_length_eq_zero (by omega)
      subst e0
      have hdone := hpop.done
      refine C_ret (RX_jump (RX_know (k_rowI 0 rfl) (fun hr => ?_)))
      refine RX_freeze 0 rfl (fun _ h => h) (fun mf lef hf => ?_)
      have hfin : Ints mf _ _ _ := Ints_frz hf hr.1 hr.2.1 (by have := hpop.len; simp only [List.length_reverse, List.length_append, List.length_cons, List.length_nil] at *; omega) hr.2.2 (fun z hz => by have := hpop.rng z (by simpa using List.mem_reverse.1 hz); exact ⟨by omega, by omega⟩)
      exact RX_g1 rfl rfl ⟨_, _, _, by simp [slI], hfin, fun _ => hdone, fun h => absurd ⟨by assumption, by omega, by omega⟩ h⟩

end Go.Proofs.YtipmgkhjoekaaaaGreat

