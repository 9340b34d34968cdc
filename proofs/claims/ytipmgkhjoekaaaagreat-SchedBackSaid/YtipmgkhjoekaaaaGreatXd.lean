/- A part of a proof about a given program: rules, plain functions and walks. -/
import Derived.Test.YtipmgkhjoekaaaaGreatXc
set_option linter.unusedVariables false
set_option linter.unusedSimpArgs false
namespace Go.Proofs.YtipmgkhjoekaaaaGreat
open Go Go.RowKit Go.Proofs Go.Proofs.YtipmgkhjoekaaaaGreat.Fw
attribute [local irreducible] Qt WL CW NX RX EX GX DL
theorem flatten_one (n : Nat) (v : Value) : (List.replicate n [v]).flatten = List.replicate n v := by
  induction n with
  | zero => rfl
  | succ n ih => rw [List.replicate_succ, List.replicate_succ, List.flatten_cons, ih]; rfl
set_option maxHeartbeats 4000000 in
/-- slices.Repeat[[]int,int] -/
theorem RepeatI_d {m : Imm} {A : Option Addr} {c : Nat} {p : Int} (h : Sl rI 1 m A c [p]) {k : Nat} {z : Int} (hz : z = (k : Int)) (hk : 1 ≤ k) (hk' : k ≤ 64) : Does Tryz.prog 184 [.slice A 1 c, .int .i64 z] m ([]) (fun m' R' v => ∃ b, m.le m' ∧ R' = [rowI 3 (some b) k (List.replicate k p)] ∧ v = .slice (some ⟨b, 0, none⟩) k k) := by
 subst hz
 obtain ⟨ad, rfl, es, he1, he2, he3⟩ := h.at_ 0 p rfl
 refine does_of Tryz.func184 rfl Tryz.ntmps184 rfl (fun w => ?_)
 refine CW_seq ?_
 refine CW_region ?_
 refine W_q (r_assign rfl) rfl ?_
 refine W_nil ?_
 refine NX_as (L' := [(0, _), (1, _), (4, _)]) [0, 1, 4] rfl ?_
 refine CW_seq ?_
 refine CW_seq ?_
 refine CW_region ?_
 refine W_q (r_move rfl) rfl ?_
 refine W_q (r_bin rfl rfl (bin_lss _ _ _ _)) rfl ?_
 refine W_nil ?_
 refine NX_as (L' := [(0, _), (1, _), (4, _), (10, _)]) [0, 1, 4, 10] rfl ?_
 refine CW_condk rfl (fun h1 => ?_) (fun h1 => ?_)
 ·(try simp only [tA, tB, tC, tD, tE, tF, tG, tH, tI, tJ, tK, tL] at h1)
  refine CW_region ?_
  exfalso
  omega
 ·(try simp only [tA, tB, tC, tD, tE, tF, tG, tH, tI, tJ, tK, tL] at h1)
  refine C_skip ?_
  refine NX_as (L' := [(0, _), (1, _), (4, _)]) [0, 1, 4] rfl ?_
  refine CW_seq ?_
  refine CW_region ?_
  refine W_q (r_move rfl) rfl ?_
  refine W_q (r_len Tryz.underlying22 rfl) rfl ?_
  refine W_q (r_convi Tryz.underlying3 Tryz.underlying147 rfl (u64_of _ ⟨by omega, by omega⟩)) rfl ?_
  refine W_q (r_move rfl) rfl ?_
  refine W_q (r_convi Tryz.underlying3 Tryz.underlying147 rfl (u64_of _ ⟨by omega, by omega⟩)) rfl ?_
  refine W_quiet (Mul_q _ (by omega)) T.hb201 rfl rfl ?_
  refine W_q (r_move rfl) rfl ?_
  refine W_q (r_extract rfl rfl) rfl ?_
  refine W_q (r_extract rfl rfl) rfl ?_
  refine W_q (r_assign rfl) rfl ?_
  refine W_q (r_assign rfl) rfl ?_
  refine W_nil ?_
  refine NX_as (L' := [(0, _), (4, _), (5, _), (6, _)]) [0, 4, 5, 6] rfl ?_
  refine CW_seq ?_
  refine CW_seq ?_
  refine CW_region ?_
  refine W_q (r_move rfl) rfl ?_
  refine W_q (r_bin rfl rfl (bin_gtr _ _ _ _)) rfl ?_
  refine W_q (r_move rfl) rfl ?_
  refine WL_split (t := 23) rfl (fun h2 => ?_) (fun h2 => ?_)
  ·(try simp only [tA, tB, tC, tD, tE, tF, tG, tH, tI, tJ, tK, tL] at h2)
   refine WL_pass rfl rfl rfl rfl ?_
   refine WL_pass rfl rfl rfl rfl ?_
   refine W_q (r_pick_t rfl rfl) rfl ?_
   refine W_nil ?_
   refine NX_as (L' := [(0, _), (4, _), (6, _), (26, _)]) [0, 4, 6, 26] rfl ?_
   refine CW_cond_t rfl ?_
   refine CW_region ?_
   exfalso
   omega
  ·(try simp only [tA, tB, tC, tD, tE, tF, tG, tH, tI, tJ, tK, tL] at h2)
   refine WL_take rfl rfl ?_
   refine W_q (r_move rfl) rfl ?_
   refine WL_take rfl rfl ?_
   refine W_q (r_bin rfl rfl (bin_gtr _ _ _ _)) rfl ?_
   refine W_q (r_pick_f rfl rfl) rfl ?_
   refine W_nil ?_
   refine NX_as (L' := [(0, _), (4, _), (6, _), (26, _)]) [0, 4, 6, 26] rfl ?_
   refine CW_condk rfl (fun h3 => ?_) (fun h3 => ?_)
   ·(try simp only [tA, tB, tC, tD, tE, tF, tG, tH, tI, tJ, tK, tL] at h3)
    refine CW_region ?_
    exfalso
    omega
   ·(try simp only [tA, tB, tC, tD, tE, tF, tG, tH, tI, tJ, tK, tL] at h3)
    refine C_skip ?_
    refine NX_as (L' := [(0, _), (4, _), (6, _)]) [0, 4, 6] rfl ?_
    refine CW_seq ?_
    refine CW_region ?_
    refine W_q (r_move rfl) rfl ?_
    refine W_q (r_convi Tryz.underlying147 Tryz.underlying3 rfl (i64_of _ ⟨by omega, by omega⟩)) rfl ?_
    refine S_make (len := k) Tryz.underlying22 T.sz3 T.ze3 T.by3 rfl rfl rfl (by omega) (by unfold maxLen; omega) rfl (fun b4 => ?_)
    generalize hZ : Array.toList (madeCells _ (k * 1)) = Z
    have hZl : Z.length = k * 1 := by rw [← hZ]; simp [size_madeCells]
    refine W_q (r_assign rfl) rfl ?_
    refine W_nil ?_
    refine NX_as (L' := [(0, _), (4, _), (7, _)]) [0, 4, 7] rfl ?_
    refine CW_seq ?_
    refine CW_region ?_
    refine W_q (r_move rfl) rfl ?_
    refine W_q (r_move rfl) rfl ?_
    refine S_copy es 0 rfl rfl rfl Tryz.underlying22 T.sz3 (by rw [he1, show min 1 k = 1 by omega, Nat.one_mul]) (Src.sl h (by simp) (fun ad' e j u hj => by cases e; simpa using he3 j u hj) (by simp)) (by rw [List.all_eq_true]; exact (fun u hu => by obtain ⟨rfl, _⟩ := he2; simp at hu; subst hu; rfl)) (by rw [he1, hZl]; omega) rfl ?_
    rw [show Z.take 0 ++ es ++ Z.drop (0 + es.length) = repL es 1 ++ Z.drop (1 * 1) by simp [repL_one, he1], show min 1 k = 1 by omega]
    refine W_q (r_assign rfl) rfl ?_
    refine W_nil ?_
    refine NX_as (L' := [(4, _), (7, _), (8, _)]) [4, 7, 8] rfl ?_
    refine CW_seq ?_
    refine CW_block ?_
    refine CW_front 0 rfl rfl ?_
    refine C_loop (Nat) (k) (fun k5 x5 => 1 ≤ x5 ∧ x5 ≤ k ∧ k5 + 1 ≤ x5) (fun k5 x5 => [(8, .int .i64 (x5 : Int))]) (fun k5 x5 => [row (some b4) k k 3 1 (repL es x5 ++ Z.drop (x5 * 1))]) [8] [4, 7] (F := [(4, _), (7, _)]) (1) (by omega) rfl rfl rfl (fun k5 x5 hk5 hJ5 => ?_)
    obtain ⟨hJa, hJb, hJc⟩ := hJ5
    refine CW_as (L' := [(4, _), (7, _), (8, _)]) [4, 7, 8] rfl ?_
    refine CW_seq ?_
    refine CW_seq ?_
    refine CW_region ?_
    refine W_q (r_move rfl) rfl ?_
    refine W_q (r_move rfl) rfl ?_
    refine W_q (r_len Tryz.underlying22 rfl) rfl ?_
    refine W_q (r_bin rfl rfl (bin_lss _ _ _ _)) rfl ?_
    refine W_nil ?_
    refine NX_as (L' := [(4, _), (7, _), (8, _), (37, _)]) [4, 7, 8, 37] rfl ?_
    refine CW_condk rfl (fun h6 => ?_) (fun h6 => ?_)
    ·(try simp only [tA, tB, tC, tD, tE, tF, tG, tH, tI, tJ, tK, tL] at h6)
     refine C_skip ?_
     refine NX_as (L' := [(4, _), (7, _), (8, _)]) [4, 7, 8] rfl ?_
     refine CW_block ?_
     refine C_drawnk 1 [(0, true), (1, true), (2, true), (3, true), (4, true), (5, true), (6, true), (7, false), (8, true), (9, true)] (by kernel_rfl) rfl (by kernel_rfl) (by kernel_rfl) ?_
     refine D_q rfl (r_move rfl) rfl ?_
     refine D_q rfl (r_move rfl) rfl ?_
     refine D_q rfl (r_move rfl) rfl ?_
     refine D_q rfl (r_sllo (h := x5) Tryz.underlying22 rfl rfl (by omega) (by omega) T.sz3 (by rw [Nat.zero_add])) rfl ?_
     refine D_q rfl (r_move rfl) rfl ?_
     refine D_q rfl (r_move rfl) rfl ?_
     refine D_q rfl (r_slhi' x5 Tryz.underlying22 rfl rfl rfl (by omega) T.sz3) rfl ?_
     refine D_f rfl (fun hs7 hc7 => ?_)
     refine S_copy (repL es (min x5 (k - x5))) 0 rfl rfl rfl Tryz.underlying22 T.sz3 (repL_len he1 _) ⟨fun w hS j u hj => ⟨_, rfl, by rw [add_plain, Nat.zero_add]; exact row_cell (hS.at (i := 0) rfl) (repL_pre he1 (by omega) hj)⟩, by simp⟩ (repL_one' (fun u hu => by obtain ⟨rfl, _⟩ := he2; simp at hu; subst hu; rfl) _) (by rw [repL_len he1, List.length_append, repL_len he1, List.length_drop, hZl]; omega) rfl ?_
     rw [repL_step he1 (k := k) (by omega)]
     refine W_leftw hs7 hc7 (Imm.le_refl _) (sub_drop 1 rfl) ?_
     refine D_q rfl (r_add rfl rfl (by unfold I64 at *; omega)) rfl ?_
     refine D_q rfl (r_assign rfl) rfl ?_
     refine D_end ?_
     refine NX_block (?_)
     refine NX_rnd [8, 4, 7] (by omega) (x5 + min x5 (k - x5)) ?_ rfl (List.Sublist.refl _) rfl (Imm.le_refl _)
     omega
    ·(try simp only [tA, tB, tC, tD, tE, tF, tG, tH, tI, tJ, tK, tL] at h6)
     refine C_exit (EX_then (EX_then (EX_hit (?_))))
     refine NX_as (L' := [(4, _), (7, _)]) [4, 7] rfl ?_
     refine CW_seq ?_
     refine CW_region ?_
     refine W_q (r_move rfl) rfl ?_
     refine W_q (r_assign rfl) rfl ?_
     refine W_nil ?_
     refine NX_as (L' := [(4, _)]) [4] rfl ?_
     obtain rfl : x5 = k := by omega
     have hrow : repL es x5 ++ Z.drop (x5 * 1) = (List.replicate x5 p).map (Value.int .i64) := by
       obtain ⟨rfl, _⟩ := he2
       rw [List.drop_of_length_le (by omega), List.append_nil, repL, List.map_replicate]
       exact flatten_one _ _
     refine C_ret (RX_d1 rfl rfl (List.Sublist.refl _) ⟨b4, by first | exact Imm.le_refl _ | assumption, ?_, rfl⟩)
     show [row (some b4) _ _ _ _ _] = [rowI 3 (some b4) _ _]
     rw [hrow, rowI, List.length_replicate]

end Go.Proofs.YtipmgkhjoekaaaaGreat

set_option linter.unusedVariables false
set_option linter.unusedSimpArgs false
namespace Go.Proofs.YtipmgkhjoekaaaaGreat
open Go Go.RowKit Go.Proofs Go.Proofs.YtipmgkhjoekaaaaGreat.Fw
attribute [local irreducible] Qt WL CW NX RX EX GX DL
namespace T
theorem hb184 : hasBody Tryz.prog 184 = true := by kernel_rfl
theorem hb185 : hasBody Tryz.prog 185 = true := by kernel_rfl
theorem hb67 : hasBody Tryz.prog 67 = true := by kernel_rfl
end T
set_option maxHeartbeats 40000000 in
/-- dom.Tree -/
theorem Tree_g {m : Imm} {es : List Value} {g : FGraph} (hG : rGraph m es g) (r : Int) : Gives Tryz.prog 150 [.agg es.toArray, .int .i64 r] m (TreeΦ g r) := by
 have hG_0 := hG
 obtain ⟨A90, c90, B90, d90, rfl, hs90, hp90⟩ := hG_0
 refine gives_of Tryz.func150 rfl Tryz.ntmps150 rfl (fun w => ?_)
 refine CW_seq ?_
 refine CW_region ?_
 refine S_box (l := [_, _]) rfl rfl rfl (fun b1 => ?_)
 refine W_q (r_assign rfl) rfl ?_
 refine W_nil ?_
 refine NX_as (L' := [(1, _), (2, _), (4, _)]) [1, 2, 4] rfl ?_
 refine C_scope 0 rfl ?_
 refine CW_seq ?_
 refine CW_region ?_
 refine W_q (r_loadbk 0 (vs := [_, _]) rfl T.ag79 T.sz79 rfl rfl rfl) rfl ?_
 refine W_q (r_move rfl) rfl ?_
 refine S_gives (Order_g hG _) T.hb67 rfl rfl (fun m2 v2 le2 hv2 => ?_)
 replace hG := rGraph_mono _ _ _ _ le2 hG
 replace hs90 := hs90.mono (rS_mono rI_mono) le2
 replace hp90 := hp90.mono (rS_mono rI_mono) le2
 obtain ⟨A2, c2, l2, rfl, h2, ho2, hn2⟩ := hv2
 refine W_q (r_assign rfl) rfl ?_
 refine W_nil ?_
 refine NX_as (L' := [(1, _), (2, _), (4, _), (5, _)]) [1, 2, 4, 5] rfl ?_
 refine CW_seq ?_
 refine CW_seq ?_
 refine CW_region ?_
 refine W_q (r_move rfl) rfl ?_
 refine W_q (r_len Tryz.underlying22 rfl) rfl ?_
 refine W_q (r_bin rfl rfl (bin_eql _ _ _ _)) rfl ?_
 refine W_nil ?_
 refine NX_as (L' := [(1, _), (2, _), (4, _), (5, _), (21, _)]) [1, 2, 4, 5, 21] rfl ?_
 refine CW_condk rfl (fun h3 => ?_) (fun h3 => ?_)
 ·(try simp only [tA, tB, tC, tD, tE, tF, tG, tH, tI, tJ, tK, tL] at h3)
  refine CW_seq ?_
  refine CW_region ?_
  refine W_q (r_assign rfl) rfl ?_
  refine W_nil ?_
  refine NX_as (L' := [(1, _), (2, _), (4, _), (5, _)]) [1, 2, 4, 5] rfl ?_
  exact C_ret (RX_then (RX_jump (RX_g1 rfl rfl ⟨none, 0, [], rfl, Sl.nil _ _ _, fun h => (by have := (ho2 h).hd; simp_all), fun _ => rfl⟩)))
 ·(try simp only [tA, tB, tC, tD, tE, tF, tG, tH, tI, tJ, tK, tL] at h3)
  refine C_skip ?_
  refine NX_as (L' := [(1, _), (2, _), (4, _), (5, _)]) [1, 2, 4, 5] rfl ?_
  refine CW_seq ?_
  refine CW_region ?_
  have hmg : mayG g = true ∧ 0 ≤ r ∧ r < (g.succ.length : Int) := Classical.byContradiction fun h => by
    have := hn2 h
    simp_all
  have hgo := mayG_ok hmg.1
  have hol := ho2 hmg
  have hl64 := hgo.len
  have hne1 := hgo.ne
  have hlen := hol.len
  have hpl : g.pred.length = g.succ.length := by rw [hgo.pred, predsP_length]
  obtain ⟨hmg1, hmg2, hmg3⟩ := hmg
  refine W_q (r_fieldb (o' := 0) rfl T.fo79_0 rfl) rfl ?_
  refine W_q (r_loadb 0 rfl T.ag65 rfl rfl) rfl ?_
  refine W_q (r_len Tryz.underlying65 rfl) rfl ?_
  refine W_q (r_assign rfl) rfl ?_
  refine W_nil ?_
  refine NX_as (L' := [(1, _), (2, _), (4, _), (5, _), (6, _)]) [1, 2, 4, 5, 6] rfl ?_
  refine CW_cut (Imm × Nat × Nat) (fun x4 => x4.1) (fun x4 => [rowI 3 (some x4.2.1) g.succ.length (List.replicate g.succ.length (-2)), rowI 3 (some x4.2.2) g.succ.length (List.replicate g.succ.length 0), bx b1 79 [.slice A90 g.succ.length c90, .slice B90 g.pred.length d90]]) (fun x4 => [(1, .int .i64 r), (2, .pointer (some ⟨b1, 0, none⟩)), (5, .slice A2 l2.length c2), (7, .slice (some ⟨x4.2.1, 0, none⟩) g.succ.length g.succ.length), (8, slI (some x4.2.2) g.succ.length (List.replicate g.succ.length (0 : Int)))]) (fun x4 => m2.le x4.1) ?_ (fun x4 hC4 => ?_)
  ·refine C_drawnA 0 7 rfl (by kernel_rfl) (by kernel_rfl) ?_
   refine A_q (i := 1) (by kernel_rfl) rfl (r_move rfl) rfl ?_
   refine A_q (i := 3) (by kernel_rfl) rfl (r_move rfl) rfl ?_
   refine A_two (i := 0) (j := 4) (by kernel_rfl) rfl rfl (fun hs5 => ?_) (fun hs5 => ?_)
   ·refine S_lit (vs := [_]) (cs := [_]) Tryz.underlying22 T.sz3 T.ze3 rfl rfl rfl rfl rfl rfl (fun m6 ad6 le6 l6 => ?_)
    replace hG := rGraph_mono _ _ _ _ le6 hG
    replace hs90 := hs90.mono (rS_mono rI_mono) le6
    replace hp90 := hp90.mono (rS_mono rI_mono) le6
    replace h2 := h2.mono rI_mono le6
    have h6 : Ints m6 (some ad6) 1 _ := Ints_lit [_] l6 (i64s_cons (by first | assumption | exact ⟨by omega, by omega⟩) i64s_nil)
    refine A_leftw hs5 (le6) (List.Sublist.refl _) ?_
    refine A_two (i := 2) (j := 4) (by kernel_rfl) rfl rfl (fun hs7 => ?_) (fun hs7 => ?_)
    ·refine S_does (R0 := []) rfl (RepeatI_d h6 (k := g.succ.length) rfl (by omega) (by omega)) T.hb184 rfl rfl (fun m8 R8 v8 le8 hR8 => ?_)
     obtain ⟨rb8, _, rfl, rfl⟩ := hR8
     replace hG := rGraph_mono _ _ _ _ le8 hG
     replace hs90 := hs90.mono (rS_mono rI_mono) le8
     replace hp90 := hp90.mono (rS_mono rI_mono) le8
     replace h2 := h2.mono rI_mono le8
     replace h6 := h6.mono rI_mono le8
     refine A_leftw hs7 (Imm.le_trans (le6) le8) (sub_drop 1 rfl) ?_
     refine A_q (i := 5) (by kernel_rfl) rfl (r_assign rfl) rfl ?_
     refine A_one (i := 4) (by kernel_rfl) rfl (fun hs9 => ?_)
     ·refine S_makeI g.succ.length Tryz.underlying22 T.sz3 T.ze3 T.by3 rfl rfl rfl rfl (by omega) (by unfold maxLen; omega) rfl (fun b10 => ?_)
      refine A_leftw hs9 (Imm.le_trans (le6) le8) (sub_drop 2 rfl) ?_
      refine A_q (i := 6) (by kernel_rfl) rfl (r_assign rfl) rfl ?_
      refine A_end (by kernel_rfl) ?_
      refine NX_cut ((m8, rb8, b10)) (Imm.le_trans (le6) le8) [1, 2, 5, 7, 8] rfl (perm_take 1 rfl (perm_take 0 rfl (perm_take 0 rfl (List.Perm.refl _)))) rfl
    ·refine S_makeI g.succ.length Tryz.underlying22 T.sz3 T.ze3 T.by3 rfl rfl rfl rfl (by omega) (by unfold maxLen; omega) rfl (fun b11 => ?_)
     refine A_leftw hs7 (le6) (sub_drop 1 rfl) ?_
     refine A_one (i := 2) (by kernel_rfl) rfl (fun hs12 => ?_)
     ·refine S_does (R0 := []) rfl (RepeatI_d h6 (k := g.succ.length) rfl (by omega) (by omega)) T.hb184 rfl rfl (fun m13 R13 v13 le13 hR13 => ?_)
      obtain ⟨rb13, _, rfl, rfl⟩ := hR13
      replace hG := rGraph_mono _ _ _ _ le13 hG
      replace hs90 := hs90.mono (rS_mono rI_mono) le13
      replace hp90 := hp90.mono (rS_mono rI_mono) le13
      replace h2 := h2.mono rI_mono le13
      replace h6 := h6.mono rI_mono le13
      refine A_leftw hs12 (Imm.le_trans (le6) le13) (sub_drop 2 rfl) ?_
      refine A_q (i := 5) (by kernel_rfl) rfl (r_assign rfl) rfl ?_
      refine A_q (i := 6) (by kernel_rfl) rfl (r_assign rfl) rfl ?_
      refine A_end (by kernel_rfl) ?_
      refine NX_cut ((m13, rb13, b11)) (Imm.le_trans (le6) le13) [1, 2, 5, 7, 8] rfl (perm_take 0 rfl (perm_take 0 rfl (perm_take 0 rfl (List.Perm.refl _)))) rfl
   ·refine S_makeI g.succ.length Tryz.underlying22 T.sz3 T.ze3 T.by3 rfl rfl rfl rfl (by omega) (by unfold maxLen; omega) rfl (fun b14 => ?_)
    refine A_leftw hs5 (Imm.le_refl _) (sub_drop 1 rfl) ?_
    refine A_one (i := 0) (by kernel_rfl) rfl (fun hs15 => ?_)
    ·refine S_lit (vs := [_]) (cs := [_]) Tryz.underlying22 T.sz3 T.ze3 rfl rfl rfl rfl rfl rfl (fun m16 ad16 le16 l16 => ?_)
     replace hG := rGraph_mono _ _ _ _ le16 hG
     replace hs90 := hs90.mono (rS_mono rI_mono) le16
     replace hp90 := hp90.mono (rS_mono rI_mono) le16
     replace h2 := h2.mono rI_mono le16
     have h16 : Ints m16 (some ad16) 1 _ := Ints_lit [_] l16 (i64s_cons (by first | assumption | exact ⟨by omega, by omega⟩) i64s_nil)
     refine A_leftw hs15 (le16) (sub_drop 1 rfl) ?_
     refine A_one (i := 2) (by kernel_rfl) rfl (fun hs17 => ?_)
     ·refine S_does (R0 := []) rfl (RepeatI_d h16 (k := g.succ.length) rfl (by omega) (by omega)) T.hb184 rfl rfl (fun m18 R18 v18 le18 hR18 => ?_)
      obtain ⟨rb18, _, rfl, rfl⟩ := hR18
      replace hG := rGraph_mono _ _ _ _ le18 hG
      replace hs90 := hs90.mono (rS_mono rI_mono) le18
      replace hp90 := hp90.mono (rS_mono rI_mono) le18
      replace h2 := h2.mono rI_mono le18
      replace h16 := h16.mono rI_mono le18
      refine A_leftw hs17 (Imm.le_trans (le16) le18) (sub_drop 2 rfl) ?_
      refine A_q (i := 5) (by kernel_rfl) rfl (r_assign rfl) rfl ?_
      refine A_q (i := 6) (by kernel_rfl) rfl (r_assign rfl) rfl ?_
      refine A_end (by kernel_rfl) ?_
      refine NX_cut ((m18, rb18, b14)) (Imm.le_trans (le16) le18) [1, 2, 5, 7, 8] rfl (perm_take 0 rfl (perm_take 0 rfl (perm_take 0 rfl (List.Perm.refl _)))) rfl
  ·obtain ⟨mc, bt, ba⟩ := x4
   dsimp only at hC4 ⊢
   replace hG := rGraph_mono _ _ _ _ hC4 hG
   replace hs90 := hs90.mono (rS_mono rI_mono) hC4
   replace hp90 := hp90.mono (rS_mono rI_mono) hC4
   replace h2 := h2.mono rI_mono hC4
   refine CW_seq ?_
   refine CW_seq ?_
   refine CW_region ?_
   refine W_q (r_move rfl) rfl ?_
   refine W_q (r_len Tryz.underlying22 rfl) rfl ?_
   refine W_q (r_move rfl) rfl ?_
   refine W_nil ?_
   refine NX_as (L' := [(1, _), (2, _), (5, _), (7, _), (8, _), (30, _), (31, _), (32, _)]) [1, 2, 5, 7, 8, 30, 31, 32] rfl ?_
   refine CW_front 1 rfl rfl ?_
   refine C_range (List Int) (l2.length) (fun k19 x19 => AtK l2 x19 g.succ.length k19) (fun k19 x19 => []) (fun k19 x19 => [rowI 3 (some ba) g.succ.length x19]) [] [1, 2, 5, 7, 8, 30] (F := [(1, _), (2, _), (5, _), (7, _), (8, _), (30, _)]) ((List.replicate g.succ.length 0)) rfl rfl (by omega) (atK_zero _ _) rfl rfl rfl rfl rfl rfl rfl (fun _ _ => rfl) (fun _ _ => rfl) (fun k19 x19 hk19 hJ19 => ?_) (fun x19 hJ19 => ?_)
   ·refine CW_as (L' := [(1, _), (2, _), (5, _), (7, _), (8, _), (30, _), (31, _), (32, _)]) [1, 2, 5, 7, 8, 30, 31, 32] rfl ?_
    refine CW_seq ?_
    refine CW_region ?_
    refine W_q (r_move rfl) rfl ?_
    obtain ⟨ad20, hA20⟩ := h2.ad (j := k19) (by omega)
    obtain ⟨z20, hz20⟩ := h2.getz (j := k19) (by omega)
    refine W_q (r_index hA20 Tryz.underlying22 T.sz3 rfl rfl ⟨by omega, by omega⟩) rfl ?_
    obtain ⟨l21, r21⟩ := Sl.getI h2 hA20 hz20
    refine W_q (r_load_imm rfl T.ag3 l21) rfl ?_
    refine W_q (r_assign rfl) rfl ?_
    refine W_q (r_assign rfl) rfl ?_
    refine W_nil ?_
    refine NX_as (L' := [(1, _), (2, _), (5, _), (7, _), (8, _), (9, _), (10, _), (30, _), (31, _), (32, _)]) [1, 2, 5, 7, 8, 9, 10, 30, 31, 32] rfl ?_
    refine CW_region ?_
    refine W_q (r_move rfl) rfl ?_
    refine W_q (r_move rfl) rfl ?_
    have hxr0 := hol.rng _ (List.mem_of_getElem? hz20)
    refine W_q (r_move rfl) rfl ?_
    refine W_q (r_indexr (o := z20.toNat) Tryz.underlying22 T.sz3 rfl rfl ⟨by omega, by simp only [List.length_replicate]; omega⟩ (by omega)) rfl ?_
    refine S_storerI 0 rfl rfl T.sz3 rfl (by rw [hJ19.1]; omega) ?_
    refine W_nil ?_
    refine NX_block (?_)
    refine NX_rng [1, 2, 5, 7, 8, 30] (_) ?_ rfl (List.Sublist.refl _) rfl (Imm.le_refl _)
    exact atK_step hol (by omega) hJ19 hz20
   ·have hat0 := hJ19
    have hat := atK_ok hJ19
    have hal := hJ19.1
    refine NX_as (L' := [(1, _), (2, _), (5, _), (7, _), (8, _)]) [1, 2, 5, 7, 8] rfl ?_
    refine CW_seq ?_
    refine CW_region ?_
    refine W_q (r_move rfl) rfl ?_
    refine W_q (r_move rfl) rfl ?_
    refine W_q (r_move rfl) rfl ?_
    refine W_q (r_indexr (o := r.toNat) Tryz.underlying22 T.sz3 rfl rfl ⟨by omega, by omega⟩ (by omega)) rfl ?_
    refine S_storerI 1 rfl rfl T.sz3 rfl (by simp only [List.length_replicate]; omega) ?_
    refine W_nil ?_
    refine NX_as (L' := [(1, _), (2, _), (5, _), (7, _), (8, _)]) [1, 2, 5, 7, 8] rfl ?_
    refine CW_front 1 rfl rfl ?_
    refine C_again (List Int) (fun mk24 x24 => mc.le mk24 ∧ (∃ k r1, TreeSt g r l2 x19 x24 k r1)) (fun x24 => mu g l2 x19 x24) (fun x24 => []) (fun x24 => [rowI 3 (some bt) g.succ.length x24]) [] [1, 2, 5, 7, 8] (F := [(1, _), (2, _), (5, _), (7, _), (8, _)]) ((List.replicate g.succ.length (-2)).set r.toNat r) ⟨Imm.le_refl _, ⟨1, r, treeSt_init hgo hol hat⟩⟩ rfl rfl rfl (fun mk24 x24 hJ24 => ?_)
    obtain ⟨hle24, hJ24⟩ := hJ24
    replace hG := rGraph_mono _ _ _ _ hle24 hG
    replace hs90 := hs90.mono (rS_mono rI_mono) hle24
    replace hp90 := hp90.mono (rS_mono rI_mono) hle24
    replace h2 := h2.mono rI_mono hle24
    obtain ⟨k1, r1, hs⟩ := hJ24
    have hC := hs.climb hgo hol hat hal
    refine CW_as (L' := [(1, _), (2, _), (5, _), (7, _), (8, _)]) [1, 2, 5, 7, 8] rfl ?_
    refine CW_seq ?_
    refine CW_seq ?_
    refine CW_region ?_
    refine W_q (r_move rfl) rfl ?_
    have htl := Sl.tail h2 (by omega)
    have hdl : (l2.drop 1).length = l2.length - 1 := List.length_drop
    refine W_q (r_sltail Tryz.underlying22 rfl rfl (by omega) h2.le T.sz3) rfl ?_
    refine W_q (r_len Tryz.underlying22 rfl) rfl ?_
    refine W_q (r_move rfl) rfl ?_
    refine W_nil ?_
    refine NX_as (L' := [(1, _), (2, _), (5, _), (7, _), (8, _), (47, _), (48, _), (49, _)]) [1, 2, 5, 7, 8, 47, 48, 49] rfl ?_
    refine C_range (Unit) ((l2.length - 1)) (fun k25 x25 => ∀ (j : Nat) y, 0 < j → j < k25 + 1 → l2[j]? = some y → atS x24 y = bestX g x24 x19 y) (fun k25 x25 => []) (fun _ _ => []) [] [1, 2, 5, 7, 8, 47] (F := [(1, _), (2, _), (5, _), (7, _), (8, _), (47, _)]) (()) rfl rfl (by omega) (fun j y h1 h2 => by omega) rfl rfl rfl rfl rfl rfl rfl (fun _ _ => rfl) (fun _ _ => rfl) (fun k25 x25 hk25 hJ25 => ?_) (fun x25 hJ25 => ?_)
    ·refine CW_as (L' := [(1, _), (2, _), (5, _), (7, _), (8, _), (47, _), (48, _), (49, _)]) [1, 2, 5, 7, 8, 47, 48, 49] rfl ?_
     refine CW_seq ?_
     refine CW_region ?_
     obtain ⟨ad26, hA26⟩ := htl.ad (j := k25) (by omega)
     obtain ⟨z26, hz26⟩ := htl.getz (j := k25) (by omega)
     refine W_q (r_index hA26 Tryz.underlying22 T.sz3 rfl rfl ⟨by omega, by omega⟩) rfl ?_
     obtain ⟨l27, r27⟩ := Sl.getI htl hA26 hz26
     refine W_q (r_load_imm rfl T.ag3 l27) rfl ?_
     have hx1 : l2[1 + k25]? = some z26 := by rw [← List.getElem?_drop]; exact hz26
     have hxr := hol.rng _ (List.mem_of_getElem? hx1)
     refine W_q (r_assign rfl) rfl ?_
     refine W_nil ?_
     refine NX_as (L' := [(1, _), (2, _), (5, _), (7, _), (8, _), (12, _), (47, _), (48, _), (49, _)]) [1, 2, 5, 7, 8, 12, 47, 48, 49] rfl ?_
     refine CW_seq ?_
     refine CW_region ?_
     refine W_q (r_assign rfl) rfl ?_
     refine W_nil ?_
     refine NX_as (L' := [(1, _), (2, _), (5, _), (7, _), (8, _), (12, _), (13, _), (47, _), (48, _), (49, _)]) [1, 2, 5, 7, 8, 12, 13, 47, 48, 49] rfl ?_
     refine CW_seq ?_
     refine CW_seq ?_
     refine CW_region ?_
     refine W_q (r_fieldb (o' := 1) rfl T.fo79_1 rfl) rfl ?_
     refine W_q (r_loadb 2 rfl T.ag65 rfl rfl) rfl ?_
     refine W_q (r_move rfl) rfl ?_
     obtain ⟨ad28, hA28⟩ := hp90.ad (j := z26.toNat) (by omega)
     obtain ⟨z28, hz28⟩ := hp90.getz (j := z26.toNat) (by omega)
     refine W_q (r_index hA28 Tryz.underlying65 T.sz22 rfl rfl ⟨by omega, by omega⟩) rfl ?_
     obtain ⟨A29, c29, l29, h29⟩ := Sl.getS hp90 hA28 hz28
     refine W_q (r_load_imm rfl T.ag22 l29) rfl ?_
     have hpE : ∀ q ∈ z28, Ed g q z26 := fun q hq => (mem_pred hgo hxr.1).1 (by rw [getDl_of hz28]; exact hq)
     refine W_q (r_len Tryz.underlying22 rfl) rfl ?_
     refine W_q (r_move rfl) rfl ?_
     refine W_nil ?_
     refine NX_as (L' := [(1, _), (2, _), (5, _), (7, _), (8, _), (12, _), (13, _), (47, _), (48, _), (49, _), (57, _), (58, _), (59, _)]) [1, 2, 5, 7, 8, 12, 13, 47, 48, 49, 57, 58, 59] rfl ?_
     refine C_range (Int) (z28.length) (fun k30 x30 => x30 = bestF x24 x19 (z28.take k30)) (fun k30 x30 => [(13, .int .i64 x30)]) (fun _ _ => []) [13] [1, 2, 5, 7, 8, 12, 47, 48, 49, 57] (F := [(1, _), (2, _), (5, _), (7, _), (8, _), (12, _), (47, _), (48, _), (49, _), (57, _)]) (-2) rfl rfl (by have := h29.len; omega) rfl rfl rfl rfl rfl rfl rfl rfl (fun _ _ => rfl) (fun _ _ => rfl) (fun k30 x30 hk30 hJ30 => ?_) (fun x30 hJ30 => ?_)
     ·refine CW_as (L' := [(1, _), (2, _), (5, _), (7, _), (8, _), (12, _), (13, _), (47, _), (48, _), (49, _), (57, _), (58, _), (59, _)]) [1, 2, 5, 7, 8, 12, 13, 47, 48, 49, 57, 58, 59] rfl ?_
      refine CW_seq ?_
      refine CW_region ?_
      obtain ⟨ad31, hA31⟩ := h29.ad (j := k30) (by omega)
      obtain ⟨z31, hz31⟩ := h29.getz (j := k30) (by omega)
      refine W_q (r_index hA31 Tryz.underlying22 T.sz3 rfl rfl ⟨by omega, by omega⟩) rfl ?_
      obtain ⟨l32, r32⟩ := Sl.getI h29 hA31 hz31
      refine W_q (r_load_imm rfl T.ag3 l32) rfl ?_
      have hpr := ((hpE _ (List.mem_of_getElem? hz31)).rng hgo).1
      refine W_q (r_assign rfl) rfl ?_
      refine W_nil ?_
      refine NX_as (L' := [(1, _), (2, _), (5, _), (7, _), (8, _), (12, _), (13, _), (15, _), (47, _), (48, _), (49, _), (57, _), (58, _), (59, _)]) [1, 2, 5, 7, 8, 12, 13, 15, 47, 48, 49, 57, 58, 59] rfl ?_
      refine CW_block ?_
      refine CW_seq ?_
      refine CW_region ?_
      refine W_q (r_move rfl) rfl ?_
      obtain ⟨tz, htz⟩ : ∃ z, x24[z31.toNat]? = some z := ⟨_, List.getElem?_eq_getElem (by rw [hs.len]; omega)⟩
      have hta : atS x24 z31 = tz := atS_of htz
      refine W_q (r_move rfl) rfl ?_
      refine W_q (r_indexr (o := z31.toNat) Tryz.underlying22 T.sz3 rfl rfl ⟨by omega, by omega⟩ (by omega)) rfl ?_
      refine W_q (r_loadrI 0 rfl T.ag3 rfl htz) rfl ?_
      refine W_q (r_bin rfl rfl (bin_eql _ _ _ _)) rfl ?_
      refine W_q (r_assign rfl) rfl ?_
      refine W_nil ?_
      refine NX_as (L' := [(1, _), (2, _), (5, _), (7, _), (8, _), (12, _), (13, _), (15, _), (47, _), (48, _), (49, _), (57, _), (58, _), (59, _), (68, _)]) [1, 2, 5, 7, 8, 12, 13, 15, 47, 48, 49, 57, 58, 59, 68] rfl ?_
      refine CW_condk rfl (fun h34 => ?_) (fun h34 => ?_)
      ·(try simp only [tA, tB, tC, tD, tE, tF, tG, tH, tI, tJ, tK, tL] at h34)
       refine C_skip ?_
       refine NX_block (NX_block (?_))
       refine NX_rng [13, 1, 2, 5, 7, 8, 12, 47, 48, 49, 57] (_) ?_ rfl (List.Sublist.refl _) rfl (Imm.le_refl _)
       rw [bestF_take hz31, ← hJ30, bestS]
       first
         | (rw [if_pos (by rw [hta]; assumption)]; done)
         | (rw [if_neg (by rw [hta]; assumption), if_pos (by assumption)]; done)
         | (rw [if_neg (by rw [hta]; assumption), if_neg (by assumption)]; done)
      ·(try simp only [tA, tB, tC, tD, tE, tF, tG, tH, tI, tJ, tK, tL] at h34)
       refine CW_seq ?_
       refine CW_region ?_
       refine W_q (r_move rfl) rfl ?_
       refine W_q (r_bin rfl rfl (bin_eql _ _ _ _)) rfl ?_
       refine W_q (r_assign rfl) rfl ?_
       refine W_nil ?_
       refine NX_as (L' := [(1, _), (2, _), (5, _), (7, _), (8, _), (12, _), (13, _), (15, _), (47, _), (48, _), (49, _), (57, _), (58, _), (59, _), (74, _)]) [1, 2, 5, 7, 8, 12, 13, 15, 47, 48, 49, 57, 58, 59, 74] rfl ?_
       refine CW_condk rfl (fun h35 => ?_) (fun h35 => ?_)
       ·(try simp only [tA, tB, tC, tD, tE, tF, tG, tH, tI, tJ, tK, tL] at h35)
        refine CW_region ?_
        refine W_q (r_move rfl) rfl ?_
        refine W_q (r_assign rfl) rfl ?_
        refine W_nil ?_
        refine NX_block (NX_block (?_))
        refine NX_rng [13, 1, 2, 5, 7, 8, 12, 47, 48, 49, 57] (_) ?_ rfl (List.Sublist.refl _) rfl (Imm.le_refl _)
        rw [bestF_take hz31, ← hJ30, bestS]
        first
          | (rw [if_pos (by rw [hta]; assumption)]; done)
          | (rw [if_neg (by rw [hta]; assumption), if_pos (by assumption)]; done)
          | (rw [if_neg (by rw [hta]; assumption), if_neg (by assumption)]; done)
       ·(try simp only [tA, tB, tC, tD, tE, tF, tG, tH, tI, tJ, tK, tL] at h35)
        refine CW_region ?_
        refine W_q (r_move rfl) rfl ?_
        refine W_q (r_move rfl) rfl ?_
        refine W_q (r_move rfl) rfl ?_
        refine W_q (r_move rfl) rfl ?_
        have hSb := hs.bestS hgo hol hat hal hxr.1 (l := z28.take k30) (fun q hq => hpE q (List.mem_of_mem_take hq)) (by rw [← hJ30]; assumption)
        rw [← hJ30] at hSb
        have hSp := (hs.none z31 hpr.1 hpr.2).1 (by rw [hta]; assumption)
        refine W_q (r_quietI2 0 0 rfl rfl (fun z hz => by have := hs.vals z hz; exact ⟨by omega, by omega⟩) (fun z hz => by have := hat0.2.2 z hz; exact ⟨by omega, by omega⟩) (by rw [hs.len]; omega) (by rw [hal]; omega) (fun m' le a1 a2 => meet_q a1 a2 hC _ _ hSb hSp) T.hb185 (by rw [hs.len, hal]; first | rfl | (simp only [slI, List.length_replicate]; rfl))) rfl ?_
        refine W_q (r_assign rfl) rfl ?_
        refine W_nil ?_
        refine NX_block (NX_block (?_))
        refine NX_rng [13, 1, 2, 5, 7, 8, 12, 47, 48, 49, 57] (_) ?_ rfl (List.Sublist.refl _) rfl (Imm.le_refl _)
        rw [bestF_take hz31, ← hJ30, bestS]
        first
          | (rw [if_pos (by rw [hta]; assumption)]; done)
          | (rw [if_neg (by rw [hta]; assumption), if_pos (by assumption)]; done)
          | (rw [if_neg (by rw [hta]; assumption), if_neg (by assumption)]; done)
     ·refine NX_as (L' := [(1, _), (2, _), (5, _), (7, _), (8, _), (12, _), (13, _), (47, _), (48, _), (49, _)]) [1, 2, 5, 7, 8, 12, 13, 47, 48, 49] rfl ?_
      refine CW_seq ?_
      refine CW_region ?_
      refine W_q (r_move rfl) rfl ?_
      obtain ⟨xz, hxz⟩ : ∃ z, x24[z26.toNat]? = some z := ⟨_, List.getElem?_eq_getElem (by rw [hs.len]; omega)⟩
      have hxa : atS x24 z26 = xz := atS_of hxz
      have hbx : x30 = bestX g x24 x19 z26 := by rw [hJ30, bestX, getDl_of hz28, List.take_length]
      refine W_q (r_move rfl) rfl ?_
      refine W_q (r_indexr (o := z26.toNat) Tryz.underlying22 T.sz3 rfl rfl ⟨by omega, by omega⟩ (by omega)) rfl ?_
      refine W_q (r_loadrI 0 rfl T.ag3 rfl hxz) rfl ?_
      refine W_q (r_move rfl) rfl ?_
      refine W_q (r_bin rfl rfl (bin_neq _ _ _ _)) rfl ?_
      refine W_nil ?_
      refine NX_as (L' := [(1, _), (2, _), (5, _), (7, _), (8, _), (12, _), (13, _), (47, _), (48, _), (49, _), (84, _)]) [1, 2, 5, 7, 8, 12, 13, 47, 48, 49, 84] rfl ?_
      refine CW_condk rfl (fun h37 => ?_) (fun h37 => ?_)
      ·(try simp only [tA, tB, tC, tD, tE, tF, tG, tH, tI, tJ, tK, tL] at h37)
       refine CW_seq ?_
       refine CW_region ?_
       refine W_q (r_move rfl) rfl ?_
       refine W_q (r_move rfl) rfl ?_
       refine W_q (r_move rfl) rfl ?_
       refine W_q (r_indexr (o := z26.toNat) Tryz.underlying22 T.sz3 rfl rfl ⟨by omega, by omega⟩ (by omega)) rfl ?_
       refine S_storerI 0 rfl rfl T.sz3 rfl (by rw [hs.len]; omega) ?_
       refine W_nil ?_
       refine NX_as (L' := [(1, _), (2, _), (5, _), (7, _), (8, _), (47, _), (48, _), (49, _)]) [1, 2, 5, 7, 8, 47, 48, 49] rfl ?_
       refine C_goto (GX_block (GX_then (GX_block (GX_then (?_)))))
       obtain ⟨k2, r2, hs2, hm2⟩ := hs.step hgo hol hat hal (i := 1 + k25) (by omega) hx1 (fun j y h0 h1 hy => hJ25 j y h0 (by omega) hy) (by rw [hxa, ← hbx]; assumption)
       rw [← hbx] at hs2 hm2
       refine GX_low [1, 2, 5, 7, 8] ((x24.set z26.toNat x30)) ?_ ⟨hle24, ?_⟩ rfl (List.Sublist.refl _) rfl
       ·exact hm2
       ·exact ⟨_, _, hs2⟩
      ·(try simp only [tA, tB, tC, tD, tE, tF, tG, tH, tI, tJ, tK, tL] at h37)
       refine C_skip ?_
       refine NX_block (?_)
       refine NX_rng [1, 2, 5, 7, 8, 47] (()) ?_ rfl (List.Sublist.refl _) rfl (Imm.le_refl _)
       intro j y h0 h1 hy
       by_cases e : j = 1 + k25
       · subst e; rw [hx1] at hy; cases hy; rw [hxa, ← hbx]; assumption
       · exact hJ25 j y h0 (by omega) hy
    ·refine NX_as (L' := [(1, _), (2, _), (5, _), (7, _), (8, _)]) [1, 2, 5, 7, 8] rfl ?_
     refine CW_seq ?_
     refine CW_region ?_
     refine W_q (r_move rfl) rfl ?_
     refine W_q (r_move rfl) rfl ?_
     refine W_q (r_indexr (o := r.toNat) Tryz.underlying22 T.sz3 rfl rfl ⟨by omega, by omega⟩ (by omega)) rfl ?_
     refine S_storerI 0 rfl rfl T.sz3 rfl (by rw [hs.len]; omega) ?_
     refine W_nil ?_
     refine NX_as (L' := [(1, _), (2, _), (5, _), (7, _), (8, _)]) [1, 2, 5, 7, 8] rfl ?_
     refine CW_seq ?_
     refine CW_region ?_
     refine W_q (r_move rfl) rfl ?_
     refine W_q (r_assign rfl) rfl ?_
     refine W_nil ?_
     refine NX_as (L' := [(1, _), (2, _), (4, _), (5, _), (7, _), (8, _)]) [1, 2, 4, 5, 7, 8] rfl ?_
     have hd := hs.done hgo hol hat hal (fun j y h0 hy => hJ25 j y h0 (by have := (List.getElem?_eq_some_iff.1 hy).1; omega) hy)
     refine C_ret (RX_jump (RX_know (k_rowI 0 rfl) (fun hr => ?_)))
     refine RX_freeze 0 rfl (fun _ h => h) (fun mf lef hf => ?_)
     have hfin : Ints mf _ _ _ := Ints_frz hf hr.1 hr.2.1 (by rw [List.length_set, hs.len]; omega) hr.2.2 (fun z hz => (List.mem_or_eq_of_mem_set hz).elim (fun hz => by have := hs.vals z hz; exact ⟨by omega, by omega⟩) (fun e => by subst e; exact ⟨by omega, by omega⟩))
     exact RX_g1 rfl rfl ⟨_, _, _, by rw [List.length_set, hs.len]; rfl, hfin, fun _ => ⟨hd, (treeP_eq hmg2 hd).symm⟩, fun h => absurd ⟨hmg1, hmg2, hmg3⟩ h⟩

end Go.Proofs.YtipmgkhjoekaaaaGreat

set_option linter.unusedVariables false
set_option linter.unusedSimpArgs false
namespace Go.Proofs.YtipmgkhjoekaaaaGreat
open Go Go.RowKit Go.Proofs Go.Proofs.YtipmgkhjoekaaaaGreat.Fw
attribute [local irreducible] Qt WL CW NX RX EX GX DL
namespace T
theorem hb100 : hasBody Tryz.prog 100 = true := by kernel_rfl
theorem hb101 : hasBody Tryz.prog 101 = true := by kernel_rfl
theorem hb102 : hasBody Tryz.prog 102 = true := by kernel_rfl
theorem hb103 : hasBody Tryz.prog 103 = true := by kernel_rfl
theorem hb85 : hasBody Tryz.prog 85 = true := by kernel_rfl
end T
/-- slices.Compact of numbers -/
theorem Compact_d {m : Imm} {g : Option Nat} {cap : Nat} {l : List Int} (hg : 0 < l.length → ∃ b, g = some b) (hl : l.length ≤ 1000000) : Does Tryz.prog 85 [slI g cap l] m [rowI 3 g cap l] (fun m' R' v => m' = m ∧ R' = [rowI 3 g cap (Lib.compact l)] ∧ v = slI g cap (Lib.compact l)) :=
  does_compact hg (fun b w hH _ hc => Tryz.slices_Compact_int b 0 cap l w hH (by omega) hc) (fun a w => Tryz.slices_Compact_int_empty a cap w)
/-- slices.Sorted(slices.Values(l)) -/
theorem Sorted_d {m : Imm} {A : Option Addr} {c b : Nat} {l : List Int} (h : Ints m A c l) (hl : l.length ≤ 1000000) : Does Tryz.prog 102 [.func (.func 132) #[] #[.pointer (some ⟨b, 0, none⟩)]] m [bx b 22 [.slice A l.length c]] (fun m' R' v => m' = m ∧ ∃ g cap, (0 < (l.mergeSort fun x y => decide (x ≤ y)).length → ∃ b, g = some b) ∧ R' = [rowI 3 g cap (l.mergeSort fun x y => decide (x ≤ y))] ∧ v = slI g cap (l.mergeSort fun x y => decide (x ≤ y))) :=
  does_new fun w hp => by
    obtain ⟨h1, h2, h3⟩ := boxed_of hp h
    have := Tryz.sortedValues b A c l hl w ⟨h1, h2, h3⟩
    rw [List.length_mergeSort]
    exact this
set_option maxHeartbeats 4000000 in
/-- slices.Values[[]int,int] -/
theorem Values_d {m : Imm} {A : Option Addr} {n c : Nat} : Does Tryz.prog 103 [.slice A n c] m ([]) (fun m' R' v => m' = m ∧ ∃ b, R' = [bx b 22 [.slice A n c]] ∧ v = .func (.func 132) #[] #[.pointer (some ⟨b, 0, none⟩)]) := by
 refine does_of Tryz.func103 rfl Tryz.ntmps103 rfl (fun w => ?_)
 refine CW_seq ?_
 refine CW_region ?_
 refine S_box (l := [_]) rfl rfl rfl (fun b1 => ?_)
 refine W_q (r_assign rfl) rfl ?_
 refine W_nil ?_
 refine NX_as (L' := [(1, _), (2, _)]) [1, 2] rfl ?_
 refine CW_seq ?_
 refine CW_region ?_
 refine W_q (r_makeFunc (first := []) (cap := [_]) rfl rfl) rfl ?_
 refine W_q (r_assign rfl) rfl ?_
 refine W_nil ?_
 refine NX_as (L' := [(2, _)]) [2] rfl ?_
 exact C_ret (RX_d1 rfl rfl (List.Sublist.refl _) ⟨rfl, b1, rfl, rfl⟩)

set_option maxHeartbeats 40000000 in
/-- graph.Of -/
theorem Of_g {m : Imm} {es : List Value} {f : FFun} (hF : rFunc m es f) : Gives Tryz.prog 65 [.agg es.toArray] m (GraphΦ (ofP f)) := by
 have hF_0 := hF
 obtain ⟨A90, c90, B90, d90, rfl, hq90, hb90, i90a⟩ := hF_0
 have hbl := hb90.len
 refine gives_of Tryz.func65 rfl Tryz.ntmps65 rfl (fun w => ?_)
 refine CW_seq ?_
 refine CW_region ?_
 refine S_box (l := [_, _, _]) rfl rfl rfl (fun b1 => ?_)
 refine S_alloc (l := [_, _]) T.ze79 rfl rfl (fun b2 => ?_)
 refine W_q (r_assign rfl) rfl ?_
 refine W_nil ?_
 refine NX_as (L' := [(1, _), (2, _), (3, _)]) [1, 2, 3] rfl ?_
 refine CW_seq ?_
 refine CW_region ?_
 refine W_q (r_fieldb (o' := 2) rfl T.fo25_2 rfl) rfl ?_
 refine W_q (r_loadb 1 rfl T.ag23 rfl rfl) rfl ?_
 refine W_q (r_len Tryz.underlying23 rfl) rfl ?_
 refine S_alloc (l := [_]) T.ze3 rfl rfl (fun b3 => ?_)
 refine S_storeb 0 (l' := [_]) rfl rfl rfl T.sz3 rfl rfl rfl rfl ?_
 refine W_nil ?_
 refine NX_as (L' := [(1, _), (2, _), (3, _), (4, _)]) [1, 2, 3, 4] rfl ?_
 refine CW_seq ?_
 refine CW_seq ?_
 refine CW_region ?_
 refine W_q (r_loadb 0 rfl T.ag3 rfl rfl) rfl ?_
 refine W_q (r_bin rfl rfl (bin_gtr _ _ _ _)) rfl ?_
 refine W_nil ?_
 refine NX_as (L' := [(1, _), (2, _), (3, _), (4, _), (12, _)]) [1, 2, 3, 4, 12] rfl ?_
 refine CW_condk rfl (fun h4 => ?_) (fun h4 => ?_)
 ·(try simp only [tA, tB, tC, tD, tE, tF, tG, tH, tI, tJ, tK, tL] at h4)
  refine CW_seq ?_
  refine CW_region ?_
  refine W_q (r_builds (cs := [_, _]) T.bl79 rfl rfl) rfl ?_
  refine S_storeb 1 (l' := [_, _]) rfl rfl rfl T.sz79 rfl rfl rfl rfl ?_
  refine W_q (r_assign rfl) rfl ?_
  refine W_nil ?_
  refine NX_as (L' := [(1, _), (2, _), (3, _), (4, _)]) [1, 2, 3, 4] rfl ?_
  refine C_ret (RX_then (RX_gR (res_ct 1 rfl rfl rfl T.ag79 T.sz79 rfl) ?_))
  rw [ofP_big (by omega)]
  exact ⟨_, rfl, _, _, _, _, rfl, Sl.nil _ _ _, Sl.nil _ _ _⟩
 ·(try simp only [tA, tB, tC, tD, tE, tF, tG, tH, tI, tJ, tK, tL] at h4)
  refine C_skip ?_
  refine NX_as (L' := [(1, _), (2, _), (3, _), (4, _)]) [1, 2, 3, 4] rfl ?_
  refine CW_seq ?_
  refine CW_region ?_
  refine W_q (r_assign rfl) rfl ?_
  refine W_nil ?_
  refine NX_as (L' := [(1, _), (2, _), (3, _), (4, _), (5, _)]) [1, 2, 3, 4, 5] rfl ?_
  refine CW_seq ?_
  refine CW_seq ?_
  refine CW_region ?_
  refine W_q (r_fieldb (o' := 2) rfl T.fo25_2 rfl) rfl ?_
  refine W_q (r_loadb 2 rfl T.ag23 rfl rfl) rfl ?_
  refine W_q (r_len Tryz.underlying23 rfl) rfl ?_
  refine W_q (r_move rfl) rfl ?_
  refine W_nil ?_
  refine NX_as (L' := [(2, _), (3, _), (4, _), (5, _), (15, _), (16, _), (17, _)]) [2, 3, 4, 5, 15, 16, 17] rfl ?_
  refine CW_nilRow 22 1 ?_
  refine CW_front 0 rfl rfl ?_
  refine C_rangeM (Option Nat × Nat × List Value) (f.blocks.length) (fun k5 mk5 x5 => m.le mk5 ∧ ((∀ j b, j < k5 → f.blocks[j]? = some b → badB f.blocks.length b = false) ∧ SlCells mk5 x5.2.2 ((f.blocks.take k5).map fun b => sortC b.fin.to))) (fun k5 x5 => [(5, .slice (rowA x5.1) k5 x5.2.1)]) (fun k5 x5 => [row x5.1 k5 x5.2.1 22 1 x5.2.2]) [5] [2, 4, 15] (F := [(2, _), (4, _), (15, _)]) ((none, 0, [])) rfl rfl (by omega) ⟨Imm.le_refl _, ⟨fun j b h => by omega, SlCells.nil _⟩⟩ rfl rfl rfl rfl rfl rfl rfl (fun _ _ => rfl) (fun _ _ => rfl) (fun k5 mk5 x5 hk5 hJ5 => ?_) (fun mk5 x5 hJ5 => ?_)
  ·obtain ⟨hle5, hJ5⟩ := hJ5
   replace hF := rFunc_mono _ _ _ _ hle5 hF
   replace hq90 := hq90.mono rI_mono hle5
   replace hb90 := hb90.mono rBlock_mono hle5
   obtain ⟨hJ1, hJ2⟩ := hJ5
   refine CW_as (L' := [(2, _), (4, _), (5, _), (15, _), (16, _), (17, _)]) [2, 4, 5, 15, 16, 17] rfl ?_
   refine CW_seq ?_
   refine CW_region ?_
   obtain ⟨ad7, hA7⟩ := hb90.ad (j := k5) (by omega)
   obtain ⟨z7, hz7⟩ := hb90.getz (j := k5) (by omega)
   refine W_q (r_index hA7 Tryz.underlying23 T.sz44 rfl rfl ⟨by omega, by omega⟩) rfl ?_
   obtain ⟨es8, f8, _, l8⟩ := Sl.get hb90 hA7 hz7
   have F8 := f8
   obtain ⟨A8, c8, B8, d8, C8, e8, rfl, hp8, ho8, ht8, i8a, i8b⟩ := f8
   refine W_q (r_load_immk (vs := [_, _, _, _, _]) rfl T.ag44 T.sz44 l8) rfl ?_
   refine S_alloc (l := [_, _, _, _, _]) T.ze44 rfl rfl (fun b9 => ?_)
   refine S_storeb 0 (l' := [_, _, _, _, _]) rfl rfl rfl T.sz44 rfl rfl rfl rfl ?_
   refine W_nil ?_
   refine NX_as (L' := [(2, _), (4, _), (5, _), (7, _), (15, _), (16, _), (17, _)]) [2, 4, 5, 7, 15, 16, 17] rfl ?_
   refine CW_seq ?_
   refine CW_seq ?_
   refine C_drawn [(0, true), (1, true), (2, true), (3, true), (4, true), (5, true), (6, true), (7, true), (8, true), (9, true), (10, true), (11, true), (12, true), (13, true), (14, true), (15, true)] (by kernel_rfl) rfl (by kernel_rfl) (by kernel_rfl) ?_
   refine D_q rfl (r_fieldb (o' := 2) rfl T.fo44_2 rfl) rfl ?_
   refine D_q rfl (r_fieldb (o' := 2) rfl T.fo42_0 rfl) rfl ?_
   refine D_q rfl (r_loadb 0 rfl T.ag3 rfl rfl) rfl ?_
   refine D_quiet rfl (goes_q _) T.hb100 rfl rfl ?_
   refine D_q rfl (r_fieldb (o' := 2) rfl T.fo44_2 rfl) rfl ?_
   refine D_q rfl (r_fieldb (o' := 4) rfl T.fo42_2 rfl) rfl ?_
   refine D_q rfl (r_loadb 0 rfl T.ag22 rfl rfl) rfl ?_
   refine D_q rfl (r_len Tryz.underlying22 rfl) rfl ?_
   refine D_q rfl (r_bin rfl rfl (bin_neq _ _ _ _)) rfl ?_
   refine D_q rfl (r_move rfl) rfl ?_
   refine D_split (t := 30) rfl (fun h10 => ?_) (fun h10 => ?_)
   ·(try simp only [tA, tB, tC, tD, tE, tF, tG, tH, tI, tJ, tK, tL] at h10)
    refine D_pass rfl rfl rfl rfl rfl ?_
    refine D_pass rfl rfl rfl rfl rfl ?_
    refine D_pass rfl rfl rfl rfl rfl ?_
    refine D_pass rfl rfl rfl rfl rfl ?_
    refine D_pass rfl rfl rfl rfl rfl ?_
    refine D_q rfl (r_pick_t rfl rfl) rfl ?_
    refine D_end ?_
    refine NX_as (L' := [(2, _), (4, _), (5, _), (7, _), (15, _), (16, _), (17, _), (36, _)]) [2, 4, 5, 7, 15, 16, 17, 36] rfl ?_
    refine CW_cond_t rfl ?_
    refine CW_seq ?_
    refine CW_region ?_
    refine W_q (r_builds (cs := [_, _]) T.bl79 rfl rfl) rfl ?_
    refine S_storeb 3 (l' := [_, _]) rfl rfl rfl T.sz79 rfl rfl rfl rfl ?_
    refine W_q (r_assign rfl) rfl ?_
    refine W_nil ?_
    refine NX_as (L' := [(2, _), (3, _), (4, _), (5, _), (7, _), (15, _), (16, _), (17, _)]) [2, 3, 4, 5, 7, 15, 16, 17] rfl ?_
    refine C_ret (RX_then (RX_block (RX_then (RX_block (RX_then (RX_gR (res_ct 3 rfl rfl rfl T.ag79 T.sz79 rfl) ?_))))))
    rw [ofP_bad hz7 (by simp only [badB]; simp_all)]
    exact ⟨_, rfl, _, _, _, _, rfl, Sl.nil _ _ _, Sl.nil _ _ _⟩
   ·(try simp only [tA, tB, tC, tD, tE, tF, tG, tH, tI, tJ, tK, tL] at h10)
    refine D_qt rfl rfl rfl (r_fieldb (o' := 2) rfl T.fo44_2 rfl) rfl ?_
    refine D_qt rfl rfl rfl (r_fieldb (o' := 4) rfl T.fo42_2 rfl) rfl ?_
    refine D_qt rfl rfl rfl (r_loadb 0 rfl T.ag22 rfl rfl) rfl ?_
    refine D_qt rfl rfl rfl (r_makeFunc (first := []) (cap := [_]) rfl rfl) rfl ?_
    refine D_qt rfl rfl rfl (r_quietb 2 rfl (fun m' le hc => ContainsFuncI_q (ht8.mono rI_mono le) (p := fun k => decide (k < 1) || decide ((f.blocks.length : Int) ≤ k)) (K := 101) T.hb101 (fun z hz => Of1_q z (hc 0 _ rfl))) T.hb86 rfl) rfl ?_
    refine D_q rfl (r_pick_f rfl rfl) rfl ?_
    refine D_end ?_
    refine NX_as (L' := [(2, _), (4, _), (5, _), (7, _), (15, _), (16, _), (17, _), (36, _)]) [2, 4, 5, 7, 15, 16, 17, 36] rfl ?_
    refine CW_condk rfl (fun h11 => ?_) (fun h11 => ?_)
    ·(try simp only [tA, tB, tC, tD, tE, tF, tG, tH, tI, tJ, tK, tL] at h11)
     refine CW_seq ?_
     refine CW_region ?_
     refine W_q (r_builds (cs := [_, _]) T.bl79 rfl rfl) rfl ?_
     refine S_storeb 3 (l' := [_, _]) rfl rfl rfl T.sz79 rfl rfl rfl rfl ?_
     refine W_q (r_assign rfl) rfl ?_
     refine W_nil ?_
     refine NX_as (L' := [(2, _), (3, _), (4, _), (5, _), (7, _), (15, _), (16, _), (17, _)]) [2, 3, 4, 5, 7, 15, 16, 17] rfl ?_
     refine C_ret (RX_then (RX_block (RX_then (RX_block (RX_then (RX_gR (res_ct 3 rfl rfl rfl T.ag79 T.sz79 rfl) ?_))))))
     rw [ofP_bad hz7 (by simp only [badB]; simp_all)]
     exact ⟨_, rfl, _, _, _, _, rfl, Sl.nil _ _ _, Sl.nil _ _ _⟩
    ·(try simp only [tA, tB, tC, tD, tE, tF, tG, tH, tI, tJ, tK, tL] at h11)
     refine C_skip ?_
     refine NX_as (L' := [(2, _), (4, _), (5, _), (7, _), (15, _), (16, _), (17, _)]) [2, 4, 5, 7, 15, 16, 17] rfl ?_
     refine CW_region ?_
     refine W_q (r_move rfl) rfl ?_
     refine W_q (r_fieldb (o' := 2) rfl T.fo44_2 rfl) rfl ?_
     refine W_q (r_fieldb (o' := 4) rfl T.fo42_2 rfl) rfl ?_
     have hgl := goes_len (n := f.blocks.length) (b := z7) (by simp only [badB]; simp_all)
     refine W_q (r_loadb 0 rfl T.ag22 rfl rfl) rfl ?_
     refine S_does (R0 := []) rfl Values_d T.hb103 rfl rfl (fun m12 R12 v12 le12 hR12 => ?_)
     obtain ⟨rfl, vb12, rfl, rfl⟩ := hR12
     refine S_does (R0 := [_]) rfl (Sorted_d ht8 (by have := ht8.len; omega)) T.hb102 rfl rfl (fun m13 R13 v13 le13 hR13 => ?_)
     obtain ⟨rfl, g13, c13, hg13, rfl, rfl⟩ := hR13
     refine S_does (R0 := [_]) rfl (Compact_d hg13 (by simp only [List.length_mergeSort]; omega)) T.hb85 rfl rfl (fun m14 R14 v14 le14 hR14 => ?_)
     obtain ⟨rfl, rfl, rfl⟩ := hR14
     refine WL_know (k_rowI 0 rfl) (fun hr14 => ?_)
     refine WL_freeze 0 rfl (fun _ h => h) (fun mf14 lef14 hf14 => ?_)
     replace hF := rFunc_mono _ _ _ _ lef14 hF
     replace hq90 := hq90.mono rI_mono lef14
     replace hb90 := hb90.mono rBlock_mono lef14
     replace F8 := rBlock_mono _ _ _ _ lef14 F8
     replace hp8 := hp8.mono rPhi_mono lef14
     replace ho8 := ho8.mono rOp_mono lef14
     replace ht8 := ht8.mono rI_mono lef14
     have h14 := Ints_frz hf14 hr14.1 hr14.2.1 (by have := sortC_len z7.fin.to; simp only [sortC] at this; omega) hr14.2.2 (sortC_i64 (Ints_all ht8))
     refine S_litr (vs := [_]) (cs := [_]) Tryz.underlying65 T.sz22 T.ze22 rfl rfl rfl rfl rfl rfl rfl (fun b15 => ?_)
     refine S_appendG [_] 2 rfl rfl rfl Tryz.underlying65 T.sz22 T.ze22 T.by22 rfl rfl rfl (.row 0 rfl) rfl (by omega) (by unfold maxLen; omega) rfl (fun g16 c16 hg16 => ?_)
     refine W_q (r_assign rfl) rfl ?_
     refine W_nil ?_
     refine NX_block (?_)
     refine NX_rngM [5, 2, 4, 15] ((_, _, _)) ⟨Imm.le_trans (hle5) lef14, ?_⟩ rfl (sub_drop 2 rfl) rfl
     refine ⟨fun j b h1 h2 => ?_, ?_⟩
     · by_cases e : j = k5
       · subst e; rw [hz7] at h2; cases h2; simp only [badB]; simp_all
       · exact hJ1 j b (by omega) h2
     · rw [take_map_succ hz7]
       exact (hJ2.mono (lef14)).snoc h14
  ·obtain ⟨hle5, hJ5⟩ := hJ5
   replace hF := rFunc_mono _ _ _ _ hle5 hF
   replace hq90 := hq90.mono rI_mono hle5
   replace hb90 := hb90.mono rBlock_mono hle5
   obtain ⟨hJa, hJb⟩ := hJ5
   refine NX_know (k_rowG 0 rfl) (fun hr17 => ?_)
   refine NX_freeze 0 rfl (fun _ h => h) (fun m17 le17 hf17 => ?_)
   replace hF := rFunc_mono _ _ _ _ le17 hF
   replace hq90 := hq90.mono rI_mono le17
   replace hb90 := hb90.mono rBlock_mono le17
   rw [List.take_of_length_le (Nat.le_refl _)] at hJb
   have h17 := (hJb.mono le17).sl hf17 (by rw [List.length_map]; exact hr17.2.1) hr17.2.2.1 (by rw [List.length_map]; omega) (by rw [List.length_map]; exact hr17.2.2.2)
   refine NX_as (L' := [(2, _), (5, _)]) [2, 5] rfl ?_
   refine CW_seq ?_
   refine CW_region ?_
   refine W_q (r_move rfl) rfl ?_
   have hmk := Make_g h17
   rw [List.length_map] at hmk
   refine S_gives hmk T.hb104 rfl rfl (fun m18 v18 le18 hv18 => ?_)
   replace hF := rFunc_mono _ _ _ _ le18 hF
   replace hq90 := hq90.mono rI_mono le18
   replace hb90 := hb90.mono rBlock_mono le18
   replace h17 := h17.mono (rS_mono rI_mono) le18
   obtain ⟨_, rfl, A18, c18, B18, d18, rfl, h18, g18⟩ := hv18
   refine W_q (r_extract rfl rfl) rfl ?_
   refine W_q (r_extract rfl rfl) rfl ?_
   refine S_storeb 1 (l' := [_, _]) rfl rfl rfl T.sz79 rfl rfl rfl rfl ?_
   refine W_q (r_assign rfl) rfl ?_
   refine W_nil ?_
   refine NX_as (L' := [(2, _), (3, _)]) [2, 3] rfl ?_
   refine C_ret (RX_gR (res_ct 1 rfl rfl rfl T.ag79 T.sz79 rfl) ?_)
   rw [ofP_ok (by omega) hJa]
   exact ⟨_, rfl, _, _, _, _, rfl, h18, g18⟩

end Go.Proofs.YtipmgkhjoekaaaaGreat

set_option linter.unusedVariables false
set_option linter.unusedSimpArgs false
namespace Go.Proofs.YtipmgkhjoekaaaaGreat
open Go Go.RowKit Go.Proofs Go.Proofs.YtipmgkhjoekaaaaGreat.Fw
attribute [local irreducible] Qt WL CW NX RX EX GX DL
namespace T
theorem ag99 : agg? Tryz.prog 99 = some false := by kernel_rfl
theorem fo139_0 : fld? Tryz.prog 139 0 = some (0, 3) := by kernel_rfl
theorem fo139_1 : fld? Tryz.prog 139 1 = some (3, 1) := by kernel_rfl
theorem hb153 : hasBody Tryz.prog 153 = true := by kernel_rfl
theorem hb154 : hasBody Tryz.prog 154 = true := by kernel_rfl
theorem hb155 : hasBody Tryz.prog 155 = true := by kernel_rfl
theorem hb156 : hasBody Tryz.prog 156 = true := by kernel_rfl
theorem hb157 : hasBody Tryz.prog 157 = true := by kernel_rfl
theorem hb158 : hasBody Tryz.prog 158 = true := by kernel_rfl
end T
theorem ofK_f1 {lev : Int} {o : FOp} (h : lev < 2) (h2 : 1 < o.lanes ∨ 20 < o.kind) : ofK lev o = false := by
  have : (decide (lev < 2) && (decide (1 < o.lanes) || decide (20 < o.kind))) = true := by simp [h, h2]
  simp only [ofK, this]; rfl
theorem ofK_f2 {lev : Int} {o : FOp} (h : lev < 1) (h2 : 17 < o.kind) : ofK lev o = false := by
  have : (decide (lev < 1) && decide (17 < o.kind)) = true := by simp [h, h2]
  simp only [ofK, this]; simp
theorem ofK_t {lev : Int} {o : FOp} (h : 2 ≤ lev ∨ (o.lanes ≤ 1 ∧ o.kind ≤ 20)) (h2 : 1 ≤ lev ∨ o.kind ≤ 17) : ofK lev o = mayOpK o := by
  have e1 : (decide (lev < 2) && (decide (1 < o.lanes) || decide (20 < o.kind))) = false := by
    rw [Bool.and_eq_false_iff, Bool.or_eq_false_iff, decide_eq_false_iff_not, decide_eq_false_iff_not, decide_eq_false_iff_not]; omega
  have e2 : (decide (lev < 1) && decide (17 < o.kind)) = false := by
    rw [Bool.and_eq_false_iff, decide_eq_false_iff_not, decide_eq_false_iff_not]; omega
  simp only [ofK, e1, e2]; simp
theorem any_all {α : Type _} {p : α → Bool} {l : List α} (h : (l.any fun x => !(p x)) = false) : l.all p = true :=
  List.all_eq_true.2 fun b hb => by simpa using List.any_eq_false.1 h b hb
theorem any_all' {α : Type _} {p : α → Bool} {l : List α} (h : (l.any fun x => !(p x)) = true) : l.all p = false := by
  obtain ⟨b, h1, h2⟩ := List.any_eq_true.1 h
  exact List.all_eq_false.2 ⟨b, h1, by simpa using h2⟩
theorem okTyped_t {lev : Int} {b : FBlk} (h1 : (b.phis.any fun p => !(mayW p.bits)) = false) (h2 : (b.ops.any fun o => !(ofK lev o)) = false) : okTyped lev b = true := by
  rw [okTyped, any_all (p := fun p : FPhi => mayW p.bits) h1, any_all h2]; rfl
theorem okTyped_f1 {lev : Int} {b : FBlk} (h : (b.phis.any fun p => !(mayW p.bits)) = true) : okTyped lev b = false := by
  rw [okTyped, any_all' (p := fun p : FPhi => mayW p.bits) h]; rfl
theorem okTyped_f2 {lev : Int} {b : FBlk} (h : (b.ops.any fun o => !(ofK lev o)) = true) : okTyped lev b = false := by
  rw [okTyped, any_all' h]; simp
theorem typedP_1 {f : FFun} {lev : Int} (h : mayW f.ret = false) : 6 = typedP f lev := by simp [typedP, h]
theorem typedP_2 {f : FFun} {lev : Int} (h : (f.params.any fun b => !(mayW b)) = true) : 6 = typedP f lev := by
  have : f.params.all mayW = false := by
    obtain ⟨b, h1, h2⟩ := List.any_eq_true.1 h
    exact List.all_eq_false.2 ⟨b, h1, by simpa using h2⟩
  simp [typedP, this]
theorem typedP_3 {f : FFun} {lev : Int} {k : Nat} {b : FBlk} (hk : f.blocks[k]? = some b) (h : okTyped lev b = false) : 6 = typedP f lev := by
  have : f.blocks.all (okTyped lev) = false := List.all_eq_false.2 ⟨b, List.mem_of_getElem? hk, by simp [h]⟩
  simp [typedP, this]
theorem typedP_0 {f : FFun} {lev : Int} (h1 : mayW f.ret = true) (h2 : (f.params.any fun b => !(mayW b)) = false) (h3 : ∀ j b, j < f.blocks.length → f.blocks[j]? = some b → okTyped lev b = true) : 0 = typedP f lev := by
  have e2 : f.params.all mayW = true := List.all_eq_true.2 fun b hb => by simpa using List.any_eq_false.1 h2 b hb
  have e3 : f.blocks.all (okTyped lev) = true := List.all_eq_true.2 fun b hb => by
    obtain ⟨j, hj⟩ := List.mem_iff_getElem?.1 hb
    exact h3 j b (List.getElem?_eq_some_iff.1 hj).1 hj
  simp [typedP, h1, e2, e3]
set_option maxHeartbeats 4000000 in
/-- check.scalar -/
theorem scalar_q {m : Imm} (b : Int) : Quiet Tryz.prog 160 [.int .i64 b] m (.agg #[.int .i64 b, .int .i64 1]) := by
 refine quiet_of Tryz.func160 rfl Tryz.ntmps160 rfl (fun w => ?_)
 refine CW_seq ?_
 refine CW_region ?_
 refine S_alloc (l := [_, _]) T.ze71 rfl rfl (fun b1 => ?_)
 refine W_nil ?_
 refine NX_as (L' := [(0, _), (2, _)]) [0, 2] rfl ?_
 refine CW_seq ?_
 refine CW_region ?_
 refine W_q (r_move rfl) rfl ?_
 refine W_q (r_builda (zs := [_, _]) (cs := [_, _]) Tryz.underlying71 T.sz3 T.ze71 rfl rfl rfl) rfl ?_
 refine S_storeb 0 (l' := [_, _]) rfl rfl rfl T.sz71 rfl rfl rfl rfl ?_
 refine W_nil ?_
 refine NX_as (L' := [(2, _)]) [2] rfl ?_
 exact C_ret (RX_qR (res_c 0 rfl rfl rfl T.ag71 T.sz71) rfl)

set_option maxHeartbeats 20000000 in
/-- (*check.checker).of -/
theorem of_q {m : Imm} {bc : Nat} {A : Option Addr} {c : Nat} {B : Option Addr} {d : Nat} {f : FFun} {lev : Int} {X4 X5 X6 X7 : Value} (hC : Lies m bc [.slice A f.params.length c, .int .i64 f.ret, .slice B f.blocks.length d, .int .i64 lev, X4, X5, X6, X7]) {es : List Value} {o : FOp} (hO : rOp m es o) : Quiet Tryz.prog 158 [.pointer (some ⟨bc, 0, none⟩), .agg es.toArray] m (.bool (ofK lev o)) := by
 have hO_0 := hO
 obtain ⟨A91, c91, rfl, h91, i91a, i91b, i91c, i91d, i91e⟩ := hO_0
 refine quiet_of Tryz.func158 rfl Tryz.ntmps158 rfl (fun w => ?_)
 refine CW_seq ?_
 refine CW_region ?_
 refine S_box (l := [_, _, _, _, _, _]) rfl rfl rfl (fun b1 => ?_)
 refine W_q (r_assign rfl) rfl ?_
 refine W_nil ?_
 refine NX_as (L' := [(0, _), (3, _), (4, _)]) [0, 3, 4] rfl ?_
 refine CW_seq ?_
 refine CW_block ?_
 refine CW_seq ?_
 refine CW_region ?_
 refine W_q (r_move rfl) rfl ?_
 refine W_q (r_nilCheck rfl) rfl ?_
 refine W_q (r_fieldb (o' := 3) rfl T.fo139_1 rfl) rfl ?_
 refine W_q (r_load_imm rfl T.ag3 (hC 3 _ rfl)) rfl ?_
 refine W_q (r_bin rfl rfl (bin_lss _ _ _ _)) rfl ?_
 refine W_q (r_move rfl) rfl ?_
 refine WL_split (t := 11) rfl (fun h2 => ?_) (fun h2 => ?_)
 ·(try simp only [tA, tB, tC, tD, tE, tF, tG, tH, tI, tJ, tK, tL] at h2)
  refine WL_take rfl rfl ?_
  refine W_q (r_fieldb (o' := 2) rfl T.fo51_2 rfl) rfl ?_
  refine WL_take rfl rfl ?_
  refine W_q (r_loadb 0 rfl T.ag3 rfl rfl) rfl ?_
  refine WL_take rfl rfl ?_
  refine W_q (r_bin rfl rfl (bin_gtr _ _ _ _)) rfl ?_
  refine WL_take rfl rfl ?_
  refine W_q (r_move rfl) rfl ?_
  refine WL_split (t := 15) rfl (fun h3 => ?_) (fun h3 => ?_)
  ·(try simp only [tA, tB, tC, tD, tE, tF, tG, tH, tI, tJ, tK, tL] at h3)
   refine WL_pass rfl rfl rfl rfl ?_
   refine WL_pass rfl rfl rfl rfl ?_
   refine WL_pass rfl rfl rfl rfl ?_
   refine WL_take rfl rfl ?_
   refine W_q (r_pick_t rfl rfl) rfl ?_
   refine W_q (r_pick_t rfl rfl) rfl ?_
   refine W_q (r_assign rfl) rfl ?_
   refine W_nil ?_
   refine NX_as (L' := [(0, _), (3, _), (4, _), (5, _)]) [0, 3, 4, 5] rfl ?_
   refine CW_cond_t rfl ?_
   refine CW_seq ?_
   refine CW_region ?_
   refine W_q (r_assign rfl) rfl ?_
   refine W_nil ?_
   refine NX_as (L' := [(3, _), (4, _)]) [3, 4] rfl ?_
   refine C_ret (RX_block (RX_then (RX_q1 rfl rfl ?_)))
   first
     | exact congrArg _ (ofK_f1 (by omega) (by omega)).symm
     | exact congrArg _ (ofK_f2 (by omega) (by omega)).symm
     | exact congrArg _ (ofK_t (by omega) (by omega)).symm
  ·(try simp only [tA, tB, tC, tD, tE, tF, tG, tH, tI, tJ, tK, tL] at h3)
   refine WL_take rfl rfl ?_
   refine W_q (r_fieldb (o' := 0) rfl T.fo51_0 rfl) rfl ?_
   refine WL_take rfl rfl ?_
   refine W_q (r_loadb 0 rfl T.ag3 rfl rfl) rfl ?_
   refine WL_take rfl rfl ?_
   refine W_q (r_bin rfl rfl (bin_gtr _ _ _ _)) rfl ?_
   refine WL_take rfl rfl ?_
   refine W_q (r_pick_f rfl rfl) rfl ?_
   refine W_q (r_pick_t rfl rfl) rfl ?_
   refine W_q (r_assign rfl) rfl ?_
   refine W_nil ?_
   refine NX_as (L' := [(0, _), (3, _), (4, _), (5, _)]) [0, 3, 4, 5] rfl ?_
   refine CW_condk rfl (fun h4 => ?_) (fun h4 => ?_)
   ·(try simp only [tA, tB, tC, tD, tE, tF, tG, tH, tI, tJ, tK, tL] at h4)
    refine CW_seq ?_
    refine CW_region ?_
    refine W_q (r_assign rfl) rfl ?_
    refine W_nil ?_
    refine NX_as (L' := [(3, _), (4, _)]) [3, 4] rfl ?_
    refine C_ret (RX_block (RX_then (RX_q1 rfl rfl ?_)))
    first
      | exact congrArg _ (ofK_f1 (by omega) (by omega)).symm
      | exact congrArg _ (ofK_f2 (by omega) (by omega)).symm
      | exact congrArg _ (ofK_t (by omega) (by omega)).symm
   ·(try simp only [tA, tB, tC, tD, tE, tF, tG, tH, tI, tJ, tK, tL] at h4)
    refine CW_seq ?_
    refine CW_region ?_
    refine W_q (r_move rfl) rfl ?_
    refine W_q (r_nilCheck rfl) rfl ?_
    refine W_q (r_fieldb (o' := 3) rfl T.fo139_1 rfl) rfl ?_
    refine W_q (r_load_imm rfl T.ag3 (hC 3 _ rfl)) rfl ?_
    refine W_q (r_bin rfl rfl (bin_lss _ _ _ _)) rfl ?_
    refine W_q (r_move rfl) rfl ?_
    refine WL_split (t := 27) rfl (fun h5 => ?_) (fun h5 => ?_)
    ·(try simp only [tA, tB, tC, tD, tE, tF, tG, tH, tI, tJ, tK, tL] at h5)
     refine WL_take rfl rfl ?_
     refine W_q (r_fieldb (o' := 0) rfl T.fo51_0 rfl) rfl ?_
     refine WL_take rfl rfl ?_
     refine W_q (r_loadb 0 rfl T.ag3 rfl rfl) rfl ?_
     refine WL_take rfl rfl ?_
     refine W_q (r_bin rfl rfl (bin_gtr _ _ _ _)) rfl ?_
     refine W_q (r_pick_t rfl rfl) rfl ?_
     refine W_q (r_assign rfl) rfl ?_
     refine W_nil ?_
     refine NX_as (L' := [(3, _), (4, _), (21, _)]) [3, 4, 21] rfl ?_
     refine CW_condk rfl (fun h6 => ?_) (fun h6 => ?_)
     ·(try simp only [tA, tB, tC, tD, tE, tF, tG, tH, tI, tJ, tK, tL] at h6)
      refine CW_seq ?_
      refine CW_region ?_
      refine W_q (r_assign rfl) rfl ?_
      refine W_nil ?_
      refine NX_as (L' := [(3, _), (4, _)]) [3, 4] rfl ?_
      refine C_ret (RX_block (RX_then (RX_q1 rfl rfl ?_)))
      first
        | exact congrArg _ (ofK_f1 (by omega) (by omega)).symm
        | exact congrArg _ (ofK_f2 (by omega) (by omega)).symm
        | exact congrArg _ (ofK_t (by omega) (by omega)).symm
     ·(try simp only [tA, tB, tC, tD, tE, tF, tG, tH, tI, tJ, tK, tL] at h6)
      refine C_skip ?_
      refine NX_block (NX_as (L' := [(3, _), (4, _)]) [3, 4] rfl ?_)
      refine CW_seq ?_
      refine CW_region ?_
      refine W_q (r_loadbk 0 (vs := [_, _, _, _, _, _]) rfl T.ag51 T.sz51 rfl rfl rfl) rfl ?_
      refine W_quiet (KMay_q hO) T.hb190 rfl rfl ?_
      refine W_q (r_assign rfl) rfl ?_
      refine W_nil ?_
      refine NX_as (L' := [(4, _)]) [4] rfl ?_
      refine C_ret (RX_q1 rfl rfl ?_)
      first
        | exact congrArg _ (ofK_f1 (by omega) (by omega)).symm
        | exact congrArg _ (ofK_f2 (by omega) (by omega)).symm
        | exact congrArg _ (ofK_t (by omega) (by omega)).symm
    ·(try simp only [tA, tB, tC, tD, tE, tF, tG, tH, tI, tJ, tK, tL] at h5)
     refine WL_pass rfl rfl rfl rfl ?_
     refine WL_pass rfl rfl rfl rfl ?_
     refine WL_pass rfl rfl rfl rfl ?_
     refine W_q (r_pick_f rfl rfl) rfl ?_
     refine W_q (r_assign rfl) rfl ?_
     refine W_nil ?_
     refine NX_as (L' := [(3, _), (4, _), (21, _)]) [3, 4, 21] rfl ?_
     refine CW_cond_f rfl ?_
     refine C_skip ?_
     refine NX_block (NX_as (L' := [(3, _), (4, _)]) [3, 4] rfl ?_)
     refine CW_seq ?_
     refine CW_region ?_
     refine W_q (r_loadbk 0 (vs := [_, _, _, _, _, _]) rfl T.ag51 T.sz51 rfl rfl rfl) rfl ?_
     refine W_quiet (KMay_q hO) T.hb190 rfl rfl ?_
     refine W_q (r_assign rfl) rfl ?_
     refine W_nil ?_
     refine NX_as (L' := [(4, _)]) [4] rfl ?_
     refine C_ret (RX_q1 rfl rfl ?_)
     first
       | exact congrArg _ (ofK_f1 (by omega) (by omega)).symm
       | exact congrArg _ (ofK_f2 (by omega) (by omega)).symm
       | exact congrArg _ (ofK_t (by omega) (by omega)).symm
 ·(try simp only [tA, tB, tC, tD, tE, tF, tG, tH, tI, tJ, tK, tL] at h2)
  refine WL_pass rfl rfl rfl rfl ?_
  refine WL_pass rfl rfl rfl rfl ?_
  refine WL_pass rfl rfl rfl rfl ?_
  refine WL_pass rfl rfl rfl rfl ?_
  refine WL_passu rfl rfl rfl ?_
  refine WL_passu rfl rfl rfl ?_
  refine WL_passu rfl rfl rfl ?_
  refine WL_pass rfl rfl rfl rfl ?_
  refine W_q (r_pick_f rfl rfl) rfl ?_
  refine W_q (r_assign rfl) rfl ?_
  refine W_nil ?_
  refine NX_as (L' := [(0, _), (3, _), (4, _), (5, _)]) [0, 3, 4, 5] rfl ?_
  refine CW_cond_f rfl ?_
  refine CW_seq ?_
  refine CW_region ?_
  refine W_q (r_move rfl) rfl ?_
  refine W_q (r_nilCheck rfl) rfl ?_
  refine W_q (r_fieldb (o' := 3) rfl T.fo139_1 rfl) rfl ?_
  refine W_q (r_load_imm rfl T.ag3 (hC 3 _ rfl)) rfl ?_
  refine W_q (r_bin rfl rfl (bin_lss _ _ _ _)) rfl ?_
  refine W_q (r_move rfl) rfl ?_
  refine WL_split (t := 27) rfl (fun h7 => ?_) (fun h7 => ?_)
  ·(try simp only [tA, tB, tC, tD, tE, tF, tG, tH, tI, tJ, tK, tL] at h7)
   refine WL_take rfl rfl ?_
   refine W_q (r_fieldb (o' := 0) rfl T.fo51_0 rfl) rfl ?_
   refine WL_take rfl rfl ?_
   refine W_q (r_loadb 0 rfl T.ag3 rfl rfl) rfl ?_
   refine WL_take rfl rfl ?_
   refine W_q (r_bin rfl rfl (bin_gtr _ _ _ _)) rfl ?_
   refine W_q (r_pick_t rfl rfl) rfl ?_
   refine W_q (r_assign rfl) rfl ?_
   refine W_nil ?_
   refine NX_as (L' := [(3, _), (4, _), (21, _)]) [3, 4, 21] rfl ?_
   refine CW_condk rfl (fun h8 => ?_) (fun h8 => ?_)
   ·(try simp only [tA, tB, tC, tD, tE, tF, tG, tH, tI, tJ, tK, tL] at h8)
    refine CW_seq ?_
    refine CW_region ?_
    refine W_q (r_assign rfl) rfl ?_
    refine W_nil ?_
    refine NX_as (L' := [(3, _), (4, _)]) [3, 4] rfl ?_
    refine C_ret (RX_block (RX_then (RX_q1 rfl rfl ?_)))
    first
      | exact congrArg _ (ofK_f1 (by omega) (by omega)).symm
      | exact congrArg _ (ofK_f2 (by omega) (by omega)).symm
      | exact congrArg _ (ofK_t (by omega) (by omega)).symm
   ·(try simp only [tA, tB, tC, tD, tE, tF, tG, tH, tI, tJ, tK, tL] at h8)
    refine C_skip ?_
    refine NX_block (NX_as (L' := [(3, _), (4, _)]) [3, 4] rfl ?_)
    refine CW_seq ?_
    refine CW_region ?_
    refine W_q (r_loadbk 0 (vs := [_, _, _, _, _, _]) rfl T.ag51 T.sz51 rfl rfl rfl) rfl ?_
    refine W_quiet (KMay_q hO) T.hb190 rfl rfl ?_
    refine W_q (r_assign rfl) rfl ?_
    refine W_nil ?_
    refine NX_as (L' := [(4, _)]) [4] rfl ?_
    refine C_ret (RX_q1 rfl rfl ?_)
    first
      | exact congrArg _ (ofK_f1 (by omega) (by omega)).symm
      | exact congrArg _ (ofK_f2 (by omega) (by omega)).symm
      | exact congrArg _ (ofK_t (by omega) (by omega)).symm
  ·(try simp only [tA, tB, tC, tD, tE, tF, tG, tH, tI, tJ, tK, tL] at h7)
   refine WL_pass rfl rfl rfl rfl ?_
   refine WL_pass rfl rfl rfl rfl ?_
   refine WL_pass rfl rfl rfl rfl ?_
   refine W_q (r_pick_f rfl rfl) rfl ?_
   refine W_q (r_assign rfl) rfl ?_
   refine W_nil ?_
   refine NX_as (L' := [(3, _), (4, _), (21, _)]) [3, 4, 21] rfl ?_
   refine CW_cond_f rfl ?_
   refine C_skip ?_
   refine NX_block (NX_as (L' := [(3, _), (4, _)]) [3, 4] rfl ?_)
   refine CW_seq ?_
   refine CW_region ?_
   refine W_q (r_loadbk 0 (vs := [_, _, _, _, _, _]) rfl T.ag51 T.sz51 rfl rfl rfl) rfl ?_
   refine W_quiet (KMay_q hO) T.hb190 rfl rfl ?_
   refine W_q (r_assign rfl) rfl ?_
   refine W_nil ?_
   refine NX_as (L' := [(4, _)]) [4] rfl ?_
   refine C_ret (RX_q1 rfl rfl ?_)
   first
     | exact congrArg _ (ofK_f1 (by omega) (by omega)).symm
     | exact congrArg _ (ofK_f2 (by omega) (by omega)).symm
     | exact congrArg _ (ofK_t (by omega) (by omega)).symm

set_option maxHeartbeats 4000000 in
/-- (*check.checker).typed$1 -/
theorem typed1_q {m : Imm} (b : Int) : Quiet Tryz.prog 153 [.int .i64 b] m (.bool (!(mayW b))) := by
 refine quiet_of Tryz.func153 rfl Tryz.ntmps153 rfl (fun w => ?_)
 refine CW_seq ?_
 refine CW_region ?_
 refine W_q (r_assign rfl) rfl ?_
 refine W_nil ?_
 refine NX_as (L' := [(0, _), (2, _)]) [0, 2] rfl ?_
 refine CW_seq ?_
 refine CW_region ?_
 refine W_q (r_move rfl) rfl ?_
 refine W_quiet (May_q _) T.hb152 rfl rfl ?_
 refine W_q (r_not rfl) rfl ?_
 refine W_q (r_assign rfl) rfl ?_
 refine W_nil ?_
 refine NX_as (L' := [(2, _)]) [2] rfl ?_
 refine C_ret (RX_q1 rfl rfl ?_)
 rfl

set_option maxHeartbeats 4000000 in
/-- (*check.checker).typed$2 -/
theorem typed2_q {m : Imm} {es : List Value} {p : FPhi} (hP : rPhi m es p) : Quiet Tryz.prog 155 [.agg es.toArray] m (.bool (!(mayW p.bits))) := by
 have hP_0 := hP
 obtain ⟨A92, c92, B92, d92, rfl, h92, g92, i92a, i92b⟩ := hP_0
 refine quiet_of Tryz.func155 rfl Tryz.ntmps155 rfl (fun w => ?_)
 refine CW_seq ?_
 refine CW_region ?_
 refine S_box (l := [_, _, _, _]) rfl rfl rfl (fun b1 => ?_)
 refine W_q (r_assign rfl) rfl ?_
 refine W_nil ?_
 refine NX_as (L' := [(1, _), (2, _)]) [1, 2] rfl ?_
 refine CW_seq ?_
 refine CW_region ?_
 refine W_q (r_fieldb (o' := 0) rfl T.fo61_0 rfl) rfl ?_
 refine W_q (r_loadb 0 rfl T.ag3 rfl rfl) rfl ?_
 refine W_quiet (May_q _) T.hb152 rfl rfl ?_
 refine W_q (r_not rfl) rfl ?_
 refine W_q (r_assign rfl) rfl ?_
 refine W_nil ?_
 refine NX_as (L' := [(2, _)]) [2] rfl ?_
 refine C_ret (RX_q1 rfl rfl ?_)
 rfl

set_option maxHeartbeats 4000000 in
/-- (*check.checker).typed$3 -/
theorem typed3_q {m : Imm} {bc : Nat} {A : Option Addr} {c : Nat} {B : Option Addr} {d : Nat} {f : FFun} {lev : Int} {X4 X5 X6 X7 : Value} (hC : Lies m bc [.slice A f.params.length c, .int .i64 f.ret, .slice B f.blocks.length d, .int .i64 lev, X4, X5, X6, X7]) {b1 : Nat} (hp : m.cell? ⟨b1, 0, none⟩ = some (.pointer (some ⟨bc, 0, none⟩))) {es : List Value} {o : FOp} (hO : rOp m es o) : Quiet Tryz.prog 157 [.agg es.toArray, .pointer (some ⟨b1, 0, none⟩)] m (.bool (!(ofK lev o))) := by
 have hO_0 := hO
 obtain ⟨A91, c91, rfl, h91, i91a, i91b, i91c, i91d, i91e⟩ := hO_0
 refine quiet_of Tryz.func157 rfl Tryz.ntmps157 rfl (fun w => ?_)
 refine CW_seq ?_
 refine CW_region ?_
 refine S_box (l := [_, _, _, _, _, _]) rfl rfl rfl (fun b1 => ?_)
 refine W_q (r_assign rfl) rfl ?_
 refine W_nil ?_
 refine NX_as (L' := [(1, _), (2, _), (3, _)]) [1, 2, 3] rfl ?_
 refine CW_seq ?_
 refine CW_region ?_
 refine W_q (r_load_imm rfl T.ag99 hp) rfl ?_
 refine W_q (r_loadbk 0 (vs := [_, _, _, _, _, _]) rfl T.ag51 T.sz51 rfl rfl rfl) rfl ?_
 refine W_quiet (of_q hC hO) T.hb158 rfl rfl ?_
 refine W_q (r_not rfl) rfl ?_
 refine W_q (r_assign rfl) rfl ?_
 refine W_nil ?_
 refine NX_as (L' := [(3, _)]) [3] rfl ?_
 refine C_ret (RX_q1 rfl rfl ?_)
 rfl

set_option maxHeartbeats 20000000 in
/-- (*check.checker).typed -/
theorem typed_q {m : Imm} {bc : Nat} {A : Option Addr} {c : Nat} {B : Option Addr} {d : Nat} {f : FFun} {lev : Int} {X4 X5 X6 X7 : Value} (hC : Lies m bc [.slice A f.params.length c, .int .i64 f.ret, .slice B f.blocks.length d, .int .i64 lev, X4, X5, X6, X7]) (hq : Ints m A c f.params) (hb : Sl rBlock 5 m B d f.blocks) : Quiet Tryz.prog 117 [.pointer (some ⟨bc, 0, none⟩)] m (.int .i64 (typedP f lev)) := by
 have hbl := hb.len
 refine quiet_of Tryz.func117 rfl Tryz.ntmps117 rfl (fun w => ?_)
 refine CW_seq ?_
 refine CW_region ?_
 refine S_box (l := [_]) rfl rfl rfl (fun b1 => ?_)
 refine W_q (r_assign rfl) rfl ?_
 refine W_nil ?_
 refine NX_as (L' := [(1, _), (2, _)]) [1, 2] rfl ?_
 refine CW_seq ?_
 refine CW_seq ?_
 refine CW_region ?_
 refine W_q (r_loadb 0 rfl T.ag99 rfl rfl) rfl ?_
 refine W_q (r_nilCheck rfl) rfl ?_
 refine W_q (r_fieldb (o' := 0) rfl T.fo139_0 rfl) rfl ?_
 refine W_q (r_fieldb (o' := 1) rfl T.fo25_1 rfl) rfl ?_
 refine W_q (r_load_imm rfl T.ag3 (hC 1 _ rfl)) rfl ?_
 refine W_quiet (May_q _) T.hb152 rfl rfl ?_
 refine W_q (r_not rfl) rfl ?_
 refine W_q (r_move rfl) rfl ?_
 refine WL_split (t := 13) rfl (fun h2 => ?_) (fun h2 => ?_)
 ·(try simp only [tA, tB, tC, tD, tE, tF, tG, tH, tI, tJ, tK, tL] at h2)
  refine WL_pass rfl rfl rfl rfl ?_
  refine WL_pass rfl rfl rfl rfl ?_
  refine WL_pass rfl rfl rfl rfl ?_
  refine WL_pass rfl rfl rfl rfl ?_
  refine WL_pass rfl rfl rfl rfl ?_
  refine WL_pass rfl rfl rfl rfl ?_
  refine W_q (r_pick_t rfl rfl) rfl ?_
  refine W_nil ?_
  refine NX_as (L' := [(1, _), (2, _), (20, _)]) [1, 2, 20] rfl ?_
  refine CW_cond_t rfl ?_
  refine CW_seq ?_
  refine CW_region ?_
  refine W_q (r_assign rfl) rfl ?_
  refine W_nil ?_
  refine NX_as (L' := [(1, _), (2, _)]) [1, 2] rfl ?_
  refine C_ret (RX_then (RX_q1 rfl rfl ?_))
  first
    | exact congrArg _ (typedP_1 (by assumption))
    | exact congrArg _ (typedP_2 (by assumption))
    | exact congrArg _ (typedP_3 hz (okTyped_f1 (by assumption)))
    | exact congrArg _ (typedP_3 hz (okTyped_f2 (by assumption)))
    | exact congrArg _ (typedP_0 (by assumption) (by assumption) «J0»)
 ·(try simp only [tA, tB, tC, tD, tE, tF, tG, tH, tI, tJ, tK, tL] at h2)
  refine WL_take rfl rfl ?_
  refine W_q (r_loadb 0 rfl T.ag99 rfl rfl) rfl ?_
  refine WL_take rfl rfl ?_
  refine W_q (r_nilCheck rfl) rfl ?_
  refine WL_take rfl rfl ?_
  refine W_q (r_fieldb (o' := 0) rfl T.fo139_0 rfl) rfl ?_
  refine WL_take rfl rfl ?_
  refine W_q (r_fieldb (o' := 0) rfl T.fo25_0 rfl) rfl ?_
  refine WL_take rfl rfl ?_
  refine W_q (r_load_imm rfl T.ag22 (hC 0 _ rfl)) rfl ?_
  refine WL_take rfl rfl ?_
  refine W_quiet (ContainsFuncI_q hq (p := fun b => !(mayW b)) (K := 153) T.hb153 (fun z _ => typed1_q z)) T.hb86 rfl rfl ?_
  refine W_q (r_pick_f rfl rfl) rfl ?_
  refine W_nil ?_
  refine NX_as (L' := [(1, _), (2, _), (20, _)]) [1, 2, 20] rfl ?_
  refine CW_condk rfl (fun h3 => ?_) (fun h3 => ?_)
  ·(try simp only [tA, tB, tC, tD, tE, tF, tG, tH, tI, tJ, tK, tL] at h3)
   refine CW_seq ?_
   refine CW_region ?_
   refine W_q (r_assign rfl) rfl ?_
   refine W_nil ?_
   refine NX_as (L' := [(1, _), (2, _)]) [1, 2] rfl ?_
   refine C_ret (RX_then (RX_q1 rfl rfl ?_))
   first
     | exact congrArg _ (typedP_1 (by assumption))
     | exact congrArg _ (typedP_2 (by assumption))
     | exact congrArg _ (typedP_3 hz (okTyped_f1 (by assumption)))
     | exact congrArg _ (typedP_3 hz (okTyped_f2 (by assumption)))
     | exact congrArg _ (typedP_0 (by assumption) (by assumption) «J0»)
  ·(try simp only [tA, tB, tC, tD, tE, tF, tG, tH, tI, tJ, tK, tL] at h3)
   refine C_skip ?_
   refine NX_as (L' := [(1, _), (2, _)]) [1, 2] rfl ?_
   refine CW_seq ?_
   refine CW_seq ?_
   refine CW_region ?_
   refine W_q (r_loadb 0 rfl T.ag99 rfl rfl) rfl ?_
   refine W_q (r_nilCheck rfl) rfl ?_
   refine W_q (r_fieldb (o' := 0) rfl T.fo139_0 rfl) rfl ?_
   refine W_q (r_fieldb (o' := 2) rfl T.fo25_2 rfl) rfl ?_
   refine W_q (r_load_imm rfl T.ag23 (hC 2 _ rfl)) rfl ?_
   refine W_q (r_len Tryz.underlying23 rfl) rfl ?_
   refine W_q (r_move rfl) rfl ?_
   refine W_nil ?_
   refine NX_as (L' := [(1, _), (2, _), (25, _), (26, _), (27, _)]) [1, 2, 25, 26, 27] rfl ?_
   refine C_range (Unit) (f.blocks.length) (fun k4 x4 => ∀ j b, j < k4 → f.blocks[j]? = some b → okTyped lev b = true) (fun k4 x4 => []) (fun _ _ => []) [] [1, 25] (F := [(1, _), (25, _)]) (()) rfl rfl (by omega) (fun j b h => by omega) rfl rfl rfl rfl rfl rfl rfl (fun _ _ => rfl) (fun _ _ => rfl) (fun k4 x4 hk4 hJ4 => ?_) (fun x4 hJ4 => ?_)
   ·refine CW_as (L' := [(1, _), (25, _), (26, _), (27, _)]) [1, 25, 26, 27] rfl ?_
    refine CW_seq ?_
    refine CW_region ?_
    obtain ⟨ad5, hA5⟩ := hb.ad (j := k4) (by omega)
    obtain ⟨z5, hz5⟩ := hb.getz (j := k4) (by omega)
    refine W_q (r_index hA5 Tryz.underlying23 T.sz44 rfl rfl ⟨by omega, by omega⟩) rfl ?_
    obtain ⟨es6, f6, _, l6⟩ := Sl.get hb hA5 hz5
    have F6 := f6
    obtain ⟨A6, c6, B6, d6, C6, e6, rfl, hp6, ho6, ht6, i6a, i6b⟩ := f6
    refine W_q (r_load_immk (vs := [_, _, _, _, _]) rfl T.ag44 T.sz44 l6) rfl ?_
    refine S_alloc (l := [_, _, _, _, _]) T.ze44 rfl rfl (fun b7 => ?_)
    refine S_storeb 0 (l' := [_, _, _, _, _]) rfl rfl rfl T.sz44 rfl rfl rfl rfl ?_
    refine W_nil ?_
    refine NX_as (L' := [(1, _), (4, _), (25, _), (26, _), (27, _)]) [1, 4, 25, 26, 27] rfl ?_
    refine CW_seq ?_
    refine CW_region ?_
    refine W_q (r_fieldb (o' := 0) rfl T.fo44_0 rfl) rfl ?_
    refine W_q (r_loadb 0 rfl T.ag39 rfl rfl) rfl ?_
    refine W_quiet (ContainsFuncP_q hp6 (p := fun p => !(mayW p.bits)) (K := 155) T.hb155 (fun z _ es hz => typed2_q hz)) T.hb154 rfl rfl ?_
    refine W_q (r_assign rfl) rfl ?_
    refine W_nil ?_
    refine NX_as (L' := [(1, _), (4, _), (5, _), (25, _), (26, _), (27, _)]) [1, 4, 5, 25, 26, 27] rfl ?_
    refine CW_seq ?_
    refine CW_region ?_
    refine W_q (r_move rfl) rfl ?_
    refine W_q (r_move rfl) rfl ?_
    refine WL_split (t := 35) rfl (fun h8 => ?_) (fun h8 => ?_)
    ·(try simp only [tA, tB, tC, tD, tE, tF, tG, tH, tI, tJ, tK, tL] at h8)
     refine WL_pass rfl rfl rfl rfl ?_
     refine WL_pass rfl rfl rfl rfl ?_
     refine WL_pass rfl rfl rfl rfl ?_
     refine WL_pass rfl rfl rfl rfl ?_
     refine W_q (r_pick_t rfl rfl) rfl ?_
     refine W_nil ?_
     refine NX_as (L' := [(1, _), (25, _), (26, _), (27, _), (40, _)]) [1, 25, 26, 27, 40] rfl ?_
     refine CW_cond_t rfl ?_
     refine CW_seq ?_
     refine CW_region ?_
     refine W_q (r_assign rfl) rfl ?_
     refine W_nil ?_
     refine NX_as (L' := [(1, _), (2, _), (25, _), (26, _), (27, _)]) [1, 2, 25, 26, 27] rfl ?_
     refine C_ret (RX_block (RX_then (RX_block (RX_then (RX_q1 rfl rfl ?_)))))
     first
       | exact congrArg _ (typedP_1 (by assumption))
       | exact congrArg _ (typedP_2 (by assumption))
       | exact congrArg _ (typedP_3 hz5 (okTyped_f1 (by assumption)))
       | exact congrArg _ (typedP_3 hz5 (okTyped_f2 (by assumption)))
       | exact congrArg _ (typedP_0 (by assumption) (by assumption) hJ4)
    ·(try simp only [tA, tB, tC, tD, tE, tF, tG, tH, tI, tJ, tK, tL] at h8)
     refine WL_take rfl rfl ?_
     refine W_q (r_fieldb (o' := 1) rfl T.fo44_1 rfl) rfl ?_
     refine WL_take rfl rfl ?_
     refine W_q (r_loadb 0 rfl T.ag40 rfl rfl) rfl ?_
     refine WL_take rfl rfl ?_
     refine W_q (r_makeFunc (first := []) (cap := [_]) rfl rfl) rfl ?_
     refine WL_take rfl rfl ?_
     refine W_q (r_quietb 1 rfl (fun m' le hc => ContainsFuncO_q (ho6.mono rOp_mono le) (p := fun o => !(ofK lev o)) (K := 157) T.hb157 (fun z _ es hz => typed3_q (hC.mono le) (hc 0 _ rfl) hz)) T.hb156 rfl) rfl ?_
     refine W_q (r_pick_f rfl rfl) rfl ?_
     refine W_nil ?_
     refine NX_as (L' := [(1, _), (25, _), (26, _), (27, _), (40, _)]) [1, 25, 26, 27, 40] rfl ?_
     refine CW_condk rfl (fun h9 => ?_) (fun h9 => ?_)
     ·(try simp only [tA, tB, tC, tD, tE, tF, tG, tH, tI, tJ, tK, tL] at h9)
      refine CW_seq ?_
      refine CW_region ?_
      refine W_q (r_assign rfl) rfl ?_
      refine W_nil ?_
      refine NX_as (L' := [(1, _), (2, _), (25, _), (26, _), (27, _)]) [1, 2, 25, 26, 27] rfl ?_
      refine C_ret (RX_block (RX_then (RX_block (RX_then (RX_q1 rfl rfl ?_)))))
      first
        | exact congrArg _ (typedP_1 (by assumption))
        | exact congrArg _ (typedP_2 (by assumption))
        | exact congrArg _ (typedP_3 hz5 (okTyped_f1 (by assumption)))
        | exact congrArg _ (typedP_3 hz5 (okTyped_f2 (by assumption)))
        | exact congrArg _ (typedP_0 (by assumption) (by assumption) hJ4)
     ·(try simp only [tA, tB, tC, tD, tE, tF, tG, tH, tI, tJ, tK, tL] at h9)
      refine C_skip ?_
      refine NX_block (?_)
      refine NX_rng [1, 25] (()) ?_ rfl (sub_drop 1 rfl) rfl (Imm.le_refl _)
      intro j b h1 h2
      by_cases e : j = k4
      · subst e; rw [hz5] at h2; cases h2; exact okTyped_t (by assumption) (by assumption)
      · exact hJ4 j b (by omega) h2
   ·refine NX_as (L' := []) [] rfl ?_
    refine CW_seq ?_
    refine CW_region ?_
    refine W_q (r_assign rfl) rfl ?_
    refine W_nil ?_
    refine NX_as (L' := [(2, _)]) [2] rfl ?_
    refine C_ret (RX_q1 rfl rfl ?_)
    first
      | exact congrArg _ (typedP_1 (by assumption))
      | exact congrArg _ (typedP_2 (by assumption))
      | exact congrArg _ (typedP_3 hz5 (okTyped_f1 (by assumption)))
      | exact congrArg _ (typedP_3 hz5 (okTyped_f2 (by assumption)))
      | exact congrArg _ (typedP_0 (by assumption) (by assumption) hJ4)

end Go.Proofs.YtipmgkhjoekaaaaGreat

set_option linter.unusedVariables false
set_option linter.unusedSimpArgs false
namespace Go.Proofs.YtipmgkhjoekaaaaGreat
open Go Go.RowKit Go.Proofs Go.Proofs.YtipmgkhjoekaaaaGreat.Fw
attribute [local irreducible] Qt WL CW NX RX EX GX DL
namespace T
theorem ag137 : agg? Tryz.prog 137 = some false := by kernel_rfl
theorem fo139_3 : fld? Tryz.prog 139 3 = some (6, 1) := by kernel_rfl
theorem fo139_4 : fld? Tryz.prog 139 4 = some (7, 1) := by kernel_rfl
theorem fo164_0 : fld? Tryz.prog 164 0 = some (0, 1) := by kernel_rfl
theorem fo164_1 : fld? Tryz.prog 164 1 = some (1, 1) := by kernel_rfl
theorem fo164_2 : fld? Tryz.prog 164 2 = some (2, 2) := by kernel_rfl
theorem hb151 : hasBody Tryz.prog 151 = true := by kernel_rfl
theorem hb160 : hasBody Tryz.prog 160 = true := by kernel_rfl
theorem hb192 : hasBody Tryz.prog 192 = true := by kernel_rfl
theorem sz164 : sz? Tryz.prog 164 = some 4 := by kernel_rfl
theorem ze164 : zero? Tryz.prog 164 = some (.agg #[(.int .i64 0), (.int .i64 0), (.int .i64 0), (.int .i64 0)]) := by kernel_rfl
end T
theorem pair_ne {dd : Int × Int} {a b : Int} (h : (dd.1 == a && dd.2 == b) = false) : ¬ dd = (a, b) := by rintro rfl; simp at h
theorem pair_eq {dd : Int × Int} {a b : Int} (h : (dd.1 == a && dd.2 == b) = true) : dd = (a, b) := by
  simp only [Bool.and_eq_true, beq_iff_eq] at h
  exact Prod.ext h.1 h.2
set_option maxHeartbeats 4000000 in
/-- (*check.checker).defined$1 -/
theorem defined1_q {m : Imm} {bc mb : Nat} {A : Option Addr} {c : Nat} {B : Option Addr} {d : Nat} {f : FFun} {lev : Int} {X4 X5 : Value} {At : Option Addr} {ct : Nat} {t : List Int} {ds : List (Int × Def)} (hC : Lies m bc [.slice A f.params.length c, .int .i64 f.ret, .slice B f.blocks.length d, .int .i64 lev, X4, X5, .slice At t.length ct, .map (some mb)]) (ht : Ints m At ct t) (hM : MapIn m mb (valL defV ds)) {b1 : Nat} (hp : m.cell? ⟨b1, 0, none⟩ = some (.pointer (some ⟨bc, 0, none⟩))) (v s1 s2 b a : Int) (hb : I64 b) : Quiet Tryz.prog 163 [.int .i64 v, .agg #[.int .i64 s1, .int .i64 s2], .int .i64 b, .int .i64 a, .pointer (some ⟨b1, 0, none⟩)] m (.int .i64 (if (getL ds v).isSome then 0 else 7)) := by
 refine quiet_of Tryz.func163 rfl Tryz.ntmps163 rfl (fun w => ?_)
 refine CW_seq ?_
 refine CW_region ?_
 refine S_box (l := [_, _]) rfl rfl rfl (fun b1 => ?_)
 refine W_q (r_assign rfl) rfl ?_
 refine W_nil ?_
 refine NX_as (L' := [(0, _), (4, _), (9, _)]) [0, 4, 9] rfl ?_
 refine CW_seq ?_
 refine CW_seq ?_
 refine CW_region ?_
 refine W_q (r_load_imm rfl T.ag99 hp) rfl ?_
 refine W_q (r_nilCheck rfl) rfl ?_
 refine W_q (r_fieldb (o' := 7) rfl T.fo139_4 rfl) rfl ?_
 refine W_q (r_load_imm rfl T.ag137 (hC 7 _ rfl)) rfl ?_
 refine W_q (r_move rfl) rfl ?_
 refine W_q (r_lookup2F hM Tryz.underlying137 Tryz.underlying3 T.ze164 rfl rfl (defs_get _ _) (defs_is _ _)) rfl ?_
 refine W_q (r_move rfl) rfl ?_
 refine W_q (r_extract rfl rfl) rfl ?_
 refine W_q (r_extract rfl rfl) rfl ?_
 refine S_alloc (l := [_, _, _, _]) T.ze164 rfl rfl (fun b2 => ?_)
 refine S_storeb 0 (l' := [_, _, _, _]) rfl rfl rfl T.sz164 rfl rfl rfl rfl ?_
 refine W_q (r_assign rfl) rfl ?_
 refine W_nil ?_
 refine NX_as (L' := [(9, _), (11, _)]) [9, 11] rfl ?_
 refine CW_seq ?_
 refine CW_region ?_
 refine W_q (r_move rfl) rfl ?_
 refine W_q (r_not rfl) rfl ?_
 refine W_nil ?_
 refine NX_as (L' := [(9, _), (22, _)]) [9, 22] rfl ?_
 refine CW_condk rfl (fun h3 => ?_) (fun h3 => ?_)
 ·(try simp only [tA, tB, tC, tD, tE, tF, tG, tH, tI, tJ, tK, tL] at h3)
  refine CW_seq ?_
  refine CW_region ?_
  refine W_q (r_assign rfl) rfl ?_
  refine W_nil ?_
  refine NX_as (L' := [(9, _)]) [9] rfl ?_
  refine C_ret (RX_then (RX_q1 rfl rfl ?_))
  simp_all
 ·(try simp only [tA, tB, tC, tD, tE, tF, tG, tH, tI, tJ, tK, tL] at h3)
  refine C_skip ?_
  refine NX_as (L' := [(9, _)]) [9] rfl ?_
  refine CW_seq ?_
  refine CW_region ?_
  refine W_q (r_assign rfl) rfl ?_
  refine W_nil ?_
  refine NX_as (L' := [(9, _)]) [9] rfl ?_
  refine C_ret (RX_q1 rfl rfl ?_)
  simp_all

set_option maxHeartbeats 4000000 in
/-- (*check.checker).shapes$1 -/
theorem shapes1_q {m : Imm} {bc mb : Nat} {A : Option Addr} {c : Nat} {B : Option Addr} {d : Nat} {f : FFun} {lev : Int} {X4 X5 : Value} {At : Option Addr} {ct : Nat} {t : List Int} {ds : List (Int × Def)} (hC : Lies m bc [.slice A f.params.length c, .int .i64 f.ret, .slice B f.blocks.length d, .int .i64 lev, X4, X5, .slice At t.length ct, .map (some mb)]) (ht : Ints m At ct t) (hM : MapIn m mb (valL defV ds)) {b1 : Nat} (hp : m.cell? ⟨b1, 0, none⟩ = some (.pointer (some ⟨bc, 0, none⟩))) (v s1 s2 b a : Int) (hb : I64 b) : Quiet Tryz.prog 164 [.int .i64 v, .agg #[.int .i64 s1, .int .i64 s2], .int .i64 b, .int .i64 a, .pointer (some ⟨b1, 0, none⟩)] m (.int .i64 (if ((getL ds v).getD (0, 0, 0, 0)).2.2 = (s1, s2) then 0 else 6)) := by
 refine quiet_of Tryz.func164 rfl Tryz.ntmps164 rfl (fun w => ?_)
 refine CW_seq ?_
 refine CW_region ?_
 refine S_box (l := [_, _]) rfl rfl rfl (fun b1 => ?_)
 refine W_q (r_assign rfl) rfl ?_
 refine W_nil ?_
 refine NX_as (L' := [(0, _), (4, _), (6, _), (9, _)]) [0, 4, 6, 9] rfl ?_
 refine CW_seq ?_
 refine CW_seq ?_
 refine C_drawn [(0, true), (1, true), (2, true), (3, true), (4, true), (5, true), (6, true), (7, true), (8, true)] (by kernel_rfl) rfl (by kernel_rfl) (by kernel_rfl) ?_
 refine D_q rfl (r_load_imm rfl T.ag99 hp) rfl ?_
 refine D_q rfl (r_nilCheck rfl) rfl ?_
 refine D_q rfl (r_fieldb (o' := 7) rfl T.fo139_4 rfl) rfl ?_
 refine D_q rfl (r_load_imm rfl T.ag137 (hC 7 _ rfl)) rfl ?_
 refine D_q rfl (r_move rfl) rfl ?_
 refine D_q rfl (r_lookupF hM Tryz.underlying137 Tryz.underlying3 T.ze164 rfl rfl (defs_get _ _)) rfl ?_
 refine D_q rfl (r_fieldk (vs := [_, _]) rfl T.fo164_2 (fun fs y h1 h2 => by rw [Tryz.underlying164] at h1; cases h1; cases h2; exact T.ag71) rfl rfl (by decide)) rfl ?_
 refine D_q rfl (r_loadbk 0 (vs := [_, _]) rfl T.ag71 T.sz71 rfl rfl rfl) rfl ?_
 refine D_q rfl (r_arrneq2 rfl rfl Tryz.underlying71 Tryz.underlying3 T.sz3 (by kernel_rfl)) rfl ?_
 refine D_end ?_
 refine NX_as (L' := [(9, _), (18, _)]) [9, 18] rfl ?_
 refine CW_condk rfl (fun h2 => ?_) (fun h2 => ?_)
 ·(try simp only [tA, tB, tC, tD, tE, tF, tG, tH, tI, tJ, tK, tL] at h2)
  refine CW_seq ?_
  refine CW_region ?_
  refine W_q (r_assign rfl) rfl ?_
  refine W_nil ?_
  refine NX_as (L' := [(9, _)]) [9] rfl ?_
  refine C_ret (RX_then (RX_q1 rfl rfl ?_))
  first
    | (rw [if_neg (pair_ne h2)]; done)
    | (rw [if_pos (pair_eq h2)]; done)
 ·(try simp only [tA, tB, tC, tD, tE, tF, tG, tH, tI, tJ, tK, tL] at h2)
  refine C_skip ?_
  refine NX_as (L' := [(9, _)]) [9] rfl ?_
  refine CW_seq ?_
  refine CW_region ?_
  refine W_q (r_assign rfl) rfl ?_
  refine W_nil ?_
  refine NX_as (L' := [(9, _)]) [9] rfl ?_
  refine C_ret (RX_q1 rfl rfl ?_)
  first
    | (rw [if_neg (pair_ne h2)]; done)
    | (rw [if_pos (pair_eq h2)]; done)

set_option maxHeartbeats 10000000 in
/-- (*check.checker).places$1 -/
theorem places1_q {m : Imm} {bc mb : Nat} {A : Option Addr} {c : Nat} {B : Option Addr} {d : Nat} {f : FFun} {lev : Int} {X4 X5 : Value} {At : Option Addr} {ct : Nat} {t : List Int} {ds : List (Int × Def)} (hC : Lies m bc [.slice A f.params.length c, .int .i64 f.ret, .slice B f.blocks.length d, .int .i64 lev, X4, X5, .slice At t.length ct, .map (some mb)]) (ht : Ints m At ct t) (hM : MapIn m mb (valL defV ds)) (hds : ∀ p ∈ ds, I64 p.2.1) {b1 : Nat} (hp : m.cell? ⟨b1, 0, none⟩ = some (.pointer (some ⟨bc, 0, none⟩))) (v s1 s2 b a : Int) (hb : I64 b) : Quiet Tryz.prog 165 [.int .i64 v, .agg #[.int .i64 s1, .int .i64 s2], .int .i64 b, .int .i64 a, .pointer (some ⟨b1, 0, none⟩)] m (.int .i64 (if ((getL ds v).getD (0, 0, 0, 0)).1 < 0 then 0 else if (((getL ds v).getD (0, 0, 0, 0)).1 = b ∧ ((getL ds v).getD (0, 0, 0, 0)).2.1 < a) ∨ (((getL ds v).getD (0, 0, 0, 0)).1 ≠ b ∧ overP t ((getL ds v).getD (0, 0, 0, 0)).1 b = true) then 0 else 7)) := by
 have hdi := getL_i64 hds v
 generalize hdd : (getL ds v).getD (0, 0, 0, 0) = dd at hdi ⊢
 refine quiet_of Tryz.func165 rfl Tryz.ntmps165 rfl (fun w => ?_)
 refine CW_seq ?_
 refine CW_region ?_
 refine S_box (l := [_, _]) rfl rfl rfl (fun b1 => ?_)
 refine W_q (r_assign rfl) rfl ?_
 refine W_nil ?_
 refine NX_as (L' := [(0, _), (2, _), (3, _), (4, _), (9, _)]) [0, 2, 3, 4, 9] rfl ?_
 refine CW_seq ?_
 refine CW_region ?_
 refine W_q (r_load_imm rfl T.ag99 hp) rfl ?_
 refine W_q (r_nilCheck rfl) rfl ?_
 refine W_q (r_fieldb (o' := 7) rfl T.fo139_4 rfl) rfl ?_
 refine W_q (r_load_imm rfl T.ag137 (hC 7 _ rfl)) rfl ?_
 refine W_q (r_move rfl) rfl ?_
 refine W_q (r_lookupF hM Tryz.underlying137 Tryz.underlying3 T.ze164 rfl rfl ((by rw [← hdd]; exact defs_get _ _ : defV dd = _))) rfl ?_
 refine S_alloc (l := [_, _, _, _]) T.ze164 rfl rfl (fun b2 => ?_)
 refine S_storeb 0 (l' := [_, _, _, _]) rfl rfl rfl T.sz164 rfl rfl rfl rfl ?_
 refine W_nil ?_
 refine NX_as (L' := [(2, _), (3, _), (4, _), (9, _), (10, _)]) [2, 3, 4, 9, 10] rfl ?_
 refine CW_seq ?_
 refine CW_block ?_
 refine CW_seq ?_
 refine CW_region ?_
 refine W_q (r_fieldb (o' := 0) rfl T.fo164_0 rfl) rfl ?_
 refine W_q (r_loadb 0 rfl T.ag3 rfl rfl) rfl ?_
 refine W_q (r_bin rfl rfl (bin_lss _ _ _ _)) rfl ?_
 refine W_q (r_assign rfl) rfl ?_
 refine W_nil ?_
 refine NX_as (L' := [(2, _), (3, _), (4, _), (9, _), (10, _), (17, _)]) [2, 3, 4, 9, 10, 17] rfl ?_
 refine CW_condk rfl (fun h3 => ?_) (fun h3 => ?_)
 ·(try simp only [tA, tB, tC, tD, tE, tF, tG, tH, tI, tJ, tK, tL] at h3)
  refine CW_seq ?_
  refine CW_region ?_
  refine W_q (r_assign rfl) rfl ?_
  refine W_nil ?_
  refine NX_as (L' := [(9, _)]) [9] rfl ?_
  refine C_ret (RX_block (RX_then (RX_q1 rfl rfl ?_)))
  first
    | (rw [if_pos (by omega)]; done)
    | (rw [if_neg (by omega), if_pos (.inl ⟨by omega, by omega⟩)]; done)
    | (rw [if_neg (by omega), if_pos (.inr ⟨by omega, by assumption⟩)]; done)
    | (rw [if_neg (by omega), if_neg (by rintro (⟨e1, e2⟩ | ⟨e1, e2⟩) <;> first | omega | simp_all)]; done)
 ·(try simp only [tA, tB, tC, tD, tE, tF, tG, tH, tI, tJ, tK, tL] at h3)
  refine CW_seq ?_
  refine CW_seq ?_
  refine CW_region ?_
  refine W_q (r_fieldb (o' := 0) rfl T.fo164_0 rfl) rfl ?_
  refine W_q (r_loadb 0 rfl T.ag3 rfl rfl) rfl ?_
  refine W_q (r_move rfl) rfl ?_
  refine W_q (r_bin rfl rfl (bin_eql _ _ _ _)) rfl ?_
  refine W_q (r_move rfl) rfl ?_
  refine WL_split (t := 26) rfl (fun h4 => ?_) (fun h4 => ?_)
  ·(try simp only [tA, tB, tC, tD, tE, tF, tG, tH, tI, tJ, tK, tL] at h4)
   refine WL_take rfl rfl ?_
   refine W_q (r_fieldb (o' := 1) rfl T.fo164_1 rfl) rfl ?_
   refine WL_take rfl rfl ?_
   refine W_q (r_loadb 0 rfl T.ag3 rfl rfl) rfl ?_
   refine WL_take rfl rfl ?_
   refine W_q (r_move rfl) rfl ?_
   refine WL_take rfl rfl ?_
   refine W_q (r_bin rfl rfl (bin_lss _ _ _ _)) rfl ?_
   refine W_q (r_pick_t rfl rfl) rfl ?_
   refine W_q (r_assign rfl) rfl ?_
   refine W_nil ?_
   refine NX_as (L' := [(2, _), (4, _), (9, _), (10, _), (21, _)]) [2, 4, 9, 10, 21] rfl ?_
   refine CW_condk rfl (fun h5 => ?_) (fun h5 => ?_)
   ·(try simp only [tA, tB, tC, tD, tE, tF, tG, tH, tI, tJ, tK, tL] at h5)
    refine C_skip ?_
    refine NX_as (L' := [(9, _), (21, _)]) [9, 21] rfl ?_
    refine CW_cond_t rfl ?_
    refine CW_seq ?_
    refine CW_region ?_
    refine W_q (r_assign rfl) rfl ?_
    refine W_nil ?_
    refine NX_as (L' := [(9, _)]) [9] rfl ?_
    refine C_ret (RX_block (RX_then (RX_q1 rfl rfl ?_)))
    first
      | (rw [if_pos (by omega)]; done)
      | (rw [if_neg (by omega), if_pos (.inl ⟨by omega, by omega⟩)]; done)
      | (rw [if_neg (by omega), if_pos (.inr ⟨by omega, by assumption⟩)]; done)
      | (rw [if_neg (by omega), if_neg (by rintro (⟨e1, e2⟩ | ⟨e1, e2⟩) <;> first | omega | simp_all)]; done)
   ·(try simp only [tA, tB, tC, tD, tE, tF, tG, tH, tI, tJ, tK, tL] at h5)
    refine C_drawn [(0, true), (1, true), (2, true), (3, true), (4, true), (5, true), (6, true), (7, true), (8, true), (9, true), (10, true), (11, true), (12, true), (13, true), (14, true)] (by kernel_rfl) rfl (by kernel_rfl) (by kernel_rfl) ?_
    refine D_q rfl (r_fieldb (o' := 0) rfl T.fo164_0 rfl) rfl ?_
    refine D_q rfl (r_loadb 0 rfl T.ag3 rfl rfl) rfl ?_
    refine D_q rfl (r_move rfl) rfl ?_
    refine D_q rfl (r_bin rfl rfl (bin_neq _ _ _ _)) rfl ?_
    refine D_q rfl (r_move rfl) rfl ?_
    refine D_split (t := 36) rfl (fun h6 => ?_) (fun h6 => ?_)
    ·(try simp only [tA, tB, tC, tD, tE, tF, tG, tH, tI, tJ, tK, tL] at h6)
     refine D_qt rfl rfl rfl (r_load_imm rfl T.ag99 hp) rfl ?_
     refine D_qt rfl rfl rfl (r_nilCheck rfl) rfl ?_
     refine D_qt rfl rfl rfl (r_fieldb (o' := 6) rfl T.fo139_3 rfl) rfl ?_
     refine D_qt rfl rfl rfl (r_load_imm rfl T.ag22 (hC 6 _ rfl)) rfl ?_
     refine D_qt rfl rfl rfl (r_fieldb (o' := 0) rfl T.fo164_0 rfl) rfl ?_
     refine D_qt rfl rfl rfl (r_loadb 0 rfl T.ag3 rfl rfl) rfl ?_
     refine D_qt rfl rfl rfl (r_move rfl) rfl ?_
     refine D_quiett rfl rfl rfl (Over_q ht _ _ (by assumption) (by assumption)) T.hb151 rfl rfl ?_
     refine D_q rfl (r_pick_t rfl rfl) rfl ?_
     refine D_q rfl (r_assign rfl) rfl ?_
     refine D_end ?_
     refine NX_as (L' := [(9, _), (21, _)]) [9, 21] rfl ?_
     refine CW_condk rfl (fun h7 => ?_) (fun h7 => ?_)
     ·(try simp only [tA, tB, tC, tD, tE, tF, tG, tH, tI, tJ, tK, tL] at h7)
      refine CW_seq ?_
      refine CW_region ?_
      refine W_q (r_assign rfl) rfl ?_
      refine W_nil ?_
      refine NX_as (L' := [(9, _)]) [9] rfl ?_
      refine C_ret (RX_block (RX_then (RX_q1 rfl rfl ?_)))
      first
        | (rw [if_pos (by omega)]; done)
        | (rw [if_neg (by omega), if_pos (.inl ⟨by omega, by omega⟩)]; done)
        | (rw [if_neg (by omega), if_pos (.inr ⟨by omega, by assumption⟩)]; done)
        | (rw [if_neg (by omega), if_neg (by rintro (⟨e1, e2⟩ | ⟨e1, e2⟩) <;> first | omega | simp_all)]; done)
     ·(try simp only [tA, tB, tC, tD, tE, tF, tG, tH, tI, tJ, tK, tL] at h7)
      refine C_skip ?_
      refine NX_block (NX_as (L' := [(9, _)]) [9] rfl ?_)
      refine CW_seq ?_
      refine CW_region ?_
      refine W_q (r_assign rfl) rfl ?_
      refine W_nil ?_
      refine NX_as (L' := [(9, _)]) [9] rfl ?_
      refine C_ret (RX_q1 rfl rfl ?_)
      first
        | (rw [if_pos (by omega)]; done)
        | (rw [if_neg (by omega), if_pos (.inl ⟨by omega, by omega⟩)]; done)
        | (rw [if_neg (by omega), if_pos (.inr ⟨by omega, by assumption⟩)]; done)
        | (rw [if_neg (by omega), if_neg (by rintro (⟨e1, e2⟩ | ⟨e1, e2⟩) <;> first | omega | simp_all)]; done)
    ·(try simp only [tA, tB, tC, tD, tE, tF, tG, tH, tI, tJ, tK, tL] at h6)
     refine D_pass rfl rfl rfl rfl rfl ?_
     refine D_pass rfl rfl rfl rfl rfl ?_
     refine D_pass rfl rfl rfl rfl rfl ?_
     refine D_pass rfl rfl rfl rfl rfl ?_
     refine D_pass rfl rfl rfl rfl rfl ?_
     refine D_pass rfl rfl rfl rfl rfl ?_
     refine D_pass rfl rfl rfl rfl rfl ?_
     refine D_pass rfl rfl rfl rfl rfl ?_
     refine D_q rfl (r_pick_f rfl rfl) rfl ?_
     refine D_q rfl (r_assign rfl) rfl ?_
     refine D_end ?_
     refine NX_as (L' := [(9, _), (21, _)]) [9, 21] rfl ?_
     refine CW_cond_f rfl ?_
     refine C_skip ?_
     refine NX_block (NX_as (L' := [(9, _)]) [9] rfl ?_)
     refine CW_seq ?_
     refine CW_region ?_
     refine W_q (r_assign rfl) rfl ?_
     refine W_nil ?_
     refine NX_as (L' := [(9, _)]) [9] rfl ?_
     refine C_ret (RX_q1 rfl rfl ?_)
     first
       | (rw [if_pos (by omega)]; done)
       | (rw [if_neg (by omega), if_pos (.inl ⟨by omega, by omega⟩)]; done)
       | (rw [if_neg (by omega), if_pos (.inr ⟨by omega, by assumption⟩)]; done)
       | (rw [if_neg (by omega), if_neg (by rintro (⟨e1, e2⟩ | ⟨e1, e2⟩) <;> first | omega | simp_all)]; done)
  ·(try simp only [tA, tB, tC, tD, tE, tF, tG, tH, tI, tJ, tK, tL] at h4)
   refine WL_pass rfl rfl rfl rfl ?_
   refine WL_pass rfl rfl rfl rfl ?_
   refine WL_pass rfl rfl rfl rfl ?_
   refine WL_pass rfl rfl rfl rfl ?_
   refine W_q (r_pick_f rfl rfl) rfl ?_
   refine W_q (r_assign rfl) rfl ?_
   refine W_nil ?_
   refine NX_as (L' := [(2, _), (4, _), (9, _), (10, _), (21, _)]) [2, 4, 9, 10, 21] rfl ?_
   refine CW_cond_f rfl ?_
   refine C_drawn [(0, true), (1, true), (2, true), (3, true), (4, true), (5, true), (6, true), (7, true), (8, true), (9, true), (10, true), (11, true), (12, true), (13, true), (14, true)] (by kernel_rfl) rfl (by kernel_rfl) (by kernel_rfl) ?_
   refine D_q rfl (r_fieldb (o' := 0) rfl T.fo164_0 rfl) rfl ?_
   refine D_q rfl (r_loadb 0 rfl T.ag3 rfl rfl) rfl ?_
   refine D_q rfl (r_move rfl) rfl ?_
   refine D_q rfl (r_bin rfl rfl (bin_neq _ _ _ _)) rfl ?_
   refine D_q rfl (r_move rfl) rfl ?_
   refine D_split (t := 36) rfl (fun h8 => ?_) (fun h8 => ?_)
   ·(try simp only [tA, tB, tC, tD, tE, tF, tG, tH, tI, tJ, tK, tL] at h8)
    refine D_qt rfl rfl rfl (r_load_imm rfl T.ag99 hp) rfl ?_
    refine D_qt rfl rfl rfl (r_nilCheck rfl) rfl ?_
    refine D_qt rfl rfl rfl (r_fieldb (o' := 6) rfl T.fo139_3 rfl) rfl ?_
    refine D_qt rfl rfl rfl (r_load_imm rfl T.ag22 (hC 6 _ rfl)) rfl ?_
    refine D_qt rfl rfl rfl (r_fieldb (o' := 0) rfl T.fo164_0 rfl) rfl ?_
    refine D_qt rfl rfl rfl (r_loadb 0 rfl T.ag3 rfl rfl) rfl ?_
    refine D_qt rfl rfl rfl (r_move rfl) rfl ?_
    refine D_quiett rfl rfl rfl (Over_q ht _ _ (by assumption) (by assumption)) T.hb151 rfl rfl ?_
    refine D_q rfl (r_pick_t rfl rfl) rfl ?_
    refine D_q rfl (r_assign rfl) rfl ?_
    refine D_end ?_
    refine NX_as (L' := [(9, _), (21, _)]) [9, 21] rfl ?_
    refine CW_condk rfl (fun h9 => ?_) (fun h9 => ?_)
    ·(try simp only [tA, tB, tC, tD, tE, tF, tG, tH, tI, tJ, tK, tL] at h9)
     refine CW_seq ?_
     refine CW_region ?_
     refine W_q (r_assign rfl) rfl ?_
     refine W_nil ?_
     refine NX_as (L' := [(9, _)]) [9] rfl ?_
     refine C_ret (RX_block (RX_then (RX_q1 rfl rfl ?_)))
     first
       | (rw [if_pos (by omega)]; done)
       | (rw [if_neg (by omega), if_pos (.inl ⟨by omega, by omega⟩)]; done)
       | (rw [if_neg (by omega), if_pos (.inr ⟨by omega, by assumption⟩)]; done)
       | (rw [if_neg (by omega), if_neg (by rintro (⟨e1, e2⟩ | ⟨e1, e2⟩) <;> first | omega | simp_all)]; done)
    ·(try simp only [tA, tB, tC, tD, tE, tF, tG, tH, tI, tJ, tK, tL] at h9)
     refine C_skip ?_
     refine NX_block (NX_as (L' := [(9, _)]) [9] rfl ?_)
     refine CW_seq ?_
     refine CW_region ?_
     refine W_q (r_assign rfl) rfl ?_
     refine W_nil ?_
     refine NX_as (L' := [(9, _)]) [9] rfl ?_
     refine C_ret (RX_q1 rfl rfl ?_)
     first
       | (rw [if_pos (by omega)]; done)
       | (rw [if_neg (by omega), if_pos (.inl ⟨by omega, by omega⟩)]; done)
       | (rw [if_neg (by omega), if_pos (.inr ⟨by omega, by assumption⟩)]; done)
       | (rw [if_neg (by omega), if_neg (by rintro (⟨e1, e2⟩ | ⟨e1, e2⟩) <;> first | omega | simp_all)]; done)
   ·(try simp only [tA, tB, tC, tD, tE, tF, tG, tH, tI, tJ, tK, tL] at h8)
    refine D_pass rfl rfl rfl rfl rfl ?_
    refine D_pass rfl rfl rfl rfl rfl ?_
    refine D_pass rfl rfl rfl rfl rfl ?_
    refine D_pass rfl rfl rfl rfl rfl ?_
    refine D_pass rfl rfl rfl rfl rfl ?_
    refine D_pass rfl rfl rfl rfl rfl ?_
    refine D_pass rfl rfl rfl rfl rfl ?_
    refine D_pass rfl rfl rfl rfl rfl ?_
    refine D_q rfl (r_pick_f rfl rfl) rfl ?_
    refine D_q rfl (r_assign rfl) rfl ?_
    refine D_end ?_
    refine NX_as (L' := [(9, _), (21, _)]) [9, 21] rfl ?_
    refine CW_cond_f rfl ?_
    refine C_skip ?_
    refine NX_block (NX_as (L' := [(9, _)]) [9] rfl ?_)
    refine CW_seq ?_
    refine CW_region ?_
    refine W_q (r_assign rfl) rfl ?_
    refine W_nil ?_
    refine NX_as (L' := [(9, _)]) [9] rfl ?_
    refine C_ret (RX_q1 rfl rfl ?_)
    first
      | (rw [if_pos (by omega)]; done)
      | (rw [if_neg (by omega), if_pos (.inl ⟨by omega, by omega⟩)]; done)
      | (rw [if_neg (by omega), if_pos (.inr ⟨by omega, by assumption⟩)]; done)
      | (rw [if_neg (by omega), if_neg (by rintro (⟨e1, e2⟩ | ⟨e1, e2⟩) <;> first | omega | simp_all)]; done)

set_option maxHeartbeats 80000000 in
/-- (*check.checker).uses -/
theorem uses_q {m : Imm} {bc : Nat} {A : Option Addr} {c : Nat} {B : Option Addr} {d : Nat} {f : FFun} {lev : Int} {X4 X5 X6 X7 : Value} (hC : Lies m bc [.slice A f.params.length c, .int .i64 f.ret, .slice B f.blocks.length d, .int .i64 lev, X4, X5, X6, X7]) (hq : Ints m A c f.params) (hb : Sl rBlock 5 m B d f.blocks) {K : FuncId} {cap : Array Value} {ask : Use → Int} (hK : hasBody Tryz.prog K = true) (hA : AskQ Tryz.prog K cap ask m) (hphi : ∀ b ∈ f.blocks, ∀ p ∈ b.phis, p.args.length ≤ p.fr.length) : Quiet Tryz.prog 162 [.pointer (some ⟨bc, 0, none⟩), .func (.func K) #[] cap] m (.int .i64 (usesP f ask)) := by
 have hbl := hb.len
 refine quiet_of Tryz.func162 rfl Tryz.ntmps162 rfl (fun w => ?_)
 refine CW_seq ?_
 refine CW_region ?_
 refine W_q (r_assign rfl) rfl ?_
 refine W_nil ?_
 refine NX_as (L' := [(0, _), (1, _), (4, _)]) [0, 1, 4] rfl ?_
 refine C_ahead 0 rfl (Int) (fun mk1 x1 => m.le mk1 ∧ (usesP f ask = x1)) (fun x1 => [(5, .int .i64 x1)]) (fun _ => []) [] (F := []) rfl rfl ?_ (fun mk1 x1 hJ1 => ?_)
 ·refine CW_seq ?_
  refine CW_region ?_
  refine W_q (r_assign rfl) rfl ?_
  refine W_nil ?_
  refine NX_as (L' := [(0, _), (1, _), (4, _), (5, _)]) [0, 1, 4, 5] rfl ?_
  refine CW_seq ?_
  refine CW_seq ?_
  refine CW_region ?_
  refine W_q (r_move rfl) rfl ?_
  refine W_q (r_nilCheck rfl) rfl ?_
  refine W_q (r_fieldb (o' := 0) rfl T.fo139_0 rfl) rfl ?_
  refine W_q (r_fieldb (o' := 2) rfl T.fo25_2 rfl) rfl ?_
  refine W_q (r_load_imm rfl T.ag23 (hC 2 _ rfl)) rfl ?_
  refine W_q (r_len Tryz.underlying23 rfl) rfl ?_
  refine W_q (r_move rfl) rfl ?_
  refine W_nil ?_
  refine NX_as (L' := [(0, _), (1, _), (4, _), (5, _), (21, _), (22, _), (23, _)]) [0, 1, 4, 5, 21, 22, 23] rfl ?_
  refine C_rangeM (Unit) (f.blocks.length) (fun k2 mk2 x2 => m.le mk2 ∧ (firstN ask ((f.blocks.zipIdx.take k2).flatMap (blockU f)) = 0)) (fun k2 x2 => [(5, .int .i64 0)]) (fun _ _ => []) [5] [0, 1, 4, 21] (F := [(0, _), (1, _), (4, _), (21, _)]) (()) rfl rfl (by omega) ⟨Imm.le_refl _, rfl⟩ rfl rfl rfl rfl rfl rfl rfl (fun _ _ => rfl) (fun _ _ => rfl) (fun k2 mk2 x2 hk2 hJ2 => ?_) (fun mk2 x2 hJ2 => ?_)
  ·obtain ⟨hle2, hJ2⟩ := hJ2
   replace hC := hC.mono (hle2)
   replace hq := hq.mono rI_mono hle2
   replace hb := hb.mono rBlock_mono hle2
   replace hA := hA.mono (hle2)
   refine CW_as (L' := [(0, _), (1, _), (4, _), (5, _), (21, _), (22, _), (23, _)]) [0, 1, 4, 5, 21, 22, 23] rfl ?_
   refine CW_seq ?_
   refine CW_region ?_
   refine W_q (r_move rfl) rfl ?_
   obtain ⟨ad3, hA3⟩ := hb.ad (j := k2) (by omega)
   obtain ⟨z3, hz3⟩ := hb.getz (j := k2) (by omega)
   refine W_q (r_index hA3 Tryz.underlying23 T.sz44 rfl rfl ⟨by omega, by omega⟩) rfl ?_
   obtain ⟨es4, f4, _, l4⟩ := Sl.get hb hA3 hz3
   have F4 := f4
   obtain ⟨A4, c4, B4, d4, C4, e4, rfl, hp4, ho4, ht4, i4a, i4b⟩ := f4
   refine W_q (r_load_immk (vs := [_, _, _, _, _]) rfl T.ag44 T.sz44 l4) rfl ?_
   refine S_alloc (l := [_, _, _, _, _]) T.ze44 rfl rfl (fun b5 => ?_)
   refine W_q (r_assign rfl) rfl ?_
   refine S_storeb 0 (l' := [_, _, _, _, _]) rfl rfl rfl T.sz44 rfl rfl rfl rfl ?_
   refine W_nil ?_
   refine NX_as (L' := [(0, _), (1, _), (4, _), (5, _), (6, _), (7, _), (21, _), (22, _), (23, _)]) [0, 1, 4, 5, 6, 7, 21, 22, 23] rfl ?_
   refine CW_seq ?_
   refine CW_seq ?_
   refine CW_region ?_
   refine W_q (r_fieldb (o' := 0) rfl T.fo44_0 rfl) rfl ?_
   refine W_q (r_loadb 0 rfl T.ag39 rfl rfl) rfl ?_
   refine W_q (r_len Tryz.underlying39 rfl) rfl ?_
   refine W_q (r_move rfl) rfl ?_
   refine W_nil ?_
   refine NX_as (L' := [(0, _), (1, _), (4, _), (5, _), (6, _), (7, _), (21, _), (22, _), (23, _), (29, _), (30, _), (31, _)]) [0, 1, 4, 5, 6, 7, 21, 22, 23, 29, 30, 31] rfl ?_
   refine C_range (Unit) (z3.phis.length) (fun k6 x6 => firstN ask ((z3.phis.take k6).flatMap phiU) = 0) (fun k6 x6 => [(5, .int .i64 0)]) (fun _ _ => []) [5] [0, 1, 4, 6, 7, 21, 22, 23, 29] (F := [(0, _), (1, _), (4, _), (6, _), (7, _), (21, _), (22, _), (23, _), (29, _)]) (()) rfl rfl (by have := hp4.len; omega) rfl rfl rfl rfl rfl rfl rfl rfl (fun _ _ => rfl) (fun _ _ => rfl) (fun k6 x6 hk6 hJ6 => ?_) (fun x6 hJ6 => ?_)
   ·refine CW_as (L' := [(0, _), (1, _), (4, _), (5, _), (6, _), (7, _), (21, _), (22, _), (23, _), (29, _), (30, _), (31, _)]) [0, 1, 4, 5, 6, 7, 21, 22, 23, 29, 30, 31] rfl ?_
    refine CW_seq ?_
    refine CW_region ?_
    obtain ⟨ad7, hA7⟩ := hp4.ad (j := k6) (by omega)
    obtain ⟨z7, hz7⟩ := hp4.getz (j := k6) (by omega)
    refine W_q (r_index hA7 Tryz.underlying39 T.sz61 rfl rfl ⟨by omega, by omega⟩) rfl ?_
    obtain ⟨es8, f8, _, l8⟩ := Sl.get hp4 hA7 hz7
    have F8 := f8
    obtain ⟨A8, c8, B8, d8, rfl, h8, g8, i8a, i8b⟩ := f8
    refine W_q (r_load_immk (vs := [_, _, _, _]) rfl T.ag61 T.sz61 l8) rfl ?_
    refine S_alloc (l := [_, _, _, _]) T.ze61 rfl rfl (fun b9 => ?_)
    refine S_storeb 0 (l' := [_, _, _, _]) rfl rfl rfl T.sz61 rfl rfl rfl rfl ?_
    refine W_nil ?_
    refine NX_as (L' := [(0, _), (1, _), (4, _), (5, _), (6, _), (7, _), (9, _), (21, _), (22, _), (23, _), (29, _), (30, _), (31, _)]) [0, 1, 4, 5, 6, 7, 9, 21, 22, 23, 29, 30, 31] rfl ?_
    refine CW_seq ?_
    refine CW_region ?_
    refine W_q (r_fieldb (o' := 3) rfl T.fo61_3 rfl) rfl ?_
    refine W_q (r_loadb 0 rfl T.ag22 rfl rfl) rfl ?_
    refine W_q (r_len Tryz.underlying22 rfl) rfl ?_
    refine W_q (r_move rfl) rfl ?_
    refine W_nil ?_
    refine NX_as (L' := [(0, _), (1, _), (4, _), (5, _), (6, _), (7, _), (9, _), (21, _), (22, _), (23, _), (29, _), (30, _), (31, _), (36, _), (37, _), (38, _)]) [0, 1, 4, 5, 6, 7, 9, 21, 22, 23, 29, 30, 31, 36, 37, 38] rfl ?_
    refine C_range (Unit) (z7.args.length) (fun k10 x10 => firstN ask ((phiU z7).take k10) = 0) (fun k10 x10 => [(5, .int .i64 0)]) (fun _ _ => []) [5] [0, 1, 4, 6, 7, 9, 21, 22, 23, 29, 30, 31, 36] (F := [(0, _), (1, _), (4, _), (6, _), (7, _), (9, _), (21, _), (22, _), (23, _), (29, _), (30, _), (31, _), (36, _)]) (()) rfl rfl (by have := g8.len; omega) rfl rfl rfl rfl rfl rfl rfl rfl (fun _ _ => rfl) (fun _ _ => rfl) (fun k10 x10 hk10 hJ10 => ?_) (fun x10 hJ10 => ?_)
    ·have hpl := hphi _ (List.mem_of_getElem? hz3) _ (List.mem_of_getElem? hz7)
     refine CW_as (L' := [(0, _), (1, _), (4, _), (5, _), (6, _), (7, _), (9, _), (21, _), (22, _), (23, _), (29, _), (30, _), (31, _), (36, _), (37, _), (38, _)]) [0, 1, 4, 5, 6, 7, 9, 21, 22, 23, 29, 30, 31, 36, 37, 38] rfl ?_
     refine CW_seq ?_
     refine CW_region ?_
     refine W_q (r_move rfl) rfl ?_
     obtain ⟨ad11, hA11⟩ := g8.ad (j := k10) (by omega)
     obtain ⟨z11, hz11⟩ := g8.getz (j := k10) (by omega)
     refine W_q (r_index hA11 Tryz.underlying22 T.sz3 rfl rfl ⟨by omega, by omega⟩) rfl ?_
     obtain ⟨l12, r12⟩ := Sl.getI g8 hA11 hz11
     refine W_q (r_load_imm rfl T.ag3 l12) rfl ?_
     refine W_q (r_assign rfl) rfl ?_
     refine W_q (r_assign rfl) rfl ?_
     refine W_nil ?_
     refine NX_as (L' := [(0, _), (1, _), (4, _), (5, _), (6, _), (7, _), (9, _), (10, _), (11, _), (21, _), (22, _), (23, _), (29, _), (30, _), (31, _), (36, _), (37, _), (38, _)]) [0, 1, 4, 5, 6, 7, 9, 10, 11, 21, 22, 23, 29, 30, 31, 36, 37, 38] rfl ?_
     refine CW_seq ?_
     refine C_drawn [(0, true), (1, true), (2, true), (3, true), (4, true), (5, true), (6, true), (7, true), (8, true), (9, true), (10, true), (11, true)] (by kernel_rfl) rfl (by kernel_rfl) (by kernel_rfl) ?_
     refine D_q rfl (r_move rfl) rfl ?_
     refine D_q rfl (r_move rfl) rfl ?_
     refine D_q rfl (r_fieldb (o' := 0) rfl T.fo61_0 rfl) rfl ?_
     refine D_q rfl (r_loadb 0 rfl T.ag3 rfl rfl) rfl ?_
     refine D_quiet rfl (scalar_q _) T.hb160 rfl rfl ?_
     refine D_q rfl (r_fieldb (o' := 2) rfl T.fo61_2 rfl) rfl ?_
     refine D_q rfl (r_loadb 0 rfl T.ag22 rfl rfl) rfl ?_
     refine D_q rfl (r_move rfl) rfl ?_
     obtain ⟨ad13, hA13⟩ := h8.ad (j := k10) (by omega)
     obtain ⟨z13, hz13⟩ := h8.getz (j := k10) (by omega)
     refine D_q rfl (r_index hA13 Tryz.underlying22 T.sz3 rfl rfl ⟨by omega, by omega⟩) rfl ?_
     obtain ⟨l14, r14⟩ := Sl.getI h8 hA13 hz13
     refine D_q rfl (r_load_imm rfl T.ag3 l14) rfl ?_
     refine D_q rfl (r_callv rfl hK rfl (hA _ (Imm.le_refl _) _ _ _ _ _ (by first | assumption | exact ⟨by omega, by omega⟩))) rfl ?_
     refine D_q rfl (r_assign rfl) rfl ?_
     refine D_end ?_
     refine NX_as (L' := [(0, _), (1, _), (4, _), (5, _), (6, _), (7, _), (9, _), (21, _), (22, _), (23, _), (29, _), (30, _), (31, _), (36, _), (37, _), (38, _)]) [0, 1, 4, 5, 6, 7, 9, 21, 22, 23, 29, 30, 31, 36, 37, 38] rfl ?_
     refine CW_seq ?_
     refine CW_region ?_
     refine W_q (r_move rfl) rfl ?_
     refine W_q (r_bin rfl rfl (bin_neq _ _ _ _)) rfl ?_
     refine W_nil ?_
     refine NX_as (L' := [(0, _), (1, _), (4, _), (5, _), (6, _), (7, _), (9, _), (21, _), (22, _), (23, _), (29, _), (30, _), (31, _), (36, _), (37, _), (38, _), (55, _)]) [0, 1, 4, 5, 6, 7, 9, 21, 22, 23, 29, 30, 31, 36, 37, 38, 55] rfl ?_
     refine CW_condk rfl (fun h15 => ?_) (fun h15 => ?_)
     ·(try simp only [tA, tB, tC, tD, tE, tF, tG, tH, tI, tJ, tK, tL] at h15)
      refine C_goto (GX_block (GX_then (GX_block (GX_block (GX_then (GX_block (GX_then (GX_block (GX_then (GX_block (GX_then (?_))))))))))))
      refine GX_ahead [5] (_) ⟨hle2, ?_⟩ rfl (sub_drop 2 rfl) rfl
      exact uses_phi hz3 hz7 hz11 hz13 hJ2 hJ6 hJ10 (by assumption)
     ·(try simp only [tA, tB, tC, tD, tE, tF, tG, tH, tI, tJ, tK, tL] at h15)
      refine C_skip ?_
      refine NX_block (?_)
      rw [h15]
      refine NX_rng [5, 0, 1, 4, 6, 7, 9, 21, 22, 23, 29, 30, 31, 36] (()) ?_ rfl (List.Sublist.refl _) rfl (Imm.le_refl _)
      exact firstN_snoc (phiU_get hz11 hz13) hJ10 (by assumption)
    ·refine NX_block (?_)
     refine NX_rng [5, 0, 1, 4, 6, 7, 21, 22, 23, 29] (()) ?_ rfl (sub_drop 1 rfl) rfl (Imm.le_refl _)
     exact firstN_step hz7 hJ6 (by have e := hJ10; rwa [take_all (phiU_len _).symm] at e)
   ·have hP1 : firstN ask (z3.phis.flatMap phiU) = 0 := by rw [List.take_length] at hJ6; exact hJ6
    refine NX_as (L' := [(0, _), (1, _), (4, _), (5, _), (6, _), (7, _), (21, _), (22, _), (23, _)]) [0, 1, 4, 5, 6, 7, 21, 22, 23] rfl ?_
    refine CW_seq ?_
    refine CW_seq ?_
    refine CW_region ?_
    refine W_q (r_fieldb (o' := 1) rfl T.fo44_1 rfl) rfl ?_
    refine W_q (r_loadb 0 rfl T.ag40 rfl rfl) rfl ?_
    refine W_q (r_len Tryz.underlying40 rfl) rfl ?_
    refine W_q (r_move rfl) rfl ?_
    refine W_nil ?_
    refine NX_as (L' := [(0, _), (1, _), (4, _), (5, _), (6, _), (7, _), (21, _), (22, _), (23, _), (59, _), (60, _), (61, _)]) [0, 1, 4, 5, 6, 7, 21, 22, 23, 59, 60, 61] rfl ?_
    refine C_rangeM (Unit) (z3.ops.length) (fun k16 mk16 x16 => mk2.le mk16 ∧ (firstN ask ((z3.ops.zipIdx.take k16).flatMap (opU k2)) = 0)) (fun k16 x16 => [(5, .int .i64 0)]) (fun _ _ => []) [5] [0, 1, 4, 6, 7, 21, 22, 23, 59] (F := [(0, _), (1, _), (4, _), (6, _), (7, _), (21, _), (22, _), (23, _), (59, _)]) (()) rfl rfl (by have := ho4.len; omega) ⟨Imm.le_refl _, rfl⟩ rfl rfl rfl rfl rfl rfl rfl (fun _ _ => rfl) (fun _ _ => rfl) (fun k16 mk16 x16 hk16 hJ16 => ?_) (fun mk16 x16 hJ16 => ?_)
    ·obtain ⟨hle16, hJ16⟩ := hJ16
     replace hC := hC.mono (hle16)
     replace hq := hq.mono rI_mono hle16
     replace hb := hb.mono rBlock_mono hle16
     replace hA := hA.mono (hle16)
     replace F4 := rBlock_mono _ _ _ _ hle16 F4
     replace hp4 := hp4.mono rPhi_mono hle16
     replace ho4 := ho4.mono rOp_mono hle16
     replace ht4 := ht4.mono rI_mono hle16
     refine CW_as (L' := [(0, _), (1, _), (4, _), (5, _), (6, _), (7, _), (21, _), (22, _), (23, _), (59, _), (60, _), (61, _)]) [0, 1, 4, 5, 6, 7, 21, 22, 23, 59, 60, 61] rfl ?_
     refine CW_seq ?_
     refine CW_region ?_
     refine W_q (r_move rfl) rfl ?_
     obtain ⟨ad17, hA17⟩ := ho4.ad (j := k16) (by omega)
     obtain ⟨z17, hz17⟩ := ho4.getz (j := k16) (by omega)
     refine W_q (r_index hA17 Tryz.underlying40 T.sz51 rfl rfl ⟨by omega, by omega⟩) rfl ?_
     obtain ⟨es18, f18, _, l18⟩ := Sl.get ho4 hA17 hz17
     have F18 := f18
     obtain ⟨A18, c18, rfl, h18, i18a, i18b, i18c, i18d, i18e⟩ := f18
     refine W_q (r_load_immk (vs := [_, _, _, _, _, _]) rfl T.ag51 T.sz51 l18) rfl ?_
     refine S_alloc (l := [_, _, _, _, _, _]) T.ze51 rfl rfl (fun b19 => ?_)
     refine W_q (r_assign rfl) rfl ?_
     refine S_storeb 0 (l' := [_, _, _, _, _, _]) rfl rfl rfl T.sz51 rfl rfl rfl rfl ?_
     refine W_nil ?_
     refine NX_as (L' := [(0, _), (1, _), (4, _), (5, _), (6, _), (7, _), (12, _), (13, _), (21, _), (22, _), (23, _), (59, _), (60, _), (61, _)]) [0, 1, 4, 5, 6, 7, 12, 13, 21, 22, 23, 59, 60, 61] rfl ?_
     refine CW_seq ?_
     refine CW_region ?_
     refine W_q (r_loadbk 0 (vs := [_, _, _, _, _, _]) rfl T.ag51 T.sz51 rfl rfl rfl) rfl ?_
     refine S_gives (Takes_g F18) T.hb192 rfl rfl (fun m20 v20 le20 hv20 => ?_)
     replace hC := hC.mono (le20)
     replace hq := hq.mono rI_mono le20
     replace hb := hb.mono rBlock_mono le20
     replace hA := hA.mono (le20)
     replace F4 := rBlock_mono _ _ _ _ le20 F4
     replace hp4 := hp4.mono rPhi_mono le20
     replace ho4 := ho4.mono rOp_mono le20
     replace ht4 := ht4.mono rI_mono le20
     replace F18 := rOp_mono _ _ _ _ le20 F18
     replace h18 := h18.mono rI_mono le20
     obtain ⟨A20, c20, rfl, h20⟩ := hv20
     refine W_q (r_len Tryz.underlying113 rfl) rfl ?_
     refine W_q (r_move rfl) rfl ?_
     refine W_nil ?_
     refine NX_as (L' := [(0, _), (1, _), (4, _), (5, _), (6, _), (7, _), (12, _), (13, _), (21, _), (22, _), (23, _), (59, _), (60, _), (61, _), (67, _), (68, _), (69, _)]) [0, 1, 4, 5, 6, 7, 12, 13, 21, 22, 23, 59, 60, 61, 67, 68, 69] rfl ?_
     refine C_range (Unit) ((takesK z17).length) (fun k21 x21 => firstN ask ((opU k2 (z17, k16)).take k21) = 0) (fun k21 x21 => [(5, .int .i64 0)]) (fun _ _ => []) [5] [0, 1, 4, 6, 7, 12, 13, 21, 22, 23, 59, 60, 61, 67] (F := [(0, _), (1, _), (4, _), (6, _), (7, _), (12, _), (13, _), (21, _), (22, _), (23, _), (59, _), (60, _), (61, _), (67, _)]) (()) rfl rfl (by have := h20.len; omega) rfl rfl rfl rfl rfl rfl rfl rfl (fun _ _ => rfl) (fun _ _ => rfl) (fun k21 x21 hk21 hJ21 => ?_) (fun x21 hJ21 => ?_)
     ·have hkl := takesK_len z17
      refine CW_as (L' := [(0, _), (1, _), (4, _), (5, _), (6, _), (7, _), (12, _), (13, _), (21, _), (22, _), (23, _), (59, _), (60, _), (61, _), (67, _), (68, _), (69, _)]) [0, 1, 4, 5, 6, 7, 12, 13, 21, 22, 23, 59, 60, 61, 67, 68, 69] rfl ?_
      refine CW_seq ?_
      refine CW_region ?_
      refine W_q (r_move rfl) rfl ?_
      obtain ⟨ad22, hA22⟩ := h20.ad (j := k21) (by omega)
      obtain ⟨z22, hz22⟩ := h20.getz (j := k21) (by omega)
      refine W_q (r_index hA22 Tryz.underlying113 T.sz71 rfl rfl ⟨by omega, by omega⟩) rfl ?_
      obtain ⟨es23, f23, _, l23⟩ := Sl.get h20 hA22 hz22
      have F23 := f23
      obtain ⟨rfl, i23a, i23b⟩ := f23
      refine W_q (r_load_immk (vs := [_, _]) rfl T.ag71 T.sz71 l23) rfl ?_
      refine S_alloc (l := [_, _]) T.ze71 rfl rfl (fun b24 => ?_)
      refine W_q (r_assign rfl) rfl ?_
      refine S_storeb 0 (l' := [_, _]) rfl rfl rfl T.sz71 rfl rfl rfl rfl ?_
      refine W_nil ?_
      refine NX_as (L' := [(0, _), (1, _), (4, _), (5, _), (6, _), (7, _), (12, _), (13, _), (14, _), (15, _), (21, _), (22, _), (23, _), (59, _), (60, _), (61, _), (67, _), (68, _), (69, _)]) [0, 1, 4, 5, 6, 7, 12, 13, 14, 15, 21, 22, 23, 59, 60, 61, 67, 68, 69] rfl ?_
      refine CW_seq ?_
      refine C_drawn [(0, true), (1, true), (2, true), (3, true), (4, true), (5, true), (6, true), (7, true), (8, true), (9, true), (10, true)] (by kernel_rfl) rfl (by kernel_rfl) (by kernel_rfl) ?_
      refine D_q rfl (r_move rfl) rfl ?_
      refine D_q rfl (r_fieldb (o' := 4) rfl T.fo51_4 rfl) rfl ?_
      refine D_q rfl (r_loadb 1 rfl T.ag22 rfl rfl) rfl ?_
      refine D_q rfl (r_move rfl) rfl ?_
      obtain ⟨ad25, hA25⟩ := h18.ad (j := k21) (by omega)
      obtain ⟨z25, hz25⟩ := h18.getz (j := k21) (by omega)
      refine D_q rfl (r_index hA25 Tryz.underlying22 T.sz3 rfl rfl ⟨by omega, by omega⟩) rfl ?_
      obtain ⟨l26, r26⟩ := Sl.getI h18 hA25 hz25
      refine D_q rfl (r_load_imm rfl T.ag3 l26) rfl ?_
      refine D_q rfl (r_loadbk 0 (vs := [_, _]) rfl T.ag71 T.sz71 rfl rfl rfl) rfl ?_
      refine D_q rfl (r_move rfl) rfl ?_
      refine D_q rfl (r_move rfl) rfl ?_
      refine D_q rfl (r_callv rfl hK rfl (hA _ (Imm.le_refl _) _ _ _ _ _ (by first | assumption | exact ⟨by omega, by omega⟩))) rfl ?_
      refine D_q rfl (r_assign rfl) rfl ?_
      refine D_end ?_
      refine NX_as (L' := [(0, _), (1, _), (4, _), (5, _), (6, _), (7, _), (12, _), (13, _), (21, _), (22, _), (23, _), (59, _), (60, _), (61, _), (67, _), (68, _), (69, _)]) [0, 1, 4, 5, 6, 7, 12, 13, 21, 22, 23, 59, 60, 61, 67, 68, 69] rfl ?_
      refine CW_seq ?_
      refine CW_region ?_
      refine W_q (r_move rfl) rfl ?_
      refine W_q (r_bin rfl rfl (bin_neq _ _ _ _)) rfl ?_
      refine W_nil ?_
      refine NX_as (L' := [(0, _), (1, _), (4, _), (5, _), (6, _), (7, _), (12, _), (13, _), (21, _), (22, _), (23, _), (59, _), (60, _), (61, _), (67, _), (68, _), (69, _), (85, _)]) [0, 1, 4, 5, 6, 7, 12, 13, 21, 22, 23, 59, 60, 61, 67, 68, 69, 85] rfl ?_
      refine CW_condk rfl (fun h27 => ?_) (fun h27 => ?_)
      ·(try simp only [tA, tB, tC, tD, tE, tF, tG, tH, tI, tJ, tK, tL] at h27)
       refine C_goto (GX_block (GX_then (GX_block (GX_block (GX_then (GX_block (GX_then (GX_block (GX_then (GX_block (GX_then (?_))))))))))))
       refine GX_ahead [5] (_) ⟨Imm.le_trans (Imm.le_trans (hle2) hle16) le20, ?_⟩ rfl (sub_drop 3 rfl) rfl
       exact uses_op hz3 hz17 hz25 hz22 hJ2 hP1 hJ16 hJ21 (by assumption)
      ·(try simp only [tA, tB, tC, tD, tE, tF, tG, tH, tI, tJ, tK, tL] at h27)
       refine C_skip ?_
       refine NX_block (?_)
       rw [h27]
       refine NX_rng [5, 0, 1, 4, 6, 7, 12, 13, 21, 22, 23, 59, 60, 61, 67] (()) ?_ rfl (sub_drop 1 rfl) rfl (Imm.le_refl _)
       exact firstN_snoc (opU_get hz25 hz22) hJ21 (by assumption)
     ·refine NX_block (?_)
      refine NX_rngM [5, 0, 1, 4, 6, 7, 21, 22, 23, 59] (()) ⟨Imm.le_trans (hle16) le20, ?_⟩ rfl (sub_drop 1 rfl) rfl
      exact firstN_step (zip_get hz17) hJ16 (by have e := hJ21; rwa [take_all (show (takesK z17).length = (opU k2 (z17, k16)).length from (opU_len k2 (z17, k16)).symm)] at e)
    ·obtain ⟨hle16, hJ16⟩ := hJ16
     replace hC := hC.mono (hle16)
     replace hq := hq.mono rI_mono hle16
     replace hb := hb.mono rBlock_mono hle16
     replace hA := hA.mono (hle16)
     replace F4 := rBlock_mono _ _ _ _ hle16 F4
     replace hp4 := hp4.mono rPhi_mono hle16
     replace ho4 := ho4.mono rOp_mono hle16
     replace ht4 := ht4.mono rI_mono hle16
     have hO1 : firstN ask (z3.ops.zipIdx.flatMap (opU k2)) = 0 := by rw [take_all (by simp)] at hJ16; exact hJ16
     refine NX_as (L' := [(0, _), (1, _), (4, _), (5, _), (6, _), (7, _), (21, _), (22, _), (23, _)]) [0, 1, 4, 5, 6, 7, 21, 22, 23] rfl ?_
     refine CW_seq ?_
     refine C_drawnA 0 14 rfl (by kernel_rfl) (by kernel_rfl) ?_
     refine A_q (i := 1) (by kernel_rfl) rfl (r_move rfl) rfl ?_
     refine A_q (i := 2) (by kernel_rfl) rfl (r_nilCheck rfl) rfl ?_
     refine A_q (i := 3) (by kernel_rfl) rfl (r_fieldb (o' := 0) rfl T.fo139_0 rfl) rfl ?_
     refine A_q (i := 4) (by kernel_rfl) rfl (r_fieldb (o' := 1) rfl T.fo25_1 rfl) rfl ?_
     refine A_q (i := 5) (by kernel_rfl) rfl (r_load_imm rfl T.ag3 (hC 1 _ rfl)) rfl ?_
     refine A_q (i := 9) (by kernel_rfl) rfl (r_fieldb (o' := 2) rfl T.fo44_2 rfl) rfl ?_
     refine A_q (i := 10) (by kernel_rfl) rfl (r_fieldb (o' := 2) rfl T.fo42_0 rfl) rfl ?_
     refine A_q (i := 11) (by kernel_rfl) rfl (r_loadb 0 rfl T.ag3 rfl rfl) rfl ?_
     refine A_one (i := 0) (by kernel_rfl) rfl (fun hs28 => ?_)
     ·refine S_makeMap rfl (fun b29 => ?_)
      refine A_leftw hs28 (Imm.le_refl _) (sub_drop 1 rfl) ?_
      refine A_two (i := 6) (j := 7) (by kernel_rfl) rfl rfl (fun hs30 => ?_) (fun hs30 => ?_)
      ·refine S_insert 0 Tryz.underlying86 Tryz.underlying3 rfl rfl rfl rfl ?_
       refine A_leftw hs30 (Imm.le_refl _) (sub_drop 1 rfl) ?_
       refine A_one (i := 7) (by kernel_rfl) rfl (fun hs31 => ?_)
       ·refine S_insert 0 Tryz.underlying86 Tryz.underlying3 rfl rfl rfl rfl ?_
        refine A_leftw hs31 (Imm.le_refl _) (sub_drop 1 rfl) ?_
        refine A_q (i := 8) (by kernel_rfl) rfl (r_move rfl) rfl ?_
        refine A_one (i := 12) (by kernel_rfl) rfl (fun hs32 => ?_)
        ·refine W_q (r_lookup 0 Tryz.underlying86 Tryz.underlying3 T.ze3 rfl rfl rfl ((by first | exact bits_get1 f z3 | exact bits_get2 f z3))) rfl ?_
         refine A_leftw hs32 (Imm.le_refl _) (sub_drop 1 rfl) ?_
         refine A_q (i := 13) (by kernel_rfl) rfl (r_assign rfl) rfl ?_
         refine A_end (by kernel_rfl) ?_
         refine NX_as (L' := [(0, _), (1, _), (4, _), (5, _), (6, _), (7, _), (16, _), (21, _), (22, _), (23, _)]) [0, 1, 4, 5, 6, 7, 16, 21, 22, 23] rfl ?_
         refine CW_seq ?_
         refine CW_seq ?_
         refine CW_region ?_
         refine W_q (r_move rfl) rfl ?_
         refine W_q (r_bin rfl rfl (bin_eql _ _ _ _)) rfl ?_
         refine W_nil ?_
         refine NX_as (L' := [(0, _), (1, _), (4, _), (5, _), (6, _), (7, _), (16, _), (21, _), (22, _), (23, _), (100, _)]) [0, 1, 4, 5, 6, 7, 16, 21, 22, 23, 100] rfl ?_
         refine CW_condk rfl (fun h33 => ?_) (fun h33 => ?_)
         ·(try simp only [tA, tB, tC, tD, tE, tF, tG, tH, tI, tJ, tK, tL] at h33)
          refine C_exit (EX_then (EX_hit (?_)))
          refine NX_rngM [5, 0, 1, 4, 21] (()) ⟨Imm.le_trans (hle2) hle16, ?_⟩ rfl (sub_drop 2 rfl) rfl
          exact uses_step hz3 hJ2 hP1 hO1 (.inl (by assumption))
         ·(try simp only [tA, tB, tC, tD, tE, tF, tG, tH, tI, tJ, tK, tL] at h33)
          refine C_skip ?_
          refine NX_as (L' := [(0, _), (1, _), (4, _), (5, _), (6, _), (7, _), (16, _), (21, _), (22, _), (23, _)]) [0, 1, 4, 5, 6, 7, 16, 21, 22, 23] rfl ?_
          refine CW_seq ?_
          refine C_drawn [(0, true), (1, true), (2, true), (3, true), (4, true), (5, true), (6, true), (7, true), (8, true)] (by kernel_rfl) rfl (by kernel_rfl) (by kernel_rfl) ?_
          refine D_q rfl (r_move rfl) rfl ?_
          refine D_q rfl (r_fieldb (o' := 2) rfl T.fo44_2 rfl) rfl ?_
          refine D_q rfl (r_fieldb (o' := 3) rfl T.fo42_1 rfl) rfl ?_
          refine D_q rfl (r_loadb 1 rfl T.ag3 rfl rfl) rfl ?_
          refine D_q rfl (r_move rfl) rfl ?_
          refine D_quiet rfl (scalar_q _) T.hb160 rfl rfl ?_
          refine D_q rfl (r_move rfl) rfl ?_
          refine D_q rfl (r_callv rfl hK rfl (hA _ (Imm.le_refl _) _ _ _ _ _ (by first | assumption | exact ⟨by omega, by omega⟩))) rfl ?_
          refine D_q rfl (r_assign rfl) rfl ?_
          refine D_end ?_
          refine NX_as (L' := [(0, _), (1, _), (4, _), (5, _), (21, _), (22, _), (23, _)]) [0, 1, 4, 5, 21, 22, 23] rfl ?_
          refine CW_seq ?_
          refine CW_region ?_
          refine W_q (r_move rfl) rfl ?_
          refine W_q (r_bin rfl rfl (bin_neq _ _ _ _)) rfl ?_
          refine W_nil ?_
          refine NX_as (L' := [(0, _), (1, _), (4, _), (5, _), (21, _), (22, _), (23, _), (110, _)]) [0, 1, 4, 5, 21, 22, 23, 110] rfl ?_
          refine CW_condk rfl (fun h34 => ?_) (fun h34 => ?_)
          ·(try simp only [tA, tB, tC, tD, tE, tF, tG, tH, tI, tJ, tK, tL] at h34)
           refine C_goto (GX_block (GX_then (GX_block (GX_then (?_)))))
           refine GX_ahead [5] (_) ⟨Imm.le_trans (hle2) hle16, ?_⟩ rfl (sub_drop 2 rfl) rfl
           exact uses_end hz3 hJ2 hP1 hO1 (by assumption) (by assumption)
          ·(try simp only [tA, tB, tC, tD, tE, tF, tG, tH, tI, tJ, tK, tL] at h34)
           refine C_skip ?_
           refine NX_block (?_)
           rw [h34]
           refine NX_rngM [5, 0, 1, 4, 21] (()) ⟨Imm.le_trans (hle2) hle16, ?_⟩ rfl (sub_drop 2 rfl) rfl
           exact uses_step hz3 hJ2 hP1 hO1 (.inr (by assumption))
      ·refine S_insert 0 Tryz.underlying86 Tryz.underlying3 rfl rfl rfl rfl ?_
       refine A_leftw hs30 (Imm.le_refl _) (sub_drop 1 rfl) ?_
       refine A_one (i := 6) (by kernel_rfl) rfl (fun hs35 => ?_)
       ·refine S_insert 0 Tryz.underlying86 Tryz.underlying3 rfl rfl rfl rfl ?_
        refine A_leftw hs35 (Imm.le_refl _) (sub_drop 1 rfl) ?_
        refine A_q (i := 8) (by kernel_rfl) rfl (r_move rfl) rfl ?_
        refine A_one (i := 12) (by kernel_rfl) rfl (fun hs36 => ?_)
        ·refine W_q (r_lookup 0 Tryz.underlying86 Tryz.underlying3 T.ze3 rfl rfl rfl ((by first | exact bits_get1 f z3 | exact bits_get2 f z3))) rfl ?_
         refine A_leftw hs36 (Imm.le_refl _) (sub_drop 1 rfl) ?_
         refine A_q (i := 13) (by kernel_rfl) rfl (r_assign rfl) rfl ?_
         refine A_end (by kernel_rfl) ?_
         refine NX_as (L' := [(0, _), (1, _), (4, _), (5, _), (6, _), (7, _), (16, _), (21, _), (22, _), (23, _)]) [0, 1, 4, 5, 6, 7, 16, 21, 22, 23] rfl ?_
         refine CW_seq ?_
         refine CW_seq ?_
         refine CW_region ?_
         refine W_q (r_move rfl) rfl ?_
         refine W_q (r_bin rfl rfl (bin_eql _ _ _ _)) rfl ?_
         refine W_nil ?_
         refine NX_as (L' := [(0, _), (1, _), (4, _), (5, _), (6, _), (7, _), (16, _), (21, _), (22, _), (23, _), (100, _)]) [0, 1, 4, 5, 6, 7, 16, 21, 22, 23, 100] rfl ?_
         refine CW_condk rfl (fun h37 => ?_) (fun h37 => ?_)
         ·(try simp only [tA, tB, tC, tD, tE, tF, tG, tH, tI, tJ, tK, tL] at h37)
          refine C_exit (EX_then (EX_hit (?_)))
          refine NX_rngM [5, 0, 1, 4, 21] (()) ⟨Imm.le_trans (hle2) hle16, ?_⟩ rfl (sub_drop 2 rfl) rfl
          exact uses_step hz3 hJ2 hP1 hO1 (.inl (by assumption))
         ·(try simp only [tA, tB, tC, tD, tE, tF, tG, tH, tI, tJ, tK, tL] at h37)
          refine C_skip ?_
          refine NX_as (L' := [(0, _), (1, _), (4, _), (5, _), (6, _), (7, _), (16, _), (21, _), (22, _), (23, _)]) [0, 1, 4, 5, 6, 7, 16, 21, 22, 23] rfl ?_
          refine CW_seq ?_
          refine C_drawn [(0, true), (1, true), (2, true), (3, true), (4, true), (5, true), (6, true), (7, true), (8, true)] (by kernel_rfl) rfl (by kernel_rfl) (by kernel_rfl) ?_
          refine D_q rfl (r_move rfl) rfl ?_
          refine D_q rfl (r_fieldb (o' := 2) rfl T.fo44_2 rfl) rfl ?_
          refine D_q rfl (r_fieldb (o' := 3) rfl T.fo42_1 rfl) rfl ?_
          refine D_q rfl (r_loadb 1 rfl T.ag3 rfl rfl) rfl ?_
          refine D_q rfl (r_move rfl) rfl ?_
          refine D_quiet rfl (scalar_q _) T.hb160 rfl rfl ?_
          refine D_q rfl (r_move rfl) rfl ?_
          refine D_q rfl (r_callv rfl hK rfl (hA _ (Imm.le_refl _) _ _ _ _ _ (by first | assumption | exact ⟨by omega, by omega⟩))) rfl ?_
          refine D_q rfl (r_assign rfl) rfl ?_
          refine D_end ?_
          refine NX_as (L' := [(0, _), (1, _), (4, _), (5, _), (21, _), (22, _), (23, _)]) [0, 1, 4, 5, 21, 22, 23] rfl ?_
          refine CW_seq ?_
          refine CW_region ?_
          refine W_q (r_move rfl) rfl ?_
          refine W_q (r_bin rfl rfl (bin_neq _ _ _ _)) rfl ?_
          refine W_nil ?_
          refine NX_as (L' := [(0, _), (1, _), (4, _), (5, _), (21, _), (22, _), (23, _), (110, _)]) [0, 1, 4, 5, 21, 22, 23, 110] rfl ?_
          refine CW_condk rfl (fun h38 => ?_) (fun h38 => ?_)
          ·(try simp only [tA, tB, tC, tD, tE, tF, tG, tH, tI, tJ, tK, tL] at h38)
           refine C_goto (GX_block (GX_then (GX_block (GX_then (?_)))))
           refine GX_ahead [5] (_) ⟨Imm.le_trans (hle2) hle16, ?_⟩ rfl (sub_drop 2 rfl) rfl
           exact uses_end hz3 hJ2 hP1 hO1 (by assumption) (by assumption)
          ·(try simp only [tA, tB, tC, tD, tE, tF, tG, tH, tI, tJ, tK, tL] at h38)
           refine C_skip ?_
           refine NX_block (?_)
           rw [h38]
           refine NX_rngM [5, 0, 1, 4, 21] (()) ⟨Imm.le_trans (hle2) hle16, ?_⟩ rfl (sub_drop 2 rfl) rfl
           exact uses_step hz3 hJ2 hP1 hO1 (.inr (by assumption))
  ·obtain ⟨hle2, hJ2⟩ := hJ2
   replace hC := hC.mono (hle2)
   replace hq := hq.mono rI_mono hle2
   replace hb := hb.mono rBlock_mono hle2
   replace hA := hA.mono (hle2)
   refine NX_as (L' := [(4, _), (5, _)]) [4, 5] rfl ?_
   refine CW_seq ?_
   refine C_label ?_
   refine NX_as (L' := [(4, _), (5, _)]) [4, 5] rfl ?_
   refine CW_seq ?_
   refine CW_region ?_
   refine W_q (r_move rfl) rfl ?_
   refine W_q (r_assign rfl) rfl ?_
   refine W_nil ?_
   refine NX_as (L' := [(4, _), (5, _)]) [4, 5] rfl ?_
   refine C_ret (RX_jump (RX_q1 rfl rfl ?_))
   first
     | exact congrArg _ (uses_none hJ2).symm
     | exact congrArg _ «JA0».symm
 ·obtain ⟨hle1, hJ1⟩ := hJ1
  replace hC := hC.mono (hle1)
  replace hq := hq.mono rI_mono hle1
  replace hb := hb.mono rBlock_mono hle1
  replace hA := hA.mono (hle1)
  refine CW_seq (C_skip (NX_as (L' := [(5, _)]) [5] rfl ?_))
  refine CW_seq ?_
  refine CW_region ?_
  refine W_q (r_move rfl) rfl ?_
  refine W_q (r_assign rfl) rfl ?_
  refine W_nil ?_
  refine NX_as (L' := [(4, _)]) [4] rfl ?_
  refine C_ret (RX_jump (RX_q1 rfl rfl ?_))
  first
    | exact congrArg _ (uses_none hJ2).symm
    | exact congrArg _ hJ1.symm

end Go.Proofs.YtipmgkhjoekaaaaGreat

set_option linter.unusedVariables false
set_option linter.unusedSimpArgs false
namespace Go.Proofs.YtipmgkhjoekaaaaGreat
open Go Go.RowKit Go.Proofs Go.Proofs.YtipmgkhjoekaaaaGreat.Fw
attribute [local irreducible] Qt WL CW NX RX EX GX DL
namespace T
theorem ag164 : agg? Tryz.prog 164 = some true := by kernel_rfl
theorem fo139_2 : fld? Tryz.prog 139 2 = some (4, 2) := by kernel_rfl
theorem hb150 : hasBody Tryz.prog 150 = true := by kernel_rfl
theorem hb65 : hasBody Tryz.prog 65 = true := by kernel_rfl
end T
set_option maxHeartbeats 4000000 in
/-- (*check.checker).put -/
theorem put_d {m : Imm} {bc mb : Nat} {P0 P1 P2 P3 P4 P5 P6 : Value} {l : List (Int × Def)} (v : Int) (dd : Def) : Does Tryz.prog 159 [.pointer (some ⟨bc, 0, none⟩), .int .i64 v, defV dd] m ([bx bc 139 [P0, P1, P2, P3, P4, P5, P6, .map (some mb)], imap mb (valL defV l)]) (fun m' R' u => m' = m ∧ R' = [bx bc 139 [P0, P1, P2, P3, P4, P5, P6, .map (some mb)], imap mb (valL defV (putL l v dd))] ∧ u = .bool (!(getL l v).isSome)) := by
 refine does_of Tryz.func159 rfl Tryz.ntmps159 rfl (fun w => ?_)
 refine CW_seq ?_
 refine CW_region ?_
 refine S_box (l := [_, _, _, _]) rfl rfl rfl (fun b1 => ?_)
 refine W_q (r_assign rfl) rfl ?_
 refine W_nil ?_
 refine NX_as (L' := [(0, _), (1, _), (5, _), (6, _)]) [0, 1, 5, 6] rfl ?_
 refine CW_seq ?_
 refine CW_region ?_
 refine W_q (r_move rfl) rfl ?_
 refine W_q (r_nilCheck rfl) rfl ?_
 refine W_q (r_fieldb (o' := 7) rfl T.fo139_4 rfl) rfl ?_
 refine W_q (r_loadb 1 rfl T.ag137 rfl rfl) rfl ?_
 refine W_q (r_move rfl) rfl ?_
 refine W_q (r_lookup2 2 Tryz.underlying137 Tryz.underlying3 T.ze164 rfl rfl rfl (defs_get _ _) (defs_is _ _)) rfl ?_
 refine W_q (r_move rfl) rfl ?_
 refine W_q (r_extract rfl rfl) rfl ?_
 refine W_q (r_extract rfl rfl) rfl ?_
 refine S_alloc (l := [_, _, _, _]) T.ze164 rfl rfl (fun b2 => ?_)
 refine S_storeb 0 (l' := [_, _, _, _]) rfl rfl rfl T.sz164 rfl rfl rfl rfl ?_
 refine W_q (r_assign rfl) rfl ?_
 refine W_nil ?_
 refine NX_as (L' := [(0, _), (1, _), (5, _), (6, _), (8, _)]) [0, 1, 5, 6, 8] rfl ?_
 refine CW_seq ?_
 refine CW_front 3 rfl rfl ?_
 refine C_drawnk 1 [(0, true), (1, true), (2, true), (3, true), (4, true), (5, true), (6, false)] (by kernel_rfl) rfl (by kernel_rfl) (by kernel_rfl) ?_
 refine D_q rfl (r_move rfl) rfl ?_
 refine D_q rfl (r_nilCheck rfl) rfl ?_
 refine D_q rfl (r_fieldb (o' := 7) rfl T.fo139_4 rfl) rfl ?_
 refine D_q rfl (r_loadb 2 rfl T.ag137 rfl rfl) rfl ?_
 refine D_q rfl (r_move rfl) rfl ?_
 refine D_q rfl (r_loadbk 1 (vs := [_, _, _, _]) rfl T.ag164 T.sz164 rfl rfl rfl) rfl ?_
 refine D_f rfl (fun hs3 hc3 => ?_)
 refine S_mapUpdate 0 Tryz.underlying137 Tryz.underlying3 rfl rfl rfl rfl ?_
 refine W_leftw hs3 hc3 (Imm.le_refl _) (sub_drop 1 rfl) ?_
 refine D_end ?_
 refine NX_as (L' := [(6, _), (8, _)]) [6, 8] rfl ?_
 refine CW_seq ?_
 refine CW_region ?_
 refine W_q (r_move rfl) rfl ?_
 refine W_q (r_not rfl) rfl ?_
 refine W_q (r_assign rfl) rfl ?_
 refine W_nil ?_
 refine NX_as (L' := [(6, _)]) [6] rfl ?_
 refine C_ret (RX_front 3 rfl rfl ?_)
 exact RX_d1 rfl rfl (sub_two 0 0 rfl rfl) ⟨rfl, by show [_, imap mb (putA (valL defV l) v (defV dd))] = _; rw [putA_val], rfl⟩

set_option maxHeartbeats 40000000 in
/-- (*check.checker).shape -/
theorem shape_d {m : Imm} {bc : Nat} {A : Option Addr} {c : Nat} {B : Option Addr} {d : Nat} {f : FFun} {lev : Int} {X4 X5 X6 : Value} (hF : rFunc m [.slice A f.params.length c, .int .i64 f.ret, .slice B f.blocks.length d] f) (hb : Sl rBlock 5 m B d f.blocks) : Does Tryz.prog 116 [.pointer (some ⟨bc, 0, none⟩)] m ([bx bc 139 [.slice A f.params.length c, .int .i64 f.ret, .slice B f.blocks.length d, .int .i64 lev, X4, X5, X6, .map none]]) (fun m' R' v => v = .int .i64 (shapeP f) ∧ (shapeP f = 0 → ∃ g A1 A2 A3 c1 c2 c3, ofP f = some g ∧ R' = [bx bc 139 (CheckC f A B c d lev g A1 A2 A3 c1 c2 c3 (.map none))] ∧ Ints m' A3 c3 (treeP g 0))) := by
 have hbl := hb.len
 refine does_of Tryz.func116 rfl Tryz.ntmps116 rfl (fun w => ?_)
 refine CW_seq ?_
 refine CW_region ?_
 refine W_q (r_assign rfl) rfl ?_
 refine W_nil ?_
 refine NX_as (L' := [(0, _), (2, _)]) [0, 2] rfl ?_
 refine CW_seq ?_
 refine CW_region ?_
 refine W_q (r_move rfl) rfl ?_
 refine W_q (r_nilCheck rfl) rfl ?_
 refine W_q (r_fieldb (o' := 0) rfl T.fo139_0 rfl) rfl ?_
 refine W_q (r_loadbk 0 (vs := [_, _, _]) rfl T.ag25 T.sz25 rfl rfl rfl) rfl ?_
 refine S_gives (Of_g hF) T.hb65 rfl rfl (fun m1 v1 le1 hv1 => ?_)
 replace hF := rFunc_mono _ _ _ _ le1 hF
 replace hb := hb.mono rBlock_mono le1
 obtain ⟨_, rfl, A1, c1, B1, d1, rfl, h1, g1⟩ := hv1
 generalize hgq : graphQ (ofP f) = gq at *
 have hGr : rGraph _ [_, _] gq.1 := ⟨_, _, _, _, rfl, h1, g1⟩
 refine W_q (r_move rfl) rfl ?_
 refine W_q (r_extract rfl rfl) rfl ?_
 refine W_q (r_extract rfl rfl) rfl ?_
 refine S_alloc (l := [_, _]) T.ze79 rfl rfl (fun b2 => ?_)
 refine S_storeb 0 (l' := [_, _]) rfl rfl rfl T.sz79 rfl rfl rfl rfl ?_
 refine W_q (r_assign rfl) rfl ?_
 refine W_nil ?_
 refine NX_as (L' := [(0, _), (2, _), (3, _), (4, _)]) [0, 2, 3, 4] rfl ?_
 refine CW_seq ?_
 refine CW_seq ?_
 refine CW_region ?_
 refine W_q (r_move rfl) rfl ?_
 refine W_q (r_bin rfl rfl (bin_neq _ _ _ _)) rfl ?_
 refine W_nil ?_
 refine NX_as (L' := [(0, _), (2, _), (3, _), (18, _)]) [0, 2, 3, 18] rfl ?_
 refine CW_condk rfl (fun h3 => ?_) (fun h3 => ?_)
 ·(try simp only [tA, tB, tC, tD, tE, tF, tG, tH, tI, tJ, tK, tL] at h3)
  refine CW_seq ?_
  refine CW_region ?_
  refine W_q (r_assign rfl) rfl ?_
  refine W_nil ?_
  refine NX_as (L' := [(0, _), (2, _), (3, _)]) [0, 2, 3] rfl ?_
  have hcode := shapeP_none (graphQ_non hgq (by assumption))
  exact C_ret (RX_then (RX_d1 rfl rfl (List.nil_sublist _) ⟨by rw [hcode], fun h => by rw [hcode] at h; cases h⟩))
 ·(try simp only [tA, tB, tC, tD, tE, tF, tG, tH, tI, tJ, tK, tL] at h3)
  refine C_skip ?_
  refine NX_as (L' := [(0, _), (2, _), (3, _)]) [0, 2, 3] rfl ?_
  refine CW_seq ?_
  refine CW_front 1 rfl rfl ?_
  refine C_drawnk 1 [(0, true), (1, true), (2, true), (3, true), (4, false), (5, true), (6, true), (7, false), (8, true), (9, true), (10, false)] (by kernel_rfl) rfl (by kernel_rfl) (by kernel_rfl) ?_
  refine D_q rfl (r_move rfl) rfl ?_
  refine D_q rfl (r_move rfl) rfl ?_
  refine D_q rfl (r_loadbk 0 (vs := [_, _]) rfl T.ag79 T.sz79 rfl rfl rfl) rfl ?_
  refine D_q rfl (r_loadbk 0 (vs := [_, _]) rfl T.ag79 T.sz79 rfl rfl rfl) rfl ?_
  refine D_f rfl (fun hs4 hc4 => ?_)
  refine S_gives (Tree_g hGr _) T.hb150 rfl rfl (fun m5 v5 le5 hv5 => ?_)
  replace hF := rFunc_mono _ _ _ _ le5 hF
  replace hb := hb.mono rBlock_mono le5
  replace h1 := h1.mono (rS_mono rI_mono) le5
  replace g1 := g1.mono (rS_mono rI_mono) le5
  replace hGr := rGraph_mono _ _ _ _ le5 hGr
  obtain ⟨A5, c5, l5, rfl, h5, ht5, hn5⟩ := hv5
  refine W_leftw hs4 hc4 (le5) (sub_drop 1 rfl) ?_
  refine D_q rfl (r_nilCheck rfl) rfl ?_
  refine D_q rfl (r_fieldb (o' := 4) rfl T.fo139_2 rfl) rfl ?_
  refine D_f rfl (fun hs6 hc6 => ?_)
  refine S_storeb 0 (l' := [_, _, _, _, _, _, _, _]) rfl rfl rfl T.sz79 rfl rfl rfl rfl ?_
  refine W_leftw hs6 hc6 (le5) (sub_drop 1 rfl) ?_
  refine D_q rfl (r_nilCheck rfl) rfl ?_
  refine D_q rfl (r_fieldb (o' := 6) rfl T.fo139_3 rfl) rfl ?_
  refine D_f rfl (fun hs7 hc7 => ?_)
  refine S_storeb 0 (l' := [_, _, _, _, _, _, _, _]) rfl rfl rfl T.sz22 rfl rfl rfl rfl ?_
  refine W_leftw hs7 hc7 (le5) (sub_drop 1 rfl) ?_
  refine D_end ?_
  refine NX_as (L' := [(0, _), (2, _), (3, _)]) [0, 2, 3] rfl ?_
  refine CW_seq ?_
  refine CW_seq ?_
  refine CW_region ?_
  have hg := graphQ_zero hgq (by assumption)
  obtain ⟨hmg, hsu, hsl, hn1, hn2⟩ := ofP_some hg
  have htr := (ht5 ⟨hmg, by omega, by omega⟩).2
  subst htr
  have hpl : gq.1.pred.length = f.blocks.length := by rw [(mayG_ok hmg).pred, predsP_length, hsl]
  refine W_q (r_move rfl) rfl ?_
  refine W_q (r_nilCheck rfl) rfl ?_
  refine W_q (r_fieldb (o' := 0) rfl T.fo139_0 rfl) rfl ?_
  refine W_q (r_fieldb (o' := 2) rfl T.fo25_2 rfl) rfl ?_
  refine W_q (r_loadb 0 rfl T.ag23 rfl rfl) rfl ?_
  refine W_q (r_len Tryz.underlying23 rfl) rfl ?_
  refine W_q (r_move rfl) rfl ?_
  refine W_nil ?_
  refine NX_as (L' := [(0, _), (2, _), (3, _), (32, _), (33, _), (34, _)]) [0, 2, 3, 32, 33, 34] rfl ?_
  refine C_range (Unit) (f.blocks.length) (fun k8 x8 => ∀ (j : Nat) b, j < k8 → f.blocks[j]? = some b → okShape gq.1 (treeP gq.1 0) j b = true) (fun k8 x8 => []) (fun _ _ => []) [] [0, 3, 32] (F := [(0, _), (3, _), (32, _)]) (()) rfl rfl (by omega) (fun j b h => by omega) rfl rfl rfl rfl rfl rfl rfl (fun _ _ => rfl) (fun _ _ => rfl) (fun k8 x8 hk8 hJ8 => ?_) (fun x8 hJ8 => ?_)
  ·obtain ⟨pr, hpr⟩ : ∃ pr, gq.1.pred[k8]? = some pr := ⟨_, List.getElem?_eq_getElem (by omega)⟩
   refine CW_as (L' := [(0, _), (3, _), (32, _), (33, _), (34, _)]) [0, 3, 32, 33, 34] rfl ?_
   refine CW_seq ?_
   refine CW_region ?_
   refine W_q (r_move rfl) rfl ?_
   obtain ⟨ad9, hA9⟩ := hb.ad (j := k8) (by omega)
   obtain ⟨z9, hz9⟩ := hb.getz (j := k8) (by omega)
   refine W_q (r_index hA9 Tryz.underlying23 T.sz44 rfl rfl ⟨by omega, by omega⟩) rfl ?_
   obtain ⟨es10, f10, _, l10⟩ := Sl.get hb hA9 hz9
   have F10 := f10
   obtain ⟨A10, c10, B10, d10, C10, e10, rfl, hp10, ho10, ht10, i10a, i10b⟩ := f10
   refine W_q (r_load_immk (vs := [_, _, _, _, _]) rfl T.ag44 T.sz44 l10) rfl ?_
   refine S_alloc (l := [_, _, _, _, _]) T.ze44 rfl rfl (fun b11 => ?_)
   refine W_q (r_assign rfl) rfl ?_
   refine S_storeb 0 (l' := [_, _, _, _, _]) rfl rfl rfl T.sz44 rfl rfl rfl rfl ?_
   refine W_nil ?_
   refine NX_as (L' := [(0, _), (3, _), (5, _), (6, _), (32, _), (33, _), (34, _)]) [0, 3, 5, 6, 32, 33, 34] rfl ?_
   refine CW_seq ?_
   refine CW_seq ?_
   refine CW_region ?_
   refine W_q (r_move rfl) rfl ?_
   refine W_q (r_nilCheck rfl) rfl ?_
   refine W_q (r_fieldb (o' := 6) rfl T.fo139_3 rfl) rfl ?_
   refine W_q (r_loadb 1 rfl T.ag22 rfl rfl) rfl ?_
   refine W_q (r_move rfl) rfl ?_
   refine W_q (r_move rfl) rfl ?_
   refine W_quiet (Over_q h5 _ _ ⟨by omega, by omega⟩ ⟨by omega, by omega⟩) T.hb151 rfl rfl ?_
   refine W_q (r_not rfl) rfl ?_
   refine W_nil ?_
   refine NX_as (L' := [(0, _), (3, _), (5, _), (6, _), (32, _), (33, _), (34, _), (46, _)]) [0, 3, 5, 6, 32, 33, 34, 46] rfl ?_
   refine CW_condk rfl (fun h12 => ?_) (fun h12 => ?_)
   ·(try simp only [tA, tB, tC, tD, tE, tF, tG, tH, tI, tJ, tK, tL] at h12)
    refine CW_seq ?_
    refine CW_region ?_
    refine W_q (r_assign rfl) rfl ?_
    refine W_nil ?_
    refine NX_as (L' := [(0, _), (2, _), (3, _), (5, _), (6, _), (32, _), (33, _), (34, _)]) [0, 2, 3, 5, 6, 32, 33, 34] rfl ?_
    have hcode : shapeP f = 5 := by
      first
        | exact shapeP_bad hg hz9 (okShape_f1 (by assumption))
        | exact shapeP_bad hg hz9 (okShape_f2 (by assumption) (by assumption) (okPhi_f1 (by omega)))
        | exact shapeP_bad hg hz9 (okShape_f2 (by assumption) (by assumption) (okPhi_f2 (by assumption)))
        | exact shapeP_bad hg hz9 (okShape_f2 (by assumption) (by assumption) (okPhi_f3 (by omega)))
        | exact shapeP_bad hg hz9 (okShape_f3 (by omega) (by omega))
    exact C_ret (RX_then (RX_block (RX_then (RX_block (RX_then (RX_d1 rfl rfl (List.nil_sublist _) ⟨by rw [hcode], fun h => by rw [hcode] at h; cases h⟩))))))
   ·(try simp only [tA, tB, tC, tD, tE, tF, tG, tH, tI, tJ, tK, tL] at h12)
    refine C_skip ?_
    refine NX_as (L' := [(0, _), (3, _), (5, _), (6, _), (32, _), (33, _), (34, _)]) [0, 3, 5, 6, 32, 33, 34] rfl ?_
    refine CW_seq ?_
    refine CW_seq ?_
    refine CW_region ?_
    refine W_q (r_fieldb (o' := 0) rfl T.fo44_0 rfl) rfl ?_
    refine W_q (r_loadb 0 rfl T.ag39 rfl rfl) rfl ?_
    refine W_q (r_len Tryz.underlying39 rfl) rfl ?_
    refine W_q (r_move rfl) rfl ?_
    refine W_nil ?_
    refine NX_as (L' := [(0, _), (3, _), (5, _), (6, _), (32, _), (33, _), (34, _), (48, _), (49, _), (50, _)]) [0, 3, 5, 6, 32, 33, 34, 48, 49, 50] rfl ?_
    refine C_range (Unit) (z9.phis.length) (fun k13 x13 => ∀ (j : Nat) p, j < k13 → z9.phis[j]? = some p → okPhi pr p = true) (fun k13 x13 => []) (fun _ _ => []) [] [0, 3, 5, 6, 32, 33, 34, 48] (F := [(0, _), (3, _), (5, _), (6, _), (32, _), (33, _), (34, _), (48, _)]) (()) rfl rfl (by have := hp10.len; omega) (fun j p h => by omega) rfl rfl rfl rfl rfl rfl rfl (fun _ _ => rfl) (fun _ _ => rfl) (fun k13 x13 hk13 hJ13 => ?_) (fun x13 hJ13 => ?_)
    ·refine CW_as (L' := [(0, _), (3, _), (5, _), (6, _), (32, _), (33, _), (34, _), (48, _), (49, _), (50, _)]) [0, 3, 5, 6, 32, 33, 34, 48, 49, 50] rfl ?_
     refine CW_seq ?_
     refine CW_region ?_
     obtain ⟨ad14, hA14⟩ := hp10.ad (j := k13) (by omega)
     obtain ⟨z14, hz14⟩ := hp10.getz (j := k13) (by omega)
     refine W_q (r_index hA14 Tryz.underlying39 T.sz61 rfl rfl ⟨by omega, by omega⟩) rfl ?_
     obtain ⟨es15, f15, _, l15⟩ := Sl.get hp10 hA14 hz14
     have F15 := f15
     obtain ⟨A15, c15, B15, d15, rfl, h15, g15, i15a, i15b⟩ := f15
     refine W_q (r_load_immk (vs := [_, _, _, _]) rfl T.ag61 T.sz61 l15) rfl ?_
     refine S_alloc (l := [_, _, _, _]) T.ze61 rfl rfl (fun b16 => ?_)
     refine S_storeb 0 (l' := [_, _, _, _]) rfl rfl rfl T.sz61 rfl rfl rfl rfl ?_
     refine W_nil ?_
     refine NX_as (L' := [(0, _), (3, _), (5, _), (6, _), (8, _), (32, _), (33, _), (34, _), (48, _), (49, _), (50, _)]) [0, 3, 5, 6, 8, 32, 33, 34, 48, 49, 50] rfl ?_
     refine CW_seq ?_
     refine C_drawn [(0, true), (1, true), (2, true), (3, true), (4, true), (5, true), (6, true), (7, true), (8, true), (9, true), (10, true), (11, true), (12, true), (13, true), (14, true), (15, true), (16, true), (17, true), (18, true), (19, true), (20, true), (21, true), (22, true), (23, true)] (by kernel_rfl) rfl (by kernel_rfl) (by kernel_rfl) ?_
     refine D_q rfl (r_fieldb (o' := 2) rfl T.fo61_2 rfl) rfl ?_
     refine D_q rfl (r_loadb 0 rfl T.ag22 rfl rfl) rfl ?_
     refine D_q rfl (r_len Tryz.underlying22 rfl) rfl ?_
     refine D_q rfl (r_bin rfl rfl (bin_eql _ _ _ _)) rfl ?_
     refine D_q rfl (r_move rfl) rfl ?_
     refine D_split (t := 58) rfl (fun h17 => ?_) (fun h17 => ?_)
     ·(try simp only [tA, tB, tC, tD, tE, tF, tG, tH, tI, tJ, tK, tL] at h17)
      refine D_pass rfl rfl rfl rfl rfl ?_
      refine D_pass rfl rfl rfl rfl rfl ?_
      refine D_pass rfl rfl rfl rfl rfl ?_
      refine D_pass rfl rfl rfl rfl rfl ?_
      refine D_pass rfl rfl rfl rfl rfl ?_
      refine D_pass rfl rfl rfl rfl rfl ?_
      refine D_pass rfl rfl rfl rfl rfl ?_
      refine D_pass rfl rfl rfl rfl rfl ?_
      refine D_pass rfl rfl rfl rfl rfl ?_
      refine D_q rfl (r_pick_t rfl rfl) rfl ?_
      refine D_q rfl (r_move rfl) rfl ?_
      refine D_pass rfl rfl rfl rfl rfl ?_
      refine D_pass rfl rfl rfl rfl rfl ?_
      refine D_pass rfl rfl rfl rfl rfl ?_
      refine D_pass rfl rfl rfl rfl rfl ?_
      refine D_pass rfl rfl rfl rfl rfl ?_
      refine D_pass rfl rfl rfl rfl rfl ?_
      refine D_pass rfl rfl rfl rfl rfl ?_
      refine D_q rfl (r_pick_t rfl rfl) rfl ?_
      refine D_end ?_
      refine NX_as (L' := [(0, _), (3, _), (5, _), (6, _), (32, _), (33, _), (34, _), (48, _), (49, _), (50, _), (77, _)]) [0, 3, 5, 6, 32, 33, 34, 48, 49, 50, 77] rfl ?_
      refine CW_cond_t rfl ?_
      refine CW_seq ?_
      refine CW_region ?_
      refine W_q (r_assign rfl) rfl ?_
      refine W_nil ?_
      refine NX_as (L' := [(0, _), (2, _), (3, _), (5, _), (6, _), (32, _), (33, _), (34, _), (48, _), (49, _), (50, _)]) [0, 2, 3, 5, 6, 32, 33, 34, 48, 49, 50] rfl ?_
      have hcode : shapeP f = 5 := by
        first
          | exact shapeP_bad hg hz9 (okShape_f1 (by assumption))
          | exact shapeP_bad hg hz9 (okShape_f2 (by assumption) (by assumption) (okPhi_f1 (by omega)))
          | exact shapeP_bad hg hz9 (okShape_f2 (by assumption) (by assumption) (okPhi_f2 (by assumption)))
          | exact shapeP_bad hg hz9 (okShape_f2 (by assumption) (by assumption) (okPhi_f3 (by omega)))
          | exact shapeP_bad hg hz9 (okShape_f3 (by omega) (by omega))
      exact C_ret (RX_block (RX_then (RX_block (RX_then (RX_block (RX_then (RX_block (RX_then (RX_d1 rfl rfl (List.nil_sublist _) ⟨by rw [hcode], fun h => by rw [hcode] at h; cases h⟩)))))))))
     ·(try simp only [tA, tB, tC, tD, tE, tF, tG, tH, tI, tJ, tK, tL] at h17)
      refine D_qt rfl rfl rfl (r_fieldb (o' := 2) rfl T.fo61_2 rfl) rfl ?_
      refine D_qt rfl rfl rfl (r_loadb 0 rfl T.ag22 rfl rfl) rfl ?_
      refine D_qt rfl rfl rfl (r_fieldb (o' := 1) rfl T.fo79_1 rfl) rfl ?_
      refine D_qt rfl rfl rfl (r_loadb 3 rfl T.ag65 rfl rfl) rfl ?_
      refine D_qt rfl rfl rfl (r_move rfl) rfl ?_
      obtain ⟨ad18, hA18⟩ := g1.ad (j := k8) (by omega)
      obtain ⟨z18, hz18⟩ := g1.getz (j := k8) (by omega)
      refine D_qt rfl rfl rfl (r_index hA18 Tryz.underlying65 T.sz22 rfl rfl ⟨by omega, by omega⟩) rfl ?_
      obtain ⟨A19, c19, l19, h19⟩ := Sl.getS g1 hA18 hz18
      refine D_qt rfl rfl rfl (r_load_imm rfl T.ag22 l19) rfl ?_
      refine D_quiett rfl rfl rfl (EqualI_q h15 h19) T.hb139 rfl rfl ?_
      refine D_qt rfl rfl rfl (r_not rfl) rfl ?_
      refine D_q rfl (r_pick_f rfl rfl) rfl ?_
      refine D_q rfl (r_move rfl) rfl ?_
      refine D_split (t := 69) rfl (fun h20 => ?_) (fun h20 => ?_)
      ·(try simp only [tA, tB, tC, tD, tE, tF, tG, tH, tI, tJ, tK, tL] at h20)
       refine D_pass rfl rfl rfl rfl rfl ?_
       refine D_pass rfl rfl rfl rfl rfl ?_
       refine D_pass rfl rfl rfl rfl rfl ?_
       refine D_pass rfl rfl rfl rfl rfl ?_
       refine D_pass rfl rfl rfl rfl rfl ?_
       refine D_pass rfl rfl rfl rfl rfl ?_
       refine D_pass rfl rfl rfl rfl rfl ?_
       refine D_q rfl (r_pick_t rfl rfl) rfl ?_
       refine D_end ?_
       refine NX_as (L' := [(0, _), (3, _), (5, _), (6, _), (32, _), (33, _), (34, _), (48, _), (49, _), (50, _), (77, _)]) [0, 3, 5, 6, 32, 33, 34, 48, 49, 50, 77] rfl ?_
       refine CW_cond_t rfl ?_
       refine CW_seq ?_
       refine CW_region ?_
       refine W_q (r_assign rfl) rfl ?_
       refine W_nil ?_
       refine NX_as (L' := [(0, _), (2, _), (3, _), (5, _), (6, _), (32, _), (33, _), (34, _), (48, _), (49, _), (50, _)]) [0, 2, 3, 5, 6, 32, 33, 34, 48, 49, 50] rfl ?_
       have hcode : shapeP f = 5 := by
         first
           | exact shapeP_bad hg hz9 (okShape_f1 (by assumption))
           | exact shapeP_bad hg hz9 (okShape_f2 (by assumption) (by assumption) (okPhi_f1 (by omega)))
           | exact shapeP_bad hg hz9 (okShape_f2 (by assumption) (by assumption) (okPhi_f2 (by assumption)))
           | exact shapeP_bad hg hz9 (okShape_f2 (by assumption) (by assumption) (okPhi_f3 (by omega)))
           | exact shapeP_bad hg hz9 (okShape_f3 (by omega) (by omega))
       exact C_ret (RX_block (RX_then (RX_block (RX_then (RX_block (RX_then (RX_block (RX_then (RX_d1 rfl rfl (List.nil_sublist _) ⟨by rw [hcode], fun h => by rw [hcode] at h; cases h⟩)))))))))
      ·(try simp only [tA, tB, tC, tD, tE, tF, tG, tH, tI, tJ, tK, tL] at h20)
       refine D_qt rfl rfl rfl (r_fieldb (o' := 3) rfl T.fo61_3 rfl) rfl ?_
       refine D_qt rfl rfl rfl (r_loadb 0 rfl T.ag22 rfl rfl) rfl ?_
       refine D_qt rfl rfl rfl (r_len Tryz.underlying22 rfl) rfl ?_
       refine D_qt rfl rfl rfl (r_fieldb (o' := 2) rfl T.fo61_2 rfl) rfl ?_
       refine D_qt rfl rfl rfl (r_loadb 0 rfl T.ag22 rfl rfl) rfl ?_
       refine D_qt rfl rfl rfl (r_len Tryz.underlying22 rfl) rfl ?_
       refine D_qt rfl rfl rfl (r_bin rfl rfl (bin_neq _ _ _ _)) rfl ?_
       refine D_q rfl (r_pick_f rfl rfl) rfl ?_
       refine D_end ?_
       refine NX_as (L' := [(0, _), (3, _), (5, _), (6, _), (32, _), (33, _), (34, _), (48, _), (49, _), (50, _), (77, _)]) [0, 3, 5, 6, 32, 33, 34, 48, 49, 50, 77] rfl ?_
       refine CW_condk rfl (fun h21 => ?_) (fun h21 => ?_)
       ·(try simp only [tA, tB, tC, tD, tE, tF, tG, tH, tI, tJ, tK, tL] at h21)
        refine CW_seq ?_
        refine CW_region ?_
        refine W_q (r_assign rfl) rfl ?_
        refine W_nil ?_
        refine NX_as (L' := [(0, _), (2, _), (3, _), (5, _), (6, _), (32, _), (33, _), (34, _), (48, _), (49, _), (50, _)]) [0, 2, 3, 5, 6, 32, 33, 34, 48, 49, 50] rfl ?_
        have hcode : shapeP f = 5 := by
          first
            | exact shapeP_bad hg hz9 (okShape_f1 (by assumption))
            | exact shapeP_bad hg hz9 (okShape_f2 (by assumption) (by assumption) (okPhi_f1 (by omega)))
            | exact shapeP_bad hg hz9 (okShape_f2 (by assumption) (by assumption) (okPhi_f2 (by assumption)))
            | exact shapeP_bad hg hz9 (okShape_f2 (by assumption) (by assumption) (okPhi_f3 (by omega)))
            | exact shapeP_bad hg hz9 (okShape_f3 (by omega) (by omega))
        exact C_ret (RX_block (RX_then (RX_block (RX_then (RX_block (RX_then (RX_block (RX_then (RX_d1 rfl rfl (List.nil_sublist _) ⟨by rw [hcode], fun h => by rw [hcode] at h; cases h⟩)))))))))
       ·(try simp only [tA, tB, tC, tD, tE, tF, tG, tH, tI, tJ, tK, tL] at h21)
        refine C_skip ?_
        refine NX_block (?_)
        refine NX_rng [0, 3, 5, 6, 32, 33, 34, 48] (()) ?_ rfl (sub_drop 1 rfl) rfl (Imm.le_refl _)
        intro j p h1 h2
        by_cases e : j = k13
        · subst e; rw [hz14] at h2; cases h2; refine okPhi_t (by omega) ?_ (by omega); rw [hpr] at hz18; cases hz18; assumption
        · exact hJ13 j p (by omega) h2
    ·refine NX_as (L' := [(0, _), (3, _), (6, _), (32, _), (33, _), (34, _)]) [0, 3, 6, 32, 33, 34] rfl ?_
     refine CW_seq ?_
     refine CW_region ?_
     refine W_q (r_fieldb (o' := 2) rfl T.fo44_2 rfl) rfl ?_
     refine W_q (r_fieldb (o' := 2) rfl T.fo42_0 rfl) rfl ?_
     refine W_q (r_loadb 0 rfl T.ag3 rfl rfl) rfl ?_
     refine W_q (r_bin rfl rfl (bin_eql _ _ _ _)) rfl ?_
     refine W_q (r_move rfl) rfl ?_
     refine WL_split (t := 83) rfl (fun h22 => ?_) (fun h22 => ?_)
     ·(try simp only [tA, tB, tC, tD, tE, tF, tG, tH, tI, tJ, tK, tL] at h22)
      refine WL_pass rfl rfl rfl rfl ?_
      refine WL_pass rfl rfl rfl rfl ?_
      refine WL_pass rfl rfl rfl rfl ?_
      refine WL_pass rfl rfl rfl rfl ?_
      refine W_q (r_pick_t rfl rfl) rfl ?_
      refine W_q (r_move rfl) rfl ?_
      refine WL_take rfl rfl ?_
      refine W_q (r_fieldb (o' := 2) rfl T.fo44_2 rfl) rfl ?_
      refine WL_take rfl rfl ?_
      refine W_q (r_fieldb (o' := 3) rfl T.fo42_1 rfl) rfl ?_
      refine WL_take rfl rfl ?_
      refine W_q (r_loadb 0 rfl T.ag3 rfl rfl) rfl ?_
      refine WL_take rfl rfl ?_
      refine W_q (r_bin rfl rfl (bin_neq _ _ _ _)) rfl ?_
      refine W_q (r_pick_t rfl rfl) rfl ?_
      refine W_nil ?_
      refine NX_as (L' := [(0, _), (3, _), (32, _), (33, _), (34, _), (94, _)]) [0, 3, 32, 33, 34, 94] rfl ?_
      refine CW_condk rfl (fun h23 => ?_) (fun h23 => ?_)
      ·(try simp only [tA, tB, tC, tD, tE, tF, tG, tH, tI, tJ, tK, tL] at h23)
       refine CW_seq ?_
       refine CW_region ?_
       refine W_q (r_assign rfl) rfl ?_
       refine W_nil ?_
       refine NX_as (L' := [(0, _), (2, _), (3, _), (32, _), (33, _), (34, _)]) [0, 2, 3, 32, 33, 34] rfl ?_
       have hcode : shapeP f = 5 := by
         first
           | exact shapeP_bad hg hz9 (okShape_f1 (by assumption))
           | exact shapeP_bad hg hz9 (okShape_f2 (by assumption) (by assumption) (okPhi_f1 (by omega)))
           | exact shapeP_bad hg hz9 (okShape_f2 (by assumption) (by assumption) (okPhi_f2 (by assumption)))
           | exact shapeP_bad hg hz9 (okShape_f2 (by assumption) (by assumption) (okPhi_f3 (by omega)))
           | exact shapeP_bad hg hz9 (okShape_f3 (by omega) (by omega))
       exact C_ret (RX_block (RX_then (RX_block (RX_then (RX_d1 rfl rfl (List.nil_sublist _) ⟨by rw [hcode], fun h => by rw [hcode] at h; cases h⟩)))))
      ·(try simp only [tA, tB, tC, tD, tE, tF, tG, tH, tI, tJ, tK, tL] at h23)
       refine C_skip ?_
       refine NX_block (?_)
       refine NX_rng [0, 3, 32] (()) ?_ rfl (sub_drop 1 rfl) rfl (Imm.le_refl _)
       intro j b h1 h2
       by_cases e : j = k8
       · subst e; rw [hz9] at h2; cases h2; exact okShape_t hpr (by assumption) hJ13 (by omega)
       · exact hJ8 j b (by omega) h2
     ·(try simp only [tA, tB, tC, tD, tE, tF, tG, tH, tI, tJ, tK, tL] at h22)
      refine WL_take rfl rfl ?_
      refine W_q (r_fieldb (o' := 2) rfl T.fo44_2 rfl) rfl ?_
      refine WL_take rfl rfl ?_
      refine W_q (r_fieldb (o' := 2) rfl T.fo42_0 rfl) rfl ?_
      refine WL_take rfl rfl ?_
      refine W_q (r_loadb 0 rfl T.ag3 rfl rfl) rfl ?_
      refine WL_take rfl rfl ?_
      refine W_q (r_bin rfl rfl (bin_eql _ _ _ _)) rfl ?_
      refine W_q (r_pick_f rfl rfl) rfl ?_
      refine W_q (r_move rfl) rfl ?_
      refine WL_split (t := 89) rfl (fun h24 => ?_) (fun h24 => ?_)
      ·(try simp only [tA, tB, tC, tD, tE, tF, tG, tH, tI, tJ, tK, tL] at h24)
       refine WL_take rfl rfl ?_
       refine W_q (r_fieldb (o' := 2) rfl T.fo44_2 rfl) rfl ?_
       refine WL_take rfl rfl ?_
       refine W_q (r_fieldb (o' := 3) rfl T.fo42_1 rfl) rfl ?_
       refine WL_take rfl rfl ?_
       refine W_q (r_loadb 0 rfl T.ag3 rfl rfl) rfl ?_
       refine WL_take rfl rfl ?_
       refine W_q (r_bin rfl rfl (bin_neq _ _ _ _)) rfl ?_
       refine W_q (r_pick_t rfl rfl) rfl ?_
       refine W_nil ?_
       refine NX_as (L' := [(0, _), (3, _), (32, _), (33, _), (34, _), (94, _)]) [0, 3, 32, 33, 34, 94] rfl ?_
       refine CW_condk rfl (fun h25 => ?_) (fun h25 => ?_)
       ·(try simp only [tA, tB, tC, tD, tE, tF, tG, tH, tI, tJ, tK, tL] at h25)
        refine CW_seq ?_
        refine CW_region ?_
        refine W_q (r_assign rfl) rfl ?_
        refine W_nil ?_
        refine NX_as (L' := [(0, _), (2, _), (3, _), (32, _), (33, _), (34, _)]) [0, 2, 3, 32, 33, 34] rfl ?_
        have hcode : shapeP f = 5 := by
          first
            | exact shapeP_bad hg hz9 (okShape_f1 (by assumption))
            | exact shapeP_bad hg hz9 (okShape_f2 (by assumption) (by assumption) (okPhi_f1 (by omega)))
            | exact shapeP_bad hg hz9 (okShape_f2 (by assumption) (by assumption) (okPhi_f2 (by assumption)))
            | exact shapeP_bad hg hz9 (okShape_f2 (by assumption) (by assumption) (okPhi_f3 (by omega)))
            | exact shapeP_bad hg hz9 (okShape_f3 (by omega) (by omega))
        exact C_ret (RX_block (RX_then (RX_block (RX_then (RX_d1 rfl rfl (List.nil_sublist _) ⟨by rw [hcode], fun h => by rw [hcode] at h; cases h⟩)))))
       ·(try simp only [tA, tB, tC, tD, tE, tF, tG, tH, tI, tJ, tK, tL] at h25)
        refine C_skip ?_
        refine NX_block (?_)
        refine NX_rng [0, 3, 32] (()) ?_ rfl (sub_drop 1 rfl) rfl (Imm.le_refl _)
        intro j b h1 h2
        by_cases e : j = k8
        · subst e; rw [hz9] at h2; cases h2; exact okShape_t hpr (by assumption) hJ13 (by omega)
        · exact hJ8 j b (by omega) h2
      ·(try simp only [tA, tB, tC, tD, tE, tF, tG, tH, tI, tJ, tK, tL] at h24)
       refine WL_pass rfl rfl rfl rfl ?_
       refine WL_pass rfl rfl rfl rfl ?_
       refine WL_pass rfl rfl rfl rfl ?_
       refine WL_pass rfl rfl rfl rfl ?_
       refine W_q (r_pick_f rfl rfl) rfl ?_
       refine W_nil ?_
       refine NX_as (L' := [(0, _), (3, _), (32, _), (33, _), (34, _), (94, _)]) [0, 3, 32, 33, 34, 94] rfl ?_
       refine CW_cond_f rfl ?_
       refine C_skip ?_
       refine NX_block (?_)
       refine NX_rng [0, 3, 32] (()) ?_ rfl (sub_drop 1 rfl) rfl (Imm.le_refl _)
       intro j b h1 h2
       by_cases e : j = k8
       · subst e; rw [hz9] at h2; cases h2; exact okShape_t hpr (by assumption) hJ13 (by omega)
       · exact hJ8 j b (by omega) h2
  ·refine NX_as (L' := []) [] rfl ?_
   refine CW_seq ?_
   refine CW_region ?_
   refine W_q (r_assign rfl) rfl ?_
   refine W_nil ?_
   refine NX_as (L' := [(2, _)]) [2] rfl ?_
   have hcode := shapeP_ok hg (fun i b hi => hJ8 i b (List.getElem?_eq_some_iff.1 hi).1 hi)
   exact C_ret (RX_d1 rfl rfl (sub_one 0 rfl) ⟨by rw [hcode], fun _ => ⟨gq.1, _, _, _, _, _, _, hg, rfl, h5⟩⟩)

end Go.Proofs.YtipmgkhjoekaaaaGreat

set_option linter.unusedVariables false
set_option linter.unusedSimpArgs false
namespace Go.Proofs.YtipmgkhjoekaaaaGreat
open Go Go.RowKit Go.Proofs Go.Proofs.YtipmgkhjoekaaaaGreat.Fw
attribute [local irreducible] Qt WL CW NX RX EX GX DL
namespace T
theorem bl164 : bls? Tryz.prog 164 = some ([(0, 1), (1, 1), (2, 2)], ([(.int .i64 0), (.int .i64 0), (.int .i64 0), (.int .i64 0)] : List Value)) := by kernel_rfl
theorem hb159 : hasBody Tryz.prog 159 = true := by kernel_rfl
theorem hb161 : hasBody Tryz.prog 161 = true := by kernel_rfl
theorem hb162 : hasBody Tryz.prog 162 = true := by kernel_rfl
theorem hb163 : hasBody Tryz.prog 163 = true := by kernel_rfl
theorem sz137 : sz? Tryz.prog 137 = some 1 := by kernel_rfl
end T
theorem askD_ok {m : Imm} {bc mb : Nat} {A : Option Addr} {c : Nat} {B : Option Addr} {d : Nat} {f : FFun} {lev : Int} {X4 X5 : Value} {At : Option Addr} {ct : Nat} {t : List Int} (hC : Lies m bc [.slice A f.params.length c, .int .i64 f.ret, .slice B f.blocks.length d, .int .i64 lev, X4, X5, .slice At t.length ct, .map (some mb)]) (ht : Ints m At ct t) (hM : MapIn m mb (valL defV (defsL f))) {b1 : Nat} (hp : m.cell? ⟨b1, 0, none⟩ = some (.pointer (some ⟨bc, 0, none⟩))) : AskQ Tryz.prog 163 #[.pointer (some ⟨b1, 0, none⟩)] (askD f) m := fun m' le v s1 s2 b a hb => defined1_q (hC.mono le) (ht.mono rI_mono le) (hM.mono le) (le.cell hp) v s1 s2 b a hb
theorem askS_ok {m : Imm} {bc mb : Nat} {A : Option Addr} {c : Nat} {B : Option Addr} {d : Nat} {f : FFun} {lev : Int} {X4 X5 : Value} {At : Option Addr} {ct : Nat} {t : List Int} (hC : Lies m bc [.slice A f.params.length c, .int .i64 f.ret, .slice B f.blocks.length d, .int .i64 lev, X4, X5, .slice At t.length ct, .map (some mb)]) (ht : Ints m At ct t) (hM : MapIn m mb (valL defV (defsL f))) {b1 : Nat} (hp : m.cell? ⟨b1, 0, none⟩ = some (.pointer (some ⟨bc, 0, none⟩))) : AskQ Tryz.prog 164 #[.pointer (some ⟨b1, 0, none⟩)] (askS f) m := fun m' le v s1 s2 b a hb => shapes1_q (hC.mono le) (ht.mono rI_mono le) (hM.mono le) (le.cell hp) v s1 s2 b a hb
theorem askP_ok {m : Imm} {bc mb : Nat} {A : Option Addr} {c : Nat} {B : Option Addr} {d : Nat} {f : FFun} {lev : Int} {X4 X5 : Value} {At : Option Addr} {ct : Nat} {t : List Int} (hC : Lies m bc [.slice A f.params.length c, .int .i64 f.ret, .slice B f.blocks.length d, .int .i64 lev, X4, X5, .slice At t.length ct, .map (some mb)]) (ht : Ints m At ct t) (hM : MapIn m mb (valL defV (defsL f))) (hbl : f.blocks.length ≤ 140737488355328) {b1 : Nat} (hp : m.cell? ⟨b1, 0, none⟩ = some (.pointer (some ⟨bc, 0, none⟩))) : AskQ Tryz.prog 165 #[.pointer (some ⟨b1, 0, none⟩)] (askP f t) m := fun m' le v s1 s2 b a hb => places1_q (hC.mono le) (ht.mono rI_mono le) (hM.mono le) (defs_i64 hbl) (le.cell hp) v s1 s2 b a hb
theorem okDst_t {p : FPhi} (h : 1 ≤ p.dst ∧ p.dst ≤ 1023) : okDst p = true := by simp [okDst, h]
theorem okDst_f {p : FPhi} (h : p.dst < 1 ∨ 1023 < p.dst) : okDst p = false := by
  rw [okDst, Bool.and_eq_false_iff, decide_eq_false_iff_not, decide_eq_false_iff_not]; omega
set_option maxHeartbeats 80000000 in
/-- (*check.checker).defined -/
theorem defined_d {m : Imm} {bc : Nat} {A : Option Addr} {c : Nat} {B : Option Addr} {d : Nat} {f : FFun} {lev : Int} {g : FGraph} {A1 A2 A3 : Option Addr} {c1 c2 c3 : Nat} (hq : Ints m A c f.params) (hb : Sl rBlock 5 m B d f.blocks) (ht : Ints m A3 c3 (treeP g 0)) (hphi : ∀ b ∈ f.blocks, ∀ p ∈ b.phis, p.args.length ≤ p.fr.length) : Does Tryz.prog 118 [.pointer (some ⟨bc, 0, none⟩)] m ([bx bc 139 (CheckC f A B c d lev g A1 A2 A3 c1 c2 c3 (.map none))]) (fun m' R' v => v = .int .i64 (definedP f) ∧ (definedP f = 0 → ∃ mb, R' = [bx bc 139 (CheckC f A B c d lev g A1 A2 A3 c1 c2 c3 (.map (some mb))), imap mb (valL defV (defsL f))])) := by
 have hbl := hb.len
 have hql := hq.len
 refine does_of Tryz.func118 rfl Tryz.ntmps118 rfl (fun w => ?_)
 refine CW_seq ?_
 refine CW_region ?_
 refine S_box (l := [_]) rfl rfl rfl (fun b1 => ?_)
 refine W_q (r_assign rfl) rfl ?_
 refine W_nil ?_
 refine NX_as (L' := [(1, _), (2, _)]) [1, 2] rfl ?_
 refine CW_seq ?_
 refine CW_region ?_
 refine W_q (r_loadb 0 rfl T.ag99 rfl rfl) rfl ?_
 refine S_makeMap rfl (fun rm => ?_)
 refine W_q (r_nilCheck rfl) rfl ?_
 refine W_q (r_fieldb (o' := 7) rfl T.fo139_4 rfl) rfl ?_
 refine S_storeb 2 (l' := [_, _, _, _, _, _, _, _]) rfl rfl rfl T.sz137 rfl rfl rfl rfl ?_
 refine W_nil ?_
 refine NX_as (L' := [(1, _), (2, _)]) [1, 2] rfl ?_
 refine CW_seq ?_
 refine CW_seq ?_
 refine CW_region ?_
 refine W_q (r_loadb 1 rfl T.ag99 rfl rfl) rfl ?_
 refine W_q (r_nilCheck rfl) rfl ?_
 refine W_q (r_fieldb (o' := 0) rfl T.fo139_0 rfl) rfl ?_
 refine W_q (r_fieldb (o' := 0) rfl T.fo25_0 rfl) rfl ?_
 refine W_q (r_loadb 2 rfl T.ag22 rfl rfl) rfl ?_
 refine W_q (r_len Tryz.underlying22 rfl) rfl ?_
 refine W_q (r_move rfl) rfl ?_
 refine W_nil ?_
 refine NX_as (L' := [(1, _), (2, _), (21, _), (22, _), (23, _)]) [1, 2, 21, 22, 23] rfl ?_
 refine CW_front 0 rfl rfl ?_
 refine CW_front 2 rfl rfl ?_
 refine C_range (List (Int × Def)) (f.params.length) (fun k2 x2 => x2 = (f.params.zipIdx.take k2).map paramD) (fun k2 x2 => []) (fun k2 x2 => [bx bc 139 (CheckC f A B c d lev g A1 A2 A3 c1 c2 c3 (.map (some rm))), imap rm (valL defV x2)]) [] [1, 2, 21] (F := [(1, _), (2, _), (21, _)]) ([]) rfl rfl (by omega) rfl rfl rfl rfl rfl rfl rfl rfl (fun _ _ => rfl) (fun _ _ => rfl) (fun k2 x2 hk2 hJ2 => ?_) (fun x2 hJ2 => ?_)
 ·refine CW_as (L' := [(1, _), (2, _), (21, _), (22, _), (23, _)]) [1, 2, 21, 22, 23] rfl ?_
  refine CW_seq ?_
  refine CW_region ?_
  refine W_q (r_move rfl) rfl ?_
  obtain ⟨ad3, hA3⟩ := hq.ad (j := k2) (by omega)
  obtain ⟨z3, hz3⟩ := hq.getz (j := k2) (by omega)
  refine W_q (r_index hA3 Tryz.underlying22 T.sz3 rfl rfl ⟨by omega, by omega⟩) rfl ?_
  obtain ⟨l4, r4⟩ := Sl.getI hq hA3 hz3
  refine W_q (r_load_imm rfl T.ag3 l4) rfl ?_
  refine W_q (r_assign rfl) rfl ?_
  refine W_q (r_assign rfl) rfl ?_
  refine W_nil ?_
  refine NX_as (L' := [(1, _), (2, _), (3, _), (4, _), (21, _), (22, _), (23, _)]) [1, 2, 3, 4, 21, 22, 23] rfl ?_
  refine CW_front 1 rfl rfl ?_
  refine CW_front 1 rfl rfl ?_
  refine C_drawnk 2 [(0, true), (1, true), (2, true), (3, true), (4, true), (5, true), (6, false)] (by kernel_rfl) rfl (by kernel_rfl) (by kernel_rfl) ?_
  refine D_q rfl (r_loadb 0 rfl T.ag99 rfl rfl) rfl ?_
  refine D_q rfl (r_move rfl) rfl ?_
  refine D_q rfl (r_add rfl rfl (by unfold I64 at *; omega)) rfl ?_
  refine D_q rfl (r_move rfl) rfl ?_
  refine D_quiet rfl (scalar_q _) T.hb160 rfl rfl ?_
  refine D_q rfl (r_builds (cs := [_, _, _, _]) T.bl164 rfl rfl) rfl ?_
  refine D_f rfl (fun hs5 hc5 => ?_)
  refine S_does (R0 := [_, _]) rfl (put_d ((k2 : Int) + 1) (-1, 0, z3, 1)) T.hb159 rfl rfl (fun m6 R6 v6 le6 hR6 => ?_)
  obtain ⟨rfl, rfl, rfl⟩ := hR6
  refine W_leftw hs5 hc5 (Imm.le_refl _) (sub_drop 2 rfl) ?_
  refine D_end ?_
  refine NX_block (?_)
  refine NX_rng [1, 2, 21] (_) ?_ rfl (List.Sublist.refl _) rfl (Imm.le_refl _)
  rw [hJ2]; exact params_step hz3
 ·obtain rfl : x2 = PD f := by rw [hJ2, List.take_of_length_le (by simp)]; rfl
  refine NX_as (L' := [(1, _), (2, _)]) [1, 2] rfl ?_
  refine CW_seq ?_
  refine CW_seq ?_
  refine CW_region ?_
  refine W_q (r_loadb 2 rfl T.ag99 rfl rfl) rfl ?_
  refine W_q (r_nilCheck rfl) rfl ?_
  refine W_q (r_fieldb (o' := 0) rfl T.fo139_0 rfl) rfl ?_
  refine W_q (r_fieldb (o' := 2) rfl T.fo25_2 rfl) rfl ?_
  refine W_q (r_loadb 0 rfl T.ag23 rfl rfl) rfl ?_
  refine W_q (r_len Tryz.underlying23 rfl) rfl ?_
  refine W_q (r_move rfl) rfl ?_
  refine W_nil ?_
  refine NX_as (L' := [(1, _), (2, _), (40, _), (41, _), (42, _)]) [1, 2, 40, 41, 42] rfl ?_
  refine CW_front 1 rfl rfl ?_
  refine CW_front 1 rfl rfl ?_
  refine C_range (List (Int × Def)) (f.blocks.length) (fun k7 x7 => x7 = PD f ++ (f.blocks.zipIdx.take k7).flatMap blockD ∧ (x7.map (·.1)).Nodup ∧ ∀ (j : Nat) b, j < k7 → f.blocks[j]? = some b → ∀ p ∈ b.phis, okDst p = true) (fun k7 x7 => []) (fun k7 x7 => [bx bc 139 (CheckC f A B c d lev g A1 A2 A3 c1 c2 c3 (.map (some rm))), imap rm (valL defV x7)]) [] [1, 40] (F := [(1, _), (40, _)]) ((PD f)) rfl rfl (by omega) ⟨by simp, by have := params_nodup f f.params.length (Nat.le_refl _); rwa [List.take_of_length_le (by simp)] at this, fun j b h => by omega⟩ rfl rfl rfl rfl rfl rfl rfl (fun _ _ => rfl) (fun _ _ => rfl) (fun k7 x7 hk7 hJ7 => ?_) (fun x7 hJ7 => ?_)
  ·obtain ⟨hx1, hn1, ho1⟩ := hJ7
   refine CW_as (L' := [(1, _), (40, _), (41, _), (42, _)]) [1, 40, 41, 42] rfl ?_
   refine CW_seq ?_
   refine CW_region ?_
   refine W_q (r_move rfl) rfl ?_
   obtain ⟨ad8, hA8⟩ := hb.ad (j := k7) (by omega)
   obtain ⟨z8, hz8⟩ := hb.getz (j := k7) (by omega)
   refine W_q (r_index hA8 Tryz.underlying23 T.sz44 rfl rfl ⟨by omega, by omega⟩) rfl ?_
   obtain ⟨es9, f9, _, l9⟩ := Sl.get hb hA8 hz8
   have F9 := f9
   obtain ⟨A9, c9, B9, d9, C9, e9, rfl, hp9, ho9, ht9, i9a, i9b⟩ := f9
   refine W_q (r_load_immk (vs := [_, _, _, _, _]) rfl T.ag44 T.sz44 l9) rfl ?_
   refine S_alloc (l := [_, _, _, _, _]) T.ze44 rfl rfl (fun b10 => ?_)
   refine W_q (r_assign rfl) rfl ?_
   refine S_storeb 0 (l' := [_, _, _, _, _]) rfl rfl rfl T.sz44 rfl rfl rfl rfl ?_
   refine W_nil ?_
   refine NX_as (L' := [(1, _), (5, _), (6, _), (40, _), (41, _), (42, _)]) [1, 5, 6, 40, 41, 42] rfl ?_
   refine CW_seq ?_
   refine CW_seq ?_
   refine CW_region ?_
   refine W_q (r_fieldb (o' := 0) rfl T.fo44_0 rfl) rfl ?_
   refine W_q (r_loadb 0 rfl T.ag39 rfl rfl) rfl ?_
   refine W_q (r_len Tryz.underlying39 rfl) rfl ?_
   refine W_q (r_move rfl) rfl ?_
   refine W_nil ?_
   refine NX_as (L' := [(1, _), (5, _), (6, _), (40, _), (41, _), (42, _), (48, _), (49, _), (50, _)]) [1, 5, 6, 40, 41, 42, 48, 49, 50] rfl ?_
   refine CW_front 2 rfl rfl ?_
   refine CW_front 2 rfl rfl ?_
   refine C_range (List (Int × Def)) (z8.phis.length) (fun k11 x11 => x11 = x7 ++ (z8.phis.take k11).map (phiD k7) ∧ (x11.map (·.1)).Nodup ∧ ∀ (j : Nat) p, j < k11 → z8.phis[j]? = some p → okDst p = true) (fun k11 x11 => []) (fun k11 x11 => [bx bc 139 (CheckC f A B c d lev g A1 A2 A3 c1 c2 c3 (.map (some rm))), imap rm (valL defV x11)]) [] [1, 5, 6, 40, 41, 42, 48] (F := [(1, _), (5, _), (6, _), (40, _), (41, _), (42, _), (48, _)]) (x7) rfl rfl (by have := hp9.len; omega) ⟨by simp, hn1, fun j p h => by omega⟩ rfl rfl rfl rfl rfl rfl rfl (fun _ _ => rfl) (fun _ _ => rfl) (fun k11 x11 hk11 hJ11 => ?_) (fun x11 hJ11 => ?_)
   ·obtain ⟨hx2, hn2, ho2⟩ := hJ11
    refine CW_as (L' := [(1, _), (5, _), (6, _), (40, _), (41, _), (42, _), (48, _), (49, _), (50, _)]) [1, 5, 6, 40, 41, 42, 48, 49, 50] rfl ?_
    refine CW_seq ?_
    refine CW_region ?_
    obtain ⟨ad12, hA12⟩ := hp9.ad (j := k11) (by omega)
    obtain ⟨z12, hz12⟩ := hp9.getz (j := k11) (by omega)
    refine W_q (r_index hA12 Tryz.underlying39 T.sz61 rfl rfl ⟨by omega, by omega⟩) rfl ?_
    obtain ⟨es13, f13, _, l13⟩ := Sl.get hp9 hA12 hz12
    have F13 := f13
    obtain ⟨A13, c13, B13, d13, rfl, h13, g13, i13a, i13b⟩ := f13
    refine W_q (r_load_immk (vs := [_, _, _, _]) rfl T.ag61 T.sz61 l13) rfl ?_
    refine S_alloc (l := [_, _, _, _]) T.ze61 rfl rfl (fun b14 => ?_)
    refine S_storeb 0 (l' := [_, _, _, _]) rfl rfl rfl T.sz61 rfl rfl rfl rfl ?_
    refine W_nil ?_
    refine NX_as (L' := [(1, _), (5, _), (6, _), (8, _), (40, _), (41, _), (42, _), (48, _), (49, _), (50, _)]) [1, 5, 6, 8, 40, 41, 42, 48, 49, 50] rfl ?_
    refine CW_seq ?_
    refine CW_front 2 rfl rfl ?_
    refine CW_front 2 rfl rfl ?_
    refine C_drawnk 2 [(0, true), (1, true), (2, true), (3, true), (4, true), (5, true), (6, true), (7, true), (8, true), (9, true), (10, true), (11, true), (12, true), (13, true), (14, true), (15, true), (16, true), (17, false), (18, true), (19, true)] (by kernel_rfl) rfl (by kernel_rfl) (by kernel_rfl) ?_
    refine D_q rfl (r_fieldb (o' := 1) rfl T.fo61_1 rfl) rfl ?_
    refine D_q rfl (r_loadb 0 rfl T.ag3 rfl rfl) rfl ?_
    refine D_q rfl (r_bin rfl rfl (bin_lss _ _ _ _)) rfl ?_
    refine D_q rfl (r_move rfl) rfl ?_
    refine D_split (t := 57) rfl (fun h15 => ?_) (fun h15 => ?_)
    ·(try simp only [tA, tB, tC, tD, tE, tF, tG, tH, tI, tJ, tK, tL] at h15)
     refine D_pass rfl rfl rfl rfl rfl ?_
     refine D_pass rfl rfl rfl rfl rfl ?_
     refine D_pass rfl rfl rfl rfl rfl ?_
     refine D_q rfl (r_pick_t rfl rfl) rfl ?_
     refine D_q rfl (r_move rfl) rfl ?_
     refine D_pass rfl rfl rfl rfl rfl ?_
     refine D_pass rfl rfl rfl rfl rfl ?_
     refine D_pass rfl rfl rfl rfl rfl ?_
     refine D_pass rfl rfl rfl rfl rfl ?_
     refine D_pass rfl rfl rfl rfl rfl ?_
     refine D_pass rfl rfl rfl rfl rfl ?_
     refine D_pass rfl rfl rfl rfl rfl ?_
     refine D_pass rfl rfl rfl rfl rfl ?_
     refine D_f rfl (fun hs16 hc16 => ?_)
     refine WL_pass rfl rfl rfl rfl ?_
     refine W_leftw hs16 hc16 (Imm.le_refl _) (sub_drop 2 rfl) ?_
     refine D_pass rfl rfl rfl rfl rfl ?_
     refine D_q rfl (r_pick_t rfl rfl) rfl ?_
     refine D_end ?_
     refine NX_as (L' := [(1, _), (5, _), (6, _), (40, _), (41, _), (42, _), (48, _), (49, _), (50, _), (73, _)]) [1, 5, 6, 40, 41, 42, 48, 49, 50, 73] rfl ?_
     refine CW_cond_t rfl ?_
     refine CW_seq ?_
     refine CW_region ?_
     refine W_q (r_assign rfl) rfl ?_
     refine W_nil ?_
     refine NX_as (L' := [(1, _), (2, _), (5, _), (6, _), (40, _), (41, _), (42, _), (48, _), (49, _), (50, _)]) [1, 2, 5, 6, 40, 41, 42, 48, 49, 50] rfl ?_
     have hcode : definedP f = 7 := by
       first
         | exact definedP_bad1 hz8 (by assumption) (okDst_f (by omega))
         | exact definedP_bad2 (x := x11) (v := z12.dst) (d := ((k7 : Int), -1, z12.bits, 1)) (by rw [hx2, hx1]; exact pre_phi hz8 hz12) (by simpa using h15)
         | exact definedP_bad2 (x := «x3») (v := «zo».dst) (d := ((k7 : Int), («k3» : Int), (givesP «zo»).1, (givesP «zo»).2)) (by rw [hx3, hx2, hx1]; have h := pre_op hz8 «hzo»; rwa [opD, if_pos (by omega)] at h) (by simpa using h15)
     exact C_ret (RX_block (RX_then (RX_block (RX_then (RX_block (RX_then (RX_block (RX_then (RX_d1 rfl rfl (List.nil_sublist _) ⟨by rw [hcode], fun h => by rw [hcode] at h; cases h⟩)))))))))
    ·(try simp only [tA, tB, tC, tD, tE, tF, tG, tH, tI, tJ, tK, tL] at h15)
     refine D_qt rfl rfl rfl (r_fieldb (o' := 1) rfl T.fo61_1 rfl) rfl ?_
     refine D_qt rfl rfl rfl (r_loadb 0 rfl T.ag3 rfl rfl) rfl ?_
     refine D_qt rfl rfl rfl (r_bin rfl rfl (bin_gtr _ _ _ _)) rfl ?_
     refine D_q rfl (r_pick_f rfl rfl) rfl ?_
     refine D_q rfl (r_move rfl) rfl ?_
     refine D_split (t := 62) rfl (fun h17 => ?_) (fun h17 => ?_)
     ·(try simp only [tA, tB, tC, tD, tE, tF, tG, tH, tI, tJ, tK, tL] at h17)
      refine D_pass rfl rfl rfl rfl rfl ?_
      refine D_pass rfl rfl rfl rfl rfl ?_
      refine D_pass rfl rfl rfl rfl rfl ?_
      refine D_pass rfl rfl rfl rfl rfl ?_
      refine D_pass rfl rfl rfl rfl rfl ?_
      refine D_pass rfl rfl rfl rfl rfl ?_
      refine D_pass rfl rfl rfl rfl rfl ?_
      refine D_pass rfl rfl rfl rfl rfl ?_
      refine D_f rfl (fun hs18 hc18 => ?_)
      refine WL_pass rfl rfl rfl rfl ?_
      refine W_leftw hs18 hc18 (Imm.le_refl _) (sub_drop 2 rfl) ?_
      refine D_pass rfl rfl rfl rfl rfl ?_
      refine D_q rfl (r_pick_t rfl rfl) rfl ?_
      refine D_end ?_
      refine NX_as (L' := [(1, _), (5, _), (6, _), (40, _), (41, _), (42, _), (48, _), (49, _), (50, _), (73, _)]) [1, 5, 6, 40, 41, 42, 48, 49, 50, 73] rfl ?_
      refine CW_cond_t rfl ?_
      refine CW_seq ?_
      refine CW_region ?_
      refine W_q (r_assign rfl) rfl ?_
      refine W_nil ?_
      refine NX_as (L' := [(1, _), (2, _), (5, _), (6, _), (40, _), (41, _), (42, _), (48, _), (49, _), (50, _)]) [1, 2, 5, 6, 40, 41, 42, 48, 49, 50] rfl ?_
      have hcode : definedP f = 7 := by
        first
          | exact definedP_bad1 hz8 (by assumption) (okDst_f (by omega))
          | exact definedP_bad2 (x := x11) (v := z12.dst) (d := ((k7 : Int), -1, z12.bits, 1)) (by rw [hx2, hx1]; exact pre_phi hz8 hz12) (by simpa using h17)
          | exact definedP_bad2 (x := «x3») (v := «zo».dst) (d := ((k7 : Int), («k3» : Int), (givesP «zo»).1, (givesP «zo»).2)) (by rw [hx3, hx2, hx1]; have h := pre_op hz8 «hzo»; rwa [opD, if_pos (by omega)] at h) (by simpa using h17)
      exact C_ret (RX_block (RX_then (RX_block (RX_then (RX_block (RX_then (RX_block (RX_then (RX_d1 rfl rfl (List.nil_sublist _) ⟨by rw [hcode], fun h => by rw [hcode] at h; cases h⟩)))))))))
     ·(try simp only [tA, tB, tC, tD, tE, tF, tG, tH, tI, tJ, tK, tL] at h17)
      refine D_qt rfl rfl rfl (r_loadb 2 rfl T.ag99 rfl rfl) rfl ?_
      refine D_qt rfl rfl rfl (r_fieldb (o' := 1) rfl T.fo61_1 rfl) rfl ?_
      refine D_qt rfl rfl rfl (r_loadb 0 rfl T.ag3 rfl rfl) rfl ?_
      refine D_qt rfl rfl rfl (r_move rfl) rfl ?_
      refine D_qt rfl rfl rfl (r_fieldb (o' := 0) rfl T.fo61_0 rfl) rfl ?_
      refine D_qt rfl rfl rfl (r_loadb 0 rfl T.ag3 rfl rfl) rfl ?_
      refine D_quiett rfl rfl rfl (scalar_q _) T.hb160 rfl rfl ?_
      refine D_qt rfl rfl rfl (r_builds (cs := [_, _, _, _]) T.bl164 rfl rfl) rfl ?_
      refine D_f rfl (fun hs19 hc19 => ?_)
      refine WL_take rfl rfl ?_
      refine S_does (R0 := [_, _]) rfl (put_d z12.dst ((k7 : Int), -1, z12.bits, 1)) T.hb159 rfl rfl (fun m20 R20 v20 le20 hR20 => ?_)
      obtain ⟨rfl, rfl, rfl⟩ := hR20
      refine W_leftw hs19 hc19 (Imm.le_refl _) (sub_drop 2 rfl) ?_
      refine D_qt rfl rfl rfl (r_not rfl) rfl ?_
      refine D_q rfl (r_pick_f rfl rfl) rfl ?_
      refine D_end ?_
      refine NX_as (L' := [(1, _), (5, _), (6, _), (40, _), (41, _), (42, _), (48, _), (49, _), (50, _), (73, _)]) [1, 5, 6, 40, 41, 42, 48, 49, 50, 73] rfl ?_
      refine CW_condk rfl (fun h21 => ?_) (fun h21 => ?_)
      ·(try simp only [tA, tB, tC, tD, tE, tF, tG, tH, tI, tJ, tK, tL] at h21)
       refine CW_seq ?_
       refine CW_region ?_
       refine W_q (r_assign rfl) rfl ?_
       refine W_nil ?_
       refine NX_as (L' := [(1, _), (2, _), (5, _), (6, _), (40, _), (41, _), (42, _), (48, _), (49, _), (50, _)]) [1, 2, 5, 6, 40, 41, 42, 48, 49, 50] rfl ?_
       have hcode : definedP f = 7 := by
         first
           | exact definedP_bad1 hz8 (by assumption) (okDst_f (by omega))
           | exact definedP_bad2 (x := x11) (v := z12.dst) (d := ((k7 : Int), -1, z12.bits, 1)) (by rw [hx2, hx1]; exact pre_phi hz8 hz12) (by simpa using h21)
           | exact definedP_bad2 (x := «x3») (v := «zo».dst) (d := ((k7 : Int), («k3» : Int), (givesP «zo»).1, (givesP «zo»).2)) (by rw [hx3, hx2, hx1]; have h := pre_op hz8 «hzo»; rwa [opD, if_pos (by omega)] at h) (by simpa using h21)
       exact C_ret (RX_block (RX_then (RX_block (RX_then (RX_block (RX_then (RX_block (RX_then (RX_d1 rfl rfl (List.nil_sublist _) ⟨by rw [hcode], fun h => by rw [hcode] at h; cases h⟩)))))))))
      ·(try simp only [tA, tB, tC, tD, tE, tF, tG, tH, tI, tJ, tK, tL] at h21)
       refine C_skip ?_
       refine NX_block (?_)
       refine NX_rng [1, 5, 6, 40, 41, 42, 48] (_) ?_ rfl (List.Sublist.cons_cons _ (List.Sublist.cons_cons _ (sub_drop 1 rfl))) rfl (Imm.le_refl _)
       have hnew : getL x11 z12.dst = none := by simpa using h21
       rw [putL_new hnew]
       refine ⟨by rw [hx2, take_map_succ hz12]; simp [phiD], nodup_snoc hn2 hnew, fun j p h1 h2 => ?_⟩
       by_cases e : j = k11
       · subst e; rw [hz12] at h2; cases h2; exact okDst_t (by omega)
       · exact ho2 j p (by omega) h2
   ·obtain ⟨hx2, hn2, ho2'⟩ := hJ11
    have ho2 : ∀ p ∈ z8.phis, okDst p = true := fun p hp => by
      obtain ⟨j, hj⟩ := List.mem_iff_getElem?.1 hp
      exact ho2' j p (List.getElem?_eq_some_iff.1 hj).1 hj
    rw [List.take_length] at hx2
    refine NX_as (L' := [(1, _), (5, _), (6, _), (40, _), (41, _), (42, _)]) [1, 5, 6, 40, 41, 42] rfl ?_
    refine CW_seq ?_
    refine CW_region ?_
    refine W_q (r_fieldb (o' := 1) rfl T.fo44_1 rfl) rfl ?_
    refine W_q (r_loadb 2 rfl T.ag40 rfl rfl) rfl ?_
    refine W_q (r_len Tryz.underlying40 rfl) rfl ?_
    refine W_q (r_move rfl) rfl ?_
    refine W_nil ?_
    refine NX_as (L' := [(1, _), (5, _), (40, _), (41, _), (42, _), (76, _), (77, _), (78, _)]) [1, 5, 40, 41, 42, 76, 77, 78] rfl ?_
    refine CW_front 1 rfl rfl ?_
    refine CW_front 1 rfl rfl ?_
    refine C_range (List (Int × Def)) (z8.ops.length) (fun k22 x22 => x22 = x11 ++ (z8.ops.zipIdx.take k22).flatMap (opD k7) ∧ (x22.map (·.1)).Nodup) (fun k22 x22 => []) (fun k22 x22 => [bx bc 139 (CheckC f A B c d lev g A1 A2 A3 c1 c2 c3 (.map (some rm))), imap rm (valL defV x22)]) [] [1, 5, 40, 41, 42, 76] (F := [(1, _), (5, _), (40, _), (41, _), (42, _), (76, _)]) (x11) rfl rfl (by have := ho9.len; omega) ⟨by simp, hn2⟩ rfl rfl rfl rfl rfl rfl rfl (fun _ _ => rfl) (fun _ _ => rfl) (fun k22 x22 hk22 hJ22 => ?_) (fun x22 hJ22 => ?_)
    ·obtain ⟨hx3, hn3⟩ := hJ22
     refine CW_as (L' := [(1, _), (5, _), (40, _), (41, _), (42, _), (76, _), (77, _), (78, _)]) [1, 5, 40, 41, 42, 76, 77, 78] rfl ?_
     refine CW_seq ?_
     refine CW_region ?_
     refine W_q (r_move rfl) rfl ?_
     obtain ⟨ad23, hA23⟩ := ho9.ad (j := k22) (by omega)
     obtain ⟨z23, hz23⟩ := ho9.getz (j := k22) (by omega)
     refine W_q (r_index hA23 Tryz.underlying40 T.sz51 rfl rfl ⟨by omega, by omega⟩) rfl ?_
     obtain ⟨es24, f24, _, l24⟩ := Sl.get ho9 hA23 hz23
     have F24 := f24
     obtain ⟨A24, c24, rfl, h24, i24a, i24b, i24c, i24d, i24e⟩ := f24
     refine W_q (r_load_immk (vs := [_, _, _, _, _, _]) rfl T.ag51 T.sz51 l24) rfl ?_
     refine S_alloc (l := [_, _, _, _, _, _]) T.ze51 rfl rfl (fun b25 => ?_)
     refine W_q (r_assign rfl) rfl ?_
     refine S_storeb 0 (l' := [_, _, _, _, _, _]) rfl rfl rfl T.sz51 rfl rfl rfl rfl ?_
     refine W_nil ?_
     refine NX_as (L' := [(1, _), (5, _), (9, _), (10, _), (40, _), (41, _), (42, _), (76, _), (77, _), (78, _)]) [1, 5, 9, 10, 40, 41, 42, 76, 77, 78] rfl ?_
     refine CW_seq ?_
     refine CW_region ?_
     refine W_q (r_loadbk 0 (vs := [_, _, _, _, _, _]) rfl T.ag51 T.sz51 rfl rfl rfl) rfl ?_
     refine W_quiet (Gives_q F24) T.hb161 rfl rfl ?_
     refine W_q (r_move rfl) rfl ?_
     refine W_q (r_extract rfl rfl) rfl ?_
     refine W_q (r_extract rfl rfl) rfl ?_
     refine W_q (r_assign rfl) rfl ?_
     refine W_q (r_assign rfl) rfl ?_
     refine W_nil ?_
     refine NX_as (L' := [(1, _), (5, _), (9, _), (10, _), (11, _), (12, _), (40, _), (41, _), (42, _), (76, _), (77, _), (78, _)]) [1, 5, 9, 10, 11, 12, 40, 41, 42, 76, 77, 78] rfl ?_
     refine CW_seq ?_
     refine CW_region ?_
     refine W_q (r_move rfl) rfl ?_
     refine W_q (r_bin rfl rfl (bin_gtr _ _ _ _)) rfl ?_
     refine W_q (r_move rfl) rfl ?_
     refine WL_split (t := 90) rfl (fun h26 => ?_) (fun h26 => ?_)
     ·(try simp only [tA, tB, tC, tD, tE, tF, tG, tH, tI, tJ, tK, tL] at h26)
      refine WL_take rfl rfl ?_
      refine W_q (r_loadb 4 rfl T.ag99 rfl rfl) rfl ?_
      refine WL_take rfl rfl ?_
      refine W_q (r_fieldb (o' := 3) rfl T.fo51_3 rfl) rfl ?_
      refine WL_take rfl rfl ?_
      refine W_q (r_loadb 0 rfl T.ag3 rfl rfl) rfl ?_
      refine WL_take rfl rfl ?_
      refine W_q (r_move rfl) rfl ?_
      refine WL_take rfl rfl ?_
      refine W_q (r_move rfl) rfl ?_
      refine WL_take rfl rfl ?_
      refine W_q (r_move rfl) rfl ?_
      refine WL_take rfl rfl ?_
      refine W_q (r_move rfl) rfl ?_
      refine WL_take rfl rfl ?_
      refine W_q (r_builda (zs := [_, _]) (cs := [_, _]) Tryz.underlying71 T.sz3 T.ze71 rfl rfl rfl) rfl ?_
      refine WL_take rfl rfl ?_
      refine W_q (r_builds (cs := [_, _, _, _]) T.bl164 rfl rfl) rfl ?_
      refine WL_take rfl rfl ?_
      refine WL_front 2 rfl rfl ?_
      refine WL_front 2 rfl rfl ?_
      refine S_does (R0 := [_, _]) rfl (put_d z23.dst ((k7 : Int), (k22 : Int), (givesP z23).1, (givesP z23).2)) T.hb159 rfl rfl (fun m27 R27 v27 le27 hR27 => ?_)
      obtain ⟨rfl, rfl, rfl⟩ := hR27
      refine WL_take rfl rfl ?_
      refine W_q (r_not rfl) rfl ?_
      refine W_q (r_pick_t rfl rfl) rfl ?_
      refine W_nil ?_
      refine NX_as (L' := [(1, _), (5, _), (40, _), (41, _), (42, _), (76, _), (77, _), (78, _), (102, _)]) [1, 5, 40, 41, 42, 76, 77, 78, 102] rfl ?_
      refine CW_condk rfl (fun h28 => ?_) (fun h28 => ?_)
      ·(try simp only [tA, tB, tC, tD, tE, tF, tG, tH, tI, tJ, tK, tL] at h28)
       refine CW_seq ?_
       refine CW_region ?_
       refine W_q (r_assign rfl) rfl ?_
       refine W_nil ?_
       refine NX_as (L' := [(1, _), (2, _), (5, _), (40, _), (41, _), (42, _), (76, _), (77, _), (78, _)]) [1, 2, 5, 40, 41, 42, 76, 77, 78] rfl ?_
       have hcode : definedP f = 7 := by
         first
           | exact definedP_bad1 hz8 (by assumption) (okDst_f (by omega))
           | exact definedP_bad2 (x := x11) (v := z12.dst) (d := ((k7 : Int), -1, z12.bits, 1)) (by rw [hx2, hx1]; exact pre_phi hz8 hz12) (by simpa using h28)
           | exact definedP_bad2 (x := x22) (v := z23.dst) (d := ((k7 : Int), (k22 : Int), (givesP z23).1, (givesP z23).2)) (by rw [hx3, hx2, hx1]; have h := pre_op hz8 hz23; rwa [opD, if_pos (by omega)] at h) (by simpa using h28)
       exact C_ret (RX_block (RX_then (RX_block (RX_block (RX_then (RX_block (RX_then (RX_d1 rfl rfl (List.nil_sublist _) ⟨by rw [hcode], fun h => by rw [hcode] at h; cases h⟩))))))))
      ·(try simp only [tA, tB, tC, tD, tE, tF, tG, tH, tI, tJ, tK, tL] at h28)
       refine C_skip ?_
       refine NX_block (?_)
       refine NX_rng [1, 5, 40, 41, 42, 76] (_) ?_ rfl (List.Sublist.cons_cons _ (List.Sublist.cons_cons _ (sub_drop 1 rfl))) rfl (Imm.le_refl _)
       have hnew : getL x22 z23.dst = none := by simpa using h28
       rw [putL_new hnew]
       refine ⟨by rw [hx3, flatD_take (zip_get hz23), opD, if_pos (by omega)]; simp, nodup_snoc hn3 hnew⟩
     ·(try simp only [tA, tB, tC, tD, tE, tF, tG, tH, tI, tJ, tK, tL] at h26)
      refine WL_pass rfl rfl rfl rfl ?_
      refine WL_pass rfl rfl rfl rfl ?_
      refine WL_pass rfl rfl rfl rfl ?_
      refine WL_pass rfl rfl rfl rfl ?_
      refine WL_pass rfl rfl rfl rfl ?_
      refine WL_pass rfl rfl rfl rfl ?_
      refine WL_pass rfl rfl rfl rfl ?_
      refine WL_pass rfl rfl rfl rfl ?_
      refine WL_pass rfl rfl rfl rfl ?_
      refine WL_pass rfl rfl rfl rfl ?_
      refine WL_pass rfl rfl rfl rfl ?_
      refine W_q (r_pick_f rfl rfl) rfl ?_
      refine W_nil ?_
      refine NX_as (L' := [(1, _), (5, _), (40, _), (41, _), (42, _), (76, _), (77, _), (78, _), (102, _)]) [1, 5, 40, 41, 42, 76, 77, 78, 102] rfl ?_
      refine CW_cond_f rfl ?_
      refine C_skip ?_
      refine NX_block (?_)
      refine NX_rng [1, 5, 40, 41, 42, 76] (_) ?_ rfl (sub_drop 1 rfl) rfl (Imm.le_refl _)
      refine ⟨by rw [hx3, flatD_take (zip_get hz23), opD, if_neg (by omega)]; simp, hn3⟩
    ·obtain ⟨hx3, hn3⟩ := hJ22
     rw [take_all (by simp)] at hx3
     refine NX_block (?_)
     refine NX_rng [1, 40] (_) ?_ rfl (List.Sublist.cons_cons _ (List.Sublist.cons_cons _ (sub_drop 1 rfl))) rfl (Imm.le_refl _)
     refine ⟨by rw [hx3, hx2, hx1]; exact blockD_step hz8 _, hn3, fun j b h1 h2 => ?_⟩
     by_cases e : j = k7
     · subst e; rw [hz8] at h2; cases h2; exact ho2
     · exact ho1 j b (by omega) h2
  ·obtain ⟨hx1, hnd, hok⟩ := hJ7
   obtain rfl : x7 = defsL f := by rw [hx1, defsL_eq]
   refine NX_as (L' := [(1, _)]) [1] rfl ?_
   refine CW_seq ?_
   refine CW_region ?_
   refine W_q (r_loadb 2 rfl T.ag99 rfl rfl) rfl ?_
   refine W_q (r_makeFunc (first := []) (cap := [_]) rfl rfl) rfl ?_
   refine W_q (r_quietx (fun w hp => by
     obtain ⟨m1, p1, le1, L1⟩ := hp.putB (i := 2) rfl
     obtain ⟨m2, p2, le2, L2⟩ := p1.putB (i := 0) rfl
     obtain ⟨m3, p3, le3, L3⟩ := p2.putM (i := 0) rfl
     have le := Imm.le_trans le1 (Imm.le_trans le2 le3)
     exact ⟨m3, p3.inW, uses_q (L2.mono le3) (hq.mono rI_mono le) (hb.mono rBlock_mono le) T.hb163 (askD_ok (L2.mono le3) (ht.mono rI_mono le) L3 ((L1.mono (Imm.le_trans le2 le3)) 0 _ rfl)) hphi⟩) T.hb162 rfl) rfl ?_
   refine W_q (r_assign rfl) rfl ?_
   refine W_nil ?_
   refine NX_as (L' := [(2, _)]) [2] rfl ?_
   exact C_ret (RX_d1 rfl rfl (sub_two 0 0 rfl rfl) ⟨by rw [definedP_ok hok hnd], fun _ => ⟨rm, rfl⟩⟩)

end Go.Proofs.YtipmgkhjoekaaaaGreat

set_option linter.unusedVariables false
set_option linter.unusedSimpArgs false
namespace Go.Proofs.YtipmgkhjoekaaaaGreat
open Go Go.RowKit Go.Proofs Go.Proofs.YtipmgkhjoekaaaaGreat.Fw
attribute [local irreducible] Qt WL CW NX RX EX GX DL
namespace T
theorem ag140 : agg? Tryz.prog 140 = some false := by kernel_rfl
theorem bl139 : bls? Tryz.prog 139 = some ([(0, 3), (3, 1), (4, 2), (6, 1), (7, 1)], ([(.slice none 0 0), (.int .i64 0), (.slice none 0 0), (.int .i64 0), (.slice none 0 0), (.slice none 0 0), (.slice none 0 0), (.map none)] : List Value)) := by kernel_rfl
theorem hb116 : hasBody Tryz.prog 116 = true := by kernel_rfl
theorem hb117 : hasBody Tryz.prog 117 = true := by kernel_rfl
theorem hb118 : hasBody Tryz.prog 118 = true := by kernel_rfl
theorem hb119 : hasBody Tryz.prog 119 = true := by kernel_rfl
theorem hb120 : hasBody Tryz.prog 120 = true := by kernel_rfl
theorem hb164 : hasBody Tryz.prog 164 = true := by kernel_rfl
theorem hb165 : hasBody Tryz.prog 165 = true := by kernel_rfl
theorem hb72 : hasBody Tryz.prog 72 = true := by kernel_rfl
theorem hb77 : hasBody Tryz.prog 77 = true := by kernel_rfl
theorem sz140 : sz? Tryz.prog 140 = some 1 := by kernel_rfl
theorem ze140 : zero? Tryz.prog 140 = some .nilFunc := by kernel_rfl
end T
def Lit5 (m : Imm) (ad : Addr) (vs : List Value) : Prop := ∀ j v, vs[j]? = some v → m.cell? (ad.add j) = some v
theorem Lit5.mono {m m' : Imm} {ad : Addr} {vs : List Value} (h : Lit5 m ad vs) (hm : m.le m') : Lit5 m' ad vs := fun j v hv => hm.cell (h j v hv)
def LookΦ (f : FFun) (lev : Int) (m : Imm) (v : Value) : Prop := ∃ bc, v = .tuple #[.pointer (some ⟨bc, 0, none⟩), .int .i64 (lookP f lev)] ∧ (lookP f lev = 0 → ∃ mb X0 X1 X2 X3 X4 X5 X6, Lies m bc [X0, X1, X2, X3, X4, X5, X6, .map (some mb)] ∧ MapIn m mb (valL defV (defsL f)))
section
variable {f : FFun} {lev : Int} {g : FGraph}
theorem look_4 (h : mayF f = false) : 4 = lookP f lev ∧ lookP f lev ≠ 0 := by
  have e : lookP f lev = 4 := if_pos h
  rw [e]; exact ⟨rfl, by decide⟩
theorem check_in (h : ¬ (lev < 0 ∨ 2 < lev)) : lookP f lev = checkP f lev := (if_neg h).symm
theorem look_s (h : mayF f = true) (h1 : ¬ shapeP f = 0) : shapeP f = lookP f lev ∧ lookP f lev ≠ 0 := by
  have e : lookP f lev = shapeP f := by simp [lookP, h, h1]
  rw [e]; exact ⟨rfl, h1⟩
theorem look_t (h : mayF f = true) (h1 : shapeP f = 0) (h2 : ¬ typedP f lev = 0) : typedP f lev = lookP f lev ∧ lookP f lev ≠ 0 := by
  have e : lookP f lev = typedP f lev := by simp [lookP, h, h1, h2]
  rw [e]; exact ⟨rfl, h2⟩
theorem look_d (h : mayF f = true) (h1 : shapeP f = 0) (h2 : typedP f lev = 0) (h3 : ¬ definedP f = 0) : definedP f = lookP f lev ∧ lookP f lev ≠ 0 := by
  have e : lookP f lev = definedP f := by simp [lookP, h, h1, h2, h3]
  rw [e]; exact ⟨rfl, h3⟩
theorem look_h (h : mayF f = true) (h1 : shapeP f = 0) (h2 : typedP f lev = 0) (h3 : definedP f = 0) (h4 : ¬ usesP f (askS f) = 0) : usesP f (askS f) = lookP f lev ∧ lookP f lev ≠ 0 := by
  have e : lookP f lev = usesP f (askS f) := by simp [lookP, h, h1, h2, h3, h4]
  rw [e]; exact ⟨rfl, h4⟩
theorem look_p (h : mayF f = true) (hg : ofP f = some g) (h1 : shapeP f = 0) (h2 : typedP f lev = 0) (h3 : definedP f = 0) (h4 : usesP f (askS f) = 0) (h5 : ¬ usesP f (askP f (treeP g 0)) = 0) : usesP f (askP f (treeP g 0)) = lookP f lev ∧ lookP f lev ≠ 0 := by
  have e : lookP f lev = usesP f (askP f (treeP g 0)) := by simp [lookP, h, h1, h2, h3, h4, hg]
  rw [e]; exact ⟨rfl, h5⟩
theorem look_0 (h : mayF f = true) (hg : ofP f = some g) (h1 : shapeP f = 0) (h2 : typedP f lev = 0) (h3 : definedP f = 0) (h4 : usesP f (askS f) = 0) (h5 : usesP f (askP f (treeP g 0)) = 0) : lookP f lev = 0 := by
  simp [lookP, h, h1, h2, h3, h4, h5, hg]
end
set_option maxHeartbeats 4000000 in
/-- (*check.checker).shapes -/
theorem shapes_q {m : Imm} {bc mb : Nat} {A : Option Addr} {c : Nat} {B : Option Addr} {d : Nat} {f : FFun} {lev : Int} {X4 X5 : Value} {At : Option Addr} {ct : Nat} {t : List Int} (hC : Lies m bc [.slice A f.params.length c, .int .i64 f.ret, .slice B f.blocks.length d, .int .i64 lev, X4, X5, .slice At t.length ct, .map (some mb)]) (ht : Ints m At ct t) (hM : MapIn m mb (valL defV (defsL f))) (hq : Ints m A c f.params) (hb : Sl rBlock 5 m B d f.blocks) (hphi : ∀ b ∈ f.blocks, ∀ p ∈ b.phis, p.args.length ≤ p.fr.length) : Quiet Tryz.prog 119 [.pointer (some ⟨bc, 0, none⟩)] m (.int .i64 (usesP f (askS f))) := by
 refine quiet_of Tryz.func119 rfl Tryz.ntmps119 rfl (fun w => ?_)
 refine CW_seq ?_
 refine CW_region ?_
 refine S_box (l := [_]) rfl rfl rfl (fun b1 => ?_)
 refine W_q (r_assign rfl) rfl ?_
 refine W_nil ?_
 refine NX_as (L' := [(1, _), (2, _)]) [1, 2] rfl ?_
 refine CW_seq ?_
 refine CW_region ?_
 refine W_q (r_loadb 0 rfl T.ag99 rfl rfl) rfl ?_
 refine W_q (r_makeFunc (first := []) (cap := [_]) rfl rfl) rfl ?_
 refine W_q (r_quietb 0 rfl (fun m' le hc => uses_q (hC.mono le) (hq.mono rI_mono le) (hb.mono rBlock_mono le) T.hb164 (askS_ok (hC.mono le) (ht.mono rI_mono le) (hM.mono le) (hc 0 _ rfl)) hphi) T.hb162 rfl) rfl ?_
 refine W_q (r_assign rfl) rfl ?_
 refine W_nil ?_
 refine NX_as (L' := [(2, _)]) [2] rfl ?_
 refine C_ret (RX_q1 rfl rfl ?_)
 rfl

set_option maxHeartbeats 4000000 in
/-- (*check.checker).places -/
theorem places_q {m : Imm} {bc mb : Nat} {A : Option Addr} {c : Nat} {B : Option Addr} {d : Nat} {f : FFun} {lev : Int} {X4 X5 : Value} {At : Option Addr} {ct : Nat} {t : List Int} (hC : Lies m bc [.slice A f.params.length c, .int .i64 f.ret, .slice B f.blocks.length d, .int .i64 lev, X4, X5, .slice At t.length ct, .map (some mb)]) (ht : Ints m At ct t) (hM : MapIn m mb (valL defV (defsL f))) (hq : Ints m A c f.params) (hb : Sl rBlock 5 m B d f.blocks) (hphi : ∀ b ∈ f.blocks, ∀ p ∈ b.phis, p.args.length ≤ p.fr.length) : Quiet Tryz.prog 120 [.pointer (some ⟨bc, 0, none⟩)] m (.int .i64 (usesP f (askP f t))) := by
 have hbl := hb.len
 refine quiet_of Tryz.func120 rfl Tryz.ntmps120 rfl (fun w => ?_)
 refine CW_seq ?_
 refine CW_region ?_
 refine S_box (l := [_]) rfl rfl rfl (fun b1 => ?_)
 refine W_q (r_assign rfl) rfl ?_
 refine W_nil ?_
 refine NX_as (L' := [(1, _), (2, _)]) [1, 2] rfl ?_
 refine CW_seq ?_
 refine CW_region ?_
 refine W_q (r_loadb 0 rfl T.ag99 rfl rfl) rfl ?_
 refine W_q (r_makeFunc (first := []) (cap := [_]) rfl rfl) rfl ?_
 refine W_q (r_quietb 0 rfl (fun m' le hc => uses_q (hC.mono le) (hq.mono rI_mono le) (hb.mono rBlock_mono le) T.hb165 (askP_ok (hC.mono le) (ht.mono rI_mono le) (hM.mono le) hbl (hc 0 _ rfl)) hphi) T.hb162 rfl) rfl ?_
 refine W_q (r_assign rfl) rfl ?_
 refine W_nil ?_
 refine NX_as (L' := [(2, _)]) [2] rfl ?_
 refine C_ret (RX_q1 rfl rfl ?_)
 rfl

set_option maxHeartbeats 80000000 in
/-- check.look -/
theorem look_g {m : Imm} {es : List Value} {f : FFun} (hF : rFunc m es f) (lev : Int) : Gives Tryz.prog 77 [.agg es.toArray, .int .i64 lev] m (LookΦ f lev) := by
 have hF_0 := hF
 obtain ⟨A90, c90, B90, d90, rfl, hq90, hb90, i90a⟩ := hF_0
 refine gives_of Tryz.func77 rfl Tryz.ntmps77 rfl (fun w => ?_)
 refine CW_seq ?_
 refine CW_region ?_
 refine S_box (l := [_, _, _]) rfl rfl rfl (fun b1 => ?_)
 refine W_q (r_assign rfl) rfl ?_
 refine W_q (r_assign rfl) rfl ?_
 refine W_nil ?_
 refine NX_as (L' := [(1, _), (2, _), (4, _), (5, _)]) [1, 2, 4, 5] rfl ?_
 refine CW_seq ?_
 refine CW_region ?_
 refine W_q (r_loadbk 0 (vs := [_, _, _]) rfl T.ag25 T.sz25 rfl rfl rfl) rfl ?_
 refine W_q (r_move rfl) rfl ?_
 refine W_q (r_builds (cs := [_, _, _, _, _, _, _, _]) T.bl139 rfl rfl) rfl ?_
 refine S_box (l := [_, _, _, _, _, _, _, _]) rfl rfl rfl (fun rc => ?_)
 refine W_q (r_assign rfl) rfl ?_
 refine W_nil ?_
 refine NX_as (L' := [(2, _), (4, _), (5, _), (6, _)]) [2, 4, 5, 6] rfl ?_
 refine CW_seq ?_
 refine CW_seq ?_
 refine CW_region ?_
 refine W_q (r_loadbk 1 (vs := [_, _, _]) rfl T.ag25 T.sz25 rfl rfl rfl) rfl ?_
 refine W_quiet (MayF_q hF) T.hb72 rfl rfl ?_
 refine W_q (r_not rfl) rfl ?_
 refine W_nil ?_
 refine NX_as (L' := [(4, _), (5, _), (6, _), (16, _)]) [4, 5, 6, 16] rfl ?_
 refine CW_condk rfl (fun h2 => ?_) (fun h2 => ?_)
 ·(try simp only [tA, tB, tC, tD, tE, tF, tG, tH, tI, tJ, tK, tL] at h2)
  refine CW_seq ?_
  refine CW_region ?_
  refine W_q (r_move rfl) rfl ?_
  refine W_q (r_assign rfl) rfl ?_
  refine W_q (r_assign rfl) rfl ?_
  refine W_nil ?_
  refine NX_as (L' := [(4, _), (5, _), (6, _)]) [4, 5, 6] rfl ?_
  have hcode := look_4 (lev := lev) (by assumption)
  exact C_ret (RX_then (RX_g2 rfl rfl rfl ⟨_, by rw [← hcode.1], fun h => absurd h hcode.2⟩))
 ·(try simp only [tA, tB, tC, tD, tE, tF, tG, tH, tI, tJ, tK, tL] at h2)
  refine C_skip ?_
  refine NX_as (L' := [(4, _), (5, _), (6, _)]) [4, 5, 6] rfl ?_
  refine CW_seq ?_
  refine CW_seq ?_
  refine CW_region ?_
  refine W_q (r_move rfl) rfl ?_
  refine W_q (r_makeFunc (first := [_]) (cap := []) rfl rfl) rfl ?_
  refine W_q (r_move rfl) rfl ?_
  refine W_q (r_makeFunc (first := [_]) (cap := []) rfl rfl) rfl ?_
  refine W_q (r_move rfl) rfl ?_
  refine W_q (r_makeFunc (first := [_]) (cap := []) rfl rfl) rfl ?_
  refine W_q (r_move rfl) rfl ?_
  refine W_q (r_makeFunc (first := [_]) (cap := []) rfl rfl) rfl ?_
  refine W_q (r_move rfl) rfl ?_
  refine W_q (r_makeFunc (first := [_]) (cap := []) rfl rfl) rfl ?_
  refine S_lit (vs := [_, _, _, _, _]) (cs := [_, _, _, _, _]) Tryz.underlying141 T.sz140 T.ze140 rfl rfl rfl rfl rfl rfl (fun m3 ad3 le3 l3 => ?_)
  replace hF := rFunc_mono _ _ _ _ le3 hF
  replace hq90 := hq90.mono rI_mono le3
  replace hb90 := hb90.mono rBlock_mono le3
  have hl5 : Lit5 m3 ad3 [_, _, _, _, _] := l3
  refine W_q (r_len Tryz.underlying141 rfl) rfl ?_
  refine W_q (r_move rfl) rfl ?_
  refine W_nil ?_
  refine NX_as (L' := [(4, _), (5, _), (6, _), (28, _), (29, _), (30, _)]) [4, 5, 6, 28, 29, 30] rfl ?_
  refine CW_block ?_
  refine C_unroll 5 ?_
  refine CW_seq ?_
  refine CW_region ?_
  refine W_q (r_bin rfl rfl (bin_lss _ _ _ _)) rfl ?_
  refine W_nil ?_
  refine NX_as (L' := [(4, _), (5, _), (6, _), (28, _), (29, _), (30, _), (31, _)]) [4, 5, 6, 28, 29, 30, 31] rfl ?_
  refine CW_seq ?_
  refine CW_cond_t rfl ?_
  refine C_skip ?_
  refine NX_as (L' := [(4, _), (5, _), (6, _), (28, _), (29, _), (30, _), (31, _)]) [4, 5, 6, 28, 29, 30, 31] rfl ?_
  refine CW_seq ?_
  refine CW_block ?_
  refine CW_seq ?_
  refine CW_region ?_
  refine W_q (r_index (ad := ad3) rfl Tryz.underlying141 T.sz140 rfl rfl ⟨by decide, by decide⟩) rfl ?_
  refine W_q (r_load_imm rfl T.ag140 (hl5 0 _ rfl)) rfl ?_
  refine W_q (r_assign rfl) rfl ?_
  refine W_nil ?_
  refine NX_as (L' := [(4, _), (5, _), (6, _), (8, _), (28, _), (29, _), (30, _), (31, _), (32, _), (33, _)]) [4, 5, 6, 8, 28, 29, 30, 31, 32, 33] rfl ?_
  refine CW_seq ?_
  refine CW_region ?_
  refine W_q (r_move rfl) rfl ?_
  refine S_doesf (R0 := [_]) rfl rfl rfl rfl (shape_d hF hb90) T.hb116 rfl (fun m4 R4 v4 le4 hR4 => ?_)
  obtain ⟨rfl, hR4⟩ := hR4
  replace hF := rFunc_mono _ _ _ _ le4 hF
  replace hq90 := hq90.mono rI_mono le4
  replace hb90 := hb90.mono rBlock_mono le4
  replace hl5 := hl5.mono (le4)
  refine W_q (r_assign rfl) rfl ?_
  refine W_nil ?_
  refine NX_as (L' := [(4, _), (5, _), (6, _), (8, _), (9, _), (28, _), (29, _), (30, _), (31, _), (32, _), (33, _), (34, _), (35, _)]) [4, 5, 6, 8, 9, 28, 29, 30, 31, 32, 33, 34, 35] rfl ?_
  refine CW_seq ?_
  refine CW_region ?_
  refine W_q (r_move rfl) rfl ?_
  refine W_q (r_bin rfl rfl (bin_neq _ _ _ _)) rfl ?_
  refine W_nil ?_
  refine NX_as (L' := [(4, _), (5, _), (6, _), (8, _), (9, _), (28, _), (29, _), (30, _), (31, _), (32, _), (33, _), (34, _), (35, _), (36, _), (37, _)]) [4, 5, 6, 8, 9, 28, 29, 30, 31, 32, 33, 34, 35, 36, 37] rfl ?_
  refine CW_condk rfl (fun h5 => ?_) (fun h5 => ?_)
  ·(try simp only [tA, tB, tC, tD, tE, tF, tG, tH, tI, tJ, tK, tL] at h5)
   refine CW_seq ?_
   refine CW_region ?_
   refine W_q (r_move rfl) rfl ?_
   refine W_q (r_move rfl) rfl ?_
   refine W_q (r_assign rfl) rfl ?_
   refine W_q (r_assign rfl) rfl ?_
   refine W_nil ?_
   refine NX_as (L' := [(4, _), (5, _), (6, _), (8, _), (9, _), (28, _), (29, _), (30, _), (31, _), (32, _), (33, _), (34, _), (35, _), (36, _), (37, _), (38, _), (39, _)]) [4, 5, 6, 8, 9, 28, 29, 30, 31, 32, 33, 34, 35, 36, 37, 38, 39] rfl ?_
   have hcode := look_s (lev := lev) (by assumption) h5
   exact C_ret (RX_block (RX_then (RX_then (RX_block (RX_then (RX_g2 rfl rfl rfl ⟨_, by rw [← hcode.1], fun h => absurd h hcode.2⟩))))))
  ·(try simp only [tA, tB, tC, tD, tE, tF, tG, tH, tI, tJ, tK, tL] at h5)
   refine C_skip ?_
   refine NX_block (NX_as (L' := [(4, _), (5, _), (6, _), (8, _), (9, _), (28, _), (29, _), (30, _), (31, _), (32, _), (33, _), (34, _), (35, _), (36, _), (37, _)]) [4, 5, 6, 8, 9, 28, 29, 30, 31, 32, 33, 34, 35, 36, 37] rfl ?_)
   refine CW_region ?_
   have hs0 : shapeP f = 0 := by simpa using h5
   obtain ⟨g, A1, A2, A3, c1, c2, c3, hg, rfl, ht⟩ := hR4 hs0
   have hphi := shapeP_phis hs0
   refine W_q (r_add rfl rfl ⟨by decide, by decide⟩) rfl ?_
   refine W_q (r_move rfl) rfl ?_
   refine W_nil ?_
   refine NX_unroll 4 (L' := [(4, _), (5, _), (6, _), (8, _), (9, _), (28, _), (29, _), (30, _), (31, _), (32, _), (33, _), (34, _), (35, _), (36, _), (37, _), (40, _)]) [4, 5, 6, 8, 9, 28, 29, 30, 31, 32, 33, 34, 35, 36, 37, 40] rfl ?_
   refine CW_seq ?_
   refine CW_region ?_
   refine W_q (r_bin rfl rfl (bin_lss _ _ _ _)) rfl ?_
   refine W_nil ?_
   refine NX_as (L' := [(4, _), (5, _), (6, _), (8, _), (9, _), (28, _), (29, _), (30, _), (31, _), (32, _), (33, _), (34, _), (35, _), (36, _), (37, _), (40, _)]) [4, 5, 6, 8, 9, 28, 29, 30, 31, 32, 33, 34, 35, 36, 37, 40] rfl ?_
   refine CW_seq ?_
   refine CW_cond_t rfl ?_
   refine C_skip ?_
   refine NX_as (L' := [(4, _), (5, _), (6, _), (8, _), (9, _), (28, _), (29, _), (30, _), (31, _), (32, _), (33, _), (34, _), (35, _), (36, _), (37, _), (40, _)]) [4, 5, 6, 8, 9, 28, 29, 30, 31, 32, 33, 34, 35, 36, 37, 40] rfl ?_
   refine CW_seq ?_
   refine CW_block ?_
   refine CW_seq ?_
   refine CW_region ?_
   refine W_q (r_index (ad := ad3) rfl Tryz.underlying141 T.sz140 rfl rfl ⟨by decide, by decide⟩) rfl ?_
   refine W_q (r_load_imm rfl T.ag140 (hl5 1 _ rfl)) rfl ?_
   refine W_q (r_assign rfl) rfl ?_
   refine W_nil ?_
   refine NX_as (L' := [(4, _), (5, _), (6, _), (8, _), (9, _), (28, _), (29, _), (30, _), (31, _), (32, _), (33, _), (34, _), (35, _), (36, _), (37, _), (40, _)]) [4, 5, 6, 8, 9, 28, 29, 30, 31, 32, 33, 34, 35, 36, 37, 40] rfl ?_
   refine CW_seq ?_
   refine CW_region ?_
   refine W_q (r_move rfl) rfl ?_
   refine W_q (r_callf rfl T.hb117 rfl rfl (fun w hp => by
     obtain ⟨m1, p1, le1, L1⟩ := hp.putB (i := 0) rfl
     exact ⟨m1, p1.inW, typed_q L1 (hq90.mono rI_mono le1) (hb90.mono rBlock_mono le1)⟩)) rfl ?_
   refine W_q (r_assign rfl) rfl ?_
   refine W_nil ?_
   refine NX_as (L' := [(4, _), (5, _), (6, _), (8, _), (9, _), (28, _), (29, _), (30, _), (31, _), (32, _), (33, _), (34, _), (35, _), (36, _), (37, _), (40, _)]) [4, 5, 6, 8, 9, 28, 29, 30, 31, 32, 33, 34, 35, 36, 37, 40] rfl ?_
   refine CW_seq ?_
   refine CW_region ?_
   refine W_q (r_move rfl) rfl ?_
   refine W_q (r_bin rfl rfl (bin_neq _ _ _ _)) rfl ?_
   refine W_nil ?_
   refine NX_as (L' := [(4, _), (5, _), (6, _), (8, _), (9, _), (28, _), (29, _), (30, _), (31, _), (32, _), (33, _), (34, _), (35, _), (36, _), (37, _), (40, _)]) [4, 5, 6, 8, 9, 28, 29, 30, 31, 32, 33, 34, 35, 36, 37, 40] rfl ?_
   refine CW_condk rfl (fun h7 => ?_) (fun h7 => ?_)
   ·(try simp only [tA, tB, tC, tD, tE, tF, tG, tH, tI, tJ, tK, tL] at h7)
    refine CW_seq ?_
    refine CW_region ?_
    refine W_q (r_move rfl) rfl ?_
    refine W_q (r_move rfl) rfl ?_
    refine W_q (r_assign rfl) rfl ?_
    refine W_q (r_assign rfl) rfl ?_
    refine W_nil ?_
    refine NX_as (L' := [(4, _), (5, _), (6, _), (8, _), (9, _), (28, _), (29, _), (30, _), (31, _), (32, _), (33, _), (34, _), (35, _), (36, _), (37, _), (38, _), (39, _), (40, _)]) [4, 5, 6, 8, 9, 28, 29, 30, 31, 32, 33, 34, 35, 36, 37, 38, 39, 40] rfl ?_
    have hcode := look_t (lev := lev) (by assumption) hs0 h7
    exact C_ret (RX_block (RX_then (RX_then (RX_block (RX_then (RX_g2 rfl rfl rfl ⟨_, by rw [← hcode.1], fun h => absurd h hcode.2⟩))))))
   ·(try simp only [tA, tB, tC, tD, tE, tF, tG, tH, tI, tJ, tK, tL] at h7)
    refine C_skip ?_
    refine NX_block (NX_as (L' := [(4, _), (5, _), (6, _), (8, _), (9, _), (28, _), (29, _), (30, _), (31, _), (32, _), (33, _), (34, _), (35, _), (36, _), (37, _), (40, _)]) [4, 5, 6, 8, 9, 28, 29, 30, 31, 32, 33, 34, 35, 36, 37, 40] rfl ?_)
    refine CW_region ?_
    have hs1 : typedP f lev = 0 := by simpa using h7
    refine W_q (r_add rfl rfl ⟨by decide, by decide⟩) rfl ?_
    refine W_q (r_move rfl) rfl ?_
    refine W_nil ?_
    refine NX_unroll 3 (L' := [(4, _), (5, _), (6, _), (8, _), (9, _), (28, _), (29, _), (30, _), (31, _), (32, _), (33, _), (34, _), (35, _), (36, _), (37, _), (40, _)]) [4, 5, 6, 8, 9, 28, 29, 30, 31, 32, 33, 34, 35, 36, 37, 40] rfl ?_
    refine CW_seq ?_
    refine CW_region ?_
    refine W_q (r_bin rfl rfl (bin_lss _ _ _ _)) rfl ?_
    refine W_nil ?_
    refine NX_as (L' := [(4, _), (5, _), (6, _), (8, _), (9, _), (28, _), (29, _), (30, _), (31, _), (32, _), (33, _), (34, _), (35, _), (36, _), (37, _), (40, _)]) [4, 5, 6, 8, 9, 28, 29, 30, 31, 32, 33, 34, 35, 36, 37, 40] rfl ?_
    refine CW_seq ?_
    refine CW_cond_t rfl ?_
    refine C_skip ?_
    refine NX_as (L' := [(4, _), (5, _), (6, _), (8, _), (9, _), (28, _), (29, _), (30, _), (31, _), (32, _), (33, _), (34, _), (35, _), (36, _), (37, _), (40, _)]) [4, 5, 6, 8, 9, 28, 29, 30, 31, 32, 33, 34, 35, 36, 37, 40] rfl ?_
    refine CW_seq ?_
    refine CW_block ?_
    refine CW_seq ?_
    refine CW_region ?_
    refine W_q (r_index (ad := ad3) rfl Tryz.underlying141 T.sz140 rfl rfl ⟨by decide, by decide⟩) rfl ?_
    refine W_q (r_load_imm rfl T.ag140 (hl5 2 _ rfl)) rfl ?_
    refine W_q (r_assign rfl) rfl ?_
    refine W_nil ?_
    refine NX_as (L' := [(4, _), (5, _), (6, _), (8, _), (9, _), (28, _), (29, _), (30, _), (31, _), (32, _), (33, _), (34, _), (35, _), (36, _), (37, _), (40, _)]) [4, 5, 6, 8, 9, 28, 29, 30, 31, 32, 33, 34, 35, 36, 37, 40] rfl ?_
    refine CW_seq ?_
    refine CW_region ?_
    refine W_q (r_move rfl) rfl ?_
    refine S_doesf (R0 := [_]) rfl rfl rfl rfl (defined_d hq90 hb90 ht hphi) T.hb118 rfl (fun m8 R8 v8 le8 hR8 => ?_)
    obtain ⟨rfl, hR8⟩ := hR8
    replace hF := rFunc_mono _ _ _ _ le8 hF
    replace hq90 := hq90.mono rI_mono le8
    replace hb90 := hb90.mono rBlock_mono le8
    replace hl5 := hl5.mono (le8)
    replace ht := ht.mono rI_mono le8
    refine W_q (r_assign rfl) rfl ?_
    refine W_nil ?_
    refine NX_as (L' := [(4, _), (5, _), (6, _), (8, _), (9, _), (28, _), (29, _), (30, _), (31, _), (32, _), (33, _), (34, _), (35, _), (36, _), (37, _), (40, _)]) [4, 5, 6, 8, 9, 28, 29, 30, 31, 32, 33, 34, 35, 36, 37, 40] rfl ?_
    refine CW_seq ?_
    refine CW_region ?_
    refine W_q (r_move rfl) rfl ?_
    refine W_q (r_bin rfl rfl (bin_neq _ _ _ _)) rfl ?_
    refine W_nil ?_
    refine NX_as (L' := [(4, _), (5, _), (6, _), (8, _), (9, _), (28, _), (29, _), (30, _), (31, _), (32, _), (33, _), (34, _), (35, _), (36, _), (37, _), (40, _)]) [4, 5, 6, 8, 9, 28, 29, 30, 31, 32, 33, 34, 35, 36, 37, 40] rfl ?_
    refine CW_condk rfl (fun h9 => ?_) (fun h9 => ?_)
    ·(try simp only [tA, tB, tC, tD, tE, tF, tG, tH, tI, tJ, tK, tL] at h9)
     refine CW_seq ?_
     refine CW_region ?_
     refine W_q (r_move rfl) rfl ?_
     refine W_q (r_move rfl) rfl ?_
     refine W_q (r_assign rfl) rfl ?_
     refine W_q (r_assign rfl) rfl ?_
     refine W_nil ?_
     refine NX_as (L' := [(4, _), (5, _), (6, _), (8, _), (9, _), (28, _), (29, _), (30, _), (31, _), (32, _), (33, _), (34, _), (35, _), (36, _), (37, _), (38, _), (39, _), (40, _)]) [4, 5, 6, 8, 9, 28, 29, 30, 31, 32, 33, 34, 35, 36, 37, 38, 39, 40] rfl ?_
     have hcode := look_d (lev := lev) (by assumption) hs0 hs1 h9
     exact C_ret (RX_block (RX_then (RX_then (RX_block (RX_then (RX_g2 rfl rfl rfl ⟨_, by rw [← hcode.1], fun h => absurd h hcode.2⟩))))))
    ·(try simp only [tA, tB, tC, tD, tE, tF, tG, tH, tI, tJ, tK, tL] at h9)
     refine C_skip ?_
     refine NX_block (NX_as (L' := [(4, _), (5, _), (6, _), (8, _), (9, _), (28, _), (29, _), (30, _), (31, _), (32, _), (33, _), (34, _), (35, _), (36, _), (37, _), (40, _)]) [4, 5, 6, 8, 9, 28, 29, 30, 31, 32, 33, 34, 35, 36, 37, 40] rfl ?_)
     refine CW_region ?_
     have hs2 : definedP f = 0 := by simpa using h9
     obtain ⟨mb, rfl⟩ := hR8 hs2
     refine WL_freezeB 0 rfl (fun _ h => h) (fun m10 le10 hC => ?_)
     replace hF := rFunc_mono _ _ _ _ le10 hF
     replace hq90 := hq90.mono rI_mono le10
     replace hb90 := hb90.mono rBlock_mono le10
     replace hl5 := hl5.mono (le10)
     replace ht := ht.mono rI_mono le10
     refine WL_freezeM 0 rfl (fun _ h => h) (fun m11 le11 hM => ?_)
     replace hF := rFunc_mono _ _ _ _ le11 hF
     replace hq90 := hq90.mono rI_mono le11
     replace hb90 := hb90.mono rBlock_mono le11
     replace hl5 := hl5.mono (le11)
     replace ht := ht.mono rI_mono le11
     replace hC := hC.mono (le11)
     refine W_q (r_add rfl rfl ⟨by decide, by decide⟩) rfl ?_
     refine W_q (r_move rfl) rfl ?_
     refine W_nil ?_
     refine NX_unroll 2 (L' := [(4, _), (5, _), (6, _), (8, _), (9, _), (28, _), (29, _), (30, _), (31, _), (32, _), (33, _), (34, _), (35, _), (36, _), (37, _), (40, _)]) [4, 5, 6, 8, 9, 28, 29, 30, 31, 32, 33, 34, 35, 36, 37, 40] rfl ?_
     refine CW_seq ?_
     refine CW_region ?_
     refine W_q (r_bin rfl rfl (bin_lss _ _ _ _)) rfl ?_
     refine W_nil ?_
     refine NX_as (L' := [(4, _), (5, _), (6, _), (8, _), (9, _), (28, _), (29, _), (30, _), (31, _), (32, _), (33, _), (34, _), (35, _), (36, _), (37, _), (40, _)]) [4, 5, 6, 8, 9, 28, 29, 30, 31, 32, 33, 34, 35, 36, 37, 40] rfl ?_
     refine CW_seq ?_
     refine CW_cond_t rfl ?_
     refine C_skip ?_
     refine NX_as (L' := [(4, _), (5, _), (6, _), (8, _), (9, _), (28, _), (29, _), (30, _), (31, _), (32, _), (33, _), (34, _), (35, _), (36, _), (37, _), (40, _)]) [4, 5, 6, 8, 9, 28, 29, 30, 31, 32, 33, 34, 35, 36, 37, 40] rfl ?_
     refine CW_seq ?_
     refine CW_block ?_
     refine CW_seq ?_
     refine CW_region ?_
     refine W_q (r_index (ad := ad3) rfl Tryz.underlying141 T.sz140 rfl rfl ⟨by decide, by decide⟩) rfl ?_
     refine W_q (r_load_imm rfl T.ag140 (hl5 3 _ rfl)) rfl ?_
     refine W_q (r_assign rfl) rfl ?_
     refine W_nil ?_
     refine NX_as (L' := [(4, _), (5, _), (6, _), (8, _), (9, _), (28, _), (29, _), (30, _), (31, _), (32, _), (33, _), (34, _), (35, _), (36, _), (37, _), (40, _)]) [4, 5, 6, 8, 9, 28, 29, 30, 31, 32, 33, 34, 35, 36, 37, 40] rfl ?_
     refine CW_seq ?_
     refine CW_region ?_
     refine W_q (r_move rfl) rfl ?_
     refine W_q (r_callf rfl T.hb119 rfl rfl (fun w hp => ⟨_, hp.inW, shapes_q hC ht hM hq90 hb90 hphi⟩)) rfl ?_
     refine W_q (r_assign rfl) rfl ?_
     refine W_nil ?_
     refine NX_as (L' := [(4, _), (5, _), (6, _), (8, _), (9, _), (28, _), (29, _), (30, _), (31, _), (32, _), (33, _), (34, _), (35, _), (36, _), (37, _), (40, _)]) [4, 5, 6, 8, 9, 28, 29, 30, 31, 32, 33, 34, 35, 36, 37, 40] rfl ?_
     refine CW_seq ?_
     refine CW_region ?_
     refine W_q (r_move rfl) rfl ?_
     refine W_q (r_bin rfl rfl (bin_neq _ _ _ _)) rfl ?_
     refine W_nil ?_
     refine NX_as (L' := [(4, _), (5, _), (6, _), (8, _), (9, _), (28, _), (29, _), (30, _), (31, _), (32, _), (33, _), (34, _), (35, _), (36, _), (37, _), (40, _)]) [4, 5, 6, 8, 9, 28, 29, 30, 31, 32, 33, 34, 35, 36, 37, 40] rfl ?_
     refine CW_condk rfl (fun h13 => ?_) (fun h13 => ?_)
     ·(try simp only [tA, tB, tC, tD, tE, tF, tG, tH, tI, tJ, tK, tL] at h13)
      refine CW_seq ?_
      refine CW_region ?_
      refine W_q (r_move rfl) rfl ?_
      refine W_q (r_move rfl) rfl ?_
      refine W_q (r_assign rfl) rfl ?_
      refine W_q (r_assign rfl) rfl ?_
      refine W_nil ?_
      refine NX_as (L' := [(4, _), (5, _), (6, _), (8, _), (9, _), (28, _), (29, _), (30, _), (31, _), (32, _), (33, _), (34, _), (35, _), (36, _), (37, _), (38, _), (39, _), (40, _)]) [4, 5, 6, 8, 9, 28, 29, 30, 31, 32, 33, 34, 35, 36, 37, 38, 39, 40] rfl ?_
      have hcode := look_h (lev := lev) (by assumption) hs0 hs1 hs2 h13
      exact C_ret (RX_block (RX_then (RX_then (RX_block (RX_then (RX_g2 rfl rfl rfl ⟨_, by rw [← hcode.1], fun h => absurd h hcode.2⟩))))))
     ·(try simp only [tA, tB, tC, tD, tE, tF, tG, tH, tI, tJ, tK, tL] at h13)
      refine C_skip ?_
      refine NX_block (NX_as (L' := [(4, _), (5, _), (6, _), (8, _), (9, _), (28, _), (29, _), (30, _), (31, _), (32, _), (33, _), (34, _), (35, _), (36, _), (37, _), (40, _)]) [4, 5, 6, 8, 9, 28, 29, 30, 31, 32, 33, 34, 35, 36, 37, 40] rfl ?_)
      refine CW_region ?_
      have hs3 : usesP f (askS f) = 0 := by simpa using h13
      refine W_q (r_add rfl rfl ⟨by decide, by decide⟩) rfl ?_
      refine W_q (r_move rfl) rfl ?_
      refine W_nil ?_
      refine NX_unroll 1 (L' := [(4, _), (5, _), (6, _), (8, _), (9, _), (28, _), (29, _), (30, _), (31, _), (32, _), (33, _), (34, _), (35, _), (36, _), (37, _), (40, _)]) [4, 5, 6, 8, 9, 28, 29, 30, 31, 32, 33, 34, 35, 36, 37, 40] rfl ?_
      refine CW_seq ?_
      refine CW_region ?_
      refine W_q (r_bin rfl rfl (bin_lss _ _ _ _)) rfl ?_
      refine W_nil ?_
      refine NX_as (L' := [(4, _), (5, _), (6, _), (8, _), (9, _), (28, _), (29, _), (30, _), (31, _), (32, _), (33, _), (34, _), (35, _), (36, _), (37, _), (40, _)]) [4, 5, 6, 8, 9, 28, 29, 30, 31, 32, 33, 34, 35, 36, 37, 40] rfl ?_
      refine CW_seq ?_
      refine CW_cond_t rfl ?_
      refine C_skip ?_
      refine NX_as (L' := [(4, _), (5, _), (6, _), (8, _), (9, _), (28, _), (29, _), (30, _), (31, _), (32, _), (33, _), (34, _), (35, _), (36, _), (37, _), (40, _)]) [4, 5, 6, 8, 9, 28, 29, 30, 31, 32, 33, 34, 35, 36, 37, 40] rfl ?_
      refine CW_seq ?_
      refine CW_block ?_
      refine CW_seq ?_
      refine CW_region ?_
      refine W_q (r_index (ad := ad3) rfl Tryz.underlying141 T.sz140 rfl rfl ⟨by decide, by decide⟩) rfl ?_
      refine W_q (r_load_imm rfl T.ag140 (hl5 4 _ rfl)) rfl ?_
      refine W_q (r_assign rfl) rfl ?_
      refine W_nil ?_
      refine NX_as (L' := [(4, _), (5, _), (6, _), (8, _), (9, _), (28, _), (29, _), (30, _), (31, _), (32, _), (33, _), (34, _), (35, _), (36, _), (37, _), (40, _)]) [4, 5, 6, 8, 9, 28, 29, 30, 31, 32, 33, 34, 35, 36, 37, 40] rfl ?_
      refine CW_seq ?_
      refine CW_region ?_
      refine W_q (r_move rfl) rfl ?_
      refine W_q (r_callf rfl T.hb120 rfl rfl (fun w hp => ⟨_, hp.inW, places_q hC ht hM hq90 hb90 hphi⟩)) rfl ?_
      refine W_q (r_assign rfl) rfl ?_
      refine W_nil ?_
      refine NX_as (L' := [(4, _), (5, _), (6, _), (8, _), (9, _), (28, _), (29, _), (30, _), (31, _), (32, _), (33, _), (34, _), (35, _), (36, _), (37, _), (40, _)]) [4, 5, 6, 8, 9, 28, 29, 30, 31, 32, 33, 34, 35, 36, 37, 40] rfl ?_
      refine CW_seq ?_
      refine CW_region ?_
      refine W_q (r_move rfl) rfl ?_
      refine W_q (r_bin rfl rfl (bin_neq _ _ _ _)) rfl ?_
      refine W_nil ?_
      refine NX_as (L' := [(4, _), (5, _), (6, _), (8, _), (9, _), (28, _), (29, _), (30, _), (31, _), (32, _), (33, _), (34, _), (35, _), (36, _), (37, _), (40, _)]) [4, 5, 6, 8, 9, 28, 29, 30, 31, 32, 33, 34, 35, 36, 37, 40] rfl ?_
      refine CW_condk rfl (fun h15 => ?_) (fun h15 => ?_)
      ·(try simp only [tA, tB, tC, tD, tE, tF, tG, tH, tI, tJ, tK, tL] at h15)
       refine CW_seq ?_
       refine CW_region ?_
       refine W_q (r_move rfl) rfl ?_
       refine W_q (r_move rfl) rfl ?_
       refine W_q (r_assign rfl) rfl ?_
       refine W_q (r_assign rfl) rfl ?_
       refine W_nil ?_
       refine NX_as (L' := [(4, _), (5, _), (6, _), (8, _), (9, _), (28, _), (29, _), (30, _), (31, _), (32, _), (33, _), (34, _), (35, _), (36, _), (37, _), (38, _), (39, _), (40, _)]) [4, 5, 6, 8, 9, 28, 29, 30, 31, 32, 33, 34, 35, 36, 37, 38, 39, 40] rfl ?_
       have hcode := look_p (lev := lev) (by assumption) hg hs0 hs1 hs2 hs3 h15
       exact C_ret (RX_block (RX_then (RX_then (RX_block (RX_then (RX_g2 rfl rfl rfl ⟨_, by rw [← hcode.1], fun h => absurd h hcode.2⟩))))))
      ·(try simp only [tA, tB, tC, tD, tE, tF, tG, tH, tI, tJ, tK, tL] at h15)
       refine C_skip ?_
       refine NX_block (NX_as (L' := [(4, _), (5, _), (6, _), (8, _), (9, _), (28, _), (29, _), (30, _), (31, _), (32, _), (33, _), (34, _), (35, _), (36, _), (37, _), (40, _)]) [4, 5, 6, 8, 9, 28, 29, 30, 31, 32, 33, 34, 35, 36, 37, 40] rfl ?_)
       refine CW_region ?_
       have hs4 : usesP f (askP f (treeP g 0)) = 0 := by simpa using h15
       refine W_q (r_add rfl rfl ⟨by decide, by decide⟩) rfl ?_
       refine W_q (r_move rfl) rfl ?_
       refine W_nil ?_
       refine NX_unroll 0 (L' := [(4, _), (5, _), (6, _), (8, _), (9, _), (28, _), (29, _), (30, _), (31, _), (32, _), (33, _), (34, _), (35, _), (36, _), (37, _), (40, _)]) [4, 5, 6, 8, 9, 28, 29, 30, 31, 32, 33, 34, 35, 36, 37, 40] rfl ?_
       refine CW_seq ?_
       refine CW_region ?_
       refine W_q (r_bin rfl rfl (bin_lss _ _ _ _)) rfl ?_
       refine W_nil ?_
       refine NX_as (L' := [(4, _), (5, _), (6, _), (8, _), (9, _), (28, _), (29, _), (30, _), (31, _), (32, _), (33, _), (34, _), (35, _), (36, _), (37, _), (40, _)]) [4, 5, 6, 8, 9, 28, 29, 30, 31, 32, 33, 34, 35, 36, 37, 40] rfl ?_
       refine CW_seq ?_
       refine CW_cond_f rfl ?_
       refine C_exit (EX_then (EX_then (EX_hit (?_))))
       refine NX_as (L' := [(4, _), (5, _), (6, _)]) [4, 5, 6] rfl ?_
       refine CW_seq ?_
       refine CW_region ?_
       refine W_q (r_move rfl) rfl ?_
       refine W_q (r_assign rfl) rfl ?_
       refine W_q (r_assign rfl) rfl ?_
       refine W_nil ?_
       refine NX_as (L' := [(4, _), (5, _)]) [4, 5] rfl ?_
       have hcode := look_0 (lev := lev) (by assumption) hg hs0 hs1 hs2 hs3 hs4
       exact C_ret (RX_g2 rfl rfl rfl ⟨_, by rw [hcode], fun _ => ⟨_, _, _, _, _, _, _, _, hC, hM⟩⟩)

set_option maxHeartbeats 4000000 in
/-- check.Check -/
theorem Check_q {m : Imm} {es : List Value} {f : FFun} (hF : rFunc m es f) (lev : Int) : Quiet Tryz.prog 36 [.agg es.toArray, .int .i64 lev] m (.int .i64 (checkP f lev)) := by
 have hF_0 := hF
 obtain ⟨A90, c90, B90, d90, rfl, hq90, hb90, i90a⟩ := hF_0
 refine quiet_of Tryz.func36 rfl Tryz.ntmps36 rfl (fun w => ?_)
 refine CW_seq ?_
 refine CW_region ?_
 refine S_box (l := [_, _, _]) rfl rfl rfl (fun b1 => ?_)
 refine W_q (r_assign rfl) rfl ?_
 refine W_nil ?_
 refine NX_as (L' := [(1, _), (2, _), (4, _)]) [1, 2, 4] rfl ?_
 refine CW_seq ?_
 refine CW_seq ?_
 refine CW_region ?_
 refine W_q (r_move rfl) rfl ?_
 refine W_q (r_bin rfl rfl (bin_lss _ _ _ _)) rfl ?_
 refine W_q (r_move rfl) rfl ?_
 refine WL_split (t := 9) rfl (fun h2 => ?_) (fun h2 => ?_)
 ·(try simp only [tA, tB, tC, tD, tE, tF, tG, tH, tI, tJ, tK, tL] at h2)
  refine WL_pass rfl rfl rfl rfl ?_
  refine WL_pass rfl rfl rfl rfl ?_
  refine W_q (r_pick_t rfl rfl) rfl ?_
  refine W_nil ?_
  refine NX_as (L' := [(1, _), (2, _), (4, _), (12, _)]) [1, 2, 4, 12] rfl ?_
  refine CW_cond_t rfl ?_
  refine CW_seq ?_
  refine CW_region ?_
  refine W_q (r_assign rfl) rfl ?_
  refine W_nil ?_
  refine NX_as (L' := [(1, _), (2, _), (4, _)]) [1, 2, 4] rfl ?_
  refine C_ret (RX_then (RX_q1 rfl rfl ?_))
  first
    | (rw [checkP, if_pos (by omega)]; done)
    | exact congrArg (Value.int .i64) (check_in (by omega))
 ·(try simp only [tA, tB, tC, tD, tE, tF, tG, tH, tI, tJ, tK, tL] at h2)
  refine WL_take rfl rfl ?_
  refine W_q (r_move rfl) rfl ?_
  refine WL_take rfl rfl ?_
  refine W_q (r_bin rfl rfl (bin_gtr _ _ _ _)) rfl ?_
  refine W_q (r_pick_f rfl rfl) rfl ?_
  refine W_nil ?_
  refine NX_as (L' := [(1, _), (2, _), (4, _), (12, _)]) [1, 2, 4, 12] rfl ?_
  refine CW_condk rfl (fun h3 => ?_) (fun h3 => ?_)
  ·(try simp only [tA, tB, tC, tD, tE, tF, tG, tH, tI, tJ, tK, tL] at h3)
   refine CW_seq ?_
   refine CW_region ?_
   refine W_q (r_assign rfl) rfl ?_
   refine W_nil ?_
   refine NX_as (L' := [(1, _), (2, _), (4, _)]) [1, 2, 4] rfl ?_
   refine C_ret (RX_then (RX_q1 rfl rfl ?_))
   first
     | (rw [checkP, if_pos (by omega)]; done)
     | exact congrArg (Value.int .i64) (check_in (by omega))
  ·(try simp only [tA, tB, tC, tD, tE, tF, tG, tH, tI, tJ, tK, tL] at h3)
   refine C_skip ?_
   refine NX_as (L' := [(1, _), (2, _), (4, _)]) [1, 2, 4] rfl ?_
   refine CW_seq ?_
   refine CW_region ?_
   refine W_q (r_loadbk 0 (vs := [_, _, _]) rfl T.ag25 T.sz25 rfl rfl rfl) rfl ?_
   refine W_q (r_move rfl) rfl ?_
   refine S_gives (look_g hF _) T.hb77 rfl rfl (fun m4 v4 le4 hv4 => ?_)
   replace hF := rFunc_mono _ _ _ _ le4 hF
   replace hq90 := hq90.mono rI_mono le4
   replace hb90 := hb90.mono rBlock_mono le4
   obtain ⟨bc4, rfl, hl4⟩ := hv4
   refine W_q (r_move rfl) rfl ?_
   refine W_q (r_extract rfl rfl) rfl ?_
   refine W_q (r_extract rfl rfl) rfl ?_
   refine W_q (r_assign rfl) rfl ?_
   refine W_q (r_assign rfl) rfl ?_
   refine W_nil ?_
   refine NX_as (L' := [(4, _), (6, _)]) [4, 6] rfl ?_
   refine CW_seq ?_
   refine CW_region ?_
   refine W_q (r_move rfl) rfl ?_
   refine W_q (r_assign rfl) rfl ?_
   refine W_nil ?_
   refine NX_as (L' := [(4, _)]) [4] rfl ?_
   refine C_ret (RX_q1 rfl rfl ?_)
   first
     | (rw [checkP, if_pos (by omega)]; done)
     | exact congrArg (Value.int .i64) (check_in (by omega))

end Go.Proofs.YtipmgkhjoekaaaaGreat

set_option linter.unusedVariables false
set_option linter.unusedSimpArgs false
namespace Go.Proofs.YtipmgkhjoekaaaaGreat
open Go Go.RowKit Go.Proofs Go.Proofs.YtipmgkhjoekaaaaGreat.Fw
attribute [local irreducible] Qt WL CW NX RX EX GX DL
namespace T
theorem hb53 : hasBody Tryz.prog 53 = true := by kernel_rfl
theorem hb84 : hasBody Tryz.prog 84 = true := by kernel_rfl
end T
theorem SortG_d {m : Imm} {g : Option Nat} {cap : Nat} {l : List Int} (hg : 0 < l.length → ∃ b, g = some b) (hl : l.length ≤ 1000000) : Does Tryz.prog 84 [slI g cap l] m [rowI 3 g cap l] (fun m' R' v => m' = m ∧ R' = [rowI 3 g cap (l.mergeSort fun x y => decide (x ≤ y))] ∧ v = .tuple #[]) :=
  does_putO (fun l => l.mergeSort fun x y => decide (x ≤ y)) (by simp) (by simp) hg (fun b w hH hb => Tryz.slices_Sort_int b 0 cap l w hH hb (by omega)) (fun a w => Tryz.slices_Sort_int_none a cap w)
theorem getD_some {l : List (Int × Int)} {x : Int} (h : (getL l x).isSome = true) : getL l x = some ((getL l x).getD 0) := by
  cases hx : getL l x with
  | none => rw [hx] at h; cases h
  | some v => rfl
theorem isSome_f {l : List (Int × Int)} {x : Int} (h : (getL l x).isSome = false) : getL l x = none := by
  cases hx : getL l x with
  | none => rfl
  | some v => rw [hx] at h; cases h
theorem take_map_one {α : Type _} {l : List α} {k : Nat} {z : α} (h : l[k]? = some z) : l.take (k + 1) = l.take k ++ [z] := by
  rw [List.take_add_one, h]; rfl
set_option maxHeartbeats 80000000 in
/-- sched.hangs -/
theorem hangs_g {m : Imm} {es : List Value} {b : FBlk} (hB : rBlock m es b) (hol : b.ops.length ≤ 512) (hal : ∀ o ∈ b.ops, o.args.length ≤ 64) : Gives Tryz.prog 52 [.agg es.toArray] m (fun m' v => ∃ A' c', v = .slice A' (hangsP b.ops).length c' ∧ Sl (rS rI 1) 1 m' A' c' (hangsP b.ops)) := by
 have hB_0 := hB
 obtain ⟨A93, c93, B93, d93, C93, e93, rfl, hp93, ho93, ht93, i93a, i93b⟩ := hB_0
 refine gives_of Tryz.func52 rfl Tryz.ntmps52 rfl (fun w => ?_)
 refine CW_seq ?_
 refine CW_region ?_
 refine S_box (l := [_, _, _, _, _]) rfl rfl rfl (fun b1 => ?_)
 refine W_q (r_assign rfl) rfl ?_
 refine W_nil ?_
 refine NX_as (L' := [(1, _), (2, _)]) [1, 2] rfl ?_
 refine CW_seq ?_
 refine CW_region ?_
 refine W_q (r_fieldb (o' := 1) rfl T.fo44_1 rfl) rfl ?_
 refine W_q (r_loadb 0 rfl T.ag40 rfl rfl) rfl ?_
 refine W_q (r_len Tryz.underlying40 rfl) rfl ?_
 refine S_make1 b.ops.length Tryz.underlying65 T.sz22 T.ze22 T.by22 rfl rfl rfl rfl rfl (by omega) (by unfold maxLen; omega) rfl (fun bo => ?_)
 refine W_q (r_assign rfl) rfl ?_
 refine W_nil ?_
 refine NX_as (L' := [(1, _), (2, _), (3, _)]) [1, 2, 3] rfl ?_
 refine CW_seq ?_
 refine CW_region ?_
 refine S_makeMap rfl (fun rm => ?_)
 refine W_q (r_assign rfl) rfl ?_
 refine W_nil ?_
 refine NX_as (L' := [(1, _), (2, _), (3, _), (4, _)]) [1, 2, 3, 4] rfl ?_
 refine CW_seq ?_
 refine CW_region ?_
 refine W_q (r_assign rfl) rfl ?_
 refine W_nil ?_
 refine NX_as (L' := [(1, _), (2, _), (3, _), (4, _), (5, _)]) [1, 2, 3, 4, 5] rfl ?_
 refine CW_seq ?_
 refine CW_seq ?_
 refine CW_region ?_
 refine W_q (r_fieldb (o' := 1) rfl T.fo44_1 rfl) rfl ?_
 refine W_q (r_loadb 2 rfl T.ag40 rfl rfl) rfl ?_
 refine W_q (r_len Tryz.underlying40 rfl) rfl ?_
 refine W_q (r_move rfl) rfl ?_
 refine W_nil ?_
 refine NX_as (L' := [(2, _), (3, _), (4, _), (5, _), (18, _), (19, _), (20, _)]) [2, 3, 4, 5, 18, 19, 20] rfl ?_
 refine CW_nilRow 3 1 ?_
 refine CW_front 0 rfl rfl ?_
 refine CW_front 1 rfl rfl ?_
 refine CW_front 2 rfl rfl ?_
 refine C_rangeM (List Value × (Option Nat × Nat × List Int) × List (Int × Int)) (b.ops.length) (fun k2 mk2 x2 => m.le mk2 ∧ (x2.1.length = b.ops.length ∧ SlCells mk2 (x2.1.take k2) ((hangsP b.ops).take k2) ∧ (∀ j, k2 ≤ j → j < b.ops.length → x2.1[j]? = some (.slice none 0 0)) ∧ x2.2.1.2.2 = impH b.ops k2 ∧ (0 < x2.2.1.2.2.length → ∃ b, x2.2.1.1 = some b) ∧ x2.2.2 = defsH b.ops k2)) (fun k2 x2 => [(5, .slice (rowA x2.2.1.1) x2.2.1.2.2.length x2.2.1.2.1)]) (fun k2 x2 => [row (some bo) b.ops.length b.ops.length 22 1 x2.1, imap rm (valL idV x2.2.2), rowI 3 x2.2.1.1 x2.2.1.2.1 x2.2.1.2.2]) [5] [2, 3, 4, 18] (F := [(2, _), (3, _), (4, _), (18, _)]) ((List.replicate b.ops.length (.slice none 0 0), (none, 0, []), [])) rfl rfl (by omega) ⟨Imm.le_refl _, ⟨by simp, SlCells.nil _, fun j h1 h2 => by rw [List.getElem?_replicate, if_pos h2], rfl, by simp, rfl⟩⟩ rfl rfl rfl rfl rfl rfl rfl (fun _ _ => rfl) (fun _ _ => rfl) (fun k2 mk2 x2 hk2 hJ2 => ?_) (fun mk2 x2 hJ2 => ?_)
 ·obtain ⟨hle2, hJ2⟩ := hJ2
  replace hB := rBlock_mono _ _ _ _ hle2 hB
  replace hp93 := hp93.mono rPhi_mono hle2
  replace ho93 := ho93.mono rOp_mono hle2
  replace ht93 := ht93.mono rI_mono hle2
  obtain ⟨hc1, hc2, hc3, hc4, hgi, hc6⟩ := hJ2
  have hc4e := congrArg List.length hc4
  have him := impH_len b.ops k2
  refine CW_as (L' := [(2, _), (3, _), (4, _), (5, _), (18, _), (19, _), (20, _)]) [2, 3, 4, 5, 18, 19, 20] rfl ?_
  refine CW_seq ?_
  refine CW_region ?_
  refine W_q (r_move rfl) rfl ?_
  obtain ⟨ad4, hA4⟩ := ho93.ad (j := k2) (by omega)
  obtain ⟨z4, hz4⟩ := ho93.getz (j := k2) (by omega)
  refine W_q (r_index hA4 Tryz.underlying40 T.sz51 rfl rfl ⟨by omega, by omega⟩) rfl ?_
  obtain ⟨es5, f5, _, l5⟩ := Sl.get ho93 hA4 hz4
  have F5 := f5
  obtain ⟨A5, c5, rfl, h5, i5a, i5b, i5c, i5d, i5e⟩ := f5
  refine W_q (r_load_immk (vs := [_, _, _, _, _, _]) rfl T.ag51 T.sz51 l5) rfl ?_
  refine S_alloc (l := [_, _, _, _, _, _]) T.ze51 rfl rfl (fun b6 => ?_)
  refine W_q (r_assign rfl) rfl ?_
  refine S_storeb 0 (l' := [_, _, _, _, _, _]) rfl rfl rfl T.sz51 rfl rfl rfl rfl ?_
  refine W_nil ?_
  refine NX_as (L' := [(2, _), (3, _), (4, _), (5, _), (6, _), (7, _), (18, _), (19, _), (20, _)]) [2, 3, 4, 5, 6, 7, 18, 19, 20] rfl ?_
  refine CW_seq ?_
  refine CW_seq ?_
  refine CW_region ?_
  refine W_q (r_fieldb (o' := 4) rfl T.fo51_4 rfl) rfl ?_
  refine W_q (r_loadb 0 rfl T.ag22 rfl rfl) rfl ?_
  refine W_q (r_len Tryz.underlying22 rfl) rfl ?_
  refine W_q (r_move rfl) rfl ?_
  refine W_nil ?_
  refine NX_as (L' := [(2, _), (3, _), (4, _), (5, _), (6, _), (7, _), (18, _), (19, _), (20, _), (26, _), (27, _), (28, _)]) [2, 3, 4, 5, 6, 7, 18, 19, 20, 26, 27, 28] rfl ?_
  refine CW_nilRow 3 1 ?_
  refine CW_front 2 rfl rfl ?_
  refine CW_front 1 rfl rfl ?_
  refine C_range ((Option Nat × Nat × List Int) × List Value) (z4.args.length) (fun k7 x7 => x7.2 = x2.1.set k2 (slI x7.1.1 x7.1.2.1 x7.1.2.2) ∧ x7.1.2.2 = argsH b.ops k2 (z4.args.take k7) ∧ (0 < x7.1.2.2.length → ∃ b, x7.1.1 = some b)) (fun k7 x7 => []) (fun k7 x7 => [rowI 3 x7.1.1 x7.1.2.1 x7.1.2.2, row (some bo) b.ops.length b.ops.length 22 1 x7.2]) [] [2, 3, 4, 5, 6, 7, 18, 19, 20, 26] (F := [(2, _), (3, _), (4, _), (5, _), (6, _), (7, _), (18, _), (19, _), (20, _), (26, _)]) (((none, 0, []), x2.1)) rfl rfl (by have := hal _ (List.mem_of_getElem? hz4); omega) ⟨(set_same (hc3 k2 (Nat.le_refl _) (by omega))).symm, rfl, by simp⟩ rfl rfl rfl rfl rfl rfl rfl (fun _ _ => rfl) (fun _ _ => rfl) (fun k7 x7 hk7 hJ7 => ?_) (fun x7 hJ7 => ?_)
  ·obtain ⟨hcx, hl1, hgc⟩ := hJ7
   have hkl : (z4.args.take k7).length ≤ k7 := by rw [List.length_take]; omega
   have hl1l := argsH_len b.ops k2 (z4.args.take k7)
   have hl1e := congrArg List.length hl1
   have hal1 := hal _ (List.mem_of_getElem? hz4)
   have hc1x : x7.2.length = b.ops.length := by rw [hcx, List.length_set]; exact hc1
   refine CW_as (L' := [(2, _), (3, _), (4, _), (5, _), (6, _), (7, _), (18, _), (19, _), (20, _), (26, _), (27, _), (28, _)]) [2, 3, 4, 5, 6, 7, 18, 19, 20, 26, 27, 28] rfl ?_
   refine CW_seq ?_
   refine CW_region ?_
   obtain ⟨ad9, hA9⟩ := h5.ad (j := k7) (by omega)
   obtain ⟨z9, hz9⟩ := h5.getz (j := k7) (by omega)
   refine W_q (r_index hA9 Tryz.underlying22 T.sz3 rfl rfl ⟨by omega, by omega⟩) rfl ?_
   obtain ⟨l10, r10⟩ := Sl.getI h5 hA9 hz9
   refine W_q (r_load_imm rfl T.ag3 l10) rfl ?_
   refine W_q (r_assign rfl) rfl ?_
   refine W_nil ?_
   refine NX_as (L' := [(2, _), (3, _), (4, _), (5, _), (6, _), (7, _), (9, _), (18, _), (19, _), (20, _), (26, _), (27, _), (28, _)]) [2, 3, 4, 5, 6, 7, 9, 18, 19, 20, 26, 27, 28] rfl ?_
   refine CW_seq ?_
   refine CW_region ?_
   refine W_q (r_move rfl) rfl ?_
   refine W_q (r_move rfl) rfl ?_
   refine W_q (r_lookup2 3 Tryz.underlying86 Tryz.underlying3 T.ze3 rfl rfl rfl (val_getD idV _ _ 0) (val_is idV _ _)) rfl ?_
   refine W_q (r_move rfl) rfl ?_
   refine W_q (r_extract rfl rfl) rfl ?_
   refine W_q (r_extract rfl rfl) rfl ?_
   refine W_q (r_assign rfl) rfl ?_
   refine W_q (r_assign rfl) rfl ?_
   refine W_nil ?_
   refine NX_as (L' := [(2, _), (3, _), (4, _), (5, _), (6, _), (7, _), (10, _), (11, _), (18, _), (19, _), (20, _), (26, _), (27, _), (28, _)]) [2, 3, 4, 5, 6, 7, 10, 11, 18, 19, 20, 26, 27, 28] rfl ?_
   refine CW_seq ?_
   refine CW_region ?_
   refine W_q (r_move rfl) rfl ?_
   refine W_nil ?_
   refine NX_as (L' := [(2, _), (3, _), (4, _), (5, _), (6, _), (7, _), (10, _), (18, _), (19, _), (20, _), (26, _), (27, _), (28, _), (38, _)]) [2, 3, 4, 5, 6, 7, 10, 18, 19, 20, 26, 27, 28, 38] rfl ?_
   refine CW_condk rfl (fun h11 => ?_) (fun h11 => ?_)
   ·(try simp only [tA, tB, tC, tD, tE, tF, tG, tH, tI, tJ, tK, tL] at h11)
    refine CW_region ?_
    refine W_q (r_move rfl) rfl ?_
    refine W_q (r_move rfl) rfl ?_
    refine W_q (r_move rfl) rfl ?_
    refine W_q (r_move rfl) rfl ?_
    refine W_q (r_indexr (o := k2) Tryz.underlying65 T.sz22 rfl rfl ⟨by omega, by omega⟩ (by omega)) rfl ?_
    refine W_q (r_loadr 1 rfl T.ag22 rfl (by rw [hcx]; exact List.getElem?_set_self (by first | omega | (simp only [List.length_set]; omega)))) rfl ?_
    refine W_q (r_move rfl) rfl ?_
    refine S_litr (vs := [_]) (cs := [_]) Tryz.underlying22 T.sz3 T.ze3 rfl rfl rfl rfl rfl rfl rfl (fun b13 => ?_)
    refine S_appendI (l := x7.1.2.2) (g1 := x7.1.1) [_] 1 rfl rfl rfl Tryz.underlying22 T.sz3 T.ze3 T.by3 rfl rfl (.row 0 rfl) (by simp only [List.length_cons, List.length_nil]; omega) rfl (fun g14 c14 hg14 => ?_)
    refine W_q (r_indexr (o := k2) Tryz.underlying65 T.sz22 rfl rfl ⟨by omega, by omega⟩ (by omega)) rfl ?_
    refine S_storer1 2 rfl rfl rfl rfl T.sz22 rfl (by first | omega | (simp only [List.length_set]; omega)) ?_
    refine W_nil ?_
    refine NX_block (?_)
    refine NX_rng [2, 3, 4, 5, 6, 7, 18, 19, 20, 26] (((_, _, _), _)) ?_ rfl (sub_drop 1 rfl) rfl (Imm.le_refl _)
    refine ⟨by rw [hcx, List.set_set], ?_, hg14⟩
    rw [argsH_step1 hz9 (v := (getL x2.2.2 z9).getD 0) (by rw [← hc6]; exact getD_some (h11)), hl1]
   ·(try simp only [tA, tB, tC, tD, tE, tF, tG, tH, tI, tJ, tK, tL] at h11)
    refine C_skip ?_
    refine NX_block (?_)
    refine NX_rng [2, 3, 4, 5, 6, 7, 18, 19, 20, 26] (((_, _, _), _)) ?_ rfl (List.Sublist.refl _) rfl (Imm.le_refl _)
    refine ⟨hcx, ?_, hgc⟩
    rw [argsH_step0 hz9 (by rw [← hc6]; exact isSome_f h11), hl1]
  ·obtain ⟨hcx, hl1, hgc⟩ := hJ7
   rw [List.take_length] at hl1
   have hal1 := hal _ (List.mem_of_getElem? hz4)
   have hl1l := argsH_len b.ops k2 z4.args
   have hl1e := congrArg List.length hl1
   have hc1x : x7.2.length = b.ops.length := by rw [hcx, List.length_set]; exact hc1
   refine NX_as (L' := [(2, _), (3, _), (4, _), (5, _), (6, _), (7, _), (18, _), (19, _), (20, _)]) [2, 3, 4, 5, 6, 7, 18, 19, 20] rfl ?_
   refine CW_seq ?_
   refine CW_seq ?_
   refine CW_region ?_
   refine W_q (r_fieldb (o' := 0) rfl T.fo51_0 rfl) rfl ?_
   refine W_q (r_loadb 2 rfl T.ag3 rfl rfl) rfl ?_
   refine W_quiet (Pure_q _) T.hb53 rfl rfl ?_
   refine W_q (r_not rfl) rfl ?_
   refine W_nil ?_
   refine NX_as (L' := [(2, _), (3, _), (4, _), (5, _), (6, _), (7, _), (18, _), (19, _), (20, _), (53, _)]) [2, 3, 4, 5, 6, 7, 18, 19, 20, 53] rfl ?_
   refine CW_condk rfl (fun h16 => ?_) (fun h16 => ?_)
   ·(try simp only [tA, tB, tC, tD, tE, tF, tG, tH, tI, tJ, tK, tL] at h16)
    refine CW_seq ?_
    refine CW_region ?_
    refine W_q (r_move rfl) rfl ?_
    refine W_q (r_move rfl) rfl ?_
    refine W_q (r_move rfl) rfl ?_
    refine W_q (r_move rfl) rfl ?_
    refine W_q (r_indexr (o := k2) Tryz.underlying65 T.sz22 rfl rfl ⟨by omega, by omega⟩ (by omega)) rfl ?_
    refine W_q (r_loadr 1 rfl T.ag22 rfl (by rw [hcx]; exact List.getElem?_set_self (by first | omega | (simp only [List.length_set]; omega)))) rfl ?_
    refine W_q (r_move rfl) rfl ?_
    refine WL_know (k_row0 4 rfl) (fun hcap18 => ?_)
    refine S_appendI (l := x7.1.2.2) (g1 := x7.1.1) _ 0 rfl rfl rfl Tryz.underlying22 T.sz3 T.ze3 T.by3 rfl rfl (.own 4 rfl hcap18) (by omega) rfl (fun g19 c19 hg19 => ?_)
    refine W_q (r_indexr (o := k2) Tryz.underlying65 T.sz22 rfl rfl ⟨by omega, by omega⟩ (by omega)) rfl ?_
    refine S_storer1 1 rfl rfl rfl rfl T.sz22 rfl (by first | omega | (simp only [List.length_set]; omega)) ?_
    refine W_nil ?_
    refine NX_as (L' := [(2, _), (3, _), (4, _), (5, _), (6, _), (7, _), (18, _), (19, _), (20, _)]) [2, 3, 4, 5, 6, 7, 18, 19, 20] rfl ?_
    refine CW_region ?_
    refine W_q (r_move rfl) rfl ?_
    refine W_q (r_move rfl) rfl ?_
    refine S_litr (vs := [_]) (cs := [_]) Tryz.underlying22 T.sz3 T.ze3 rfl rfl rfl rfl rfl rfl rfl (fun b21 => ?_)
    refine S_appendI (l := x2.2.1.2.2) (g1 := x2.2.1.1) [_] 5 rfl rfl rfl Tryz.underlying22 T.sz3 T.ze3 T.by3 rfl rfl (.row 0 rfl) (by simp only [List.length_cons, List.length_nil]; omega) rfl (fun g22 c22 hg22 => ?_)
    have hgimp := hg22
    refine W_q (r_assign rfl) rfl ?_
    refine W_nil ?_
    refine NX_as (L' := [(2, _), (3, _), (4, _), (5, _), (6, _), (7, _), (18, _), (19, _), (20, _)]) [2, 3, 4, 5, 6, 7, 18, 19, 20] rfl ?_
    refine CW_seq ?_
    refine CW_seq ?_
    refine CW_region ?_
    have hraw : (x7.1.2.2 ++ x2.2.1.2.2) = rawH b.ops (z4, k2) := by
      rw [hl1, rawH]; simp only [show pureK z4.kind = false by assumption, Bool.false_eq_true, if_false]; rw [hc4]
    have hi64 : ∀ z ∈ (x7.1.2.2 ++ x2.2.1.2.2), I64 z := fun z hz => by rw [hraw] at hz; have h := rawH_rng (ops := b.ops) (z4, k2) z hz; exact ⟨by omega, by dsimp only at h; omega⟩
    have hlraw : ((x7.1.2.2 ++ x2.2.1.2.2)).length ≤ 64 + 512 := by
      rw [hl1]; have h1 := argsH_len b.ops k2 z4.args; have h2 := impH_len b.ops k2; rw [hc4]; simp only [List.length_append]; omega
    refine W_q (r_fieldb (o' := 3) rfl T.fo51_3 rfl) rfl ?_
    refine W_q (r_loadb 3 rfl T.ag3 rfl rfl) rfl ?_
    refine W_q (r_bin rfl rfl (bin_gtr _ _ _ _)) rfl ?_
    refine W_nil ?_
    refine NX_as (L' := [(2, _), (3, _), (4, _), (5, _), (6, _), (7, _), (18, _), (19, _), (20, _), (69, _)]) [2, 3, 4, 5, 6, 7, 18, 19, 20, 69] rfl ?_
    refine CW_condk rfl (fun h23 => ?_) (fun h23 => ?_)
    ·(try simp only [tA, tB, tC, tD, tE, tF, tG, tH, tI, tJ, tK, tL] at h23)
     refine CW_region ?_
     refine W_q (r_move rfl) rfl ?_
     refine W_q (r_fieldb (o' := 3) rfl T.fo51_3 rfl) rfl ?_
     refine W_q (r_loadb 3 rfl T.ag3 rfl rfl) rfl ?_
     refine W_q (r_move rfl) rfl ?_
     refine S_mapUpdateV (f := idV) (k2 : Int) 4 Tryz.underlying86 Tryz.underlying3 rfl rfl rfl rfl ?_
     refine W_nil ?_
     refine NX_as (L' := [(2, _), (3, _), (4, _), (5, _), (6, _), (18, _), (19, _), (20, _)]) [2, 3, 4, 5, 6, 18, 19, 20] rfl ?_
     refine CW_seq ?_
     refine CW_region ?_
     refine W_q (r_move rfl) rfl ?_
     refine W_q (r_move rfl) rfl ?_
     refine W_q (r_indexr (o := k2) Tryz.underlying65 T.sz22 rfl rfl ⟨by omega, by omega⟩ (by omega)) rfl ?_
     refine W_q (r_loadr 2 rfl T.ag22 rfl (by rw [hcx]; exact List.getElem?_set_self (by first | omega | (simp only [List.length_set]; omega)))) rfl ?_
     refine WL_front 1 rfl rfl ?_
     refine S_does (R0 := [_]) rfl (SortG_d (l := (x7.1.2.2 ++ x2.2.1.2.2)) hg19 (by omega)) T.hb84 rfl rfl (fun m25 R25 v25 le25 hR25 => ?_)
     obtain ⟨rfl, rfl, rfl⟩ := hR25
     have hgs : 0 < ((x7.1.2.2 ++ x2.2.1.2.2).mergeSort fun x y => decide (x ≤ y)).length → ∃ b, g19 = some b := by rw [List.length_mergeSort]; exact hg19
     refine W_nil ?_
     refine NX_as (L' := [(2, _), (3, _), (4, _), (5, _), (6, _), (18, _), (19, _), (20, _)]) [2, 3, 4, 5, 6, 18, 19, 20] rfl ?_
     refine CW_region ?_
     refine W_q (r_move rfl) rfl ?_
     refine W_q (r_move rfl) rfl ?_
     refine W_q (r_move rfl) rfl ?_
     refine W_q (r_move rfl) rfl ?_
     refine W_q (r_indexr (o := k2) Tryz.underlying65 T.sz22 rfl rfl ⟨by omega, by omega⟩ (by omega)) rfl ?_
     refine W_q (r_loadr 2 rfl T.ag22 rfl (by rw [hcx]; exact List.getElem?_set_self (by first | omega | (simp only [List.length_set]; omega)))) rfl ?_
     refine S_does (R0 := [_]) rfl (Compact_d hgs (by simp only [List.length_mergeSort]; omega)) T.hb85 (by simp only [slI, List.length_mergeSort]; rfl) rfl (fun m27 R27 v27 le27 hR27 => ?_)
     obtain ⟨rfl, rfl, rfl⟩ := hR27
     have hcs := sortC_len ((x7.1.2.2 ++ x2.2.1.2.2))
     rw [sortC] at hcs
     refine WL_know (k_rowI 0 rfl) (fun hr27 => ?_)
     refine WL_freeze 0 rfl (fun _ h => h) (fun mf27 lef27 hf27 => ?_)
     replace hB := rBlock_mono _ _ _ _ lef27 hB
     replace hp93 := hp93.mono rPhi_mono lef27
     replace ho93 := ho93.mono rOp_mono lef27
     replace ht93 := ht93.mono rI_mono lef27
     replace F5 := rOp_mono _ _ _ _ lef27 F5
     replace h5 := h5.mono rI_mono lef27
     have hfz := Ints_frz hf27 hr27.1 hr27.2.1 (by omega) hr27.2.2 (fun z hz => hi64 z (sortC_sub _ z hz))
     refine W_q (r_indexr (o := k2) Tryz.underlying65 T.sz22 rfl rfl ⟨by omega, by omega⟩ (by omega)) rfl ?_
     refine S_storer1 1 rfl rfl rfl rfl T.sz22 rfl (by first | omega | (simp only [List.length_set]; omega)) ?_
     refine W_nil ?_
     refine NX_block (?_)
     refine NX_rngM [5, 2, 3, 4, 18] ((_, (_, _, _), _)) ⟨Imm.le_trans (hle2) lef27, ?_⟩ (by rfl) (List.Sublist.cons _ (List.Sublist.cons_cons _ (sub_drop 1 rfl))) rfl
     refine ⟨by simp only [List.length_set]; exact hc1x, ?_, fun j h1 h2 => ?_, ?_, ?_, ?_⟩
     · simp only [hcx, List.set_set]; rw [take_set_end (by omega), take_map_one (hangsP_get hz4)]
       have hfz' := hfz
       rw [hraw] at hfz' ⊢
       exact (hc2.mono (lef27)).snoc hfz'
     · simp only [hcx, List.set_set]; rw [List.getElem?_set_ne (by omega)]; exact hc3 j (by omega) h2
     · rw [hc4]; exact (impH_step1 hz4 (by assumption)).symm
     · exact hgimp
     · rw [hc6]; exact (defsH_step1 hz4 (by omega)).symm
    ·(try simp only [tA, tB, tC, tD, tE, tF, tG, tH, tI, tJ, tK, tL] at h23)
     refine C_skip ?_
     refine NX_as (L' := [(2, _), (3, _), (4, _), (5, _), (6, _), (18, _), (19, _), (20, _)]) [2, 3, 4, 5, 6, 18, 19, 20] rfl ?_
     refine CW_seq ?_
     refine CW_region ?_
     refine W_q (r_move rfl) rfl ?_
     refine W_q (r_move rfl) rfl ?_
     refine W_q (r_indexr (o := k2) Tryz.underlying65 T.sz22 rfl rfl ⟨by omega, by omega⟩ (by omega)) rfl ?_
     refine W_q (r_loadr 2 rfl T.ag22 rfl (by rw [hcx]; exact List.getElem?_set_self (by first | omega | (simp only [List.length_set]; omega)))) rfl ?_
     refine WL_front 1 rfl rfl ?_
     refine S_does (R0 := [_]) rfl (SortG_d (l := (x7.1.2.2 ++ x2.2.1.2.2)) hg19 (by omega)) T.hb84 rfl rfl (fun m30 R30 v30 le30 hR30 => ?_)
     obtain ⟨rfl, rfl, rfl⟩ := hR30
     have hgs : 0 < ((x7.1.2.2 ++ x2.2.1.2.2).mergeSort fun x y => decide (x ≤ y)).length → ∃ b, g19 = some b := by rw [List.length_mergeSort]; exact hg19
     refine W_nil ?_
     refine NX_as (L' := [(2, _), (3, _), (4, _), (5, _), (6, _), (18, _), (19, _), (20, _)]) [2, 3, 4, 5, 6, 18, 19, 20] rfl ?_
     refine CW_region ?_
     refine W_q (r_move rfl) rfl ?_
     refine W_q (r_move rfl) rfl ?_
     refine W_q (r_move rfl) rfl ?_
     refine W_q (r_move rfl) rfl ?_
     refine W_q (r_indexr (o := k2) Tryz.underlying65 T.sz22 rfl rfl ⟨by omega, by omega⟩ (by omega)) rfl ?_
     refine W_q (r_loadr 2 rfl T.ag22 rfl (by rw [hcx]; exact List.getElem?_set_self (by first | omega | (simp only [List.length_set]; omega)))) rfl ?_
     refine S_does (R0 := [_]) rfl (Compact_d hgs (by simp only [List.length_mergeSort]; omega)) T.hb85 (by simp only [slI, List.length_mergeSort]; rfl) rfl (fun m32 R32 v32 le32 hR32 => ?_)
     obtain ⟨rfl, rfl, rfl⟩ := hR32
     have hcs := sortC_len ((x7.1.2.2 ++ x2.2.1.2.2))
     rw [sortC] at hcs
     refine WL_know (k_rowI 0 rfl) (fun hr32 => ?_)
     refine WL_freeze 0 rfl (fun _ h => h) (fun mf32 lef32 hf32 => ?_)
     replace hB := rBlock_mono _ _ _ _ lef32 hB
     replace hp93 := hp93.mono rPhi_mono lef32
     replace ho93 := ho93.mono rOp_mono lef32
     replace ht93 := ht93.mono rI_mono lef32
     replace F5 := rOp_mono _ _ _ _ lef32 F5
     replace h5 := h5.mono rI_mono lef32
     have hfz := Ints_frz hf32 hr32.1 hr32.2.1 (by omega) hr32.2.2 (fun z hz => hi64 z (sortC_sub _ z hz))
     refine W_q (r_indexr (o := k2) Tryz.underlying65 T.sz22 rfl rfl ⟨by omega, by omega⟩ (by omega)) rfl ?_
     refine S_storer1 1 rfl rfl rfl rfl T.sz22 rfl (by first | omega | (simp only [List.length_set]; omega)) ?_
     refine W_nil ?_
     refine NX_block (?_)
     refine NX_rngM [5, 2, 3, 4, 18] ((_, (_, _, _), _)) ⟨Imm.le_trans (hle2) lef32, ?_⟩ (by rfl) (List.Sublist.cons _ (List.Sublist.cons_cons _ (sub_drop 1 rfl))) rfl
     refine ⟨by simp only [List.length_set]; exact hc1x, ?_, fun j h1 h2 => ?_, ?_, ?_, ?_⟩
     · simp only [hcx, List.set_set]; rw [take_set_end (by omega), take_map_one (hangsP_get hz4)]
       have hfz' := hfz
       rw [hraw] at hfz' ⊢
       exact (hc2.mono (lef32)).snoc hfz'
     · simp only [hcx, List.set_set]; rw [List.getElem?_set_ne (by omega)]; exact hc3 j (by omega) h2
     · rw [hc4]; exact (impH_step1 hz4 (by assumption)).symm
     · exact hgimp
     · rw [hc6]; exact (defsH_step0 hz4 (by omega)).symm
   ·(try simp only [tA, tB, tC, tD, tE, tF, tG, tH, tI, tJ, tK, tL] at h16)
    refine C_skip ?_
    refine NX_as (L' := [(2, _), (3, _), (4, _), (5, _), (6, _), (7, _), (18, _), (19, _), (20, _)]) [2, 3, 4, 5, 6, 7, 18, 19, 20] rfl ?_
    refine CW_seq ?_
    refine CW_seq ?_
    refine CW_region ?_
    have hraw : x7.1.2.2 = rawH b.ops (z4, k2) := by
      rw [hl1, rawH]; simp only [show pureK z4.kind = true by assumption, if_true, List.append_nil]
    have hi64 : ∀ z ∈ x7.1.2.2, I64 z := fun z hz => by rw [hraw] at hz; have h := rawH_rng (ops := b.ops) (z4, k2) z hz; exact ⟨by omega, by dsimp only at h; omega⟩
    have hlraw : (x7.1.2.2).length ≤ 64 + 512 := by
      rw [hl1]; have h1 := argsH_len b.ops k2 z4.args; have h2 := impH_len b.ops k2; omega
    refine W_q (r_fieldb (o' := 3) rfl T.fo51_3 rfl) rfl ?_
    refine W_q (r_loadb 2 rfl T.ag3 rfl rfl) rfl ?_
    refine W_q (r_bin rfl rfl (bin_gtr _ _ _ _)) rfl ?_
    refine W_nil ?_
    refine NX_as (L' := [(2, _), (3, _), (4, _), (5, _), (6, _), (7, _), (18, _), (19, _), (20, _), (69, _)]) [2, 3, 4, 5, 6, 7, 18, 19, 20, 69] rfl ?_
    refine CW_condk rfl (fun h34 => ?_) (fun h34 => ?_)
    ·(try simp only [tA, tB, tC, tD, tE, tF, tG, tH, tI, tJ, tK, tL] at h34)
     refine CW_region ?_
     refine W_q (r_move rfl) rfl ?_
     refine W_q (r_fieldb (o' := 3) rfl T.fo51_3 rfl) rfl ?_
     refine W_q (r_loadb 2 rfl T.ag3 rfl rfl) rfl ?_
     refine W_q (r_move rfl) rfl ?_
     refine S_mapUpdateV (f := idV) (k2 : Int) 3 Tryz.underlying86 Tryz.underlying3 rfl rfl rfl rfl ?_
     refine W_nil ?_
     refine NX_as (L' := [(2, _), (3, _), (4, _), (5, _), (6, _), (18, _), (19, _), (20, _)]) [2, 3, 4, 5, 6, 18, 19, 20] rfl ?_
     refine CW_seq ?_
     refine CW_region ?_
     refine W_q (r_move rfl) rfl ?_
     refine W_q (r_move rfl) rfl ?_
     refine W_q (r_indexr (o := k2) Tryz.underlying65 T.sz22 rfl rfl ⟨by omega, by omega⟩ (by omega)) rfl ?_
     refine W_q (r_loadr 1 rfl T.ag22 rfl (by rw [hcx]; exact List.getElem?_set_self (by first | omega | (simp only [List.length_set]; omega)))) rfl ?_
     refine S_does (R0 := [_]) rfl (SortG_d (l := x7.1.2.2) hgc (by omega)) T.hb84 rfl rfl (fun m36 R36 v36 le36 hR36 => ?_)
     obtain ⟨rfl, rfl, rfl⟩ := hR36
     have hgs : 0 < (x7.1.2.2.mergeSort fun x y => decide (x ≤ y)).length → ∃ b, x7.1.1 = some b := by rw [List.length_mergeSort]; exact hgc
     refine W_nil ?_
     refine NX_as (L' := [(2, _), (3, _), (4, _), (5, _), (6, _), (18, _), (19, _), (20, _)]) [2, 3, 4, 5, 6, 18, 19, 20] rfl ?_
     refine CW_region ?_
     refine W_q (r_move rfl) rfl ?_
     refine W_q (r_move rfl) rfl ?_
     refine W_q (r_move rfl) rfl ?_
     refine W_q (r_move rfl) rfl ?_
     refine W_q (r_indexr (o := k2) Tryz.underlying65 T.sz22 rfl rfl ⟨by omega, by omega⟩ (by omega)) rfl ?_
     refine W_q (r_loadr 1 rfl T.ag22 rfl (by rw [hcx]; exact List.getElem?_set_self (by first | omega | (simp only [List.length_set]; omega)))) rfl ?_
     refine S_does (R0 := [_]) rfl (Compact_d hgs (by simp only [List.length_mergeSort]; omega)) T.hb85 (by simp only [slI, List.length_mergeSort]; rfl) rfl (fun m38 R38 v38 le38 hR38 => ?_)
     obtain ⟨rfl, rfl, rfl⟩ := hR38
     have hcs := sortC_len (x7.1.2.2)
     rw [sortC] at hcs
     refine WL_know (k_rowI 0 rfl) (fun hr38 => ?_)
     refine WL_freeze 0 rfl (fun _ h => h) (fun mf38 lef38 hf38 => ?_)
     replace hB := rBlock_mono _ _ _ _ lef38 hB
     replace hp93 := hp93.mono rPhi_mono lef38
     replace ho93 := ho93.mono rOp_mono lef38
     replace ht93 := ht93.mono rI_mono lef38
     replace F5 := rOp_mono _ _ _ _ lef38 F5
     replace h5 := h5.mono rI_mono lef38
     have hfz := Ints_frz hf38 hr38.1 hr38.2.1 (by omega) hr38.2.2 (fun z hz => hi64 z (sortC_sub _ z hz))
     refine W_q (r_indexr (o := k2) Tryz.underlying65 T.sz22 rfl rfl ⟨by omega, by omega⟩ (by omega)) rfl ?_
     refine S_storer1 0 rfl rfl rfl rfl T.sz22 rfl (by first | omega | (simp only [List.length_set]; omega)) ?_
     refine W_nil ?_
     refine NX_block (?_)
     refine NX_rngM [5, 2, 3, 4, 18] ((_, (_, _, _), _)) ⟨Imm.le_trans (hle2) lef38, ?_⟩ (by rfl) (List.Sublist.cons_cons _ (sub_drop 1 rfl)) rfl
     refine ⟨by simp only [List.length_set]; exact hc1x, ?_, fun j h1 h2 => ?_, ?_, ?_, ?_⟩
     · simp only [hcx, List.set_set]; rw [take_set_end (by omega), take_map_one (hangsP_get hz4)]
       have hfz' := hfz
       rw [hraw] at hfz' ⊢
       exact (hc2.mono (lef38)).snoc hfz'
     · simp only [hcx, List.set_set]; rw [List.getElem?_set_ne (by omega)]; exact hc3 j (by omega) h2
     · rw [hc4]; exact (impH_step0 hz4 (by assumption)).symm
     · exact hgi
     · rw [hc6]; exact (defsH_step1 hz4 (by omega)).symm
    ·(try simp only [tA, tB, tC, tD, tE, tF, tG, tH, tI, tJ, tK, tL] at h34)
     refine C_skip ?_
     refine NX_as (L' := [(2, _), (3, _), (4, _), (5, _), (6, _), (18, _), (19, _), (20, _)]) [2, 3, 4, 5, 6, 18, 19, 20] rfl ?_
     refine CW_seq ?_
     refine CW_region ?_
     refine W_q (r_move rfl) rfl ?_
     refine W_q (r_move rfl) rfl ?_
     refine W_q (r_indexr (o := k2) Tryz.underlying65 T.sz22 rfl rfl ⟨by omega, by omega⟩ (by omega)) rfl ?_
     refine W_q (r_loadr 1 rfl T.ag22 rfl (by rw [hcx]; exact List.getElem?_set_self (by first | omega | (simp only [List.length_set]; omega)))) rfl ?_
     refine S_does (R0 := [_]) rfl (SortG_d (l := x7.1.2.2) hgc (by omega)) T.hb84 rfl rfl (fun m41 R41 v41 le41 hR41 => ?_)
     obtain ⟨rfl, rfl, rfl⟩ := hR41
     have hgs : 0 < (x7.1.2.2.mergeSort fun x y => decide (x ≤ y)).length → ∃ b, x7.1.1 = some b := by rw [List.length_mergeSort]; exact hgc
     refine W_nil ?_
     refine NX_as (L' := [(2, _), (3, _), (4, _), (5, _), (6, _), (18, _), (19, _), (20, _)]) [2, 3, 4, 5, 6, 18, 19, 20] rfl ?_
     refine CW_region ?_
     refine W_q (r_move rfl) rfl ?_
     refine W_q (r_move rfl) rfl ?_
     refine W_q (r_move rfl) rfl ?_
     refine W_q (r_move rfl) rfl ?_
     refine W_q (r_indexr (o := k2) Tryz.underlying65 T.sz22 rfl rfl ⟨by omega, by omega⟩ (by omega)) rfl ?_
     refine W_q (r_loadr 1 rfl T.ag22 rfl (by rw [hcx]; exact List.getElem?_set_self (by first | omega | (simp only [List.length_set]; omega)))) rfl ?_
     refine S_does (R0 := [_]) rfl (Compact_d hgs (by simp only [List.length_mergeSort]; omega)) T.hb85 (by simp only [slI, List.length_mergeSort]; rfl) rfl (fun m43 R43 v43 le43 hR43 => ?_)
     obtain ⟨rfl, rfl, rfl⟩ := hR43
     have hcs := sortC_len (x7.1.2.2)
     rw [sortC] at hcs
     refine WL_know (k_rowI 0 rfl) (fun hr43 => ?_)
     refine WL_freeze 0 rfl (fun _ h => h) (fun mf43 lef43 hf43 => ?_)
     replace hB := rBlock_mono _ _ _ _ lef43 hB
     replace hp93 := hp93.mono rPhi_mono lef43
     replace ho93 := ho93.mono rOp_mono lef43
     replace ht93 := ht93.mono rI_mono lef43
     replace F5 := rOp_mono _ _ _ _ lef43 F5
     replace h5 := h5.mono rI_mono lef43
     have hfz := Ints_frz hf43 hr43.1 hr43.2.1 (by omega) hr43.2.2 (fun z hz => hi64 z (sortC_sub _ z hz))
     refine W_q (r_indexr (o := k2) Tryz.underlying65 T.sz22 rfl rfl ⟨by omega, by omega⟩ (by omega)) rfl ?_
     refine S_storer1 0 rfl rfl rfl rfl T.sz22 rfl (by first | omega | (simp only [List.length_set]; omega)) ?_
     refine W_nil ?_
     refine NX_block (?_)
     refine NX_rngM [5, 2, 3, 4, 18] ((_, (_, _, _), _)) ⟨Imm.le_trans (hle2) lef43, ?_⟩ (by rfl) (List.Sublist.cons_cons _ (sub_drop 1 rfl)) rfl
     refine ⟨by simp only [List.length_set]; exact hc1x, ?_, fun j h1 h2 => ?_, ?_, ?_, ?_⟩
     · simp only [hcx, List.set_set]; rw [take_set_end (by omega), take_map_one (hangsP_get hz4)]
       have hfz' := hfz
       rw [hraw] at hfz' ⊢
       exact (hc2.mono (lef43)).snoc hfz'
     · simp only [hcx, List.set_set]; rw [List.getElem?_set_ne (by omega)]; exact hc3 j (by omega) h2
     · rw [hc4]; exact (impH_step0 hz4 (by assumption)).symm
     · exact hgi
     · rw [hc6]; exact (defsH_step0 hz4 (by omega)).symm
 ·obtain ⟨hle2, hJ2⟩ := hJ2
  replace hB := rBlock_mono _ _ _ _ hle2 hB
  replace hp93 := hp93.mono rPhi_mono hle2
  replace ho93 := ho93.mono rOp_mono hle2
  replace ht93 := ht93.mono rI_mono hle2
  obtain ⟨hc1, hc2, hc3, hc4, hgi, hc6⟩ := hJ2
  rw [List.take_of_length_le (by omega), List.take_of_length_le (by rw [hangsP_len]; omega)] at hc2
  refine NX_know (k_rowG 0 rfl) (fun hr45 => ?_)
  refine NX_freeze 0 rfl (fun _ h => h) (fun m45 le45 hf45 => ?_)
  replace hB := rBlock_mono _ _ _ _ le45 hB
  replace hp93 := hp93.mono rPhi_mono le45
  replace ho93 := ho93.mono rOp_mono le45
  replace ht93 := ht93.mono rI_mono le45
  have hfin := (hc2.mono le45).sl hf45 (by rw [hangsP_len]; exact hr45.2.1) hr45.2.2.1 (by rw [hangsP_len]; omega) (by rw [hangsP_len]; exact hr45.2.2.2)
  refine NX_as (L' := [(2, _), (3, _)]) [2, 3] rfl ?_
  refine CW_seq ?_
  refine CW_region ?_
  refine W_q (r_move rfl) rfl ?_
  refine W_q (r_assign rfl) rfl ?_
  refine W_nil ?_
  refine NX_as (L' := [(2, _)]) [2] rfl ?_
  exact C_ret (RX_g1 rfl rfl ⟨_, _, by rw [hangsP_len]; rfl, hfin⟩)

end Go.Proofs.YtipmgkhjoekaaaaGreat

set_option linter.unusedVariables false
namespace Go.Proofs.YtipmgkhjoekaaaaGreat
open Go Go.Proofs.YtipmgkhjoekaaaaGreat.Fw
/-! Orders: which are legal, what is made by one, the flat one, depths. -/
instance : Inhabited FOp := ⟨⟨0, 0, 0, 0, [], 0⟩⟩
instance : Inhabited FEnd := ⟨⟨0, 0, []⟩⟩
instance : Inhabited FBlk := ⟨⟨[], [], ⟨0, 0, []⟩⟩⟩
def inM (L : List (Int × Bool)) (a : Int) : Bool := (getL L a).getD false
def standsB (L : List (Int × Bool)) (l : List Int) : Bool := !(l.any fun k => !(inM L k))
noncomputable def rightP (f : FFun) (block : Int) : Bool := decide (0 ≤ block) && (decide (block < (f.blocks.length : Int)) && (checkP f 2 == 0))
def putM (order : List Int) (k : Nat) : List (Int × Bool) := (order.take k).foldl (fun L a => putL L a true) []
def okO (b : FBlk) (order : List Int) (k : Nat) : Bool := match order[k]? with
  | some a => !(decide (a < 0) || decide ((b.ops.length : Int) ≤ a)) && (!(inM (putM order k) a) && standsB (putM order k) ((hangsP b.ops).getD a.toNat []))
  | none => true
def legalP (b : FBlk) (order : List Int) : Bool := decide (order.length = b.ops.length) && (List.range order.length).all (okO b order)
noncomputable def LegalP (f : FFun) (block : Int) (order : List Int) : Bool := rightP f block && (match f.blocks[block.toNat]? with | some b => legalP b order | none => false)
theorem putM_succ {order : List Int} {k : Nat} {a : Int} (h : order[k]? = some a) : putM order (k + 1) = putL (putM order k) a true := by
  rw [putM, List.take_add_one, h]; simp [putM]
section
variable {b : FBlk} {order : List Int} {k : Nat} {a : Int}
theorem okO_f1 (h : order[k]? = some a) (h1 : a < 0 ∨ (b.ops.length : Int) ≤ a) : okO b order k = false := by
  have : (decide (a < 0) || decide ((b.ops.length : Int) ≤ a)) = true := by simpa using h1
  simp only [okO, h, this]; rfl
theorem okO_f2 (h : order[k]? = some a) (h1 : inM (putM order k) a = true) : okO b order k = false := by simp [okO, h, h1]
theorem okO_f3 {l : List Int} (h : order[k]? = some a) (hl : (hangsP b.ops)[a.toNat]? = some l) (h1 : standsB (putM order k) l = false) : okO b order k = false := by simp only [okO, h, getDl_of hl, h1]; simp
theorem okO_t {l : List Int} (h : order[k]? = some a) (h0 : 0 ≤ a) (hn : a < (b.ops.length : Int)) (h1 : inM (putM order k) a = false) (hl : (hangsP b.ops)[a.toNat]? = some l) (h2 : standsB (putM order k) l = true) : okO b order k = true := by
  have : (decide (a < 0) || decide ((b.ops.length : Int) ≤ a)) = false := by
    rw [Bool.or_eq_false_iff, decide_eq_false_iff_not, decide_eq_false_iff_not]; omega
  simp only [okO, h, this, h1, getDl_of hl, h2]; rfl
theorem legalP_f0 (h : ¬ (order.length : Int) = (b.ops.length : Int)) : legalP b order = false := by
  have : ¬ order.length = b.ops.length := by omega
  simp [legalP, this]
theorem legalP_f (h : order[k]? = some a) (h1 : okO b order k = false) : legalP b order = false := by
  have : (List.range order.length).all (okO b order) = false := range_all_false (List.getElem?_eq_some_iff.1 h).1 h1
  simp [legalP, this]
theorem legalP_t (h : (order.length : Int) = (b.ops.length : Int)) (h1 : ∀ j, j < order.length → okO b order j = true) : legalP b order = true := by
  have e : order.length = b.ops.length := by omega
  rw [legalP, range_all_true h1, decide_eq_true e]; rfl
end
/-- A right function's lists are short. -/
theorem right_small {f : FFun} {block : Int} (h : rightP f block = true) : mayF f = true := by
  simp only [rightP, Bool.and_eq_true, beq_iff_eq] at h
  have h1 := h.2.2
  simp only [checkP] at h1
  rw [if_neg (by omega), lookP] at h1
  cases hm : mayF f with
  | true => rfl
  | false => rw [if_pos hm] at h1; omega
theorem inB_all {l : List Int} (h : inB l = true) : ∀ z ∈ l, outN z = false := by
  intro z hz
  have := List.any_eq_false.1 (by simpa [inB] using h : l.any outN = false) z hz
  simpa using this
theorem may_small {f : FFun} (h : mayF f = true) {b : FBlk} (hb : b ∈ f.blocks) : b.ops.length ≤ 512 ∧ (∀ o ∈ b.ops, o.args.length ≤ 64) ∧ b.phis.length ≤ 512 := by
  simp only [mayF, Bool.and_eq_true, Bool.not_eq_true', Bool.or_eq_false_iff, decide_eq_false_iff_not] at h
  obtain ⟨⟨⟨⟨⟨h1, h2⟩, h4⟩, h5⟩, h6⟩, h3⟩ := h
  have hblk := List.any_eq_false.1 h3 b hb
  have hm : mayBlock b = true := by simpa using hblk
  simp only [mayBlock, Bool.and_eq_true] at hm
  have hsum : ((b.phis.length : Int) + (b.ops.length : Int)) ≤ (f.blocks.map fun b => ((b.phis.length : Int) + (b.ops.length : Int))).sum := by
    clear h1 h2 h3 h4 h5 h6 hblk hm
    revert hb
    generalize f.blocks = l
    intro hb
    induction l with
    | nil => cases hb
    | cons x r ih =>
      have hpos : ∀ l : List FBlk, 0 ≤ (l.map fun b => ((b.phis.length : Int) + (b.ops.length : Int))).sum := fun l => by
        induction l with
        | nil => simp
        | cons y s ih => simp only [List.map_cons, List.sum_cons]; omega
      have := hpos r
      simp only [List.map_cons, List.sum_cons]
      rcases List.mem_cons.1 hb with rfl | hb
      · omega
      · have := ih hb; omega
  simp only [sizeF] at h4
  refine ⟨by omega, fun o ho => ?_, by omega⟩
  have := List.all_eq_true.1 hm.2.1 o ho
  simp only [mayOpC, Bool.not_eq_true', Bool.or_eq_false_iff, Bool.not_eq_false', listsB, List.all_cons, List.all_nil, Bool.and_true, decide_eq_false_iff_not] at this
  have h2 := this.2
  omega
theorem right_block {f : FFun} {block : Int} (h : rightP f block = true) : 0 ≤ block ∧ block < (f.blocks.length : Int) := by
  simp only [rightP, Bool.and_eq_true, decide_eq_true_eq] at h
  exact ⟨h.1, h.2.1⟩
/-! Depths. -/
def depS (ll : List (List Int)) (out : List Int) (l : List Int) : Int := l.foldl (fun n k => max n (out.getD k.toNat 0 + 1)) 0
def depK (ll : List (List Int)) (k : Nat) : List Int := (ll.take k).foldl (fun out l => out ++ [depS ll out l]) []
def depP (ll : List (List Int)) : List Int := depK ll ll.length
theorem depK_succ {ll : List (List Int)} {k : Nat} {l : List Int} (h : ll[k]? = some l) : depK ll (k + 1) = depK ll k ++ [depS ll (depK ll k) l] := by
  rw [depK, List.take_add_one, h]; simp [depK]
theorem depK_len (ll : List (List Int)) : ∀ k : Nat, k ≤ ll.length → (depK ll k).length = k
  | 0, _ => rfl
  | k + 1, h => by rw [depK_succ (List.getElem?_eq_getElem (by omega)), List.length_append, depK_len ll k (by omega)]; rfl
theorem depS_take {ll : List (List Int)} {out l : List Int} {j : Nat} {z : Int} (h : l[j]? = some z) : depS ll out (l.take (j + 1)) = max (depS ll out (l.take j)) (out.getD z.toNat 0 + 1) := by
  rw [depS, List.take_add_one, h]; simp [depS]
theorem depS_rng {ll : List (List Int)} {out : List Int} {K : Int} (h : ∀ v ∈ out, 0 ≤ v ∧ v < K) (hK : 0 ≤ K) : ∀ l : List Int, (∀ z ∈ l, 0 ≤ z ∧ z < out.length) → 0 ≤ depS ll out l ∧ depS ll out l ≤ K := by
  intro l hl
  refine snoc_ind (p := fun l : List Int => (∀ z : Int, z ∈ l → 0 ≤ z ∧ z < (out.length : Int)) → 0 ≤ depS ll out l ∧ depS ll out l ≤ K) (fun _ => by simp [depS]; omega) (fun l x ih hx => ?_) l hl
  have h1 := ih fun z hz => hx z (by simp [hz])
  have hxr := hx x (by simp)
  have hz : out[x.toNat]? = some out[x.toNat] := List.getElem?_eq_getElem (by omega)
  have h2 := h _ (List.mem_of_getElem? hz)
  have e : depS ll out (l ++ [x]) = max (depS ll out l) (out.getD x.toNat 0 + 1) := by simp [depS]
  rw [e, getD_of hz]; omega
theorem depK_rng {ops : List FOp} : ∀ k : Nat, k ≤ ops.length → ∀ v ∈ depK (hangsP ops) k, 0 ≤ v ∧ v < (k : Int)
  | 0, _ => by simp [depK]
  | k + 1, hk => by
    have hkl : k < (hangsP ops).length := by rw [hangsP_len]; omega
    have hz : (hangsP ops)[k]? = some (hangsP ops)[k] := List.getElem?_eq_getElem hkl
    have ih := depK_rng (ops := ops) k (by omega)
    intro v hv
    rw [depK_succ hz] at hv
    have hl := depK_len (hangsP ops) k (by rw [hangsP_len]; omega)
    rcases List.mem_append.1 hv with hv | hv
    · have := ih v hv; omega
    · simp at hv; subst hv
      have := depS_rng (ll := hangsP ops) (out := depK (hangsP ops) k) (K := (k : Int)) ih (by omega) (hangsP ops)[k] (fun z hz' => by rw [hl]; exact hangsP_rng hz z hz')
      omega
theorem LegalP_f {f : FFun} {block : Int} {order : List Int} (h : rightP f block = false) : LegalP f block order = false := by rw [LegalP, h]; rfl
theorem LegalP_t {f : FFun} {block : Int} {order : List Int} {b : FBlk} (h : rightP f block = true) (hb : f.blocks[block.toNat]? = some b) : LegalP f block order = legalP b order := by rw [LegalP, h, hb]; rfl
/-! What an order does: the operations in it. -/
def ordOps (b : FBlk) (order : List Int) : List FOp := order.map fun a => b.ops.getD a.toNat ⟨0, 0, 0, 0, [], 0⟩
def putOps (f : FFun) (block : Int) (order : List Int) : FFun := { f with blocks := f.blocks.modify block.toNat fun b => { b with ops := ordOps b order } }
/-- What each operation of a block hangs on. -/
noncomputable def HangsP (f : FFun) (block at_ : Int) : List Int := if rightP f block = true then (if 0 ≤ at_ then (match f.blocks[block.toNat]? with | some b => (hangsP b.ops).getD at_.toNat [] | none => []) else []) else []
theorem HangsP_f {f : FFun} {block at_ : Int} (h : rightP f block = false) : HangsP f block at_ = [] := by simp [HangsP, h]
theorem HangsP_f1 {f : FFun} {block at_ : Int} (h : at_ < 0) : HangsP f block at_ = [] := by
  have : ¬ 0 ≤ at_ := by omega
  simp [HangsP, this]
theorem HangsP_f2 {f : FFun} {block at_ : Int} {b : FBlk} (hb : f.blocks[block.toNat]? = some b) (h : (b.ops.length : Int) ≤ at_) : HangsP f block at_ = [] := by
  have : (hangsP b.ops)[at_.toNat]? = none := List.getElem?_eq_none (by rw [hangsP_len]; omega)
  simp only [HangsP, hb, List.getD_eq_getElem?_getD, this]; simp
theorem HangsP_t {f : FFun} {block at_ : Int} {b : FBlk} {l : List Int} (h : rightP f block = true) (h0 : 0 ≤ at_) (hb : f.blocks[block.toNat]? = some b) (hl : (hangsP b.ops)[at_.toNat]? = some l) : HangsP f block at_ = l := by
  simp [HangsP, h, h0, hb, hl]
noncomputable def DepthP (f : FFun) (block : Int) : List Int := if rightP f block = true then (match f.blocks[block.toNat]? with | some b => depP (hangsP b.ops) | none => []) else []
theorem DepthP_f {f : FFun} {block : Int} (h : rightP f block = false) : DepthP f block = [] := by simp [DepthP, h]
theorem DepthP_t {f : FFun} {block : Int} {b : FBlk} (h : rightP f block = true) (hb : f.blocks[block.toNat]? = some b) : DepthP f block = depP (hangsP b.ops) := by simp [DepthP, h, hb]
end Go.Proofs.YtipmgkhjoekaaaaGreat

set_option linter.unusedVariables false
namespace Go.Proofs.YtipmgkhjoekaaaaGreat
open Go Go.Proofs.YtipmgkhjoekaaaaGreat.Fw
/-! The flat order. -/
theorem getL_putL {α : Type} (l : List (Int × α)) (x y : Int) (v : α) : getL (putL l x v) y = if x = y then some v else getL l y := by
  induction l with
  | nil => simp [putL, getL]
  | cons p r ih =>
    simp only [putL]
    by_cases h : p.1 = x
    · rw [if_pos h]
      by_cases h2 : x = y
      · simp [getL, h2]
      · simp [getL, h2, h]
    · rw [if_neg h]
      by_cases h3 : p.1 = y
      · have : ¬ x = y := fun e => h (by rw [h3, e])
        simp [getL, h3, this]
      · simp [getL, h3, ih]
theorem inM_putL (L : List (Int × Bool)) (x y : Int) : inM (putL L x true) y = (decide (x = y) || inM L y) := by
  simp only [inM, getL_putL]
  by_cases h : x = y <;> simp [h]
theorem inM_fold (l : List Int) (L : List (Int × Bool)) (y : Int) : inM (l.foldl (fun L a => putL L a true) L) y = (decide (y ∈ l) || inM L y) := by
  induction l generalizing L with
  | nil => simp
  | cons a r ih =>
    rw [List.foldl_cons, ih, inM_putL]
    by_cases h1 : y = a
    · subst h1; simp
    · have : ¬ a = y := fun e => h1 e.symm
      simp [h1, this]
theorem inM_putM (order : List Int) (k : Nat) (y : Int) : inM (putM order k) y = decide (y ∈ order.take k) := by
  rw [putM, inM_fold]; simp [inM, getL]
def putL1 (out : List Int) : List (Int × Bool) := putM out out.length
theorem putL1_in (out : List Int) (y : Int) : inM (putL1 out) y = decide (y ∈ out) := by rw [putL1, inM_putM, List.take_length]
theorem putL1_snoc (out : List Int) (a : Int) : putL1 (out ++ [a]) = putL (putL1 out) a true := by
  rw [putL1, putL1, putM, putM, List.take_length, List.take_length, List.foldl_append]; rfl
def condF (ops : List FOp) (L : List (Int × Bool)) (pass : Bool) (a : Nat) : Bool := !(inM L a) && ((pureK (ops.getD a default).kind == pass) && standsB L ((hangsP ops).getD a []))
def flatNext (ops : List FOp) (L : List (Int × Bool)) : Option Nat := match (List.range ops.length).find? (condF ops L true) with
  | some a => some a
  | none => (List.range ops.length).find? (condF ops L false)
def flatRun (ops : List FOp) : Nat → List Int → List Int
  | 0, out => out
  | t + 1, out => match flatNext ops (putL1 out) with
    | none => out
    | some a => flatRun ops t (out ++ [(a : Int)])
def flatP (ops : List FOp) : List Int := flatRun ops ops.length []
noncomputable def FlatP (f : FFun) (block : Int) : List Int := if rightP f block = true then (match f.blocks[block.toNat]? with | some b => flatP b.ops | none => []) else []
theorem FlatP_f {f : FFun} {block : Int} (h : rightP f block = false) : FlatP f block = [] := by simp [FlatP, h]
theorem FlatP_t {f : FFun} {block : Int} {b : FBlk} (h : rightP f block = true) (hb : f.blocks[block.toNat]? = some b) : FlatP f block = flatP b.ops := by simp [FlatP, h, hb]
structure FlatSt (ops : List FOp) (L : List (Int × Bool)) (out : List Int) : Prop where
  L_eq : L = putL1 out
  nd : out.Nodup
  rng : ∀ z ∈ out, 0 ≤ z ∧ z < (ops.length : Int)
  run : flatP ops = flatRun ops (ops.length - out.length) out
theorem flatSt_init (ops : List FOp) : FlatSt ops [] [] := ⟨rfl, List.nodup_nil, by simp, rfl⟩
theorem find_false {n : Nat} {p : Nat → Bool} (h : ∀ a, a < n → p a = false) : (List.range n).find? p = none := by
  rw [List.find?_eq_none]; intro a ha; rw [h a (List.mem_range.1 ha)]; decide
theorem find_at {n k : Nat} {p : Nat → Bool} (hk : k < n) (h : ∀ a, a < k → p a = false) (h1 : p k = true) : (List.range n).find? p = some k := by
  rw [List.find?_range_eq_some]
  exact ⟨h1, List.mem_range.2 hk, fun j hj => by rw [h j hj]; rfl⟩
section
variable {ops : List FOp} {L : List (Int × Bool)} {out : List Int}
theorem flatNext_some {k0 k1 : Nat} (hk0 : k0 < 2) (hk1 : k1 < ops.length) (h0 : ∀ j, j < k0 → ∀ a, a < ops.length → condF ops L (j == 0) a = false) (h1 : ∀ a, a < k1 → condF ops L (k0 == 0) a = false) (h2 : condF ops L (k0 == 0) k1 = true) : flatNext ops L = some k1 := by
  rcases k0 with _ | _ | k0
  · rw [flatNext, show (List.range ops.length).find? (condF ops L true) = some k1 from find_at hk1 h1 h2]
  · have := find_false (fun a ha => h0 0 (by omega) a ha)
    rw [flatNext, show (List.range ops.length).find? (condF ops L true) = none from this]
    exact find_at hk1 h1 h2
  · omega
theorem flatNext_none (h0 : ∀ j, j < 2 → ∀ a, a < ops.length → condF ops L (j == 0) a = false) : flatNext ops L = none := by
  rw [flatNext, show (List.range ops.length).find? (condF ops L true) = none from find_false (fun a ha => h0 0 (by omega) a ha)]
  exact find_false (fun a ha => h0 1 (by omega) a ha)
theorem subset_range {l : List Int} {n : Nat} (h : ∀ z ∈ l, 0 ≤ z ∧ z < (n : Int)) (hn : l.Nodup) : l.length ≤ n := by
  have hs : l ⊆ (List.range n).map (Int.ofNat ·) := by
    intro z hz
    have := h z hz
    rw [List.mem_map]
    exact ⟨z.toNat, List.mem_range.2 (by omega), by simp; omega⟩
  have := List.Nodup.length_le_of_subset hn hs
  simpa using this
theorem FlatSt.len (h : FlatSt ops L out) : out.length ≤ ops.length := subset_range h.rng h.nd
theorem FlatSt.snoc {k1 : Nat} (h : FlatSt ops L out) (hk : k1 < ops.length) (hn : flatNext ops L = some k1) (hi : inM L (k1 : Int) = false) : FlatSt ops (putL L (k1 : Int) true) (out ++ [(k1 : Int)]) ∧ out.length < ops.length := by
  have hL := h.L_eq
  have hni : (k1 : Int) ∉ out := by
    rw [hL, putL1_in] at hi; simpa using hi
  have hnd : (out ++ [(k1 : Int)]).Nodup := by
    rw [List.nodup_append]
    exact ⟨h.nd, by simp, fun a ha b hb => by simp at hb; subst hb; rintro rfl; exact hni ha⟩
  have hrng : ∀ z ∈ out ++ [(k1 : Int)], 0 ≤ z ∧ z < (ops.length : Int) := by
    intro z hz
    rcases List.mem_append.1 hz with hz | hz
    · exact h.rng z hz
    · simp at hz; omega
  have hl := subset_range hrng hnd
  rw [List.length_append, List.length_singleton] at hl
  refine ⟨⟨by rw [putL1_snoc, hL], hnd, hrng, ?_⟩, by omega⟩
  rw [h.run, show ops.length - out.length = (ops.length - (out ++ [(k1 : Int)]).length) + 1 by rw [List.length_append, List.length_singleton]; omega, flatRun, ← hL, hn]
theorem FlatSt.end_ (h : FlatSt ops L out) (hn : flatNext ops L = none) : flatP ops = out := by
  rw [h.run]
  cases ops.length - out.length with
  | zero => rfl
  | succ t => rw [flatRun, ← h.L_eq, hn]
theorem condF_1 {pass : Bool} {k : Nat} (h : inM L (k : Int) = true) : condF ops L pass k = false := by simp [condF, h]
theorem condF_2 {pass : Bool} {k : Nat} {o : FOp} (ho : ops[k]? = some o) (h : (pureK o.kind == pass) = false) : condF ops L pass k = false := by
  simp [condF, ho, h]
theorem condF_3 {pass : Bool} {k : Nat} {l : List Int} (hl : (hangsP ops)[k]? = some l) (h : standsB L l = false) : condF ops L pass k = false := by simp [condF, hl, h]
theorem condF_t {pass : Bool} {k : Nat} {o : FOp} {l : List Int} (h1 : inM L (k : Int) = false) (ho : ops[k]? = some o) (h2 : (pureK o.kind == pass) = true) (hl : (hangsP ops)[k]? = some l) (h3 : standsB L l = true) : condF ops L pass k = true := by
  simp only [condF, h1, List.getD_eq_getElem?_getD, ho, hl, Option.getD_some, h2, h3]; rfl
theorem pass_lit {k : Nat} (h : k < 2) : [Value.bool true, Value.bool false][k]? = some (.bool (k == 0)) := by
  rcases k with _ | _ | k
  · rfl
  · rfl
  · omega
end
end Go.Proofs.YtipmgkhjoekaaaaGreat

set_option linter.unusedVariables false
set_option linter.unusedSimpArgs false
namespace Go.Proofs.YtipmgkhjoekaaaaGreat.Fw
open Go Go.RowKit
/-! Cells of structs, one behind the other. -/
structure SRows {α : Type _} (r : Rep α) (sz : Nat) (m : Imm) (xs : List Value) (l : List α) : Prop where
  len : xs.length = l.length * sz
  at_ : ∀ j z, l[j]? = some z → ∃ es, es.length = sz ∧ r m es z ∧ ∀ k v, es[k]? = some v → xs[j * sz + k]? = some v
section
variable {α : Type _} {r : Rep α} {sz : Nat} {m : Imm} {xs : List Value} {l : List α}
theorem SRows.nil : SRows r sz m [] [] := ⟨by simp, by simp⟩
theorem SRows.mono (hr : Mono r) {m' : Imm} (hm : m.le m') (h : SRows r sz m xs l) : SRows r sz m' xs l := ⟨h.len, fun j z hj => by
  obtain ⟨es, h1, h2, h3⟩ := h.at_ j z hj
  exact ⟨es, h1, hr _ _ _ _ hm h2, h3⟩⟩
theorem SRows.snoc (h : SRows r sz m xs l) {es : List Value} {z : α} (hes : es.length = sz) (hz : r m es z) : SRows r sz m (xs ++ es) (l ++ [z]) := by
  refine ⟨by rw [List.length_append, List.length_append, h.len, hes, List.length_singleton, Nat.add_mul, Nat.one_mul], fun j z' hj => ?_⟩
  by_cases hjn : j < l.length
  · rw [List.getElem?_append_left hjn] at hj
    obtain ⟨es', h1, h2, h3⟩ := h.at_ j z' hj
    refine ⟨es', h1, h2, fun k v hk => ?_⟩
    have h4 := h3 k v hk
    rw [List.getElem?_append_left (List.getElem?_eq_some_iff.1 h4).1]; exact h4
  · have hlt := (List.getElem?_eq_some_iff.1 hj).1
    rw [List.length_append, List.length_singleton] at hlt
    obtain rfl : j = l.length := by omega
    rw [List.getElem?_append_right (Nat.le_refl _), Nat.sub_self] at hj
    simp only [List.getElem?_cons_zero, Option.some.injEq] at hj
    subst hj
    refine ⟨es, hes, hz, fun k v hk => ?_⟩
    rw [List.getElem?_append_right (by rw [h.len]; omega), h.len, Nat.add_sub_cancel_left]; exact hk
theorem SRows.sl (h : SRows r sz m xs l) {g' : Option Nat} {cap : Nat} (hf : Frz g' xs m) (h1 : l.length ≤ cap) (h2 : cap ≤ maxLen) (hlen : l.length ≤ 140737488355328) (hg : 0 < l.length → ∃ b, g' = some b) : Sl r sz m (rowA g') cap l :=
  Sl_frz hf h1 h2 hlen hg h.at_
/-- One cell of one of them turns. -/
theorem SRows.set (h : SRows r sz m xs l) {j k : Nat} {z z' : α} {v : Value} (hj : l[j]? = some z) (hk : k < sz) (hz : ∀ es, es.length = sz → r m es z → r m (es.set k v) z') : SRows r sz m (xs.set (j * sz + k) v) (l.set j z') := by
  have hjl := (List.getElem?_eq_some_iff.1 hj).1
  refine ⟨by simp [h.len], fun j' y hy => ?_⟩
  by_cases e : j' = j
  · subst e
    rw [List.getElem?_set_self hjl] at hy
    cases hy
    obtain ⟨es, h1, h2, h3⟩ := h.at_ j' z hj
    refine ⟨es.set k v, by simp [h1], hz es h1 h2, fun i u hi => ?_⟩
    by_cases e2 : i = k
    · subst e2
      rw [List.getElem?_set_self (by omega)] at hi
      cases hi
      have hlt : j' * sz + i < xs.length := by
        rw [h.len]
        calc j' * sz + i < j' * sz + sz := by omega
          _ = (j' + 1) * sz := by rw [Nat.add_mul, Nat.one_mul]
          _ ≤ l.length * sz := Nat.mul_le_mul_right _ hjl
      rw [List.getElem?_set_self hlt]
    · rw [List.getElem?_set_ne (Ne.symm e2)] at hi
      rw [List.getElem?_set_ne (by omega)]
      exact h3 i u hi
  · rw [List.getElem?_set_ne (Ne.symm e)] at hy
    obtain ⟨es, h1, h2, h3⟩ := h.at_ j' y hy
    refine ⟨es, h1, h2, fun i u hi => ?_⟩
    have hi' : i < sz := by have := (List.getElem?_eq_some_iff.1 hi).1; omega
    have hne : j * sz + k ≠ j' * sz + i := by
      intro e3
      have h4 : (j * sz + k) / sz = (j' * sz + i) / sz := by rw [e3]
      rw [Nat.mul_comm j, Nat.mul_comm j', Nat.mul_add_div (by omega), Nat.mul_add_div (by omega), Nat.div_eq_of_lt hk, Nat.div_eq_of_lt hi'] at h4
      omega
    rw [List.getElem?_set_ne hne]
    exact h3 i u hi
/-- The cells that a slice that stays is kept in. -/
theorem SRows.of_sl {A : Option Addr} {ad : Addr} {c : Nat} (h : Sl r sz m A c l) (hA : A = some ad) (h1 : ∀ es z, r m es z → es.all (·.oneCell') = true) :
    ∃ ys, SRows r sz m ys l ∧ ys.all (·.oneCell') = true ∧ ∀ j u, ys[j]? = some u → m.cell? (ad.add j) = some u := by
  have : ∀ k, k ≤ l.length → ∃ ys, SRows r sz m ys (l.take k) ∧ ys.all (·.oneCell') = true ∧ ∀ j u, ys[j]? = some u → m.cell? (ad.add j) = some u := by
    intro k
    induction k with
    | zero => intro _; exact ⟨[], SRows.nil, rfl, by simp⟩
    | succ k ih =>
      intro hk
      obtain ⟨ys, a1, a2, a3⟩ := ih (by omega)
      have hz : l[k]? = some l[k] := List.getElem?_eq_getElem (by omega)
      obtain ⟨es, b1, b2, b3⟩ := h.get hA hz
      refine ⟨ys ++ es, by rw [List.take_add_one, hz]; exact a1.snoc b2 b1, by rw [List.all_append, a2, h1 es _ b1]; rfl, fun j u hj => ?_⟩
      have hyl : ys.length = k * sz := by rw [a1.len, List.length_take, Nat.min_eq_left (by omega)]
      by_cases hjn : j < ys.length
      · rw [List.getElem?_append_left hjn] at hj; exact a3 j u hj
      · rw [List.getElem?_append_right (by omega)] at hj
        have := b3 _ u hj
        rw [add_add, hyl, show k * sz + (j - k * sz) = j by omega] at this
        exact this
  obtain ⟨ys, a1, a2, a3⟩ := this l.length (Nat.le_refl _)
  rw [List.take_length] at a1
  exact ⟨ys, a1, a2, a3⟩
end
theorem Src.of_cells {s : Fw.Start} {m : Imm} {R : List Res} {ad : Addr} {c : Nat} {ys : List Value} (h : ∀ j u, ys[j]? = some u → m.cell? (ad.add j) = some u) : Src s m R (some ad) c ys :=
  ⟨fun w hS j u hj => ⟨ad, rfl, hS.inW.cell (h j u hj)⟩, fun e => by cases e⟩
theorem one_op {m : Imm} (es : List Value) (z : FOp) (h : rOp m es z) : es.all (·.oneCell') = true := by
  obtain ⟨A, c, rfl, _⟩ := h; rfl
theorem one_phi {m : Imm} (es : List Value) (z : FPhi) (h : rPhi m es z) : es.all (·.oneCell') = true := by
  obtain ⟨A, c, A', c', rfl, _⟩ := h; rfl
theorem one_block {m : Imm} (es : List Value) (z : FBlk) (h : rBlock m es z) : es.all (·.oneCell') = true := by
  obtain ⟨A, c, A', c', A'', c'', rfl, _⟩ := h; rfl
theorem block_ops {m : Imm} {b : FBlk} {A : Option Addr} {c : Nat} {ops : List FOp} (h : Sl rOp 6 m A c ops) (es : List Value) (hb : rBlock m es b) : rBlock m (es.set 1 (.slice A ops.length c)) { b with ops := ops } := by
  obtain ⟨A1, c1, A2, c2, A3, c3, rfl, h1, h2, h3, h4⟩ := hb
  exact ⟨A1, c1, A, c, A3, c3, rfl, h1, h, h3, h4⟩
section
variable {P : Program} {ops : Array Oper} {Q : Post} {rest : List Oper} {n : Nat} {s : Start} {m : Imm} {R : List Res} {L : Loc}
variable {d : Nat} {dst : Option Nat} {ty : TypeId} {pos : String} {af : Array Edge} {g : Option (Nat × Bool)} {x y : Operand}
/-- A store of one cell into a row of structs. -/
theorem S_storerk {T b o n' cap e sz : Nat} {xs : List Value} {v : Value} (i : Nat) (hx : ev L x = some (.pointer (some ⟨b, o, none⟩))) (hy : ev L y = some v) (hc : v.cells = #[v]) (h1 : v.oneCell' = true) (hs : sz? P T = some 1) (hi : R[i]? = some (row (some b) n' cap e sz xs))
    (ho : o < xs.length) (next : WL P ops Q rest n s m (R.set i (row (some b) n' cap e sz (xs.set o v))) L) : WL P ops Q (⟨none, .store T x y, ty, pos, af, none⟩ :: rest) n s m R L :=
  S_storer (xs' := xs.set o v) (vs := [v]) i hx hy (by rw [hc]) hs hi (by simp [h1]) (by simp only [List.length_cons, List.length_nil]; omega) (set_one ho) next
/-- Equal numbers. -/
theorem r_eqt {k : IntKind} {i j : Int} {T T' : TypeId} (hx : ev L x = some (.int k i)) (hy : ev L y = some (.int k j)) (h : i = j) : Qt P ⟨dst, .binOp .eql T x y T', ty, pos, af, g⟩ n m R L (.bool true) := by
  have := r_bin (P := P) (n := n) (m := m) (R := R) (dst := dst) (ty := ty) (pos := pos) (af := af) (g := g) (T := T) (T' := T') hx hy (bin_eql _ _ _ _)
  subst h
  simpa using this
theorem r_nef {k : IntKind} {i j : Int} {T T' : TypeId} (hx : ev L x = some (.int k i)) (hy : ev L y = some (.int k j)) (h : i = j) : Qt P ⟨dst, .binOp .neq T x y T', ty, pos, af, g⟩ n m R L (.bool false) := by
  have := r_bin (P := P) (n := n) (m := m) (R := R) (dst := dst) (ty := ty) (pos := pos) (af := af) (g := g) (T := T) (T' := T') hx hy (bin_neq _ _ _ _)
  subst h
  simpa using this
end
end Go.Proofs.YtipmgkhjoekaaaaGreat.Fw

set_option linter.unusedVariables false
namespace Go.Proofs.YtipmgkhjoekaaaaGreat
open Go Go.Proofs.YtipmgkhjoekaaaaGreat.Fw
/-! A function with a block's operations in an order. -/
theorem LegalP_ex {f : FFun} {block : Int} {order : List Int} (h : LegalP f block order = true) : rightP f block = true ∧ ∃ b, f.blocks[block.toNat]? = some b ∧ legalP b order = true := by
  simp only [LegalP, Bool.and_eq_true] at h
  refine ⟨h.1, ?_⟩
  have h2 := h.2
  split at h2
  · rename_i b hb; exact ⟨b, hb, h2⟩
  · cases h2
theorem legalP_len {b : FBlk} {order : List Int} (h : legalP b order = true) : order.length = b.ops.length := by
  simp only [legalP, Bool.and_eq_true, decide_eq_true_eq] at h; exact h.1
theorem legalP_ok {b : FBlk} {order : List Int} (h : legalP b order = true) {k : Nat} (hk : k < order.length) : okO b order k = true := by
  simp only [legalP, Bool.and_eq_true, decide_eq_true_eq] at h
  exact List.all_eq_true.1 h.2 k (List.mem_range.2 hk)
theorem okO_rng {b : FBlk} {order : List Int} {k : Nat} {a : Int} (h : okO b order k = true) (ha : order[k]? = some a) : 0 ≤ a ∧ a < (b.ops.length : Int) := by
  simp only [okO, ha, Bool.and_eq_true, Bool.not_eq_true', Bool.or_eq_false_iff, decide_eq_false_iff_not] at h
  omega
theorem legalP_rng {b : FBlk} {order : List Int} (h : legalP b order = true) : ∀ a ∈ order, 0 ≤ a ∧ a < (b.ops.length : Int) := by
  intro a ha
  obtain ⟨k, hk⟩ := List.mem_iff_getElem?.1 ha
  exact okO_rng (legalP_ok h (List.getElem?_eq_some_iff.1 hk).1) hk
theorem ordOps_succ {b : FBlk} {order : List Int} {k : Nat} {a : Int} {o : FOp} (h : order[k]? = some a) (ho : b.ops[a.toNat]? = some o) : ordOps b (order.take (k + 1)) = ordOps b (order.take k) ++ [o] := by
  rw [ordOps, ordOps, List.take_add_one, h]; simp [ho]
theorem putOps_set {f : FFun} {block : Int} {order : List Int} {b : FBlk} (hb : f.blocks[block.toNat]? = some b) : putOps f block order = { f with blocks := f.blocks.set block.toNat { b with ops := ordOps b order } } := by
  rw [putOps, List.modify_eq_set, hb]; rfl
def PutΦ (f : FFun) (block : Int) (order : List Int) (m : Imm) (v : Value) : Prop :=
  (LegalP f block order = true ∧ ∃ es, v = .tuple #[.agg es.toArray, .int .i64 0] ∧ rFunc m es (putOps f block order)) ∨ (LegalP f block order = false ∧ v = .tuple #[.agg #[.slice none 0 0, .int .i64 0, .slice none 0 0], .int .i64 10])
end Go.Proofs.YtipmgkhjoekaaaaGreat

