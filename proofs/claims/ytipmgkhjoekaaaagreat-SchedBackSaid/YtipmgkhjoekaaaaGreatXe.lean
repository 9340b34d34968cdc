/- A part of a proof about a given program: rules, plain functions and walks. -/
import Derived.Deep.Slices
import Derived.SizedLaws
import Derived.Test.YtipmgkhjoekaaaaGreatXd
set_option linter.unusedVariables false
set_option linter.unusedSimpArgs false
namespace Go.Proofs.YtipmgkhjoekaaaaGreat
open Go Go.RowKit Go.Proofs Go.Proofs.YtipmgkhjoekaaaaGreat.Fw
attribute [local irreducible] Qt WL CW NX RX EX GX DL
namespace T
theorem ag67 : agg? Tryz.prog 67 = some false := by kernel_rfl
theorem hb36 : hasBody Tryz.prog 36 = true := by kernel_rfl
theorem hb49 : hasBody Tryz.prog 49 = true := by kernel_rfl
theorem hb50 : hasBody Tryz.prog 50 = true := by kernel_rfl
theorem hb52 : hasBody Tryz.prog 52 = true := by kernel_rfl
theorem hb54 : hasBody Tryz.prog 54 = true := by kernel_rfl
theorem hb87 : hasBody Tryz.prog 87 = true := by kernel_rfl
theorem ze4 : zero? Tryz.prog 4 = some (.bool false) := by kernel_rfl
end T
theorem ints_nil {m : Imm} {l : List Int} (h : l = []) : ∃ A' c', Value.slice none 0 0 = .slice A' l.length c' ∧ Ints m A' c' l := by subst h; exact ⟨none, 0, rfl, Sl.nil _ _ _⟩
theorem ints_is {m : Imm} {l z : List Int} {A : Option Addr} {c : Nat} (e : l = z) (h : Ints m A c z) : ∃ A' c', Value.slice A z.length c = .slice A' l.length c' ∧ Ints m A' c' l := by subst e; exact ⟨A, c, rfl, h⟩
set_option maxHeartbeats 4000000 in
/-- sched.stands$1 -/
theorem stands1_q {m : Imm} {mb : Nat} {ll : List (Int × Bool)} (hM : MapIn m mb (valL Value.bool ll)) (a : Int) {ad : Addr} (hp : m.cell? ad = some (.map (some mb))) : Quiet Tryz.prog 87 [.int .i64 a, .pointer (some ad)] m (.bool (!(inM ll a))) := by
 refine quiet_of Tryz.func87 rfl Tryz.ntmps87 rfl (fun w => ?_)
 refine CW_seq ?_
 refine CW_region ?_
 refine W_q (r_assign rfl) rfl ?_
 refine W_nil ?_
 refine NX_as (L' := [(0, _), (1, _), (3, _)]) [0, 1, 3] rfl ?_
 refine CW_seq ?_
 refine CW_region ?_
 refine W_q (r_load_imm rfl T.ag67 hp) rfl ?_
 refine W_q (r_move rfl) rfl ?_
 refine W_q (r_lookupF hM Tryz.underlying67 Tryz.underlying3 T.ze4 rfl rfl (val_getD Value.bool _ _ false)) rfl ?_
 refine W_q (r_not rfl) rfl ?_
 refine W_q (r_assign rfl) rfl ?_
 refine W_nil ?_
 refine NX_as (L' := [(3, _)]) [3] rfl ?_
 refine C_ret (RX_q1 rfl rfl ?_)
 rfl

set_option maxHeartbeats 4000000 in
/-- sched.stands -/
theorem stands_q {m : Imm} {mb : Nat} {ll : List (Int × Bool)} (hM : MapIn m mb (valL Value.bool ll)) {A : Option Addr} {c : Nat} {l : List Int} (h : Ints m A c l) : Quiet Tryz.prog 54 [.map (some mb), .slice A l.length c] m (.bool (standsB ll l)) := by
 refine quiet_of Tryz.func54 rfl Tryz.ntmps54 rfl (fun w => ?_)
 refine CW_seq ?_
 refine CW_region ?_
 refine S_box (l := [_]) rfl rfl rfl (fun b1 => ?_)
 refine W_q (r_assign rfl) rfl ?_
 refine W_nil ?_
 refine NX_as (L' := [(1, _), (2, _), (4, _)]) [1, 2, 4] rfl ?_
 refine CW_seq ?_
 refine CW_region ?_
 refine W_q (r_move rfl) rfl ?_
 refine W_q (r_makeFunc (first := []) (cap := [_]) rfl rfl) rfl ?_
 refine W_q (r_quietb 0 rfl (fun m' le hc => ContainsFuncI_q (h.mono rI_mono le) (p := fun a => !(inM ll a)) (K := 87) T.hb87 (fun z hz => stands1_q (hM.mono le) z (hc 0 _ rfl))) T.hb86 rfl) rfl ?_
 refine W_q (r_not rfl) rfl ?_
 refine W_q (r_assign rfl) rfl ?_
 refine W_nil ?_
 refine NX_as (L' := [(4, _)]) [4] rfl ?_
 refine C_ret (RX_q1 rfl rfl ?_)
 simp_all [standsB]

set_option maxHeartbeats 4000000 in
/-- sched.right -/
theorem sright_q {m : Imm} {es : List Value} {f : FFun} (hF : rFunc m es f) (block : Int) : Quiet Tryz.prog 49 [.agg es.toArray, .int .i64 block] m (.bool (rightP f block)) := by
 have hF_0 := hF
 obtain ⟨A90, c90, B90, d90, rfl, hq90, hb90, i90a⟩ := hF_0
 refine quiet_of Tryz.func49 rfl Tryz.ntmps49 rfl (fun w => ?_)
 refine CW_seq ?_
 refine CW_region ?_
 refine S_box (l := [_, _, _]) rfl rfl rfl (fun b1 => ?_)
 refine W_q (r_assign rfl) rfl ?_
 refine W_nil ?_
 refine NX_as (L' := [(1, _), (2, _), (4, _)]) [1, 2, 4] rfl ?_
 refine CW_seq ?_
 refine CW_region ?_
 refine W_q (r_move rfl) rfl ?_
 refine W_q (r_bin rfl rfl (bin_geq _ _ _ _)) rfl ?_
 refine W_q (r_move rfl) rfl ?_
 refine WL_split (t := 7) rfl (fun h2 => ?_) (fun h2 => ?_)
 ·(try simp only [tA, tB, tC, tD, tE, tF, tG, tH, tI, tJ, tK, tL] at h2)
  refine WL_take rfl rfl ?_
  refine W_q (r_move rfl) rfl ?_
  refine WL_take rfl rfl ?_
  refine W_q (r_fieldb (o' := 2) rfl T.fo25_2 rfl) rfl ?_
  refine WL_take rfl rfl ?_
  refine W_q (r_loadb 0 rfl T.ag23 rfl rfl) rfl ?_
  refine WL_take rfl rfl ?_
  refine W_q (r_len Tryz.underlying23 rfl) rfl ?_
  refine WL_take rfl rfl ?_
  refine W_q (r_bin rfl rfl (bin_lss _ _ _ _)) rfl ?_
  refine W_q (r_pick_t rfl rfl) rfl ?_
  refine W_q (r_move rfl) rfl ?_
  refine WL_split (t := 14) rfl (fun h3 => ?_) (fun h3 => ?_)
  ·(try simp only [tA, tB, tC, tD, tE, tF, tG, tH, tI, tJ, tK, tL] at h3)
   refine WL_take rfl rfl ?_
   refine W_q (r_loadbk 0 (vs := [_, _, _]) rfl T.ag25 T.sz25 rfl rfl rfl) rfl ?_
   refine WL_take rfl rfl ?_
   refine W_quiet (Check_q hF _) T.hb36 rfl rfl ?_
   refine WL_take rfl rfl ?_
   refine W_q (r_bin rfl rfl (bin_eql _ _ _ _)) rfl ?_
   refine W_q (r_pick_t rfl rfl) rfl ?_
   refine W_q (r_assign rfl) rfl ?_
   refine W_nil ?_
   refine NX_as (L' := [(4, _)]) [4] rfl ?_
   refine C_ret (RX_q1 rfl rfl ?_)
   simp_all [rightP]
   try omega
  ·(try simp only [tA, tB, tC, tD, tE, tF, tG, tH, tI, tJ, tK, tL] at h3)
   refine WL_pass rfl rfl rfl rfl ?_
   refine WL_pass rfl rfl rfl rfl ?_
   refine WL_pass rfl rfl rfl rfl ?_
   refine W_q (r_pick_f rfl rfl) rfl ?_
   refine W_q (r_assign rfl) rfl ?_
   refine W_nil ?_
   refine NX_as (L' := [(4, _)]) [4] rfl ?_
   refine C_ret (RX_q1 rfl rfl ?_)
   simp_all [rightP]
   try omega
 ·(try simp only [tA, tB, tC, tD, tE, tF, tG, tH, tI, tJ, tK, tL] at h2)
  refine WL_pass rfl rfl rfl rfl ?_
  refine WL_pass rfl rfl rfl rfl ?_
  refine WL_pass rfl rfl rfl rfl ?_
  refine WL_pass rfl rfl rfl rfl ?_
  refine WL_pass rfl rfl rfl rfl ?_
  refine W_q (r_pick_f rfl rfl) rfl ?_
  refine W_q (r_move rfl) rfl ?_
  refine WL_pass rfl rfl rfl rfl ?_
  refine WL_pass rfl rfl rfl rfl ?_
  refine WL_pass rfl rfl rfl rfl ?_
  refine W_q (r_pick_f rfl rfl) rfl ?_
  refine W_q (r_assign rfl) rfl ?_
  refine W_nil ?_
  refine NX_as (L' := [(4, _)]) [4] rfl ?_
  refine C_ret (RX_q1 rfl rfl ?_)
  simp_all [rightP]
  try omega

set_option maxHeartbeats 40000000 in
/-- sched.legal -/
theorem legal_q {m : Imm} {es : List Value} {b : FBlk} (hB : rBlock m es b) (hol : b.ops.length ≤ 512) (hal : ∀ o ∈ b.ops, o.args.length ≤ 64) {A : Option Addr} {c : Nat} {order : List Int} (h : Ints m A c order) : Quiet Tryz.prog 50 [.agg es.toArray, .slice A order.length c] m (.bool (legalP b order)) := by
 have hB_0 := hB
 obtain ⟨A93, c93, B93, d93, C93, e93, rfl, hp93, ho93, ht93, i93a, i93b⟩ := hB_0
 have hlen := h.len
 have hhl := hangsP_len b.ops
 refine quiet_of Tryz.func50 rfl Tryz.ntmps50 rfl (fun w => ?_)
 refine CW_seq ?_
 refine CW_region ?_
 refine S_box (l := [_, _, _, _, _]) rfl rfl rfl (fun b1 => ?_)
 refine W_q (r_assign rfl) rfl ?_
 refine W_nil ?_
 refine NX_as (L' := [(1, _), (2, _), (4, _)]) [1, 2, 4] rfl ?_
 refine CW_seq ?_
 refine CW_seq ?_
 refine CW_region ?_
 refine W_q (r_move rfl) rfl ?_
 refine W_q (r_len Tryz.underlying22 rfl) rfl ?_
 refine W_q (r_fieldb (o' := 1) rfl T.fo44_1 rfl) rfl ?_
 refine W_q (r_loadb 0 rfl T.ag40 rfl rfl) rfl ?_
 refine W_q (r_len Tryz.underlying40 rfl) rfl ?_
 refine W_q (r_bin rfl rfl (bin_neq _ _ _ _)) rfl ?_
 refine W_nil ?_
 refine NX_as (L' := [(1, _), (2, _), (4, _), (14, _)]) [1, 2, 4, 14] rfl ?_
 refine CW_condk rfl (fun h2 => ?_) (fun h2 => ?_)
 ·(try simp only [tA, tB, tC, tD, tE, tF, tG, tH, tI, tJ, tK, tL] at h2)
  refine CW_seq ?_
  refine CW_region ?_
  refine W_q (r_assign rfl) rfl ?_
  refine W_nil ?_
  refine NX_as (L' := [(1, _), (2, _), (4, _)]) [1, 2, 4] rfl ?_
  refine C_ret (RX_then (RX_q1 rfl rfl ?_))
  first
    | exact congrArg Value.bool (legalP_f0 (by omega)).symm
    | exact congrArg Value.bool (legalP_f «hzo» (okO_f1 «hzo» (by omega))).symm
    | exact congrArg Value.bool (legalP_f «hzo» (okO_f2 «hzo» (by rw [← hx]; assumption))).symm
    | exact congrArg Value.bool (legalP_f «hzo» (okO_f3 «hzo» hz (by rw [← hx]; assumption))).symm
    | exact congrArg Value.bool (legalP_t (by omega) «J0».2).symm
 ·(try simp only [tA, tB, tC, tD, tE, tF, tG, tH, tI, tJ, tK, tL] at h2)
  refine C_skip ?_
  refine NX_as (L' := [(1, _), (2, _), (4, _)]) [1, 2, 4] rfl ?_
  refine CW_seq ?_
  refine CW_region ?_
  refine S_makeMap rfl (fun rm => ?_)
  refine W_q (r_assign rfl) rfl ?_
  refine W_nil ?_
  refine NX_as (L' := [(1, _), (2, _), (4, _), (5, _)]) [1, 2, 4, 5] rfl ?_
  refine CW_seq ?_
  refine CW_region ?_
  refine W_q (r_loadbk 1 (vs := [_, _, _, _, _]) rfl T.ag44 T.sz44 rfl rfl rfl) rfl ?_
  refine S_gives (hangs_g hB hol hal) T.hb52 rfl rfl (fun m3 v3 le3 hv3 => ?_)
  replace hB := rBlock_mono _ _ _ _ le3 hB
  replace hp93 := hp93.mono rPhi_mono le3
  replace ho93 := ho93.mono rOp_mono le3
  replace ht93 := ht93.mono rI_mono le3
  replace h := h.mono rI_mono le3
  obtain ⟨Ah3, ch3, rfl, hh3⟩ := hv3
  refine W_q (r_assign rfl) rfl ?_
  refine W_nil ?_
  refine NX_as (L' := [(1, _), (2, _), (4, _), (5, _), (6, _)]) [1, 2, 4, 5, 6] rfl ?_
  refine CW_seq ?_
  refine CW_seq ?_
  refine CW_region ?_
  refine W_q (r_move rfl) rfl ?_
  refine W_q (r_len Tryz.underlying22 rfl) rfl ?_
  refine W_q (r_move rfl) rfl ?_
  refine W_nil ?_
  refine NX_as (L' := [(2, _), (4, _), (5, _), (6, _), (18, _), (19, _), (20, _)]) [2, 4, 5, 6, 18, 19, 20] rfl ?_
  refine CW_front 0 rfl rfl ?_
  refine C_range (List (Int × Bool)) (order.length) (fun k4 x4 => x4 = putM order k4 ∧ ∀ j, j < k4 → okO b order j = true) (fun k4 x4 => []) (fun k4 x4 => [imap rm (valL Value.bool x4)]) [] [2, 5, 6, 18] (F := [(2, _), (5, _), (6, _), (18, _)]) ([]) rfl rfl (by omega) ⟨rfl, fun j hj => absurd hj (by omega)⟩ rfl rfl rfl rfl rfl rfl rfl (fun _ _ => rfl) (fun _ _ => rfl) (fun k4 x4 hk4 hJ4 => ?_) (fun x4 hJ4 => ?_)
  ·obtain ⟨hx, hJ⟩ := hJ4
   refine CW_as (L' := [(2, _), (5, _), (6, _), (18, _), (19, _), (20, _)]) [2, 5, 6, 18, 19, 20] rfl ?_
   refine CW_seq ?_
   refine CW_region ?_
   obtain ⟨ad5, hA5⟩ := h.ad (j := k4) (by omega)
   obtain ⟨z5, hz5⟩ := h.getz (j := k4) (by omega)
   refine W_q (r_index hA5 Tryz.underlying22 T.sz3 rfl rfl ⟨by omega, by omega⟩) rfl ?_
   obtain ⟨l6, r6⟩ := Sl.getI h hA5 hz5
   refine W_q (r_load_imm rfl T.ag3 l6) rfl ?_
   refine W_q (r_assign rfl) rfl ?_
   refine W_nil ?_
   refine NX_as (L' := [(2, _), (5, _), (6, _), (8, _), (18, _), (19, _), (20, _)]) [2, 5, 6, 8, 18, 19, 20] rfl ?_
   refine CW_seq ?_
   refine CW_seq ?_
   refine CW_region ?_
   refine W_q (r_move rfl) rfl ?_
   refine W_q (r_bin rfl rfl (bin_lss _ _ _ _)) rfl ?_
   refine W_q (r_move rfl) rfl ?_
   refine WL_split (t := 26) rfl (fun h7 => ?_) (fun h7 => ?_)
   ·(try simp only [tA, tB, tC, tD, tE, tF, tG, tH, tI, tJ, tK, tL] at h7)
    refine WL_pass rfl rfl rfl rfl ?_
    refine WL_pass rfl rfl rfl rfl ?_
    refine WL_pass rfl rfl rfl rfl ?_
    refine WL_pass rfl rfl rfl rfl ?_
    refine WL_pass rfl rfl rfl rfl ?_
    refine W_q (r_pick_t rfl rfl) rfl ?_
    refine W_q (r_move rfl) rfl ?_
    refine WL_pass rfl rfl rfl rfl ?_
    refine WL_pass rfl rfl rfl rfl ?_
    refine WL_pass rfl rfl rfl rfl ?_
    refine W_q (r_pick_t rfl rfl) rfl ?_
    refine W_q (r_move rfl) rfl ?_
    refine WL_pass rfl rfl rfl rfl ?_
    refine WL_pass rfl rfl rfl rfl ?_
    refine WL_pass rfl rfl rfl rfl ?_
    refine WL_pass rfl rfl rfl rfl ?_
    refine WL_pass rfl rfl rfl rfl ?_
    refine WL_pass rfl rfl rfl rfl ?_
    refine WL_pass rfl rfl rfl rfl ?_
    refine W_q (r_pick_t rfl rfl) rfl ?_
    refine W_nil ?_
    refine NX_as (L' := [(2, _), (5, _), (6, _), (8, _), (18, _), (19, _), (20, _), (46, _)]) [2, 5, 6, 8, 18, 19, 20, 46] rfl ?_
    refine CW_cond_t rfl ?_
    refine CW_seq ?_
    refine CW_region ?_
    refine W_q (r_assign rfl) rfl ?_
    refine W_nil ?_
    refine NX_as (L' := [(2, _), (4, _), (5, _), (6, _), (8, _), (18, _), (19, _), (20, _)]) [2, 4, 5, 6, 8, 18, 19, 20] rfl ?_
    refine C_ret (RX_then (RX_block (RX_then (RX_block (RX_then (RX_q1 rfl rfl ?_))))))
    first
      | exact congrArg Value.bool (legalP_f0 (by omega)).symm
      | exact congrArg Value.bool (legalP_f hz5 (okO_f1 hz5 (by omega))).symm
      | exact congrArg Value.bool (legalP_f hz5 (okO_f2 hz5 (by rw [← hx]; assumption))).symm
      | exact congrArg Value.bool (legalP_f hz5 (okO_f3 hz5 hz5 (by rw [← hx]; assumption))).symm
      | exact congrArg Value.bool (legalP_t (by omega) hJ4.2).symm
   ·(try simp only [tA, tB, tC, tD, tE, tF, tG, tH, tI, tJ, tK, tL] at h7)
    refine WL_take rfl rfl ?_
    refine W_q (r_move rfl) rfl ?_
    refine WL_take rfl rfl ?_
    refine W_q (r_fieldb (o' := 1) rfl T.fo44_1 rfl) rfl ?_
    refine WL_take rfl rfl ?_
    refine W_q (r_loadb 1 rfl T.ag40 rfl rfl) rfl ?_
    refine WL_take rfl rfl ?_
    refine W_q (r_len Tryz.underlying40 rfl) rfl ?_
    refine WL_take rfl rfl ?_
    refine W_q (r_bin rfl rfl (bin_geq _ _ _ _)) rfl ?_
    refine W_q (r_pick_f rfl rfl) rfl ?_
    refine W_q (r_move rfl) rfl ?_
    refine WL_split (t := 33) rfl (fun h8 => ?_) (fun h8 => ?_)
    ·(try simp only [tA, tB, tC, tD, tE, tF, tG, tH, tI, tJ, tK, tL] at h8)
     refine WL_pass rfl rfl rfl rfl ?_
     refine WL_pass rfl rfl rfl rfl ?_
     refine WL_pass rfl rfl rfl rfl ?_
     refine W_q (r_pick_t rfl rfl) rfl ?_
     refine W_q (r_move rfl) rfl ?_
     refine WL_pass rfl rfl rfl rfl ?_
     refine WL_pass rfl rfl rfl rfl ?_
     refine WL_pass rfl rfl rfl rfl ?_
     refine WL_pass rfl rfl rfl rfl ?_
     refine WL_pass rfl rfl rfl rfl ?_
     refine WL_pass rfl rfl rfl rfl ?_
     refine WL_pass rfl rfl rfl rfl ?_
     refine W_q (r_pick_t rfl rfl) rfl ?_
     refine W_nil ?_
     refine NX_as (L' := [(2, _), (5, _), (6, _), (8, _), (18, _), (19, _), (20, _), (46, _)]) [2, 5, 6, 8, 18, 19, 20, 46] rfl ?_
     refine CW_cond_t rfl ?_
     refine CW_seq ?_
     refine CW_region ?_
     refine W_q (r_assign rfl) rfl ?_
     refine W_nil ?_
     refine NX_as (L' := [(2, _), (4, _), (5, _), (6, _), (8, _), (18, _), (19, _), (20, _)]) [2, 4, 5, 6, 8, 18, 19, 20] rfl ?_
     refine C_ret (RX_then (RX_block (RX_then (RX_block (RX_then (RX_q1 rfl rfl ?_))))))
     first
       | exact congrArg Value.bool (legalP_f0 (by omega)).symm
       | exact congrArg Value.bool (legalP_f hz5 (okO_f1 hz5 (by omega))).symm
       | exact congrArg Value.bool (legalP_f hz5 (okO_f2 hz5 (by rw [← hx]; assumption))).symm
       | exact congrArg Value.bool (legalP_f hz5 (okO_f3 hz5 hz5 (by rw [← hx]; assumption))).symm
       | exact congrArg Value.bool (legalP_t (by omega) hJ4.2).symm
    ·(try simp only [tA, tB, tC, tD, tE, tF, tG, tH, tI, tJ, tK, tL] at h8)
     refine WL_take rfl rfl ?_
     refine W_q (r_move rfl) rfl ?_
     refine WL_take rfl rfl ?_
     refine W_q (r_move rfl) rfl ?_
     refine WL_take rfl rfl ?_
     refine W_q (r_lookup 0 Tryz.underlying67 Tryz.underlying3 T.ze4 rfl rfl rfl (val_getD Value.bool _ _ false)) rfl ?_
     refine W_q (r_pick_f rfl rfl) rfl ?_
     refine W_q (r_move rfl) rfl ?_
     refine WL_split (t := 38) rfl (fun h9 => ?_) (fun h9 => ?_)
     ·(try simp only [tA, tB, tC, tD, tE, tF, tG, tH, tI, tJ, tK, tL] at h9)
      refine WL_pass rfl rfl rfl rfl ?_
      refine WL_pass rfl rfl rfl rfl ?_
      refine WL_pass rfl rfl rfl rfl ?_
      refine WL_pass rfl rfl rfl rfl ?_
      refine WL_pass rfl rfl rfl rfl ?_
      refine WL_pass rfl rfl rfl rfl ?_
      refine WL_pass rfl rfl rfl rfl ?_
      refine W_q (r_pick_t rfl rfl) rfl ?_
      refine W_nil ?_
      refine NX_as (L' := [(2, _), (5, _), (6, _), (8, _), (18, _), (19, _), (20, _), (46, _)]) [2, 5, 6, 8, 18, 19, 20, 46] rfl ?_
      refine CW_cond_t rfl ?_
      refine CW_seq ?_
      refine CW_region ?_
      refine W_q (r_assign rfl) rfl ?_
      refine W_nil ?_
      refine NX_as (L' := [(2, _), (4, _), (5, _), (6, _), (8, _), (18, _), (19, _), (20, _)]) [2, 4, 5, 6, 8, 18, 19, 20] rfl ?_
      refine C_ret (RX_then (RX_block (RX_then (RX_block (RX_then (RX_q1 rfl rfl ?_))))))
      first
        | exact congrArg Value.bool (legalP_f0 (by omega)).symm
        | exact congrArg Value.bool (legalP_f hz5 (okO_f1 hz5 (by omega))).symm
        | exact congrArg Value.bool (legalP_f hz5 (okO_f2 hz5 (by rw [← hx]; assumption))).symm
        | exact congrArg Value.bool (legalP_f hz5 (okO_f3 hz5 hz5 (by rw [← hx]; assumption))).symm
        | exact congrArg Value.bool (legalP_t (by omega) hJ4.2).symm
     ·(try simp only [tA, tB, tC, tD, tE, tF, tG, tH, tI, tJ, tK, tL] at h9)
      refine WL_take rfl rfl ?_
      refine W_q (r_move rfl) rfl ?_
      refine WL_take rfl rfl ?_
      refine W_q (r_move rfl) rfl ?_
      refine WL_take rfl rfl ?_
      refine W_q (r_move rfl) rfl ?_
      refine WL_take rfl rfl ?_
      obtain ⟨ad10, hA10⟩ := hh3.ad (j := z5.toNat) (by omega)
      obtain ⟨z10, hz10⟩ := hh3.getz (j := z5.toNat) (by omega)
      refine W_q (r_index hA10 Tryz.underlying65 T.sz22 rfl rfl ⟨by omega, by omega⟩) rfl ?_
      refine WL_take rfl rfl ?_
      obtain ⟨A11, c11, l11, h11⟩ := Sl.getS hh3 hA10 hz10
      refine W_q (r_load_imm rfl T.ag22 l11) rfl ?_
      refine WL_take rfl rfl ?_
      refine W_q (r_quietM 0 rfl (fun m' le hc => stands_q (ll := x4) hc (h11.mono rI_mono le)) T.hb54 rfl) rfl ?_
      refine WL_take rfl rfl ?_
      refine W_q (r_not rfl) rfl ?_
      refine W_q (r_pick_f rfl rfl) rfl ?_
      refine W_nil ?_
      refine NX_as (L' := [(2, _), (5, _), (6, _), (8, _), (18, _), (19, _), (20, _), (46, _)]) [2, 5, 6, 8, 18, 19, 20, 46] rfl ?_
      refine CW_condk rfl (fun h12 => ?_) (fun h12 => ?_)
      ·(try simp only [tA, tB, tC, tD, tE, tF, tG, tH, tI, tJ, tK, tL] at h12)
       refine CW_seq ?_
       refine CW_region ?_
       refine W_q (r_assign rfl) rfl ?_
       refine W_nil ?_
       refine NX_as (L' := [(2, _), (4, _), (5, _), (6, _), (8, _), (18, _), (19, _), (20, _)]) [2, 4, 5, 6, 8, 18, 19, 20] rfl ?_
       refine C_ret (RX_then (RX_block (RX_then (RX_block (RX_then (RX_q1 rfl rfl ?_))))))
       first
         | exact congrArg Value.bool (legalP_f0 (by omega)).symm
         | exact congrArg Value.bool (legalP_f hz5 (okO_f1 hz5 (by omega))).symm
         | exact congrArg Value.bool (legalP_f hz5 (okO_f2 hz5 (by rw [← hx]; assumption))).symm
         | exact congrArg Value.bool (legalP_f hz5 (okO_f3 hz5 hz10 (by rw [← hx]; assumption))).symm
         | exact congrArg Value.bool (legalP_t (by omega) hJ4.2).symm
      ·(try simp only [tA, tB, tC, tD, tE, tF, tG, tH, tI, tJ, tK, tL] at h12)
       refine C_skip ?_
       refine NX_as (L' := [(2, _), (5, _), (6, _), (8, _), (18, _), (19, _), (20, _)]) [2, 5, 6, 8, 18, 19, 20] rfl ?_
       refine CW_region ?_
       refine W_q (r_move rfl) rfl ?_
       refine W_q (r_move rfl) rfl ?_
       refine S_mapUpdateV (f := Value.bool) (l := x4) true 0 Tryz.underlying67 Tryz.underlying3 rfl rfl rfl rfl ?_
       refine W_nil ?_
       refine NX_block (?_)
       refine NX_rng [2, 5, 6, 18] (_) ?_ rfl (List.Sublist.refl _) rfl (Imm.le_refl _)
       refine ⟨by rw [hx, ← putM_succ hz5], lt_succ_all hJ ?_⟩
       rw [hx] at *
       exact okO_t hz5 (by omega) (by omega) (by assumption) hz10 (by assumption)
  ·refine NX_as (L' := []) [] rfl ?_
   refine CW_seq ?_
   refine CW_region ?_
   refine W_q (r_assign rfl) rfl ?_
   refine W_nil ?_
   refine NX_as (L' := [(4, _)]) [4] rfl ?_
   refine C_ret (RX_q1 rfl rfl ?_)
   first
     | exact congrArg Value.bool (legalP_f0 (by omega)).symm
     | exact congrArg Value.bool (legalP_f hz5 (okO_f1 hz5 (by omega))).symm
     | exact congrArg Value.bool (legalP_f hz5 (okO_f2 hz5 (by rw [← hx]; assumption))).symm
     | exact congrArg Value.bool (legalP_f hz5 (okO_f3 hz5 hz5 (by rw [← hx]; assumption))).symm
     | exact congrArg Value.bool (legalP_t (by omega) hJ4.2).symm

set_option maxHeartbeats 20000000 in
/-- sched.Legal -/
theorem Legal_q {m : Imm} {es : List Value} {f : FFun} (hF : rFunc m es f) (block : Int) {A : Option Addr} {c : Nat} {order : List Int} (h : Ints m A c order) : Quiet Tryz.prog 19 [.agg es.toArray, .int .i64 block, .slice A order.length c] m (.bool (LegalP f block order)) := by
 have hF_0 := hF
 obtain ⟨A90, c90, B90, d90, rfl, hq90, hb90, i90a⟩ := hF_0
 have hbl := hb90.len
 refine quiet_of Tryz.func19 rfl Tryz.ntmps19 rfl (fun w => ?_)
 refine CW_seq ?_
 refine CW_region ?_
 refine S_box (l := [_, _, _]) rfl rfl rfl (fun b1 => ?_)
 refine W_q (r_assign rfl) rfl ?_
 refine W_nil ?_
 refine NX_as (L' := [(1, _), (2, _), (3, _), (6, _)]) [1, 2, 3, 6] rfl ?_
 refine CW_seq ?_
 refine CW_region ?_
 refine W_q (r_loadbk 0 (vs := [_, _, _]) rfl T.ag25 T.sz25 rfl rfl rfl) rfl ?_
 refine W_q (r_move rfl) rfl ?_
 refine W_quiet (sright_q hF _) T.hb49 rfl rfl ?_
 refine W_q (r_move rfl) rfl ?_
 refine WL_split (t := 10) rfl (fun h2 => ?_) (fun h2 => ?_)
 ·(try simp only [tA, tB, tC, tD, tE, tF, tG, tH, tI, tJ, tK, tL] at h2)
  refine WL_take rfl rfl ?_
  refine W_q (r_fieldb (o' := 2) rfl T.fo25_2 rfl) rfl ?_
  refine WL_take rfl rfl ?_
  refine W_q (r_loadb 0 rfl T.ag23 rfl rfl) rfl ?_
  refine WL_take rfl rfl ?_
  refine W_q (r_move rfl) rfl ?_
  refine WL_take rfl rfl ?_
  obtain ⟨ad3, hA3⟩ := hb90.ad (j := block.toNat) (by have := right_block (f := f) (block := block) (by assumption); omega)
  obtain ⟨z3, hz3⟩ := hb90.getz (j := block.toNat) (by have := right_block (f := f) (block := block) (by assumption); omega)
  refine W_q (r_index hA3 Tryz.underlying23 T.sz44 rfl rfl ⟨by have := right_block (f := f) (block := block) (by assumption); omega, by have := right_block (f := f) (block := block) (by assumption); omega⟩) rfl ?_
  refine WL_take rfl rfl ?_
  obtain ⟨es4, f4, _, l4⟩ := Sl.get hb90 hA3 hz3
  have F4 := f4
  obtain ⟨A4, c4, B4, d4, C4, e4, rfl, hp4, ho4, ht4, i4a, i4b⟩ := f4
  refine W_q (r_load_immk (vs := [_, _, _, _, _]) rfl T.ag44 T.sz44 l4) rfl ?_
  refine WL_take rfl rfl ?_
  refine W_q (r_move rfl) rfl ?_
  refine WL_take rfl rfl ?_
  refine W_quiet (legal_q F4 (may_small (right_small (f := f) (block := block) (by assumption)) (List.mem_of_getElem? (by assumption))).1 (may_small (right_small (f := f) (block := block) (by assumption)) (List.mem_of_getElem? (by assumption))).2.1 h) T.hb50 rfl rfl ?_
  refine W_q (r_pick_t rfl rfl) rfl ?_
  refine W_q (r_assign rfl) rfl ?_
  refine W_nil ?_
  refine NX_as (L' := [(6, _)]) [6] rfl ?_
  refine C_ret (RX_q1 rfl rfl ?_)
  first
    | exact congrArg Value.bool (LegalP_t (by assumption) (by assumption)).symm
    | exact congrArg Value.bool (LegalP_f (by assumption)).symm
 ·(try simp only [tA, tB, tC, tD, tE, tF, tG, tH, tI, tJ, tK, tL] at h2)
  refine WL_pass rfl rfl rfl rfl ?_
  refine WL_pass rfl rfl rfl rfl ?_
  refine WL_pass rfl rfl rfl rfl ?_
  refine WL_pass rfl rfl rfl rfl ?_
  refine WL_pass rfl rfl rfl rfl ?_
  refine WL_pass rfl rfl rfl rfl ?_
  refine WL_pass rfl rfl rfl rfl ?_
  refine W_q (r_pick_f rfl rfl) rfl ?_
  refine W_q (r_assign rfl) rfl ?_
  refine W_nil ?_
  refine NX_as (L' := [(6, _)]) [6] rfl ?_
  refine C_ret (RX_q1 rfl rfl ?_)
  first
    | exact congrArg Value.bool (LegalP_t (by assumption) (by assumption)).symm
    | exact congrArg Value.bool (LegalP_f (by assumption)).symm

set_option maxHeartbeats 20000000 in
/-- sched.Hangs -/
theorem Hangs_g {m : Imm} {es : List Value} {f : FFun} (hF : rFunc m es f) (block : Int) (at_ : Int) : Gives Tryz.prog 22 [.agg es.toArray, .int .i64 block, .int .i64 at_] m (fun m' v => ∃ A' c', v = .slice A' (HangsP f block at_).length c' ∧ Ints m' A' c' (HangsP f block at_)) := by
 have hF_0 := hF
 obtain ⟨A90, c90, B90, d90, rfl, hq90, hb90, i90a⟩ := hF_0
 have hbl := hb90.len
 refine gives_of Tryz.func22 rfl Tryz.ntmps22 rfl (fun w => ?_)
 refine CW_seq ?_
 refine CW_region ?_
 refine S_box (l := [_, _, _]) rfl rfl rfl (fun b1 => ?_)
 refine W_q (r_assign rfl) rfl ?_
 refine W_nil ?_
 refine NX_as (L' := [(1, _), (2, _), (3, _), (6, _)]) [1, 2, 3, 6] rfl ?_
 refine CW_seq ?_
 refine CW_seq ?_
 refine CW_region ?_
 refine W_q (r_loadbk 0 (vs := [_, _, _]) rfl T.ag25 T.sz25 rfl rfl rfl) rfl ?_
 refine W_q (r_move rfl) rfl ?_
 refine W_quiet (sright_q hF _) T.hb49 rfl rfl ?_
 refine W_q (r_not rfl) rfl ?_
 refine W_q (r_move rfl) rfl ?_
 refine WL_split (t := 11) rfl (fun h2 => ?_) (fun h2 => ?_)
 ·(try simp only [tA, tB, tC, tD, tE, tF, tG, tH, tI, tJ, tK, tL] at h2)
  refine WL_pass rfl rfl rfl rfl ?_
  refine WL_pass rfl rfl rfl rfl ?_
  refine W_q (r_pick_t rfl rfl) rfl ?_
  refine W_q (r_move rfl) rfl ?_
  refine WL_pass rfl rfl rfl rfl ?_
  refine WL_pass rfl rfl rfl rfl ?_
  refine WL_pass rfl rfl rfl rfl ?_
  refine WL_pass rfl rfl rfl rfl ?_
  refine WL_pass rfl rfl rfl rfl ?_
  refine WL_pass rfl rfl rfl rfl ?_
  refine WL_pass rfl rfl rfl rfl ?_
  refine WL_pass rfl rfl rfl rfl ?_
  refine WL_pass rfl rfl rfl rfl ?_
  refine W_q (r_pick_t rfl rfl) rfl ?_
  refine W_nil ?_
  refine NX_as (L' := [(1, _), (2, _), (3, _), (6, _), (25, _)]) [1, 2, 3, 6, 25] rfl ?_
  refine CW_cond_t rfl ?_
  refine CW_seq ?_
  refine CW_region ?_
  refine W_q (r_assign rfl) rfl ?_
  refine W_nil ?_
  refine NX_as (L' := [(1, _), (2, _), (3, _), (6, _)]) [1, 2, 3, 6] rfl ?_
  exact C_ret (RX_then (RX_g1 rfl rfl (ints_nil (HangsP_f (by assumption)))))
 ·(try simp only [tA, tB, tC, tD, tE, tF, tG, tH, tI, tJ, tK, tL] at h2)
  refine WL_take rfl rfl ?_
  refine W_q (r_move rfl) rfl ?_
  refine WL_take rfl rfl ?_
  refine W_q (r_bin rfl rfl (bin_lss _ _ _ _)) rfl ?_
  refine W_q (r_pick_f rfl rfl) rfl ?_
  refine W_q (r_move rfl) rfl ?_
  refine WL_split (t := 15) rfl (fun h3 => ?_) (fun h3 => ?_)
  ·(try simp only [tA, tB, tC, tD, tE, tF, tG, tH, tI, tJ, tK, tL] at h3)
   refine WL_pass rfl rfl rfl rfl ?_
   refine WL_pass rfl rfl rfl rfl ?_
   refine WL_pass rfl rfl rfl rfl ?_
   refine WL_pass rfl rfl rfl rfl ?_
   refine WL_pass rfl rfl rfl rfl ?_
   refine WL_pass rfl rfl rfl rfl ?_
   refine WL_pass rfl rfl rfl rfl ?_
   refine WL_pass rfl rfl rfl rfl ?_
   refine WL_pass rfl rfl rfl rfl ?_
   refine W_q (r_pick_t rfl rfl) rfl ?_
   refine W_nil ?_
   refine NX_as (L' := [(1, _), (2, _), (3, _), (6, _), (25, _)]) [1, 2, 3, 6, 25] rfl ?_
   refine CW_cond_t rfl ?_
   refine CW_seq ?_
   refine CW_region ?_
   refine W_q (r_assign rfl) rfl ?_
   refine W_nil ?_
   refine NX_as (L' := [(1, _), (2, _), (3, _), (6, _)]) [1, 2, 3, 6] rfl ?_
   exact C_ret (RX_then (RX_g1 rfl rfl (ints_nil (HangsP_f1 (by assumption)))))
  ·(try simp only [tA, tB, tC, tD, tE, tF, tG, tH, tI, tJ, tK, tL] at h3)
   refine WL_take rfl rfl ?_
   refine W_q (r_move rfl) rfl ?_
   refine WL_take rfl rfl ?_
   refine W_q (r_fieldb (o' := 2) rfl T.fo25_2 rfl) rfl ?_
   refine WL_take rfl rfl ?_
   refine W_q (r_loadb 0 rfl T.ag23 rfl rfl) rfl ?_
   refine WL_take rfl rfl ?_
   refine W_q (r_move rfl) rfl ?_
   refine WL_take rfl rfl ?_
   obtain ⟨ad4, hA4⟩ := hb90.ad (j := block.toNat) (by have := right_block (f := f) (block := block) (by assumption); omega)
   obtain ⟨z4, hz4⟩ := hb90.getz (j := block.toNat) (by have := right_block (f := f) (block := block) (by assumption); omega)
   refine W_q (r_index hA4 Tryz.underlying23 T.sz44 rfl rfl ⟨by have := right_block (f := f) (block := block) (by assumption); omega, by have := right_block (f := f) (block := block) (by assumption); omega⟩) rfl ?_
   refine WL_take rfl rfl ?_
   refine W_q (r_field rfl T.fo44_1) rfl ?_
   refine WL_take rfl rfl ?_
   obtain ⟨es5, f5, _, l5⟩ := Sl.get hb90 hA4 hz4
   obtain ⟨A5, c5, B5, d5, C5, e5, rfl, hp5, ho5, ht5, i5a, i5b⟩ := f5
   refine W_q (r_load_imm rfl T.ag40 (l5 1 _ rfl)) rfl ?_
   refine WL_take rfl rfl ?_
   refine W_q (r_len Tryz.underlying40 rfl) rfl ?_
   refine WL_take rfl rfl ?_
   refine W_q (r_bin rfl rfl (bin_geq _ _ _ _)) rfl ?_
   refine W_q (r_pick_f rfl rfl) rfl ?_
   refine W_nil ?_
   refine NX_as (L' := [(1, _), (2, _), (3, _), (6, _), (25, _)]) [1, 2, 3, 6, 25] rfl ?_
   refine CW_condk rfl (fun h6 => ?_) (fun h6 => ?_)
   ·(try simp only [tA, tB, tC, tD, tE, tF, tG, tH, tI, tJ, tK, tL] at h6)
    refine CW_seq ?_
    refine CW_region ?_
    refine W_q (r_assign rfl) rfl ?_
    refine W_nil ?_
    refine NX_as (L' := [(1, _), (2, _), (3, _), (6, _)]) [1, 2, 3, 6] rfl ?_
    exact C_ret (RX_then (RX_g1 rfl rfl (ints_nil (HangsP_f2 (by assumption) (by omega)))))
   ·(try simp only [tA, tB, tC, tD, tE, tF, tG, tH, tI, tJ, tK, tL] at h6)
    refine C_skip ?_
    refine NX_as (L' := [(1, _), (2, _), (3, _), (6, _)]) [1, 2, 3, 6] rfl ?_
    refine CW_seq ?_
    refine CW_region ?_
    refine W_q (r_fieldb (o' := 2) rfl T.fo25_2 rfl) rfl ?_
    refine W_q (r_loadb 0 rfl T.ag23 rfl rfl) rfl ?_
    refine W_q (r_move rfl) rfl ?_
    obtain ⟨ad7, hA7⟩ := hb90.ad (j := block.toNat) (by have := right_block (f := f) (block := block) (by assumption); omega)
    refine W_q (r_index hA7 Tryz.underlying23 T.sz44 rfl rfl ⟨by have := right_block (f := f) (block := block) (by assumption); omega, by have := right_block (f := f) (block := block) (by assumption); omega⟩) rfl ?_
    obtain ⟨es8, f8, _, l8⟩ := Sl.get hb90 hA7 hz4
    have F8 := f8
    obtain ⟨A8, c8, B8, d8, C8, e8, rfl, hp8, ho8, ht8, i8a, i8b⟩ := f8
    refine W_q (r_load_immk (vs := [_, _, _, _, _]) rfl T.ag44 T.sz44 l8) rfl ?_
    refine S_gives (hangs_g F8 (may_small (right_small (f := f) (block := block) (by assumption)) (List.mem_of_getElem? (by assumption))).1 (may_small (right_small (f := f) (block := block) (by assumption)) (List.mem_of_getElem? (by assumption))).2.1) T.hb52 rfl rfl (fun m9 v9 le9 hv9 => ?_)
    replace hF := rFunc_mono _ _ _ _ le9 hF
    replace hq90 := hq90.mono rI_mono le9
    replace hb90 := hb90.mono rBlock_mono le9
    replace hp5 := hp5.mono rPhi_mono le9
    replace ho5 := ho5.mono rOp_mono le9
    replace ht5 := ht5.mono rI_mono le9
    replace F8 := rBlock_mono _ _ _ _ le9 F8
    replace hp8 := hp8.mono rPhi_mono le9
    replace ho8 := ho8.mono rOp_mono le9
    replace ht8 := ht8.mono rI_mono le9
    obtain ⟨Ah9, ch9, rfl, hh9⟩ := hv9
    refine W_q (r_move rfl) rfl ?_
    obtain ⟨ad10, hA10⟩ := hh9.ad (j := at_.toNat) (by rw [hangsP_len]; omega)
    obtain ⟨z10, hz10⟩ := hh9.getz (j := at_.toNat) (by rw [hangsP_len]; omega)
    refine W_q (r_index hA10 Tryz.underlying65 T.sz22 rfl rfl ⟨by omega, by rw [hangsP_len]; omega⟩) rfl ?_
    obtain ⟨A11, c11, l11, h11⟩ := Sl.getS hh9 hA10 hz10
    refine W_q (r_load_imm rfl T.ag22 l11) rfl ?_
    refine W_q (r_assign rfl) rfl ?_
    refine W_nil ?_
    refine NX_as (L' := [(6, _)]) [6] rfl ?_
    exact C_ret (RX_g1 rfl rfl (ints_is (HangsP_t (by assumption) (by omega) hz4 hz10) h11))

set_option maxHeartbeats 20000000 in
/-- sched.Depth -/
theorem Depth_g {m : Imm} {es : List Value} {f : FFun} (hF : rFunc m es f) (block : Int)  : Gives Tryz.prog 26 [.agg es.toArray, .int .i64 block] m (fun m' v => ∃ A' c', v = .slice A' (DepthP f block).length c' ∧ Ints m' A' c' (DepthP f block)) := by
 have hF_0 := hF
 obtain ⟨A90, c90, B90, d90, rfl, hq90, hb90, i90a⟩ := hF_0
 have hbl := hb90.len
 refine gives_of Tryz.func26 rfl Tryz.ntmps26 rfl (fun w => ?_)
 refine CW_seq ?_
 refine CW_region ?_
 refine S_box (l := [_, _, _]) rfl rfl rfl (fun b1 => ?_)
 refine W_q (r_assign rfl) rfl ?_
 refine W_nil ?_
 refine NX_as (L' := [(1, _), (2, _), (4, _)]) [1, 2, 4] rfl ?_
 refine CW_seq ?_
 refine CW_seq ?_
 refine CW_region ?_
 refine W_q (r_loadbk 0 (vs := [_, _, _]) rfl T.ag25 T.sz25 rfl rfl rfl) rfl ?_
 refine W_q (r_move rfl) rfl ?_
 refine W_quiet (sright_q hF _) T.hb49 rfl rfl ?_
 refine W_q (r_not rfl) rfl ?_
 refine W_nil ?_
 refine NX_as (L' := [(1, _), (2, _), (4, _), (14, _)]) [1, 2, 4, 14] rfl ?_
 refine CW_condk rfl (fun h2 => ?_) (fun h2 => ?_)
 ·(try simp only [tA, tB, tC, tD, tE, tF, tG, tH, tI, tJ, tK, tL] at h2)
  refine CW_seq ?_
  refine CW_region ?_
  refine W_q (r_assign rfl) rfl ?_
  refine W_nil ?_
  refine NX_as (L' := [(1, _), (2, _), (4, _)]) [1, 2, 4] rfl ?_
  exact C_ret (RX_then (RX_g1 rfl rfl (ints_nil (DepthP_f (by assumption)))))
 ·(try simp only [tA, tB, tC, tD, tE, tF, tG, tH, tI, tJ, tK, tL] at h2)
  refine C_skip ?_
  refine NX_as (L' := [(1, _), (2, _), (4, _)]) [1, 2, 4] rfl ?_
  refine CW_seq ?_
  refine CW_region ?_
  refine W_q (r_assign rfl) rfl ?_
  refine W_nil ?_
  refine NX_as (L' := [(1, _), (2, _), (4, _), (5, _)]) [1, 2, 4, 5] rfl ?_
  refine CW_seq ?_
  refine CW_seq ?_
  refine CW_region ?_
  refine W_q (r_fieldb (o' := 2) rfl T.fo25_2 rfl) rfl ?_
  refine W_q (r_loadb 0 rfl T.ag23 rfl rfl) rfl ?_
  refine W_q (r_move rfl) rfl ?_
  obtain ⟨ad3, hA3⟩ := hb90.ad (j := block.toNat) (by have := right_block (f := f) (block := block) (by assumption); omega)
  obtain ⟨z3, hz3⟩ := hb90.getz (j := block.toNat) (by have := right_block (f := f) (block := block) (by assumption); omega)
  refine W_q (r_index hA3 Tryz.underlying23 T.sz44 rfl rfl ⟨by have := right_block (f := f) (block := block) (by assumption); omega, by have := right_block (f := f) (block := block) (by assumption); omega⟩) rfl ?_
  obtain ⟨es4, f4, _, l4⟩ := Sl.get hb90 hA3 hz3
  have F4 := f4
  obtain ⟨A4, c4, B4, d4, C4, e4, rfl, hp4, ho4, ht4, i4a, i4b⟩ := f4
  refine W_q (r_load_immk (vs := [_, _, _, _, _]) rfl T.ag44 T.sz44 l4) rfl ?_
  obtain ⟨hol, hal, _⟩ := may_small (right_small (f := f) (block := block) (by assumption)) (List.mem_of_getElem? hz3)
  have hhl := hangsP_len z3.ops
  refine S_gives (hangs_g F4 (may_small (right_small (f := f) (block := block) (by assumption)) (List.mem_of_getElem? (by assumption))).1 (may_small (right_small (f := f) (block := block) (by assumption)) (List.mem_of_getElem? (by assumption))).2.1) T.hb52 rfl rfl (fun m5 v5 le5 hv5 => ?_)
  replace hF := rFunc_mono _ _ _ _ le5 hF
  replace hq90 := hq90.mono rI_mono le5
  replace hb90 := hb90.mono rBlock_mono le5
  replace F4 := rBlock_mono _ _ _ _ le5 F4
  replace hp4 := hp4.mono rPhi_mono le5
  replace ho4 := ho4.mono rOp_mono le5
  replace ht4 := ht4.mono rI_mono le5
  obtain ⟨Ah5, ch5, rfl, hh5⟩ := hv5
  refine W_q (r_len Tryz.underlying65 rfl) rfl ?_
  refine W_q (r_move rfl) rfl ?_
  refine W_nil ?_
  refine NX_as (L' := [(4, _), (5, _), (20, _), (21, _), (22, _)]) [4, 5, 20, 21, 22] rfl ?_
  refine CW_nilRow 3 1 ?_
  refine C_range (Option Nat × Nat × List Int) ((hangsP z3.ops).length) (fun k6 x6 => x6.2.2 = depK (hangsP z3.ops) k6 ∧ (0 < x6.2.2.length → ∃ b, x6.1 = some b)) (fun k6 x6 => [(5, .slice (rowA x6.1) x6.2.2.length x6.2.1)]) (fun k6 x6 => [rowI 3 x6.1 x6.2.1 x6.2.2]) [5] [4, 20] (F := [(4, _), (20, _)]) ((none, 0, [])) rfl rfl (by rw [hangsP_len]; omega) ⟨rfl, by simp⟩ rfl rfl rfl rfl rfl rfl rfl (fun _ _ => rfl) (fun _ _ => rfl) (fun k6 x6 hk6 hJ6 => ?_) (fun x6 hJ6 => ?_)
  ·obtain ⟨go, co, lo⟩ := x6
   obtain ⟨hlo, hgo⟩ := hJ6
   have hlo' := congrArg List.length hlo
   rw [depK_len _ _ (by omega)] at hlo'
   dsimp only at hlo hgo hlo'
   refine CW_as (L' := [(4, _), (5, _), (20, _), (21, _), (22, _)]) [4, 5, 20, 21, 22] rfl ?_
   refine CW_seq ?_
   refine CW_region ?_
   obtain ⟨ad8, hA8⟩ := hh5.ad (j := k6) (by omega)
   obtain ⟨z8, hz8⟩ := hh5.getz (j := k6) (by omega)
   refine W_q (r_index hA8 Tryz.underlying65 T.sz22 rfl rfl ⟨by omega, by omega⟩) rfl ?_
   obtain ⟨A9, c9, l9, h9⟩ := Sl.getS hh5 hA8 hz8
   refine W_q (r_load_imm rfl T.ag22 l9) rfl ?_
   have hll := h9.len
   refine W_q (r_assign rfl) rfl ?_
   refine W_nil ?_
   refine NX_as (L' := [(4, _), (5, _), (7, _), (20, _), (21, _), (22, _)]) [4, 5, 7, 20, 21, 22] rfl ?_
   refine CW_seq ?_
   refine CW_region ?_
   refine W_q (r_assign rfl) rfl ?_
   refine W_nil ?_
   refine NX_as (L' := [(4, _), (5, _), (7, _), (8, _), (20, _), (21, _), (22, _)]) [4, 5, 7, 8, 20, 21, 22] rfl ?_
   refine CW_seq ?_
   refine CW_seq ?_
   refine CW_region ?_
   refine W_q (r_move rfl) rfl ?_
   refine W_q (r_len Tryz.underlying22 rfl) rfl ?_
   refine W_q (r_move rfl) rfl ?_
   refine W_nil ?_
   refine NX_as (L' := [(4, _), (5, _), (8, _), (20, _), (21, _), (22, _), (26, _), (27, _), (28, _)]) [4, 5, 8, 20, 21, 22, 26, 27, 28] rfl ?_
   refine C_range (Int) (z8.length) (fun k10 x10 => x10 = depS (hangsP z3.ops) lo (z8.take k10)) (fun k10 x10 => [(8, .int .i64 x10)]) (fun _ _ => []) [8] [4, 5, 20, 21, 22, 26] (F := [(4, _), (5, _), (20, _), (21, _), (22, _), (26, _)]) (0) rfl rfl (by omega) (by simp [depS]) rfl rfl rfl rfl rfl rfl rfl (fun _ _ => rfl) (fun _ _ => rfl) (fun k10 x10 hk10 hJ10 => ?_) (fun x10 hJ10 => ?_)
   ·refine CW_as (L' := [(4, _), (5, _), (8, _), (20, _), (21, _), (22, _), (26, _), (27, _), (28, _)]) [4, 5, 8, 20, 21, 22, 26, 27, 28] rfl ?_
    refine CW_seq ?_
    refine CW_region ?_
    obtain ⟨ad11, hA11⟩ := h9.ad (j := k10) (by omega)
    obtain ⟨z11, hz11⟩ := h9.getz (j := k10) (by omega)
    refine W_q (r_index hA11 Tryz.underlying22 T.sz3 rfl rfl ⟨by omega, by omega⟩) rfl ?_
    obtain ⟨l12, r12⟩ := Sl.getI h9 hA11 hz11
    refine W_q (r_load_imm rfl T.ag3 l12) rfl ?_
    have hrg := hangsP_rng hz8 _ (List.mem_of_getElem? hz11)
    refine W_q (r_assign rfl) rfl ?_
    refine W_nil ?_
    refine NX_as (L' := [(4, _), (5, _), (8, _), (10, _), (20, _), (21, _), (22, _), (26, _), (27, _), (28, _)]) [4, 5, 8, 10, 20, 21, 22, 26, 27, 28] rfl ?_
    refine CW_region ?_
    refine W_q (r_move rfl) rfl ?_
    refine W_q (r_move rfl) rfl ?_
    refine W_q (r_move rfl) rfl ?_
    obtain ⟨b13, rfl⟩ : ∃ b, go = some b := hgo (by omega)
    refine W_q (r_indexr (o := z11.toNat) Tryz.underlying22 T.sz3 rfl rfl ⟨by omega, by dsimp only; omega⟩ (by omega)) rfl ?_
    refine W_q (r_loadrI 0 rfl T.ag3 rfl (List.getElem?_eq_getElem (show z11.toNat < lo.length by omega))) rfl ?_
    refine W_q (r_add rfl rfl (by have hv := depK_rng (ops := z3.ops) k6 (by omega) _ (by rw [← hlo]; exact List.getElem_mem (show z11.toNat < lo.length by omega)); constructor <;> omega)) rfl ?_
    refine W_q (r_max rfl rfl) rfl ?_
    refine W_q (r_assign rfl) rfl ?_
    refine W_nil ?_
    refine NX_block (?_)
    refine NX_rng [8, 4, 5, 20, 21, 22, 26] (_) ?_ rfl (List.Sublist.refl _) rfl (Imm.le_refl _)
    rw [depS_take hz11, hJ10, getD_of (List.getElem?_eq_getElem (show z11.toNat < lo.length by omega))]
   ·have hd := hJ10
    rw [List.take_length] at hd
    refine NX_as (L' := [(4, _), (5, _), (8, _), (20, _), (21, _), (22, _)]) [4, 5, 8, 20, 21, 22] rfl ?_
    refine CW_region ?_
    refine W_q (r_move rfl) rfl ?_
    refine W_q (r_move rfl) rfl ?_
    refine S_litr (vs := [_]) (cs := [_]) Tryz.underlying22 T.sz3 T.ze3 rfl rfl rfl rfl rfl rfl rfl (fun b14 => ?_)
    refine S_appendI (l := lo) (g1 := go) [_] 1 rfl rfl rfl Tryz.underlying22 T.sz3 T.ze3 T.by3 rfl rfl (.row 0 rfl) (by simp only [List.length_cons, List.length_nil]; omega) rfl (fun g15 c15 hg15 => ?_)
    refine W_q (r_assign rfl) rfl ?_
    refine W_nil ?_
    refine NX_block (?_)
    refine NX_rng [5, 4, 20] ((_, _, _)) ?_ rfl (sub_drop 1 rfl) rfl (Imm.le_refl _)
    refine ⟨?_, hg15⟩
    rw [depK_succ hz8, ← hlo, hd]
  ·obtain ⟨go, co, lo⟩ := x6
   obtain ⟨hlo, hgo⟩ := hJ6
   have hlo' := congrArg List.length hlo
   rw [depK_len _ _ (by omega)] at hlo'
   dsimp only at hlo hgo hlo'
   refine NX_as (L' := [(4, _), (5, _)]) [4, 5] rfl ?_
   refine CW_seq ?_
   refine CW_region ?_
   refine W_q (r_move rfl) rfl ?_
   refine W_q (r_assign rfl) rfl ?_
   refine W_nil ?_
   refine NX_as (L' := [(4, _)]) [4] rfl ?_
   refine C_ret (RX_know (k_rowI 0 rfl) (fun hr => ?_))
   try dsimp only at hr
   refine RX_freeze 0 rfl (fun _ h => h) (fun mf lef hf => ?_)
   have hfin : Ints mf _ _ _ := Ints_frz hf hr.1 hr.2.1 (by dsimp only; omega) hr.2.2 (fun z hz => by rw [hlo] at hz; have := depK_rng (ops := z3.ops) (z3.ops.length) (Nat.le_refl _) z (by rw [← hangsP_len]; exact hz); exact ⟨by omega, by omega⟩)
   exact RX_g1 rfl rfl (ints_is ((DepthP_t (by assumption) hz3).trans hlo.symm) hfin)

end Go.Proofs.YtipmgkhjoekaaaaGreat

set_option linter.unusedVariables false
set_option linter.unusedSimpArgs false
namespace Go.Proofs.YtipmgkhjoekaaaaGreat
open Go Go.RowKit Go.Proofs Go.Proofs.YtipmgkhjoekaaaaGreat.Fw
attribute [local irreducible] Qt WL CW NX RX EX GX DL
set_option maxHeartbeats 40000000 in
/-- sched.Flat -/
theorem Flat_g {m : Imm} {es : List Value} {f : FFun} (hF : rFunc m es f) (block : Int)  : Gives Tryz.prog 24 [.agg es.toArray, .int .i64 block] m (fun m' v => ∃ A' c', v = .slice A' (FlatP f block).length c' ∧ Ints m' A' c' (FlatP f block)) := by
 have hF_0 := hF
 obtain ⟨A90, c90, B90, d90, rfl, hq90, hb90, i90a⟩ := hF_0
 have hbl := hb90.len
 refine gives_of Tryz.func24 rfl Tryz.ntmps24 rfl (fun w => ?_)
 refine CW_seq ?_
 refine CW_region ?_
 refine S_box (l := [_, _, _]) rfl rfl rfl (fun b1 => ?_)
 refine W_q (r_assign rfl) rfl ?_
 refine W_nil ?_
 refine NX_as (L' := [(1, _), (2, _), (4, _)]) [1, 2, 4] rfl ?_
 refine C_scope 0 rfl ?_
 refine CW_seq ?_
 refine CW_seq ?_
 refine CW_region ?_
 refine W_q (r_loadbk 0 (vs := [_, _, _]) rfl T.ag25 T.sz25 rfl rfl rfl) rfl ?_
 refine W_q (r_move rfl) rfl ?_
 refine W_quiet (sright_q hF _) T.hb49 rfl rfl ?_
 refine W_q (r_not rfl) rfl ?_
 refine W_nil ?_
 refine NX_as (L' := [(1, _), (2, _), (4, _), (16, _)]) [1, 2, 4, 16] rfl ?_
 refine CW_condk rfl (fun h2 => ?_) (fun h2 => ?_)
 ·(try simp only [tA, tB, tC, tD, tE, tF, tG, tH, tI, tJ, tK, tL] at h2)
  refine CW_seq ?_
  refine CW_region ?_
  refine W_q (r_assign rfl) rfl ?_
  refine W_nil ?_
  refine NX_as (L' := [(1, _), (2, _), (4, _)]) [1, 2, 4] rfl ?_
  exact C_ret (RX_then (RX_jump (RX_g1 rfl rfl (ints_nil (FlatP_f (by assumption))))))
 ·(try simp only [tA, tB, tC, tD, tE, tF, tG, tH, tI, tJ, tK, tL] at h2)
  refine C_skip ?_
  refine NX_as (L' := [(1, _), (2, _), (4, _)]) [1, 2, 4] rfl ?_
  refine CW_seq ?_
  refine CW_region ?_
  refine W_q (r_fieldb (o' := 2) rfl T.fo25_2 rfl) rfl ?_
  refine W_q (r_loadb 0 rfl T.ag23 rfl rfl) rfl ?_
  refine W_q (r_move rfl) rfl ?_
  obtain ⟨ad3, hA3⟩ := hb90.ad (j := block.toNat) (by have := right_block (f := f) (block := block) (by assumption); omega)
  obtain ⟨z3, hz3⟩ := hb90.getz (j := block.toNat) (by have := right_block (f := f) (block := block) (by assumption); omega)
  refine W_q (r_index hA3 Tryz.underlying23 T.sz44 rfl rfl ⟨by have := right_block (f := f) (block := block) (by assumption); omega, by have := right_block (f := f) (block := block) (by assumption); omega⟩) rfl ?_
  obtain ⟨es4, f4, _, l4⟩ := Sl.get hb90 hA3 hz3
  have F4 := f4
  obtain ⟨A4, c4, B4, d4, C4, e4, rfl, hp4, ho4, ht4, i4a, i4b⟩ := f4
  refine W_q (r_load_immk (vs := [_, _, _, _, _]) rfl T.ag44 T.sz44 l4) rfl ?_
  obtain ⟨hol, hal, _⟩ := may_small (right_small (f := f) (block := block) (by assumption)) (List.mem_of_getElem? hz3)
  have hhl := hangsP_len z3.ops
  refine S_alloc (l := [_, _, _, _, _]) T.ze44 rfl rfl (fun b5 => ?_)
  refine S_storeb 0 (l' := [_, _, _, _, _]) rfl rfl rfl T.sz44 rfl rfl rfl rfl ?_
  refine W_nil ?_
  refine NX_as (L' := [(4, _), (5, _)]) [4, 5] rfl ?_
  refine CW_seq ?_
  refine CW_region ?_
  refine W_q (r_loadbk 0 (vs := [_, _, _, _, _]) rfl T.ag44 T.sz44 rfl rfl rfl) rfl ?_
  refine S_gives (hangs_g F4 (may_small (right_small (f := f) (block := block) (by assumption)) (List.mem_of_getElem? (by assumption))).1 (may_small (right_small (f := f) (block := block) (by assumption)) (List.mem_of_getElem? (by assumption))).2.1) T.hb52 rfl rfl (fun m6 v6 le6 hv6 => ?_)
  replace hF := rFunc_mono _ _ _ _ le6 hF
  replace hq90 := hq90.mono rI_mono le6
  replace hb90 := hb90.mono rBlock_mono le6
  replace F4 := rBlock_mono _ _ _ _ le6 F4
  replace hp4 := hp4.mono rPhi_mono le6
  replace ho4 := ho4.mono rOp_mono le6
  replace ht4 := ht4.mono rI_mono le6
  obtain ⟨Ah6, ch6, rfl, hh6⟩ := hv6
  refine W_q (r_assign rfl) rfl ?_
  refine W_nil ?_
  refine NX_as (L' := [(4, _), (5, _), (6, _)]) [4, 5, 6] rfl ?_
  refine CW_seq ?_
  refine CW_region ?_
  refine S_makeMap rfl (fun rm => ?_)
  refine W_q (r_assign rfl) rfl ?_
  refine W_nil ?_
  refine NX_as (L' := [(4, _), (5, _), (6, _), (7, _)]) [4, 5, 6, 7] rfl ?_
  refine CW_seq ?_
  refine CW_region ?_
  refine W_q (r_assign rfl) rfl ?_
  refine W_nil ?_
  refine NX_as (L' := [(4, _), (5, _), (6, _), (7, _), (8, _)]) [4, 5, 6, 7, 8] rfl ?_
  refine CW_nilRow 3 1 ?_
  refine CW_front 0 rfl rfl ?_
  refine CW_front 1 rfl rfl ?_
  refine C_again (List (Int × Bool) × Option Nat × Nat × List Int) (fun mk7 x7 => m6.le mk7 ∧ (FlatSt z3.ops x7.1 x7.2.2.2 ∧ (0 < x7.2.2.2.length → ∃ b, x7.2.1 = some b))) (fun x7 => z3.ops.length - x7.2.2.2.length) (fun x7 => [(8, .slice (rowA x7.2.1) x7.2.2.2.length x7.2.2.1)]) (fun x7 => [imap rm (valL Value.bool x7.1), rowI 3 x7.2.1 x7.2.2.1 x7.2.2.2]) [8] [5, 6, 7] (F := [(5, _), (6, _), (7, _)]) (([], none, 0, [])) ⟨Imm.le_refl _, ⟨flatSt_init _, by simp⟩⟩ rfl rfl rfl (fun mk7 x7 hJ7 => ?_)
  obtain ⟨hle7, hJ7⟩ := hJ7
  replace hF := rFunc_mono _ _ _ _ hle7 hF
  replace hq90 := hq90.mono rI_mono hle7
  replace hb90 := hb90.mono rBlock_mono hle7
  replace F4 := rBlock_mono _ _ _ _ hle7 F4
  replace hp4 := hp4.mono rPhi_mono hle7
  replace ho4 := ho4.mono rOp_mono hle7
  replace ht4 := ht4.mono rI_mono hle7
  replace hh6 := hh6.mono (rS_mono rI_mono) hle7
  obtain ⟨hs, hgo⟩ := hJ7
  have hsl := hs.len
  refine CW_as (L' := [(5, _), (6, _), (7, _), (8, _)]) [5, 6, 7, 8] rfl ?_
  refine CW_seq ?_
  refine CW_seq ?_
  refine CW_region ?_
  refine S_litr (vs := [_, _]) (cs := [_, _]) Tryz.underlying54 T.sz4 T.ze4 rfl rfl rfl rfl rfl rfl rfl (fun b9 => ?_)
  refine W_q (r_len Tryz.underlying54 rfl) rfl ?_
  refine W_q (r_move rfl) rfl ?_
  refine W_nil ?_
  refine NX_as (L' := [(5, _), (6, _), (7, _), (8, _), (25, _), (26, _), (27, _)]) [5, 6, 7, 8, 25, 26, 27] rfl ?_
  refine C_range (Unit) (2) (fun k10 x10 => ∀ j, j < k10 → ∀ a, a < z3.ops.length → condF z3.ops x7.1 (j == 0) a = false) (fun k10 x10 => [(8, .slice (rowA x7.2.1) x7.2.2.2.length x7.2.2.1)]) (fun _ _ => []) [8] [5, 6, 7, 25] (F := [(5, _), (6, _), (7, _), (25, _)]) (()) rfl rfl (by omega) (by simp) rfl rfl rfl rfl rfl rfl rfl (fun _ _ => rfl) (fun _ _ => rfl) (fun k10 x10 hk10 hJ10 => ?_) (fun x10 hJ10 => ?_)
  ·refine CW_as (L' := [(5, _), (6, _), (7, _), (8, _), (25, _), (26, _), (27, _)]) [5, 6, 7, 8, 25, 26, 27] rfl ?_
   refine CW_seq ?_
   refine CW_region ?_
   refine W_q (r_indexr (o := k10) Tryz.underlying54 T.sz4 rfl rfl ⟨by omega, by omega⟩ (by omega)) rfl ?_
   refine W_q (r_loadr 0 rfl T.ag4 rfl (pass_lit hk10)) rfl ?_
   refine W_q (r_assign rfl) rfl ?_
   refine W_nil ?_
   refine NX_as (L' := [(5, _), (6, _), (7, _), (8, _), (10, _), (25, _), (26, _), (27, _)]) [5, 6, 7, 8, 10, 25, 26, 27] rfl ?_
   refine CW_seq ?_
   refine CW_region ?_
   refine W_q (r_fieldb (o' := 1) rfl T.fo44_1 rfl) rfl ?_
   refine W_q (r_loadb 3 rfl T.ag40 rfl rfl) rfl ?_
   refine W_q (r_len Tryz.underlying40 rfl) rfl ?_
   refine W_q (r_move rfl) rfl ?_
   refine W_nil ?_
   refine NX_as (L' := [(5, _), (6, _), (7, _), (8, _), (10, _), (25, _), (26, _), (27, _), (32, _), (33, _), (34, _)]) [5, 6, 7, 8, 10, 25, 26, 27, 32, 33, 34] rfl ?_
   refine C_range (Unit) (z3.ops.length) (fun k12 x12 => ∀ a, a < k12 → condF z3.ops x7.1 (k10 == 0) a = false) (fun k12 x12 => [(8, .slice (rowA x7.2.1) x7.2.2.2.length x7.2.2.1)]) (fun _ _ => []) [8] [5, 6, 7, 10, 25, 26, 27, 32] (F := [(5, _), (6, _), (7, _), (10, _), (25, _), (26, _), (27, _), (32, _)]) (()) rfl rfl (by omega) (by simp) rfl rfl rfl rfl rfl rfl rfl (fun _ _ => rfl) (fun _ _ => rfl) (fun k12 x12 hk12 hJ12 => ?_) (fun x12 hJ12 => ?_)
   ·refine CW_as (L' := [(5, _), (6, _), (7, _), (8, _), (10, _), (25, _), (26, _), (27, _), (32, _), (33, _), (34, _)]) [5, 6, 7, 8, 10, 25, 26, 27, 32, 33, 34] rfl ?_
    refine CW_seq ?_
    refine CW_region ?_
    refine W_q (r_move rfl) rfl ?_
    obtain ⟨ad13, hA13⟩ := ho4.ad (j := k12) (by omega)
    obtain ⟨z13, hz13⟩ := ho4.getz (j := k12) (by omega)
    refine W_q (r_index hA13 Tryz.underlying40 T.sz51 rfl rfl ⟨by omega, by omega⟩) rfl ?_
    obtain ⟨es14, f14, _, l14⟩ := Sl.get ho4 hA13 hz13
    have F14 := f14
    obtain ⟨A14, c14, rfl, h14, i14a, i14b, i14c, i14d, i14e⟩ := f14
    refine W_q (r_load_immk (vs := [_, _, _, _, _, _]) rfl T.ag51 T.sz51 l14) rfl ?_
    refine S_alloc (l := [_, _, _, _, _, _]) T.ze51 rfl rfl (fun b15 => ?_)
    refine W_q (r_assign rfl) rfl ?_
    refine S_storeb 0 (l' := [_, _, _, _, _, _]) rfl rfl rfl T.sz51 rfl rfl rfl rfl ?_
    refine W_nil ?_
    refine NX_as (L' := [(5, _), (6, _), (7, _), (8, _), (10, _), (11, _), (12, _), (25, _), (26, _), (27, _), (32, _), (33, _), (34, _)]) [5, 6, 7, 8, 10, 11, 12, 25, 26, 27, 32, 33, 34] rfl ?_
    refine CW_seq ?_
    refine CW_region ?_
    refine W_q (r_move rfl) rfl ?_
    refine W_q (r_move rfl) rfl ?_
    refine W_q (r_lookup 2 Tryz.underlying67 Tryz.underlying3 T.ze4 rfl rfl rfl (val_getD Value.bool _ _ false)) rfl ?_
    refine W_q (r_not rfl) rfl ?_
    refine W_q (r_move rfl) rfl ?_
    refine WL_split (t := 43) rfl (fun h16 => ?_) (fun h16 => ?_)
    ·(try simp only [tA, tB, tC, tD, tE, tF, tG, tH, tI, tJ, tK, tL] at h16)
     refine WL_take rfl rfl ?_
     refine W_q (r_fieldb (o' := 0) rfl T.fo51_0 rfl) rfl ?_
     refine WL_take rfl rfl ?_
     refine W_q (r_loadb 0 rfl T.ag3 rfl rfl) rfl ?_
     refine WL_take rfl rfl ?_
     refine W_quiet (Pure_q _) T.hb53 rfl rfl ?_
     refine WL_take rfl rfl ?_
     refine W_q (r_move rfl) rfl ?_
     refine WL_take rfl rfl ?_
     refine W_q (r_booleql rfl rfl Tryz.underlying4) rfl ?_
     refine W_q (r_pick_t rfl rfl) rfl ?_
     refine W_q (r_move rfl) rfl ?_
     refine WL_split (t := 50) rfl (fun h17 => ?_) (fun h17 => ?_)
     ·(try simp only [tA, tB, tC, tD, tE, tF, tG, tH, tI, tJ, tK, tL] at h17)
      refine WL_take rfl rfl ?_
      refine W_q (r_move rfl) rfl ?_
      refine WL_take rfl rfl ?_
      refine W_q (r_move rfl) rfl ?_
      refine WL_take rfl rfl ?_
      refine W_q (r_move rfl) rfl ?_
      refine WL_take rfl rfl ?_
      obtain ⟨ad18, hA18⟩ := hh6.ad (j := k12) (by omega)
      obtain ⟨z18, hz18⟩ := hh6.getz (j := k12) (by omega)
      refine W_q (r_index hA18 Tryz.underlying65 T.sz22 rfl rfl ⟨by omega, by omega⟩) rfl ?_
      refine WL_take rfl rfl ?_
      obtain ⟨A19, c19, l19, h19⟩ := Sl.getS hh6 hA18 hz18
      refine W_q (r_load_imm rfl T.ag22 l19) rfl ?_
      refine WL_take rfl rfl ?_
      refine W_q (r_quietM 2 rfl (fun m' le hc => stands_q (ll := x7.1) hc (h19.mono rI_mono le)) T.hb54 rfl) rfl ?_
      refine W_q (r_pick_t rfl rfl) rfl ?_
      refine W_nil ?_
      refine NX_as (L' := [(5, _), (6, _), (7, _), (8, _), (10, _), (11, _), (25, _), (26, _), (27, _), (32, _), (33, _), (34, _), (57, _)]) [5, 6, 7, 8, 10, 11, 25, 26, 27, 32, 33, 34, 57] rfl ?_
      refine CW_condk rfl (fun h20 => ?_) (fun h20 => ?_)
      ·(try simp only [tA, tB, tC, tD, tE, tF, tG, tH, tI, tJ, tK, tL] at h20)
       refine CW_seq ?_
       refine CW_region ?_
       refine W_q (r_move rfl) rfl ?_
       refine W_q (r_move rfl) rfl ?_
       refine S_mapUpdateV (f := Value.bool) (l := x7.1) true 2 Tryz.underlying67 Tryz.underlying3 rfl rfl rfl rfl ?_
       refine W_nil ?_
       refine NX_as (L' := [(5, _), (6, _), (7, _), (8, _), (10, _), (11, _), (25, _), (26, _), (27, _), (32, _), (33, _), (34, _)]) [5, 6, 7, 8, 10, 11, 25, 26, 27, 32, 33, 34] rfl ?_
       refine CW_seq ?_
       refine CW_region ?_
       refine W_q (r_move rfl) rfl ?_
       refine W_q (r_move rfl) rfl ?_
       refine S_litr (vs := [_]) (cs := [_]) Tryz.underlying22 T.sz3 T.ze3 rfl rfl rfl rfl rfl rfl rfl (fun b21 => ?_)
       refine S_appendI (l := x7.2.2.2) (g1 := x7.2.1) [_] 4 rfl rfl rfl Tryz.underlying22 T.sz3 T.ze3 T.by3 rfl rfl (.row 0 rfl) (by simp only [List.length_cons, List.length_nil]; omega) rfl (fun g22 c22 hg22 => ?_)
       refine W_q (r_assign rfl) rfl ?_
       refine W_nil ?_
       refine NX_as (L' := [(5, _), (6, _), (7, _), (8, _), (10, _), (25, _), (26, _), (27, _), (32, _), (33, _), (34, _)]) [5, 6, 7, 8, 10, 25, 26, 27, 32, 33, 34] rfl ?_
       refine C_goto (GX_block (GX_then (GX_block (GX_block (GX_then (GX_block (GX_then (?_))))))))
       have hnx := flatNext_some hk10 hk12 hJ10 hJ12 (condF_t (by assumption) hz13 (beq_iff_eq.2 (by assumption)) hz18 (by assumption))
       obtain ⟨hs2, hlt⟩ := hs.snoc hk12 hnx (by assumption)
       refine GX_low [8, 5, 6, 7] ((_, _, _, _)) ?_ ⟨hle7, ?_⟩ rfl (sub_drop 3 rfl) rfl
       ·simp only [List.length_append, List.length_singleton]; omega
       ·exact ⟨hs2, hg22⟩
      ·(try simp only [tA, tB, tC, tD, tE, tF, tG, tH, tI, tJ, tK, tL] at h20)
       refine C_skip ?_
       refine NX_block (?_)
       refine NX_rng [8, 5, 6, 7, 10, 25, 26, 27, 32] (()) ?_ rfl (sub_drop 1 rfl) rfl (Imm.le_refl _)
       exact lt_succ_all hJ12 (by first | exact condF_1 (by assumption) | exact condF_2 hz13 (beq_eq_false_iff_ne.2 (by assumption)) | exact condF_3 hz18 (by assumption))
     ·(try simp only [tA, tB, tC, tD, tE, tF, tG, tH, tI, tJ, tK, tL] at h17)
      refine WL_pass rfl rfl rfl rfl ?_
      refine WL_pass rfl rfl rfl rfl ?_
      refine WL_pass rfl rfl rfl rfl ?_
      refine WL_pass rfl rfl rfl rfl ?_
      refine WL_pass rfl rfl rfl rfl ?_
      refine WL_pass rfl rfl rfl rfl ?_
      refine W_q (r_pick_f rfl rfl) rfl ?_
      refine W_nil ?_
      refine NX_as (L' := [(5, _), (6, _), (7, _), (8, _), (10, _), (11, _), (25, _), (26, _), (27, _), (32, _), (33, _), (34, _), (57, _)]) [5, 6, 7, 8, 10, 11, 25, 26, 27, 32, 33, 34, 57] rfl ?_
      refine CW_cond_f rfl ?_
      refine C_skip ?_
      refine NX_block (?_)
      refine NX_rng [8, 5, 6, 7, 10, 25, 26, 27, 32] (()) ?_ rfl (sub_drop 1 rfl) rfl (Imm.le_refl _)
      exact lt_succ_all hJ12 (by first | exact condF_1 (by assumption) | exact condF_2 hz13 (beq_eq_false_iff_ne.2 (by assumption)) | exact condF_3 hz13 (by assumption))
    ·(try simp only [tA, tB, tC, tD, tE, tF, tG, tH, tI, tJ, tK, tL] at h16)
     refine WL_pass rfl rfl rfl rfl ?_
     refine WL_pass rfl rfl rfl rfl ?_
     refine WL_pass rfl rfl rfl rfl ?_
     refine WL_pass rfl rfl rfl rfl ?_
     refine WL_pass rfl rfl rfl rfl ?_
     refine W_q (r_pick_f rfl rfl) rfl ?_
     refine W_q (r_move rfl) rfl ?_
     refine WL_pass rfl rfl rfl rfl ?_
     refine WL_pass rfl rfl rfl rfl ?_
     refine WL_pass rfl rfl rfl rfl ?_
     refine WL_pass rfl rfl rfl rfl ?_
     refine WL_pass rfl rfl rfl rfl ?_
     refine WL_pass rfl rfl rfl rfl ?_
     refine W_q (r_pick_f rfl rfl) rfl ?_
     refine W_nil ?_
     refine NX_as (L' := [(5, _), (6, _), (7, _), (8, _), (10, _), (11, _), (25, _), (26, _), (27, _), (32, _), (33, _), (34, _), (57, _)]) [5, 6, 7, 8, 10, 11, 25, 26, 27, 32, 33, 34, 57] rfl ?_
     refine CW_cond_f rfl ?_
     refine C_skip ?_
     refine NX_block (?_)
     refine NX_rng [8, 5, 6, 7, 10, 25, 26, 27, 32] (()) ?_ rfl (sub_drop 1 rfl) rfl (Imm.le_refl _)
     exact lt_succ_all hJ12 (by first | exact condF_1 (by assumption) | exact condF_2 hz13 (beq_eq_false_iff_ne.2 (by assumption)) | exact condF_3 hz13 (by assumption))
   ·refine NX_block (?_)
    refine NX_rng [8, 5, 6, 7, 25] (()) ?_ rfl (List.Sublist.refl _) rfl (Imm.le_refl _)
    exact lt_succ_all hJ10 hJ12
  ·refine NX_as (L' := [(5, _), (6, _), (7, _), (8, _)]) [5, 6, 7, 8] rfl ?_
   refine CW_seq ?_
   refine CW_region ?_
   refine W_q (r_move rfl) rfl ?_
   refine W_q (r_assign rfl) rfl ?_
   refine W_nil ?_
   refine NX_as (L' := [(4, _), (5, _), (6, _), (7, _), (8, _)]) [4, 5, 6, 7, 8] rfl ?_
   refine C_ret (RX_jump (RX_know (k_rowI 2 rfl) (fun hr => ?_)))
   refine RX_freeze 2 rfl (fun _ h => h) (fun mf lef hf => ?_)
   have hfin : Ints mf _ _ _ := Ints_frz hf hr.1 hr.2.1 (by have := hs.len; omega) hr.2.2 (fun z hz => by have := hs.rng z hz; exact ⟨by omega, by omega⟩)
   exact RX_g1 rfl rfl (ints_is ((FlatP_t (by assumption) hz3).trans (hs.end_ (flatNext_none hJ10))) hfin)

end Go.Proofs.YtipmgkhjoekaaaaGreat

set_option linter.unusedVariables false
set_option linter.unusedSimpArgs false
namespace Go.Proofs.YtipmgkhjoekaaaaGreat
open Go Go.RowKit Go.Proofs Go.Proofs.YtipmgkhjoekaaaaGreat.Fw
attribute [local irreducible] Qt WL CW NX RX EX GX DL
namespace T
theorem bl25 : bls? Tryz.prog 25 = some ([(0, 1), (1, 1), (2, 1)], ([(.slice none 0 0), (.int .i64 0), (.slice none 0 0)] : List Value)) := by kernel_rfl
theorem by44 : byt? Tryz.prog 44 = some 88 := by kernel_rfl
theorem by51 : byt? Tryz.prog 51 = some 64 := by kernel_rfl
theorem hb19 : hasBody Tryz.prog 19 = true := by kernel_rfl
theorem hb47 : hasBody Tryz.prog 47 = true := by kernel_rfl
theorem sz23 : sz? Tryz.prog 23 = some 1 := by kernel_rfl
theorem sz40 : sz? Tryz.prog 40 = some 1 := by kernel_rfl
theorem ze25 : zero? Tryz.prog 25 = some (.agg #[(.slice none 0 0), (.int .i64 0), (.slice none 0 0)]) := by kernel_rfl
end T
set_option maxHeartbeats 4000000 in
/-- slices.Clone[[]api.Block,api.Block] -/
theorem CloneB_d {m : Imm} {A : Option Addr} {c : Nat} {l : List FBlk} (h : Sl rBlock 5 m A c l) (h0 : 0 < l.length) (hl : l.length ≤ 1000) : Does Tryz.prog 47 [.slice A l.length c] m ([]) (fun m' R' v => m' = m ∧ ∃ b cap xs, R' = [row (some b) l.length cap 44 5 xs] ∧ SRows rBlock 5 m xs l ∧ v = .slice (some ⟨b, 0, none⟩) l.length cap) := by
 obtain ⟨ad, rfl⟩ := h.ad (j := 0) (by omega)
 obtain ⟨ys, hy1, hy2, hy3⟩ := SRows.of_sl h rfl one_block
 refine does_of Tryz.func47 rfl Tryz.ntmps47 rfl (fun w => ?_)
 refine CW_seq ?_
 refine CW_region ?_
 refine W_q (r_assign rfl) rfl ?_
 refine W_nil ?_
 refine NX_as (L' := [(0, _), (2, _)]) [0, 2] rfl ?_
 refine CW_seq ?_
 refine CW_seq ?_
 refine CW_region ?_
 refine W_q (r_move rfl) rfl ?_
 refine W_q (r_sliceeq rfl rfl Tryz.underlying23) rfl ?_
 refine W_nil ?_
 refine NX_as (L' := [(0, _), (2, _), (4, _)]) [0, 2, 4] rfl ?_
 refine CW_condk rfl (fun h1 => ?_) (fun h1 => ?_)
 ·(try simp only [tA, tB, tC, tD, tE, tF, tG, tH, tI, tJ, tK, tL] at h1)
  refine CW_seq ?_
  refine CW_region ?_
  refine W_q (r_assign rfl) rfl ?_
  refine W_nil ?_
  refine NX_as (L' := [(0, _), (2, _)]) [0, 2] rfl ?_
  exact absurd h1 (by simp)
 ·(try simp only [tA, tB, tC, tD, tE, tF, tG, tH, tI, tJ, tK, tL] at h1)
  refine C_skip ?_
  refine NX_as (L' := [(0, _), (2, _)]) [0, 2] rfl ?_
  refine CW_seq ?_
  refine CW_region ?_
  refine S_litr (vs := []) (cs := []) Tryz.underlying23 T.sz44 T.ze44 rfl rfl rfl rfl rfl rfl rfl (fun b2 => ?_)
  refine W_q (r_move rfl) rfl ?_
  refine S_appendG ys 0 rfl rfl rfl Tryz.underlying23 T.sz44 T.ze44 T.by44 rfl rfl hy1.len (Src.of_cells hy3) hy2 (by omega) (by unfold maxLen; omega) rfl (fun g3 c3 hg3 => ?_)
  refine W_q (r_assign rfl) rfl ?_
  refine W_nil ?_
  refine NX_as (L' := [(2, _)]) [2] rfl ?_
  obtain ⟨b, rfl⟩ : ∃ b, g3 = some b := hg3 (by omega)
  refine C_ret (RX_d1 rfl rfl (sub_one 0 rfl) ⟨rfl, b, c3, _, ?_, hy1, ?_⟩) <;> simp [rowA]

set_option maxHeartbeats 40000000 in
/-- sched.Put -/
theorem Put_g {m : Imm} {es : List Value} {f : FFun} (hF : rFunc m es f) (block : Int) {A : Option Addr} {c : Nat} {order : List Int} (h : Ints m A c order) : Gives Tryz.prog 16 [.agg es.toArray, .int .i64 block, .slice A order.length c] m (PutΦ f block order) := by
 have hF_0 := hF
 obtain ⟨A90, c90, B90, d90, rfl, hq90, hb90, i90a⟩ := hF_0
 have hbl := hb90.len
 refine gives_of Tryz.func16 rfl Tryz.ntmps16 rfl (fun w => ?_)
 refine CW_seq ?_
 refine CW_region ?_
 refine S_box (l := [_, _, _]) rfl rfl rfl (fun b1 => ?_)
 refine S_alloc (l := [_, _, _]) T.ze25 rfl rfl (fun b2 => ?_)
 refine W_q (r_assign rfl) rfl ?_
 refine W_nil ?_
 refine NX_as (L' := [(1, _), (2, _), (3, _), (6, _), (7, _)]) [1, 2, 3, 6, 7] rfl ?_
 refine CW_seq ?_
 refine CW_seq ?_
 refine CW_region ?_
 refine W_q (r_loadbk 1 (vs := [_, _, _]) rfl T.ag25 T.sz25 rfl rfl rfl) rfl ?_
 refine W_q (r_move rfl) rfl ?_
 refine W_q (r_move rfl) rfl ?_
 refine W_quiet (Legal_q hF _ h) T.hb19 rfl rfl ?_
 refine W_q (r_not rfl) rfl ?_
 refine W_nil ?_
 refine NX_as (L' := [(1, _), (2, _), (3, _), (6, _), (7, _), (16, _)]) [1, 2, 3, 6, 7, 16] rfl ?_
 refine CW_condk rfl (fun h3 => ?_) (fun h3 => ?_)
 ·(try simp only [tA, tB, tC, tD, tE, tF, tG, tH, tI, tJ, tK, tL] at h3)
  refine CW_seq ?_
  refine CW_region ?_
  refine W_q (r_builds (cs := [_, _, _]) T.bl25 rfl rfl) rfl ?_
  refine S_storeb 0 (l' := [_, _, _]) rfl rfl rfl T.sz25 rfl rfl rfl rfl ?_
  refine W_q (r_assign rfl) rfl ?_
  refine W_nil ?_
  refine NX_as (L' := [(1, _), (2, _), (3, _), (6, _), (7, _)]) [1, 2, 3, 6, 7] rfl ?_
  exact C_ret (RX_then (RX_gR (res_ct 0 rfl rfl rfl T.ag25 T.sz25 rfl) (.inr ⟨by assumption, rfl⟩)))
 ·(try simp only [tA, tB, tC, tD, tE, tF, tG, tH, tI, tJ, tK, tL] at h3)
  refine C_skip ?_
  refine NX_as (L' := [(1, _), (2, _), (3, _), (6, _), (7, _)]) [1, 2, 3, 6, 7] rfl ?_
  refine CW_seq ?_
  refine CW_region ?_
  obtain ⟨hrt, bo, hbo, hlg⟩ := LegalP_ex (f := f) (block := block) (order := order) (by assumption)
  have hrb := right_block hrt
  obtain ⟨hol, hal, _⟩ := may_small (right_small hrt) (List.mem_of_getElem? hbo)
  have holen := legalP_len hlg
  have horg := legalP_rng hlg
  have hbl64 : f.blocks.length ≤ 64 := by have h := right_small hrt; simp only [mayF, Bool.and_eq_true, Bool.not_eq_true', Bool.or_eq_false_iff, decide_eq_false_iff_not] at h; omega
  refine W_q (r_assign rfl) rfl ?_
  refine W_nil ?_
  refine NX_as (L' := [(1, _), (2, _), (3, _), (6, _), (7, _), (8, _)]) [1, 2, 3, 6, 7, 8] rfl ?_
  refine CW_seq ?_
  refine CW_seq ?_
  refine CW_region ?_
  refine W_q (r_move rfl) rfl ?_
  refine W_q (r_len Tryz.underlying22 rfl) rfl ?_
  refine W_q (r_move rfl) rfl ?_
  refine W_nil ?_
  refine NX_as (L' := [(1, _), (3, _), (6, _), (7, _), (8, _), (18, _), (19, _), (20, _)]) [1, 3, 6, 7, 8, 18, 19, 20] rfl ?_
  refine CW_nilRow 51 6 ?_
  refine C_range (Option Nat × Nat × List Value) (order.length) (fun k4 x4 => SRows rOp 6 m x4.2.2 (ordOps bo (order.take k4)) ∧ (0 < k4 → ∃ b, x4.1 = some b)) (fun k4 x4 => [(8, .slice (rowA x4.1) k4 x4.2.1)]) (fun k4 x4 => [row x4.1 k4 x4.2.1 51 6 x4.2.2]) [8] [1, 3, 6, 7, 18] (F := [(1, _), (3, _), (6, _), (7, _), (18, _)]) ((none, 0, [])) rfl rfl (by omega) ⟨SRows.nil, by omega⟩ rfl rfl rfl rfl rfl rfl rfl (fun _ _ => rfl) (fun _ _ => rfl) (fun k4 x4 hk4 hJ4 => ?_) (fun x4 hJ4 => ?_)
  ·obtain ⟨hro, hgo⟩ := hJ4
   refine CW_as (L' := [(1, _), (3, _), (6, _), (7, _), (8, _), (18, _), (19, _), (20, _)]) [1, 3, 6, 7, 8, 18, 19, 20] rfl ?_
   refine CW_seq ?_
   refine CW_region ?_
   obtain ⟨ad6, hA6⟩ := h.ad (j := k4) (by omega)
   obtain ⟨z6, hz6⟩ := h.getz (j := k4) (by omega)
   refine W_q (r_index hA6 Tryz.underlying22 T.sz3 rfl rfl ⟨by omega, by omega⟩) rfl ?_
   obtain ⟨l7, r7⟩ := Sl.getI h hA6 hz6
   refine W_q (r_load_imm rfl T.ag3 l7) rfl ?_
   refine W_q (r_assign rfl) rfl ?_
   refine W_nil ?_
   refine NX_as (L' := [(1, _), (3, _), (6, _), (7, _), (8, _), (10, _), (18, _), (19, _), (20, _)]) [1, 3, 6, 7, 8, 10, 18, 19, 20] rfl ?_
   refine CW_region ?_
   refine W_q (r_move rfl) rfl ?_
   refine W_q (r_fieldb (o' := 2) rfl T.fo25_2 rfl) rfl ?_
   refine W_q (r_loadb 2 rfl T.ag23 rfl rfl) rfl ?_
   refine W_q (r_move rfl) rfl ?_
   obtain ⟨ad8, hA8⟩ := hb90.ad (j := block.toNat) (by omega)
   refine W_q (r_index hA8 Tryz.underlying23 T.sz44 rfl rfl ⟨by omega, by omega⟩) rfl ?_
   refine W_q (r_field rfl T.fo44_1) rfl ?_
   obtain ⟨es9, f9, _, l9⟩ := Sl.get hb90 hA8 hbo
   obtain ⟨A9, c9, B9, d9, C9, e9, rfl, hp9, ho9, ht9, i9a, i9b⟩ := f9
   refine W_q (r_load_imm rfl T.ag40 (l9 1 _ rfl)) rfl ?_
   have hzr := horg z6 (List.mem_of_getElem? hz6)
   refine W_q (r_move rfl) rfl ?_
   obtain ⟨ad10, hA10⟩ := ho9.ad (j := z6.toNat) (by omega)
   obtain ⟨z10, hz10⟩ := ho9.getz (j := z6.toNat) (by omega)
   refine W_q (r_index hA10 Tryz.underlying40 T.sz51 rfl rfl ⟨by omega, by omega⟩) rfl ?_
   obtain ⟨es11, f11, _, l11⟩ := Sl.get ho9 hA10 hz10
   have F11 := f11
   obtain ⟨A11, c11, rfl, h11, i11a, i11b, i11c, i11d, i11e⟩ := f11
   refine W_q (r_load_immk (vs := [_, _, _, _, _, _]) rfl T.ag51 T.sz51 l11) rfl ?_
   refine S_litr (vs := [_]) (cs := [_, _, _, _, _, _]) Tryz.underlying40 T.sz51 T.ze51 rfl rfl rfl rfl rfl rfl rfl (fun b12 => ?_)
   refine S_appendG [_, _, _, _, _, _] 1 rfl rfl rfl Tryz.underlying40 T.sz51 T.ze51 T.by51 rfl rfl rfl (.row 0 rfl) rfl (by omega) (by unfold maxLen; omega) rfl (fun g13 c13 hg13 => ?_)
   refine W_q (r_assign rfl) rfl ?_
   refine W_nil ?_
   refine NX_block (?_)
   refine NX_rng [8, 1, 3, 6, 7, 18] ((_, _, _)) ?_ rfl (sub_drop 1 rfl) rfl (Imm.le_refl _)
   refine ⟨?_, hg13⟩
   rw [ordOps_succ hz6 hz10]
   exact hro.snoc rfl F11
  ·obtain ⟨hro, hgo⟩ := hJ4
   rw [List.take_of_length_le (Nat.le_refl _)] at hro
   refine NX_know (k_rowG 0 rfl) (fun hr => ?_)
   refine NX_freeze 0 rfl (fun _ h => h) (fun m14 le14 hf14 => ?_)
   replace hF := rFunc_mono _ _ _ _ le14 hF
   replace hq90 := hq90.mono rI_mono le14
   replace hb90 := hb90.mono rBlock_mono le14
   replace h := h.mono rI_mono le14
   have hoo : (ordOps bo order).length = order.length := by simp [ordOps]
   have hops := (hro.mono rOp_mono le14).sl hf14 (by rw [hoo]; exact hr.2.1) hr.2.2.1 (by rw [hoo]; omega) (by rw [hoo]; exact hgo)
   skip
   refine NX_as (L' := [(1, _), (3, _), (6, _), (7, _), (8, _)]) [1, 3, 6, 7, 8] rfl ?_
   refine CW_seq ?_
   refine CW_region ?_
   refine W_q (r_loadbk 1 (vs := [_, _, _]) rfl T.ag25 T.sz25 rfl rfl rfl) rfl ?_
   refine S_alloc (l := [_, _, _]) T.ze25 rfl rfl (fun b15 => ?_)
   refine S_storeb 0 (l' := [_, _, _]) rfl rfl rfl T.sz25 rfl rfl rfl rfl ?_
   refine W_nil ?_
   refine NX_as (L' := [(1, _), (3, _), (6, _), (7, _), (8, _), (11, _)]) [1, 3, 6, 7, 8, 11] rfl ?_
   refine CW_seq ?_
   refine CW_region ?_
   refine W_q (r_fieldb (o' := 2) rfl T.fo25_2 rfl) rfl ?_
   refine W_q (r_loadb 2 rfl T.ag23 rfl rfl) rfl ?_
   refine S_does (R0 := []) rfl (CloneB_d hb90 (by omega) (by omega)) T.hb47 rfl rfl (fun m16 R16 v16 le16 hR16 => ?_)
   obtain ⟨rfl, bb, capb, xb, rfl, hrows, rfl⟩ := hR16
   refine W_q (r_fieldb (o' := 2) rfl T.fo25_2 rfl) rfl ?_
   refine S_storeb 1 (l' := [_, _, _]) rfl rfl rfl T.sz23 rfl rfl rfl rfl ?_
   refine W_nil ?_
   refine NX_as (L' := [(1, _), (6, _), (7, _), (8, _), (11, _)]) [1, 6, 7, 8, 11] rfl ?_
   refine CW_seq ?_
   refine CW_region ?_
   refine W_q (r_fieldb (o' := 2) rfl T.fo25_2 rfl) rfl ?_
   refine W_q (r_loadb 1 rfl T.ag23 rfl rfl) rfl ?_
   refine W_q (r_move rfl) rfl ?_
   refine W_q (r_move rfl) rfl ?_
   refine W_q (r_indexr (o := (block.toNat * 5)) Tryz.underlying23 T.sz44 rfl rfl ⟨by omega, by omega⟩ (by omega)) rfl ?_
   refine W_q (r_fieldb (o' := (block.toNat * 5) + 1) rfl T.fo44_1 rfl) rfl ?_
   refine S_storerk 0 rfl rfl rfl rfl T.sz40 rfl (by rw [hrows.len]; omega) ?_
   have hrows2 := hrows.set (k := 1) hbo (by omega) (fun es _ => block_ops hops es)
   rw [hoo] at hrows2
   refine W_nil ?_
   refine NX_as (L' := [(6, _), (7, _), (11, _)]) [6, 7, 11] rfl ?_
   refine CW_seq ?_
   refine CW_region ?_
   refine W_q (r_loadbk 1 (vs := [_, _, _]) rfl T.ag25 T.sz25 rfl rfl rfl) rfl ?_
   refine S_storeb 2 (l' := [_, _, _]) rfl rfl rfl T.sz25 rfl rfl rfl rfl ?_
   refine W_q (r_assign rfl) rfl ?_
   refine W_nil ?_
   refine NX_as (L' := [(6, _), (7, _)]) [6, 7] rfl ?_
   refine C_ret (RX_know (k_rowG 0 rfl) (fun hq => ?_))
   refine RX_freeze 0 rfl (fun _ h => h) (fun m18 le18 hf18 => ?_)
   replace hF := rFunc_mono _ _ _ _ le18 hF
   replace hq90 := hq90.mono rI_mono le18
   replace hb90 := hb90.mono rBlock_mono le18
   replace h := h.mono rI_mono le18
   replace hops := hops.mono rOp_mono le18
   have hres := (hrows2.mono rBlock_mono le18).sl hf18 (by rw [List.length_set]; exact hq.2.1) hq.2.2.1 (by rw [List.length_set]; omega) (by rw [List.length_set]; exact hq.2.2.2)
   refine RX_gR (res_ct 1 rfl rfl rfl T.ag25 T.sz25 rfl) (.inl ⟨by assumption, _, rfl, ?_⟩)
   rw [putOps_set hbo]
   exact ⟨_, _, _, _, by simp only [List.length_set]; rfl, hq90, hres, i90a⟩

end Go.Proofs.YtipmgkhjoekaaaaGreat

set_option linter.unusedVariables false
namespace Go.Proofs.YtipmgkhjoekaaaaGreat
open Go Go.Proofs.YtipmgkhjoekaaaaGreat.Fw
/-! One block of operations that hang on nothing. -/
def freeO (i : Nat) : FOp := ⟨0, 8, 1, 2 + (i : Int), [], (i : Int)⟩
def freeL (n : Nat) : List FOp := (List.range n).map freeO
def freeB (n : Nat) : FBlk := ⟨[], freeL n, ⟨0, 1, []⟩⟩
def freeF (n : Nat) : FFun := ⟨[8], 8, [freeB n]⟩
def iota (n : Nat) : List Int := (List.range n).map fun (i : Nat) => (i : Int)
theorem iota_succ (n : Nat) : iota (n + 1) = iota n ++ [(n : Int)] := by simp [iota, List.range_succ]
theorem iota_len (n : Nat) : (iota n).length = n := by simp [iota]
theorem freeL_succ (n : Nat) : freeL (n + 1) = freeL n ++ [freeO n] := by simp [freeL, List.range_succ]
theorem freeL_len (n : Nat) : (freeL n).length = n := by simp [freeL]
theorem freeL_get {n k : Nat} (h : k < n) : (freeL n)[k]? = some (freeO k) := by simp [freeL, h]
theorem mem_freeL {n : Nat} {o : FOp} (h : o ∈ freeL n) : ∃ i, i < n ∧ o = freeO i := by
  simp only [freeL, List.mem_map, List.mem_range] at h
  obtain ⟨i, hi, rfl⟩ := h; exact ⟨i, hi, rfl⟩
section
variable {n : Nat}
theorem free_may (h : n ≤ 60) : mayF (freeF n) = true := by
  have hops : (freeL n).all mayOpC = true := List.all_eq_true.2 fun o ho => by
    obtain ⟨i, hi, rfl⟩ := mem_freeL ho
    have e1 : outN (2 + (i : Int)) = false := by simp only [outN, Bool.or_eq_false_iff, decide_eq_false_iff_not]; omega
    have e2 : inB [(0 : Int), 8, 1, 2 + (i : Int)] = true := by
      simp only [inB, List.any_cons, List.any_nil, e1]; rfl
    simp only [mayOpC, freeO, e2]; rfl
  have hb : mayBlock (freeB n) = true := by simp only [mayBlock, freeB, hops]; rfl
  have hs : sizeF (freeF n) = 1 + (n : Int) := by simp [sizeF, freeF, freeB, freeL_len]
  have h1 : decide (512 < sizeF (freeF n)) = false := by rw [decide_eq_false_iff_not, hs]; omega
  have h2 : ((freeF n).blocks.any fun b => !(mayBlock b)) = false := by simp [freeF, hb]
  simp only [mayF, h1, h2]; rfl
def g1 : FGraph := ⟨[[]], [[]]⟩
theorem free_of : ofP (freeF n) = some g1 := by
  have e : sortC [] = [] := by rw [sortC]; simp; exact compact_nil
  have e2 : badB 1 (freeB n) = false := rfl
  rw [ofP_ok (by simp [freeF]) (fun j b hj hb => by
    simp only [freeF, List.length_cons, List.length_nil] at hj
    obtain rfl : j = 0 := by omega
    cases hb; exact e2)]
  show makeP [sortC []] = some g1
  rw [e]; rfl
theorem g1_tree : treeP g1 0 = [-1] := by
  refine treeP_eq (Int.le_refl 0) ⟨rfl, rfl, fun y h0 h1 hn => ?_, fun y h0 h1 _ hne => ?_⟩
  · have : y = 0 := by simp only [g1, List.length_cons, List.length_nil] at h1; omega
    subst this; exact absurd (.refl trivial) hn
  · have : y = 0 := by simp only [g1, List.length_cons, List.length_nil] at h1; omega
    exact absurd this hne
theorem free_shape : shapeP (freeF n) = 0 := by
  refine shapeP_ok free_of fun i b hi => ?_
  obtain ⟨hlt, rfl⟩ := List.getElem?_eq_some_iff.1 hi
  simp only [freeF, List.length_cons, List.length_nil] at hlt
  obtain rfl : i = 0 := by omega
  rw [g1_tree]
  have : overP [-1] 0 0 = true := by decide
  show okShape g1 [-1] 0 (freeB n) = true
  rw [okShape, show ((0 : Nat) : Int) = 0 from rfl, this]; rfl
theorem free_opK {i : Nat} (h : i < 60) : mayOpK (freeO i) = true := by
  have e1 : cutV (i : Int) 8 = (i : Int) := by
    rw [cutV, if_pos (by decide)]
    show (i : Int) % 256 = i
    omega
  have e2 : valueB (2 + (i : Int)) = true := by simp only [valueB, Bool.and_eq_true, decide_eq_true_eq]; omega
  have e3 : takesP (freeO i) = ([], true) := by
    show (if (0 : Int) == 0 then ([], cutV (i : Int) 8 == (i : Int)) else _) = _
    rw [if_pos (by decide), e1]; simp
  simp only [mayOpK, e3]
  show (shapeB 8 1 && (true && ((if storesK 0 then (2 + (i : Int)) == 0 else valueB (2 + (i : Int))) && _))) = true
  rw [show storesK 0 = false from rfl, if_neg (by decide), e2]; rfl
theorem free_typed (h : n ≤ 60) : typedP (freeF n) 2 = 0 := by
  have hops : (freeL n).all (ofK 2) = true := List.all_eq_true.2 fun o ho => by
    obtain ⟨i, hi, rfl⟩ := mem_freeL ho
    simp only [ofK, free_opK (show i < 60 by omega)]; rfl
  have hb : okTyped 2 (freeB n) = true := by simp only [okTyped, freeB, hops]; rfl
  have : (mayW (freeF n).ret && ((freeF n).params.all mayW && (freeF n).blocks.all (okTyped 2))) = true := by
    simp only [freeF, List.all_cons, List.all_nil, hb]; rfl
  rw [typedP, if_pos this]
theorem free_gives {i : Nat} (h : i < 60) : givesP (freeO i) = (8, 1) := by
  rw [givesP, free_opK h]; rfl
theorem free_takes {i : Nat} (h : i < 60) : takesK (freeO i) = [] := by
  rw [takesK, if_pos (free_opK h)]; rfl
theorem zipIdx_snoc {α : Type _} (l : List α) (x : α) : (l ++ [x]).zipIdx = l.zipIdx ++ [(x, l.length)] := by
  rw [List.zipIdx_append]; simp
theorem free_zip (n : Nat) : (freeL n).zipIdx = (List.range n).map fun i => (freeO i, i) := by
  induction n with
  | zero => rfl
  | succ n ih => rw [freeL_succ, zipIdx_snoc, ih, freeL_len, List.range_succ, List.map_append]; rfl
theorem flatten_ones {α β : Type _} (f : α → β) (l : List α) : (l.map fun x => [f x]).flatten = l.map f := by
  induction l with
  | nil => rfl
  | cons x r ih => simp [ih]
theorem free_opDs (h : n ≤ 60) : (freeL n).zipIdx.flatMap (opD 0) = (List.range n).map fun (i : Nat) => (2 + (i : Int), ((0 : Int), (i : Int), (8 : Int), (1 : Int))) := by
  rw [free_zip, List.flatMap_map]
  have : ∀ i ∈ List.range n, opD 0 (freeO i, i) = [(2 + (i : Int), ((0 : Int), (i : Int), (8 : Int), (1 : Int)))] := fun i hi => by
    have hi' := List.mem_range.1 hi
    have e := free_gives (show i < 60 by omega)
    simp only [opD, e]; rfl
  rw [List.flatMap_def, List.map_congr_left this]
  exact flatten_ones _ _
theorem free_defs (h : n ≤ 60) : defsL (freeF n) = (1, (-1, 0, 8, 1)) :: (List.range n).map fun (i : Nat) => (2 + (i : Int), ((0 : Int), (i : Int), (8 : Int), (1 : Int))) := by
  have e := free_opDs h
  show [8].zipIdx.map paramD ++ [freeB n].zipIdx.flatMap blockD = _
  simp only [List.zipIdx_cons, List.zipIdx_nil, List.map_cons, List.map_nil, List.flatMap_cons, List.flatMap_nil, List.append_nil, paramD, blockD, freeB, List.nil_append]
  rw [e]; rfl
theorem free_usesL (h : n ≤ 60) : usesL (freeF n) = [(1, (8, 1), 0, 1048576)] := by
  have e : (freeL n).zipIdx.flatMap (opU 0) = [] := by
    rw [free_zip, List.flatMap_eq_nil_iff]
    intro x hx
    simp only [List.mem_map, List.mem_range] at hx
    obtain ⟨i, hi, rfl⟩ := hx
    rw [opU, free_takes (by omega)]; rfl
  show [freeB n].zipIdx.flatMap (blockU (freeF n)) = _
  simp only [List.zipIdx_cons, List.zipIdx_nil, List.flatMap_cons, List.flatMap_nil, List.append_nil, blockU, freeB, List.nil_append]
  rw [e]; rfl
theorem free_get (h : n ≤ 60) : getL (defsL (freeF n)) 1 = some (-1, 0, 8, 1) := by rw [free_defs h]; rfl
theorem free_uses (h : n ≤ 60) (ask : Use → Int) (h1 : ask (1, (8, 1), 0, 1048576) = 0) : usesP (freeF n) ask = 0 := by
  rw [usesP, free_usesL h, firstN_one, h1]
theorem free_defined (h : n ≤ 60) : definedP (freeF n) = 0 := by
  have hd : defOK (freeF n) := by
    refine ⟨fun b hb p hp => ?_, ?_⟩
    · simp only [freeF, List.mem_singleton] at hb; subst hb; simp [freeB] at hp
    · rw [free_defs h, List.map_cons, List.map_map, List.nodup_cons]
      refine ⟨fun hc => ?_, ?_⟩
      · simp only [List.mem_map, List.mem_range, Function.comp] at hc
        obtain ⟨i, _, hi⟩ := hc; omega
      · rw [List.nodup_iff_pairwise_ne, List.pairwise_map]
        refine List.Pairwise.imp ?_ List.pairwise_lt_range
        intro a b hab; simp only [Function.comp]; omega
  rw [definedP, if_pos hd]
  exact free_uses h _ (by simp only [askD, free_get h]; rfl)
theorem free_check (h : n ≤ 60) : checkP (freeF n) 2 = 0 := by
  rw [checkP, if_neg (by omega), lookP, if_neg (by simp [free_may h]), if_neg (by simp [free_shape]), if_neg (by simp [free_typed h]), if_neg (by simp [free_defined h]), if_neg (by
    have := free_uses h (askS (freeF n)) (by simp only [askS, free_get h]; rfl)
    simp [this])]
  exact free_uses h _ (by simp only [askP, free_get h]; rfl)
theorem free_right (h : n ≤ 60) : rightP (freeF n) 0 = true := by
  simp only [rightP, free_check h]; rfl
theorem free_hangs (n : Nat) : hangsP (freeL n) = List.replicate n [] := by
  refine List.ext_getElem? fun j => ?_
  by_cases hj : j < n
  · rw [hangsP_get (freeL_get hj), List.getElem?_replicate, if_pos hj]
    have : rawH (freeL n) (freeO j, j) = [] := rfl
    rw [this, sortC]; simp; exact compact_nil
  · rw [List.getElem?_eq_none (by rw [hangsP_len, freeL_len]; omega), List.getElem?_replicate, if_neg hj]
theorem free_hang {k : Nat} : (hangsP (freeL n)).getD k [] = [] := by
  rw [free_hangs]; simp only [List.getD_eq_getElem?_getD, List.getElem?_replicate]; split <;> rfl
theorem free_legal {l : List Int} (hl : l.length = n) (hn : l.Nodup) (hr : ∀ z ∈ l, 0 ≤ z ∧ z < (n : Int)) : legalP (freeB n) l = true := by
  refine legalP_t (by simp [freeB, freeL_len, hl]) fun j hj => ?_
  have hz : l[j]? = some l[j] := List.getElem?_eq_getElem hj
  have hzr := hr _ (List.getElem_mem hj)
  have hnot : inM (putM l j) l[j] = false := by
    rw [inM_putM, decide_eq_false_iff_not]
    intro hc
    obtain ⟨i, hi⟩ := List.mem_iff_getElem?.1 hc
    have hij : i < j := by have := (List.getElem?_eq_some_iff.1 hi).1; rw [List.length_take] at this; omega
    rw [List.getElem?_take, if_pos hij] at hi
    have := nodup_idx hn hi hz
    omega
  refine okO_t (l := []) hz hzr.1 (by simp only [freeB, freeL_len]; exact hzr.2) hnot ?_ rfl
  simp only [freeB]; rw [free_hangs, List.getElem?_replicate, if_pos (by omega)]
theorem free_next {k : Nat} (hk : k < n) : flatNext (freeL n) (putL1 (iota k)) = some k := by
  refine flatNext_some (k0 := 0) (by omega) (by rw [freeL_len]; exact hk) (fun j hj => absurd hj (by omega)) (fun a ha => ?_) ?_
  · exact condF_1 (by rw [putL1_in, decide_eq_true_eq]; simp only [iota, List.mem_map, List.mem_range]; exact ⟨a, ha, rfl⟩)
  · refine condF_t (l := []) ?_ (freeL_get hk) rfl ?_ rfl
    · rw [putL1_in, decide_eq_false_iff_not]; simp only [iota, List.mem_map, List.mem_range]; rintro ⟨a, ha, e⟩; omega
    · rw [free_hangs, List.getElem?_replicate, if_pos hk]
theorem free_run : ∀ t k : Nat, k + t = n → flatRun (freeL n) t (iota k) = iota n
  | 0, k, h => by obtain rfl : k = n := by omega
                  rfl
  | t + 1, k, h => by
    rw [flatRun, free_next (by omega)]
    show flatRun (freeL n) t (iota k ++ [(k : Int)]) = _
    rw [← iota_succ]; exact free_run t (k + 1) (by omega)
theorem free_flat (h : n ≤ 60) : FlatP (freeF n) 0 = iota n := by
  rw [FlatP_t (free_right h) (b := freeB n) rfl, flatP]
  simp only [freeB, freeL_len]
  exact free_run n 0 (Nat.zero_add n)
theorem dep_free : ∀ k : Nat, k ≤ n → depK (List.replicate n []) k = List.replicate k 0
  | 0, _ => rfl
  | k + 1, h => by
    rw [depK_succ (l := []) (by rw [List.getElem?_replicate, if_pos (by omega)]), dep_free k (by omega), List.replicate_succ']
    rfl
theorem free_depth (h : n ≤ 60) : DepthP (freeF n) 0 = List.replicate n 0 := by
  rw [DepthP_t (free_right h) (b := freeB n) rfl, depP]
  simp only [freeB, free_hangs, List.length_replicate]
  exact dep_free n (Nat.le_refl _)
theorem free_hangsAt (h : n ≤ 60) (k : Int) : HangsP (freeF n) 0 k = [] := by
  by_cases h0 : 0 ≤ k
  · rw [HangsP, if_pos (free_right h), if_pos h0]
    show (hangsP (freeL n)).getD k.toNat [] = []
    exact free_hang
  · exact HangsP_f1 (by omega)
theorem free_Legal (h : n ≤ 60) {l : List Int} (hl : l.length = n) (hn : l.Nodup) (hr : ∀ z ∈ l, 0 ≤ z ∧ z < (n : Int)) : LegalP (freeF n) 0 l = true := by
  rw [LegalP_t (free_right h) (b := freeB n) rfl]; exact free_legal hl hn hr
theorem free_put {l : List Int} : putOps (freeF n) 0 l = ⟨[8], 8, [⟨[], ordOps (freeB n) l, ⟨0, 1, []⟩⟩]⟩ := rfl
theorem free_ord {l : List Int} {k : Nat} {z : Int} (hz : l[k]? = some z) (hr : 0 ≤ z ∧ z < (n : Int)) : (ordOps (freeB n) l)[k]? = some (freeO z.toNat) := by
  rw [ordOps, List.getElem?_map, hz]
  have : (freeB n).ops[z.toNat]? = some (freeO z.toNat) := freeL_get (by omega)
  simp [this]
end
end Go.Proofs.YtipmgkhjoekaaaaGreat

set_option linter.unusedVariables false
namespace Go.Proofs.YtipmgkhjoekaaaaGreat
open Go Go.Proofs.YtipmgkhjoekaaaaGreat.Fw
/-! The function that the laws of orders begin with. -/
theorem sortC_rise {l : List Int} (h : l.Pairwise (· < ·)) : sortC l = l := by
  rw [sortC, List.mergeSort_of_pairwise (h.imp (by intro a b hab; simp; omega))]
  refine Lib.compact_all l fun j hj => ?_
  simp only [Lib.keeps, decide_eq_true_eq]
  rcases Nat.eq_zero_or_pos j with h0 | h0
  · exact .inl h0
  · right
    have e1 : l.toArray[j]! = l[j] := by rw [getElem!_pos _ j (by simpa using hj)]; simp
    have e2 : l.toArray[j - 1]! = l[j - 1] := by rw [getElem!_pos _ (j - 1) (by simp; omega)]; simp
    rw [e1, e2]
    have := List.pairwise_iff_getElem.1 h (j - 1) j (by omega) hj (by omega)
    omega
def awO1 : FOp := ⟨0, 8, 1, 1, [], 7⟩
def awO2 : FOp := ⟨0, 8, 1, 2, [], 8⟩
def awO3 : FOp := ⟨1, 8, 1, 3, [1, 2], 0⟩
def awB : FBlk := ⟨[], [awO1, awO2, awO3], ⟨0, 3, []⟩⟩
def awF : FFun := ⟨[], 8, [awB]⟩
theorem aw_may : mayF awF = true := by decide
theorem aw_of : ofP awF = some g1 := by
  have e : sortC [] = [] := sortC_rise List.Pairwise.nil
  rw [ofP_ok (by simp [awF]) (fun j b hj hb => by
    simp only [awF, List.length_cons, List.length_nil] at hj
    obtain rfl : j = 0 := by omega
    cases hb; rfl)]
  show makeP [sortC []] = some g1
  rw [e]; rfl
theorem aw_shape : shapeP awF = 0 := by
  refine shapeP_ok aw_of fun i b hi => ?_
  obtain ⟨hlt, rfl⟩ := List.getElem?_eq_some_iff.1 hi
  simp only [awF, List.length_cons, List.length_nil] at hlt
  obtain rfl : i = 0 := by omega
  rw [g1_tree]; show okShape g1 [-1] 0 awB = true; decide
theorem aw_typed : typedP awF 2 = 0 := by decide
theorem aw_defined : definedP awF = 0 := by
  have hd : defOK awF := by
    refine ⟨fun b hb p hp => ?_, by decide⟩
    simp only [awF, List.mem_singleton] at hb; subst hb; simp [awB] at hp
  rw [definedP, if_pos hd]; decide
theorem aw_check : checkP awF 2 = 0 := by
  rw [checkP, if_neg (by omega), lookP, if_neg (by simp [aw_may]), if_neg (by simp [aw_shape]), if_neg (by simp [aw_typed]), if_neg (by simp [aw_defined]), if_neg (by
    have : usesP awF (askS awF) = 0 := by decide
    simp [this]), aw_of]
  show usesP awF (askP awF (treeP g1 0)) = 0
  rw [g1_tree]; decide
theorem aw_right : rightP awF 0 = true := by
  simp only [rightP, aw_check]; rfl
theorem aw_hangs : hangsP [awO1, awO2, awO3] = [[], [], [0, 1]] := by
  have e0 : sortC [] = [] := sortC_rise List.Pairwise.nil
  have e1 : sortC [0, 1] = [0, 1] := sortC_rise (by decide)
  show [sortC [], sortC [], sortC [0, 1]] = _
  rw [e0, e1]
theorem aw_legal {order : List Int} {q : Bool} (h : (decide (order.length = 3) && (List.range order.length).all fun k => match order[k]? with
    | some a => !(decide (a < 0) || decide ((3 : Int) ≤ a)) && (!(inM (putM order k) a) && standsB (putM order k) ([[], [], [(0 : Int), 1]].getD a.toNat []))
    | none => true) = q) : LegalP awF 0 order = q := by
  rw [LegalP_t aw_right (b := awB) rfl, ← h]
  have : okO awB order = fun k => match order[k]? with
    | some a => !(decide (a < 0) || decide ((3 : Int) ≤ a)) && (!(inM (putM order k) a) && standsB (putM order k) ([[], [], [(0 : Int), 1]].getD a.toNat []))
    | none => true := by
    funext k; simp only [okO, awB, aw_hangs]; rfl
  rw [legalP, this]; rfl
theorem aw_legal1 : LegalP awF 0 [1, 0, 2] = true := aw_legal (by decide)
theorem aw_legal2 : LegalP awF 0 [2, 0, 1] = false := aw_legal (by decide)
theorem aw_hangs2 : HangsP awF 0 2 = [0, 1] := by
  rw [HangsP, if_pos aw_right, if_pos (by decide)]
  show (hangsP [awO1, awO2, awO3]).getD 2 [] = _
  rw [aw_hangs]; rfl
theorem aw_flat : FlatP awF 0 = [0, 1, 2] := by
  rw [FlatP_t aw_right (b := awB) rfl]
  have hc : ∀ L p a, condF [awO1, awO2, awO3] L p a = (!(inM L a) && ((pureK ([awO1, awO2, awO3].getD a default).kind == p) && standsB L ([[], [], [(0 : Int), 1]].getD a []))) := fun L p a => by rw [condF, aw_hangs]
  have h0 : flatNext [awO1, awO2, awO3] (putL1 []) = some 0 := flatNext_some (k0 := 0) (k1 := 0) (by omega) (by decide) (by intro j hj; omega) (by intro a ha; omega) (by rw [hc]; decide)
  have h1 : flatNext [awO1, awO2, awO3] (putL1 [0]) = some 1 := flatNext_some (k0 := 0) (k1 := 1) (by omega) (by decide) (by intro j hj; omega) (by intro a ha; rw [hc]; rcases (show a = 0 ∨ a = 0 by omega) with rfl | rfl <;> decide) (by rw [hc]; decide)
  have h2 : flatNext [awO1, awO2, awO3] (putL1 [0, 1]) = some 2 := flatNext_some (k0 := 0) (k1 := 2) (by omega) (by decide) (by intro j hj; omega) (by intro a ha; rw [hc]; rcases (show a = 0 ∨ a = 1 by omega) with rfl | rfl <;> decide) (by rw [hc]; decide)
  show flatRun [awO1, awO2, awO3] 3 [] = _
  rw [flatRun, h0]
  show flatRun [awO1, awO2, awO3] 2 [0] = _
  rw [flatRun, h1]
  show flatRun [awO1, awO2, awO3] 1 [0, 1] = _
  rw [flatRun, h2]; rfl
theorem aw_depth : DepthP awF 0 = [0, 0, 1] := by
  rw [DepthP_t aw_right (b := awB) rfl]
  show depP (hangsP [awO1, awO2, awO3]) = _
  rw [aw_hangs]; decide
/-! Building structs. -/
theorem Fw.SRows.lit {α : Type} {r : Rep α} {sz c : Nat} {m : Imm} {ad : Addr} {cs : List Value} {l : List α} (h : SRows r sz m cs l) (hl : ∀ j v, cs[j]? = some v → m.cell? (ad.add j) = some v) (hc : l.length = c := by rfl) (hle : Nat.ble c 1000 = true := by rfl) : Sl r sz m (some ad) c l := by
  have hle := Nat.le_of_ble_eq_true hle
  subst hc
  refine ⟨Nat.le_refl _, by simp only [maxLen]; omega, by omega, fun j x hj => ?_⟩
  obtain ⟨es, h1, h2, h3⟩ := h.at_ j x hj
  exact ⟨ad, rfl, es, h1, h2, fun k v hk => hl _ _ (h3 k v hk)⟩
theorem Fw.SRows.add {α : Type} {r : Rep α} {sz : Nat} {m : Imm} {xs es : List Value} {l : List α} {z : α} (h : SRows r sz m xs l) (hz : r m es z) (hes : es.length = sz := by rfl) : SRows r sz m (xs ++ es) (l ++ [z]) := h.snoc hes hz
theorem rOp_none {m : Imm} {k b l d i : Int} (hk : I64 k := by exact ⟨by omega, by omega⟩) (hb : I64 b := by exact ⟨by omega, by omega⟩) (hl : I64 l := by exact ⟨by omega, by omega⟩) (hd : I64 d := by exact ⟨by omega, by omega⟩) (hi : U64 i := by exact ⟨by omega, by omega⟩) :
    rOp m [.int .i64 k, .int .i64 b, .int .i64 l, .int .i64 d, .slice none 0 0, .int .u64 i] ⟨k, b, l, d, [], i⟩ := ⟨none, 0, rfl, Sl.nil _ _ _, hk, hb, hl, hd, hi⟩
theorem rOp_some {m : Imm} {k b l d i : Int} {A : Option Addr} {c n : Nat} {ags : List Int} (h : Ints m A c ags) (hn : ags.length = n := by rfl) (hk : I64 k := by exact ⟨by omega, by omega⟩) (hb : I64 b := by exact ⟨by omega, by omega⟩) (hl : I64 l := by exact ⟨by omega, by omega⟩) (hd : I64 d := by exact ⟨by omega, by omega⟩) (hi : U64 i := by exact ⟨by omega, by omega⟩) :
    rOp m [.int .i64 k, .int .i64 b, .int .i64 l, .int .i64 d, .slice A n c, .int .u64 i] ⟨k, b, l, d, ags, i⟩ := by subst hn; exact ⟨A, c, rfl, h, hk, hb, hl, hd, hi⟩
theorem rBlock_of {m : Imm} {B : Option Addr} {d n : Nat} {ops : List FOp} {k a : Int} (h : Sl rOp 6 m B d ops) (hn : ops.length = n := by rfl) (hk : I64 k := by exact ⟨by omega, by omega⟩) (ha : I64 a := by exact ⟨by omega, by omega⟩) :
    rBlock m [.slice none 0 0, .slice B n d, .int .i64 k, .int .i64 a, .slice none 0 0] ⟨[], ops, ⟨k, a, []⟩⟩ := by subst hn; exact ⟨none, 0, B, d, none, 0, rfl, Sl.nil _ _ _, h, Sl.nil _ _ _, hk, ha⟩
end Go.Proofs.YtipmgkhjoekaaaaGreat

set_option linter.unusedVariables false
set_option linter.unusedSimpArgs false
namespace Go.Proofs.YtipmgkhjoekaaaaGreat
open Go Go.RowKit Go.Proofs Go.Proofs.YtipmgkhjoekaaaaGreat.Fw
attribute [local irreducible] Qt WL CW NX RX EX GX DL
namespace T
theorem bl42 : bls? Tryz.prog 42 = some ([(0, 1), (1, 1), (2, 1)], ([(.int .i64 0), (.int .i64 0), (.slice none 0 0)] : List Value)) := by kernel_rfl
theorem bl44 : bls? Tryz.prog 44 = some ([(0, 1), (1, 1), (2, 3)], ([(.slice none 0 0), (.slice none 0 0), (.int .i64 0), (.int .i64 0), (.slice none 0 0)] : List Value)) := by kernel_rfl
theorem bl51 : bls? Tryz.prog 51 = some ([(0, 1), (1, 1), (2, 1), (3, 1), (4, 1), (5, 1)], ([(.int .i64 0), (.int .i64 0), (.int .i64 0), (.int .i64 0), (.slice none 0 0), (.int .u64 0)] : List Value)) := by kernel_rfl
theorem hb16 : hasBody Tryz.prog 16 = true := by kernel_rfl
theorem hb21 : hasBody Tryz.prog 21 = true := by kernel_rfl
theorem hb22 : hasBody Tryz.prog 22 = true := by kernel_rfl
theorem hb24 : hasBody Tryz.prog 24 = true := by kernel_rfl
theorem hb26 : hasBody Tryz.prog 26 = true := by kernel_rfl
end T
theorem known_q {P : Program} {f : FuncId} {vs : List Value} {m : Imm} {x y : Bool} (h : Quiet P f vs m (.bool x)) (e : x = y) : Quiet P f vs m (.bool y) := e ▸ h
set_option maxHeartbeats 40000000 in
/-- locksteplaw19.awake -/
theorem awake19_q {m : Imm}  : Quiet Tryz.prog 14 [] m (.bool true) := by
 refine quiet_of Tryz.func14 rfl Tryz.ntmps14 rfl (fun w => ?_)
 refine CW_seq ?_
 refine CW_region ?_
 refine W_q (r_assign rfl) rfl ?_
 refine W_nil ?_
 refine NX_as (L' := [(0, _)]) [0] rfl ?_
 refine CW_seq ?_
 refine CW_region ?_
 refine W_q (r_builds (cs := [_, _, _, _, _, _]) T.bl51 rfl rfl) rfl ?_
 refine W_q (r_builds (cs := [_, _, _, _, _, _]) T.bl51 rfl rfl) rfl ?_
 refine S_lit (vs := [_, _]) (cs := [_, _]) Tryz.underlying22 T.sz3 T.ze3 rfl rfl rfl rfl rfl rfl (fun m1 ad1 le1 l1 => ?_)
 have h1 : Ints m1 (some ad1) 2 _ := Ints_lit [_, _] l1 (i64s_cons (by first | assumption | exact ⟨by omega, by omega⟩) (i64s_cons (by first | assumption | exact ⟨by omega, by omega⟩) i64s_nil))
 refine W_q (r_builds (cs := [_, _, _, _, _, _]) T.bl51 rfl rfl) rfl ?_
 refine S_lit (vs := [_, _, _]) (cs := [_, _, _, _, _, _, _, _, _, _, _, _, _, _, _, _, _, _]) Tryz.underlying40 T.sz51 T.ze51 rfl rfl rfl rfl rfl rfl (fun m2 ad2 le2 l2 => ?_)
 replace h1 := h1.mono rI_mono le2
 have s1 : rOp m2 [.int .i64 0, .int .i64 8, .int .i64 1, .int .i64 1, .slice none 0 0, .int .u64 7] awO1 := rOp_none
 have s2 : rOp m2 [.int .i64 0, .int .i64 8, .int .i64 1, .int .i64 2, .slice none 0 0, .int .u64 8] awO2 := rOp_none
 have s3 : rOp m2 [.int .i64 1, .int .i64 8, .int .i64 1, .int .i64 3, .slice _ 2 _, .int .u64 0] awO3 := rOp_some h1
 have s0 : SRows rOp 6 m2 [] [] := SRows.nil
 have s4 := ((s0.add s1).add s2).add s3
 have hO : Sl rOp 6 m2 (some ad2) 3 [awO1, awO2, awO3] := SRows.lit s4 l2
 refine W_q (r_builds (cs := [_, _, _]) T.bl42 rfl rfl) rfl ?_
 refine W_q (r_builds (cs := [_, _, _, _, _]) T.bl44 rfl rfl) rfl ?_
 refine S_lit (vs := [_]) (cs := [_, _, _, _, _]) Tryz.underlying23 T.sz44 T.ze44 rfl rfl rfl rfl rfl rfl (fun m3 ad3 le3 l3 => ?_)
 replace h1 := h1.mono rI_mono le3
 replace hO := hO.mono rOp_mono le3
 have hBs : Sl rBlock 5 m3 (some ad3) 1 [awB] := SRows.lit (SRows.nil.add (rBlock_of hO)) l3
 refine W_q (r_builds (cs := [_, _, _]) T.bl25 rfl rfl) rfl ?_
 refine S_alloc (l := [_, _, _]) T.ze25 rfl rfl (fun b4 => ?_)
 refine S_storeb 0 (l' := [_, _, _]) rfl rfl rfl T.sz25 rfl rfl rfl rfl ?_
 refine W_nil ?_
 refine NX_as (L' := [(0, _), (1, _)]) [0, 1] rfl ?_
 refine CW_seq ?_
 refine CW_region ?_
 have hF : rFunc _ [.slice none 0 0, .int .i64 8, .slice _ 1 _] awF := ⟨_, _, _, _, rfl, Sl.nil _ _ _, hBs, ⟨by decide, by decide⟩⟩
 refine W_q (r_loadbk 0 (vs := [_, _, _]) rfl T.ag25 T.sz25 rfl rfl rfl) rfl ?_
 refine S_lit (vs := [_, _, _]) (cs := [_, _, _]) Tryz.underlying22 T.sz3 T.ze3 rfl rfl rfl rfl rfl rfl (fun m5 ad5 le5 l5 => ?_)
 replace h1 := h1.mono rI_mono le5
 replace hO := hO.mono rOp_mono le5
 replace hBs := hBs.mono rBlock_mono le5
 replace hF := rFunc_mono _ _ _ _ le5 hF
 have h5 : Ints m5 (some ad5) 3 _ := Ints_lit [_, _, _] l5 (i64s_cons (by first | assumption | exact ⟨by omega, by omega⟩) (i64s_cons (by first | assumption | exact ⟨by omega, by omega⟩) (i64s_cons (by first | assumption | exact ⟨by omega, by omega⟩) i64s_nil)))
 refine S_gives (Put_g hF _ h5) T.hb16 rfl rfl (fun m6 v6 le6 hv6 => ?_)
 replace h1 := h1.mono rI_mono le6
 replace hO := hO.mono rOp_mono le6
 replace hBs := hBs.mono rBlock_mono le6
 replace hF := rFunc_mono _ _ _ _ le6 hF
 replace h5 := h5.mono rI_mono le6
 obtain ⟨_, esG6, rfl, hG6⟩ := hv6.resolve_right (fun h => absurd (Eq.trans (Eq.symm aw_legal1) h.1) (by decide))
 rw [show putOps awF 0 [1, 0, 2] = ⟨[], 8, [⟨[], [awO2, awO1, awO3], ⟨0, 3, []⟩⟩]⟩ from rfl] at hG6
 have hG6_0 := hG6
 obtain ⟨A106, c106, B106, d106, rfl, hq106, hb106, i106a⟩ := hG6_0
 refine W_q (r_move rfl) rfl ?_
 refine W_q (r_extract rfl rfl) rfl ?_
 refine W_q (r_extract rfl rfl) rfl ?_
 refine S_alloc (l := [_, _, _]) T.ze25 rfl rfl (fun b7 => ?_)
 refine S_storeb 0 (l' := [_, _, _]) rfl rfl rfl T.sz25 rfl rfl rfl rfl ?_
 refine W_q (r_assign rfl) rfl ?_
 refine W_nil ?_
 refine NX_as (L' := [(0, _), (1, _), (2, _), (3, _)]) [0, 1, 2, 3] rfl ?_
 refine CW_seq ?_
 refine CW_region ?_
 refine W_q (r_loadbk 1 (vs := [_, _, _]) rfl T.ag25 T.sz25 rfl rfl rfl) rfl ?_
 refine S_lit (vs := [_, _, _]) (cs := [_, _, _]) Tryz.underlying22 T.sz3 T.ze3 rfl rfl rfl rfl rfl rfl (fun m8 ad8 le8 l8 => ?_)
 replace h1 := h1.mono rI_mono le8
 replace hO := hO.mono rOp_mono le8
 replace hBs := hBs.mono rBlock_mono le8
 replace hF := rFunc_mono _ _ _ _ le8 hF
 replace h5 := h5.mono rI_mono le8
 replace hG6 := rFunc_mono _ _ _ _ le8 hG6
 replace hq106 := hq106.mono rI_mono le8
 replace hb106 := hb106.mono rBlock_mono le8
 have h8 : Ints m8 (some ad8) 3 _ := Ints_lit [_, _, _] l8 (i64s_cons (by first | assumption | exact ⟨by omega, by omega⟩) (i64s_cons (by first | assumption | exact ⟨by omega, by omega⟩) (i64s_cons (by first | assumption | exact ⟨by omega, by omega⟩) i64s_nil)))
 refine S_gives (Put_g hF _ h8) T.hb16 rfl rfl (fun m9 v9 le9 hv9 => ?_)
 replace h1 := h1.mono rI_mono le9
 replace hO := hO.mono rOp_mono le9
 replace hBs := hBs.mono rBlock_mono le9
 replace hF := rFunc_mono _ _ _ _ le9 hF
 replace h5 := h5.mono rI_mono le9
 replace hG6 := rFunc_mono _ _ _ _ le9 hG6
 replace hq106 := hq106.mono rI_mono le9
 replace hb106 := hb106.mono rBlock_mono le9
 replace h8 := h8.mono rI_mono le9
 obtain ⟨_, rfl⟩ := hv9.resolve_left (fun h => absurd (Eq.trans (Eq.symm aw_legal2) h.1) (by decide))
 refine W_q (r_move rfl) rfl ?_
 refine W_q (r_extract rfl rfl) rfl ?_
 refine W_q (r_extract rfl rfl) rfl ?_
 refine S_alloc (l := [_, _, _]) T.ze25 rfl rfl (fun b10 => ?_)
 refine S_storeb 0 (l' := [_, _, _]) rfl rfl rfl T.sz25 rfl rfl rfl rfl ?_
 refine W_q (r_assign rfl) rfl ?_
 refine W_nil ?_
 refine NX_as (L' := [(0, _), (1, _), (2, _), (3, _), (5, _)]) [0, 1, 2, 3, 5] rfl ?_
 refine CW_seq ?_
 refine CW_region ?_
 refine W_q (r_move rfl) rfl ?_
 refine W_q (r_bin rfl rfl (bin_eql _ _ _ _)) rfl ?_
 refine W_q (r_move rfl) rfl ?_
 refine WL_take rfl rfl ?_
 refine W_q (r_fieldb (o' := 2) rfl T.fo25_2 rfl) rfl ?_
 refine WL_take rfl rfl ?_
 refine W_q (r_loadb 1 rfl T.ag23 rfl rfl) rfl ?_
 refine WL_take rfl rfl ?_
 refine W_q (r_len Tryz.underlying23 rfl) rfl ?_
 refine WL_take rfl rfl ?_
 refine W_q (r_bin rfl rfl (bin_eql _ _ _ _)) rfl ?_
 refine W_q (r_pick_t rfl rfl) rfl ?_
 refine W_q (r_move rfl) rfl ?_
 refine WL_take rfl rfl ?_
 refine W_q (r_fieldb (o' := 2) rfl T.fo25_2 rfl) rfl ?_
 refine WL_take rfl rfl ?_
 refine W_q (r_loadb 1 rfl T.ag23 rfl rfl) rfl ?_
 refine WL_take rfl rfl ?_
 have hzb0 : ([⟨[], [awO2, awO1, awO3], ⟨0, 3, []⟩⟩])[0]? = some (⟨[], [awO2, awO1, awO3], ⟨0, 3, []⟩⟩ : FBlk) := rfl
 obtain ⟨ad11, hA11⟩ := hb106.ad (j := 0) (by decide)
 refine W_q (r_index hA11 Tryz.underlying23 T.sz44 rfl rfl ⟨by decide, by decide⟩) rfl ?_
 refine WL_take rfl rfl ?_
 refine W_q (r_field rfl T.fo44_1) rfl ?_
 refine WL_take rfl rfl ?_
 obtain ⟨es12, f12, _, l12⟩ := Sl.get hb106 hA11 hzb0
 obtain ⟨A12, c12, B12, d12, C12, e12, rfl, hp12, ho12, ht12, i12a, i12b⟩ := f12
 refine W_q (r_load_imm rfl T.ag40 (l12 1 _ rfl)) rfl ?_
 refine WL_take rfl rfl ?_
 refine W_q (r_len Tryz.underlying40 rfl) rfl ?_
 refine WL_take rfl rfl ?_
 refine W_q (r_bin rfl rfl (bin_eql _ _ _ _)) rfl ?_
 refine W_q (r_pick_t rfl rfl) rfl ?_
 refine W_q (r_move rfl) rfl ?_
 refine WL_take rfl rfl ?_
 refine W_q (r_fieldb (o' := 2) rfl T.fo25_2 rfl) rfl ?_
 refine WL_take rfl rfl ?_
 refine W_q (r_loadb 1 rfl T.ag23 rfl rfl) rfl ?_
 refine WL_take rfl rfl ?_
 have hzb1 : ([⟨[], [awO2, awO1, awO3], ⟨0, 3, []⟩⟩])[0]? = some (⟨[], [awO2, awO1, awO3], ⟨0, 3, []⟩⟩ : FBlk) := rfl
 obtain ⟨ad13, hA13⟩ := hb106.ad (j := 0) (by decide)
 refine W_q (r_index hA13 Tryz.underlying23 T.sz44 rfl rfl ⟨by decide, by decide⟩) rfl ?_
 refine WL_take rfl rfl ?_
 refine W_q (r_field rfl T.fo44_1) rfl ?_
 refine WL_take rfl rfl ?_
 obtain ⟨es14, f14, _, l14⟩ := Sl.get hb106 hA13 hzb1
 obtain ⟨A14, c14, B14, d14, C14, e14, rfl, hp14, ho14, ht14, i14a, i14b⟩ := f14
 refine W_q (r_load_imm rfl T.ag40 (l14 1 _ rfl)) rfl ?_
 refine WL_take rfl rfl ?_
 have hzo0 : ([awO2, awO1, awO3])[0]? = some awO2 := rfl
 obtain ⟨ad15, hA15⟩ := ho14.ad (j := 0) (by decide)
 refine W_q (r_index hA15 Tryz.underlying40 T.sz51 rfl rfl ⟨by decide, by decide⟩) rfl ?_
 refine WL_take rfl rfl ?_
 refine W_q (r_field rfl T.fo51_3) rfl ?_
 refine WL_take rfl rfl ?_
 obtain ⟨es16, f16, _, l16⟩ := Sl.get ho14 hA15 hzo0
 obtain ⟨A16, c16, rfl, h16, i16a, i16b, i16c, i16d, i16e⟩ := f16
 refine W_q (r_load_imm rfl T.ag3 (l16 3 _ rfl)) rfl ?_
 refine WL_take rfl rfl ?_
 refine W_q (r_bin rfl rfl (bin_eql _ _ _ _)) rfl ?_
 refine W_q (r_pick_t rfl rfl) rfl ?_
 refine W_q (r_move rfl) rfl ?_
 refine WL_take rfl rfl ?_
 refine W_q (r_move rfl) rfl ?_
 refine WL_take rfl rfl ?_
 refine W_q (r_bin rfl rfl (bin_eql _ _ _ _)) rfl ?_
 refine W_q (r_pick_t rfl rfl) rfl ?_
 refine W_q (r_move rfl) rfl ?_
 refine WL_take rfl rfl ?_
 refine W_q (r_loadbk 2 (vs := [_, _, _]) rfl T.ag25 T.sz25 rfl rfl rfl) rfl ?_
 refine WL_take rfl rfl ?_
 refine S_gives (Hangs_g hF _ _) T.hb22 rfl rfl (fun m17 v17 le17 hv17 => ?_)
 replace h1 := h1.mono rI_mono le17
 replace hO := hO.mono rOp_mono le17
 replace hBs := hBs.mono rBlock_mono le17
 replace hF := rFunc_mono _ _ _ _ le17 hF
 replace h5 := h5.mono rI_mono le17
 replace hG6 := rFunc_mono _ _ _ _ le17 hG6
 replace hq106 := hq106.mono rI_mono le17
 replace hb106 := hb106.mono rBlock_mono le17
 replace h8 := h8.mono rI_mono le17
 replace hp12 := hp12.mono rPhi_mono le17
 replace ho12 := ho12.mono rOp_mono le17
 replace ht12 := ht12.mono rI_mono le17
 replace hp14 := hp14.mono rPhi_mono le17
 replace ho14 := ho14.mono rOp_mono le17
 replace ht14 := ht14.mono rI_mono le17
 replace h16 := h16.mono rI_mono le17
 obtain ⟨Ah17, ch17, rfl, hh17⟩ := hv17
 refine WL_take rfl rfl ?_
 refine S_lit (vs := [_, _]) (cs := [_, _]) Tryz.underlying22 T.sz3 T.ze3 rfl rfl rfl rfl rfl rfl (fun m18 ad18 le18 l18 => ?_)
 replace h1 := h1.mono rI_mono le18
 replace hO := hO.mono rOp_mono le18
 replace hBs := hBs.mono rBlock_mono le18
 replace hF := rFunc_mono _ _ _ _ le18 hF
 replace h5 := h5.mono rI_mono le18
 replace hG6 := rFunc_mono _ _ _ _ le18 hG6
 replace hq106 := hq106.mono rI_mono le18
 replace hb106 := hb106.mono rBlock_mono le18
 replace h8 := h8.mono rI_mono le18
 replace hp12 := hp12.mono rPhi_mono le18
 replace ho12 := ho12.mono rOp_mono le18
 replace ht12 := ht12.mono rI_mono le18
 replace hp14 := hp14.mono rPhi_mono le18
 replace ho14 := ho14.mono rOp_mono le18
 replace ht14 := ht14.mono rI_mono le18
 replace h16 := h16.mono rI_mono le18
 replace hh17 := hh17.mono rI_mono le18
 have h18 : Ints m18 (some ad18) 2 _ := Ints_lit [_, _] l18 (i64s_cons (by first | assumption | exact ⟨by omega, by omega⟩) (i64s_cons (by first | assumption | exact ⟨by omega, by omega⟩) i64s_nil))
 refine WL_take rfl rfl ?_
 refine W_quiet (known_q (Ints_q hh17 h18) (by rw [aw_hangs2])) T.hb21 rfl rfl ?_
 refine W_q (r_pick_t rfl rfl) rfl ?_
 refine W_q (r_move rfl) rfl ?_
 refine WL_take rfl rfl ?_
 refine W_q (r_loadbk 2 (vs := [_, _, _]) rfl T.ag25 T.sz25 rfl rfl rfl) rfl ?_
 refine WL_take rfl rfl ?_
 refine S_gives (Flat_g hF _) T.hb24 rfl rfl (fun m19 v19 le19 hv19 => ?_)
 replace h1 := h1.mono rI_mono le19
 replace hO := hO.mono rOp_mono le19
 replace hBs := hBs.mono rBlock_mono le19
 replace hF := rFunc_mono _ _ _ _ le19 hF
 replace h5 := h5.mono rI_mono le19
 replace hG6 := rFunc_mono _ _ _ _ le19 hG6
 replace hq106 := hq106.mono rI_mono le19
 replace hb106 := hb106.mono rBlock_mono le19
 replace h8 := h8.mono rI_mono le19
 replace hp12 := hp12.mono rPhi_mono le19
 replace ho12 := ho12.mono rOp_mono le19
 replace ht12 := ht12.mono rI_mono le19
 replace hp14 := hp14.mono rPhi_mono le19
 replace ho14 := ho14.mono rOp_mono le19
 replace ht14 := ht14.mono rI_mono le19
 replace h16 := h16.mono rI_mono le19
 replace hh17 := hh17.mono rI_mono le19
 replace h18 := h18.mono rI_mono le19
 obtain ⟨Ah19, ch19, rfl, hh19⟩ := hv19
 refine WL_take rfl rfl ?_
 refine S_lit (vs := [_, _, _]) (cs := [_, _, _]) Tryz.underlying22 T.sz3 T.ze3 rfl rfl rfl rfl rfl rfl (fun m20 ad20 le20 l20 => ?_)
 replace h1 := h1.mono rI_mono le20
 replace hO := hO.mono rOp_mono le20
 replace hBs := hBs.mono rBlock_mono le20
 replace hF := rFunc_mono _ _ _ _ le20 hF
 replace h5 := h5.mono rI_mono le20
 replace hG6 := rFunc_mono _ _ _ _ le20 hG6
 replace hq106 := hq106.mono rI_mono le20
 replace hb106 := hb106.mono rBlock_mono le20
 replace h8 := h8.mono rI_mono le20
 replace hp12 := hp12.mono rPhi_mono le20
 replace ho12 := ho12.mono rOp_mono le20
 replace ht12 := ht12.mono rI_mono le20
 replace hp14 := hp14.mono rPhi_mono le20
 replace ho14 := ho14.mono rOp_mono le20
 replace ht14 := ht14.mono rI_mono le20
 replace h16 := h16.mono rI_mono le20
 replace hh17 := hh17.mono rI_mono le20
 replace h18 := h18.mono rI_mono le20
 replace hh19 := hh19.mono rI_mono le20
 have h20 : Ints m20 (some ad20) 3 _ := Ints_lit [_, _, _] l20 (i64s_cons (by first | assumption | exact ⟨by omega, by omega⟩) (i64s_cons (by first | assumption | exact ⟨by omega, by omega⟩) (i64s_cons (by first | assumption | exact ⟨by omega, by omega⟩) i64s_nil)))
 refine WL_take rfl rfl ?_
 refine W_quiet (known_q (Ints_q hh19 h20) (by rw [aw_flat])) T.hb21 rfl rfl ?_
 refine W_q (r_pick_t rfl rfl) rfl ?_
 refine W_q (r_move rfl) rfl ?_
 refine WL_take rfl rfl ?_
 refine W_q (r_loadbk 2 (vs := [_, _, _]) rfl T.ag25 T.sz25 rfl rfl rfl) rfl ?_
 refine WL_take rfl rfl ?_
 refine S_gives (Depth_g hF _) T.hb26 rfl rfl (fun m21 v21 le21 hv21 => ?_)
 replace h1 := h1.mono rI_mono le21
 replace hO := hO.mono rOp_mono le21
 replace hBs := hBs.mono rBlock_mono le21
 replace hF := rFunc_mono _ _ _ _ le21 hF
 replace h5 := h5.mono rI_mono le21
 replace hG6 := rFunc_mono _ _ _ _ le21 hG6
 replace hq106 := hq106.mono rI_mono le21
 replace hb106 := hb106.mono rBlock_mono le21
 replace h8 := h8.mono rI_mono le21
 replace hp12 := hp12.mono rPhi_mono le21
 replace ho12 := ho12.mono rOp_mono le21
 replace ht12 := ht12.mono rI_mono le21
 replace hp14 := hp14.mono rPhi_mono le21
 replace ho14 := ho14.mono rOp_mono le21
 replace ht14 := ht14.mono rI_mono le21
 replace h16 := h16.mono rI_mono le21
 replace hh17 := hh17.mono rI_mono le21
 replace h18 := h18.mono rI_mono le21
 replace hh19 := hh19.mono rI_mono le21
 replace h20 := h20.mono rI_mono le21
 obtain ⟨Ah21, ch21, rfl, hh21⟩ := hv21
 refine WL_take rfl rfl ?_
 refine S_lit (vs := [_, _, _]) (cs := [_, _, _]) Tryz.underlying22 T.sz3 T.ze3 rfl rfl rfl rfl rfl rfl (fun m22 ad22 le22 l22 => ?_)
 replace h1 := h1.mono rI_mono le22
 replace hO := hO.mono rOp_mono le22
 replace hBs := hBs.mono rBlock_mono le22
 replace hF := rFunc_mono _ _ _ _ le22 hF
 replace h5 := h5.mono rI_mono le22
 replace hG6 := rFunc_mono _ _ _ _ le22 hG6
 replace hq106 := hq106.mono rI_mono le22
 replace hb106 := hb106.mono rBlock_mono le22
 replace h8 := h8.mono rI_mono le22
 replace hp12 := hp12.mono rPhi_mono le22
 replace ho12 := ho12.mono rOp_mono le22
 replace ht12 := ht12.mono rI_mono le22
 replace hp14 := hp14.mono rPhi_mono le22
 replace ho14 := ho14.mono rOp_mono le22
 replace ht14 := ht14.mono rI_mono le22
 replace h16 := h16.mono rI_mono le22
 replace hh17 := hh17.mono rI_mono le22
 replace h18 := h18.mono rI_mono le22
 replace hh19 := hh19.mono rI_mono le22
 replace h20 := h20.mono rI_mono le22
 replace hh21 := hh21.mono rI_mono le22
 have h22 : Ints m22 (some ad22) 3 _ := Ints_lit [_, _, _] l22 (i64s_cons (by first | assumption | exact ⟨by omega, by omega⟩) (i64s_cons (by first | assumption | exact ⟨by omega, by omega⟩) (i64s_cons (by first | assumption | exact ⟨by omega, by omega⟩) i64s_nil)))
 refine WL_take rfl rfl ?_
 refine W_quiet (known_q (Ints_q hh21 h22) (by rw [aw_depth])) T.hb21 rfl rfl ?_
 refine W_q (r_pick_t rfl rfl) rfl ?_
 refine W_q (r_assign rfl) rfl ?_
 refine W_nil ?_
 refine NX_as (L' := [(0, _)]) [0] rfl ?_
 refine C_ret (RX_q1 rfl rfl ?_)
 rfl

end Go.Proofs.YtipmgkhjoekaaaaGreat

set_option linter.unusedVariables false
namespace Go.Proofs.YtipmgkhjoekaaaaGreat.Fw
open Go
/-! Bytes. -/
def rY : Rep Int := fun _ es z => es = [.int .u8 z] ∧ 0 ≤ z ∧ z < 256
theorem rY_mono : Mono rY := fun _ _ _ _ _ h => h
theorem Sl.getY {m : Imm} {A : Option Addr} {ad : Addr} {c j : Nat} {xs : List Int} {z : Int} (h : Sl rY 1 m A c xs) (hA : A = some ad) (hj : xs[j]? = some z) : m.cell? (ad.add (j * 1)) = some (.int .u8 z) ∧ 0 ≤ z ∧ z < 256 := by
  obtain ⟨es, ⟨rfl, h2⟩, h3, h4⟩ := h.get hA hj
  exact ⟨by simpa [add_add] using h4 0 _ rfl, h2⟩
end Go.Proofs.YtipmgkhjoekaaaaGreat.Fw
namespace Go.Proofs.YtipmgkhjoekaaaaGreat
open Go Go.Proofs.YtipmgkhjoekaaaaGreat.Fw
/-! An order that is made out of any numbers. -/
structure PermSt (n k : Nat) (l : List Int) (us : List Bool) : Prop where
  len : l.length = k
  nd : l.Nodup
  rng : ∀ z ∈ l, 0 ≤ z ∧ z < (n : Int)
  ul : us.length = n
  us_iff : ∀ j : Nat, us[j]? = some true ↔ (j : Int) ∈ l
theorem permSt_init (n : Nat) : PermSt n 0 [] (List.replicate n false) := ⟨rfl, List.nodup_nil, by simp, by simp, fun j => by rw [List.getElem?_replicate]; split <;> simp⟩
section
variable {n k : Nat} {l : List Int} {us : List Bool}
theorem PermSt.step (h : PermSt n k l us) {z : Int} (h0 : 0 ≤ z) (hz : z < (n : Int)) (hu : us[z.toNat]? = some false) : PermSt n (k + 1) (l ++ [z]) (us.set z.toNat true) := by
  have hnot : z ∉ l := fun hc => by
    have := (h.us_iff z.toNat).2 (by rwa [Int.toNat_of_nonneg h0])
    rw [hu] at this; cases this
  refine ⟨by rw [List.length_append, h.len]; rfl, ?_, fun y hy => ?_, by simp [h.ul], fun j => ?_⟩
  · rw [List.nodup_append]
    exact ⟨h.nd, by simp, fun a ha b hb => by simp at hb; subst hb; rintro rfl; exact hnot ha⟩
  · rcases List.mem_append.1 hy with hy | hy
    · exact h.rng y hy
    · simp at hy; subst hy; exact ⟨h0, hz⟩
  · rw [List.mem_append, List.mem_singleton]
    by_cases e : z.toNat = j
    · subst e
      rw [List.getElem?_set_self (by rw [h.ul]; omega), Int.toNat_of_nonneg h0]; simp
    · rw [List.getElem?_set_ne e, h.us_iff j]
      constructor
      · exact .inl
      · rintro (hc | hc)
        · exact hc
        · exact absurd (by omega) e
/-- A free place is found in time. -/
theorem PermSt.free (h : PermSt n k l us) (hk : k < n) {s : Nat} (hs : s < n) {i : Nat} (hi : i ≤ n) (ht : ∀ j, j < i → us[(s + j) % n]? = some true) : i < n := by
  by_cases e : i < n
  · exact e
  · exfalso
    obtain rfl : i = n := by omega
    have hall : ∀ z ∈ iota i, z ∈ l := by
      intro z hz
      simp only [iota, List.mem_map, List.mem_range] at hz
      obtain ⟨a, ha, rfl⟩ := hz
      have := ht ((a + i - s) % i) (Nat.mod_lt _ (by omega))
      have e1 : (s + (a + i - s) % i) % i = a := by
        rw [Nat.add_mod, Nat.mod_mod, ← Nat.add_mod, show s + (a + i - s) = a + i by omega, Nat.add_mod_right, Nat.mod_eq_of_lt ha]
      rw [e1] at this
      exact (h.us_iff a).1 this
    have hnd : (iota i).Nodup := by
      rw [iota, List.nodup_iff_pairwise_ne, List.pairwise_map]
      refine List.Pairwise.imp ?_ List.pairwise_lt_range
      intro a b hab; omega
    have := List.Nodup.length_le_of_subset hnd hall
    rw [iota_len, h.len] at this
    omega
theorem next_mod {n s i : Nat} (hn : 0 < n) : ((((s + i) % n : Nat) : Int) + 1).tmod (n : Int) = (((s + (i + 1)) % n : Nat) : Int) := by
  have : ((((s + i) % n : Nat) : Int) + 1) = (((s + i) % n + 1 : Nat) : Int) := by omega
  rw [this, ← Int.ofNat_tmod]
  congr 1
  rw [Nat.mod_add_mod]; rfl
theorem first_mod {n : Nat} {z : Int} (hz : 0 ≤ z) (hn : 0 < n) : z.tmod (n : Int) = ((z.toNat % n : Nat) : Int) := by
  conv => lhs; rw [← Int.toNat_of_nonneg hz]
  rw [← Int.ofNat_tmod]
end
end Go.Proofs.YtipmgkhjoekaaaaGreat

set_option linter.unusedVariables false
set_option linter.unusedSimpArgs false
namespace Go.Proofs.YtipmgkhjoekaaaaGreat
open Go Go.RowKit Go.Proofs Go.Proofs.YtipmgkhjoekaaaaGreat.Fw
attribute [local irreducible] Qt WL CW NX RX EX GX DL
namespace T
theorem ag5 : agg? Tryz.prog 5 = some false := by kernel_rfl
theorem by4 : byt? Tryz.prog 4 = some 1 := by kernel_rfl
theorem hb14 : hasBody Tryz.prog 14 = true := by kernel_rfl
theorem sz42 : sz? Tryz.prog 42 = some 3 := by kernel_rfl
theorem sz5 : sz? Tryz.prog 5 = some 1 := by kernel_rfl
end T
set_option maxHeartbeats 80000000 in
/-- locksteplaw19.SchedFree -/
theorem SchedFree_q {m : Imm} {A : Option Addr} {c : Nat} {od : List Int} (h : Sl rY 1 m A c od) : Quiet Tryz.prog 7 [.slice A od.length c] m (.bool true) := by
 have hlen := h.len
 refine quiet_of Tryz.func7 rfl Tryz.ntmps7 rfl (fun w => ?_)
 refine CW_seq ?_
 refine CW_region ?_
 refine W_q (r_assign rfl) rfl ?_
 refine W_nil ?_
 refine NX_as (L' := [(0, _), (2, _)]) [0, 2] rfl ?_
 refine CW_seq ?_
 refine CW_seq ?_
 refine CW_region ?_
 refine W_quiet (awake19_q) T.hb14 rfl rfl ?_
 refine W_q (r_not rfl) rfl ?_
 refine W_nil ?_
 refine NX_as (L' := [(0, _), (2, _), (16, _)]) [0, 2, 16] rfl ?_
 refine CW_cond_f rfl ?_
 refine C_skip ?_
 refine NX_as (L' := [(0, _), (2, _)]) [0, 2] rfl ?_
 refine CW_seq ?_
 refine CW_region ?_
 refine W_q (r_move rfl) rfl ?_
 refine W_q (r_len Tryz.underlying53 rfl) rfl ?_
 refine W_q (r_assign rfl) rfl ?_
 refine W_nil ?_
 refine NX_as (L' := [(0, _), (2, _), (3, _)]) [0, 2, 3] rfl ?_
 refine CW_seq ?_
 refine CW_seq ?_
 refine CW_region ?_
 refine W_q (r_move rfl) rfl ?_
 refine W_q (r_bin rfl rfl (bin_gtr _ _ _ _)) rfl ?_
 refine W_nil ?_
 refine NX_as (L' := [(0, _), (2, _), (3, _), (20, _)]) [0, 2, 3, 20] rfl ?_
 refine CW_condk rfl (fun h1 => ?_) (fun h1 => ?_)
 ·(try simp only [tA, tB, tC, tD, tE, tF, tG, tH, tI, tJ, tK, tL] at h1)
  refine CW_seq ?_
  refine CW_region ?_
  refine W_q (r_assign rfl) rfl ?_
  refine W_nil ?_
  refine NX_as (L' := [(0, _), (2, _), (3, _)]) [0, 2, 3] rfl ?_
  refine C_ret (RX_then (RX_q1 rfl rfl ?_))
  rfl
 ·(try simp only [tA, tB, tC, tD, tE, tF, tG, tH, tI, tJ, tK, tL] at h1)
  refine C_skip ?_
  refine NX_as (L' := [(0, _), (2, _), (3, _)]) [0, 2, 3] rfl ?_
  refine CW_seq ?_
  refine CW_region ?_
  refine S_lit (vs := [_]) (cs := [_]) Tryz.underlying22 T.sz3 T.ze3 rfl rfl rfl rfl rfl rfl (fun m2 ad2 le2 l2 => ?_)
  replace h := h.mono rY_mono le2
  have h2 : Ints m2 (some ad2) 1 _ := Ints_lit [_] l2 (i64s_cons (by first | assumption | exact ⟨by omega, by omega⟩) i64s_nil)
  refine W_q (r_builds (cs := [_, _, _]) T.bl25 rfl rfl) rfl ?_
  refine S_alloc (l := [_, _, _]) T.ze25 rfl rfl (fun b3 => ?_)
  refine S_storeb 0 (l' := [_, _, _]) rfl rfl rfl T.sz25 rfl rfl rfl rfl ?_
  refine W_nil ?_
  refine NX_as (L' := [(0, _), (2, _), (3, _), (4, _)]) [0, 2, 3, 4] rfl ?_
  refine CW_seq ?_
  refine CW_region ?_
  refine S_alloc (l := [_, _, _, _, _]) T.ze44 rfl rfl (fun b4 => ?_)
  refine W_nil ?_
  refine NX_as (L' := [(0, _), (2, _), (3, _), (4, _), (5, _)]) [0, 2, 3, 4, 5] rfl ?_
  refine CW_seq ?_
  refine CW_seq ?_
  refine CW_region ?_
  refine W_q (r_assign rfl) rfl ?_
  refine W_nil ?_
  refine NX_as (L' := [(0, _), (2, _), (3, _), (4, _), (5, _), (6, _)]) [0, 2, 3, 4, 5, 6] rfl ?_
  refine CW_block ?_
  refine CW_nilRow 51 6 ?_
  refine CW_front 0 rfl rfl ?_
  refine CW_front 1 rfl rfl ?_
  refine C_loop (Option Nat × Nat × List Value) (od.length) (fun k5 x5 => SRows rOp 6 m2 x5.2.2 (freeL k5) ∧ (0 < k5 → ∃ b, x5.1 = some b)) (fun k5 x5 => [(6, .int .i64 (k5 : Int))]) (fun k5 x5 => [bx b4 44 [.slice none 0 0, .slice (rowA x5.1) k5 x5.2.1, .int .i64 0, .int .i64 0, .slice none 0 0], row x5.1 k5 x5.2.1 51 6 x5.2.2]) [6] [0, 2, 3, 4, 5] (F := [(0, _), (2, _), (3, _), (4, _), (5, _)]) ((none, 0, [])) ⟨SRows.nil, by omega⟩ rfl rfl rfl (fun k5 x5 hk5 hJ5 => ?_)
  obtain ⟨hro, hgo⟩ := hJ5
  refine CW_as (L' := [(0, _), (2, _), (3, _), (4, _), (5, _), (6, _)]) [0, 2, 3, 4, 5, 6] rfl ?_
  refine CW_seq ?_
  refine CW_seq ?_
  refine CW_region ?_
  refine W_q (r_move rfl) rfl ?_
  refine W_q (r_move rfl) rfl ?_
  refine W_q (r_bin rfl rfl (bin_lss _ _ _ _)) rfl ?_
  refine W_nil ?_
  refine NX_as (L' := [(0, _), (2, _), (3, _), (4, _), (5, _), (6, _), (25, _)]) [0, 2, 3, 4, 5, 6, 25] rfl ?_
  refine CW_condk rfl (fun h6 => ?_) (fun h6 => ?_)
  ·(try simp only [tA, tB, tC, tD, tE, tF, tG, tH, tI, tJ, tK, tL] at h6)
   refine C_skip ?_
   refine NX_as (L' := [(0, _), (2, _), (3, _), (4, _), (5, _), (6, _)]) [0, 2, 3, 4, 5, 6] rfl ?_
   refine CW_seq ?_
   refine CW_block ?_
   refine CW_region ?_
   refine W_q (r_fieldb (o' := 1) rfl T.fo44_1 rfl) rfl ?_
   refine W_q (r_loadb 0 rfl T.ag40 rfl rfl) rfl ?_
   refine W_q (r_move rfl) rfl ?_
   refine W_q (r_add rfl rfl (by unfold I64 at *; omega)) rfl ?_
   refine W_q (r_move rfl) rfl ?_
   refine W_q (r_convi Tryz.underlying3 Tryz.underlying49 rfl (u64_of _ ⟨by omega, by omega⟩)) rfl ?_
   refine W_q (r_builds (cs := [_, _, _, _, _, _]) T.bl51 rfl rfl) rfl ?_
   refine S_litr (vs := [_]) (cs := [_, _, _, _, _, _]) Tryz.underlying40 T.sz51 T.ze51 rfl rfl rfl rfl rfl rfl rfl (fun b7 => ?_)
   refine S_appendG [_, _, _, _, _, _] 2 rfl rfl rfl Tryz.underlying40 T.sz51 T.ze51 T.by51 rfl rfl rfl (.row 0 rfl) rfl (by omega) (by unfold maxLen; omega) rfl (fun g8 c8 hg8 => ?_)
   refine W_q (r_fieldb (o' := 1) rfl T.fo44_1 rfl) rfl ?_
   refine S_storeb 1 (l' := [_, _, _, _, _]) rfl rfl rfl T.sz40 rfl rfl rfl rfl ?_
   refine W_nil ?_
   refine NX_block (NX_as (L' := [(0, _), (2, _), (3, _), (4, _), (5, _), (6, _)]) [0, 2, 3, 4, 5, 6] rfl ?_)
   refine CW_region ?_
   refine W_q (r_move rfl) rfl ?_
   refine W_q (r_add rfl rfl (by unfold I64 at *; omega)) rfl ?_
   refine W_q (r_assign rfl) rfl ?_
   refine W_nil ?_
   refine NX_rnd [6, 0, 2, 3, 4, 5] (by omega) ((_, _, _)) ?_ rfl (sub_drop 1 rfl) rfl (Imm.le_refl _)
   refine ⟨?_, hg8⟩
   rw [freeL_succ]
   exact hro.add rOp_none
  ·(try simp only [tA, tB, tC, tD, tE, tF, tG, tH, tI, tJ, tK, tL] at h6)
   refine C_exit (EX_then (EX_then (EX_hit (?_))))
   refine NX_as (L' := [(0, _), (2, _), (3, _), (4, _), (5, _)]) [0, 2, 3, 4, 5] rfl ?_
   refine CW_seq ?_
   refine CW_region ?_
   have hkn : k5 = od.length := by omega
   subst hkn
   refine W_q (r_builds (cs := [_, _, _]) T.bl42 rfl rfl) rfl ?_
   refine W_q (r_fieldb (o' := 2) rfl T.fo44_2 rfl) rfl ?_
   refine S_storeb 0 (l' := [_, _, _, _, _]) rfl rfl rfl T.sz42 rfl rfl rfl rfl ?_
   refine W_nil ?_
   refine NX_as (L' := [(0, _), (2, _), (3, _), (4, _), (5, _)]) [0, 2, 3, 4, 5] rfl ?_
   refine CW_seq ?_
   refine CW_region ?_
   refine W_q (r_loadbk 0 (vs := [_, _, _, _, _]) rfl T.ag44 T.sz44 rfl rfl rfl) rfl ?_
   refine WL_know (k_rowG 1 rfl) (fun hr => ?_)
   refine WL_freeze 1 rfl (fun _ h => h) (fun mf lef hf => ?_)
   replace h := h.mono rY_mono lef
   replace h2 := h2.mono rI_mono lef
   have hops := (hro.mono rOp_mono lef).sl hf (by rw [freeL_len]; exact hr.2.1) hr.2.2.1 (by rw [freeL_len]; omega) (by rw [freeL_len]; exact hgo)
   refine S_lit (vs := [_]) (cs := [_, _, _, _, _]) Tryz.underlying23 T.sz44 T.ze44 rfl rfl rfl rfl rfl rfl (fun m9 ad9 le9 l9 => ?_)
   replace h := h.mono rY_mono le9
   replace h2 := h2.mono rI_mono le9
   replace hops := hops.mono rOp_mono le9
   have hbk : Sl rBlock 5 m9 (some ad9) 1 [freeB od.length] := SRows.lit (SRows.nil.add (rBlock_of hops (freeL_len _))) l9
   refine W_q (r_fieldb (o' := 2) rfl T.fo25_2 rfl) rfl ?_
   refine S_storeb 1 (l' := [_, _, _]) rfl rfl rfl T.sz23 rfl rfl rfl rfl ?_
   refine W_nil ?_
   refine NX_as (L' := [(0, _), (2, _), (3, _), (4, _)]) [0, 2, 3, 4] rfl ?_
   refine CW_seq ?_
   refine CW_region ?_
   refine W_q (r_assign rfl) rfl ?_
   refine W_nil ?_
   refine NX_as (L' := [(0, _), (2, _), (3, _), (4, _), (7, _)]) [0, 2, 3, 4, 7] rfl ?_
   refine CW_seq ?_
   refine CW_region ?_
   refine W_q (r_assign rfl) rfl ?_
   refine W_nil ?_
   refine NX_as (L' := [(0, _), (2, _), (3, _), (4, _), (7, _), (8, _)]) [0, 2, 3, 4, 7, 8] rfl ?_
   refine CW_seq ?_
   refine CW_region ?_
   refine W_q (r_move rfl) rfl ?_
   refine S_make1 od.length Tryz.underlying54 T.sz4 T.ze4 T.by4 rfl rfl rfl rfl rfl (by omega) (by unfold maxLen; omega) rfl (fun b10 => ?_)
   refine W_q (r_assign rfl) rfl ?_
   refine W_nil ?_
   refine NX_as (L' := [(0, _), (2, _), (3, _), (4, _), (7, _), (8, _), (9, _)]) [0, 2, 3, 4, 7, 8, 9] rfl ?_
   refine CW_seq ?_
   refine CW_seq ?_
   refine CW_region ?_
   refine W_q (r_assign rfl) rfl ?_
   refine W_nil ?_
   refine NX_as (L' := [(0, _), (2, _), (3, _), (4, _), (7, _), (8, _), (9, _), (10, _)]) [0, 2, 3, 4, 7, 8, 9, 10] rfl ?_
   refine CW_block ?_
   refine CW_nilRow 3 1 ?_
   refine CW_nilRow 3 1 ?_
   refine CW_front 2 rfl rfl ?_
   refine CW_front 2 rfl rfl ?_
   refine CW_front 2 rfl rfl ?_
   refine C_loop ((Option Nat × Nat × List Int) × (Option Nat × Nat × List Int) × List Value) (od.length) (fun k11 x11 => ∃ us, x11.2.2 = us.map Value.bool ∧ x11.1.2.2 = iota k11 ∧ PermSt od.length k11 x11.2.1.2.2 us ∧ (0 < x11.1.2.2.length → ∃ b, x11.1.1 = some b) ∧ (0 < x11.2.1.2.2.length → ∃ b, x11.2.1.1 = some b)) (fun k11 x11 => [(7, .slice (rowA x11.1.1) x11.1.2.2.length x11.1.2.1), (8, .slice (rowA x11.2.1.1) x11.2.1.2.2.length x11.2.1.2.1), (10, .int .i64 (k11 : Int))]) (fun k11 x11 => [rowI 3 x11.1.1 x11.1.2.1 x11.1.2.2, rowI 3 x11.2.1.1 x11.2.1.2.1 x11.2.1.2.2, row (some b10) od.length od.length 4 1 x11.2.2]) [7, 8, 10] [0, 2, 3, 4, 9] (F := [(0, _), (2, _), (3, _), (4, _), (9, _)]) (((none, 0, []), (none, 0, []), List.replicate od.length (.bool false))) ⟨List.replicate od.length false, by simp, rfl, permSt_init _, by simp, by simp⟩ rfl rfl rfl (fun k11 x11 hk11 hJ11 => ?_)
   obtain ⟨us, hus, hl7, hp, hg7, hg8⟩ := hJ11
   have hpl := hp.len
   have hl7l : x11.1.2.2.length = k11 := by rw [hl7, iota_len]
   refine CW_as (L' := [(0, _), (2, _), (3, _), (4, _), (7, _), (8, _), (9, _), (10, _)]) [0, 2, 3, 4, 7, 8, 9, 10] rfl ?_
   refine CW_seq ?_
   refine CW_seq ?_
   refine CW_region ?_
   refine W_q (r_move rfl) rfl ?_
   refine W_q (r_move rfl) rfl ?_
   refine W_q (r_bin rfl rfl (bin_lss _ _ _ _)) rfl ?_
   refine W_nil ?_
   refine NX_as (L' := [(0, _), (2, _), (3, _), (4, _), (7, _), (8, _), (9, _), (10, _), (47, _)]) [0, 2, 3, 4, 7, 8, 9, 10, 47] rfl ?_
   refine CW_condk rfl (fun h14 => ?_) (fun h14 => ?_)
   ·(try simp only [tA, tB, tC, tD, tE, tF, tG, tH, tI, tJ, tK, tL] at h14)
    refine C_skip ?_
    refine NX_as (L' := [(0, _), (2, _), (3, _), (4, _), (7, _), (8, _), (9, _), (10, _)]) [0, 2, 3, 4, 7, 8, 9, 10] rfl ?_
    refine CW_seq ?_
    refine CW_block ?_
    refine CW_seq ?_
    refine CW_region ?_
    refine W_q (r_move rfl) rfl ?_
    refine W_q (r_move rfl) rfl ?_
    refine S_litr (vs := [_]) (cs := [_]) Tryz.underlying22 T.sz3 T.ze3 rfl rfl rfl rfl rfl rfl rfl (fun b15 => ?_)
    refine S_appendI (l := x11.1.2.2) (g1 := x11.1.1) [_] 1 rfl rfl rfl Tryz.underlying22 T.sz3 T.ze3 T.by3 rfl rfl (.row 0 rfl) (by simp only [List.length_cons, List.length_nil]; omega) rfl (fun g16 c16 hg16 => ?_)
    refine W_q (r_assign rfl) rfl ?_
    refine W_nil ?_
    refine NX_as (L' := [(0, _), (2, _), (3, _), (4, _), (7, _), (8, _), (9, _), (10, _)]) [0, 2, 3, 4, 7, 8, 9, 10] rfl ?_
    refine CW_seq ?_
    refine CW_region ?_
    refine W_q (r_move rfl) rfl ?_
    refine W_q (r_move rfl) rfl ?_
    obtain ⟨ad17, hA17⟩ := h.ad (j := k11) (by omega)
    obtain ⟨z17, hz17⟩ := h.getz (j := k11) (by omega)
    refine W_q (r_index hA17 Tryz.underlying53 T.sz5 rfl rfl ⟨by omega, by omega⟩) rfl ?_
    obtain ⟨l18, r18⟩ := Sl.getY h hA17 hz17
    refine W_q (r_load_imm rfl T.ag5 l18) rfl ?_
    refine W_q (r_convi Tryz.underlying5 Tryz.underlying3 rfl (i64_of _ ⟨by omega, by omega⟩)) rfl ?_
    refine W_q (r_move rfl) rfl ?_
    refine W_q (r_rem rfl rfl (by omega) rfl) rfl ?_
    refine W_q (r_assign rfl) rfl ?_
    refine W_nil ?_
    refine NX_as (L' := [(0, _), (2, _), (3, _), (4, _), (7, _), (8, _), (9, _), (10, _), (11, _)]) [0, 2, 3, 4, 7, 8, 9, 10, 11] rfl ?_
    refine CW_seq ?_
    refine CW_block ?_
    refine C_loop (Int) (od.length) (fun k19 x19 => x19 = ((((z17.toNat % od.length) + k19) % od.length : Nat) : Int) ∧ ∀ j, j < k19 → us[((z17.toNat % od.length) + j) % od.length]? = some true) (fun k19 x19 => [(11, .int .i64 x19)]) (fun _ _ => []) [11] [0, 2, 3, 4, 7, 8, 9, 10] (F := [(0, _), (2, _), (3, _), (4, _), (7, _), (8, _), (9, _), (10, _)]) ((z17.tmod (od.length : Int))) ⟨by rw [first_mod (by omega) (by omega), Nat.add_zero, Nat.mod_mod], by omega⟩ rfl rfl rfl (fun k19 x19 hk19 hJ19 => ?_)
    obtain ⟨hx2, hu2⟩ := hJ19
    have hx2r : 0 ≤ x19 ∧ x19 < (od.length : Int) := by
      rw [hx2]; have := Nat.mod_lt ((z17.toNat % od.length) + k19) (show 0 < od.length by omega); omega
    obtain ⟨ub, hub⟩ : ∃ b, us[x19.toNat]? = some b := ⟨_, List.getElem?_eq_getElem (by rw [hp.ul]; omega)⟩
    refine CW_as (L' := [(0, _), (2, _), (3, _), (4, _), (7, _), (8, _), (9, _), (10, _), (11, _)]) [0, 2, 3, 4, 7, 8, 9, 10, 11] rfl ?_
    refine CW_seq ?_
    refine CW_seq ?_
    refine CW_region ?_
    refine W_q (r_move rfl) rfl ?_
    refine W_q (r_move rfl) rfl ?_
    refine W_q (r_indexr (o := x19.toNat) Tryz.underlying54 T.sz4 rfl rfl ⟨by omega, by omega⟩ (by omega)) rfl ?_
    refine W_q (r_loadr 3 rfl T.ag4 rfl (by rw [hus, List.getElem?_map, hub]; rfl)) rfl ?_
    refine W_nil ?_
    refine NX_as (L' := [(0, _), (2, _), (3, _), (4, _), (7, _), (8, _), (9, _), (10, _), (11, _), (64, _)]) [0, 2, 3, 4, 7, 8, 9, 10, 11, 64] rfl ?_
    refine CW_condk rfl (fun h21 => ?_) (fun h21 => ?_)
    ·(try simp only [tA, tB, tC, tD, tE, tF, tG, tH, tI, tJ, tK, tL] at h21)
     refine C_skip ?_
     refine NX_as (L' := [(0, _), (2, _), (3, _), (4, _), (7, _), (8, _), (9, _), (10, _), (11, _)]) [0, 2, 3, 4, 7, 8, 9, 10, 11] rfl ?_
     refine CW_block ?_
     refine CW_region ?_
     refine W_q (r_move rfl) rfl ?_
     refine W_q (r_add rfl rfl (by unfold I64 at *; omega)) rfl ?_
     refine W_q (r_move rfl) rfl ?_
     refine W_q (r_rem rfl rfl (by omega) rfl) rfl ?_
     refine W_q (r_assign rfl) rfl ?_
     refine W_nil ?_
     refine NX_block (?_)
     refine NX_rnd [11, 0, 2, 3, 4, 7, 8, 9, 10] (hp.free (by omega) (Nat.mod_lt _ (by omega)) hk19 hu2) (_) ?_ rfl (List.Sublist.refl _) rfl (Imm.le_refl _)
     refine ⟨by rw [hx2]; exact next_mod (by omega), lt_succ_all hu2 ?_⟩
     rw [show ((z17.toNat % od.length) + k19) % od.length = x19.toNat by rw [hx2]; rfl, hub, h21]
    ·(try simp only [tA, tB, tC, tD, tE, tF, tG, tH, tI, tJ, tK, tL] at h21)
     refine C_exit (EX_then (EX_then (EX_hit (?_))))
     refine NX_as (L' := [(0, _), (2, _), (3, _), (4, _), (7, _), (8, _), (9, _), (10, _), (11, _)]) [0, 2, 3, 4, 7, 8, 9, 10, 11] rfl ?_
     refine CW_seq ?_
     refine CW_region ?_
     have hubf := h21
     refine W_q (r_move rfl) rfl ?_
     refine W_q (r_move rfl) rfl ?_
     refine W_q (r_indexr (o := x19.toNat) Tryz.underlying54 T.sz4 rfl rfl ⟨by omega, by omega⟩ (by omega)) rfl ?_
     refine S_storer1 3 rfl rfl rfl rfl T.sz4 rfl (by rw [hus, List.length_map, hp.ul]; omega) ?_
     refine W_nil ?_
     refine NX_as (L' := [(0, _), (2, _), (3, _), (4, _), (7, _), (8, _), (9, _), (10, _), (11, _)]) [0, 2, 3, 4, 7, 8, 9, 10, 11] rfl ?_
     refine CW_region ?_
     refine W_q (r_move rfl) rfl ?_
     refine W_q (r_move rfl) rfl ?_
     refine S_litr (vs := [_]) (cs := [_]) Tryz.underlying22 T.sz3 T.ze3 rfl rfl rfl rfl rfl rfl rfl (fun b23 => ?_)
     refine S_appendI (l := x11.2.1.2.2) (g1 := x11.2.1.1) [_] 3 rfl rfl rfl Tryz.underlying22 T.sz3 T.ze3 T.by3 rfl rfl (.row 0 rfl) (by simp only [List.length_cons, List.length_nil]; omega) rfl (fun g24 c24 hg24 => ?_)
     refine W_q (r_assign rfl) rfl ?_
     refine W_nil ?_
     refine NX_block (NX_as (L' := [(0, _), (2, _), (3, _), (4, _), (7, _), (8, _), (9, _), (10, _)]) [0, 2, 3, 4, 7, 8, 9, 10] rfl ?_)
     refine CW_region ?_
     refine W_q (r_move rfl) rfl ?_
     refine W_q (r_add rfl rfl (by unfold I64 at *; omega)) rfl ?_
     refine W_q (r_assign rfl) rfl ?_
     refine W_nil ?_
     refine NX_rnd [7, 8, 10, 0, 2, 3, 4, 9] (by omega) (((_, _, _), (_, _, _), _)) ?_ rfl (sub_drop 2 rfl) rfl (Imm.le_refl _)
     refine ⟨us.set x19.toNat true, by rw [hus, List.map_set], by rw [hl7, iota_succ], hp.step hx2r.1 hx2r.2 (by rw [hub, hubf]), hg16, hg24⟩
   ·(try simp only [tA, tB, tC, tD, tE, tF, tG, tH, tI, tJ, tK, tL] at h14)
    refine C_exit (EX_then (EX_then (EX_hit (?_))))
    refine NX_as (L' := [(2, _), (3, _), (4, _), (7, _), (8, _)]) [2, 3, 4, 7, 8] rfl ?_
    refine CW_seq ?_
    refine CW_region ?_
    have hkn : k11 = od.length := by omega
    subst hkn
    have hl7n : x11.1.2.2.length = od.length := by rw [hl7, iota_len]
    have hpl := hp.len
    refine WL_know (k_rowI 0 rfl) (fun hr25 => ?_)
    refine WL_freeze 0 rfl (fun _ h => h) (fun mf25 le25 hf25 => ?_)
    replace h := h.mono rY_mono le25
    replace h2 := h2.mono rI_mono le25
    replace hops := hops.mono rOp_mono le25
    replace hbk := hbk.mono rBlock_mono le25
    have hs7 : Ints mf25 _ _ _ := Ints_frz hf25 hr25.1 hr25.2.1 (by omega) hr25.2.2 (fun z hz => by rw [hl7] at hz; simp only [iota, List.mem_map, List.mem_range] at hz; obtain ⟨a, ha, rfl⟩ := hz; exact ⟨by omega, by omega⟩)
    refine WL_know (k_rowI 0 rfl) (fun hr26 => ?_)
    refine WL_freeze 0 rfl (fun _ h => h) (fun mf26 le26 hf26 => ?_)
    replace h := h.mono rY_mono le26
    replace h2 := h2.mono rI_mono le26
    replace hops := hops.mono rOp_mono le26
    replace hbk := hbk.mono rBlock_mono le26
    replace hs7 := hs7.mono rI_mono le26
    have hs8 : Ints mf26 _ _ _ := Ints_frz hf26 hr26.1 hr26.2.1 (by omega) hr26.2.2 (fun z hz => by have := hp.rng z hz; exact ⟨by omega, by omega⟩)
    have hF : rFunc _ [.slice _ 1 _, .int .i64 8, .slice _ 1 _] (freeF od.length) := ⟨_, _, _, _, rfl, h2, hbk, ⟨by show (-9223372036854775808 : Int) ≤ 8; decide, by show (8 : Int) ≤ 9223372036854775807; decide⟩⟩
    have hleg : LegalP (freeF od.length) 0 x11.2.1.2.2 = true := free_Legal (by omega) hp.len hp.nd hp.rng
    have hol : (ordOps (freeB od.length) x11.2.1.2.2).length = od.length := by rw [ordOps, List.length_map, hp.len]
    refine W_q (r_loadbk 2 (vs := [_, _, _]) rfl T.ag25 T.sz25 rfl rfl rfl) rfl ?_
    refine W_q (r_move rfl) rfl ?_
    refine S_gives (Put_g hF _ hs8) T.hb16 rfl rfl (fun m27 v27 le27 hv27 => ?_)
    replace h := h.mono rY_mono le27
    replace h2 := h2.mono rI_mono le27
    replace hops := hops.mono rOp_mono le27
    replace hbk := hbk.mono rBlock_mono le27
    replace hs7 := hs7.mono rI_mono le27
    replace hs8 := hs8.mono rI_mono le27
    replace hF := rFunc_mono _ _ _ _ le27 hF
    obtain ⟨_, esG27, rfl, hG27⟩ := hv27.resolve_right (fun h => absurd (Eq.trans (Eq.symm hleg) h.1) (by decide))
    rw [show putOps (freeF od.length) 0 x11.2.1.2.2 = ⟨[8], 8, [⟨[], ordOps (freeB od.length) x11.2.1.2.2, ⟨0, 1, []⟩⟩]⟩ from rfl] at hG27
    have hG27_0 := hG27
    obtain ⟨A127, c127, B127, d127, rfl, hq127, hb127, i127a⟩ := hG27_0
    refine W_q (r_move rfl) rfl ?_
    refine W_q (r_extract rfl rfl) rfl ?_
    refine W_q (r_extract rfl rfl) rfl ?_
    refine S_alloc (l := [_, _, _]) T.ze25 rfl rfl (fun b28 => ?_)
    refine S_storeb 0 (l' := [_, _, _]) rfl rfl rfl T.sz25 rfl rfl rfl rfl ?_
    refine W_q (r_assign rfl) rfl ?_
    refine W_nil ?_
    refine NX_as (L' := [(2, _), (3, _), (4, _), (7, _), (8, _), (12, _), (13, _)]) [2, 3, 4, 7, 8, 12, 13] rfl ?_
    refine CW_seq ?_
    refine CW_seq ?_
    refine CW_region ?_
    refine W_q (r_move rfl) rfl ?_
    refine W_q (r_bin rfl rfl (bin_neq _ _ _ _)) rfl ?_
    refine W_q (r_move rfl) rfl ?_
    refine WL_take rfl rfl ?_
    refine W_q (r_loadbk 3 (vs := [_, _, _]) rfl T.ag25 T.sz25 rfl rfl rfl) rfl ?_
    refine WL_take rfl rfl ?_
    refine S_gives (Flat_g hF _) T.hb24 rfl rfl (fun m29 v29 le29 hv29 => ?_)
    replace h := h.mono rY_mono le29
    replace h2 := h2.mono rI_mono le29
    replace hops := hops.mono rOp_mono le29
    replace hbk := hbk.mono rBlock_mono le29
    replace hs7 := hs7.mono rI_mono le29
    replace hs8 := hs8.mono rI_mono le29
    replace hF := rFunc_mono _ _ _ _ le29 hF
    replace hG27 := rFunc_mono _ _ _ _ le29 hG27
    replace hq127 := hq127.mono rI_mono le29
    replace hb127 := hb127.mono rBlock_mono le29
    obtain ⟨Ah29, ch29, rfl, hh29⟩ := hv29
    refine WL_take rfl rfl ?_
    refine W_q (r_move rfl) rfl ?_
    refine WL_take rfl rfl ?_
    refine W_quiet (known_q (Ints_q hh29 hs7) (beq_iff_eq.2 (by rw [free_flat (by omega), hl7]))) T.hb21 rfl rfl ?_
    refine WL_take rfl rfl ?_
    refine W_q (r_not rfl) rfl ?_
    refine W_q (r_pick_f rfl rfl) rfl ?_
    refine W_q (r_move rfl) rfl ?_
    refine WL_take rfl rfl ?_
    refine W_q (r_fieldb (o' := 2) rfl T.fo25_2 rfl) rfl ?_
    refine WL_take rfl rfl ?_
    refine W_q (r_loadb 0 rfl T.ag23 rfl rfl) rfl ?_
    refine WL_take rfl rfl ?_
    refine W_q (r_len Tryz.underlying23 rfl) rfl ?_
    refine WL_take rfl rfl ?_
    refine W_q (r_bin rfl rfl (bin_neq _ _ _ _)) rfl ?_
    refine W_q (r_pick_f rfl rfl) rfl ?_
    refine W_q (r_move rfl) rfl ?_
    refine WL_take rfl rfl ?_
    refine W_q (r_fieldb (o' := 2) rfl T.fo25_2 rfl) rfl ?_
    refine WL_take rfl rfl ?_
    refine W_q (r_loadb 0 rfl T.ag23 rfl rfl) rfl ?_
    refine WL_take rfl rfl ?_
    have hzb0 : ([⟨[], ordOps (freeB od.length) x11.2.1.2.2, ⟨0, 1, []⟩⟩])[0]? = some (⟨[], ordOps (freeB od.length) x11.2.1.2.2, ⟨0, 1, []⟩⟩ : FBlk) := rfl
    obtain ⟨ad30, hA30⟩ := hb127.ad (j := 0) (by show 0 < 1; omega)
    refine W_q (r_index hA30 Tryz.underlying23 T.sz44 rfl rfl ⟨by omega, by show (0 : Int) < ((1 : Nat) : Int); omega⟩) rfl ?_
    refine WL_take rfl rfl ?_
    refine W_q (r_field rfl T.fo44_1) rfl ?_
    refine WL_take rfl rfl ?_
    obtain ⟨es31, f31, _, l31⟩ := Sl.get hb127 hA30 hzb0
    obtain ⟨A31, c31, B31, d31, C31, e31, rfl, hp31, ho31, ht31, i31a, i31b⟩ := f31
    refine W_q (r_load_imm rfl T.ag40 (l31 1 _ rfl)) rfl ?_
    refine WL_take rfl rfl ?_
    refine W_q (r_len Tryz.underlying40 rfl) rfl ?_
    refine WL_take rfl rfl ?_
    refine W_q (r_move rfl) rfl ?_
    refine WL_take rfl rfl ?_
    refine W_q (r_bin rfl rfl (bin_neq _ _ _ _)) rfl ?_
    refine W_q (r_pick_f rfl rfl) rfl ?_
    refine W_q (r_move rfl) rfl ?_
    refine WL_split (t := 107) rfl (fun h32 => ?_) (fun h32 => ?_)
    ·(try simp only [tA, tB, tC, tD, tE, tF, tG, tH, tI, tJ, tK, tL] at h32)
     refine WL_pass rfl rfl rfl rfl ?_
     refine WL_pass rfl rfl rfl rfl ?_
     refine WL_pass rfl rfl rfl rfl ?_
     refine WL_pass rfl rfl rfl rfl ?_
     refine WL_pass rfl rfl rfl rfl ?_
     refine W_q (r_pick_t rfl rfl) rfl ?_
     refine W_nil ?_
     refine NX_as (L' := [(2, _), (3, _), (4, _), (8, _), (12, _), (113, _)]) [2, 3, 4, 8, 12, 113] rfl ?_
     refine CW_cond_t rfl ?_
     refine CW_seq ?_
     refine CW_region ?_
     refine W_q (r_assign rfl) rfl ?_
     refine W_nil ?_
     refine NX_as (L' := [(2, _), (3, _), (4, _), (8, _), (12, _)]) [2, 3, 4, 8, 12] rfl ?_
     refine C_ret (RX_then (RX_q1 rfl rfl ?_))
     exfalso
     exact h32 (by rw [hol])
    ·(try simp only [tA, tB, tC, tD, tE, tF, tG, tH, tI, tJ, tK, tL] at h32)
     refine WL_take rfl rfl ?_
     refine W_q (r_loadbk 3 (vs := [_, _, _]) rfl T.ag25 T.sz25 rfl rfl rfl) rfl ?_
     refine WL_take rfl rfl ?_
     refine S_gives (Depth_g hF _) T.hb26 rfl rfl (fun m33 v33 le33 hv33 => ?_)
     replace h := h.mono rY_mono le33
     replace h2 := h2.mono rI_mono le33
     replace hops := hops.mono rOp_mono le33
     replace hbk := hbk.mono rBlock_mono le33
     replace hs7 := hs7.mono rI_mono le33
     replace hs8 := hs8.mono rI_mono le33
     replace hF := rFunc_mono _ _ _ _ le33 hF
     replace hG27 := rFunc_mono _ _ _ _ le33 hG27
     replace hq127 := hq127.mono rI_mono le33
     replace hb127 := hb127.mono rBlock_mono le33
     replace hh29 := hh29.mono rI_mono le33
     replace hp31 := hp31.mono rPhi_mono le33
     replace ho31 := ho31.mono rOp_mono le33
     replace ht31 := ht31.mono rI_mono le33
     obtain ⟨Ah33, ch33, rfl, hh33⟩ := hv33
     refine WL_take rfl rfl ?_
     refine W_q (r_len Tryz.underlying22 rfl) rfl ?_
     refine WL_take rfl rfl ?_
     refine W_q (r_move rfl) rfl ?_
     refine WL_take rfl rfl ?_
     refine W_q (r_bin rfl rfl (bin_neq _ _ _ _)) rfl ?_
     refine W_q (r_pick_f rfl rfl) rfl ?_
     refine W_nil ?_
     refine NX_as (L' := [(2, _), (3, _), (4, _), (8, _), (12, _), (113, _)]) [2, 3, 4, 8, 12, 113] rfl ?_
     refine CW_condk rfl (fun h34 => ?_) (fun h34 => ?_)
     ·(try simp only [tA, tB, tC, tD, tE, tF, tG, tH, tI, tJ, tK, tL] at h34)
      refine CW_seq ?_
      refine CW_region ?_
      refine W_q (r_assign rfl) rfl ?_
      refine W_nil ?_
      refine NX_as (L' := [(2, _), (3, _), (4, _), (8, _), (12, _)]) [2, 3, 4, 8, 12] rfl ?_
      refine C_ret (RX_then (RX_q1 rfl rfl ?_))
      exfalso
      exact h34 (by rw [free_depth (by omega), List.length_replicate])
     ·(try simp only [tA, tB, tC, tD, tE, tF, tG, tH, tI, tJ, tK, tL] at h34)
      refine C_skip ?_
      refine NX_as (L' := [(2, _), (3, _), (4, _), (8, _), (12, _)]) [2, 3, 4, 8, 12] rfl ?_
      refine CW_seq ?_
      refine CW_seq ?_
      refine CW_region ?_
      refine W_q (r_assign rfl) rfl ?_
      refine W_nil ?_
      refine NX_as (L' := [(2, _), (3, _), (4, _), (8, _), (12, _), (14, _)]) [2, 3, 4, 8, 12, 14] rfl ?_
      refine CW_block ?_
      refine C_loop (Unit) (od.length) (fun k35 x35 => True) (fun k35 x35 => [(14, .int .i64 (k35 : Int))]) (fun _ _ => []) [14] [3, 4, 8, 12] (F := [(3, _), (4, _), (8, _), (12, _)]) (()) trivial rfl rfl rfl (fun k35 x35 hk35 hJ35 => ?_)
      refine CW_as (L' := [(3, _), (4, _), (8, _), (12, _), (14, _)]) [3, 4, 8, 12, 14] rfl ?_
      refine CW_seq ?_
      refine CW_seq ?_
      refine CW_region ?_
      refine W_q (r_move rfl) rfl ?_
      refine W_q (r_move rfl) rfl ?_
      refine W_q (r_bin rfl rfl (bin_lss _ _ _ _)) rfl ?_
      refine W_nil ?_
      refine NX_as (L' := [(3, _), (4, _), (8, _), (12, _), (14, _), (116, _)]) [3, 4, 8, 12, 14, 116] rfl ?_
      refine CW_condk rfl (fun h36 => ?_) (fun h36 => ?_)
      ·(try simp only [tA, tB, tC, tD, tE, tF, tG, tH, tI, tJ, tK, tL] at h36)
       refine C_skip ?_
       refine NX_as (L' := [(3, _), (4, _), (8, _), (12, _), (14, _)]) [3, 4, 8, 12, 14] rfl ?_
       refine CW_seq ?_
       refine CW_block ?_
       refine CW_seq ?_
       refine C_drawn [(0, true), (1, true), (2, true), (3, true), (4, true), (5, true), (6, true), (7, true), (8, true), (9, true), (10, true), (11, true), (12, true), (13, true), (14, true), (15, true), (16, true), (17, true), (18, false), (19, true), (20, true), (21, true), (22, true), (23, true), (25, true), (24, false), (26, true), (27, false), (28, true), (29, true)] (by kernel_rfl) rfl (by kernel_rfl) (by kernel_rfl) ?_
       refine D_q rfl (r_fieldb (o' := 2) rfl T.fo25_2 rfl) rfl ?_
       refine D_q rfl (r_loadb 0 rfl T.ag23 rfl rfl) rfl ?_
       have hzb1 : ([⟨[], ordOps (freeB od.length) x11.2.1.2.2, ⟨0, 1, []⟩⟩])[0]? = some (⟨[], ordOps (freeB od.length) x11.2.1.2.2, ⟨0, 1, []⟩⟩ : FBlk) := rfl
       obtain ⟨ad37, hA37⟩ := hb127.ad (j := 0) (by show 0 < 1; omega)
       refine D_q rfl (r_index hA37 Tryz.underlying23 T.sz44 rfl rfl ⟨by omega, by show (0 : Int) < ((1 : Nat) : Int); omega⟩) rfl ?_
       refine D_q rfl (r_field rfl T.fo44_1) rfl ?_
       obtain ⟨es38, f38, _, l38⟩ := Sl.get hb127 hA37 hzb1
       obtain ⟨A38, c38, B38, d38, C38, e38, rfl, hp38, ho38, ht38, i38a, i38b⟩ := f38
       refine D_q rfl (r_load_imm rfl T.ag40 (l38 1 _ rfl)) rfl ?_
       refine D_q rfl (r_move rfl) rfl ?_
       obtain ⟨ad39, hA39⟩ := ho38.ad (j := k35) (by rw [hol]; omega)
       obtain ⟨z39, hz39⟩ := ho38.getz (j := k35) (by rw [hol]; omega)
       refine D_q rfl (r_index hA39 Tryz.underlying40 T.sz51 rfl rfl ⟨by omega, by rw [hol]; omega⟩) rfl ?_
       refine D_q rfl (r_field rfl T.fo51_3) rfl ?_
       obtain ⟨es40, f40, _, l40⟩ := Sl.get ho38 hA39 hz39
       obtain ⟨A40, c40, rfl, h40, i40a, i40b, i40c, i40d, i40e⟩ := f40
       refine D_q rfl (r_load_imm rfl T.ag3 (l40 3 _ rfl)) rfl ?_
       refine D_q rfl (r_move rfl) rfl ?_
       refine D_q rfl (r_move rfl) rfl ?_
       obtain ⟨ad41, hA41⟩ := hs8.ad (j := k35) (by omega)
       obtain ⟨z41, hz41⟩ := hs8.getz (j := k35) (by omega)
       refine D_q rfl (r_index hA41 Tryz.underlying22 T.sz3 rfl rfl ⟨by omega, by omega⟩) rfl ?_
       obtain ⟨l42, r42⟩ := Sl.getI hs8 hA41 hz41
       refine D_q rfl (r_load_imm rfl T.ag3 l42) rfl ?_
       refine D_q rfl (r_add rfl rfl (by have := hp.rng _ (List.mem_of_getElem? hz41); constructor <;> omega)) rfl ?_
       refine D_q rfl (r_bin rfl rfl (bin_neq _ _ _ _)) rfl ?_
       refine D_q rfl (r_move rfl) rfl ?_
       refine D_split (t := 134) rfl (fun h43 => ?_) (fun h43 => ?_)
       ·(try simp only [tA, tB, tC, tD, tE, tF, tG, tH, tI, tJ, tK, tL] at h43)
        refine D_pass rfl rfl rfl rfl rfl ?_
        refine D_pass rfl rfl rfl rfl rfl ?_
        refine D_f rfl (fun hs44 hc44 => ?_)
        refine WL_pass rfl rfl rfl rfl ?_
        refine W_leftw hs44 hc44 (Imm.le_refl _) (List.Sublist.refl _) ?_
        refine D_pass rfl rfl rfl rfl rfl ?_
        refine D_pass rfl rfl rfl rfl rfl ?_
        refine D_q rfl (r_pick_t rfl rfl) rfl ?_
        refine D_q rfl (r_move rfl) rfl ?_
        refine D_pass rfl rfl rfl rfl rfl ?_
        refine D_pass rfl rfl rfl rfl rfl ?_
        refine D_f rfl (fun hs45 hc45 => ?_)
        refine WL_pass rfl rfl rfl rfl ?_
        refine W_leftw hs45 hc45 (Imm.le_refl _) (List.Sublist.refl _) ?_
        refine D_pass rfl rfl rfl rfl rfl ?_
        refine D_f rfl (fun hs46 hc46 => ?_)
        refine WL_pass rfl rfl rfl rfl ?_
        refine W_leftw hs46 hc46 (Imm.le_refl _) (List.Sublist.refl _) ?_
        refine D_pass rfl rfl rfl rfl rfl ?_
        refine D_q rfl (r_pick_t rfl rfl) rfl ?_
        refine D_end ?_
        refine NX_as (L' := [(3, _), (4, _), (8, _), (12, _), (14, _), (148, _)]) [3, 4, 8, 12, 14, 148] rfl ?_
        refine CW_cond_t rfl ?_
        refine CW_seq ?_
        refine CW_region ?_
        refine W_q (r_assign rfl) rfl ?_
        refine W_nil ?_
        refine NX_as (L' := [(2, _), (3, _), (4, _), (8, _), (12, _), (14, _)]) [2, 3, 4, 8, 12, 14] rfl ?_
        refine C_ret (RX_block (RX_then (RX_then (RX_block (RX_then (RX_q1 rfl rfl ?_))))))
        exfalso
        have hzr := hp.rng _ (List.mem_of_getElem? hz41)
        have e := free_ord (n := od.length) hz41 hzr
        rw [hz39] at e
        cases e
        refine h43 ?_
        show 2 + ((_ : Nat) : Int) = 2 + _
        rw [Int.toNat_of_nonneg hzr.1]
       ·(try simp only [tA, tB, tC, tD, tE, tF, tG, tH, tI, tJ, tK, tL] at h43)
        refine D_qt rfl rfl rfl (r_loadbk 3 (vs := [_, _, _]) rfl T.ag25 T.sz25 rfl rfl rfl) rfl ?_
        refine D_qt rfl rfl rfl (r_move rfl) rfl ?_
        refine D_f rfl (fun hs47 hc47 => ?_)
        refine WL_take rfl rfl ?_
        refine S_gives (Hangs_g hF _ _) T.hb22 rfl rfl (fun m48 v48 le48 hv48 => ?_)
        replace h := h.mono rY_mono le48
        replace h2 := h2.mono rI_mono le48
        replace hops := hops.mono rOp_mono le48
        replace hbk := hbk.mono rBlock_mono le48
        replace hs7 := hs7.mono rI_mono le48
        replace hs8 := hs8.mono rI_mono le48
        replace hF := rFunc_mono _ _ _ _ le48 hF
        replace hG27 := rFunc_mono _ _ _ _ le48 hG27
        replace hq127 := hq127.mono rI_mono le48
        replace hb127 := hb127.mono rBlock_mono le48
        replace hh29 := hh29.mono rI_mono le48
        replace hp31 := hp31.mono rPhi_mono le48
        replace ho31 := ho31.mono rOp_mono le48
        replace ht31 := ht31.mono rI_mono le48
        replace hh33 := hh33.mono rI_mono le48
        replace hp38 := hp38.mono rPhi_mono le48
        replace ho38 := ho38.mono rOp_mono le48
        replace ht38 := ht38.mono rI_mono le48
        replace h40 := h40.mono rI_mono le48
        obtain ⟨Ah48, ch48, rfl, hh48⟩ := hv48
        refine W_leftw hs47 hc47 (le48) (List.Sublist.refl _) ?_
        refine D_qt rfl rfl rfl (r_len Tryz.underlying22 rfl) rfl ?_
        refine D_qt rfl rfl rfl (r_bin rfl rfl (bin_neq _ _ _ _)) rfl ?_
        refine D_q rfl (r_pick_f rfl rfl) rfl ?_
        refine D_q rfl (r_move rfl) rfl ?_
        refine D_split (t := 141) rfl (fun h49 => ?_) (fun h49 => ?_)
        ·(try simp only [tA, tB, tC, tD, tE, tF, tG, tH, tI, tJ, tK, tL] at h49)
         refine D_pass rfl rfl rfl rfl rfl ?_
         refine D_pass rfl rfl rfl rfl rfl ?_
         refine D_f rfl (fun hs50 hc50 => ?_)
         refine WL_pass rfl rfl rfl rfl ?_
         refine W_leftw hs50 hc50 (le48) (List.Sublist.refl _) ?_
         refine D_pass rfl rfl rfl rfl rfl ?_
         refine D_f rfl (fun hs51 hc51 => ?_)
         refine WL_pass rfl rfl rfl rfl ?_
         refine W_leftw hs51 hc51 (le48) (List.Sublist.refl _) ?_
         refine D_pass rfl rfl rfl rfl rfl ?_
         refine D_q rfl (r_pick_t rfl rfl) rfl ?_
         refine D_end ?_
         refine NX_as (L' := [(3, _), (4, _), (8, _), (12, _), (14, _), (148, _)]) [3, 4, 8, 12, 14, 148] rfl ?_
         refine CW_cond_t rfl ?_
         refine CW_seq ?_
         refine CW_region ?_
         refine W_q (r_assign rfl) rfl ?_
         refine W_nil ?_
         refine NX_as (L' := [(2, _), (3, _), (4, _), (8, _), (12, _), (14, _)]) [2, 3, 4, 8, 12, 14] rfl ?_
         refine C_ret (RX_block (RX_then (RX_then (RX_block (RX_then (RX_q1 rfl rfl ?_))))))
         exfalso
         exact h49 (by rw [free_hangsAt (by omega)]; rfl)
        ·(try simp only [tA, tB, tC, tD, tE, tF, tG, tH, tI, tJ, tK, tL] at h49)
         refine D_qt rfl rfl rfl (r_loadbk 3 (vs := [_, _, _]) rfl T.ag25 T.sz25 rfl rfl rfl) rfl ?_
         refine D_qt rfl rfl rfl (r_move rfl) rfl ?_
         refine D_f rfl (fun hs52 hc52 => ?_)
         refine WL_take rfl rfl ?_
         refine S_gives (Depth_g hF _) T.hb26 rfl rfl (fun m53 v53 le53 hv53 => ?_)
         replace h := h.mono rY_mono le53
         replace h2 := h2.mono rI_mono le53
         replace hops := hops.mono rOp_mono le53
         replace hbk := hbk.mono rBlock_mono le53
         replace hs7 := hs7.mono rI_mono le53
         replace hs8 := hs8.mono rI_mono le53
         replace hF := rFunc_mono _ _ _ _ le53 hF
         replace hG27 := rFunc_mono _ _ _ _ le53 hG27
         replace hq127 := hq127.mono rI_mono le53
         replace hb127 := hb127.mono rBlock_mono le53
         replace hh29 := hh29.mono rI_mono le53
         replace hp31 := hp31.mono rPhi_mono le53
         replace ho31 := ho31.mono rOp_mono le53
         replace ht31 := ht31.mono rI_mono le53
         replace hh33 := hh33.mono rI_mono le53
         replace hp38 := hp38.mono rPhi_mono le53
         replace ho38 := ho38.mono rOp_mono le53
         replace ht38 := ht38.mono rI_mono le53
         replace h40 := h40.mono rI_mono le53
         replace hh48 := hh48.mono rI_mono le53
         obtain ⟨Ah53, ch53, rfl, hh53⟩ := hv53
         refine W_leftw hs52 hc52 (Imm.le_trans (le48) le53) (List.Sublist.refl _) ?_
         obtain ⟨ad54, hA54⟩ := hh53.ad (j := k35) (by rw [free_depth (by omega), List.length_replicate]; omega)
         obtain ⟨z54, hz54⟩ := hh53.getz (j := k35) (by rw [free_depth (by omega), List.length_replicate]; omega)
         refine D_qt rfl rfl rfl (r_index hA54 Tryz.underlying22 T.sz3 rfl rfl ⟨by omega, by rw [free_depth (by omega), List.length_replicate]; omega⟩) rfl ?_
         refine D_f rfl (fun hs55 hc55 => ?_)
         refine WL_take rfl rfl ?_
         obtain ⟨l56, r56⟩ := Sl.getI hh53 hA54 hz54
         refine W_q (r_load_imm rfl T.ag3 l56) rfl ?_
         refine W_leftw hs55 hc55 (Imm.le_trans (le48) le53) (List.Sublist.refl _) ?_
         refine D_qt rfl rfl rfl (r_bin rfl rfl (bin_neq _ _ _ _)) rfl ?_
         refine D_q rfl (r_pick_f rfl rfl) rfl ?_
         refine D_end ?_
         refine NX_as (L' := [(3, _), (4, _), (8, _), (12, _), (14, _), (148, _)]) [3, 4, 8, 12, 14, 148] rfl ?_
         refine CW_condk rfl (fun h57 => ?_) (fun h57 => ?_)
         ·(try simp only [tA, tB, tC, tD, tE, tF, tG, tH, tI, tJ, tK, tL] at h57)
          refine CW_seq ?_
          refine CW_region ?_
          refine W_q (r_assign rfl) rfl ?_
          refine W_nil ?_
          refine NX_as (L' := [(2, _), (3, _), (4, _), (8, _), (12, _), (14, _)]) [2, 3, 4, 8, 12, 14] rfl ?_
          refine C_ret (RX_block (RX_then (RX_then (RX_block (RX_then (RX_q1 rfl rfl ?_))))))
          exfalso
          have e := hz54
          rw [free_depth (by omega), List.getElem?_replicate, if_pos (by omega)] at e
          cases e
          exact h57 rfl
         ·(try simp only [tA, tB, tC, tD, tE, tF, tG, tH, tI, tJ, tK, tL] at h57)
          refine C_skip ?_
          refine NX_block (NX_as (L' := [(3, _), (4, _), (8, _), (12, _), (14, _)]) [3, 4, 8, 12, 14] rfl ?_)
          refine CW_region ?_
          refine W_q (r_move rfl) rfl ?_
          refine W_q (r_add rfl rfl (by unfold I64 at *; omega)) rfl ?_
          refine W_q (r_assign rfl) rfl ?_
          refine W_nil ?_
          refine NX_rnd [14, 3, 4, 8, 12] (by omega) (()) ?_ rfl (List.Sublist.refl _) rfl (Imm.le_trans (le48) le53)
          trivial
      ·(try simp only [tA, tB, tC, tD, tE, tF, tG, tH, tI, tJ, tK, tL] at h36)
       refine C_exit (EX_then (EX_then (EX_hit (?_))))
       refine NX_as (L' := []) [] rfl ?_
       refine CW_seq ?_
       refine CW_region ?_
       refine W_q (r_assign rfl) rfl ?_
       refine W_nil ?_
       refine NX_as (L' := [(2, _)]) [2] rfl ?_
       refine C_ret (RX_q1 rfl rfl ?_)
       rfl

end Go.Proofs.YtipmgkhjoekaaaaGreat

set_option linter.unusedVariables false
namespace Go.Proofs.YtipmgkhjoekaaaaGreat
open Go Go.Proofs.YtipmgkhjoekaaaaGreat.Fw
/-! What is in order, each once: all that was there. -/
theorem mem_compact {l : List Int} {x : Int} (h : x ∈ l) : x ∈ Lib.compact l := by
  have : ∀ k : Nat, ∀ j : Nat, j ≤ k → l[j]? = some x → x ∈ Lib.compact l := by
    intro k
    induction k with
    | zero =>
      intro j hj hx
      obtain rfl : j = 0 := by omega
      have hlt := (List.getElem?_eq_some_iff.1 hx).1
      simp only [Lib.compact, Lib.compactUpTo, List.mem_map, List.mem_filter, List.mem_range]
      refine ⟨0, ⟨hlt, by simp [Lib.keeps]⟩, ?_⟩
      rw [getElem!_pos _ 0 (by simpa using hlt)]
      simpa using (List.getElem?_eq_some_iff.1 hx).2
    | succ k ih =>
      intro j hj hx
      by_cases hjk : j ≤ k
      · exact ih j hjk hx
      · obtain rfl : j = k + 1 := by omega
        have hlt := (List.getElem?_eq_some_iff.1 hx).1
        by_cases hp : l[k]? = some x
        · exact ih k (Nat.le_refl _) hp
        · simp only [Lib.compact, Lib.compactUpTo, List.mem_map, List.mem_filter, List.mem_range]
          have e1 : l.toArray[k + 1]! = x := by
            rw [getElem!_pos _ (k + 1) (by simpa using hlt)]
            simpa using (List.getElem?_eq_some_iff.1 hx).2
          refine ⟨k + 1, ⟨hlt, ?_⟩, e1⟩
          simp only [Lib.keeps, decide_eq_true_eq]
          right
          rw [e1, Nat.add_sub_cancel, getElem!_pos _ k (by simp; omega)]
          intro hc
          apply hp
          rw [List.getElem?_eq_getElem (by omega), hc]; simp
  obtain ⟨j, hj⟩ := List.mem_iff_getElem?.1 h
  exact this j j (Nat.le_refl _) hj
theorem mem_sortC {l : List Int} {x : Int} : x ∈ sortC l ↔ x ∈ l := ⟨sortC_sub l x, fun h => mem_compact (List.mem_mergeSort.2 h)⟩
theorem mem_hangs {ops : List FOp} {k : Nat} {o : FOp} (h : ops[k]? = some o) {x : Int} : x ∈ (hangsP ops).getD k [] ↔ x ∈ rawH ops (o, k) := by
  rw [getDl_of (hangsP_get h), mem_sortC]
/-! Uses and definitions, one by one. -/
theorem usesP_zero {f : FFun} {ask : Use → Int} : usesP f ask = 0 ↔ ∀ u ∈ usesL f, ask u = 0 := by
  rw [usesP, firstN]
  constructor
  · intro h u hu
    cases hf : (usesL f).find? (fun u => !(ask u == 0)) with
    | none =>
      have := List.find?_eq_none.1 hf u hu
      simpa using this
    | some w =>
      rw [hf] at h
      have := List.find?_some hf
      simp only [Bool.not_eq_true', beq_eq_false_iff_ne] at this
      exact absurd h this
  · intro h
    have : (usesL f).find? (fun u => !(ask u == 0)) = none := List.find?_eq_none.2 fun u hu => by simp [h u hu]
    rw [this]
theorem mem_zip {α : Type _} {l : List α} {x : α × Nat} : x ∈ l.zipIdx ↔ l[x.2]? = some x.1 := by
  rw [List.mem_zipIdx_iff_getElem?]
theorem mem_usesL {f : FFun} {u : Use} : u ∈ usesL f ↔ ∃ (i : Nat) (b : FBlk), f.blocks[i]? = some b ∧ u ∈ blockU f (b, i) := by
  simp only [usesL, List.mem_flatMap]
  constructor
  · rintro ⟨x, hx, hu⟩; exact ⟨x.2, x.1, mem_zip.1 hx, hu⟩
  · rintro ⟨i, b, hb, hu⟩; exact ⟨(b, i), mem_zip.2 hb, hu⟩
theorem mem_blockU {f : FFun} {b : FBlk} {i : Nat} {u : Use} : u ∈ blockU f (b, i) ↔ (u ∈ b.phis.flatMap phiU ∨ u ∈ endU f i b) ∨ ∃ (k : Nat) (o : FOp), b.ops[k]? = some o ∧ u ∈ opU i (o, k) := by
  simp only [blockU, List.mem_append, List.mem_flatMap]
  constructor
  · rintro (h | ⟨x, hx, hu⟩ | h)
    · exact .inl (.inl h)
    · exact .inr ⟨x.2, x.1, mem_zip.1 hx, hu⟩
    · exact .inl (.inr h)
  · rintro ((h | h) | ⟨k, o, ho, hu⟩)
    · exact .inl h
    · exact .inr (.inr h)
    · exact .inr (.inl ⟨(o, k), mem_zip.2 ho, hu⟩)
theorem mem_opU {i k : Nat} {o : FOp} {u : Use} : u ∈ opU i (o, k) ↔ ∃ j, j < (takesK o).length ∧ u = (o.args.getD j 0, (takesK o).getD j (0, 0), (i : Int), (k : Int)) := by
  simp only [opU, List.mem_map, List.mem_range]
  constructor
  · rintro ⟨j, hj, rfl⟩; exact ⟨j, hj, rfl⟩
  · rintro ⟨j, hj, rfl⟩; exact ⟨j, hj, rfl⟩
def givesB (o : FOp) : Bool := decide (0 < (givesP o).1)
def dPhi (f : FFun) (v : Int) (d : Def) : Prop := ((v, d) ∈ f.params.zipIdx.map paramD) ∨ ∃ (i : Nat) (b : FBlk), f.blocks[i]? = some b ∧ (v, d) ∈ b.phis.map (phiD i)
theorem mem_defsL {f : FFun} {v : Int} {d : Def} : (v, d) ∈ defsL f ↔ dPhi f v d ∨ ∃ (i : Nat) (b : FBlk) (k : Nat) (o : FOp), f.blocks[i]? = some b ∧ b.ops[k]? = some o ∧ givesB o = true ∧ v = o.dst ∧ d = ((i : Int), (k : Int), (givesP o).1, (givesP o).2) := by
  have hop : ∀ (i : Nat) (o : FOp) (k : Nat), (v, d) ∈ opD i (o, k) ↔ givesB o = true ∧ v = o.dst ∧ d = ((i : Int), (k : Int), (givesP o).1, (givesP o).2) := fun i o k => by
    rw [opD, givesB, decide_eq_true_eq]
    by_cases h : 0 < (givesP o).1
    · rw [if_pos h]; simp [h]
    · rw [if_neg h]; simp [h]
  simp only [defsL, List.mem_append, List.mem_flatMap, blockD, dPhi]
  constructor
  · rintro (h | ⟨x, hx, h | ⟨y, hy, h⟩⟩)
    · exact .inl (.inl h)
    · exact .inl (.inr ⟨x.2, x.1, mem_zip.1 hx, h⟩)
    · exact .inr ⟨x.2, x.1, y.2, y.1, mem_zip.1 hx, mem_zip.1 hy, (hop _ _ _).1 h⟩
  · rintro ((h | ⟨i, b, hb, h⟩) | ⟨i, b, k, o, hb, ho, h⟩)
    · exact .inl h
    · exact .inr ⟨(b, i), mem_zip.2 hb, .inl h⟩
    · exact .inr ⟨(b, i), mem_zip.2 hb, .inr ⟨(o, k), mem_zip.2 ho, (hop i o k).2 h⟩⟩
theorem getL_iff {α : Type} {l : List (Int × α)} (hn : (l.map (·.1)).Nodup) {x : Int} {v : α} : getL l x = some v ↔ (x, v) ∈ l := by
  induction l with
  | nil => simp [getL]
  | cons p r ih =>
    rw [List.map_cons, List.nodup_cons] at hn
    simp only [getL, List.mem_cons]
    by_cases h : p.1 = x
    · rw [if_pos h]
      constructor
      · intro e; cases e; exact .inl (by rw [← h])
      · rintro (e | e)
        · rw [← e]
        · exact absurd (List.mem_map.2 ⟨_, e, by rw [h]⟩) hn.1
    · rw [if_neg h, ih hn.2]
      constructor
      · exact .inr
      · rintro (e | e)
        · exact absurd (by rw [← e]) h
        · exact e
noncomputable def treeF (f : FFun) : List Int := match ofP f with | some g => treeP g 0 | none => []
/-- What a right function is. -/
theorem checkP_zero {f : FFun} : checkP f 2 = 0 ↔ mayF f = true ∧ shapeP f = 0 ∧ typedP f 2 = 0 ∧ definedP f = 0 ∧ usesP f (askS f) = 0 ∧ usesP f (askP f (treeF f)) = 0 := by
  rw [checkP, if_neg (by omega), lookP]
  cases hm : mayF f with
  | false => simp
  | true =>
    rw [if_neg (by simp)]
    by_cases h1 : shapeP f = 0
    · rw [if_neg (by simp [h1])]
      by_cases h2 : typedP f 2 = 0
      · rw [if_neg (by simp [h2])]
        by_cases h3 : definedP f = 0
        · rw [if_neg (by simp [h3])]
          by_cases h4 : usesP f (askS f) = 0
          · rw [if_neg (by simp [h4])]; simp only [h1, h2, h3, h4, true_and]; exact Iff.rfl
          · rw [if_pos h4]; simp [h4]
        · rw [if_pos h3]; simp [h3]
      · rw [if_pos h2]; simp [h2]
    · rw [if_pos h1]; simp [h1]
theorem askP_zero {f : FFun} {t : List Int} {u : Use} {d : Def} (hd : getL (defsL f) u.1 = some d) : askP f t u = 0 ↔ d.1 < 0 ∨ (d.1 = u.2.2.1 ∧ d.2.1 < u.2.2.2) ∨ (d.1 ≠ u.2.2.1 ∧ overP t d.1 u.2.2.1 = true) := by
  simp only [askP, hd, Option.getD_some]
  by_cases h1 : d.1 < 0
  · rw [if_pos h1]; simp [h1]
  · rw [if_neg h1]
    by_cases h2 : (d.1 = u.2.2.1 ∧ d.2.1 < u.2.2.2) ∨ (d.1 ≠ u.2.2.1 ∧ overP t d.1 u.2.2.1 = true)
    · rw [if_pos h2]; exact ⟨fun _ => .inr h2, fun _ => rfl⟩
    · rw [if_neg h2]; exact ⟨fun hc => absurd hc (by decide), fun hc => absurd (hc.resolve_left h1) h2⟩
theorem askS_zero {f : FFun} {u : Use} {d : Def} (hd : getL (defsL f) u.1 = some d) : askS f u = 0 ↔ d.2.2 = u.2.1 := by
  simp only [askS, hd, Option.getD_some]
  by_cases h : d.2.2 = u.2.1
  · rw [if_pos h]; simp [h]
  · rw [if_neg h]; exact ⟨fun hc => absurd hc (by decide), fun hc => absurd hc h⟩
theorem definedP_zero {f : FFun} : definedP f = 0 ↔ defOK f ∧ usesP f (askD f) = 0 := by
  rw [definedP]
  by_cases h : defOK f
  · rw [if_pos h]; simp [h]
  · rw [if_neg h]; simp [h]
theorem typedP_zero {f : FFun} {lev : Int} : typedP f lev = 0 ↔ mayW f.ret = true ∧ f.params.all mayW = true ∧ f.blocks.all (okTyped lev) = true := by
  rw [typedP]
  by_cases h : (mayW f.ret && (f.params.all mayW && f.blocks.all (okTyped lev))) = true
  · rw [if_pos h]; simp only [Bool.and_eq_true] at h; simp [h]
  · rw [if_neg h]; simp only [Bool.and_eq_true] at h
    exact ⟨fun hc => absurd hc (by decide), fun hc => absurd hc h⟩
theorem ofK_may {lev : Int} {o : FOp} (h : ofK lev o = true) : mayOpK o = true := by
  simp only [ofK, Bool.and_eq_true] at h; exact h.2.2
theorem may_dst {o : FOp} (h : mayOpK o = true) : givesB o = true ↔ 0 < o.dst := by
  have hs := shapeB_bits (mayOpK_shape h)
  have h2 := h
  simp only [mayOpK, Bool.and_eq_true] at h2
  have h3 := h2.2.2.1
  rw [givesB, decide_eq_true_eq, givesP, h]
  cases hst : storesK o.kind with
  | true =>
    rw [hst, if_pos rfl, beq_iff_eq] at h3
    simp [h3]
  | false =>
    rw [hst] at h3
    simp only [Bool.false_eq_true, if_false, valueB, Bool.and_eq_true, decide_eq_true_eq] at h3
    simp only [Bool.not_true, Bool.or_self, Bool.false_eq_true, if_false]
    split
    · constructor
      · intro _; omega
      · intro _; decide
    · split
      · constructor <;> intro _ <;> omega
      · constructor <;> intro _ <;> omega
theorem may_args {o : FOp} (h : mayOpK o = true) : (takesK o).length = o.args.length := by
  have h2 := h
  simp only [mayOpK, Bool.and_eq_true, decide_eq_true_eq] at h2
  rw [takesK, if_pos h]
  have := h2.2.2.2.1
  omega
end Go.Proofs.YtipmgkhjoekaaaaGreat

set_option linter.unusedVariables false
namespace Go.Proofs.YtipmgkhjoekaaaaGreat
open Go Go.Proofs.YtipmgkhjoekaaaaGreat.Fw
/-! A function with a block's operations in a legal order is right. -/
def putB (b : FBlk) (order : List Int) : FBlk := { b with ops := ordOps b order }
def putF (f : FFun) (B : Nat) (b : FBlk) (order : List Int) : FFun := { f with blocks := f.blocks.set B (putB b order) }
structure PutOK (f : FFun) (B : Nat) (b : FBlk) (order : List Int) : Prop where
  hb : f.blocks[B]? = some b
  chk : checkP f 2 = 0
  leg : legalP b order = true
theorem putOK_of {f : FFun} {block : Int} {order : List Int} (h : LegalP f block order = true) : 0 ≤ block ∧ ∃ b, PutOK f block.toNat b order ∧ putOps f block order = putF f block.toNat b order := by
  obtain ⟨h1, b, hb, h2⟩ := LegalP_ex h
  have h3 := right_block h1
  simp only [rightP, Bool.and_eq_true, beq_iff_eq] at h1
  exact ⟨h3.1, b, ⟨hb, h1.2.2, h2⟩, putOps_set hb⟩
section
variable {α β : Type _} {l : List α} {B : Nat} {z z' : α}
theorem map_set_same {F : α → β} (h : l[B]? = some z) (he : F z' = F z) : (l.set B z').map F = l.map F := by
  rw [List.map_set, he]; exact set_same (by rw [List.getElem?_map, h]; rfl)
theorem any_set_same {p : α → Bool} (h : l[B]? = some z) (he : p z' = p z) : (l.set B z').any p = l.any p := by
  have := map_set_same (F := p) h he
  have e : ∀ m : List α, m.any p = (m.map p).any id := fun m => by rw [List.any_map]; rfl
  rw [e, e, this]
theorem all_set_same {p : α → Bool} (h : l[B]? = some z) (he : p z' = p z) : (l.set B z').all p = l.all p := by
  have := map_set_same (F := p) h he
  have e : ∀ m : List α, m.all p = (m.map p).all id := fun m => by rw [List.all_map]; rfl
  rw [e, e, this]
theorem get_set (h : l[B]? = some z) (i : Nat) : (l.set B z')[i]? = if i = B then some z' else l[i]? := by
  have hl := (List.getElem?_eq_some_iff.1 h).1
  by_cases e : i = B
  · subst e; rw [if_pos rfl, List.getElem?_set_self hl]
  · rw [if_neg e, List.getElem?_set_ne (Ne.symm e)]
end
theorem flat_set_perm {α : Type _} {β : Type _} {F : α → List β} {l : List α} {B : Nat} {z z' : α} (h : l[B]? = some z) (he : (F z').Perm (F z)) : ((l.set B z').flatMap F).Perm (l.flatMap F) := by
  induction l generalizing B with
  | nil => simp at h
  | cons x r ih =>
    cases B with
    | zero =>
      simp only [List.getElem?_cons_zero, Option.some.injEq] at h
      subst h
      simp only [List.set_cons_zero, List.flatMap_cons]
      exact he.append_right _
    | succ B =>
      simp only [List.getElem?_cons_succ] at h
      simp only [List.set_cons_succ, List.flatMap_cons]
      exact (ih h).append_left _
theorem zip_flat {α β : Type _} (G : α → List β) (l : List α) (n : Nat) : (l.zipIdx n).flatMap (fun x => G x.1) = l.flatMap G := by
  induction l generalizing n with
  | nil => rfl
  | cons x r ih => rw [List.zipIdx_cons, List.flatMap_cons, List.flatMap_cons, ih]
def keyO (o : FOp) : List Int := if givesB o then [o.dst] else []
def keyB (b : FBlk) : List Int := b.phis.map (·.dst) ++ b.ops.flatMap keyO
theorem keys_eq (f : FFun) : (defsL f).map (·.1) = (f.params.zipIdx.map paramD).map (·.1) ++ f.blocks.flatMap keyB := by
  have h1 : ∀ x : FBlk × Nat, (blockD x).map (·.1) = keyB x.1 := fun x => by
    have h2 : ∀ y : FOp × Nat, (opD x.2 y).map (·.1) = keyO y.1 := fun y => by
      rw [opD, keyO, givesB]
      by_cases h : 0 < (givesP y.1).1 <;> simp [h]
    rw [blockD, keyB, List.map_append, List.map_map, List.map_flatMap]
    simp only [h2]
    rw [zip_flat keyO]; rfl
  rw [defsL, List.map_append, List.map_flatMap]
  simp only [h1]
  rw [zip_flat keyB]
section
variable {f : FFun} {B : Nat} {b : FBlk} {order : List Int}
theorem PutOK.len (h : PutOK f B b order) : order.length = b.ops.length := legalP_len h.leg
theorem PutOK.nd (h : PutOK f B b order) : order.Nodup := by
  rw [List.nodup_iff_pairwise_ne, List.pairwise_iff_getElem]
  intro i j hi hj hij e
  have hz : order[j]? = some order[j] := List.getElem?_eq_getElem hj
  have := legalP_ok h.leg hj
  simp only [okO, hz, Bool.and_eq_true, Bool.not_eq_true'] at this
  have h2 := this.2.1
  rw [inM_putM, decide_eq_false_iff_not] at h2
  apply h2
  rw [← e]
  exact List.mem_of_getElem? (i := i) (by rw [List.getElem?_take, if_pos hij, List.getElem?_eq_getElem hi])
theorem PutOK.rng (h : PutOK f B b order) : ∀ a ∈ order, 0 ≤ a ∧ a < (b.ops.length : Int) := legalP_rng h.leg
theorem iota_nd (n : Nat) : (iota n).Nodup := by
  rw [iota, List.nodup_iff_pairwise_ne, List.pairwise_map]
  refine List.Pairwise.imp ?_ List.pairwise_lt_range
  intro a b hab; omega
theorem mem_iota {n : Nat} {z : Int} : z ∈ iota n ↔ 0 ≤ z ∧ z < (n : Int) := by
  simp only [iota, List.mem_map, List.mem_range]
  constructor
  · rintro ⟨a, ha, rfl⟩; omega
  · intro h; exact ⟨z.toNat, by omega, by omega⟩
theorem full_order {l : List Int} {n : Nat} (hl : l.length = n) (hn : l.Nodup) (hr : ∀ a ∈ l, 0 ≤ a ∧ a < (n : Int)) {k : Nat} (hk : k < n) : (k : Int) ∈ l := by
  by_cases hc : (k : Int) ∈ l
  · exact hc
  · exfalso
    have hs : l ⊆ (iota n).erase (k : Int) := by
      intro a ha
      refine (List.mem_erase_of_ne ?_).2 (mem_iota.2 (hr a ha))
      rintro rfl; exact hc ha
    have h1 := List.Nodup.length_le_of_subset hn hs
    rw [List.length_erase_of_mem (mem_iota.2 (by omega)), iota_len] at h1
    omega
theorem PutOK.pos (h : PutOK f B b order) {k : Nat} (hk : k < b.ops.length) : ∃ j : Nat, j < b.ops.length ∧ order[j]? = some (k : Int) := by
  obtain ⟨j, hj⟩ := List.mem_iff_getElem?.1 (full_order h.len h.nd h.rng hk)
  exact ⟨j, by have := (List.getElem?_eq_some_iff.1 hj).1; rw [h.len] at this; exact this, hj⟩
theorem PutOK.perm (h : PutOK f B b order) : (ordOps b order).Perm b.ops := by
  have h1 : order.Perm (iota b.ops.length) := (List.perm_ext_iff_of_nodup h.nd (iota_nd _)).2 fun a => ⟨fun ha => mem_iota.2 (h.rng a ha), fun ha => by
    have := mem_iota.1 ha
    have := full_order h.len h.nd h.rng (k := a.toNat) (by omega)
    rwa [Int.toNat_of_nonneg (by omega)] at this⟩
  have h2 := h1.map fun a => b.ops.getD a.toNat (⟨0, 0, 0, 0, [], 0⟩ : FOp)
  have h3 : (iota b.ops.length).map (fun a => b.ops.getD a.toNat (⟨0, 0, 0, 0, [], 0⟩ : FOp)) = b.ops := by
    refine List.ext_getElem? fun j => ?_
    rw [iota, List.map_map, List.getElem?_map]
    by_cases hj : j < b.ops.length
    · rw [List.getElem?_range hj, List.getElem?_eq_getElem hj]; simp [hj]
    · rw [List.getElem?_eq_none (by simpa using hj), List.getElem?_eq_none (by omega)]; rfl
  rw [h3] at h2; exact h2
theorem ord_get {j : Nat} {o : FOp} (h : PutOK f B b order) : (ordOps b order)[j]? = some o ↔ ∃ k : Nat, order[j]? = some (k : Int) ∧ b.ops[k]? = some o := by
  rw [ordOps, List.getElem?_map]
  constructor
  · intro hj
    cases ha : order[j]? with
    | none => rw [ha] at hj; cases hj
    | some a =>
      rw [ha] at hj
      have hr := h.rng a (List.mem_of_getElem? ha)
      have hz : b.ops[a.toNat]? = some b.ops[a.toNat] := List.getElem?_eq_getElem (by omega)
      simp only [Option.map_some, List.getD_eq_getElem?_getD, hz, Option.getD_some, Option.some.injEq] at hj
      exact ⟨a.toNat, by rw [Int.toNat_of_nonneg hr.1], by rw [hz, hj]⟩
  · rintro ⟨k, hk, ho⟩
    rw [hk]; simp [ho]
/-- What stays as it is. -/
theorem put_blocks (h : PutOK f B b order) (i : Nat) : (putF f B b order).blocks[i]? = if i = B then some (putB b order) else f.blocks[i]? := get_set h.hb i
theorem all_ord (h : PutOK f B b order) (p : FOp → Bool) : (ordOps b order).all p = b.ops.all p := by
  rw [Bool.eq_iff_iff, List.all_eq_true, List.all_eq_true]
  exact ⟨fun hh o ho => hh o (h.perm.mem_iff.2 ho), fun hh o ho => hh o (h.perm.mem_iff.1 ho)⟩
theorem put_may (h : PutOK f B b order) : mayF (putF f B b order) = mayF f := by
  have h1 : mayBlock (putB b order) = mayBlock b := by simp only [mayBlock, putB, all_ord h]
  have h2 : sizeF (putF f B b order) = sizeF f := by
    simp only [sizeF, putF, List.length_set]
    rw [map_set_same h.hb]
    simp only [putB, h.perm.length_eq]
  have h3 : ((putF f B b order).blocks.any fun b => !(mayBlock b)) = f.blocks.any fun b => !(mayBlock b) := any_set_same h.hb (by rw [h1])
  have h4 : (putF f B b order).blocks.length = f.blocks.length := by simp [putF]
  simp only [mayF, h2, h3, h4]; rfl
theorem put_of (h : PutOK f B b order) : ofP (putF f B b order) = ofP f := by
  have h1 : ((putF f B b order).blocks.any (badB f.blocks.length)) = f.blocks.any (badB f.blocks.length) := any_set_same h.hb rfl
  have h2 : ((putF f B b order).blocks.map fun b => sortC b.fin.to) = f.blocks.map fun b => sortC b.fin.to := map_set_same h.hb rfl
  have h4 : (putF f B b order).blocks.length = f.blocks.length := by simp [putF]
  rw [ofP, ofP, h4, h1, h2]
theorem put_shape (h : PutOK f B b order) (h0 : shapeP f = 0) : shapeP (putF f B b order) = 0 := by
  obtain ⟨g, hg, hs⟩ := shapeP_zero h0
  refine shapeP_ok (g := g) (by rw [put_of h, hg]) fun i b' hi => ?_
  rw [put_blocks h] at hi
  split at hi
  · cases hi
    rename_i e; subst e
    exact hs _ b h.hb
  · exact hs _ _ hi
theorem put_typed (h : PutOK f B b order) : typedP (putF f B b order) 2 = typedP f 2 := by
  have h1 : okTyped 2 (putB b order) = okTyped 2 b := by simp only [okTyped, putB, all_ord h]
  have h2 : (putF f B b order).blocks.all (okTyped 2) = f.blocks.all (okTyped 2) := all_set_same h.hb h1
  simp only [typedP, h2]; rfl
theorem put_keys (h : PutOK f B b order) : ((defsL (putF f B b order)).map (·.1)).Perm ((defsL f).map (·.1)) := by
  rw [keys_eq, keys_eq]
  exact (flat_set_perm h.hb (List.Perm.append_left _ (h.perm.flatMap_right keyO))).append_left _
theorem put_dPhi (h : PutOK f B b order) {v : Int} {d : Def} (hd : dPhi f v d) : dPhi (putF f B b order) v d := by
  rcases hd with hd | ⟨i, b', hb', hd⟩
  · exact .inl hd
  · refine .inr ?_
    by_cases e : i = B
    · subst e
      rw [h.hb] at hb'; cases hb'
      exact ⟨i, putB b order, by rw [put_blocks h, if_pos rfl], hd⟩
    · exact ⟨i, b', by rw [put_blocks h, if_neg e]; exact hb', hd⟩
theorem dPhi_at {v : Int} {d : Def} (hd : dPhi f v d) : d.1 = -1 ∨ d.2.1 = -1 := by
  rcases hd with hd | ⟨i, b', hb', hd⟩
  · simp only [List.mem_map, paramD] at hd
    obtain ⟨x, _, hx⟩ := hd
    cases hx; exact .inl rfl
  · simp only [List.mem_map, phiD] at hd
    obtain ⟨x, _, hx⟩ := hd
    cases hx; exact .inr rfl
/-- Where a value is defined then. -/
theorem put_look (h : PutOK f B b order) (hn : ((defsL f).map (·.1)).Nodup) {v : Int} {d : Def} (hd : getL (defsL f) v = some d) :
    ∃ d', getL (defsL (putF f B b order)) v = some d' ∧ d'.1 = d.1 ∧ d'.2.2 = d.2.2 ∧ ((d' = d ∧ (d.1 = (B : Int) → d.2.1 = -1)) ∨ (d.1 = (B : Int) ∧ ∃ (k j : Nat) (o : FOp), d.2.1 = k ∧ d'.2.1 = j ∧ order[j]? = some (k : Int) ∧ b.ops[k]? = some o ∧ givesB o = true ∧ v = o.dst)) := by
  have hn' := (put_keys h).nodup_iff.2 hn
  rcases mem_defsL.1 ((getL_iff hn).1 hd) with hp | ⟨i, b', k, o, hb', ho, hg, hv, hde⟩
  · refine ⟨d, (getL_iff hn').2 (mem_defsL.2 (.inl (put_dPhi h hp))), rfl, rfl, .inl ⟨rfl, fun e => ?_⟩⟩
    rcases dPhi_at hp with e2 | e2
    · rw [e] at e2; omega
    · exact e2
  · by_cases e : i = B
    · subst e
      rw [h.hb] at hb'; cases hb'
      obtain ⟨j, hj, hjk⟩ := h.pos (List.getElem?_eq_some_iff.1 ho).1
      refine ⟨((i : Int), (j : Int), (givesP o).1, (givesP o).2), (getL_iff hn').2 (mem_defsL.2 (.inr ⟨i, putB b order, j, o, by rw [put_blocks h, if_pos rfl], (ord_get h).2 ⟨k, hjk, ho⟩, hg, hv, rfl⟩)), by rw [hde], by rw [hde], .inr ⟨by rw [hde], k, j, o, by rw [hde], rfl, hjk, ho, hg, hv⟩⟩
    · refine ⟨d, (getL_iff hn').2 (mem_defsL.2 (.inr ⟨i, b', k, o, by rw [put_blocks h, if_neg e]; exact hb', ho, hg, hv, hde⟩)), rfl, rfl, .inl ⟨rfl, fun e2 => ?_⟩⟩
      rw [hde] at e2; simp only at e2; omega
/-- What is used then. -/
theorem put_uses (h : PutOK f B b order) {u : Use} (hu : u ∈ usesL (putF f B b order)) :
    (u ∈ usesL f ∧ (u.2.2.1 ≠ (B : Int) ∨ u.2.2.2 = 1048576)) ∨ ∃ (j k q : Nat) (o : FOp), order[j]? = some (k : Int) ∧ b.ops[k]? = some o ∧ q < (takesK o).length ∧ u = (o.args.getD q 0, (takesK o).getD q (0, 0), (B : Int), (j : Int)) ∧ (o.args.getD q 0, (takesK o).getD q (0, 0), (B : Int), (k : Int)) ∈ usesL f := by
  obtain ⟨i, b', hb', hu⟩ := mem_usesL.1 hu
  have hend : ∀ (x : FBlk) (u : Use), u ∈ endU f i x → u.2.2.2 = 1048576 := fun x u hx => by
    rw [endU] at hx
    split at hx
    · cases hx
    · simp only [List.mem_singleton] at hx; rw [hx]
  have hphi : ∀ (x : FBlk) (u : Use), u ∈ x.phis.flatMap phiU → u.2.2.2 = 1048576 := fun x u hx => by
    simp only [List.mem_flatMap, phiU, List.mem_map] at hx
    obtain ⟨p, _, q, _, rfl⟩ := hx; rfl
  rw [put_blocks h] at hb'
  by_cases e : i = B
  · subst e
    rw [if_pos rfl] at hb'
    cases hb'
    rcases mem_blockU.1 hu with (hp | hp) | ⟨j, o, ho, hp⟩
    · exact .inl ⟨mem_usesL.2 ⟨i, b, h.hb, mem_blockU.2 (.inl (.inl hp))⟩, .inr (hphi _ _ hp)⟩
    · exact .inl ⟨mem_usesL.2 ⟨i, b, h.hb, mem_blockU.2 (.inl (.inr hp))⟩, .inr (hend b _ hp)⟩
    · obtain ⟨k, hk, hok⟩ := (ord_get h).1 ho
      obtain ⟨q, hq, rfl⟩ := mem_opU.1 hp
      exact .inr ⟨j, k, q, o, hk, hok, hq, rfl, mem_usesL.2 ⟨i, b, h.hb, mem_blockU.2 (.inr ⟨k, o, hok, mem_opU.2 ⟨q, hq, rfl⟩⟩)⟩⟩
  · rw [if_neg e] at hb'
    refine .inl ⟨mem_usesL.2 ⟨i, b', hb', hu⟩, ?_⟩
    rcases mem_blockU.1 hu with (hp | hp) | ⟨j, o, ho, hp⟩
    · exact .inr (hphi _ _ hp)
    · exact .inr (hend b' _ hp)
    · obtain ⟨q, hq, rfl⟩ := mem_opU.1 hp
      left; simp only; omega
theorem defsH_get {ops : List FOp} {v : Int} {k' : Nat} {o' : FOp} (ho : ops[k']? = some o') (hv : o'.dst = v) (h0 : 0 < v) (hu : ∀ (k2 : Nat) o2, ops[k2]? = some o2 → o2.dst = v → k2 = k') : ∀ k : Nat, k' < k → k ≤ ops.length → getL (defsH ops k) v = some (k' : Int)
  | 0, h, _ => absurd h (by omega)
  | k + 1, h, hk => by
    have hz : ops[k]? = some ops[k] := List.getElem?_eq_getElem (by omega)
    by_cases e : k = k'
    · subst e
      rw [hz] at ho; cases ho
      rw [defsH_step1 hz (by rw [hv]; exact h0), hv, getL_putL, if_pos rfl]
    · have ih := defsH_get ho hv h0 hu k (by omega) (by omega)
      by_cases hd : 0 < ops[k].dst
      · rw [defsH_step1 hz hd, getL_putL, if_neg (fun hc => e (hu k _ hz hc)), ih]
      · rw [defsH_step0 hz hd, ih]
/-- An operation that another's argument is made by is put ahead of it. -/
theorem PutOK.ahead (h : PutOK f B b order) {j k k' : Nat} {o : FOp} (hj : order[j]? = some (k : Int)) (ho : b.ops[k]? = some o) (hk : (k' : Int) ∈ rawH b.ops (o, k)) : ∃ j' : Nat, j' < j ∧ order[j']? = some (k' : Int) := by
  have hjl := (List.getElem?_eq_some_iff.1 hj).1
  have h1 := legalP_ok h.leg hjl
  simp only [okO, hj, Bool.and_eq_true] at h1
  have h2 := h1.2.2
  simp only [standsB, Bool.not_eq_true', List.any_eq_false] at h2
  have h3 := h2 _ ((mem_hangs ho).2 hk)
  have h4 : inM (putM order j) (k' : Int) = true := by simpa using h3
  rw [inM_putM, decide_eq_true_eq] at h4
  obtain ⟨j', hj'⟩ := List.mem_iff_getElem?.1 h4
  rw [List.getElem?_take] at hj'
  split at hj'
  · rename_i hlt; exact ⟨j', hlt, hj'⟩
  · cases hj'
theorem typed_ops (ht : typedP f 2 = 0) {i : Nat} (hb : f.blocks[i]? = some b) {k : Nat} {o : FOp} (ho : b.ops[k]? = some o) : mayOpK o = true := by
  have h1 := (typedP_zero.1 ht).2.2
  have h2 := List.all_eq_true.1 h1 b (List.mem_of_getElem? hb)
  simp only [okTyped, Bool.and_eq_true] at h2
  exact ofK_may (List.all_eq_true.1 h2.2 o (List.mem_of_getElem? ho))
/-- A value is defined once. -/
theorem dst_once (hn : ((defsL f).map (·.1)).Nodup) (ht : typedP f 2 = 0) {i i' : Nat} {b b' : FBlk} {k k' : Nat} {o o' : FOp} (hb : f.blocks[i]? = some b) (hb' : f.blocks[i']? = some b') (ho : b.ops[k]? = some o) (ho' : b'.ops[k']? = some o') (h0 : 0 < o.dst) (he : o.dst = o'.dst) : i = i' ∧ k = k' := by
  have h1 := (getL_iff hn).2 (mem_defsL.2 (.inr ⟨i, b, k, o, hb, ho, (may_dst (typed_ops ht hb ho)).2 h0, rfl, rfl⟩))
  have h2 := (getL_iff hn).2 (mem_defsL.2 (.inr ⟨i', b', k', o', hb', ho', (may_dst (typed_ops ht hb' ho')).2 (by omega), rfl, rfl⟩))
  rw [he] at h1
  rw [h1] at h2
  simp only [Option.some.injEq, Prod.mk.injEq] at h2
  omega
theorem raw_arg (hn : ((defsL f).map (·.1)).Nodup) (ht : typedP f 2 = 0) (hb : f.blocks[B]? = some b) {k k' : Nat} {o o' : FOp} (ho : b.ops[k]? = some o) (ho' : b.ops[k']? = some o') (hk : k' < k) {v : Int} (hv : v ∈ o.args) (hd : o'.dst = v) (h0 : 0 < v) : (k' : Int) ∈ rawH b.ops (o, k) := by
  refine List.mem_append.2 (.inl (List.mem_filterMap.2 ⟨v, hv, ?_⟩))
  exact defsH_get ho' hd h0 (fun k2 o2 h2 hd2 => (dst_once hn ht hb hb h2 ho' (by omega) (by omega)).2) k hk (by have := (List.getElem?_eq_some_iff.1 ho).1; omega)
theorem args_mem {o : FOp} {q : Nat} (h : mayOpK o = true) (hq : q < (takesK o).length) : o.args.getD q 0 ∈ o.args := by
  rw [may_args h] at hq
  have hz : o.args[q]? = some o.args[q] := List.getElem?_eq_getElem hq
  rw [getD_of hz]; exact List.getElem_mem hq
theorem put_check (h : PutOK f B b order) : checkP (putF f B b order) 2 = 0 := by
  obtain ⟨c1, c2, c3, c4, c5, c6⟩ := checkP_zero.1 h.chk
  obtain ⟨⟨hphi, hn⟩, c4'⟩ := definedP_zero.1 c4
  have c4d := usesP_zero.1 c4'
  have c5d := usesP_zero.1 c5
  have c6d := usesP_zero.1 c6
  have hsome : ∀ u ∈ usesL f, ∃ d, getL (defsL f) u.1 = some d := fun u hu => by
    have := c4d u hu
    rw [askD] at this
    split at this
    · rename_i hs; exact Option.isSome_iff_exists.1 hs
    · omega
  -- each use of the new function, and its like in the old one
  have hlike : ∀ u ∈ usesL (putF f B b order), ∃ u0 ∈ usesL f, u0.1 = u.1 ∧ u0.2.1 = u.2.1 ∧ u0.2.2.1 = u.2.2.1 := fun u hu => by
    rcases put_uses h hu with ⟨h1, _⟩ | ⟨j, k, q, o, _, _, _, rfl, h2⟩
    · exact ⟨u, h1, rfl, rfl, rfl⟩
    · exact ⟨_, h2, rfl, rfl, rfl⟩
  refine checkP_zero.2 ⟨by rw [put_may h, c1], put_shape h c2, by rw [put_typed h, c3], ?_, ?_, ?_⟩
  · refine definedP_zero.2 ⟨⟨fun b' hb' p hp => ?_, (put_keys h).nodup_iff.2 hn⟩, usesP_zero.2 fun u hu => ?_⟩
    · obtain ⟨i, hi⟩ := List.mem_iff_getElem?.1 hb'
      rw [put_blocks h] at hi
      split at hi
      · cases hi; exact hphi b (List.mem_of_getElem? h.hb) p hp
      · exact hphi b' (List.mem_of_getElem? hi) p hp
    · obtain ⟨u0, h0, e1, _, _⟩ := hlike u hu
      obtain ⟨d, hd⟩ := hsome u0 h0
      obtain ⟨d', hd', _⟩ := put_look h hn hd
      rw [e1] at hd'
      rw [askD, hd']; rfl
  · refine usesP_zero.2 fun u hu => ?_
    obtain ⟨u0, h0, e1, e2, _⟩ := hlike u hu
    obtain ⟨d, hd⟩ := hsome u0 h0
    obtain ⟨d', hd', _, e4, _⟩ := put_look h hn hd
    rw [e1] at hd'
    exact (askS_zero hd').2 (by rw [e4, (askS_zero hd).1 (c5d u0 h0), e2])
  · have htr : treeF (putF f B b order) = treeF f := by rw [treeF, treeF, put_of h]
    rw [htr]
    refine usesP_zero.2 fun u hu => ?_
    rcases put_uses h hu with ⟨h1, hat⟩ | ⟨j, k, q, o, hj, ho, hq, rfl, h2⟩
    · obtain ⟨d, hd⟩ := hsome u h1
      obtain ⟨d', hd', e1, _, hcase⟩ := put_look h hn hd
      refine (askP_zero hd').2 ?_
      rw [e1]
      rcases (askP_zero hd).1 (c6d u h1) with h3 | ⟨a1, a2⟩ | h3
      · exact .inl h3
      · refine .inr (.inl ⟨a1, ?_⟩)
        rcases hcase with ⟨rfl, _⟩ | ⟨a3, k, j, o, a4, a5, a6, _⟩
        · exact a2
        · have hjl := (List.getElem?_eq_some_iff.1 a6).1
          have hol := (may_small c1 (List.mem_of_getElem? h.hb)).1
          rw [h.len] at hjl
          rcases hat with hat | hat
          · exact absurd (a1.symm.trans a3) hat
          · rw [hat, a5]; omega
      · exact .inr (.inr h3)
    · obtain ⟨d, hd⟩ := hsome _ h2
      obtain ⟨d', hd', e1, _, hcase⟩ := put_look h hn hd
      refine (askP_zero (u := (o.args.getD q 0, (takesK o).getD q (0, 0), (B : Int), (j : Int))) hd').2 ?_
      rw [e1]
      rcases (askP_zero hd).1 (c6d _ h2) with h3 | ⟨a1, a2⟩ | h3
      · exact .inl h3
      · refine .inr (.inl ⟨a1, ?_⟩)
        simp only at a1 a2 ⊢
        rcases hcase with ⟨rfl, a3⟩ | ⟨a3, k', j', o', a4, a5, a6, a7, a8, a9⟩
        · rw [a3 a1]; omega
        · have hmo := typed_ops c3 h.hb ho
          have hmo' := typed_ops c3 h.hb a7
          have h0 := (may_dst hmo').1 a8
          obtain ⟨j2, hj2, hj2k⟩ := h.ahead hj ho (raw_arg hn c3 h.hb ho a7 (by omega) (args_mem hmo hq) a9.symm (by simp only at a9; omega))
          have := nodup_idx h.nd hj2k a6
          rw [a5]; omega
      · exact .inr (.inr h3)
end
end Go.Proofs.YtipmgkhjoekaaaaGreat

set_option linter.unusedVariables false
namespace Go.Proofs.YtipmgkhjoekaaaaGreat
open Go Go.Proofs.YtipmgkhjoekaaaaGreat.Fw
/-! Back again. -/
structure InvO (order back : List Int) : Prop where
  len : back.length = order.length
  at_ : ∀ j k : Nat, order[j]? = some (k : Int) → back[k]? = some (j : Int)
section
variable {f : FFun} {B : Nat} {b : FBlk} {order back : List Int}
theorem back_get (h : PutOK f B b order) (hi : InvO order back) {k : Nat} (hk : k < b.ops.length) : ∃ j : Nat, j < b.ops.length ∧ order[j]? = some (k : Int) ∧ back[k]? = some (j : Int) := by
  obtain ⟨j, h1, h2⟩ := h.pos hk
  exact ⟨j, h1, h2, hi.at_ j k h2⟩
theorem ordOps_len (b : FBlk) (order : List Int) : (ordOps b order).length = order.length := by simp [ordOps]
theorem back_legal (h : PutOK f B b order) (hi : InvO order back) : legalP (putB b order) back = true := by
  obtain ⟨c1, c2, c3, c4, c5, c6⟩ := checkP_zero.1 h.chk
  obtain ⟨⟨hphi, hn⟩, c4'⟩ := definedP_zero.1 c4
  have c4d := usesP_zero.1 c4'
  have c6d := usesP_zero.1 c6
  have hlen : (putB b order).ops.length = order.length := ordOps_len b order
  refine legalP_t (by rw [hlen, hi.len]) fun k hk => ?_
  rw [hi.len, h.len] at hk
  obtain ⟨j, hj, hjk, hb⟩ := back_get h hi hk
  have ho : b.ops[k]? = some b.ops[k] := List.getElem?_eq_getElem hk
  have ho' : (putB b order).ops[j]? = some b.ops[k] := (ord_get h).2 ⟨k, hjk, ho⟩
  -- what is put is what stands ahead
  have hin : ∀ k' j' : Nat, k' < k → order[j']? = some (k' : Int) → inM (putM back k) (j' : Int) = true := fun k' j' hlt hj' => by
    rw [inM_putM, decide_eq_true_eq]
    exact List.mem_of_getElem? (i := k') (by rw [List.getElem?_take, if_pos hlt]; exact hi.at_ j' k' hj')
  have hnot : inM (putM back k) (j : Int) = false := by
    rw [inM_putM, decide_eq_false_iff_not]
    intro hc
    obtain ⟨k', hk'⟩ := List.mem_iff_getElem?.1 hc
    rw [List.getElem?_take] at hk'
    split at hk'
    · rename_i hlt
      obtain ⟨j', h1, h2, h3⟩ := back_get h hi (k := k') (by omega)
      rw [h3] at hk'
      simp only [Option.some.injEq] at hk'
      have : j' = j := by omega
      subst this
      rw [h2] at hjk
      simp only [Option.some.injEq] at hjk
      omega
    · cases hk'
  refine okO_t hb (by omega) (by rw [hlen, h.len]; omega) hnot (hangsP_get (by rw [Int.toNat_natCast]; exact ho')) ?_
  simp only [standsB, Bool.not_eq_true', List.any_eq_false]
  intro x hx
  rw [mem_sortC, Int.toNat_natCast] at hx
  have hxr := rawH_rng (ops := (putB b order).ops) (b.ops[k], j) x hx
  simp only at hxr
  obtain ⟨i, rfl⟩ : ∃ i : Nat, x = (i : Int) := ⟨x.toNat, by omega⟩
  have hil : i < order.length := by rw [h.len]; omega
  have hz : order[i]? = some order[i] := List.getElem?_eq_getElem hil
  have hzr := h.rng _ (List.getElem_mem hil)
  obtain ⟨k', hk'⟩ : ∃ k' : Nat, order[i] = (k' : Int) := ⟨order[i].toNat, by omega⟩
  rw [hk'] at hz hzr
  have hk'l : k' < b.ops.length := by omega
  have hok' : b.ops[k']? = some b.ops[k'] := List.getElem?_eq_getElem hk'l
  have hoi : (putB b order).ops[i]? = some b.ops[k'] := (ord_get h).2 ⟨k', hz, hok'⟩
  have hlt : k' < k := by
    rcases List.mem_append.1 hx with hx | hx
    · obtain ⟨v, hv, hvx⟩ := List.mem_filterMap.1 hx
      -- the value is made by the one at i
      have hmade : ∀ q : Nat, q ≤ (putB b order).ops.length → ∀ i : Nat, getL (defsH (putB b order).ops q) v = some (i : Int) → ∃ o, (putB b order).ops[i]? = some o ∧ 0 < o.dst ∧ o.dst = v := by
        intro q
        induction q with
        | zero => intro _ i hi; simp [defsH, getL] at hi
        | succ q ih =>
          intro hq i hi
          have hzq : (putB b order).ops[q]? = some (putB b order).ops[q] := List.getElem?_eq_getElem (by omega)
          by_cases hd : 0 < (putB b order).ops[q].dst
          · rw [defsH_step1 hzq hd, getL_putL] at hi
            split at hi
            · rename_i e
              simp only [Option.some.injEq] at hi
              have : q = i := by omega
              subst this
              exact ⟨_, hzq, hd, e⟩
            · exact ih (by omega) i hi
          · rw [defsH_step0 hzq hd] at hi; exact ih (by omega) i hi
      obtain ⟨o2, ho2, hd2, hv2⟩ := hmade j (by rw [hlen, h.len]; omega) i hvx
      rw [hoi] at ho2
      simp only [Option.some.injEq] at ho2
      subst ho2
      -- it is used at k: so it is defined ahead
      have hmo := typed_ops c3 h.hb ho
      have hmo' := typed_ops c3 h.hb hok'
      obtain ⟨q, hq⟩ := List.mem_iff_getElem?.1 hv
      have hql : q < (takesK b.ops[k]).length := by rw [may_args hmo]; exact (List.getElem?_eq_some_iff.1 hq).1
      have hu : ((b.ops[k]).args.getD q 0, (takesK b.ops[k]).getD q (0, 0), (B : Int), (k : Int)) ∈ usesL f := mem_usesL.2 ⟨B, b, h.hb, mem_blockU.2 (.inr ⟨k, _, ho, mem_opU.2 ⟨q, hql, rfl⟩⟩)⟩
      have hdef := (getL_iff hn).2 (mem_defsL.2 (.inr ⟨B, b, k', _, h.hb, hok', (may_dst hmo').2 hd2, rfl, rfl⟩))
      rw [hv2, ← getD_of (d := 0) hq] at hdef
      rcases (askP_zero (u := ((b.ops[k]).args.getD q 0, (takesK b.ops[k]).getD q (0, 0), (B : Int), (k : Int))) hdef).1 (c6d _ hu) with h3 | ⟨_, h3⟩ | ⟨h3, _⟩
      · simp only at h3; omega
      · simp only at h3; omega
      · exact absurd rfl h3
    · split at hx
      · cases hx
      · rename_i hp
        obtain ⟨i2, o2, h1, h2, h3, h4⟩ := mem_impH.1 hx
        have : i2 = i := by omega
        subst this
        simp only at h1
        rw [hoi] at h2
        simp only [Option.some.injEq] at h2
        subst h2
        by_cases hc : k' < k
        · exact hc
        · exfalso
          have hne : k' ≠ k := by
            rintro rfl
            have := nodup_idx h.nd hz hjk
            omega
          have hraw : (k : Int) ∈ rawH b.ops (b.ops[k'], k') := by
            refine List.mem_append.2 (.inr ?_)
            simp only [h3, Bool.false_eq_true, if_false]
            exact mem_impH.2 ⟨k, b.ops[k], by omega, ho, by simpa using hp, rfl⟩
          obtain ⟨j', hj', hj'k⟩ := h.ahead hz hok' hraw
          have := nodup_idx h.nd hj'k hjk
          omega
  have hfin := hin k' i hlt hz
  simpa using hfin
theorem back_ops (h : PutOK f B b order) (hi : InvO order back) : ordOps (putB b order) back = b.ops := by
  refine List.ext_getElem? fun k => ?_
  by_cases hk : k < b.ops.length
  · obtain ⟨j, hj, hjk, hb⟩ := back_get h hi hk
    have ho' : (putB b order).ops[j]? = some b.ops[k] := (ord_get h).2 ⟨k, hjk, List.getElem?_eq_getElem hk⟩
    rw [ordOps, List.getElem?_map, hb, List.getElem?_eq_getElem hk]
    simp [ho']
  · rw [List.getElem?_eq_none (by rw [ordOps_len, hi.len, h.len]; omega), List.getElem?_eq_none (by omega)]
theorem back_put (h : PutOK f B b order) (hi : InvO order back) : putF (putF f B b order) B (putB b order) back = f := by
  have h1 : putB (putB b order) back = b := by rw [putB, back_ops h hi]; rfl
  simp only [putF, h1, List.set_set]
  rw [set_same h.hb]
theorem back_Legal {block : Int} (h0 : 0 ≤ block) (h : PutOK f block.toNat b order) (hi : InvO order back) : LegalP (putF f block.toNat b order) block back = true := by
  have hb' : (putF f block.toNat b order).blocks[block.toNat]? = some (putB b order) := by rw [put_blocks h, if_pos rfl]
  have hr : rightP (putF f block.toNat b order) block = true := by
    have := (List.getElem?_eq_some_iff.1 hb').1
    simp only [rightP, Bool.and_eq_true, decide_eq_true_eq, beq_iff_eq]
    exact ⟨h0, by omega, put_check h⟩
  rw [LegalP_t hr hb', back_legal h hi]
/-- The way back, place by place. -/
structure BackSt (order back : List Int) (n k : Nat) : Prop where
  len : back.length = n
  at_ : ∀ j a : Nat, j < k → order[j]? = some (a : Int) → back[a]? = some (j : Int)
theorem backSt_init (order : List Int) : BackSt order (List.replicate order.length 0) order.length 0 := ⟨by simp, fun j a h => absurd h (by omega)⟩
theorem BackSt.step {k : Nat} {z : Int} (h : BackSt order back order.length k) (hn : order.Nodup) (hz : order[k]? = some z) (h0 : 0 ≤ z) (hl : z < (order.length : Int)) : BackSt order (back.set z.toNat (k : Int)) order.length (k + 1) := by
  refine ⟨by simp [h.len], fun j a hj ha => ?_⟩
  by_cases e : j = k
  · subst e
    rw [hz] at ha
    simp only [Option.some.injEq] at ha
    have : z.toNat = a := by omega
    rw [this, List.getElem?_set_self (by rw [h.len]; omega)]
  · have hne : z.toNat ≠ a := by
      rintro rfl
      rw [Int.toNat_of_nonneg h0] at ha
      have := nodup_idx hn ha hz
      omega
    rw [List.getElem?_set_ne hne]
    exact h.at_ j a (by omega) ha
theorem BackSt.done (h : BackSt order back order.length order.length) : InvO order back := ⟨h.len, fun j k hj => h.at_ j k (List.getElem?_eq_some_iff.1 hj).1 hj⟩
end
end Go.Proofs.YtipmgkhjoekaaaaGreat

set_option linter.unusedVariables false
set_option linter.unusedSimpArgs false
namespace Go.Proofs.YtipmgkhjoekaaaaGreat
open Go Go.RowKit Go.Proofs Go.Proofs.YtipmgkhjoekaaaaGreat.Fw
attribute [local irreducible] Qt WL CW NX RX EX GX DL
namespace T
theorem hb46 : hasBody Tryz.prog 46 = true := by kernel_rfl
theorem hb48 : hasBody Tryz.prog 48 = true := by kernel_rfl
end T
set_option maxHeartbeats 20000000 in
/-- lockstepref04.Small -/
theorem Small4_g {m : Imm} {es : List Value} {f : FFun} (hF : rFunc m es f) : Gives Tryz.prog 46 [.agg es.toArray] m (fun _ v => ∃ q, v = .bool q) := by
 have hF_0 := hF
 obtain ⟨A90, c90, B90, d90, rfl, hq90, hb90, i90a⟩ := hF_0
 have hbl := hb90.len
 refine gives_of Tryz.func46 rfl Tryz.ntmps46 rfl (fun w => ?_)
 refine CW_seq ?_
 refine CW_region ?_
 refine S_box (l := [_, _, _]) rfl rfl rfl (fun b1 => ?_)
 refine W_q (r_assign rfl) rfl ?_
 refine W_nil ?_
 refine NX_as (L' := [(1, _), (2, _)]) [1, 2] rfl ?_
 refine CW_seq ?_
 refine CW_region ?_
 refine W_q (r_fieldb (o' := 0) rfl T.fo25_0 rfl) rfl ?_
 refine W_q (r_loadb 0 rfl T.ag22 rfl rfl) rfl ?_
 refine W_q (r_len Tryz.underlying22 rfl) rfl ?_
 refine W_q (r_assign rfl) rfl ?_
 refine W_nil ?_
 refine NX_as (L' := [(1, _), (2, _), (3, _)]) [1, 2, 3] rfl ?_
 refine CW_seq ?_
 refine CW_seq ?_
 refine CW_region ?_
 refine W_q (r_assign rfl) rfl ?_
 refine W_nil ?_
 refine NX_as (L' := [(1, _), (2, _), (3, _), (4, _)]) [1, 2, 3, 4] rfl ?_
 refine CW_block ?_
 refine C_loop (Int) (f.blocks.length) (fun k2 x2 => True) (fun k2 x2 => [(3, .int .i64 x2), (4, .int .i64 (k2 : Int))]) (fun _ _ => []) [3, 4] [1, 2] (F := [(1, _), (2, _)]) (_) trivial rfl rfl rfl (fun k2 x2 hk2 hJ2 => ?_)
 refine CW_as (L' := [(1, _), (2, _), (3, _), (4, _)]) [1, 2, 3, 4] rfl ?_
 refine CW_seq ?_
 refine CW_seq ?_
 refine CW_region ?_
 refine W_q (r_move rfl) rfl ?_
 refine W_q (r_fieldb (o' := 2) rfl T.fo25_2 rfl) rfl ?_
 refine W_q (r_loadb 0 rfl T.ag23 rfl rfl) rfl ?_
 refine W_q (r_len Tryz.underlying23 rfl) rfl ?_
 refine W_q (r_bin rfl rfl (bin_lss _ _ _ _)) rfl ?_
 refine W_q (r_move rfl) rfl ?_
 refine WL_split (t := 15) rfl (fun h3 => ?_) (fun h3 => ?_)
 ·(try simp only [tA, tB, tC, tD, tE, tF, tG, tH, tI, tJ, tK, tL] at h3)
  refine WL_take rfl rfl ?_
  refine W_q (r_move rfl) rfl ?_
  refine WL_take rfl rfl ?_
  refine W_q (r_bin rfl rfl (bin_leq _ _ _ _)) rfl ?_
  refine W_q (r_pick_t rfl rfl) rfl ?_
  refine W_nil ?_
  refine NX_as (L' := [(1, _), (2, _), (3, _), (4, _), (18, _)]) [1, 2, 3, 4, 18] rfl ?_
  refine CW_condk rfl (fun h4 => ?_) (fun h4 => ?_)
  ·(try simp only [tA, tB, tC, tD, tE, tF, tG, tH, tI, tJ, tK, tL] at h4)
   refine C_skip ?_
   refine NX_as (L' := [(1, _), (2, _), (3, _), (4, _)]) [1, 2, 3, 4] rfl ?_
   refine CW_seq ?_
   refine CW_block ?_
   refine CW_seq ?_
   refine CW_region ?_
   refine W_q (r_move rfl) rfl ?_
   refine W_q (r_bin rfl rfl (bin_add _ _ _ _)) rfl ?_
   refine W_q (r_fieldb (o' := 2) rfl T.fo25_2 rfl) rfl ?_
   refine W_q (r_loadb 0 rfl T.ag23 rfl rfl) rfl ?_
   refine W_q (r_move rfl) rfl ?_
   obtain ⟨ad5, hA5⟩ := hb90.ad (j := k2) (by omega)
   obtain ⟨z5, hz5⟩ := hb90.getz (j := k2) (by omega)
   refine W_q (r_index hA5 Tryz.underlying23 T.sz44 rfl rfl ⟨by omega, by omega⟩) rfl ?_
   refine W_q (r_field rfl T.fo44_2) rfl ?_
   refine W_q (r_field rfl T.fo42_2) rfl ?_
   obtain ⟨es6, f6, _, l6⟩ := Sl.get hb90 hA5 hz5
   obtain ⟨A6, c6, B6, d6, C6, e6, rfl, hp6, ho6, ht6, i6a, i6b⟩ := f6
   refine W_q (r_load_imm rfl T.ag22 (by rw [add_add]; exact l6 4 _ rfl)) rfl ?_
   refine W_q (r_len Tryz.underlying22 rfl) rfl ?_
   refine W_q (r_bin rfl rfl (bin_add _ _ _ _)) rfl ?_
   refine W_q (r_assign rfl) rfl ?_
   refine W_nil ?_
   refine NX_as (L' := [(1, _), (2, _), (3, _), (4, _)]) [1, 2, 3, 4] rfl ?_
   refine CW_seq ?_
   refine CW_seq ?_
   refine CW_region ?_
   refine W_q (r_assign rfl) rfl ?_
   refine W_nil ?_
   refine NX_as (L' := [(1, _), (2, _), (3, _), (4, _), (5, _)]) [1, 2, 3, 4, 5] rfl ?_
   refine CW_block ?_
   refine C_loop (Int) (z5.phis.length) (fun k7 x7 => True) (fun k7 x7 => [(3, .int .i64 x7), (5, .int .i64 (k7 : Int))]) (fun _ _ => []) [3, 5] [1, 2, 4] (F := [(1, _), (2, _), (4, _)]) (_) trivial rfl rfl rfl (fun k7 x7 hk7 hJ7 => ?_)
   refine CW_as (L' := [(1, _), (2, _), (3, _), (4, _), (5, _)]) [1, 2, 3, 4, 5] rfl ?_
   refine CW_seq ?_
   refine CW_seq ?_
   refine CW_region ?_
   refine W_q (r_move rfl) rfl ?_
   refine W_q (r_fieldb (o' := 2) rfl T.fo25_2 rfl) rfl ?_
   refine W_q (r_loadb 0 rfl T.ag23 rfl rfl) rfl ?_
   refine W_q (r_move rfl) rfl ?_
   obtain ⟨ad8, hA8⟩ := hb90.ad (j := k2) (by omega)
   refine W_q (r_index hA8 Tryz.underlying23 T.sz44 rfl rfl ⟨by omega, by omega⟩) rfl ?_
   refine W_q (r_field rfl T.fo44_0) rfl ?_
   obtain ⟨es9, f9, _, l9⟩ := Sl.get hb90 hA8 hz5
   obtain ⟨A9, c9, B9, d9, C9, e9, rfl, hp9, ho9, ht9, i9a, i9b⟩ := f9
   refine W_q (r_load_imm rfl T.ag39 (l9 0 _ rfl)) rfl ?_
   refine W_q (r_len Tryz.underlying39 rfl) rfl ?_
   refine W_q (r_bin rfl rfl (bin_lss _ _ _ _)) rfl ?_
   refine W_q (r_move rfl) rfl ?_
   refine WL_split (t := 41) rfl (fun h10 => ?_) (fun h10 => ?_)
   ·(try simp only [tA, tB, tC, tD, tE, tF, tG, tH, tI, tJ, tK, tL] at h10)
    refine WL_take rfl rfl ?_
    refine W_q (r_move rfl) rfl ?_
    refine WL_take rfl rfl ?_
    refine W_q (r_bin rfl rfl (bin_leq _ _ _ _)) rfl ?_
    refine W_q (r_pick_t rfl rfl) rfl ?_
    refine W_nil ?_
    refine NX_as (L' := [(1, _), (2, _), (3, _), (4, _), (5, _), (44, _)]) [1, 2, 3, 4, 5, 44] rfl ?_
    refine CW_condk rfl (fun h11 => ?_) (fun h11 => ?_)
    ·(try simp only [tA, tB, tC, tD, tE, tF, tG, tH, tI, tJ, tK, tL] at h11)
     refine C_skip ?_
     refine NX_as (L' := [(1, _), (2, _), (3, _), (4, _), (5, _)]) [1, 2, 3, 4, 5] rfl ?_
     refine CW_seq ?_
     refine CW_block ?_
     refine C_drawn [(0, true), (1, true), (2, true), (3, true), (4, true), (5, true), (6, true), (7, true), (8, true), (9, true), (10, true), (11, true), (12, true), (13, true), (14, true), (15, true), (16, true), (17, true), (18, true), (19, true), (20, true), (21, true), (22, true), (23, true), (24, true), (25, true), (26, true)] (by kernel_rfl) rfl (by kernel_rfl) (by kernel_rfl) ?_
     refine D_q rfl (r_move rfl) rfl ?_
     refine D_q rfl (r_bin rfl rfl (bin_add _ _ _ _)) rfl ?_
     refine D_q rfl (r_fieldb (o' := 2) rfl T.fo25_2 rfl) rfl ?_
     refine D_q rfl (r_loadb 0 rfl T.ag23 rfl rfl) rfl ?_
     refine D_q rfl (r_move rfl) rfl ?_
     obtain ⟨ad12, hA12⟩ := hb90.ad (j := k2) (by omega)
     refine D_q rfl (r_index hA12 Tryz.underlying23 T.sz44 rfl rfl ⟨by omega, by omega⟩) rfl ?_
     refine D_q rfl (r_field rfl T.fo44_0) rfl ?_
     obtain ⟨es13, f13, _, l13⟩ := Sl.get hb90 hA12 hz5
     obtain ⟨A13, c13, B13, d13, C13, e13, rfl, hp13, ho13, ht13, i13a, i13b⟩ := f13
     refine D_q rfl (r_load_imm rfl T.ag39 (l13 0 _ rfl)) rfl ?_
     refine D_q rfl (r_move rfl) rfl ?_
     obtain ⟨ad14, hA14⟩ := hp13.ad (j := k7) (by omega)
     obtain ⟨z14, hz14⟩ := hp13.getz (j := k7) (by omega)
     refine D_q rfl (r_index hA14 Tryz.underlying39 T.sz61 rfl rfl ⟨by omega, by omega⟩) rfl ?_
     refine D_q rfl (r_field rfl T.fo61_2) rfl ?_
     obtain ⟨es15, f15, _, l15⟩ := Sl.get hp13 hA14 hz14
     obtain ⟨A15, c15, B15, d15, rfl, h15, g15, i15a, i15b⟩ := f15
     refine D_q rfl (r_load_imm rfl T.ag22 (l15 2 _ rfl)) rfl ?_
     refine D_q rfl (r_len Tryz.underlying22 rfl) rfl ?_
     refine D_q rfl (r_bin rfl rfl (bin_add _ _ _ _)) rfl ?_
     refine D_q rfl (r_fieldb (o' := 2) rfl T.fo25_2 rfl) rfl ?_
     refine D_q rfl (r_loadb 0 rfl T.ag23 rfl rfl) rfl ?_
     refine D_q rfl (r_move rfl) rfl ?_
     obtain ⟨ad16, hA16⟩ := hb90.ad (j := k2) (by omega)
     refine D_q rfl (r_index hA16 Tryz.underlying23 T.sz44 rfl rfl ⟨by omega, by omega⟩) rfl ?_
     refine D_q rfl (r_field rfl T.fo44_0) rfl ?_
     obtain ⟨es17, f17, _, l17⟩ := Sl.get hb90 hA16 hz5
     obtain ⟨A17, c17, B17, d17, C17, e17, rfl, hp17, ho17, ht17, i17a, i17b⟩ := f17
     refine D_q rfl (r_load_imm rfl T.ag39 (l17 0 _ rfl)) rfl ?_
     refine D_q rfl (r_move rfl) rfl ?_
     obtain ⟨ad18, hA18⟩ := hp17.ad (j := k7) (by omega)
     obtain ⟨z18, hz18⟩ := hp17.getz (j := k7) (by omega)
     refine D_q rfl (r_index hA18 Tryz.underlying39 T.sz61 rfl rfl ⟨by omega, by omega⟩) rfl ?_
     refine D_q rfl (r_field rfl T.fo61_3) rfl ?_
     obtain ⟨es19, f19, _, l19⟩ := Sl.get hp17 hA18 hz18
     obtain ⟨A19, c19, B19, d19, rfl, h19, g19, i19a, i19b⟩ := f19
     refine D_q rfl (r_load_imm rfl T.ag22 (l19 3 _ rfl)) rfl ?_
     refine D_q rfl (r_len Tryz.underlying22 rfl) rfl ?_
     refine D_q rfl (r_bin rfl rfl (bin_add _ _ _ _)) rfl ?_
     refine D_q rfl (r_assign rfl) rfl ?_
     refine D_end ?_
     refine NX_block (NX_as (L' := [(1, _), (2, _), (3, _), (4, _), (5, _)]) [1, 2, 3, 4, 5] rfl ?_)
     refine CW_region ?_
     refine W_q (r_move rfl) rfl ?_
     refine W_q (r_add rfl rfl (by have := Sl.len (r := rPhi) (sz := 4) (xs := z5.phis) (by assumption); constructor <;> omega)) rfl ?_
     refine W_q (r_assign rfl) rfl ?_
     refine W_nil ?_
     refine NX_rnd [3, 5, 1, 2, 4] (by omega) (_) ?_ rfl (List.Sublist.refl _) rfl (Imm.le_refl _)
     trivial
    ·(try simp only [tA, tB, tC, tD, tE, tF, tG, tH, tI, tJ, tK, tL] at h11)
     refine C_exit (EX_then (EX_then (EX_hit (?_))))
     refine NX_as (L' := [(1, _), (2, _), (3, _), (4, _)]) [1, 2, 3, 4] rfl ?_
     refine CW_seq ?_
     refine CW_region ?_
     refine W_q (r_assign rfl) rfl ?_
     refine W_nil ?_
     refine NX_as (L' := [(1, _), (2, _), (3, _), (4, _), (6, _)]) [1, 2, 3, 4, 6] rfl ?_
     refine CW_block ?_
     refine C_loop (Int) (z5.ops.length) (fun k20 x20 => True) (fun k20 x20 => [(3, .int .i64 x20), (6, .int .i64 (k20 : Int))]) (fun _ _ => []) [3, 6] [1, 2, 4] (F := [(1, _), (2, _), (4, _)]) (_) trivial rfl rfl rfl (fun k20 x20 hk20 hJ20 => ?_)
     refine CW_as (L' := [(1, _), (2, _), (3, _), (4, _), (6, _)]) [1, 2, 3, 4, 6] rfl ?_
     refine CW_seq ?_
     refine CW_seq ?_
     refine CW_region ?_
     refine W_q (r_move rfl) rfl ?_
     refine W_q (r_fieldb (o' := 2) rfl T.fo25_2 rfl) rfl ?_
     refine W_q (r_loadb 0 rfl T.ag23 rfl rfl) rfl ?_
     refine W_q (r_move rfl) rfl ?_
     obtain ⟨ad21, hA21⟩ := hb90.ad (j := k2) (by omega)
     refine W_q (r_index hA21 Tryz.underlying23 T.sz44 rfl rfl ⟨by omega, by omega⟩) rfl ?_
     refine W_q (r_field rfl T.fo44_1) rfl ?_
     obtain ⟨es22, f22, _, l22⟩ := Sl.get hb90 hA21 hz5
     obtain ⟨A22, c22, B22, d22, C22, e22, rfl, hp22, ho22, ht22, i22a, i22b⟩ := f22
     refine W_q (r_load_imm rfl T.ag40 (l22 1 _ rfl)) rfl ?_
     refine W_q (r_len Tryz.underlying40 rfl) rfl ?_
     refine W_q (r_bin rfl rfl (bin_lss _ _ _ _)) rfl ?_
     refine W_q (r_move rfl) rfl ?_
     refine WL_split (t := 82) rfl (fun h23 => ?_) (fun h23 => ?_)
     ·(try simp only [tA, tB, tC, tD, tE, tF, tG, tH, tI, tJ, tK, tL] at h23)
      refine WL_take rfl rfl ?_
      refine W_q (r_move rfl) rfl ?_
      refine WL_take rfl rfl ?_
      refine W_q (r_bin rfl rfl (bin_leq _ _ _ _)) rfl ?_
      refine W_q (r_pick_t rfl rfl) rfl ?_
      refine W_nil ?_
      refine NX_as (L' := [(1, _), (2, _), (3, _), (4, _), (6, _), (85, _)]) [1, 2, 3, 4, 6, 85] rfl ?_
      refine CW_condk rfl (fun h24 => ?_) (fun h24 => ?_)
      ·(try simp only [tA, tB, tC, tD, tE, tF, tG, tH, tI, tJ, tK, tL] at h24)
       refine C_skip ?_
       refine NX_as (L' := [(1, _), (2, _), (3, _), (4, _), (6, _)]) [1, 2, 3, 4, 6] rfl ?_
       refine CW_seq ?_
       refine CW_block ?_
       refine CW_region ?_
       refine W_q (r_move rfl) rfl ?_
       refine W_q (r_bin rfl rfl (bin_add _ _ _ _)) rfl ?_
       refine W_q (r_fieldb (o' := 2) rfl T.fo25_2 rfl) rfl ?_
       refine W_q (r_loadb 0 rfl T.ag23 rfl rfl) rfl ?_
       refine W_q (r_move rfl) rfl ?_
       obtain ⟨ad25, hA25⟩ := hb90.ad (j := k2) (by omega)
       refine W_q (r_index hA25 Tryz.underlying23 T.sz44 rfl rfl ⟨by omega, by omega⟩) rfl ?_
       refine W_q (r_field rfl T.fo44_1) rfl ?_
       obtain ⟨es26, f26, _, l26⟩ := Sl.get hb90 hA25 hz5
       obtain ⟨A26, c26, B26, d26, C26, e26, rfl, hp26, ho26, ht26, i26a, i26b⟩ := f26
       refine W_q (r_load_imm rfl T.ag40 (l26 1 _ rfl)) rfl ?_
       refine W_q (r_move rfl) rfl ?_
       obtain ⟨ad27, hA27⟩ := ho26.ad (j := k20) (by omega)
       obtain ⟨z27, hz27⟩ := ho26.getz (j := k20) (by omega)
       refine W_q (r_index hA27 Tryz.underlying40 T.sz51 rfl rfl ⟨by omega, by omega⟩) rfl ?_
       refine W_q (r_field rfl T.fo51_4) rfl ?_
       obtain ⟨es28, f28, _, l28⟩ := Sl.get ho26 hA27 hz27
       obtain ⟨A28, c28, rfl, h28, i28a, i28b, i28c, i28d, i28e⟩ := f28
       refine W_q (r_load_imm rfl T.ag22 (l28 4 _ rfl)) rfl ?_
       refine W_q (r_len Tryz.underlying22 rfl) rfl ?_
       refine W_q (r_bin rfl rfl (bin_add _ _ _ _)) rfl ?_
       refine W_q (r_assign rfl) rfl ?_
       refine W_nil ?_
       refine NX_block (NX_as (L' := [(1, _), (2, _), (3, _), (4, _), (6, _)]) [1, 2, 3, 4, 6] rfl ?_)
       refine CW_region ?_
       refine W_q (r_move rfl) rfl ?_
       refine W_q (r_add rfl rfl (by have := Sl.len (r := rOp) (sz := 6) (xs := z5.ops) (by assumption); constructor <;> omega)) rfl ?_
       refine W_q (r_assign rfl) rfl ?_
       refine W_nil ?_
       refine NX_rnd [3, 6, 1, 2, 4] (by omega) (_) ?_ rfl (List.Sublist.refl _) rfl (Imm.le_refl _)
       trivial
      ·(try simp only [tA, tB, tC, tD, tE, tF, tG, tH, tI, tJ, tK, tL] at h24)
       refine C_exit (EX_then (EX_then (EX_hit (?_))))
       refine NX_block (NX_as (L' := [(1, _), (2, _), (3, _), (4, _)]) [1, 2, 3, 4] rfl ?_)
       refine CW_region ?_
       refine W_q (r_move rfl) rfl ?_
       refine W_q (r_add rfl rfl (by unfold I64 at *; omega)) rfl ?_
       refine W_q (r_assign rfl) rfl ?_
       refine W_nil ?_
       refine NX_rnd [3, 4, 1, 2] (by omega) (_) ?_ rfl (List.Sublist.refl _) rfl (Imm.le_refl _)
       trivial
     ·(try simp only [tA, tB, tC, tD, tE, tF, tG, tH, tI, tJ, tK, tL] at h23)
      refine WL_pass rfl rfl rfl rfl ?_
      refine WL_pass rfl rfl rfl rfl ?_
      refine W_q (r_pick_f rfl rfl) rfl ?_
      refine W_nil ?_
      refine NX_as (L' := [(1, _), (2, _), (3, _), (4, _), (6, _), (85, _)]) [1, 2, 3, 4, 6, 85] rfl ?_
      refine CW_cond_f rfl ?_
      refine C_exit (EX_then (EX_then (EX_hit (?_))))
      refine NX_block (NX_as (L' := [(1, _), (2, _), (3, _), (4, _)]) [1, 2, 3, 4] rfl ?_)
      refine CW_region ?_
      refine W_q (r_move rfl) rfl ?_
      refine W_q (r_add rfl rfl (by unfold I64 at *; omega)) rfl ?_
      refine W_q (r_assign rfl) rfl ?_
      refine W_nil ?_
      refine NX_rnd [3, 4, 1, 2] (by omega) (_) ?_ rfl (List.Sublist.refl _) rfl (Imm.le_refl _)
      trivial
   ·(try simp only [tA, tB, tC, tD, tE, tF, tG, tH, tI, tJ, tK, tL] at h10)
    refine WL_pass rfl rfl rfl rfl ?_
    refine WL_pass rfl rfl rfl rfl ?_
    refine W_q (r_pick_f rfl rfl) rfl ?_
    refine W_nil ?_
    refine NX_as (L' := [(1, _), (2, _), (3, _), (4, _), (5, _), (44, _)]) [1, 2, 3, 4, 5, 44] rfl ?_
    refine CW_cond_f rfl ?_
    refine C_exit (EX_then (EX_then (EX_hit (?_))))
    refine NX_as (L' := [(1, _), (2, _), (3, _), (4, _)]) [1, 2, 3, 4] rfl ?_
    refine CW_seq ?_
    refine CW_region ?_
    refine W_q (r_assign rfl) rfl ?_
    refine W_nil ?_
    refine NX_as (L' := [(1, _), (2, _), (3, _), (4, _), (6, _)]) [1, 2, 3, 4, 6] rfl ?_
    refine CW_block ?_
    refine C_loop (Int) (z5.ops.length) (fun k29 x29 => True) (fun k29 x29 => [(3, .int .i64 x29), (6, .int .i64 (k29 : Int))]) (fun _ _ => []) [3, 6] [1, 2, 4] (F := [(1, _), (2, _), (4, _)]) (_) trivial rfl rfl rfl (fun k29 x29 hk29 hJ29 => ?_)
    refine CW_as (L' := [(1, _), (2, _), (3, _), (4, _), (6, _)]) [1, 2, 3, 4, 6] rfl ?_
    refine CW_seq ?_
    refine CW_seq ?_
    refine CW_region ?_
    refine W_q (r_move rfl) rfl ?_
    refine W_q (r_fieldb (o' := 2) rfl T.fo25_2 rfl) rfl ?_
    refine W_q (r_loadb 0 rfl T.ag23 rfl rfl) rfl ?_
    refine W_q (r_move rfl) rfl ?_
    obtain ⟨ad30, hA30⟩ := hb90.ad (j := k2) (by omega)
    refine W_q (r_index hA30 Tryz.underlying23 T.sz44 rfl rfl ⟨by omega, by omega⟩) rfl ?_
    refine W_q (r_field rfl T.fo44_1) rfl ?_
    obtain ⟨es31, f31, _, l31⟩ := Sl.get hb90 hA30 hz5
    obtain ⟨A31, c31, B31, d31, C31, e31, rfl, hp31, ho31, ht31, i31a, i31b⟩ := f31
    refine W_q (r_load_imm rfl T.ag40 (l31 1 _ rfl)) rfl ?_
    refine W_q (r_len Tryz.underlying40 rfl) rfl ?_
    refine W_q (r_bin rfl rfl (bin_lss _ _ _ _)) rfl ?_
    refine W_q (r_move rfl) rfl ?_
    refine WL_split (t := 82) rfl (fun h32 => ?_) (fun h32 => ?_)
    ·(try simp only [tA, tB, tC, tD, tE, tF, tG, tH, tI, tJ, tK, tL] at h32)
     refine WL_take rfl rfl ?_
     refine W_q (r_move rfl) rfl ?_
     refine WL_take rfl rfl ?_
     refine W_q (r_bin rfl rfl (bin_leq _ _ _ _)) rfl ?_
     refine W_q (r_pick_t rfl rfl) rfl ?_
     refine W_nil ?_
     refine NX_as (L' := [(1, _), (2, _), (3, _), (4, _), (6, _), (85, _)]) [1, 2, 3, 4, 6, 85] rfl ?_
     refine CW_condk rfl (fun h33 => ?_) (fun h33 => ?_)
     ·(try simp only [tA, tB, tC, tD, tE, tF, tG, tH, tI, tJ, tK, tL] at h33)
      refine C_skip ?_
      refine NX_as (L' := [(1, _), (2, _), (3, _), (4, _), (6, _)]) [1, 2, 3, 4, 6] rfl ?_
      refine CW_seq ?_
      refine CW_block ?_
      refine CW_region ?_
      refine W_q (r_move rfl) rfl ?_
      refine W_q (r_bin rfl rfl (bin_add _ _ _ _)) rfl ?_
      refine W_q (r_fieldb (o' := 2) rfl T.fo25_2 rfl) rfl ?_
      refine W_q (r_loadb 0 rfl T.ag23 rfl rfl) rfl ?_
      refine W_q (r_move rfl) rfl ?_
      obtain ⟨ad34, hA34⟩ := hb90.ad (j := k2) (by omega)
      refine W_q (r_index hA34 Tryz.underlying23 T.sz44 rfl rfl ⟨by omega, by omega⟩) rfl ?_
      refine W_q (r_field rfl T.fo44_1) rfl ?_
      obtain ⟨es35, f35, _, l35⟩ := Sl.get hb90 hA34 hz5
      obtain ⟨A35, c35, B35, d35, C35, e35, rfl, hp35, ho35, ht35, i35a, i35b⟩ := f35
      refine W_q (r_load_imm rfl T.ag40 (l35 1 _ rfl)) rfl ?_
      refine W_q (r_move rfl) rfl ?_
      obtain ⟨ad36, hA36⟩ := ho35.ad (j := k29) (by omega)
      obtain ⟨z36, hz36⟩ := ho35.getz (j := k29) (by omega)
      refine W_q (r_index hA36 Tryz.underlying40 T.sz51 rfl rfl ⟨by omega, by omega⟩) rfl ?_
      refine W_q (r_field rfl T.fo51_4) rfl ?_
      obtain ⟨es37, f37, _, l37⟩ := Sl.get ho35 hA36 hz36
      obtain ⟨A37, c37, rfl, h37, i37a, i37b, i37c, i37d, i37e⟩ := f37
      refine W_q (r_load_imm rfl T.ag22 (l37 4 _ rfl)) rfl ?_
      refine W_q (r_len Tryz.underlying22 rfl) rfl ?_
      refine W_q (r_bin rfl rfl (bin_add _ _ _ _)) rfl ?_
      refine W_q (r_assign rfl) rfl ?_
      refine W_nil ?_
      refine NX_block (NX_as (L' := [(1, _), (2, _), (3, _), (4, _), (6, _)]) [1, 2, 3, 4, 6] rfl ?_)
      refine CW_region ?_
      refine W_q (r_move rfl) rfl ?_
      refine W_q (r_add rfl rfl (by have := Sl.len (r := rOp) (sz := 6) (xs := z5.ops) (by assumption); constructor <;> omega)) rfl ?_
      refine W_q (r_assign rfl) rfl ?_
      refine W_nil ?_
      refine NX_rnd [3, 6, 1, 2, 4] (by omega) (_) ?_ rfl (List.Sublist.refl _) rfl (Imm.le_refl _)
      trivial
     ·(try simp only [tA, tB, tC, tD, tE, tF, tG, tH, tI, tJ, tK, tL] at h33)
      refine C_exit (EX_then (EX_then (EX_hit (?_))))
      refine NX_block (NX_as (L' := [(1, _), (2, _), (3, _), (4, _)]) [1, 2, 3, 4] rfl ?_)
      refine CW_region ?_
      refine W_q (r_move rfl) rfl ?_
      refine W_q (r_add rfl rfl (by unfold I64 at *; omega)) rfl ?_
      refine W_q (r_assign rfl) rfl ?_
      refine W_nil ?_
      refine NX_rnd [3, 4, 1, 2] (by omega) (_) ?_ rfl (List.Sublist.refl _) rfl (Imm.le_refl _)
      trivial
    ·(try simp only [tA, tB, tC, tD, tE, tF, tG, tH, tI, tJ, tK, tL] at h32)
     refine WL_pass rfl rfl rfl rfl ?_
     refine WL_pass rfl rfl rfl rfl ?_
     refine W_q (r_pick_f rfl rfl) rfl ?_
     refine W_nil ?_
     refine NX_as (L' := [(1, _), (2, _), (3, _), (4, _), (6, _), (85, _)]) [1, 2, 3, 4, 6, 85] rfl ?_
     refine CW_cond_f rfl ?_
     refine C_exit (EX_then (EX_then (EX_hit (?_))))
     refine NX_block (NX_as (L' := [(1, _), (2, _), (3, _), (4, _)]) [1, 2, 3, 4] rfl ?_)
     refine CW_region ?_
     refine W_q (r_move rfl) rfl ?_
     refine W_q (r_add rfl rfl (by unfold I64 at *; omega)) rfl ?_
     refine W_q (r_assign rfl) rfl ?_
     refine W_nil ?_
     refine NX_rnd [3, 4, 1, 2] (by omega) (_) ?_ rfl (List.Sublist.refl _) rfl (Imm.le_refl _)
     trivial
  ·(try simp only [tA, tB, tC, tD, tE, tF, tG, tH, tI, tJ, tK, tL] at h4)
   refine C_exit (EX_then (EX_then (EX_hit (?_))))
   refine NX_as (L' := [(2, _), (3, _)]) [2, 3] rfl ?_
   refine CW_seq ?_
   refine CW_region ?_
   refine W_q (r_move rfl) rfl ?_
   refine W_q (r_bin rfl rfl (bin_leq _ _ _ _)) rfl ?_
   refine W_q (r_assign rfl) rfl ?_
   refine W_nil ?_
   refine NX_as (L' := [(2, _)]) [2] rfl ?_
   exact C_ret (RX_g1 rfl rfl ⟨_, rfl⟩)
 ·(try simp only [tA, tB, tC, tD, tE, tF, tG, tH, tI, tJ, tK, tL] at h3)
  refine WL_pass rfl rfl rfl rfl ?_
  refine WL_pass rfl rfl rfl rfl ?_
  refine W_q (r_pick_f rfl rfl) rfl ?_
  refine W_nil ?_
  refine NX_as (L' := [(1, _), (2, _), (3, _), (4, _), (18, _)]) [1, 2, 3, 4, 18] rfl ?_
  refine CW_cond_f rfl ?_
  refine C_exit (EX_then (EX_then (EX_hit (?_))))
  refine NX_as (L' := [(2, _), (3, _)]) [2, 3] rfl ?_
  refine CW_seq ?_
  refine CW_region ?_
  refine W_q (r_move rfl) rfl ?_
  refine W_q (r_bin rfl rfl (bin_leq _ _ _ _)) rfl ?_
  refine W_q (r_assign rfl) rfl ?_
  refine W_nil ?_
  refine NX_as (L' := [(2, _)]) [2] rfl ?_
  exact C_ret (RX_g1 rfl rfl ⟨_, rfl⟩)

set_option maxHeartbeats 20000000 in
/-- lockstepref11.Small -/
theorem Small11_g {m : Imm} {es : List Value} {f : FFun} (hF : rFunc m es f) : Gives Tryz.prog 15 [.agg es.toArray] m (fun _ v => ∃ q, v = .bool q) := by
 have hF_0 := hF
 obtain ⟨A90, c90, B90, d90, rfl, hq90, hb90, i90a⟩ := hF_0
 have hbl := hb90.len
 refine gives_of Tryz.func15 rfl Tryz.ntmps15 rfl (fun w => ?_)
 refine CW_seq ?_
 refine CW_region ?_
 refine S_box (l := [_, _, _]) rfl rfl rfl (fun b1 => ?_)
 refine W_q (r_assign rfl) rfl ?_
 refine W_nil ?_
 refine NX_as (L' := [(1, _), (2, _)]) [1, 2] rfl ?_
 refine CW_seq ?_
 refine CW_region ?_
 refine W_q (r_assign rfl) rfl ?_
 refine W_nil ?_
 refine NX_as (L' := [(1, _), (2, _), (3, _)]) [1, 2, 3] rfl ?_
 refine CW_seq ?_
 refine CW_seq ?_
 refine CW_region ?_
 refine W_q (r_assign rfl) rfl ?_
 refine W_nil ?_
 refine NX_as (L' := [(1, _), (2, _), (3, _), (4, _)]) [1, 2, 3, 4] rfl ?_
 refine CW_block ?_
 refine C_loop (Int) (f.blocks.length) (fun k2 x2 => True) (fun k2 x2 => [(3, .int .i64 x2), (4, .int .i64 (k2 : Int))]) (fun _ _ => []) [3, 4] [1, 2] (F := [(1, _), (2, _)]) (_) trivial rfl rfl rfl (fun k2 x2 hk2 hJ2 => ?_)
 refine CW_as (L' := [(1, _), (2, _), (3, _), (4, _)]) [1, 2, 3, 4] rfl ?_
 refine CW_seq ?_
 refine CW_seq ?_
 refine CW_region ?_
 refine W_q (r_move rfl) rfl ?_
 refine W_q (r_fieldb (o' := 2) rfl T.fo25_2 rfl) rfl ?_
 refine W_q (r_loadb 0 rfl T.ag23 rfl rfl) rfl ?_
 refine W_q (r_len Tryz.underlying23 rfl) rfl ?_
 refine W_q (r_bin rfl rfl (bin_lss _ _ _ _)) rfl ?_
 refine W_nil ?_
 refine NX_as (L' := [(1, _), (2, _), (3, _), (4, _), (9, _)]) [1, 2, 3, 4, 9] rfl ?_
 refine CW_condk rfl (fun h3 => ?_) (fun h3 => ?_)
 ·(try simp only [tA, tB, tC, tD, tE, tF, tG, tH, tI, tJ, tK, tL] at h3)
  refine C_skip ?_
  refine NX_as (L' := [(1, _), (2, _), (3, _), (4, _)]) [1, 2, 3, 4] rfl ?_
  refine CW_seq ?_
  refine CW_block ?_
  refine C_drawn [(0, true), (1, true), (2, true), (3, true), (4, true), (5, true), (6, true), (7, true), (8, true), (9, true), (10, true), (11, true), (12, true), (13, true), (14, true), (15, true), (16, true), (17, true), (18, true)] (by kernel_rfl) rfl (by kernel_rfl) (by kernel_rfl) ?_
  refine D_q rfl (r_move rfl) rfl ?_
  refine D_q rfl (r_bin rfl rfl (bin_add _ _ _ _)) rfl ?_
  refine D_q rfl (r_fieldb (o' := 2) rfl T.fo25_2 rfl) rfl ?_
  refine D_q rfl (r_loadb 0 rfl T.ag23 rfl rfl) rfl ?_
  refine D_q rfl (r_move rfl) rfl ?_
  obtain ⟨ad4, hA4⟩ := hb90.ad (j := k2) (by omega)
  obtain ⟨z4, hz4⟩ := hb90.getz (j := k2) (by omega)
  refine D_q rfl (r_index hA4 Tryz.underlying23 T.sz44 rfl rfl ⟨by omega, by omega⟩) rfl ?_
  refine D_q rfl (r_field rfl T.fo44_1) rfl ?_
  obtain ⟨es5, f5, _, l5⟩ := Sl.get hb90 hA4 hz4
  obtain ⟨A5, c5, B5, d5, C5, e5, rfl, hp5, ho5, ht5, i5a, i5b⟩ := f5
  refine D_q rfl (r_load_imm rfl T.ag40 (l5 1 _ rfl)) rfl ?_
  refine D_q rfl (r_len Tryz.underlying40 rfl) rfl ?_
  refine D_q rfl (r_bin rfl rfl (bin_add _ _ _ _)) rfl ?_
  refine D_q rfl (r_fieldb (o' := 2) rfl T.fo25_2 rfl) rfl ?_
  refine D_q rfl (r_loadb 0 rfl T.ag23 rfl rfl) rfl ?_
  refine D_q rfl (r_move rfl) rfl ?_
  obtain ⟨ad6, hA6⟩ := hb90.ad (j := k2) (by omega)
  refine D_q rfl (r_index hA6 Tryz.underlying23 T.sz44 rfl rfl ⟨by omega, by omega⟩) rfl ?_
  refine D_q rfl (r_field rfl T.fo44_0) rfl ?_
  obtain ⟨es7, f7, _, l7⟩ := Sl.get hb90 hA6 hz4
  obtain ⟨A7, c7, B7, d7, C7, e7, rfl, hp7, ho7, ht7, i7a, i7b⟩ := f7
  refine D_q rfl (r_load_imm rfl T.ag39 (l7 0 _ rfl)) rfl ?_
  refine D_q rfl (r_len Tryz.underlying39 rfl) rfl ?_
  refine D_q rfl (r_bin rfl rfl (bin_add _ _ _ _)) rfl ?_
  refine D_q rfl (r_assign rfl) rfl ?_
  refine D_end ?_
  refine NX_block (NX_as (L' := [(1, _), (2, _), (3, _), (4, _)]) [1, 2, 3, 4] rfl ?_)
  refine CW_region ?_
  refine W_q (r_move rfl) rfl ?_
  refine W_q (r_add rfl rfl (by unfold I64 at *; omega)) rfl ?_
  refine W_q (r_assign rfl) rfl ?_
  refine W_nil ?_
  refine NX_rnd [3, 4, 1, 2] (by omega) (_) ?_ rfl (List.Sublist.refl _) rfl (Imm.le_refl _)
  trivial
 ·(try simp only [tA, tB, tC, tD, tE, tF, tG, tH, tI, tJ, tK, tL] at h3)
  refine C_exit (EX_then (EX_then (EX_hit (?_))))
  refine NX_as (L' := [(1, _), (2, _), (3, _)]) [1, 2, 3] rfl ?_
  refine CW_seq ?_
  refine CW_region ?_
  refine W_q (r_loadbk 0 (vs := [_, _, _]) rfl T.ag25 T.sz25 rfl rfl rfl) rfl ?_
  refine S_gives (Small4_g hF) T.hb46 rfl rfl (fun m8 v8 le8 hv8 => ?_)
  replace hF := rFunc_mono _ _ _ _ le8 hF
  replace hq90 := hq90.mono rI_mono le8
  replace hb90 := hb90.mono rBlock_mono le8
  obtain ⟨qs8, rfl⟩ := hv8
  refine W_q (r_move rfl) rfl ?_
  refine WL_split (t := 32) rfl (fun h9 => ?_) (fun h9 => ?_)
  ·(try simp only [tA, tB, tC, tD, tE, tF, tG, tH, tI, tJ, tK, tL] at h9)
   refine WL_take rfl rfl ?_
   refine W_q (r_fieldb (o' := 2) rfl T.fo25_2 rfl) rfl ?_
   refine WL_take rfl rfl ?_
   refine W_q (r_loadb 0 rfl T.ag23 rfl rfl) rfl ?_
   refine WL_take rfl rfl ?_
   refine W_q (r_len Tryz.underlying23 rfl) rfl ?_
   refine WL_take rfl rfl ?_
   refine W_q (r_bin rfl rfl (bin_leq _ _ _ _)) rfl ?_
   refine WL_take rfl rfl ?_
   refine W_q (r_move rfl) rfl ?_
   refine WL_split (t := 37) rfl (fun h10 => ?_) (fun h10 => ?_)
   ·(try simp only [tA, tB, tC, tD, tE, tF, tG, tH, tI, tJ, tK, tL] at h10)
    refine WL_take rfl rfl ?_
    refine W_q (r_move rfl) rfl ?_
    refine WL_take rfl rfl ?_
    refine W_q (r_bin rfl rfl (bin_leq _ _ _ _)) rfl ?_
    refine WL_take rfl rfl ?_
    refine W_q (r_pick_t rfl rfl) rfl ?_
    refine WL_take rfl rfl ?_
    refine W_q (r_move rfl) rfl ?_
    refine WL_split (t := 41) rfl (fun h11 => ?_) (fun h11 => ?_)
    ·(try simp only [tA, tB, tC, tD, tE, tF, tG, tH, tI, tJ, tK, tL] at h11)
     refine WL_pass rfl rfl rfl rfl ?_
     refine WL_pass rfl rfl rfl rfl ?_
     refine WL_pass rfl rfl rfl rfl ?_
     refine WL_pass rfl rfl rfl rfl ?_
     refine WL_take rfl rfl ?_
     refine W_q (r_pick_t rfl rfl) rfl ?_
     refine WL_take rfl rfl ?_
     refine W_q (r_move rfl) rfl ?_
     refine WL_pass rfl rfl rfl rfl ?_
     refine WL_pass rfl rfl rfl rfl ?_
     refine WL_take rfl rfl ?_
     refine W_q (r_pick_t rfl rfl) rfl ?_
     refine W_q (r_pick_t rfl rfl) rfl ?_
     refine W_q (r_assign rfl) rfl ?_
     refine W_nil ?_
     refine NX_as (L' := [(2, _)]) [2] rfl ?_
     exact C_ret (RX_g1 rfl rfl ⟨_, rfl⟩)
    ·(try simp only [tA, tB, tC, tD, tE, tF, tG, tH, tI, tJ, tK, tL] at h11)
     refine WL_take rfl rfl ?_
     refine W_q (r_fieldb (o' := 2) rfl T.fo25_2 rfl) rfl ?_
     refine WL_take rfl rfl ?_
     refine W_q (r_loadb 0 rfl T.ag23 rfl rfl) rfl ?_
     refine WL_take rfl rfl ?_
     refine W_q (r_len Tryz.underlying23 rfl) rfl ?_
     refine WL_take rfl rfl ?_
     refine W_q (r_bin rfl rfl (bin_gtr _ _ _ _)) rfl ?_
     refine WL_take rfl rfl ?_
     refine W_q (r_pick_f rfl rfl) rfl ?_
     refine WL_take rfl rfl ?_
     refine W_q (r_move rfl) rfl ?_
     refine WL_split (t := 47) rfl (fun h12 => ?_) (fun h12 => ?_)
     ·(try simp only [tA, tB, tC, tD, tE, tF, tG, tH, tI, tJ, tK, tL] at h12)
      refine WL_pass rfl rfl rfl rfl ?_
      refine WL_pass rfl rfl rfl rfl ?_
      refine WL_take rfl rfl ?_
      refine W_q (r_pick_t rfl rfl) rfl ?_
      refine W_q (r_pick_t rfl rfl) rfl ?_
      refine W_q (r_assign rfl) rfl ?_
      refine W_nil ?_
      refine NX_as (L' := [(2, _)]) [2] rfl ?_
      exact C_ret (RX_g1 rfl rfl ⟨_, rfl⟩)
     ·(try simp only [tA, tB, tC, tD, tE, tF, tG, tH, tI, tJ, tK, tL] at h12)
      refine WL_take rfl rfl ?_
      refine W_q (r_move rfl) rfl ?_
      refine WL_take rfl rfl ?_
      refine W_q (r_bin rfl rfl (bin_gtr _ _ _ _)) rfl ?_
      refine WL_take rfl rfl ?_
      refine W_q (r_pick_f rfl rfl) rfl ?_
      refine W_q (r_pick_t rfl rfl) rfl ?_
      refine W_q (r_assign rfl) rfl ?_
      refine W_nil ?_
      refine NX_as (L' := [(2, _)]) [2] rfl ?_
      exact C_ret (RX_g1 rfl rfl ⟨_, rfl⟩)
   ·(try simp only [tA, tB, tC, tD, tE, tF, tG, tH, tI, tJ, tK, tL] at h10)
    refine WL_pass rfl rfl rfl rfl ?_
    refine WL_pass rfl rfl rfl rfl ?_
    refine WL_take rfl rfl ?_
    refine W_q (r_pick_f rfl rfl) rfl ?_
    refine WL_take rfl rfl ?_
    refine W_q (r_move rfl) rfl ?_
    refine WL_take rfl rfl ?_
    refine W_q (r_fieldb (o' := 2) rfl T.fo25_2 rfl) rfl ?_
    refine WL_take rfl rfl ?_
    refine W_q (r_loadb 0 rfl T.ag23 rfl rfl) rfl ?_
    refine WL_take rfl rfl ?_
    refine W_q (r_len Tryz.underlying23 rfl) rfl ?_
    refine WL_take rfl rfl ?_
    refine W_q (r_bin rfl rfl (bin_gtr _ _ _ _)) rfl ?_
    refine WL_take rfl rfl ?_
    refine W_q (r_pick_f rfl rfl) rfl ?_
    refine WL_take rfl rfl ?_
    refine W_q (r_move rfl) rfl ?_
    refine WL_split (t := 47) rfl (fun h13 => ?_) (fun h13 => ?_)
    ·(try simp only [tA, tB, tC, tD, tE, tF, tG, tH, tI, tJ, tK, tL] at h13)
     refine WL_pass rfl rfl rfl rfl ?_
     refine WL_pass rfl rfl rfl rfl ?_
     refine WL_take rfl rfl ?_
     refine W_q (r_pick_t rfl rfl) rfl ?_
     refine W_q (r_pick_t rfl rfl) rfl ?_
     refine W_q (r_assign rfl) rfl ?_
     refine W_nil ?_
     refine NX_as (L' := [(2, _)]) [2] rfl ?_
     exact C_ret (RX_g1 rfl rfl ⟨_, rfl⟩)
    ·(try simp only [tA, tB, tC, tD, tE, tF, tG, tH, tI, tJ, tK, tL] at h13)
     refine WL_take rfl rfl ?_
     refine W_q (r_move rfl) rfl ?_
     refine WL_take rfl rfl ?_
     refine W_q (r_bin rfl rfl (bin_gtr _ _ _ _)) rfl ?_
     refine WL_take rfl rfl ?_
     refine W_q (r_pick_f rfl rfl) rfl ?_
     refine W_q (r_pick_t rfl rfl) rfl ?_
     refine W_q (r_assign rfl) rfl ?_
     refine W_nil ?_
     refine NX_as (L' := [(2, _)]) [2] rfl ?_
     exact C_ret (RX_g1 rfl rfl ⟨_, rfl⟩)
  ·(try simp only [tA, tB, tC, tD, tE, tF, tG, tH, tI, tJ, tK, tL] at h9)
   refine WL_pass rfl rfl rfl rfl ?_
   refine WL_pass rfl rfl rfl rfl ?_
   refine WL_pass rfl rfl rfl rfl ?_
   refine WL_pass rfl rfl rfl rfl ?_
   refine WL_pass rfl rfl rfl rfl ?_
   refine WL_passu rfl rfl rfl ?_
   refine WL_passu rfl rfl rfl ?_
   refine WL_pass rfl rfl rfl rfl ?_
   refine WL_pass rfl rfl rfl rfl ?_
   refine WL_passu rfl rfl rfl ?_
   refine WL_passu rfl rfl rfl ?_
   refine WL_passu rfl rfl rfl ?_
   refine WL_passu rfl rfl rfl ?_
   refine WL_pass rfl rfl rfl rfl ?_
   refine WL_pass rfl rfl rfl rfl ?_
   refine WL_passu rfl rfl rfl ?_
   refine WL_passu rfl rfl rfl ?_
   refine WL_pass rfl rfl rfl rfl ?_
   refine W_q (r_pick_f rfl rfl) rfl ?_
   refine W_q (r_assign rfl) rfl ?_
   refine W_nil ?_
   refine NX_as (L' := [(2, _)]) [2] rfl ?_
   exact C_ret (RX_g1 rfl rfl ⟨_, rfl⟩)

set_option maxHeartbeats 10000000 in
/-- lockstepref03.Same -/
theorem SameO_q {m : Imm} {es es2 : List Value} {o : FOp} (hO : rOp m es o) (hO2 : rOp m es2 o) : Quiet Tryz.prog 48 [.agg es.toArray, .agg es2.toArray] m (.bool true) := by
 have hO_0 := hO
 obtain ⟨A90, c90, rfl, h90, i90a, i90b, i90c, i90d, i90e⟩ := hO_0
 have hO2_0 := hO2
 obtain ⟨A91, c91, rfl, h91, i91a, i91b, i91c, i91d, i91e⟩ := hO2_0
 refine quiet_of Tryz.func48 rfl Tryz.ntmps48 rfl (fun w => ?_)
 refine CW_seq ?_
 refine CW_region ?_
 refine S_box (l := [_, _, _, _, _, _]) rfl rfl rfl (fun b1 => ?_)
 refine S_box (l := [_, _, _, _, _, _]) rfl rfl rfl (fun b2 => ?_)
 refine W_q (r_assign rfl) rfl ?_
 refine W_nil ?_
 refine NX_as (L' := [(2, _), (3, _), (4, _)]) [2, 3, 4] rfl ?_
 refine CW_seq ?_
 refine CW_region ?_
 refine W_q (r_fieldb (o' := 0) rfl T.fo51_0 rfl) rfl ?_
 refine W_q (r_loadb 1 rfl T.ag3 rfl rfl) rfl ?_
 refine W_q (r_fieldb (o' := 0) rfl T.fo51_0 rfl) rfl ?_
 refine W_q (r_loadb 0 rfl T.ag3 rfl rfl) rfl ?_
 refine W_q (r_eqt rfl rfl (rfl)) rfl ?_
 refine W_q (r_move rfl) rfl ?_
 refine WL_take rfl rfl ?_
 refine W_q (r_fieldb (o' := 1) rfl T.fo51_1 rfl) rfl ?_
 refine WL_take rfl rfl ?_
 refine W_q (r_loadb 1 rfl T.ag3 rfl rfl) rfl ?_
 refine WL_take rfl rfl ?_
 refine W_q (r_fieldb (o' := 1) rfl T.fo51_1 rfl) rfl ?_
 refine WL_take rfl rfl ?_
 refine W_q (r_loadb 0 rfl T.ag3 rfl rfl) rfl ?_
 refine WL_take rfl rfl ?_
 refine W_q (r_eqt rfl rfl (rfl)) rfl ?_
 refine W_q (r_pick_t rfl rfl) rfl ?_
 refine W_q (r_move rfl) rfl ?_
 refine WL_take rfl rfl ?_
 refine W_q (r_fieldb (o' := 2) rfl T.fo51_2 rfl) rfl ?_
 refine WL_take rfl rfl ?_
 refine W_q (r_loadb 1 rfl T.ag3 rfl rfl) rfl ?_
 refine WL_take rfl rfl ?_
 refine W_q (r_fieldb (o' := 2) rfl T.fo51_2 rfl) rfl ?_
 refine WL_take rfl rfl ?_
 refine W_q (r_loadb 0 rfl T.ag3 rfl rfl) rfl ?_
 refine WL_take rfl rfl ?_
 refine W_q (r_eqt rfl rfl (rfl)) rfl ?_
 refine W_q (r_pick_t rfl rfl) rfl ?_
 refine W_q (r_move rfl) rfl ?_
 refine WL_take rfl rfl ?_
 refine W_q (r_fieldb (o' := 3) rfl T.fo51_3 rfl) rfl ?_
 refine WL_take rfl rfl ?_
 refine W_q (r_loadb 1 rfl T.ag3 rfl rfl) rfl ?_
 refine WL_take rfl rfl ?_
 refine W_q (r_fieldb (o' := 3) rfl T.fo51_3 rfl) rfl ?_
 refine WL_take rfl rfl ?_
 refine W_q (r_loadb 0 rfl T.ag3 rfl rfl) rfl ?_
 refine WL_take rfl rfl ?_
 refine W_q (r_eqt rfl rfl (rfl)) rfl ?_
 refine W_q (r_pick_t rfl rfl) rfl ?_
 refine W_q (r_move rfl) rfl ?_
 refine WL_take rfl rfl ?_
 refine W_q (r_fieldb (o' := 5) rfl T.fo51_5 rfl) rfl ?_
 refine WL_take rfl rfl ?_
 refine W_q (r_loadb 1 rfl T.ag49 rfl rfl) rfl ?_
 refine WL_take rfl rfl ?_
 refine W_q (r_fieldb (o' := 5) rfl T.fo51_5 rfl) rfl ?_
 refine WL_take rfl rfl ?_
 refine W_q (r_loadb 0 rfl T.ag49 rfl rfl) rfl ?_
 refine WL_take rfl rfl ?_
 refine W_q (r_eqt rfl rfl (rfl)) rfl ?_
 refine W_q (r_pick_t rfl rfl) rfl ?_
 refine W_q (r_move rfl) rfl ?_
 refine WL_take rfl rfl ?_
 refine W_q (r_fieldb (o' := 4) rfl T.fo51_4 rfl) rfl ?_
 refine WL_take rfl rfl ?_
 refine W_q (r_loadb 1 rfl T.ag22 rfl rfl) rfl ?_
 refine WL_take rfl rfl ?_
 refine W_q (r_fieldb (o' := 4) rfl T.fo51_4 rfl) rfl ?_
 refine WL_take rfl rfl ?_
 refine W_q (r_loadb 0 rfl T.ag22 rfl rfl) rfl ?_
 refine WL_take rfl rfl ?_
 refine W_quiet (known_q (Ints_q h90 h91) (beq_self_eq_true _)) T.hb21 rfl rfl ?_
 refine W_q (r_pick_t rfl rfl) rfl ?_
 refine W_q (r_assign rfl) rfl ?_
 refine W_nil ?_
 refine NX_as (L' := [(4, _)]) [4] rfl ?_
 refine C_ret (RX_q1 rfl rfl ?_)
 rfl

set_option maxHeartbeats 40000000 in
/-- lockstepref04.Same -/
theorem Same_q {m : Imm} {es es2 : List Value} {f : FFun} (hF : rFunc m es f) (hF2 : rFunc m es2 f) : Quiet Tryz.prog 18 [.agg es.toArray, .agg es2.toArray] m (.bool true) := by
 have hF_0 := hF
 obtain ⟨A90, c90, B90, d90, rfl, hq90, hb90, i90a⟩ := hF_0
 have hF2_0 := hF2
 obtain ⟨A91, c91, B91, d91, rfl, hq91, hb91, i91a⟩ := hF2_0
 have hbl := hb90.len
 refine quiet_of Tryz.func18 rfl Tryz.ntmps18 rfl (fun w => ?_)
 refine CW_seq ?_
 refine CW_region ?_
 refine S_box (l := [_, _, _]) rfl rfl rfl (fun b1 => ?_)
 refine S_box (l := [_, _, _]) rfl rfl rfl (fun b2 => ?_)
 refine W_q (r_assign rfl) rfl ?_
 refine W_nil ?_
 refine NX_as (L' := [(2, _), (3, _), (4, _)]) [2, 3, 4] rfl ?_
 refine CW_seq ?_
 refine CW_seq ?_
 refine CW_region ?_
 refine W_q (r_fieldb (o' := 1) rfl T.fo25_1 rfl) rfl ?_
 refine W_q (r_loadb 1 rfl T.ag3 rfl rfl) rfl ?_
 refine W_q (r_fieldb (o' := 1) rfl T.fo25_1 rfl) rfl ?_
 refine W_q (r_loadb 0 rfl T.ag3 rfl rfl) rfl ?_
 refine W_q (r_nef rfl rfl (rfl)) rfl ?_
 refine W_q (r_move rfl) rfl ?_
 refine WL_take rfl rfl ?_
 refine W_q (r_fieldb (o' := 0) rfl T.fo25_0 rfl) rfl ?_
 refine WL_take rfl rfl ?_
 refine W_q (r_loadb 1 rfl T.ag22 rfl rfl) rfl ?_
 refine WL_take rfl rfl ?_
 refine W_q (r_fieldb (o' := 0) rfl T.fo25_0 rfl) rfl ?_
 refine WL_take rfl rfl ?_
 refine W_q (r_loadb 0 rfl T.ag22 rfl rfl) rfl ?_
 refine WL_take rfl rfl ?_
 refine W_quiet (known_q (Ints_q hq90 hq91) (beq_self_eq_true _)) T.hb21 rfl rfl ?_
 refine WL_take rfl rfl ?_
 refine W_q (r_not rfl) rfl ?_
 refine W_q (r_pick_f rfl rfl) rfl ?_
 refine W_q (r_move rfl) rfl ?_
 refine WL_take rfl rfl ?_
 refine W_q (r_fieldb (o' := 2) rfl T.fo25_2 rfl) rfl ?_
 refine WL_take rfl rfl ?_
 refine W_q (r_loadb 1 rfl T.ag23 rfl rfl) rfl ?_
 refine WL_take rfl rfl ?_
 refine W_q (r_len Tryz.underlying23 rfl) rfl ?_
 refine WL_take rfl rfl ?_
 refine W_q (r_fieldb (o' := 2) rfl T.fo25_2 rfl) rfl ?_
 refine WL_take rfl rfl ?_
 refine W_q (r_loadb 0 rfl T.ag23 rfl rfl) rfl ?_
 refine WL_take rfl rfl ?_
 refine W_q (r_len Tryz.underlying23 rfl) rfl ?_
 refine WL_take rfl rfl ?_
 refine W_q (r_nef rfl rfl (rfl)) rfl ?_
 refine W_q (r_pick_f rfl rfl) rfl ?_
 refine W_nil ?_
 refine NX_as (L' := [(2, _), (3, _), (4, _), (33, _)]) [2, 3, 4, 33] rfl ?_
 refine CW_cond_f rfl ?_
 refine C_skip ?_
 refine NX_as (L' := [(2, _), (3, _), (4, _)]) [2, 3, 4] rfl ?_
 refine CW_seq ?_
 refine CW_seq ?_
 refine CW_region ?_
 refine W_q (r_assign rfl) rfl ?_
 refine W_nil ?_
 refine NX_as (L' := [(2, _), (3, _), (4, _), (5, _)]) [2, 3, 4, 5] rfl ?_
 refine CW_block ?_
 refine C_loop (Unit) (f.blocks.length) (fun k3 x3 => True) (fun k3 x3 => [(5, .int .i64 (k3 : Int))]) (fun _ _ => []) [5] [2, 3] (F := [(2, _), (3, _)]) (()) trivial rfl rfl rfl (fun k3 x3 hk3 hJ3 => ?_)
 refine CW_as (L' := [(2, _), (3, _), (5, _)]) [2, 3, 5] rfl ?_
 refine CW_seq ?_
 refine CW_seq ?_
 refine CW_region ?_
 refine W_q (r_move rfl) rfl ?_
 refine W_q (r_fieldb (o' := 2) rfl T.fo25_2 rfl) rfl ?_
 refine W_q (r_loadb 1 rfl T.ag23 rfl rfl) rfl ?_
 refine W_q (r_len Tryz.underlying23 rfl) rfl ?_
 refine W_q (r_bin rfl rfl (bin_lss _ _ _ _)) rfl ?_
 refine W_nil ?_
 refine NX_as (L' := [(2, _), (3, _), (5, _), (38, _)]) [2, 3, 5, 38] rfl ?_
 refine CW_condk rfl (fun h4 => ?_) (fun h4 => ?_)
 ·(try simp only [tA, tB, tC, tD, tE, tF, tG, tH, tI, tJ, tK, tL] at h4)
  refine C_skip ?_
  refine NX_as (L' := [(2, _), (3, _), (5, _)]) [2, 3, 5] rfl ?_
  refine CW_seq ?_
  refine CW_block ?_
  refine CW_seq ?_
  refine CW_region ?_
  refine W_q (r_fieldb (o' := 2) rfl T.fo25_2 rfl) rfl ?_
  refine W_q (r_loadb 1 rfl T.ag23 rfl rfl) rfl ?_
  refine W_q (r_move rfl) rfl ?_
  obtain ⟨ad5, hA5⟩ := hb90.ad (j := k3) (by omega)
  obtain ⟨z5, hz5⟩ := hb90.getz (j := k3) (by omega)
  refine W_q (r_index hA5 Tryz.underlying23 T.sz44 rfl rfl ⟨by omega, by omega⟩) rfl ?_
  obtain ⟨es6, f6, _, l6⟩ := Sl.get hb90 hA5 hz5
  have F6 := f6
  obtain ⟨A6, c6, B6, d6, C6, e6, rfl, hp6, ho6, ht6, i6a, i6b⟩ := f6
  refine W_q (r_load_immk (vs := [_, _, _, _, _]) rfl T.ag44 T.sz44 l6) rfl ?_
  refine S_alloc (l := [_, _, _, _, _]) T.ze44 rfl rfl (fun b7 => ?_)
  refine S_storeb 0 (l' := [_, _, _, _, _]) rfl rfl rfl T.sz44 rfl rfl rfl rfl ?_
  refine W_nil ?_
  refine NX_as (L' := [(2, _), (3, _), (5, _), (6, _)]) [2, 3, 5, 6] rfl ?_
  refine CW_seq ?_
  refine CW_region ?_
  refine W_q (r_fieldb (o' := 2) rfl T.fo25_2 rfl) rfl ?_
  refine W_q (r_loadb 1 rfl T.ag23 rfl rfl) rfl ?_
  refine W_q (r_move rfl) rfl ?_
  obtain ⟨ad8, hA8⟩ := hb91.ad (j := k3) (by omega)
  refine W_q (r_index hA8 Tryz.underlying23 T.sz44 rfl rfl ⟨by omega, by omega⟩) rfl ?_
  obtain ⟨es9, f9, _, l9⟩ := Sl.get hb91 hA8 hz5
  have F9 := f9
  obtain ⟨A9, c9, B9, d9, C9, e9, rfl, hp9, ho9, ht9, i9a, i9b⟩ := f9
  refine W_q (r_load_immk (vs := [_, _, _, _, _]) rfl T.ag44 T.sz44 l9) rfl ?_
  refine S_alloc (l := [_, _, _, _, _]) T.ze44 rfl rfl (fun b10 => ?_)
  refine S_storeb 0 (l' := [_, _, _, _, _]) rfl rfl rfl T.sz44 rfl rfl rfl rfl ?_
  refine W_nil ?_
  refine NX_as (L' := [(2, _), (3, _), (5, _), (6, _), (7, _)]) [2, 3, 5, 6, 7] rfl ?_
  refine CW_seq ?_
  refine CW_seq ?_
  refine CW_region ?_
  refine W_q (r_fieldb (o' := 0) rfl T.fo44_0 rfl) rfl ?_
  refine W_q (r_loadb 1 rfl T.ag39 rfl rfl) rfl ?_
  refine W_q (r_len Tryz.underlying39 rfl) rfl ?_
  refine W_q (r_fieldb (o' := 0) rfl T.fo44_0 rfl) rfl ?_
  refine W_q (r_loadb 0 rfl T.ag39 rfl rfl) rfl ?_
  refine W_q (r_len Tryz.underlying39 rfl) rfl ?_
  refine W_q (r_nef rfl rfl (rfl)) rfl ?_
  refine W_q (r_move rfl) rfl ?_
  refine WL_take rfl rfl ?_
  refine W_q (r_fieldb (o' := 1) rfl T.fo44_1 rfl) rfl ?_
  refine WL_take rfl rfl ?_
  refine W_q (r_loadb 1 rfl T.ag40 rfl rfl) rfl ?_
  refine WL_take rfl rfl ?_
  refine W_q (r_len Tryz.underlying40 rfl) rfl ?_
  refine WL_take rfl rfl ?_
  refine W_q (r_fieldb (o' := 1) rfl T.fo44_1 rfl) rfl ?_
  refine WL_take rfl rfl ?_
  refine W_q (r_loadb 0 rfl T.ag40 rfl rfl) rfl ?_
  refine WL_take rfl rfl ?_
  refine W_q (r_len Tryz.underlying40 rfl) rfl ?_
  refine WL_take rfl rfl ?_
  refine W_q (r_nef rfl rfl (rfl)) rfl ?_
  refine W_q (r_pick_f rfl rfl) rfl ?_
  refine W_q (r_move rfl) rfl ?_
  refine WL_take rfl rfl ?_
  refine W_q (r_fieldb (o' := 2) rfl T.fo44_2 rfl) rfl ?_
  refine WL_take rfl rfl ?_
  refine W_q (r_fieldb (o' := 2) rfl T.fo42_0 rfl) rfl ?_
  refine WL_take rfl rfl ?_
  refine W_q (r_loadb 1 rfl T.ag3 rfl rfl) rfl ?_
  refine WL_take rfl rfl ?_
  refine W_q (r_fieldb (o' := 2) rfl T.fo44_2 rfl) rfl ?_
  refine WL_take rfl rfl ?_
  refine W_q (r_fieldb (o' := 2) rfl T.fo42_0 rfl) rfl ?_
  refine WL_take rfl rfl ?_
  refine W_q (r_loadb 0 rfl T.ag3 rfl rfl) rfl ?_
  refine WL_take rfl rfl ?_
  refine W_q (r_nef rfl rfl (rfl)) rfl ?_
  refine W_q (r_pick_f rfl rfl) rfl ?_
  refine W_q (r_move rfl) rfl ?_
  refine WL_take rfl rfl ?_
  refine W_q (r_fieldb (o' := 2) rfl T.fo44_2 rfl) rfl ?_
  refine WL_take rfl rfl ?_
  refine W_q (r_fieldb (o' := 3) rfl T.fo42_1 rfl) rfl ?_
  refine WL_take rfl rfl ?_
  refine W_q (r_loadb 1 rfl T.ag3 rfl rfl) rfl ?_
  refine WL_take rfl rfl ?_
  refine W_q (r_fieldb (o' := 2) rfl T.fo44_2 rfl) rfl ?_
  refine WL_take rfl rfl ?_
  refine W_q (r_fieldb (o' := 3) rfl T.fo42_1 rfl) rfl ?_
  refine WL_take rfl rfl ?_
  refine W_q (r_loadb 0 rfl T.ag3 rfl rfl) rfl ?_
  refine WL_take rfl rfl ?_
  refine W_q (r_nef rfl rfl (rfl)) rfl ?_
  refine W_q (r_pick_f rfl rfl) rfl ?_
  refine W_q (r_move rfl) rfl ?_
  refine WL_take rfl rfl ?_
  refine W_q (r_fieldb (o' := 2) rfl T.fo44_2 rfl) rfl ?_
  refine WL_take rfl rfl ?_
  refine W_q (r_fieldb (o' := 4) rfl T.fo42_2 rfl) rfl ?_
  refine WL_take rfl rfl ?_
  refine W_q (r_loadb 1 rfl T.ag22 rfl rfl) rfl ?_
  refine WL_take rfl rfl ?_
  refine W_q (r_fieldb (o' := 2) rfl T.fo44_2 rfl) rfl ?_
  refine WL_take rfl rfl ?_
  refine W_q (r_fieldb (o' := 4) rfl T.fo42_2 rfl) rfl ?_
  refine WL_take rfl rfl ?_
  refine W_q (r_loadb 0 rfl T.ag22 rfl rfl) rfl ?_
  refine WL_take rfl rfl ?_
  refine W_quiet (known_q (Ints_q ht6 ht9) (beq_self_eq_true _)) T.hb21 rfl rfl ?_
  refine WL_take rfl rfl ?_
  refine W_q (r_not rfl) rfl ?_
  refine W_q (r_pick_f rfl rfl) rfl ?_
  refine W_nil ?_
  refine NX_as (L' := [(2, _), (3, _), (5, _), (6, _), (7, _), (94, _)]) [2, 3, 5, 6, 7, 94] rfl ?_
  refine CW_cond_f rfl ?_
  refine C_skip ?_
  refine NX_as (L' := [(2, _), (3, _), (5, _), (6, _), (7, _)]) [2, 3, 5, 6, 7] rfl ?_
  refine CW_seq ?_
  refine CW_seq ?_
  refine CW_region ?_
  refine W_q (r_assign rfl) rfl ?_
  refine W_nil ?_
  refine NX_as (L' := [(2, _), (3, _), (5, _), (6, _), (7, _), (8, _)]) [2, 3, 5, 6, 7, 8] rfl ?_
  refine CW_block ?_
  refine C_loop (Unit) (z5.phis.length) (fun k11 x11 => True) (fun k11 x11 => [(8, .int .i64 (k11 : Int))]) (fun _ _ => []) [8] [2, 3, 5, 6, 7] (F := [(2, _), (3, _), (5, _), (6, _), (7, _)]) (()) trivial rfl rfl rfl (fun k11 x11 hk11 hJ11 => ?_)
  refine CW_as (L' := [(2, _), (3, _), (5, _), (6, _), (7, _), (8, _)]) [2, 3, 5, 6, 7, 8] rfl ?_
  refine CW_seq ?_
  refine CW_seq ?_
  refine CW_region ?_
  refine W_q (r_move rfl) rfl ?_
  refine W_q (r_fieldb (o' := 0) rfl T.fo44_0 rfl) rfl ?_
  refine W_q (r_loadb 1 rfl T.ag39 rfl rfl) rfl ?_
  refine W_q (r_len Tryz.underlying39 rfl) rfl ?_
  refine W_q (r_bin rfl rfl (bin_lss _ _ _ _)) rfl ?_
  refine W_nil ?_
  refine NX_as (L' := [(2, _), (3, _), (5, _), (6, _), (7, _), (8, _), (99, _)]) [2, 3, 5, 6, 7, 8, 99] rfl ?_
  refine CW_condk rfl (fun h12 => ?_) (fun h12 => ?_)
  ·(try simp only [tA, tB, tC, tD, tE, tF, tG, tH, tI, tJ, tK, tL] at h12)
   refine C_skip ?_
   refine NX_as (L' := [(2, _), (3, _), (5, _), (6, _), (7, _), (8, _)]) [2, 3, 5, 6, 7, 8] rfl ?_
   refine CW_seq ?_
   refine CW_block ?_
   refine CW_seq ?_
   refine CW_region ?_
   refine W_q (r_fieldb (o' := 0) rfl T.fo44_0 rfl) rfl ?_
   refine W_q (r_loadb 1 rfl T.ag39 rfl rfl) rfl ?_
   refine W_q (r_move rfl) rfl ?_
   obtain ⟨ad13, hA13⟩ := hp6.ad (j := k11) (by omega)
   obtain ⟨z13, hz13⟩ := hp6.getz (j := k11) (by omega)
   refine W_q (r_index hA13 Tryz.underlying39 T.sz61 rfl rfl ⟨by omega, by omega⟩) rfl ?_
   obtain ⟨es14, f14, _, l14⟩ := Sl.get hp6 hA13 hz13
   have F14 := f14
   obtain ⟨A14, c14, B14, d14, rfl, h14, g14, i14a, i14b⟩ := f14
   refine W_q (r_load_immk (vs := [_, _, _, _]) rfl T.ag61 T.sz61 l14) rfl ?_
   refine S_alloc (l := [_, _, _, _]) T.ze61 rfl rfl (fun b15 => ?_)
   refine S_storeb 0 (l' := [_, _, _, _]) rfl rfl rfl T.sz61 rfl rfl rfl rfl ?_
   refine W_nil ?_
   refine NX_as (L' := [(2, _), (3, _), (5, _), (6, _), (7, _), (8, _), (9, _)]) [2, 3, 5, 6, 7, 8, 9] rfl ?_
   refine CW_seq ?_
   refine CW_region ?_
   refine W_q (r_fieldb (o' := 0) rfl T.fo44_0 rfl) rfl ?_
   refine W_q (r_loadb 1 rfl T.ag39 rfl rfl) rfl ?_
   refine W_q (r_move rfl) rfl ?_
   obtain ⟨ad16, hA16⟩ := hp9.ad (j := k11) (by omega)
   refine W_q (r_index hA16 Tryz.underlying39 T.sz61 rfl rfl ⟨by omega, by omega⟩) rfl ?_
   obtain ⟨es17, f17, _, l17⟩ := Sl.get hp9 hA16 hz13
   have F17 := f17
   obtain ⟨A17, c17, B17, d17, rfl, h17, g17, i17a, i17b⟩ := f17
   refine W_q (r_load_immk (vs := [_, _, _, _]) rfl T.ag61 T.sz61 l17) rfl ?_
   refine S_alloc (l := [_, _, _, _]) T.ze61 rfl rfl (fun b18 => ?_)
   refine S_storeb 0 (l' := [_, _, _, _]) rfl rfl rfl T.sz61 rfl rfl rfl rfl ?_
   refine W_nil ?_
   refine NX_as (L' := [(2, _), (3, _), (5, _), (6, _), (7, _), (8, _), (9, _), (10, _)]) [2, 3, 5, 6, 7, 8, 9, 10] rfl ?_
   refine CW_seq ?_
   refine CW_region ?_
   refine W_q (r_fieldb (o' := 0) rfl T.fo61_0 rfl) rfl ?_
   refine W_q (r_loadb 1 rfl T.ag3 rfl rfl) rfl ?_
   refine W_q (r_fieldb (o' := 0) rfl T.fo61_0 rfl) rfl ?_
   refine W_q (r_loadb 0 rfl T.ag3 rfl rfl) rfl ?_
   refine W_q (r_nef rfl rfl (rfl)) rfl ?_
   refine W_q (r_move rfl) rfl ?_
   refine WL_take rfl rfl ?_
   refine W_q (r_fieldb (o' := 1) rfl T.fo61_1 rfl) rfl ?_
   refine WL_take rfl rfl ?_
   refine W_q (r_loadb 1 rfl T.ag3 rfl rfl) rfl ?_
   refine WL_take rfl rfl ?_
   refine W_q (r_fieldb (o' := 1) rfl T.fo61_1 rfl) rfl ?_
   refine WL_take rfl rfl ?_
   refine W_q (r_loadb 0 rfl T.ag3 rfl rfl) rfl ?_
   refine WL_take rfl rfl ?_
   refine W_q (r_nef rfl rfl (rfl)) rfl ?_
   refine W_q (r_pick_f rfl rfl) rfl ?_
   refine W_q (r_move rfl) rfl ?_
   refine WL_take rfl rfl ?_
   refine W_q (r_fieldb (o' := 2) rfl T.fo61_2 rfl) rfl ?_
   refine WL_take rfl rfl ?_
   refine W_q (r_loadb 1 rfl T.ag22 rfl rfl) rfl ?_
   refine WL_take rfl rfl ?_
   refine W_q (r_fieldb (o' := 2) rfl T.fo61_2 rfl) rfl ?_
   refine WL_take rfl rfl ?_
   refine W_q (r_loadb 0 rfl T.ag22 rfl rfl) rfl ?_
   refine WL_take rfl rfl ?_
   refine W_quiet (known_q (Ints_q h14 h17) (beq_self_eq_true _)) T.hb21 rfl rfl ?_
   refine WL_take rfl rfl ?_
   refine W_q (r_not rfl) rfl ?_
   refine W_q (r_pick_f rfl rfl) rfl ?_
   refine W_q (r_move rfl) rfl ?_
   refine WL_take rfl rfl ?_
   refine W_q (r_fieldb (o' := 3) rfl T.fo61_3 rfl) rfl ?_
   refine WL_take rfl rfl ?_
   refine W_q (r_loadb 1 rfl T.ag22 rfl rfl) rfl ?_
   refine WL_take rfl rfl ?_
   refine W_q (r_fieldb (o' := 3) rfl T.fo61_3 rfl) rfl ?_
   refine WL_take rfl rfl ?_
   refine W_q (r_loadb 0 rfl T.ag22 rfl rfl) rfl ?_
   refine WL_take rfl rfl ?_
   refine W_quiet (known_q (Ints_q g14 g17) (beq_self_eq_true _)) T.hb21 rfl rfl ?_
   refine WL_take rfl rfl ?_
   refine W_q (r_not rfl) rfl ?_
   refine W_q (r_pick_f rfl rfl) rfl ?_
   refine W_nil ?_
   refine NX_as (L' := [(2, _), (3, _), (5, _), (6, _), (7, _), (8, _), (139, _)]) [2, 3, 5, 6, 7, 8, 139] rfl ?_
   refine CW_cond_f rfl ?_
   refine C_skip ?_
   refine NX_block (NX_as (L' := [(2, _), (3, _), (5, _), (6, _), (7, _), (8, _)]) [2, 3, 5, 6, 7, 8] rfl ?_)
   refine CW_region ?_
   refine W_q (r_move rfl) rfl ?_
   refine W_q (r_add rfl rfl (by have := Sl.len (r := rPhi) (sz := 4) (xs := z5.phis) (by assumption); constructor <;> omega)) rfl ?_
   refine W_q (r_assign rfl) rfl ?_
   refine W_nil ?_
   refine NX_rnd [8, 2, 3, 5, 6, 7] (by omega) (()) ?_ rfl (sub_drop 2 rfl) rfl (Imm.le_refl _)
   trivial
  ·(try simp only [tA, tB, tC, tD, tE, tF, tG, tH, tI, tJ, tK, tL] at h12)
   refine C_exit (EX_then (EX_then (EX_hit (?_))))
   refine NX_as (L' := [(2, _), (3, _), (5, _), (6, _), (7, _)]) [2, 3, 5, 6, 7] rfl ?_
   refine CW_seq ?_
   refine CW_region ?_
   refine W_q (r_assign rfl) rfl ?_
   refine W_nil ?_
   refine NX_as (L' := [(2, _), (3, _), (5, _), (6, _), (7, _), (11, _)]) [2, 3, 5, 6, 7, 11] rfl ?_
   refine CW_block ?_
   refine C_loop (Unit) (z5.ops.length) (fun k19 x19 => True) (fun k19 x19 => [(11, .int .i64 (k19 : Int))]) (fun _ _ => []) [11] [2, 3, 5, 6, 7] (F := [(2, _), (3, _), (5, _), (6, _), (7, _)]) (()) trivial rfl rfl rfl (fun k19 x19 hk19 hJ19 => ?_)
   refine CW_as (L' := [(2, _), (3, _), (5, _), (6, _), (7, _), (11, _)]) [2, 3, 5, 6, 7, 11] rfl ?_
   refine CW_seq ?_
   refine CW_seq ?_
   refine CW_region ?_
   refine W_q (r_move rfl) rfl ?_
   refine W_q (r_fieldb (o' := 1) rfl T.fo44_1 rfl) rfl ?_
   refine W_q (r_loadb 1 rfl T.ag40 rfl rfl) rfl ?_
   refine W_q (r_len Tryz.underlying40 rfl) rfl ?_
   refine W_q (r_bin rfl rfl (bin_lss _ _ _ _)) rfl ?_
   refine W_nil ?_
   refine NX_as (L' := [(2, _), (3, _), (5, _), (6, _), (7, _), (11, _), (144, _)]) [2, 3, 5, 6, 7, 11, 144] rfl ?_
   refine CW_condk rfl (fun h20 => ?_) (fun h20 => ?_)
   ·(try simp only [tA, tB, tC, tD, tE, tF, tG, tH, tI, tJ, tK, tL] at h20)
    refine C_skip ?_
    refine NX_as (L' := [(2, _), (3, _), (5, _), (6, _), (7, _), (11, _)]) [2, 3, 5, 6, 7, 11] rfl ?_
    refine CW_seq ?_
    refine CW_block ?_
    refine CW_seq ?_
    refine C_drawn [(0, true), (1, true), (2, true), (3, true), (4, true), (5, true), (6, true), (7, true), (8, true), (9, true), (10, true), (11, true)] (by kernel_rfl) rfl (by kernel_rfl) (by kernel_rfl) ?_
    refine D_q rfl (r_fieldb (o' := 1) rfl T.fo44_1 rfl) rfl ?_
    refine D_q rfl (r_loadb 1 rfl T.ag40 rfl rfl) rfl ?_
    refine D_q rfl (r_move rfl) rfl ?_
    obtain ⟨ad21, hA21⟩ := ho6.ad (j := k19) (by omega)
    obtain ⟨z21, hz21⟩ := ho6.getz (j := k19) (by omega)
    refine D_q rfl (r_index hA21 Tryz.underlying40 T.sz51 rfl rfl ⟨by omega, by omega⟩) rfl ?_
    obtain ⟨es22, f22, _, l22⟩ := Sl.get ho6 hA21 hz21
    have F22 := f22
    obtain ⟨A22, c22, rfl, h22, i22a, i22b, i22c, i22d, i22e⟩ := f22
    refine D_q rfl (r_load_immk (vs := [_, _, _, _, _, _]) rfl T.ag51 T.sz51 l22) rfl ?_
    refine D_q rfl (r_fieldb (o' := 1) rfl T.fo44_1 rfl) rfl ?_
    refine D_q rfl (r_loadb 0 rfl T.ag40 rfl rfl) rfl ?_
    refine D_q rfl (r_move rfl) rfl ?_
    obtain ⟨ad23, hA23⟩ := ho9.ad (j := k19) (by omega)
    refine D_q rfl (r_index hA23 Tryz.underlying40 T.sz51 rfl rfl ⟨by omega, by omega⟩) rfl ?_
    obtain ⟨es24, f24, _, l24⟩ := Sl.get ho9 hA23 hz21
    have F24 := f24
    obtain ⟨A24, c24, rfl, h24, i24a, i24b, i24c, i24d, i24e⟩ := f24
    refine D_q rfl (r_load_immk (vs := [_, _, _, _, _, _]) rfl T.ag51 T.sz51 l24) rfl ?_
    refine D_quiet rfl (SameO_q F22 F24) T.hb48 rfl rfl ?_
    refine D_q rfl (r_not rfl) rfl ?_
    refine D_end ?_
    refine NX_as (L' := [(2, _), (3, _), (5, _), (6, _), (7, _), (11, _), (158, _)]) [2, 3, 5, 6, 7, 11, 158] rfl ?_
    refine CW_cond_f rfl ?_
    refine C_skip ?_
    refine NX_block (NX_as (L' := [(2, _), (3, _), (5, _), (6, _), (7, _), (11, _)]) [2, 3, 5, 6, 7, 11] rfl ?_)
    refine CW_region ?_
    refine W_q (r_move rfl) rfl ?_
    refine W_q (r_add rfl rfl (by have := Sl.len (r := rOp) (sz := 6) (xs := z5.ops) (by assumption); constructor <;> omega)) rfl ?_
    refine W_q (r_assign rfl) rfl ?_
    refine W_nil ?_
    refine NX_rnd [11, 2, 3, 5, 6, 7] (by omega) (()) ?_ rfl (List.Sublist.refl _) rfl (Imm.le_refl _)
    trivial
   ·(try simp only [tA, tB, tC, tD, tE, tF, tG, tH, tI, tJ, tK, tL] at h20)
    refine C_exit (EX_then (EX_then (EX_hit (?_))))
    refine NX_block (NX_as (L' := [(2, _), (3, _), (5, _)]) [2, 3, 5] rfl ?_)
    refine CW_region ?_
    refine W_q (r_move rfl) rfl ?_
    refine W_q (r_add rfl rfl (by unfold I64 at *; omega)) rfl ?_
    refine W_q (r_assign rfl) rfl ?_
    refine W_nil ?_
    refine NX_rnd [5, 2, 3] (by omega) (()) ?_ rfl (sub_drop 2 rfl) rfl (Imm.le_refl _)
    trivial
 ·(try simp only [tA, tB, tC, tD, tE, tF, tG, tH, tI, tJ, tK, tL] at h4)
  refine C_exit (EX_then (EX_then (EX_hit (?_))))
  refine NX_as (L' := []) [] rfl ?_
  refine CW_seq ?_
  refine CW_region ?_
  refine W_q (r_assign rfl) rfl ?_
  refine W_nil ?_
  refine NX_as (L' := [(4, _)]) [4] rfl ?_
  refine C_ret (RX_q1 rfl rfl ?_)
  rfl

end Go.Proofs.YtipmgkhjoekaaaaGreat

set_option linter.unusedVariables false
set_option linter.unusedSimpArgs false
namespace Go.Proofs.YtipmgkhjoekaaaaGreat
open Go Go.RowKit Go.Proofs Go.Proofs.YtipmgkhjoekaaaaGreat.Fw
attribute [local irreducible] Qt WL CW NX RX EX GX DL
namespace T
theorem fo27_0 : fld? Tryz.prog 27 0 = some (0, 1) := by kernel_rfl
theorem fo27_2 : fld? Tryz.prog 27 2 = some (2, 1) := by kernel_rfl
theorem hb15 : hasBody Tryz.prog 15 = true := by kernel_rfl
theorem hb18 : hasBody Tryz.prog 18 = true := by kernel_rfl
end T
theorem put_else {f : FFun} {B : Nat} {b : FBlk} {order : List Int} (h : PutOK f B b order) {k : Nat} {z z' : FBlk} (h1 : (putF f B b order).blocks[k]? = some z') (h2 : f.blocks[k]? = some z) (hk : k ≠ B) : z' = z := by
  rw [put_blocks h, if_neg hk, h2] at h1
  exact (Option.some.inj h1).symm
theorem inv_i64 {f : FFun} {B : Nat} {b : FBlk} {order back : List Int} (h : PutOK f B b order) (hi : InvO order back) (hl : order.length ≤ 600) : ∀ z ∈ back, I64 z := by
  intro z hz
  obtain ⟨k, hk⟩ := List.mem_iff_getElem?.1 hz
  have hkl := (List.getElem?_eq_some_iff.1 hk).1
  rw [hi.len, h.len] at hkl
  obtain ⟨j, h1, _, h3⟩ := back_get h hi hkl
  rw [h3] at hk
  have := Option.some.inj hk
  have h4 := h.len
  exact ⟨by omega, by omega⟩
theorem back_eq {f : FFun} {block : Int} {b : FBlk} {order back : List Int} (h0 : 0 ≤ block) (h : PutOK f block.toNat b order) (hi : InvO order back) : putOps (putF f block.toNat b order) block back = f := by
  rw [putOps_set (b := putB b order) (by rw [put_blocks h, if_pos rfl])]
  exact back_put h hi
set_option maxHeartbeats 20000000 in
/-- locksteplaw19.SchedBack -/
theorem SchedBack_no {m : Imm} {es : List Value} {f : FFun} (hF : rFunc m es f) (block at_ : Int) (hib : I64 block) {A : Option Addr} {c : Nat} {order : List Int} (h : Ints m A c order) (hleg : LegalP f block order = false) : Quiet Tryz.prog 6 [.agg es.toArray, .agg #[.int .i64 block, .int .i64 at_, .slice A order.length c]] m (.bool true) := by
 have hF_0 := hF
 obtain ⟨A90, c90, B90, d90, rfl, hq90, hb90, i90a⟩ := hF_0
 refine quiet_of Tryz.func6 rfl Tryz.ntmps6 rfl (fun w => ?_)
 refine CW_seq ?_
 refine CW_region ?_
 refine S_box (l := [_, _, _]) rfl rfl rfl (fun b1 => ?_)
 refine S_box (l := [_, _, _]) rfl rfl rfl (fun b2 => ?_)
 refine W_q (r_assign rfl) rfl ?_
 refine W_nil ?_
 refine NX_as (L' := [(2, _), (3, _), (4, _)]) [2, 3, 4] rfl ?_
 refine CW_seq ?_
 refine CW_seq ?_
 refine CW_region ?_
 refine W_quiet (awake19_q) T.hb14 rfl rfl ?_
 refine W_q (r_not rfl) rfl ?_
 refine W_nil ?_
 refine NX_as (L' := [(2, _), (3, _), (4, _), (13, _)]) [2, 3, 4, 13] rfl ?_
 refine CW_cond_f rfl ?_
 refine C_skip ?_
 refine NX_as (L' := [(2, _), (3, _), (4, _)]) [2, 3, 4] rfl ?_
 refine CW_seq ?_
 refine CW_seq ?_
 refine CW_region ?_
 refine W_q (r_loadbk 1 (vs := [_, _, _]) rfl T.ag25 T.sz25 rfl rfl rfl) rfl ?_
 refine S_gives (Small11_g hF) T.hb15 rfl rfl (fun m3 v3 le3 hv3 => ?_)
 replace hF := rFunc_mono _ _ _ _ le3 hF
 replace hq90 := hq90.mono rI_mono le3
 replace hb90 := hb90.mono rBlock_mono le3
 replace h := h.mono rI_mono le3
 obtain ⟨qs3, rfl⟩ := hv3
 refine W_q (r_not rfl) rfl ?_
 refine W_q (r_move rfl) rfl ?_
 refine WL_split (t := 17) rfl (fun h4 => ?_) (fun h4 => ?_)
 ·(try simp only [tA, tB, tC, tD, tE, tF, tG, tH, tI, tJ, tK, tL] at h4)
  refine WL_pass rfl rfl rfl rfl ?_
  refine WL_pass rfl rfl rfl rfl ?_
  refine WL_pass rfl rfl rfl rfl ?_
  refine WL_pass rfl rfl rfl rfl ?_
  refine W_q (r_pick_t rfl rfl) rfl ?_
  refine W_nil ?_
  refine NX_as (L' := [(2, _), (3, _), (4, _), (22, _)]) [2, 3, 4, 22] rfl ?_
  refine CW_cond_t rfl ?_
  refine CW_seq ?_
  refine CW_region ?_
  refine W_q (r_assign rfl) rfl ?_
  refine W_nil ?_
  refine NX_as (L' := [(2, _), (3, _), (4, _)]) [2, 3, 4] rfl ?_
  refine C_ret (RX_then (RX_q1 rfl rfl ?_))
  rfl
 ·(try simp only [tA, tB, tC, tD, tE, tF, tG, tH, tI, tJ, tK, tL] at h4)
  refine WL_take rfl rfl ?_
  refine W_q (r_fieldb (o' := 2) rfl T.fo27_2 rfl) rfl ?_
  refine WL_take rfl rfl ?_
  refine W_q (r_loadb 0 rfl T.ag22 rfl rfl) rfl ?_
  refine WL_take rfl rfl ?_
  refine W_q (r_len Tryz.underlying22 rfl) rfl ?_
  refine WL_take rfl rfl ?_
  refine W_q (r_bin rfl rfl (bin_gtr _ _ _ _)) rfl ?_
  refine W_q (r_pick_f rfl rfl) rfl ?_
  refine W_nil ?_
  refine NX_as (L' := [(2, _), (3, _), (4, _), (22, _)]) [2, 3, 4, 22] rfl ?_
  refine CW_condk rfl (fun h5 => ?_) (fun h5 => ?_)
  ·(try simp only [tA, tB, tC, tD, tE, tF, tG, tH, tI, tJ, tK, tL] at h5)
   refine CW_seq ?_
   refine CW_region ?_
   refine W_q (r_assign rfl) rfl ?_
   refine W_nil ?_
   refine NX_as (L' := [(2, _), (3, _), (4, _)]) [2, 3, 4] rfl ?_
   refine C_ret (RX_then (RX_q1 rfl rfl ?_))
   rfl
  ·(try simp only [tA, tB, tC, tD, tE, tF, tG, tH, tI, tJ, tK, tL] at h5)
   refine C_skip ?_
   refine NX_as (L' := [(2, _), (3, _), (4, _)]) [2, 3, 4] rfl ?_
   refine CW_seq ?_
   refine CW_region ?_
   refine W_q (r_loadbk 1 (vs := [_, _, _]) rfl T.ag25 T.sz25 rfl rfl rfl) rfl ?_
   refine W_q (r_fieldb (o' := 0) rfl T.fo27_0 rfl) rfl ?_
   refine W_q (r_loadb 0 rfl T.ag3 rfl rfl) rfl ?_
   refine W_q (r_fieldb (o' := 2) rfl T.fo27_2 rfl) rfl ?_
   refine W_q (r_loadb 0 rfl T.ag22 rfl rfl) rfl ?_
   refine S_gives (Put_g hF _ h) T.hb16 rfl rfl (fun m6 v6 le6 hv6 => ?_)
   replace hF := rFunc_mono _ _ _ _ le6 hF
   replace hq90 := hq90.mono rI_mono le6
   replace hb90 := hb90.mono rBlock_mono le6
   replace h := h.mono rI_mono le6
   obtain ⟨_, rfl⟩ := hv6.resolve_left (fun h => absurd (Eq.trans (Eq.symm hleg) h.1) (by decide))
   refine W_q (r_move rfl) rfl ?_
   refine W_q (r_extract rfl rfl) rfl ?_
   refine W_q (r_extract rfl rfl) rfl ?_
   refine S_alloc (l := [_, _, _]) T.ze25 rfl rfl (fun b7 => ?_)
   refine S_storeb 0 (l' := [_, _, _]) rfl rfl rfl T.sz25 rfl rfl rfl rfl ?_
   refine W_q (r_assign rfl) rfl ?_
   refine W_nil ?_
   refine NX_as (L' := [(2, _), (3, _), (4, _), (5, _), (6, _)]) [2, 3, 4, 5, 6] rfl ?_
   refine CW_seq ?_
   refine CW_seq ?_
   refine CW_region ?_
   refine W_q (r_move rfl) rfl ?_
   refine W_q (r_bin rfl rfl (bin_neq _ _ _ _)) rfl ?_
   refine W_nil ?_
   refine NX_as (L' := [(2, _), (3, _), (4, _), (5, _), (6, _), (33, _)]) [2, 3, 4, 5, 6, 33] rfl ?_
   refine CW_cond_t rfl ?_
   refine CW_seq ?_
   refine CW_region ?_
   refine W_q (r_move rfl) rfl ?_
   refine W_q (r_bin rfl rfl (bin_eql _ _ _ _)) rfl ?_
   refine W_q (r_move rfl) rfl ?_
   refine WL_take rfl rfl ?_
   refine W_q (r_fieldb (o' := 2) rfl T.fo25_2 rfl) rfl ?_
   refine WL_take rfl rfl ?_
   refine W_q (r_loadb 0 rfl T.ag23 rfl rfl) rfl ?_
   refine WL_take rfl rfl ?_
   refine W_q (r_len Tryz.underlying23 rfl) rfl ?_
   refine WL_take rfl rfl ?_
   refine W_q (r_bin rfl rfl (bin_eql _ _ _ _)) rfl ?_
   refine W_q (r_pick_t rfl rfl) rfl ?_
   refine W_q (r_assign rfl) rfl ?_
   refine W_nil ?_
   refine NX_as (L' := [(2, _), (3, _), (4, _), (5, _)]) [2, 3, 4, 5] rfl ?_
   refine C_ret (RX_then (RX_q1 rfl rfl ?_))
   rfl

set_option maxHeartbeats 80000000 in
/-- locksteplaw19.SchedBack -/
theorem SchedBack_yes {m : Imm} {es : List Value} {f : FFun} (hF : rFunc m es f) (block at_ : Int) (hib : I64 block) {A : Option Addr} {c : Nat} {order : List Int} (h : Ints m A c order) (hleg : LegalP f block order = true) : Quiet Tryz.prog 6 [.agg es.toArray, .agg #[.int .i64 block, .int .i64 at_, .slice A order.length c]] m (.bool true) := by
 obtain ⟨h0, b, hput, hpe⟩ := putOK_of hleg
 have hpol := hput.len
 have hpor := hput.rng
 have hF_0 := hF
 obtain ⟨A90, c90, B90, d90, rfl, hq90, hb90, i90a⟩ := hF_0
 have hbl := hb90.len
 have hlen := h.len
 refine quiet_of Tryz.func6 rfl Tryz.ntmps6 rfl (fun w => ?_)
 refine CW_seq ?_
 refine CW_region ?_
 refine S_box (l := [_, _, _]) rfl rfl rfl (fun b1 => ?_)
 refine S_box (l := [_, _, _]) rfl rfl rfl (fun b2 => ?_)
 refine W_q (r_assign rfl) rfl ?_
 refine W_nil ?_
 refine NX_as (L' := [(2, _), (3, _), (4, _)]) [2, 3, 4] rfl ?_
 refine CW_seq ?_
 refine CW_seq ?_
 refine CW_region ?_
 refine W_quiet (awake19_q) T.hb14 rfl rfl ?_
 refine W_q (r_not rfl) rfl ?_
 refine W_nil ?_
 refine NX_as (L' := [(2, _), (3, _), (4, _), (13, _)]) [2, 3, 4, 13] rfl ?_
 refine CW_cond_f rfl ?_
 refine C_skip ?_
 refine NX_as (L' := [(2, _), (3, _), (4, _)]) [2, 3, 4] rfl ?_
 refine CW_seq ?_
 refine CW_seq ?_
 refine CW_region ?_
 refine W_q (r_loadbk 1 (vs := [_, _, _]) rfl T.ag25 T.sz25 rfl rfl rfl) rfl ?_
 refine S_gives (Small11_g hF) T.hb15 rfl rfl (fun m3 v3 le3 hv3 => ?_)
 replace hF := rFunc_mono _ _ _ _ le3 hF
 replace hq90 := hq90.mono rI_mono le3
 replace hb90 := hb90.mono rBlock_mono le3
 replace h := h.mono rI_mono le3
 obtain ⟨qs3, rfl⟩ := hv3
 refine W_q (r_not rfl) rfl ?_
 refine W_q (r_move rfl) rfl ?_
 refine WL_split (t := 17) rfl (fun h4 => ?_) (fun h4 => ?_)
 ·(try simp only [tA, tB, tC, tD, tE, tF, tG, tH, tI, tJ, tK, tL] at h4)
  refine WL_pass rfl rfl rfl rfl ?_
  refine WL_pass rfl rfl rfl rfl ?_
  refine WL_pass rfl rfl rfl rfl ?_
  refine WL_pass rfl rfl rfl rfl ?_
  refine W_q (r_pick_t rfl rfl) rfl ?_
  refine W_nil ?_
  refine NX_as (L' := [(2, _), (3, _), (4, _), (22, _)]) [2, 3, 4, 22] rfl ?_
  refine CW_cond_t rfl ?_
  refine CW_seq ?_
  refine CW_region ?_
  refine W_q (r_assign rfl) rfl ?_
  refine W_nil ?_
  refine NX_as (L' := [(2, _), (3, _), (4, _)]) [2, 3, 4] rfl ?_
  refine C_ret (RX_then (RX_q1 rfl rfl ?_))
  rfl
 ·(try simp only [tA, tB, tC, tD, tE, tF, tG, tH, tI, tJ, tK, tL] at h4)
  refine WL_take rfl rfl ?_
  refine W_q (r_fieldb (o' := 2) rfl T.fo27_2 rfl) rfl ?_
  refine WL_take rfl rfl ?_
  refine W_q (r_loadb 0 rfl T.ag22 rfl rfl) rfl ?_
  refine WL_take rfl rfl ?_
  refine W_q (r_len Tryz.underlying22 rfl) rfl ?_
  refine WL_take rfl rfl ?_
  refine W_q (r_bin rfl rfl (bin_gtr _ _ _ _)) rfl ?_
  refine W_q (r_pick_f rfl rfl) rfl ?_
  refine W_nil ?_
  refine NX_as (L' := [(2, _), (3, _), (4, _), (22, _)]) [2, 3, 4, 22] rfl ?_
  refine CW_condk rfl (fun h5 => ?_) (fun h5 => ?_)
  ·(try simp only [tA, tB, tC, tD, tE, tF, tG, tH, tI, tJ, tK, tL] at h5)
   refine CW_seq ?_
   refine CW_region ?_
   refine W_q (r_assign rfl) rfl ?_
   refine W_nil ?_
   refine NX_as (L' := [(2, _), (3, _), (4, _)]) [2, 3, 4] rfl ?_
   refine C_ret (RX_then (RX_q1 rfl rfl ?_))
   rfl
  ·(try simp only [tA, tB, tC, tD, tE, tF, tG, tH, tI, tJ, tK, tL] at h5)
   refine C_skip ?_
   refine NX_as (L' := [(2, _), (3, _), (4, _)]) [2, 3, 4] rfl ?_
   refine CW_seq ?_
   refine CW_region ?_
   refine W_q (r_loadbk 1 (vs := [_, _, _]) rfl T.ag25 T.sz25 rfl rfl rfl) rfl ?_
   refine W_q (r_fieldb (o' := 0) rfl T.fo27_0 rfl) rfl ?_
   refine W_q (r_loadb 0 rfl T.ag3 rfl rfl) rfl ?_
   refine W_q (r_fieldb (o' := 2) rfl T.fo27_2 rfl) rfl ?_
   refine W_q (r_loadb 0 rfl T.ag22 rfl rfl) rfl ?_
   refine S_gives (Put_g hF block h) T.hb16 rfl rfl (fun m6 v6 le6 hv6 => ?_)
   replace hF := rFunc_mono _ _ _ _ le6 hF
   replace hq90 := hq90.mono rI_mono le6
   replace hb90 := hb90.mono rBlock_mono le6
   replace h := h.mono rI_mono le6
   obtain ⟨_, esG6, rfl, hG6⟩ := hv6.resolve_right (fun h => absurd (Eq.trans (Eq.symm hleg) h.1) (by decide))
   rw [hpe] at hG6
   have hG101_0 := hG6
   obtain ⟨A101, c101, B101, d101, rfl, hq101, hb101, i101a⟩ := hG101_0
   refine W_q (r_move rfl) rfl ?_
   refine W_q (r_extract rfl rfl) rfl ?_
   refine W_q (r_extract rfl rfl) rfl ?_
   refine S_alloc (l := [_, _, _]) T.ze25 rfl rfl (fun b7 => ?_)
   refine S_storeb 0 (l' := [_, _, _]) rfl rfl rfl T.sz25 rfl rfl rfl rfl ?_
   refine W_q (r_assign rfl) rfl ?_
   refine W_nil ?_
   refine NX_as (L' := [(2, _), (3, _), (4, _), (5, _), (6, _)]) [2, 3, 4, 5, 6] rfl ?_
   refine CW_seq ?_
   refine CW_seq ?_
   refine CW_region ?_
   refine W_q (r_move rfl) rfl ?_
   refine W_q (r_bin rfl rfl (bin_neq _ _ _ _)) rfl ?_
   refine W_nil ?_
   refine NX_as (L' := [(2, _), (3, _), (4, _), (5, _), (6, _), (33, _)]) [2, 3, 4, 5, 6, 33] rfl ?_
   refine CW_cond_f rfl ?_
   refine C_skip ?_
   refine NX_as (L' := [(2, _), (3, _), (4, _), (5, _)]) [2, 3, 4, 5] rfl ?_
   refine CW_seq ?_
   refine CW_seq ?_
   refine CW_region ?_
   refine W_q (r_fieldb (o' := 2) rfl T.fo25_2 rfl) rfl ?_
   refine W_q (r_loadb 0 rfl T.ag23 rfl rfl) rfl ?_
   refine W_q (r_len Tryz.underlying23 rfl) rfl ?_
   refine W_q (r_fieldb (o' := 2) rfl T.fo25_2 rfl) rfl ?_
   refine W_q (r_loadb 2 rfl T.ag23 rfl rfl) rfl ?_
   refine W_q (r_len Tryz.underlying23 rfl) rfl ?_
   refine W_q (r_nef rfl rfl (by simp [putF])) rfl ?_
   refine W_nil ?_
   refine NX_as (L' := [(2, _), (3, _), (4, _), (5, _), (48, _)]) [2, 3, 4, 5, 48] rfl ?_
   refine CW_cond_f rfl ?_
   refine C_skip ?_
   refine NX_as (L' := [(2, _), (3, _), (4, _), (5, _)]) [2, 3, 4, 5] rfl ?_
   refine CW_seq ?_
   refine CW_seq ?_
   refine CW_region ?_
   refine W_q (r_assign rfl) rfl ?_
   refine W_nil ?_
   refine NX_as (L' := [(2, _), (3, _), (4, _), (5, _), (7, _)]) [2, 3, 4, 5, 7] rfl ?_
   refine CW_block ?_
   refine C_loop (Unit) (f.blocks.length) (fun k8 x8 => True) (fun k8 x8 => [(7, .int .i64 (k8 : Int))]) (fun _ _ => []) [7] [2, 3, 5] (F := [(2, _), (3, _), (5, _)]) (()) trivial rfl rfl rfl (fun k8 x8 hk8 hJ8 => ?_)
   refine CW_as (L' := [(2, _), (3, _), (5, _), (7, _)]) [2, 3, 5, 7] rfl ?_
   refine CW_seq ?_
   refine CW_seq ?_
   refine CW_region ?_
   refine W_q (r_move rfl) rfl ?_
   refine W_q (r_fieldb (o' := 2) rfl T.fo25_2 rfl) rfl ?_
   refine W_q (r_loadb 2 rfl T.ag23 rfl rfl) rfl ?_
   refine W_q (r_len Tryz.underlying23 rfl) rfl ?_
   refine W_q (r_bin rfl rfl (bin_lss _ _ _ _)) rfl ?_
   refine W_nil ?_
   refine NX_as (L' := [(2, _), (3, _), (5, _), (7, _), (53, _)]) [2, 3, 5, 7, 53] rfl ?_
   refine CW_condk rfl (fun h9 => ?_) (fun h9 => ?_)
   ·(try simp only [tA, tB, tC, tD, tE, tF, tG, tH, tI, tJ, tK, tL] at h9)
    refine C_skip ?_
    refine NX_as (L' := [(2, _), (3, _), (5, _), (7, _)]) [2, 3, 5, 7] rfl ?_
    refine CW_seq ?_
    refine CW_block ?_
    refine CW_seq ?_
    refine C_drawn [(0, true), (1, true), (2, true), (3, true), (4, true), (5, true), (6, true), (7, true), (8, true), (9, true), (10, true), (11, true), (12, true), (13, true), (14, true), (15, true), (16, true), (17, true), (18, true), (19, true), (20, true), (21, true), (22, true), (23, true), (24, true), (25, true), (26, true), (27, true), (28, true), (29, true), (30, true), (31, true), (32, true), (33, true), (34, true), (35, true), (36, true), (37, true)] (by kernel_rfl) rfl (by kernel_rfl) (by kernel_rfl) ?_
    refine D_q rfl (r_move rfl) rfl ?_
    refine D_q rfl (r_fieldb (o' := 0) rfl T.fo27_0 rfl) rfl ?_
    refine D_q rfl (r_loadb 1 rfl T.ag3 rfl rfl) rfl ?_
    refine D_q rfl (r_bin rfl rfl (bin_neq _ _ _ _)) rfl ?_
    refine D_q rfl (r_move rfl) rfl ?_
    refine D_split (t := 60) rfl (fun h10 => ?_) (fun h10 => ?_)
    ·(try simp only [tA, tB, tC, tD, tE, tF, tG, tH, tI, tJ, tK, tL] at h10)
     refine D_qt rfl rfl rfl (r_fieldb (o' := 2) rfl T.fo25_2 rfl) rfl ?_
     refine D_qt rfl rfl rfl (r_loadb 0 rfl T.ag23 rfl rfl) rfl ?_
     refine D_qt rfl rfl rfl (r_move rfl) rfl ?_
     obtain ⟨ad11, hA11⟩ := hb101.ad (j := k8) (by simp only [putF, List.length_set]; omega)
     obtain ⟨z11, hz11⟩ := hb101.getz (j := k8) (by simp only [putF, List.length_set]; omega)
     refine D_qt rfl rfl rfl (r_index hA11 Tryz.underlying23 T.sz44 rfl rfl ⟨by omega, by simp only [putF, List.length_set]; omega⟩) rfl ?_
     refine D_qt rfl rfl rfl (r_field rfl T.fo44_1) rfl ?_
     obtain ⟨es12, f12, _, l12⟩ := Sl.get hb101 hA11 hz11
     obtain ⟨A12, c12, B12, d12, C12, e12, rfl, hp12, ho12, ht12, i12a, i12b⟩ := f12
     refine D_qt rfl rfl rfl (r_load_imm rfl T.ag40 (l12 1 _ rfl)) rfl ?_
     refine D_qt rfl rfl rfl (r_len Tryz.underlying40 rfl) rfl ?_
     refine D_qt rfl rfl rfl (r_fieldb (o' := 2) rfl T.fo25_2 rfl) rfl ?_
     refine D_qt rfl rfl rfl (r_loadb 2 rfl T.ag23 rfl rfl) rfl ?_
     refine D_qt rfl rfl rfl (r_move rfl) rfl ?_
     obtain ⟨ad13, hA13⟩ := hb90.ad (j := k8) (by omega)
     obtain ⟨z13, hz13⟩ := hb90.getz (j := k8) (by omega)
     refine D_qt rfl rfl rfl (r_index hA13 Tryz.underlying23 T.sz44 rfl rfl ⟨by omega, by omega⟩) rfl ?_
     refine D_qt rfl rfl rfl (r_field rfl T.fo44_1) rfl ?_
     obtain ⟨es14, f14, _, l14⟩ := Sl.get hb90 hA13 hz13
     obtain ⟨A14, c14, B14, d14, C14, e14, rfl, hp14, ho14, ht14, i14a, i14b⟩ := f14
     refine D_qt rfl rfl rfl (r_load_imm rfl T.ag40 (l14 1 _ rfl)) rfl ?_
     refine D_qt rfl rfl rfl (r_len Tryz.underlying40 rfl) rfl ?_
     have hge := put_else hput hz11 hz13 (by omega)
     refine D_qt rfl rfl rfl (r_nef rfl rfl (by rw [hge])) rfl ?_
     refine D_qt rfl rfl rfl (r_move rfl) rfl ?_
     refine D_qt rfl rfl rfl (r_fieldb (o' := 2) rfl T.fo25_2 rfl) rfl ?_
     refine D_qt rfl rfl rfl (r_loadb 0 rfl T.ag23 rfl rfl) rfl ?_
     refine D_qt rfl rfl rfl (r_move rfl) rfl ?_
     obtain ⟨ad15, hA15⟩ := hb101.ad (j := k8) (by simp only [putF, List.length_set]; omega)
     refine D_qt rfl rfl rfl (r_index hA15 Tryz.underlying23 T.sz44 rfl rfl ⟨by omega, by simp only [putF, List.length_set]; omega⟩) rfl ?_
     refine D_qt rfl rfl rfl (r_field rfl T.fo44_0) rfl ?_
     obtain ⟨es16, f16, _, l16⟩ := Sl.get hb101 hA15 hz11
     obtain ⟨A16, c16, B16, d16, C16, e16, rfl, hp16, ho16, ht16, i16a, i16b⟩ := f16
     refine D_qt rfl rfl rfl (r_load_imm rfl T.ag39 (l16 0 _ rfl)) rfl ?_
     refine D_qt rfl rfl rfl (r_len Tryz.underlying39 rfl) rfl ?_
     refine D_qt rfl rfl rfl (r_fieldb (o' := 2) rfl T.fo25_2 rfl) rfl ?_
     refine D_qt rfl rfl rfl (r_loadb 2 rfl T.ag23 rfl rfl) rfl ?_
     refine D_qt rfl rfl rfl (r_move rfl) rfl ?_
     obtain ⟨ad17, hA17⟩ := hb90.ad (j := k8) (by omega)
     refine D_qt rfl rfl rfl (r_index hA17 Tryz.underlying23 T.sz44 rfl rfl ⟨by omega, by omega⟩) rfl ?_
     refine D_qt rfl rfl rfl (r_field rfl T.fo44_0) rfl ?_
     obtain ⟨es18, f18, _, l18⟩ := Sl.get hb90 hA17 hz13
     obtain ⟨A18, c18, B18, d18, C18, e18, rfl, hp18, ho18, ht18, i18a, i18b⟩ := f18
     refine D_qt rfl rfl rfl (r_load_imm rfl T.ag39 (l18 0 _ rfl)) rfl ?_
     refine D_qt rfl rfl rfl (r_len Tryz.underlying39 rfl) rfl ?_
     have hge := put_else hput hz11 hz13 (by omega)
     refine D_qt rfl rfl rfl (r_nef rfl rfl (by rw [hge])) rfl ?_
     refine D_qt rfl rfl rfl (r_pick_f rfl rfl) rfl ?_
     refine D_q rfl (r_pick_t rfl rfl) rfl ?_
     refine D_end ?_
     refine NX_as (L' := [(2, _), (3, _), (5, _), (7, _), (93, _)]) [2, 3, 5, 7, 93] rfl ?_
     refine CW_cond_f rfl ?_
     refine C_skip ?_
     refine NX_block (NX_as (L' := [(2, _), (3, _), (5, _), (7, _)]) [2, 3, 5, 7] rfl ?_)
     refine CW_region ?_
     refine W_q (r_move rfl) rfl ?_
     refine W_q (r_add rfl rfl (by unfold I64 at *; omega)) rfl ?_
     refine W_q (r_assign rfl) rfl ?_
     refine W_nil ?_
     refine NX_rnd [7, 2, 3, 5] (by omega) (()) ?_ rfl (List.Sublist.refl _) rfl (Imm.le_refl _)
     trivial
    ·(try simp only [tA, tB, tC, tD, tE, tF, tG, tH, tI, tJ, tK, tL] at h10)
     refine D_pass rfl rfl rfl rfl rfl ?_
     refine D_pass rfl rfl rfl rfl rfl ?_
     refine D_pass rfl rfl rfl rfl rfl ?_
     refine D_pass rfl rfl rfl rfl rfl ?_
     refine D_pass rfl rfl rfl rfl rfl ?_
     refine D_pass rfl rfl rfl rfl rfl ?_
     refine D_pass rfl rfl rfl rfl rfl ?_
     refine D_pass rfl rfl rfl rfl rfl ?_
     refine D_pass rfl rfl rfl rfl rfl ?_
     refine D_pass rfl rfl rfl rfl rfl ?_
     refine D_pass rfl rfl rfl rfl rfl ?_
     refine D_pass rfl rfl rfl rfl rfl ?_
     refine D_pass rfl rfl rfl rfl rfl ?_
     refine D_pass rfl rfl rfl rfl rfl ?_
     refine D_pass rfl rfl rfl rfl rfl ?_
     refine D_pass rfl rfl rfl rfl rfl ?_
     refine D_passu rfl rfl rfl rfl ?_
     refine D_passu rfl rfl rfl rfl ?_
     refine D_passu rfl rfl rfl rfl ?_
     refine D_passu rfl rfl rfl rfl ?_
     refine D_passu rfl rfl rfl rfl ?_
     refine D_passu rfl rfl rfl rfl ?_
     refine D_passu rfl rfl rfl rfl ?_
     refine D_passu rfl rfl rfl rfl ?_
     refine D_passu rfl rfl rfl rfl ?_
     refine D_passu rfl rfl rfl rfl ?_
     refine D_passu rfl rfl rfl rfl ?_
     refine D_passu rfl rfl rfl rfl ?_
     refine D_passu rfl rfl rfl rfl ?_
     refine D_passu rfl rfl rfl rfl ?_
     refine D_passu rfl rfl rfl rfl ?_
     refine D_pass rfl rfl rfl rfl rfl ?_
     refine D_q rfl (r_pick_f rfl rfl) rfl ?_
     refine D_end ?_
     refine NX_as (L' := [(2, _), (3, _), (5, _), (7, _), (93, _)]) [2, 3, 5, 7, 93] rfl ?_
     refine CW_cond_f rfl ?_
     refine C_skip ?_
     refine NX_block (NX_as (L' := [(2, _), (3, _), (5, _), (7, _)]) [2, 3, 5, 7] rfl ?_)
     refine CW_region ?_
     refine W_q (r_move rfl) rfl ?_
     refine W_q (r_add rfl rfl (by unfold I64 at *; omega)) rfl ?_
     refine W_q (r_assign rfl) rfl ?_
     refine W_nil ?_
     refine NX_rnd [7, 2, 3, 5] (by omega) (()) ?_ rfl (List.Sublist.refl _) rfl (Imm.le_refl _)
     trivial
   ·(try simp only [tA, tB, tC, tD, tE, tF, tG, tH, tI, tJ, tK, tL] at h9)
    refine C_exit (EX_then (EX_then (EX_hit (?_))))
    refine NX_as (L' := [(2, _), (3, _), (5, _)]) [2, 3, 5] rfl ?_
    refine CW_seq ?_
    refine CW_region ?_
    refine W_q (r_fieldb (o' := 2) rfl T.fo27_2 rfl) rfl ?_
    refine W_q (r_loadb 1 rfl T.ag22 rfl rfl) rfl ?_
    refine W_q (r_len Tryz.underlying22 rfl) rfl ?_
    refine S_makeI order.length Tryz.underlying22 T.sz3 T.ze3 T.by3 rfl rfl rfl rfl (by omega) (by unfold maxLen; omega) rfl (fun b19 => ?_)
    refine W_q (r_assign rfl) rfl ?_
    refine W_nil ?_
    refine NX_as (L' := [(2, _), (3, _), (5, _), (8, _)]) [2, 3, 5, 8] rfl ?_
    refine CW_seq ?_
    refine CW_seq ?_
    refine CW_region ?_
    refine W_q (r_assign rfl) rfl ?_
    refine W_nil ?_
    refine NX_as (L' := [(2, _), (3, _), (5, _), (8, _), (9, _)]) [2, 3, 5, 8, 9] rfl ?_
    refine CW_block ?_
    refine CW_front 0 rfl rfl ?_
    refine C_loop (List Int) (order.length) (fun k20 x20 => BackSt order x20 order.length k20) (fun k20 x20 => [(9, .int .i64 (k20 : Int))]) (fun k20 x20 => [rowI 3 (some b19) order.length x20]) [9] [2, 3, 5, 8] (F := [(2, _), (3, _), (5, _), (8, _)]) ((List.replicate order.length 0)) (backSt_init order) rfl rfl rfl (fun k20 x20 hk20 hJ20 => ?_)
    refine CW_as (L' := [(2, _), (3, _), (5, _), (8, _), (9, _)]) [2, 3, 5, 8, 9] rfl ?_
    refine CW_seq ?_
    refine CW_seq ?_
    refine CW_region ?_
    refine W_q (r_move rfl) rfl ?_
    refine W_q (r_fieldb (o' := 2) rfl T.fo27_2 rfl) rfl ?_
    refine W_q (r_loadb 2 rfl T.ag22 rfl rfl) rfl ?_
    refine W_q (r_len Tryz.underlying22 rfl) rfl ?_
    refine W_q (r_bin rfl rfl (bin_lss _ _ _ _)) rfl ?_
    refine W_nil ?_
    refine NX_as (L' := [(2, _), (3, _), (5, _), (8, _), (9, _), (102, _)]) [2, 3, 5, 8, 9, 102] rfl ?_
    refine CW_condk rfl (fun h21 => ?_) (fun h21 => ?_)
    ·(try simp only [tA, tB, tC, tD, tE, tF, tG, tH, tI, tJ, tK, tL] at h21)
     refine C_skip ?_
     refine NX_as (L' := [(2, _), (3, _), (5, _), (8, _), (9, _)]) [2, 3, 5, 8, 9] rfl ?_
     refine CW_seq ?_
     refine CW_block ?_
     refine CW_region ?_
     refine W_q (r_move rfl) rfl ?_
     refine W_q (r_fieldb (o' := 2) rfl T.fo27_2 rfl) rfl ?_
     refine W_q (r_loadb 2 rfl T.ag22 rfl rfl) rfl ?_
     refine W_q (r_move rfl) rfl ?_
     obtain ⟨ad22, hA22⟩ := h.ad (j := k20) (by omega)
     obtain ⟨z22, hz22⟩ := h.getz (j := k20) (by omega)
     refine W_q (r_index hA22 Tryz.underlying22 T.sz3 rfl rfl ⟨by omega, by omega⟩) rfl ?_
     obtain ⟨l23, r23⟩ := Sl.getI h hA22 hz22
     refine W_q (r_load_imm rfl T.ag3 l23) rfl ?_
     refine W_q (r_move rfl) rfl ?_
     refine W_q (r_indexr (o := z22.toNat) Tryz.underlying22 T.sz3 rfl rfl ⟨by have := hpor _ (List.mem_of_getElem? hz22); omega, by have := hpor _ (List.mem_of_getElem? hz22); have := hJ20.len; simp only [List.length_replicate]; omega⟩ (by omega)) rfl ?_
     refine S_storerI 0 rfl rfl T.sz3 rfl (by have := hpor _ (List.mem_of_getElem? hz22); have := hJ20.len; omega) ?_
     refine W_nil ?_
     refine NX_block (NX_as (L' := [(2, _), (3, _), (5, _), (8, _), (9, _)]) [2, 3, 5, 8, 9] rfl ?_)
     refine CW_region ?_
     refine W_q (r_move rfl) rfl ?_
     refine W_q (r_add rfl rfl (by unfold I64 at *; omega)) rfl ?_
     refine W_q (r_assign rfl) rfl ?_
     refine W_nil ?_
     refine NX_rnd [9, 2, 3, 5, 8] (by omega) (_) ?_ rfl (List.Sublist.refl _) rfl (Imm.le_refl _)
     have hzr := hpor _ (List.mem_of_getElem? hz22)
     exact hJ20.step hput.nd hz22 hzr.1 (by omega)
    ·(try simp only [tA, tB, tC, tD, tE, tF, tG, tH, tI, tJ, tK, tL] at h21)
     refine C_exit (EX_then (EX_then (EX_hit (?_))))
     refine NX_as (L' := [(2, _), (3, _), (5, _), (8, _)]) [2, 3, 5, 8] rfl ?_
     refine CW_seq ?_
     refine CW_region ?_
     have hkn : k20 = order.length := by omega
     subst hkn
     have hinv := hJ20.done
     have hbkl := hJ20.len
     refine WL_know (k_rowI 0 rfl) (fun hr25 => ?_)
     refine WL_freeze 0 rfl (fun _ h => h) (fun mf25 le25 hf25 => ?_)
     replace hF := rFunc_mono _ _ _ _ le25 hF
     replace hq90 := hq90.mono rI_mono le25
     replace hb90 := hb90.mono rBlock_mono le25
     replace h := h.mono rI_mono le25
     replace hG6 := rFunc_mono _ _ _ _ le25 hG6
     replace hq101 := hq101.mono rI_mono le25
     replace hb101 := hb101.mono rBlock_mono le25
     have hs8 : Ints mf25 _ _ _ := Ints_frz hf25 hr25.1 hr25.2.1 (by omega) hr25.2.2 (inv_i64 hput hJ20.done (by omega))
     have hleg2 := back_Legal h0 hput hinv
     refine W_q (r_loadbk 0 (vs := [_, _, _]) rfl T.ag25 T.sz25 rfl rfl rfl) rfl ?_
     refine W_q (r_fieldb (o' := 0) rfl T.fo27_0 rfl) rfl ?_
     refine W_q (r_loadb 1 rfl T.ag3 rfl rfl) rfl ?_
     refine W_q (r_move rfl) rfl ?_
     refine S_gives (Put_g hG6 block hs8) T.hb16 (by rw [hbkl]; simp only [slI, List.length_replicate]; rfl) rfl (fun m26 v26 le26 hv26 => ?_)
     replace hF := rFunc_mono _ _ _ _ le26 hF
     replace hq90 := hq90.mono rI_mono le26
     replace hb90 := hb90.mono rBlock_mono le26
     replace h := h.mono rI_mono le26
     replace hG6 := rFunc_mono _ _ _ _ le26 hG6
     replace hq101 := hq101.mono rI_mono le26
     replace hb101 := hb101.mono rBlock_mono le26
     replace hs8 := hs8.mono rI_mono le26
     obtain ⟨_, esG26, rfl, hG26⟩ := hv26.resolve_right (fun h => absurd (Eq.trans (Eq.symm hleg2) h.1) (by decide))
     rw [back_eq h0 hput hinv] at hG26
     have hG102_0 := hG26
     obtain ⟨A102, c102, B102, d102, rfl, hq102, hb102, i102a⟩ := hG102_0
     refine W_q (r_move rfl) rfl ?_
     refine W_q (r_extract rfl rfl) rfl ?_
     refine W_q (r_extract rfl rfl) rfl ?_
     refine S_alloc (l := [_, _, _]) T.ze25 rfl rfl (fun b27 => ?_)
     refine S_storeb 0 (l' := [_, _, _]) rfl rfl rfl T.sz25 rfl rfl rfl rfl ?_
     refine W_q (r_assign rfl) rfl ?_
     refine W_nil ?_
     refine NX_as (L' := [(2, _), (10, _), (11, _)]) [2, 10, 11] rfl ?_
     refine CW_seq ?_
     refine CW_region ?_
     refine W_q (r_move rfl) rfl ?_
     refine W_q (r_bin rfl rfl (bin_eql _ _ _ _)) rfl ?_
     refine W_q (r_move rfl) rfl ?_
     refine WL_take rfl rfl ?_
     refine W_q (r_loadbk 0 (vs := [_, _, _]) rfl T.ag25 T.sz25 rfl rfl rfl) rfl ?_
     refine WL_take rfl rfl ?_
     refine W_q (r_loadbk 3 (vs := [_, _, _]) rfl T.ag25 T.sz25 rfl rfl rfl) rfl ?_
     refine WL_take rfl rfl ?_
     refine W_quiet (Same_q hG26 hF) T.hb18 rfl rfl ?_
     refine W_q (r_pick_t rfl rfl) rfl ?_
     refine W_q (r_assign rfl) rfl ?_
     refine W_nil ?_
     refine NX_as (L' := [(4, _)]) [4] rfl ?_
     refine C_ret (RX_q1 rfl rfl ?_)
     rfl

end Go.Proofs.YtipmgkhjoekaaaaGreat

set_option linter.unusedVariables false
namespace Go.Proofs.YtipmgkhjoekaaaaGreat.Fw
open Go Go.RowKit Go.ChangeShapes Go.WideShapes Go.Deep
/-! What the call is handed, as memory that stays. -/
def memOf (W : World) : Imm := fun b => W.heap[b]?
theorem memOf_cell (W : World) (a : Addr) : (memOf W).cell? a = W.cell? a := rfl
theorem memOf_in (W : World) : In (memOf W) W := fun _ _ h => h
def Wt {H : Type} (P : Program) (t : TypeId) (d : DataW H) : Prop := (d.weights P t).all (· ≤ reachBytes) = true
def Rd (P : Program) (W : World) (t : TypeId) {α : Type} (r : Rep α) (sz : Nat) : Prop :=
  ∀ (H : Type) (enc : TypeId × Value → H) (fuel : Nat) (cs : List Value) (d : DataW H) (ps : List MemPlace), DataW.trod enc P W 0 (fun _ => true) true fuel t cs = some (d, ps) → Wt P t d → cs.length = sz ∧ ∃ z, r (memOf W) cs z
section
variable {P : Program} {W : World} {t e : TypeId}
theorem Rd.i64 (ht : P.underlying t = some (.int .i64)) : Rd P W t rI 1 := fun H enc fuel cs d ps h _ => by
  obtain ⟨n, rfl, _, hw⟩ := DataW.trod_int ht h
  simp only [Lit.wf, Bool.and_eq_true, decide_eq_true_eq] at hw
  exact ⟨rfl, n, rfl, hw.1, hw.2⟩
theorem Rd.u64 (ht : P.underlying t = some (.int .u64)) : Rd P W t rU 1 := fun H enc fuel cs d ps h _ => by
  obtain ⟨n, rfl, _, hw⟩ := DataW.trod_int ht h
  simp only [Lit.wf, Bool.and_eq_true, decide_eq_true_eq] at hw
  have h1 : IntKind.u64.min = 0 := rfl
  have h2 : IntKind.u64.max = 18446744073709551615 := rfl
  exact ⟨rfl, n, rfl, by rw [h1] at hw; exact hw.1, by rw [h2] at hw; omega⟩
theorem Rd.u8 (ht : P.underlying t = some (.int .u8)) : Rd P W t rY 1 := fun H enc fuel cs d ps h _ => by
  obtain ⟨n, rfl, _, hw⟩ := DataW.trod_int ht h
  simp only [Lit.wf, Bool.and_eq_true, decide_eq_true_eq] at hw
  have h1 : IntKind.u8.min = 0 := rfl
  have h2 : IntKind.u8.max = 255 := rfl
  rw [h1, h2] at hw
  exact ⟨rfl, n, rfl, hw.1, by omega⟩
theorem weightsAll_mem {H : Type} {l : List (DataW H)} {d : DataW H} (hd : d ∈ l) {x : Nat} (hx : x ∈ d.weights P e) : x ∈ DataW.weightsAll P e l := by
  induction l with
  | nil => cases hd
  | cons y r ih =>
    rw [DataW.weightsAll, List.mem_append]
    rcases List.mem_cons.1 hd with rfl | hd
    · exact .inl hx
    · exact .inr (ih hd)
theorem cells_get {a : Addr} {n : Nat} {cs : List Value} (h : W.cells? 0 a n = some cs) : cs.length = n ∧ ∀ k v, cs[k]? = some v → W.cell? (a.add k) = some v := by
  rw [World.cells?, if_pos (Nat.zero_le _)] at h
  have hl := mapM_some_length h
  rw [List.length_range] at hl
  refine ⟨hl, fun k v hk => ?_⟩
  have hkn : k < n := by rw [← hl]; exact (List.getElem?_eq_some_iff.1 hk).1
  have := mapM_some_get h k k (by rw [List.getElem?_range hkn])
  rw [this]; exact hk
theorem Rd.slice {α : Type} {r : Rep α} {sz : Nat} (ht : P.underlying t = some (.slice e)) (hc : P.cellsOf e = sz) (hb : Nat.ble 1 (P.bytesOf e) = true) (h : Rd P W e r sz) : Rd P W t (rS r sz) 1 := fun H enc fuel cs d ps hd hw => by
  rcases open_slice ht hd with ⟨rfl, hx⟩ | ⟨a, len, cap, m, n, D, Pl, rfl, _, hl, hm, hmc, hx, hel⟩
  · exact ⟨rfl, [], none, 0, rfl, Sl.nil _ _ _⟩
  · simp only [if_true] at hmc
    subst hmc
    obtain ⟨rfl, _⟩ := Prod.mk.inj hx
    refine ⟨rfl, ?_⟩
    have hw' := List.all_eq_true.1 hw
    have hwD : ∀ i, i < len → Wt P e (D i) := fun i hi => List.all_eq_true.2 fun x hx => hw' x (by
      rw [DataW.weights, ht]
      refine List.mem_cons_of_mem _ (List.mem_append.2 (.inl (weightsAll_mem (d := D i) ?_ hx)))
      exact List.mem_map.2 ⟨i, List.mem_range.2 hi, rfl⟩)
    have hlen : len ≤ 140737488355328 := by
      have := hw' (((List.range len).map D).length + ((List.range (m - len)).map fun j => D (len + j)).length |>.mul (P.bytesOf e)) (by rw [DataW.weights, ht]; exact List.mem_cons_self)
      simp only [List.length_map, List.length_range, decide_eq_true_eq] at this
      have h1 : 1 ≤ P.bytesOf e := Nat.le_of_ble_eq_true hb
      have h2 : len + (m - len) ≤ (len + (m - len)) * P.bytesOf e := Nat.le_mul_of_pos_right _ h1
      have h3 : (len + (m - len)).mul (P.bytesOf e) = (len + (m - len)) * P.bytesOf e := rfl
      rw [h3] at this
      have h4 : reachBytes = 140737488351232 := rfl
      omega
    have hall : ∀ k, k ≤ len → ∃ l : List α, l.length = k ∧ ∀ i z, l[i]? = some z → ∃ cs', W.cells? 0 (a.add (i * P.cellsOf e)) (P.cellsOf e) = some cs' ∧ r (memOf W) cs' z := by
      intro k
      induction k with
      | zero => intro _; exact ⟨[], rfl, by simp⟩
      | succ k ih =>
        intro hk
        obtain ⟨l, h1, h2⟩ := ih (by omega)
        obtain ⟨cs', h3, h4⟩ := hel k (by omega)
        obtain ⟨_, z, hz⟩ := h H enc n cs' (D k) (Pl k) h4 (hwD k (by omega))
        refine ⟨l ++ [z], by simp [h1], fun i y hy => ?_⟩
        by_cases hi : i < l.length
        · rw [List.getElem?_append_left hi] at hy; exact h2 i y hy
        · have hlt := (List.getElem?_eq_some_iff.1 hy).1
          rw [List.length_append, List.length_singleton] at hlt
          obtain rfl : i = l.length := by omega
          rw [List.getElem?_append_right (Nat.le_refl _), Nat.sub_self] at hy
          simp only [List.getElem?_cons_zero, Option.some.injEq] at hy
          subst hy
          rw [h1]; exact ⟨cs', h3, hz⟩
    obtain ⟨l, h1, h2⟩ := hall len (Nat.le_refl _)
    refine ⟨l, some a, m, by rw [h1], ⟨by omega, hm, by omega, fun j x hj => ?_⟩⟩
    obtain ⟨cs', h3, h4⟩ := h2 j x hj
    rw [hc] at h3
    obtain ⟨h5, h6⟩ := cells_get h3
    exact ⟨a, rfl, cs', h5, h4, fun k v hk => by rw [memOf_cell, ← Fw.add_add]; exact h6 k v hk⟩
theorem Rd.parts {fs : Array Field} (ht : P.underlying t = some (.struct fs)) {H : Type} {enc : TypeId × Value → H} {fuel : Nat} {cs : List Value} {d : DataW H} {ps : List MemPlace} (h : DataW.trod enc P W 0 (fun _ => true) true fuel t cs = some (d, ps)) (hw : Wt P t d) :
    cs.length = P.cellsOf t ∧ ∀ (i : Nat) (f : Field), fs[i]? = some f → ∃ n d' ps', DataW.trod enc P W 0 (fun _ => true) true n f.type ((cs.drop f.offset).take (P.cellsOf f.type)) = some (d', ps') ∧ Wt P f.type d' := by
  obtain ⟨xs, n, rfl, hx, hl, hxl, hp⟩ := DataW.trod_struct ht h
  obtain ⟨rfl, _⟩ := Prod.mk.inj hx
  refine ⟨hl, fun i f hf => ?_⟩
  have hi : i < xs.length := by rw [hxl]; exact (Array.getElem?_eq_some_iff.1 hf).1
  have h1 := hp i f hf
  rw [List.getElem?_eq_getElem hi] at h1
  refine ⟨n, xs[i].1, xs[i].2, h1, List.all_eq_true.2 fun x hx => List.all_eq_true.1 hw x ?_⟩
  rw [DataW.weights, ht]
  refine DataW.weights_mem_each (j := i) (t := f.type) (d := xs[i].1) ?_ ?_ x hx
  · rw [List.getElem?_map, Array.getElem?_toList, hf]; rfl
  · rw [List.getElem?_map, List.getElem?_eq_getElem hi]; rfl
/-- One field's cells. -/
theorem Rd.field {fs : Array Field} {α : Type} {r : Rep α} {sz : Nat} (ht : P.underlying t = some (.struct fs)) {H : Type} {enc : TypeId × Value → H} {fuel : Nat} {cs : List Value} {d : DataW H} {ps : List MemPlace} (h : DataW.trod enc P W 0 (fun _ => true) true fuel t cs = some (d, ps)) (hw : Wt P t d)
    (i : Nat) {f : Field} (hf : fs[i]? = some f) (hc : P.cellsOf f.type = sz) (hr : Rd P W f.type r sz) : ∃ z, r (memOf W) ((cs.drop f.offset).take sz) z := by
  obtain ⟨n, d', ps', h1, h2⟩ := (Rd.parts ht h hw).2 i f hf
  rw [hc] at h1
  exact (hr H enc n _ d' ps' h1 h2).2
end
end Go.Proofs.YtipmgkhjoekaaaaGreat.Fw

