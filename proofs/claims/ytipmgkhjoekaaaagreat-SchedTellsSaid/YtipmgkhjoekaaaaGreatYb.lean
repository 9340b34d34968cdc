/- A part of a proof about a given program: rules, plain functions and walks. -/
import Derived.Laws.ResultCell
import Derived.Sort.Grow
import Derived.Lib.SlicesCompact
import Derived.LoopN
import Derived.Test.YtipmgkhjoekaaaaGreatYa
set_option linter.unusedVariables false
set_option linter.unusedSimpArgs false
namespace Go.Proofs.YtipmgkhjoekaaaaGreat.Fw
open Go Go.RowKit
section
variable {P : Program} {ops : Array Oper} {Q : Post} {rest : List Oper} {n : Nat} {s : Start} {m : Imm} {R : List Res} {L : Loc}
def RngM (X : Type) (n : Nat) (s : Start) (J : Nat → Imm → X → Prop) (Mf : Nat → X → Loc) (Rf : Nat → X → List Res) (RR : List Res) (F : Loc) (tI tN : Nat) (N k : Nat) (a : Act) (w : World) : Prop :=
  ∃ x m1, J (k + 1) m1 x ∧ Fr n ((tI, .int .i64 (k : Int)) :: (tN, .int .i64 (N : Int)) :: (Mf (k + 1) x ++ F)) a ∧ St s m1 (Rf (k + 1) x ++ RR) w
theorem NX_rngM {X : Type} {J : Nat → Imm → X → Prop} {Mf : Nat → X → Loc} {Rf : Nat → X → List Res} {RR : List Res} {F : Loc} {tI tN N k : Nat} {R' : List Res} {m1 : Imm} (ks : List Nat) (x : X) (hJ : J (k + 1) m1 x) (hL : sel L (tI :: tN :: ks) = (tI, .int .i64 (k : Int)) :: (tN, .int .i64 (N : Int)) :: (Mf (k + 1) x ++ F)) (hs : R'.Sublist R) (hR : R' = Rf (k + 1) x ++ RR) :
    NX (Exit.then (RngM X n s J Mf Rf RR F tI tN N k) Q) n s m1 R L := fun a w hF hS => ⟨x, m1, hJ, hL ▸ hF.keep _, hR ▸ hS.sub hs⟩
theorem C_rangeM {B B' r1 r2 tC tI tN tA : Nat} {T T1 T2 T3 T4 T5 T6 : TypeId} {p1 p2 p3 : String} {f1 f2 f3 : Array Edge} {body : Code}
    (X : Type) (N : Nat) (J : Nat → Imm → X → Prop) (Mf : Nat → X → Loc) (Rf : Nat → X → List Res) (mks ks : List Nat) {F : Loc} {RR : List Res} (x0 : X)
    (hI : lk L tI = some (.int .i64 0)) (hN : lk L tN = some (.int .i64 (N : Int))) (hNle : N ≤ 140737488355328) (h0 : J 0 m x0) (hM : sel L mks = Mf 0 x0) (hks : sel L ks = F) (hR : R = Rf 0 x0 ++ RR)
    (d1 : Nat.blt tC n = true) (d2 : Nat.blt tI n = true) (d3 : Nat.blt tA n = true) (q5 : Nat.beq tI tN = false)
    (q6 : ∀ (k : Nat) x, (lk ((tI, .int .i64 (k : Int)) :: (tN, .int .i64 (N : Int)) :: (Mf k x ++ F)) tC).isNone = true) (q8 : ∀ (k : Nat) x, (lk ((tN, .int .i64 (N : Int)) :: (Mf k x ++ F)) tA).isNone = true)
    (round : ∀ k m1 x, k < N → J k m1 x → CW P body (Exit.inBlock B' (Exit.then (RngM X n s J Mf Rf RR F tI tN N k) (Exit.inBlock B Q))) n s m1 (Rf k x ++ RR) ((tI, .int .i64 (k : Int)) :: (tN, .int .i64 (N : Int)) :: (Mf k x ++ F)))
    (fin : ∀ m1 x, J N m1 x → NX Q n s m1 (Rf N x ++ RR) ((tI, .int .i64 (N : Int)) :: (tN, .int .i64 (N : Int)) :: (Mf N x ++ F))) :
    CW P (.block B (.loop (.seq (.region r1 #[⟨some tC, .binOp .lss T (.tmp tI) (.tmp tN) T1, T2, p1, f1, none⟩] false) (.seq (.cond (.tmp tC) .skip (.exit B)) (.seq (.block B' body)
      (.region r2 #[⟨some tA, .binOp .add T3 (.tmp tI) (.const (.int .i64 1)) T4, T5, p2, f2, none⟩, ⟨some tI, .move (.tmp tA), T6, p3, f3, none⟩] false)))))) Q n s m R L := by
  subst hks
  have hrf : ∀ t, Nat.beq t t = true := fun t => Nat.beq_refl t
  refine CW_block (fun a w hF hS => ?_)
  refine wp_loop_ghost (fun q a w => ∃ k m1 x, k ≤ N ∧ q = N - k ∧ J k m1 x ∧ Fr n ((tI, .int .i64 (k : Int)) :: (tN, .int .i64 (N : Int)) :: (Mf k x ++ sel L ks)) a ∧ St s m1 (Rf k x ++ RR) w) N ⟨0, m, x0, Nat.zero_le _, rfl, h0, ?_, hR ▸ hS⟩ (fun q a w h => ?_)
  · have h1 := hF.keep (tI :: tN :: (mks ++ ks))
    simp only [sel, hI, hN, sel_append, hM] at h1
    exact h1
  · obtain ⟨k, m1, x, hk, hq, hJ, hF, hS⟩ := h
    refine (?_ : CW P _ _ n s m1 (Rf k x ++ RR) ((tI, .int .i64 (k : Int)) :: (tN, .int .i64 (N : Int)) :: (Mf k x ++ sel L ks))) a w hF hS
    have e1 : ev ((tI, Value.int .i64 (k : Int)) :: (tN, .int .i64 (N : Int)) :: (Mf k x ++ sel L ks)) (.tmp tI) = some (.int .i64 (k : Int)) := by simp only [ev, lk, hrf]
    have e2 : ev ((tI, Value.int .i64 (k : Int)) :: (tN, .int .i64 (N : Int)) :: (Mf k x ++ sel L ks)) (.tmp tN) = some (.int .i64 (N : Int)) := by simp only [ev, lk, q5, hrf]
    refine CW_seq (CW_region (W_q (r_bin e1 e2 (bin_lss _ _ _ _)) d1 (W_nil (NX_then (CW_seq ?_)))))
    refine CW_cond (t := decide ((k : Int) < (N : Int))) (by simp only [ev, lk, hrf]) (fun ht => C_skip (NX_then (CW_seq (CW_block ?_)))) (fun hf => C_exit (EX_then (EX_then (EX_hit ?_))))
    · have hlt : k < N := by simpa using ht
      intro a w hF hS
      refine wp_mono (round k m1 x hlt hJ a w (hF.del (q6 k x)) hS) ?_
      intro e a' w' hq'
      have hnext : ∀ (Q' : Post), RngM X n s J Mf Rf RR (sel L ks) tI tN N k a' w' → (Code.region r2 #[⟨some tA, .binOp .add T3 (.tmp tI) (.const (.int .i64 1)) T4, T5, p2, f2, none⟩, ⟨some tI, .move (.tmp tA), T6, p3, f3, none⟩] false).wp P
          (Exit.then (fun a' w' => ∃ n', n' < q ∧ ∃ k m1 x, k ≤ N ∧ n' = N - k ∧ J k m1 x ∧ Fr n ((tI, .int .i64 (k : Int)) :: (tN, .int .i64 (N : Int)) :: (Mf k x ++ sel L ks)) a' ∧ St s m1 (Rf k x ++ RR) w') Q') a' w' := by
        rintro Q' ⟨x', m2, hJ', hF', hS'⟩
        refine (?_ : CW P _ _ n s m2 (Rf (k + 1) x' ++ RR) ((tI, .int .i64 (k : Int)) :: (tN, .int .i64 (N : Int)) :: (Mf (k + 1) x' ++ sel L ks))) a' w' hF' hS'
        refine CW_region (W_q (r_add (x := .tmp tI) (y := .const (.int .i64 1)) (i := (k : Int)) (j := 1) (by simp only [ev, lk, hrf]) rfl ⟨by omega, by omega⟩) d3 ?_)
        refine W_q (r_move (x := .tmp tA) (v := .int .i64 ((k : Int) + 1)) (by simp only [ev, lk, hrf])) d2 ?_
        refine W_nil (NX_to fun a w hF hS => ⟨N - (k + 1), by omega, k + 1, m2, x', by omega, rfl, hJ', ?_, hS⟩)
        refine ⟨hF.size, hF.defers, fun u z hu => hF.get u z ?_⟩
        simp only [lk] at hu ⊢
        cases hb : Nat.beq tI u with
        | true => rw [hb] at hu; exact hu
        | false =>
          rw [hb] at hu
          simp only at hu ⊢
          cases hb3 : Nat.beq tA u with
          | false => exact hu
          | true =>
            obtain rfl := Nat.eq_of_beq_eq_true hb3
            have h8 := q8 (k + 1) x'
            simp only [lk] at h8
            rw [hu] at h8; simp at h8
      cases e with
      | normal => exact hnext _ hq'
      | exit id =>
        by_cases hid : id = B'
        · subst hid
          simp only [Exit.inBlock, if_true] at hq' ⊢
          exact hnext _ hq'
        · simp only [Exit.inBlock, hid, if_false] at hq' ⊢
          exact hq'
      | goto l => exact hq'
      | ret => exact hq'
      | panic ch => exact hq'
      | outgrown => exact hq'
    · have hge : k = N := by
        have : ¬ (k : Int) < (N : Int) := by simpa using hf
        omega
      subst hge
      exact fun a w hF hS => fin m1 x hJ a w (hF.del (q6 k x)) hS
variable {d : Nat} {dst : Option Nat} {ty : TypeId} {pos : String} {af : Array Edge} {g : Option (Nat × Bool)} {x y : Operand}
theorem S_make0 {T E sz bytes : Nat} {i j : Int} {z : Value} {k k' : IntKind} (cap : Nat) (hT : P.underlying T = some (.slice E)) (hs : sz? P E = some sz) (hz : zero? P E = some z) (hby : byt? P E = some bytes) (hx : ev L x = some (.int k i)) (hy : ev L y = some (.int k' j)) (hi : i = 0) (hj : j = (cap : Int))
    (hb : bytes * cap ≤ 140737488355328) (hm : cap ≤ maxLen) (hd : Nat.blt d n = true)
    (next : ∀ b, WL P ops Q rest n s m (row (some b) 0 cap E sz [] :: R) ((d, .slice (some ⟨b, 0, none⟩) 0 cap) :: L)) :
    WL P ops Q (⟨some d, .makeSlice T x y, ty, pos, af, none⟩ :: rest) n s m R L :=
  WL_runw rfl rfl hd fun a w hF hS => by
    subst hi hj
    unfold sz? at hs; unfold zero? at hz; unfold byt? at hby
    cases hin : P.info? E with
    | none => rw [hin] at hs; cases hs
    | some inf =>
      rw [hin] at hs hz hby
      simp only [Option.map_some, Option.some.injEq, Option.bind_some] at hs hz hby
      obtain ⟨w', hr, ho, hg⟩ := run_make_own (P := P) w 0 T E inf z sz hT hin hz hs k k' cap (by rw [hby]; omega) hm (Nat.zero_le _)
      refine ⟨_, w', m, _, ?_, hS.allocR ⟨hg.os, hg.tape, hg.output, hg.size, fun b hb => hg.block b hb (by simp)⟩ (row (some w.heap.size) 0 cap E sz []) ho (fun k hk => by cases hk; exact Nat.le_refl _), next _⟩
      simp only [execOp, hF.eval hx, hF.eval hy, Sem.run_bind, hr, Result.andThen_ok]; rfl
def Res? (P : Program) (fn : Go.Func) (n : Nat) (s : Start) (m : Imm) (R : List Res) (L : Loc) (v : Value) : Prop := ∀ a w, Fr n L a → St s m R w → (results fn a.tmps).run P w = .ok v w
theorem loadVar_bx {T E b o : Nat} {l vs : List Value} {w : World} (h : (bx b E l).holds w) (hT : agg? P T = some true) (hs : sz? P T = some vs.length) (hv : ∀ j v, vs[j]? = some v → l[o + j]? = some v) : (loadVar T ⟨b, o, none⟩).run P w = .ok (.agg vs.toArray) w := by
  have hc : ∀ j v, vs[j]? = some v → w.cell? ((⟨b, o, none⟩ : Addr).add j) = some v := fun j v hj => by rw [add_plain, bx_cell h]; exact hv j v hj
  simp [loadVar, run_isAgg_of hT, run_sizeOf_of hs, run_loadCells_list (P := P) w ⟨b, o, none⟩ vs hc]
theorem res_c {fn : Go.Func} {p T b E : Nat} {l : List Value} (i : Nat) (hr : fn.results = #[.cell p T]) (hp : lk L p = some (.pointer (some ⟨b, 0, none⟩))) (hi : R[i]? = some (bx b E l)) (hT : agg? P T = some true) (hs : sz? P T = some l.length) : Res? P fn n s m R L (.agg l.toArray) := fun a w hF hS => by
  have e : a.tmps.getD p undef = .pointer (some ⟨b, 0, none⟩) := by rw [Array.getD_eq_getD_getElem?, hF.get p _ hp]; rfl
  have e' : a.tmps[p]?.getD undef = .pointer (some ⟨b, 0, none⟩) := by simpa using e
  have hl := loadVar_bx (P := P) (T := T) (o := 0) (vs := l) (hS.at hi) hT hs (fun j v hj => by simpa using hj)
  simp [results, hr, e', asAddr, hl]
theorem res_ct {fn : Go.Func} {p T b E t : Nat} {l : List Value} {u : Value} (i : Nat) (hr : fn.results = #[.cell p T, .tmp t]) (hp : lk L p = some (.pointer (some ⟨b, 0, none⟩))) (hi : R[i]? = some (bx b E l)) (hT : agg? P T = some true) (hs : sz? P T = some l.length) (ht : lk L t = some u) : Res? P fn n s m R L (.tuple #[.agg l.toArray, u]) := fun a w hF hS => by
  have e : a.tmps.getD p undef = .pointer (some ⟨b, 0, none⟩) := by rw [Array.getD_eq_getD_getElem?, hF.get p _ hp]; rfl
  have e2 : a.tmps.getD t undef = u := by rw [Array.getD_eq_getD_getElem?, hF.get t _ ht]; rfl
  have hl := loadVar_bx (P := P) (T := T) (o := 0) (vs := l) (hS.at hi) hT hs (fun j v hj => by simpa using hj)
  rw [results_cell_tmp hr, e, e2]
  simp [asAddr, hl, Result.andThen]
theorem RX_gR {fn : Go.Func} {v' : Value} {w0 : World} {m0 : Imm} {Φ : Imm → Value → Prop} (hr : Res? P fn n ⟨w0, m0, fun _ => False⟩ m R L v') (he : Φ m v') :
    RX (bodyPost P fn fun e w' => ∃ v m', e = .returned v ∧ Φ m' v ∧ Evolve w0 w' ∧ Ext w0.heap.size m0 m' ∧ In m' w') n ⟨w0, m0, fun _ => False⟩ m R L := fun a w hF hS => ⟨hF.defers, v', hr a w hF hS, v', m, rfl, he, hS.ev, hS.ext, hS.inW⟩
theorem RX_qR {fn : Go.Func} {v v' : Value} {w0 : World} {m0 : Imm} (hr : Res? P fn n ⟨w0, m0, fun _ => False⟩ m R L v') (he : v' = v) :
    RX (bodyPost P fn fun e w' => e = .returned v ∧ Evolve w0 w') n ⟨w0, m0, fun _ => False⟩ m R L := fun a w hF hS => ⟨hF.defers, v', hr a w hF hS, by rw [he], hS.ev⟩
def SlCells (m : Imm) (xs : List Value) (ll : List (List Int)) : Prop := xs.length = ll.length ∧ ∀ (j : Nat) (v : Value) (l : List Int), xs[j]? = some v → ll[j]? = some l → ∃ A c, v = .slice A l.length c ∧ Ints m A c l
theorem SlCells.nil (m : Imm) : SlCells m [] [] := ⟨rfl, by simp⟩
theorem SlCells.mono {m m' : Imm} {xs : List Value} {ll : List (List Int)} (h : SlCells m xs ll) (hm : m.le m') : SlCells m' xs ll := ⟨h.1, fun j v l hj hl => by
  obtain ⟨A, c, e, hI⟩ := h.2 j v l hj hl
  exact ⟨A, c, e, hI.mono rI_mono hm⟩⟩
theorem SlCells.snoc {m : Imm} {xs : List Value} {ll : List (List Int)} {A : Option Addr} {c : Nat} {l : List Int} (h : SlCells m xs ll) (hI : Ints m A c l) : SlCells m (xs ++ [.slice A l.length c]) (ll ++ [l]) := by
  refine ⟨by simp [h.1], fun j v l' hj hl => ?_⟩
  by_cases hjn : j < xs.length
  · rw [List.getElem?_append_left hjn] at hj
    rw [List.getElem?_append_left (by rw [← h.1]; exact hjn)] at hl
    exact h.2 j v l' hj hl
  · have hlt := (List.getElem?_eq_some_iff.1 hj).1
    simp only [List.length_append, List.length_cons, List.length_nil] at hlt
    have e : j = xs.length := by omega
    subst e
    rw [List.getElem?_append_right (by omega), Nat.sub_self] at hj
    rw [List.getElem?_append_right (by rw [h.1]; omega), h.1, Nat.sub_self] at hl
    simp only [List.getElem?_cons_zero, Option.some.injEq] at hj hl
    subst hj hl
    exact ⟨A, c, rfl, hI⟩
theorem SlCells.sl {m : Imm} {xs : List Value} {ll : List (List Int)} {g' : Option Nat} {cap : Nat} (h : SlCells m xs ll) (hf : Frz g' xs m) (h1 : ll.length ≤ cap) (h2 : cap ≤ maxLen) (hlen : ll.length ≤ 140737488355328) (hg : 0 < ll.length → ∃ b, g' = some b) : Sl (rS rI 1) 1 m (rowA g') cap ll :=
  Sl_frz hf h1 h2 hlen hg fun j l hj => by
    have hlt : j < xs.length := by rw [h.1]; exact (List.getElem?_eq_some_iff.1 hj).1
    obtain ⟨A, c, e, hI⟩ := h.2 j _ l (List.getElem?_eq_getElem hlt) hj
    refine ⟨[xs[j]], rfl, ⟨A, c, by rw [e], hI⟩, fun k v hk => ?_⟩
    rcases k with _ | k
    · simp only [List.getElem?_cons_zero, Option.some.injEq] at hk; subst hk; simp
    · simp at hk
end
theorem Pre.putG {m : Imm} {R : List Res} {w : World} {i : Nat} {r : Res} (h : Pre m R w) (hi : R[i]? = some r) : ∃ m', Pre m' (R.eraseIdx i) w ∧ m.le m' ∧ ∀ k, r.has k → m' k = w.heap[k]? := by
  classical
  obtain ⟨h1, h2⟩ := eraseIdx_split hi
  have hmem : r ∈ R := List.mem_of_getElem? hi
  let m' : Imm := fun k => if r.has k then w.heap[k]? else m k
  have hin : ∀ k, r.has k → m' k = w.heap[k]? := fun k hk => if_pos hk
  have hout : ∀ k, ¬ r.has k → m' k = m k := fun k hk => if_neg hk
  refine ⟨m', ?_, fun k u hk => ?_, hin⟩
  · have hsub : (R.eraseIdx i).Sublist R := List.eraseIdx_sublist _ _
    have h' := h.sub hsub
    have hother : ∀ x ∈ R.eraseIdx i, ∀ k, r.has k → ¬ x.has k := by
      intro x hx k hk hxk
      have hpw := h.pair
      rw [h1] at hpw
      rw [h2] at hx
      have hpw' := List.pairwise_append.1 hpw
      rcases List.mem_append.1 hx with hx | hx
      · exact hpw'.2.2 x hx r (by simp) k hxk hk
      · exact (List.pairwise_cons.1 hpw'.2.1).1 x hx k hk hxk
    refine ⟨fun k u hk => ?_, h'.holds, fun x hx k hk => ?_, h'.pair⟩
    · by_cases hr : r.has k
      · rw [hin k hr] at hk; exact hk
      · rw [hout k hr] at hk; exact h.inW k u hk
    · by_cases hr : r.has k
      · exact absurd hk (hother x hx k hr)
      · rw [hout k hr]; exact h'.apart x hx k hk
  · by_cases hr : r.has k
    · have := h.apart r hmem k hr; rw [hk] at this; cases this
    · rw [hout k hr]; exact hk
theorem Pre.putRow {m : Imm} {R : List Res} {w : World} {i e sz n' cap : Nat} {gg : Option Nat} {xs : List Value} (h : Pre m R w) (hi : R[i]? = some (row gg n' cap e sz xs)) : ∃ m', Pre m' (R.eraseIdx i) w ∧ m.le m' ∧ Frz gg xs m' := by
  obtain ⟨m', h1, h2, h3⟩ := h.putG hi
  refine ⟨m', h1, h2, fun b hb o v hv => ?_⟩
  subst hb
  obtain ⟨hl, hn, hcm, _, hb⟩ := row_g (h.at hi)
  obtain ⟨cur, hg, hs0, ht0⟩ := hb b rfl
  have := h3 b rfl
  rw [hg] at this
  simp only [Imm.cell?, this, Option.isSome_none, Bool.false_eq_true, if_false]
  rw [← ht0, List.getElem?_take] at hv
  split at hv
  · simpa using hv
  · cases hv
theorem Pre.putInts {m : Imm} {R : List Res} {w : World} {i E cap : Nat} {gg : Option Nat} {l : List Int} (h : Pre m R w) (hi : R[i]? = some (rowI E gg cap l)) (hr : ∀ z ∈ l, I64 z) (hlen : l.length ≤ 140737488355328) : ∃ m', Pre m' (R.eraseIdx i) w ∧ m.le m' ∧ Ints m' (rowA gg) cap l := by
  obtain ⟨m', h1, h2, h3⟩ := h.putRow hi
  have hx := row_g (h.at hi)
  exact ⟨m', h1, h2, Ints_frz h3 hx.2.1 hx.2.2.1 hlen (fun hp => by
    cases hg : gg with
    | none => have := (hx.2.2.2.1 hg).1; omega
    | some b => exact ⟨b, rfl⟩) hr⟩
theorem r_quietI2 {P : Program} {n : Nat} {m : Imm} {R : List Res} {L : Loc} {dst : Option Nat} {ty : TypeId} {pos : String} {af : Array Edge} {g : Option (Nat × Bool)}
    {f : FuncId} {xs : List Operand} {tys : Array TypeId} {vs : List Value} {v : Value} {E1 E2 c1 c2 : Nat} {g1 g2 : Option Nat} {l1 l2 : List Int} (i j : Nat) (hi : R[i]? = some (rowI E1 g1 c1 l1)) (hj : (R.eraseIdx i)[j]? = some (rowI E2 g2 c2 l2))
    (h1 : ∀ z ∈ l1, I64 z) (h2 : ∀ z ∈ l2, I64 z) (n1 : l1.length ≤ 140737488355328) (n2 : l2.length ≤ 140737488355328)
    (hq : ∀ m', m.le m' → Ints m' (rowA g1) c1 l1 → Ints m' (rowA g2) c2 l2 → Quiet P f vs m' v) (hf : hasBody P f = true) (hxs : evs L xs = some vs) : Qt P ⟨dst, .call ⟨.value (.func f), xs.toArray, tys⟩, ty, pos, af, g⟩ n m R L v :=
  r_quietx (fun w hp => by
    obtain ⟨m1, p1, le1, a1⟩ := hp.putInts hi h1 n1
    obtain ⟨m2, p2, le2, a2⟩ := p1.putInts hj h2 n2
    exact ⟨m2, p2.inW, hq m2 (Imm.le_trans le1 le2) (a1.mono rI_mono le2) a2⟩) hf hxs
section
variable {P : Program} {Q : Post} {n : Nat} {s : Start} {m : Imm} {R : List Res} {L : Loc}
def SafeK (P : Program) (rest : Code) (l : Nat) (Q : Post) : Nat → Act → World → Prop
  | 0 => fun _ _ => False
  | k + 1 => fun a w => rest.wp P (Exit.jump l (SafeK P rest l Q k) Q) a w
def Safe (P : Program) (rest : Code) (l : Nat) (Q : Post) (a : Act) (w : World) : Prop := ∃ k, SafeK P rest l Q k a w
theorem jump_mono {l : Nat} {J J' : Act → World → Prop} (h : ∀ a w, J a w → J' a w) : ∀ e a w, Exit.jump l J Q e a w → Exit.jump l J' Q e a w := by
  intro e a w hq
  cases e with
  | goto l' => exact ⟨hq.1, h _ _ hq.2⟩
  | normal => exact hq
  | exit id => exact hq
  | ret => exact hq
  | panic ch => exact hq
  | outgrown => exact hq
theorem C_scope {c rest : Code} (l : Nat) (hf : findLabel c l = some rest) (h : CW P c (Exit.jump l (Safe P rest l Q) Q) n s m R L) : CW P (.scope c) Q n s m R L := fun a w hF hS =>
  wp_scope_jumps l (Safe P rest l Q) (fun a w => leastOf (fun k => SafeK P rest l Q k a w)) hf (h a w hF hS) (fun a w hs => by
    have h1 := (leastOf_spec hs).1
    generalize leastOf (fun k => SafeK P rest l Q k a w) = k at h1
    cases k with
    | zero => exact h1.elim
    | succ k => exact wp_mono h1 (jump_mono fun a' w' h' => ⟨⟨k, h'⟩, Nat.lt_of_le_of_lt ((leastOf_spec ⟨k, h'⟩).2 k h') (Nat.lt_succ_self k)⟩))
def Low (X : Type) (n : Nat) (s : Start) (J : Imm → X → Prop) (μ : X → Nat) (Mf : X → Loc) (Rf : X → List Res) (RR : List Res) (F : Loc) (x : X) (a : Act) (w : World) : Prop :=
  ∃ x' m1, μ x' < μ x ∧ J m1 x' ∧ Fr n (Mf x' ++ F) a ∧ St s m1 (Rf x' ++ RR) w
theorem safe_of {rest : Code} {l : Nat} {X : Type} {J : Imm → X → Prop} {μ : X → Nat} {Mf : X → Loc} {Rf : X → List Res} {RR : List Res} {F : Loc}
    (pass : ∀ m1 x, J m1 x → CW P rest (Exit.jump l (Low X n s J μ Mf Rf RR F x) Q) n s m1 (Rf x ++ RR) (Mf x ++ F)) :
    ∀ (k : Nat) (x : X) (m1 : Imm) (a : Act) (w : World), μ x < k → J m1 x → Fr n (Mf x ++ F) a → St s m1 (Rf x ++ RR) w → SafeK P (.seq .skip rest) l Q k a w := by
  intro k
  induction k with
  | zero => intro x m1 a w h; omega
  | succ k ih =>
    intro x m1 a w hk hJ hF hS
    refine wp_seq (wp_skip ?_)
    exact wp_mono (pass m1 x hJ a w hF hS) (jump_mono fun a' w' h' => by
      obtain ⟨x', m2, hlt, hJ', hF', hS'⟩ := h'
      exact ih x' m2 a' w' (by omega) hJ' hF' hS')
theorem C_again {rest : Code} {l : Nat} (X : Type) (J : Imm → X → Prop) (μ : X → Nat) (Mf : X → Loc) (Rf : X → List Res) (mks ks : List Nat) {F : Loc} {RR : List Res} (x0 : X) (h0 : J m x0) (hM : sel L mks = Mf x0) (hks : sel L ks = F) (hR : R = Rf x0 ++ RR)
    (pass : ∀ m1 x, J m1 x → CW P rest (Exit.jump l (Low X n s J μ Mf Rf RR F x) Q) n s m1 (Rf x ++ RR) (Mf x ++ F)) :
    CW P (.seq (.label l) rest) (Exit.jump l (Safe P (.seq .skip rest) l Q) Q) n s m R L := fun a w hF hS => by
  subst hks hR
  refine wp_seq (wp_label ?_)
  have h1 := hF.keep (mks ++ ks)
  rw [sel_append, hM] at h1
  exact wp_mono (pass m x0 h0 a w h1 hS) (jump_mono fun a' w' h' => by
    obtain ⟨x', m2, hlt, hJ', hF', hS'⟩ := h'
    exact ⟨_, safe_of pass (μ x' + 1) x' m2 a' w' (Nat.lt_succ_self _) hJ' hF' hS'⟩)
theorem GX_low {l : Nat} {X : Type} {J : Imm → X → Prop} {μ : X → Nat} {Mf : X → Loc} {Rf : X → List Res} {RR : List Res} {F : Loc} {x : X} {R' : List Res} (ks : List Nat) (x' : X) (hμ : μ x' < μ x) (hJ : J m x') (hL : sel L ks = Mf x' ++ F) (hs : R'.Sublist R) (hR : R' = Rf x' ++ RR) :
    GX l (Exit.jump l (Low X n s J μ Mf Rf RR F x) Q) n s m R L := fun a w hF hS => ⟨rfl, x', m, hμ, hJ, hL ▸ hF.keep ks, hR ▸ hS.sub hs⟩
def At (X : Type) (n : Nat) (s : Start) (J : Imm → X → Prop) (Mf : X → Loc) (Rf : X → List Res) (RR : List Res) (F : Loc) (a : Act) (w : World) : Prop :=
  ∃ x m1, J m1 x ∧ Fr n (Mf x ++ F) a ∧ St s m1 (Rf x ++ RR) w
theorem C_ahead {c rest : Code} (l : Nat) (hf : findLabel c l = some rest) (X : Type) (J : Imm → X → Prop) (Mf : X → Loc) (Rf : X → List Res) (ks : List Nat) {F : Loc} {RR : List Res} (hks : sel L ks = F) (hRR : R = RR)
    (first : CW P c (Exit.jump l (At X n s J Mf Rf RR F) Q) n s m R L)
    (pass : ∀ m1 x, J m1 x → CW P rest (Exit.jump l (fun _ _ => False) Q) n s m1 (Rf x ++ RR) (Mf x ++ F)) : CW P (.scope c) Q n s m R L := fun a w hF hS => by
  refine wp_scope_jumps l (At X n s J Mf Rf RR F) (fun _ _ => 0) hf (first a w hF hS) (fun a w h => ?_)
  obtain ⟨x, m1, hJ, hF, hS⟩ := h
  exact wp_mono (pass m1 x hJ a w hF hS) (jump_mono fun _ _ h => h.elim)
theorem GX_ahead {l : Nat} {X : Type} {J : Imm → X → Prop} {Mf : X → Loc} {Rf : X → List Res} {RR : List Res} {F : Loc} {R' : List Res} (ks : List Nat) (x : X) (hJ : J m x) (hL : sel L ks = Mf x ++ F) (hs : R'.Sublist R) (hR : R' = Rf x ++ RR) :
    GX l (Exit.jump l (At X n s J Mf Rf RR F) Q) n s m R L := fun a w hF hS => ⟨rfl, x, m, hJ, hL ▸ hF.keep ks, hR ▸ hS.sub hs⟩
end
section
variable {P : Program} {ops : Array Oper} {Q : Post} {rest : List Oper} {n : Nat} {s : Start} {m : Imm} {R : List Res} {L : Loc}
variable {d : Nat} {dst : Option Nat} {ty : TypeId} {pos : String} {af : Array Edge} {g : Option (Nat × Bool)} {x y : Operand}
theorem WL_front {r : Res} {R' : List Res} (i : Nat) (hi : R[i]? = some r) (hR : R.eraseIdx i = R') (next : WL P ops Q rest n s m (r :: R') L) : WL P ops Q rest n s m R L := fun a w hF hS => next a w hF (hS.perm (hR ▸ front_perm hi))
theorem St.trimI {w : World} {i E cap : Nat} {gg : Option Nat} {l : List Int} (h : St s m R w) (hi : R[i]? = some (rowI E gg cap l)) (k : Nat) : St s m (R.set i (rowI E gg cap (l.take k))) w := by
  obtain ⟨hl, h1, h2, h3, hb⟩ := row_g (h.at hi)
  refine h.turn (r' := rowI E gg cap (l.take k)) hi rfl rfl rfl (Nat.le_refl _) (fun b _ _ => rfl) ?_ (fun b hb => .inl hb)
  cases gg with
  | none =>
    obtain ⟨h4, h5⟩ := h3 rfl
    have : l = [] := by simpa using h4
    subst this h5
    simp only [List.take_nil]; exact row_nil E 1 w
  | some b =>
    obtain ⟨cur, hg, hs, ht⟩ := hb b rfl
    refine row_mk (cur := cur) (by simp) hg (by simp; omega) h2 hs ?_
    rw [← List.map_take.symm, ← ht, List.take_take]
    simp only [List.length_take, Nat.mul_one]
theorem WL_trimI {E cap : Nat} {gg : Option Nat} {l l' : List Int} (i k : Nat) (hi : R[i]? = some (rowI E gg cap l)) (he : l.take k = l') (next : WL P ops Q rest n s m (R.set i (rowI E gg cap l')) L) : WL P ops Q rest n s m R L := fun a w hF hS => next a w hF (he ▸ hS.trimI hi k)
theorem r_loadbm {α : Type} {f : α → Value} {T E b o : Nat} {l : List α} {v : α} (i : Nat) (hx : ev L x = some (.pointer (some ⟨b, o, none⟩))) (hT : agg? P T = some false) (hi : R[i]? = some (bx b E (l.map f))) (hv : l[o]? = some v) : Qt P ⟨dst, .load T x, ty, pos, af, g⟩ n m R L (f v) := r_loadb i hx hT hi (by rw [List.getElem?_map, hv]; rfl)
theorem S_storebm {α : Type} {f : α → Value} {T E b o : Nat} {l : List α} (v : α) (i : Nat) (hx : ev L x = some (.pointer (some ⟨b, o, none⟩))) (hy : ev L y = some (f v)) (hc : (f v).cells = #[f v]) (h1 : (f v).oneCell' = true) (hs : sz? P T = some 1) (hi : R[i]? = some (bx b E (l.map f)))
    (ho : o < l.length) (next : WL P ops Q rest n s m (R.set i (bx b E ((l.set o v).map f))) L) : WL P ops Q (⟨none, .store T x y, ty, pos, af, none⟩ :: rest) n s m R L :=
  S_storeba i hx hy hc h1 hs hi (by simpa using ho) (by have := next; rwa [List.map_set] at this)
def tlA (A : Option Addr) (c sz : Nat) : Option Addr := if c = 1 then A else A.map fun ad => ad.add sz
theorem Sl.tail {α : Type _} {r : Rep α} {sz c : Nat} {A : Option Addr} {l : List α} (h : Sl r sz m A c l) (hl : 0 < l.length) : Sl r sz m (tlA A c sz) (c - 1) (l.drop 1) := by
  have h1 := h.le; have h2 := h.cap; have h3 := h.len
  refine ⟨by simp; omega, by omega, by simp; omega, fun j z hj => ?_⟩
  rw [List.getElem?_drop] at hj
  obtain ⟨ad, rfl, es, h4, h5, h6⟩ := h.at_ (1 + j) z hj
  have hjl := (List.getElem?_eq_some_iff.1 hj).1
  have hj1 := (List.getElem?_eq_some_iff.1 hj).1
  refine ⟨ad.add sz, by rw [tlA, if_neg (show ¬ c = 1 by omega)]; rfl, es, h4, h5, fun k v hk => ?_⟩
  have := h6 k v hk
  rw [show (1 + j) * sz + k = sz + (j * sz + k) by rw [Nat.add_mul, Nat.one_mul]; omega] at this
  rw [← this]
  rw [add_add]
theorem r_sltail {T E : TypeId} {A : Option Addr} {len c sz : Nat} {k : IntKind} (hT : P.underlying T = some (.slice E)) (hx : ev L x = some (.slice A len c)) (hy : ev L y = some (.int k 1)) (hl : 0 < len) (hlc : len ≤ c) (hs : sz? P E = some sz) : Qt P ⟨dst, .slice T x (some y) none none, ty, pos, af, g⟩ n m R L (.slice (tlA A c sz) (len - 1) (c - 1)) :=
  .of fun a w hF _ => by
    have h1 : (0 : Int) ≤ (1 : Int) ∧ (1 : Int) ≤ (len : Int) := by omega
    have h2 : (1 : Nat) ≤ len := hl
    have e' : (if c = 1 then A else A.map fun x => x.add sz) = tlA A c sz := rfl
    simp [execOp, hF.eval hx, hF.eval hy, Instr.sliceAt, Instr.slice, run_underlying hT, Instr.sliceBounds, Instr.sliceBound, asIntOf, h1, h2, run_sizeOf_of hs]
    exact e'
end
end Go.Proofs.YtipmgkhjoekaaaaGreat.Fw
namespace Go.Proofs.YtipmgkhjoekaaaaGreat.Fw
open Go Go.RowKit Go.Sort
theorem holds_row {E b cap : Nat} {l : List Int} {w : World} (h : (rowI E (some b) cap l).holds w) : Holds (Value.int .i64) w b 0 l.toArray ∧ b < w.heap.size := by
  obtain ⟨hl, h1, h2, _, hb⟩ := row_g h
  obtain ⟨cur, hg, hs, ht⟩ := hb b rfl
  refine ⟨fun j hj => ?_, (Array.getElem?_eq_some_iff.1 hg).1⟩
  have hj' : j < l.length := by simpa using hj
  refine ⟨?_, by simp [World.frozen?, hg]⟩
  have h3 : (l.map (Value.int .i64))[j]? = some (.int .i64 l[j]) := by simp [hj']
  rw [← ht, List.getElem?_take_of_lt (by omega)] at h3
  simp only [World.cell?, hg, Nat.zero_add]
  simp only [Option.isSome_none, Bool.false_eq_true, if_false]
  rw [← Array.getElem?_toList, h3]
  simp [hj']
theorem heap_put {b n : Nat} {os : Array Obj} {cur : Array Value} {e : TypeId} {fr : Nat × Nat} {w : World} (d : Array Int) (hb : w.heap[b]? = some (.cells cur e fr)) :
    (grow (putRow (Value.int .i64) (Sort.ahead w n) b 0 d) os).heap[b]? = some (.cells (putCells (Value.int .i64) 0 d cur) e fr) := by
  have hg : b < w.heap.size := (Array.getElem?_eq_some_iff.1 hb).1
  rw [heap_grow_old _ _ (by simpa using hg)]
  simp [putRow, mapBlock, Sort.ahead, Array.getElem?_modify, hb, onCells]
theorem take_put (cur : Array Value) (l : List Int) (h : l.length ≤ cur.size) : (putCells (Value.int .i64) 0 l.toArray cur).toList.take l.length = l.map (Value.int .i64) := by
  apply List.ext_getElem?
  intro j
  by_cases hj : j < l.length
  · rw [List.getElem?_take_of_lt hj, Array.getElem?_toList]
    simp [putCells, hj, show j < cur.size by omega]
  · rw [List.getElem?_take_eq_none (by omega), List.getElem?_eq_none (by simp; omega)]
theorem St.put {s : Start} {m : Imm} {R : List Res} {w : World} {i E b cap n : Nat} {l l' : List Int} {os : Array Obj} (hS : St s m R w) (hi : R[i]? = some (rowI E (some b) cap l)) (hl : l'.length = l.length) :
    St s m (R.set i (rowI E (some b) cap l')) (Go.Sort.grow (putRow (Value.int .i64) (Sort.ahead w n) b 0 l'.toArray) os) := by
  obtain ⟨h0, h1, h2, _, hb⟩ := row_g (hS.at hi)
  obtain ⟨cur, hg, hs, ht⟩ := hb b rfl
  refine hS.turn (r' := rowI E (some b) cap l') hi rfl rfl rfl (by simp [Go.Sort.grow]) (fun k hk hne => ?_) ?_ (fun k hk => .inl hk)
  · rw [heap_grow_old _ _ (by simpa using hk)]
    have : b ≠ k := fun e => hne (by show some b = some k; rw [e])
    simp [putRow, mapBlock, Sort.ahead, Array.getElem?_modify, this]
  · refine row_mk (cur := putCells (Value.int .i64) 0 l'.toArray cur) (by simp) (heap_put _ hg) (by omega) h2 (by simp [putCells, hs]) ?_
    rw [Nat.mul_one]; exact take_put cur l' (by rw [hs]; omega)
theorem does_put {P : Program} {f : FuncId} {m : Imm} {E b cap : Nat} {l l' : List Int} {v : Value} (hl : l'.length = l.length)
    (h : ∀ w, Holds (Value.int .i64) w b 0 l.toArray → b < w.heap.size → Calls P f #[.slice (some ⟨b, 0, none⟩) l.length cap] w fun e w' => e = .returned v ∧ ∃ n os, w' = grow (putRow (Value.int .i64) (Sort.ahead w n) b 0 l'.toArray) os) :
    Does P f [slI (some b) cap l] m [rowI E (some b) cap l] (fun m' R' v' => m' = m ∧ R' = [rowI E (some b) cap l'] ∧ v' = v) := fun w hp => by
  obtain ⟨h1, h2⟩ := holds_row (hp.at (i := 0) rfl)
  refine (h w h1 h2).mono fun e w' => ?_
  rintro ⟨rfl, n, os, rfl⟩
  exact ⟨v, m, _, rfl, ⟨rfl, rfl, rfl⟩, hp.start.put (i := 0) rfl hl⟩
theorem row_own {w : World} {base E n : Nat} {v : Value} {xs : List Value} (h : w.ownsRow base E 1 v n xs) : ∃ g cap, v = .slice (rowA g) n cap ∧ (row g n cap E 1 xs).holds w ∧ (∀ k, g = some k → base ≤ k) ∧ (0 < n → ∃ b, g = some b) := by
  rcases h.2 with ⟨rfl, rfl⟩ | ⟨b, cap, cur, rfl, hb, hg, h1, h2, h3, h4⟩
  · exact ⟨none, 0, rfl, ⟨h.1, .inl ⟨rfl, rfl⟩⟩, (fun k e => by cases e), (fun e => by omega)⟩
  · exact ⟨some b, cap, rfl, row_mk h.1 hg h1 h2 h3 h4, (fun k e => by cases e; exact hb), (fun _ => ⟨b, rfl⟩)⟩
theorem cell_plain {m : Imm} {a : Addr} {v : Value} (h : m.cell? a = some v) : a = ⟨a.block, a.off, none⟩ := by
  unfold Imm.cell? at h
  split at h
  · split at h
    · cases h
    · rename_i hs
      cases a with
      | mk b o s => cases s with
        | none => rfl
        | some s => simp at hs
  · cases h
theorem boxed_of {m : Imm} {w : World} {b T c : Nat} {A : Option Addr} {l : List Int} (hp : Pre m [bx b T [.slice A l.length c]] w) (hI : Ints m A c l) :
    b < w.heap.size ∧ w.cell? ⟨b, 0, none⟩ = some (.slice A l.length c) ∧ (l = [] ∨ ∃ b' off, A = some ⟨b', off, none⟩ ∧ b' < w.heap.size ∧ ∀ j, j < l.length → w.cell? ⟨b', off + j, none⟩ = some (.int .i64 (l[j]?.getD 0))) := by
  have hh := hp.at (i := 0) rfl
  have hb : w.heap[b]? = some (.cells #[.slice A l.length c] T (0, 0)) := hh
  refine ⟨(Array.getElem?_eq_some_iff.1 hb).1, by simp [World.cell?, hb], ?_⟩
  cases l with
  | nil => exact .inl rfl
  | cons z r =>
    right
    obtain ⟨ad, rfl⟩ := hI.ad (j := 0) (by simp)
    have h0 := (Sl.getI hI rfl (j := 0) (z := z) rfl).1
    have ead : ad = ⟨ad.block, ad.off, none⟩ := cell_plain (by simpa [Addr.add] using h0)
    have hw := hp.inW.cell h0
    refine ⟨ad.block, ad.off, congrArg some ead, ?_, fun j hj => ?_⟩
    · rw [ead] at hw
      simp only [Nat.zero_mul, Addr.add, World.cell?] at hw
      simp only [if_true] at hw
      by_cases hlt : ad.block < w.heap.size
      · exact hlt
      · rw [Array.getElem?_eq_none (by omega)] at hw; simp at hw
    · have hz : (z :: r)[j]? = some (z :: r)[j] := List.getElem?_eq_getElem hj
      have h1 := hp.inW.cell (Sl.getI hI rfl hz).1
      rw [ead, add_plain, Nat.mul_one] at h1
      rw [h1, hz]; rfl
theorem does_new {P : Program} {f : FuncId} {args : List Value} {m : Imm} {R : List Res} {E : Nat} {l : List Int}
    (h : ∀ w, Pre m R w → Calls P f args.toArray w fun e w' => ∃ v, e = .returned v ∧ w'.ownsRow w.heap.size E 1 v l.length (l.map (Value.int .i64)) ∧ Below w.heap.size w w') :
    Does P f args m R (fun m' R' v => m' = m ∧ ∃ g cap, (0 < l.length → ∃ b, g = some b) ∧ R' = [rowI E g cap l] ∧ v = slI g cap l) := fun w hp => by
  refine (h w hp).mono fun e w' => ?_
  rintro ⟨v, rfl, hown, hb⟩
  obtain ⟨g, cap, rfl, hh, hk, hg⟩ := row_own hown
  exact ⟨_, m, _, rfl, ⟨rfl, g, cap, hg, rfl, rfl⟩, (hp.start.sub (List.nil_sublist _)).allocR (Evolve.of_below hb) (rowI E g cap l) hh (fun k hk' => hk k hk')⟩
theorem compact_len (l : List Int) : (Lib.compact l).length ≤ l.length := by
  have h := List.length_filter_le (Lib.keeps l.toArray) (List.range l.length)
  simp only [Lib.compact, Lib.compactUpTo, List.length_map, List.length_range] at *
  exact h
theorem does_compact {P : Program} {f : FuncId} {m : Imm} {E cap : Nat} {g : Option Nat} {l : List Int} (hg : 0 < l.length → ∃ b, g = some b)
    (h : ∀ b w, Holds (Value.int .i64) w b 0 l.toArray → b < w.heap.size → l.length ≤ cap → Calls P f #[.slice (some ⟨b, 0, none⟩) l.length cap] w fun e w' => e = .returned (.slice (some ⟨b, 0, none⟩) (Lib.compact l).length cap) ∧ ∃ q, w' = putRow (Value.int .i64) (Sort.ahead w q) b 0 (Lib.compact l ++ List.replicate (l.length - (Lib.compact l).length) 0).toArray)
    (h0 : ∀ a w, Calls P f #[.slice a 0 cap] w fun e w' => e = .returned (.slice a 0 cap) ∧ w' = w) :
    Does P f [slI g cap l] m [rowI E g cap l] (fun m' R' v => m' = m ∧ R' = [rowI E g cap (Lib.compact l)] ∧ v = slI g cap (Lib.compact l)) := fun w hp => by
  cases hl : l with
  | nil =>
    subst hl
    refine (h0 (rowA g) w).mono fun e w' => ?_
    rintro ⟨rfl, rfl⟩
    exact ⟨_, m, _, rfl, ⟨rfl, rfl, rfl⟩, hp.start⟩
  | cons z r =>
    rw [← hl]
    obtain ⟨b, rfl⟩ := hg (by rw [hl]; simp)
    have hh := hp.at (i := 0) rfl
    obtain ⟨h1, h2⟩ := holds_row hh
    have hc := (row_g hh).2.1
    refine (h b w h1 h2 hc).mono fun e w' => ?_
    rintro ⟨rfl, q, rfl⟩
    have hle := compact_len l
    have hS := hp.start.put (i := 0) (n := q) (os := #[]) (l' := Lib.compact l ++ List.replicate (l.length - (Lib.compact l).length) 0) rfl (by simp; omega)
    have hS' := hS.trimI (i := 0) rfl (Lib.compact l).length
    rw [grow_empty] at hS'
    refine ⟨_, m, _, rfl, ⟨rfl, ?_, rfl⟩, hS'⟩
    show [rowI E (some b) cap (List.take _ _)] = _
    rw [List.take_left]
end Go.Proofs.YtipmgkhjoekaaaaGreat.Fw
namespace Go.Proofs.YtipmgkhjoekaaaaGreat
open Go Go.Proofs.YtipmgkhjoekaaaaGreat.Fw
def sortC (l : List Int) : List Int := Lib.compact (l.mergeSort fun x y => decide (x ≤ y))
theorem compact_sub (l : List Int) : ∀ x ∈ Lib.compact l, x ∈ l := by
  intro x hx
  simp only [Lib.compact, Lib.compactUpTo, List.mem_map, List.mem_filter, List.mem_range] at hx
  obtain ⟨j, ⟨hj, _⟩, rfl⟩ := hx
  have : l.toArray[j]! = l[j] := by rw [getElem!_pos _ j (by simpa using hj)]; simp
  rw [this]; exact List.getElem_mem hj
theorem sortC_sub (l : List Int) : ∀ x ∈ sortC l, x ∈ l := fun x hx => List.mem_mergeSort.1 (compact_sub _ x hx)
theorem sortC_i64 {l : List Int} (h : ∀ z ∈ l, I64 z) : ∀ z ∈ sortC l, I64 z := fun z hz => h z (sortC_sub l z hz)
theorem sortC_len (l : List Int) : (sortC l).length ≤ l.length := by
  have := compact_len (l.mergeSort fun x y => decide (x ≤ y))
  rwa [List.length_mergeSort] at this
def badB (n : Nat) (b : FBlk) : Bool := (goesK b.fin.kind != (b.fin.to.length : Int)) || b.fin.to.any fun k => decide (k < 1) || decide ((n : Int) ≤ k)
def ofP (f : FFun) : Option FGraph := if 64 < f.blocks.length then none else if f.blocks.any (badB f.blocks.length) then none else makeP (f.blocks.map fun b => sortC b.fin.to)
theorem take_map_succ {α β : Type _} {F : α → β} {l : List α} {k : Nat} {z : α} (h : l[k]? = some z) : (l.take (k + 1)).map F = (l.take k).map F ++ [F z] := by
  rw [List.take_add_one, h]; simp
theorem goes_len {n : Nat} {b : FBlk} (h : badB n b = false) : b.fin.to.length ≤ 2 := by
  simp only [badB, Bool.or_eq_false_iff, bne_eq_false_iff_eq] at h
  have h1 := h.1
  simp only [goesK] at h1
  split at h1
  · omega
  · split at h1
    · omega
    · split at h1 <;> omega
theorem ofP_big {f : FFun} (h : 64 < f.blocks.length) : ofP f = none := by rw [ofP, if_pos h]
theorem ofP_bad {f : FFun} {k : Nat} {b : FBlk} (hk : f.blocks[k]? = some b) (hb : badB f.blocks.length b = true) : ofP f = none := by
  rw [ofP]; split
  · rfl
  · rw [if_pos (List.any_eq_true.2 ⟨b, List.mem_of_getElem? hk, hb⟩)]
theorem ofP_ok {f : FFun} (h : ¬ 64 < f.blocks.length) (hb : ∀ j b, j < f.blocks.length → f.blocks[j]? = some b → badB f.blocks.length b = false) : ofP f = makeP (f.blocks.map fun b => sortC b.fin.to) := by
  rw [ofP, if_neg h, if_neg]
  intro hc
  obtain ⟨b, hm, hx⟩ := List.any_eq_true.1 hc
  obtain ⟨j, hj⟩ := List.mem_iff_getElem?.1 hm
  rw [hb j b (List.getElem?_eq_some_iff.1 hj).1 hj] at hx; cases hx
end Go.Proofs.YtipmgkhjoekaaaaGreat
namespace Go.Proofs.YtipmgkhjoekaaaaGreat.Fw
open Go Go.RowKit
def putL {α : Type} : List (Int × α) → Int → α → List (Int × α)
  | [], x, v => [(x, v)]
  | p :: r, x, v => if p.1 = x then (x, v) :: r else p :: putL r x v
def getL {α : Type} : List (Int × α) → Int → Option α
  | [], _ => none
  | p :: r, x => if p.1 = x then some p.2 else getL r x
def valL {α : Type} (f : α → Value) (l : List (Int × α)) : List (Int × Value) := l.map fun p => (p.1, f p.2)
theorem putA_val {α : Type} (f : α → Value) (l : List (Int × α)) (x : Int) (d : α) : putA (valL f l) x (f d) = valL f (putL l x d) := by
  induction l with
  | nil => rfl
  | cons p r ih =>
    simp only [valL, List.map_cons, putA, putL] at *
    split
    · simp
    · simp [ih]
theorem getA_val {α : Type} (f : α → Value) (l : List (Int × α)) (x : Int) : getA (valL f l) x = (getL l x).map f := by
  induction l with
  | nil => rfl
  | cons p r ih =>
    simp only [valL, List.map_cons, getA, getL] at *
    split
    · rfl
    · exact ih
theorem putL_new {α : Type} {l : List (Int × α)} {x : Int} {d : α} (h : getL l x = none) : putL l x d = l ++ [(x, d)] := by
  induction l with
  | nil => rfl
  | cons p r ih =>
    simp only [getL] at h
    split at h
    · cases h
    · rename_i hp; simp [putL, hp, ih h]
theorem getL_mem {α : Type} {l : List (Int × α)} {x : Int} : (getL l x).isSome = true ↔ x ∈ l.map (·.1) := by
  induction l with
  | nil => simp [getL]
  | cons p r ih =>
    simp only [getL, List.map_cons, List.mem_cons]
    by_cases h : p.1 = x
    · simp [h]
    · rw [if_neg h, ih]; simp [Ne.symm h]
def MapIn (m : Imm) (b : Nat) (l : List (Int × Value)) : Prop := ∃ es clock, m b = some (.map es clock) ∧ es.toList.map (fun e => (e.key, e.val)) = l.map (fun p => (Value.int .i64 p.1, p.2))
theorem MapIn.mono {m m' : Imm} {b : Nat} {l : List (Int × Value)} (h : MapIn m b l) (hm : m.le m') : MapIn m' b l := by
  obtain ⟨es, clock, h1, h2⟩ := h; exact ⟨es, clock, hm _ _ h1, h2⟩
section
variable {P : Program} {ops : Array Oper} {Q : Post} {rest : List Oper} {n : Nat} {s : Start} {m : Imm} {R : List Res} {L : Loc}
variable {d : Nat} {dst : Option Nat} {ty : TypeId} {pos : String} {af : Array Edge} {g : Option (Nat × Bool)} {x y : Operand}
theorem MapIn.pre {b : Nat} {l : List (Int × Value)} {w : World} (h : MapIn m b l) (hi : In m w) : (imap b l).holds w := by
  obtain ⟨es, clock, h1, h2⟩ := h; exact ⟨es, clock, hi _ _ h1, h2⟩
theorem r_lookupF {T K E b : Nat} {x' : Int} {l : List (Int × Value)} {v : Value} {z : Value} (hM : MapIn m b l) (hT : P.underlying T = some (.map K E)) (hK : P.underlying K = some (.int .i64)) (hz : zero? P E = some z) (hx : ev L x = some (.map (some b))) (hy : ev L y = some (.int .i64 x')) (hv : v = (getA l x').getD z) :
    Qt P ⟨dst, .lookup T x y false, ty, pos, af, g⟩ n m R L v := .of fun a w hF hp => by
  obtain ⟨es, clock, hb, he⟩ := hM.pre hp.inW
  have hk : MapKept.IsKey (.int .i64) (.int .i64 x') := by simp [MapKept.IsKey]
  rcases findNow_map x' es.toList l 0 he with ⟨h1, h2, _⟩ | ⟨j, u, e, h1, h2, h3, _⟩
  · simp [execOp, hF.eval hx, hF.eval hy, Instr.lookup, run_underlying hT, MapKept.run_getObj_map hb, MapKept.run_checkKey hK hk, MapKept.run_findKey hK h1, run_zero_of hz, Result.andThen, hv, h2]
  · simp [execOp, hF.eval hx, hF.eval hy, Instr.lookup, run_underlying hT, MapKept.run_getObj_map hb, MapKept.run_checkKey hK hk, MapKept.run_findKey hK h1, Result.andThen, hv, h2]
theorem r_lookup2F {T K E b : Nat} {x' : Int} {l : List (Int × Value)} {v : Value} {q : Bool} {z : Value} (hM : MapIn m b l) (hT : P.underlying T = some (.map K E)) (hK : P.underlying K = some (.int .i64)) (hz : zero? P E = some z) (hx : ev L x = some (.map (some b))) (hy : ev L y = some (.int .i64 x')) (hv : v = (getA l x').getD z) (hq : q = (getA l x').isSome) :
    Qt P ⟨dst, .lookup T x y true, ty, pos, af, g⟩ n m R L (.tuple #[v, .bool q]) := .of fun a w hF hp => by
  obtain ⟨es, clock, hb, he⟩ := hM.pre hp.inW
  have hk : MapKept.IsKey (.int .i64) (.int .i64 x') := by simp [MapKept.IsKey]
  rcases findNow_map x' es.toList l 0 he with ⟨h1, h2, _⟩ | ⟨j, u, e, h1, h2, h3, _⟩
  · simp [execOp, hF.eval hx, hF.eval hy, Instr.lookup, run_underlying hT, MapKept.run_getObj_map hb, MapKept.run_checkKey hK hk, MapKept.run_findKey hK h1, run_zero_of hz, Result.andThen, hv, hq, h2]
  · simp [execOp, hF.eval hx, hF.eval hy, Instr.lookup, run_underlying hT, MapKept.run_getObj_map hb, MapKept.run_checkKey hK hk, MapKept.run_findKey hK h1, Result.andThen, hv, hq, h2]
def Lies (m : Imm) (b : Nat) (l : List Value) : Prop := ∀ o v, l[o]? = some v → m.cell? ⟨b, o, none⟩ = some v
theorem Lies.mono {m m' : Imm} {b : Nat} {l : List Value} (h : Lies m b l) (hm : m.le m') : Lies m' b l := fun o v hv => hm.cell (h o v hv)
theorem Pre.putB {w : World} {i b T : Nat} {l : List Value} (h : Pre m R w) (hi : R[i]? = some (bx b T l)) : ∃ m', Pre m' (R.eraseIdx i) w ∧ m.le m' ∧ Lies m' b l := by
  obtain ⟨m', h1, h2, h3⟩ := h.putG hi
  have hb : w.heap[b]? = some (.cells l.toArray T (0, 0)) := h.at hi
  refine ⟨m', h1, h2, fun o v hv => ?_⟩
  have := h3 b rfl
  rw [hb] at this
  simp [Imm.cell?, this, hv]
theorem Pre.putM {w : World} {i b : Nat} {l : List (Int × Value)} (h : Pre m R w) (hi : R[i]? = some (imap b l)) : ∃ m', Pre m' (R.eraseIdx i) w ∧ m.le m' ∧ MapIn m' b l := by
  obtain ⟨m', h1, h2, h3⟩ := h.putG hi
  obtain ⟨es, clock, hb, he⟩ := h.at hi
  have := h3 b rfl
  rw [hb] at this
  exact ⟨m', h1, h2, es, clock, this, he⟩
theorem WL_freezeB {b T : Nat} {l : List Value} (i : Nat) (hi : R[i]? = some (bx b T l)) (hm : ∀ k, ¬ s.mods k) (next : ∀ m', m.le m' → Lies m' b l → WL P ops Q rest n s m' (R.eraseIdx i) L) : WL P ops Q rest n s m R L := fun a w hF hS => by
  have hb : w.heap[b]? = some (.cells l.toArray T (0, 0)) := hS.at hi
  obtain ⟨m', h1, h2, h3⟩ := hS.freezeG hi (fun k hk => (hS.own _ (List.mem_of_getElem? hi) k hk).resolve_right (hm k))
  refine next m' h1 (fun o v hv => ?_) a w hF h2
  have := h3 b rfl
  rw [hb] at this
  simp [Imm.cell?, this, hv]
theorem WL_freezeM {b : Nat} {l : List (Int × Value)} (i : Nat) (hi : R[i]? = some (imap b l)) (hm : ∀ k, ¬ s.mods k) (next : ∀ m', m.le m' → MapIn m' b l → WL P ops Q rest n s m' (R.eraseIdx i) L) : WL P ops Q rest n s m R L := fun a w hF hS => by
  obtain ⟨es, clock, hb, he⟩ := hS.at hi
  obtain ⟨m', h1, h2, h3⟩ := hS.freezeG hi (fun k hk => (hS.own _ (List.mem_of_getElem? hi) k hk).resolve_right (hm k))
  refine next m' h1 ?_ a w hF h2
  have := h3 b rfl
  rw [hb] at this
  exact ⟨es, clock, this, he⟩
theorem run_callf {a : Act} {w : World} {f : FuncId} {c : Operand} {first cap : Array Value} {xs : List Operand} {tys : Array TypeId} {vs : List Value} {dst : Option Nat} {g : Option (Nat × Bool)} (hF : Fr n L a) (hc : ev L c = some (.func (.func f) first cap)) (hf : hasBody P f = true) (hxs : evs L xs = some vs) :
    (execOp a.eval ⟨dst, .call ⟨.value c, xs.toArray, tys⟩, ty, pos, af, g⟩).run P w = .ok (.enter f (first.toList ++ vs ++ cap.toList).toArray) w := by
  have h2 := hF.evals hxs
  have h1 := hF.eval hc
  simp only [execOp, resolve, Sem.run_bind, h1, Deferred.ofValue, Sem.run_pure, Result.andThen_ok, invoke]
  simp [h2, run_callFunc hf]
theorem S_doesf {f : FuncId} {c : Operand} {first cap : Array Value} {xs : List Operand} {tys : Array TypeId} {vs us : List Value} {R0 F : List Res} {Φ : Imm → List Res → Value → Prop} (hc : ev L c = some (.func (.func f) first cap)) (hR : R = R0 ++ F) (hxs : evs L xs = some vs) (hu : first.toList ++ vs ++ cap.toList = us) (hq : Does P f us m R0 Φ) (hf : hasBody P f = true) (hd : Nat.blt d n = true)
    (next : ∀ m' R' v, m.le m' → Φ m' R' v → WL P ops Q rest n s m' (R' ++ F) ((d, v) :: L)) : WL P ops Q (⟨some d, .call ⟨.value c, xs.toArray, tys⟩, ty, pos, af, none⟩ :: rest) n s m R L := fun a w hF hS =>
  wpList_go (wanted_none rfl _) (by
    unfold Oper.wp
    rw [run_callf hF hc hf hxs, Oper.upon_enter]
    subst hR hu
    refine (hq w (hS.toPre.sub (List.sublist_append_left _ _))).mono fun e w' h => ?_
    obtain ⟨v, m', R', he, hΦ, hS'⟩ := h
    subst he
    exact next m' R' v (hS'.ext.le hS.inW) hΦ _ _ (hF.put hd v) (hS.call hS'))
theorem r_callf {f : FuncId} {c : Operand} {first cap : Array Value} {xs : List Operand} {tys : Array TypeId} {vs us : List Value} {v : Value} (hc : ev L c = some (.func (.func f) first cap)) (hf : hasBody P f = true) (hxs : evs L xs = some vs) (hu : first.toList ++ vs ++ cap.toList = us) (hq : ∀ w, Pre m R w → ∃ m', In m' w ∧ Quiet P f us m' v) : Qt P ⟨dst, .call ⟨.value c, xs.toArray, tys⟩, ty, pos, af, g⟩ n m R L v := fun a w hF hp => by
  unfold Oper.quietAt
  rw [run_callf hF hc hf hxs]
  subst hu
  obtain ⟨m', hi, hq⟩ := hq w hp
  exact ⟨rfl, hq w hi⟩
theorem C_unroll {c : Code} (k : Nat) (h : CW P c (Exit.then (Code.rounds P c Q k) Q) n s m R L) : CW P (.loop c) Q n s m R L := fun a w hF hS => wp_loop_rounds (k + 1) (by rw [rounds_succ]; exact h a w hF hS)
theorem NX_unroll {c : Code} (k : Nat) {L' : Loc} (ks : List Nat) (e : sel L ks = L') (h : CW P c (Exit.then (Code.rounds P c Q k) Q) n s m R L') : NX (Exit.then (Code.rounds P c Q (k + 1)) Q) n s m R L := fun a w hF hS => by
  show Code.rounds P c Q (k + 1) a w
  rw [rounds_succ]
  exact h a w (e ▸ hF.keep ks) hS
theorem r_fieldk {S f off k : Nat} {cs vs : List Value} (hx : ev L x = some (.agg cs.toArray)) (hf : fld? P S f = some (off, k)) (hT : ∀ fs y, P.underlying S = some (.struct fs) → fs[f]? = some y → agg? P y.type = some true) (hv : vs = (cs.drop off).take k) (hk : vs.length = k) (hk0 : 0 < k) : Qt P ⟨dst, .field S x f, ty, pos, af, g⟩ n m R L (.agg vs.toArray) := .of fun a w hF _ => by
  unfold fld? at hf
  split at hf
  · rename_i fs hu
    cases hff : fs[f]? with
    | none => rw [hff] at hf; cases hf
    | some y =>
      rw [hff] at hf
      simp only [Option.bind_some] at hf
      cases hs : sz? P y.type with
      | none => rw [hs] at hf; cases hf
      | some k' =>
        rw [hs] at hf
        simp only [Option.map_some, Option.some.injEq, Prod.mk.injEq] at hf
        obtain ⟨rfl, rfl⟩ := hf
        have hle : y.offset + k' ≤ cs.length := by
          rw [hv, List.length_take, List.length_drop] at hk
          omega
        simp [execOp, hF.eval hx, Instr.field, run_underlying hu, hff, asAgg, part, run_isAgg_of (hT fs y hu hff), run_sizeOf_of hs, hle, hv, Result.andThen]
  · cases hf
theorem yielded_u {a : Act} {j d : Nat} (hF : Fr n L a) (hj : (ops[j]?).bind (·.dst) = some d) (hl : lk L d = some undef) : yielded ops a.tmps j = none := by
  unfold yielded
  rw [hj]
  simp only [Option.bind_some, hF.get d _ hl]
  rfl
theorem WL_passu {d' : Nat} {op : Op} {ty : TypeId} {pos : String} {af : Array Edge} {j d : Nat} {b : Bool} (hj : (ops[j]?).bind (·.dst) = some d) (hl : lk L d = some undef)
    (hd : Nat.blt d' n = true) (h : WL P ops Q rest n s m R ((d', undef) :: L)) : WL P ops Q (⟨some d', op, ty, pos, af, some (j, b)⟩ :: rest) n s m R L := fun a w hF hS => by
  unfold wpList
  rw [if_neg (by simp [Region.wanted, yielded_u hF hj hl])]
  exact h _ _ (hF.put hd undef) hS
theorem D_passu {m0 : Imm} {R0 : List Res} {listed : Array Bool} {ord : List (Nat × Bool)} {i d' : Nat} {op : Op} {ty : TypeId} {pos : String} {af : Array Edge} {j t : Nat} {b : Bool} (hi : ops[i]? = some ⟨some d', op, ty, pos, af, some (j, b)⟩) (hj : (ops[j]?).bind (·.dst) = some t) (hl : lk L t = some undef) (hd : Nat.blt d' n = true)
    (next : DL P ops Q m0 R0 (listed.setIfInBounds i true) ord n s m R ((d', undef) :: L)) : DL P ops Q m0 R0 listed ((i, true) :: ord) n s m R L :=
  D_yields hi (fun a w hF _ => .inr ⟨by simp [Region.wanted, yielded_u hF hj hl], rfl⟩) (fun a hF => hF.put hd undef) next
theorem S_insert {T K E b : Nat} {x' : Int} {l : List (Int × Value)} {v : Value} {z : Operand} (i : Nat) (hT : P.underlying T = some (.map K E)) (hK : P.underlying K = some (.int .i64)) (hx : ev L x = some (.map (some b))) (hy : ev L y = some (.int .i64 x')) (hz : ev L z = some v) (hi : R[i]? = some (imap b l))
    (next : WL P ops Q rest n s m (R.set i (imap b (putA l x' v))) L) : WL P ops Q (⟨none, .insert T x y z, ty, pos, af, none⟩ :: rest) n s m R L := fun a w hF hS =>
  S_mapUpdate (ty := ty) (pos := pos) (af := af) i hT hK hx hy hz hi next a w hF hS
theorem RX_front {r : Res} {R' : List Res} (i : Nat) (hi : R[i]? = some r) (hR : R.eraseIdx i = R') (next : RX Q n s m (r :: R') L) : RX Q n s m R L := fun a w hF hS => next a w hF (hS.perm (hR ▸ front_perm hi))
theorem sub_one {r : Res} (i : Nat) (hi : R[i]? = some r) : [r].Sublist R := List.singleton_sublist.2 (List.mem_of_getElem? hi)
theorem sub_two {r r' : Res} (i j : Nat) (hi : R[i]? = some r) (hj : (R.drop (i + 1))[j]? = some r') : [r, r'].Sublist R := by
  have h1 := List.take_append_drop i R
  have hlt := (List.getElem?_eq_some_iff.1 hi).1
  have h2 : R.drop i = r :: R.drop (i + 1) := by
    rw [List.drop_eq_getElem_cons hlt, (List.getElem?_eq_some_iff.1 hi).2]
  rw [← h1, h2]
  exact ((sub_one j hj).cons_cons r).trans (List.sublist_append_right _ _)
end
end Go.Proofs.YtipmgkhjoekaaaaGreat.Fw
namespace Go.Proofs.YtipmgkhjoekaaaaGreat
open Go Go.Proofs.YtipmgkhjoekaaaaGreat.Fw
theorem makeP_some {succ : List (List Int)} {g : FGraph} (h : makeP succ = some g) : mayG g = true ∧ g = ⟨succ, predsP succ⟩ ∧ 1 ≤ succ.length := by
  have h0 := h
  unfold makeP at h
  split at h
  · cases h
  · rename_i hc
    cases h
    refine ⟨by rw [mayG, h0]; simp [graphQ], rfl, ?_⟩
    rw [Bool.not_eq_true, Bool.or_eq_false_iff, decide_eq_false_iff_not] at hc
    omega
theorem ofP_some {f : FFun} {g : FGraph} (h : ofP f = some g) : mayG g = true ∧ g.succ = (f.blocks.map fun b => sortC b.fin.to) ∧ g.succ.length = f.blocks.length ∧ 1 ≤ f.blocks.length ∧ f.blocks.length ≤ 64 := by
  unfold ofP at h
  split at h
  · cases h
  · split at h
    · cases h
    · obtain ⟨h1, rfl, h3⟩ := makeP_some h
      exact ⟨h1, rfl, by simp, by simpa using h3, by omega⟩
def okPhi (pr : List Int) (p : FPhi) : Bool := !(decide ((p.fr.length : Int) = 0) || (!(p.fr == pr) || !(decide ((p.args.length : Int) = (p.fr.length : Int)))))
def okShape (g : FGraph) (t : List Int) (i : Nat) (b : FBlk) : Bool :=
  overP t i i && (b.phis.all (okPhi (g.pred.getD i [])) && !((b.fin.kind == 1 || b.fin.kind == 3) && !(b.fin.arg == 0)))
open Classical in
noncomputable def shapeP (f : FFun) : Int := match ofP f with
  | none => 5
  | some g => if ∀ (i : Nat) b, f.blocks[i]? = some b → okShape g (treeP g 0) i b = true then 0 else 5
theorem shapeP_none {f : FFun} (h : ofP f = none) : shapeP f = 5 := by rw [shapeP, h]
theorem shapeP_ok {f : FFun} {g : FGraph} (h : ofP f = some g) (ha : ∀ (i : Nat) b, f.blocks[i]? = some b → okShape g (treeP g 0) i b = true) : shapeP f = 0 := by rw [shapeP, h]; exact if_pos ha
theorem shapeP_bad {f : FFun} {g : FGraph} (h : ofP f = some g) {i : Nat} {b : FBlk} (hi : f.blocks[i]? = some b) (hb : okShape g (treeP g 0) i b = false) : shapeP f = 5 := by
  rw [shapeP, h]; exact if_neg fun ha => by rw [ha i b hi] at hb; cases hb
theorem shapeP_zero {f : FFun} (h : shapeP f = 0) : ∃ g, ofP f = some g ∧ ∀ (i : Nat) b, f.blocks[i]? = some b → okShape g (treeP g 0) i b = true := by
  unfold shapeP at h
  split at h
  · cases h
  · rename_i g hg
    refine ⟨g, hg, ?_⟩
    split at h
    · assumption
    · cases h
def ofK (level : Int) (o : FOp) : Bool := !(decide (level < 2) && (decide (1 < o.lanes) || decide (20 < o.kind))) && (!(decide (level < 1) && decide (17 < o.kind)) && mayOpK o)
def okTyped (level : Int) (b : FBlk) : Bool := b.phis.all (fun p => mayW p.bits) && b.ops.all (ofK level)
def typedP (f : FFun) (level : Int) : Int := if mayW f.ret && (f.params.all mayW && f.blocks.all (okTyped level)) then 0 else 6
abbrev Use := Int × (Int × Int) × Int × Int
def phiU (p : FPhi) : List Use := (List.range p.args.length).map fun k => (p.args.getD k 0, (p.bits, 1), p.fr.getD k 0, 1048576)
def opU (i : Nat) (x : FOp × Nat) : List Use := (List.range (takesK x.1).length).map fun k => (x.1.args.getD k 0, (takesK x.1).getD k (0, 0), (i : Int), (x.2 : Int))
def endBits (f : FFun) (b : FBlk) : Int := if b.fin.kind = 0 then f.ret else if b.fin.kind = 2 then 1 else 0
def endU (f : FFun) (i : Nat) (b : FBlk) : List Use := if endBits f b = 0 then [] else [(b.fin.arg, (endBits f b, 1), (i : Int), 1048576)]
def blockU (f : FFun) (x : FBlk × Nat) : List Use := x.1.phis.flatMap phiU ++ (x.1.ops.zipIdx.flatMap (opU x.2) ++ endU f x.2 x.1)
def usesL (f : FFun) : List Use := f.blocks.zipIdx.flatMap (blockU f)
def firstN (ask : Use → Int) (l : List Use) : Int := match l.find? (fun u => !(ask u == 0)) with
  | some u => ask u
  | none => 0
def usesP (f : FFun) (ask : Use → Int) : Int := firstN ask (usesL f)
section
variable {ask : Use → Int}
theorem firstN_append (a b : List Use) : firstN ask (a ++ b) = if firstN ask a = 0 then firstN ask b else firstN ask a := by
  induction a with
  | nil => simp [firstN]
  | cons u r ih =>
    by_cases h : ask u = 0
    · have e : ∀ l, firstN ask (u :: l) = firstN ask l := fun l => by simp [firstN, h]
      rw [List.cons_append, e, e, ih]
    · have e : ∀ l, firstN ask (u :: l) = ask u := fun l => by simp [firstN, h]
      rw [List.cons_append, e, e, if_neg h]
theorem firstN_one (u : Use) : firstN ask [u] = ask u := by
  by_cases h : ask u = 0 <;> simp [firstN, h]
theorem firstN_add {a b : List Use} (ha : firstN ask a = 0) : firstN ask (a ++ b) = firstN ask b := by rw [firstN_append, if_pos ha]
theorem firstN_hit {a b : List Use} {x : Int} (ha : firstN ask a = x) (hx : x ≠ 0) : firstN ask (a ++ b) = x := by rw [firstN_append, if_neg (by rw [ha]; exact hx), ha]
theorem flat_take {α : Type _} {F : α → List Use} {l : List α} {k : Nat} {z : α} (h : l[k]? = some z) : (l.take (k + 1)).flatMap F = (l.take k).flatMap F ++ F z := by
  rw [List.take_add_one, h]; simp
theorem flat_split {α : Type _} {F : α → List Use} {l : List α} {k : Nat} {z : α} (h : l[k]? = some z) : l.flatMap F = (l.take k).flatMap F ++ (F z ++ (l.drop (k + 1)).flatMap F) := by
  have e := List.take_append_drop (k + 1) l
  conv => lhs; rw [← e]
  rw [List.flatMap_append, flat_take h, List.append_assoc]
theorem firstN_flat {α : Type _} {F : α → List Use} {l : List α} {k : Nat} {z : α} {x : Int} (h : l[k]? = some z) (h0 : firstN ask ((l.take k).flatMap F) = 0) (hz : firstN ask (F z) = x) (hx : x ≠ 0) : firstN ask (l.flatMap F) = x := by
  rw [flat_split h, firstN_add h0, firstN_hit hz hx]
theorem firstN_step {α : Type _} {F : α → List Use} {l : List α} {k : Nat} {z : α} (h : l[k]? = some z) (h0 : firstN ask ((l.take k).flatMap F) = 0) (hz : firstN ask (F z) = 0) : firstN ask ((l.take (k + 1)).flatMap F) = 0 := by
  rw [flat_take h, firstN_add h0, hz]
theorem firstN_snoc {l : List Use} {k : Nat} {u : Use} (h : l[k]? = some u) (h0 : firstN ask (l.take k) = 0) (hu : ask u = 0) : firstN ask (l.take (k + 1)) = 0 := by
  rw [List.take_add_one, h, Option.toList, firstN_add h0, firstN_one, hu]
theorem firstN_at {l : List Use} {k : Nat} {u : Use} (h : l[k]? = some u) (h0 : firstN ask (l.take k) = 0) (hu : ask u ≠ 0) : firstN ask l = ask u := by
  have e := List.take_append_drop (k + 1) l
  rw [← e, List.take_add_one, h, Option.toList]
  exact firstN_hit (by rw [firstN_add h0, firstN_one]) hu
end
theorem zip_get {α : Type _} {l : List α} {k : Nat} {z : α} (h : l[k]? = some z) : l.zipIdx[k]? = some (z, k) := by
  rw [List.getElem?_zipIdx, h]; simp
theorem phiU_get {p : FPhi} {k : Nat} {z y : Int} (h : p.args[k]? = some z) (h' : p.fr[k]? = some y) : (phiU p)[k]? = some (z, (p.bits, 1), y, 1048576) := by
  have hk := (List.getElem?_eq_some_iff.1 h).1
  rw [phiU, List.getElem?_map, List.getElem?_range hk]
  simp only [Option.map_some]
  rw [getD_of h, getD_of h']
theorem getDp_of {l : List (Int × Int)} {k : Nat} {z d : Int × Int} (h : l[k]? = some z) : l.getD k d = z := by simp [List.getD, h]
theorem opU_get {o : FOp} {i at_ k : Nat} {z : Int} {sh : Int × Int} (h : o.args[k]? = some z) (h' : (takesK o)[k]? = some sh) : (opU i (o, at_))[k]? = some (z, sh, (i : Int), (at_ : Int)) := by
  have hk := (List.getElem?_eq_some_iff.1 h').1
  rw [opU, List.getElem?_map, List.getElem?_range hk]
  simp only [Option.map_some]
  rw [getD_of h, getDp_of h']
theorem takesK_len (o : FOp) : (takesK o).length ≤ o.args.length := by
  unfold takesK
  split
  · rename_i h
    simp only [mayOpK, Bool.and_eq_true, decide_eq_true_eq] at h
    have := h.2.2.2.1
    omega
  · simp
theorem phiU_len (p : FPhi) : (phiU p).length = p.args.length := by simp [phiU]
theorem opU_len (i : Nat) (x : FOp × Nat) : (opU i x).length = (takesK x.1).length := by simp [opU]
abbrev Def := Int × Int × Int × Int
def defV (d : Def) : Value := .agg #[.int .i64 d.1, .int .i64 d.2.1, .int .i64 d.2.2.1, .int .i64 d.2.2.2]
theorem defs_get (l : List (Int × Def)) (x : Int) : defV ((getL l x).getD (0, 0, 0, 0)) = (getA (valL defV l) x).getD (.agg #[.int .i64 0, .int .i64 0, .int .i64 0, .int .i64 0]) := by
  rw [getA_val]; cases getL l x <;> rfl
theorem defs_is (l : List (Int × Def)) (x : Int) : (getL l x).isSome = (getA (valL defV l) x).isSome := by
  rw [getA_val]; cases getL l x <;> rfl
def paramD (x : Int × Nat) : Int × Def := ((x.2 : Int) + 1, (-1, 0, x.1, 1))
def phiD (i : Nat) (p : FPhi) : Int × Def := (p.dst, ((i : Int), -1, p.bits, 1))
def opD (i : Nat) (x : FOp × Nat) : List (Int × Def) := if 0 < (givesP x.1).1 then [(x.1.dst, ((i : Int), (x.2 : Int), (givesP x.1).1, (givesP x.1).2))] else []
def blockD (x : FBlk × Nat) : List (Int × Def) := x.1.phis.map (phiD x.2) ++ x.1.ops.zipIdx.flatMap (opD x.2)
def defsL (f : FFun) : List (Int × Def) := f.params.zipIdx.map paramD ++ f.blocks.zipIdx.flatMap blockD
def okDst (p : FPhi) : Bool := decide (1 ≤ p.dst) && decide (p.dst ≤ 1023)
def askD (f : FFun) (u : Use) : Int := if (getL (defsL f) u.1).isSome then 0 else 7
def defOK (f : FFun) : Prop := (∀ b ∈ f.blocks, ∀ p ∈ b.phis, okDst p = true) ∧ ((defsL f).map (·.1)).Nodup
open Classical in
noncomputable def definedP (f : FFun) : Int := if defOK f then usesP f (askD f) else 7
def askS (f : FFun) (u : Use) : Int := if ((getL (defsL f) u.1).getD (0, 0, 0, 0)).2.2 = u.2.1 then 0 else 6
def askP (f : FFun) (t : List Int) (u : Use) : Int :=
  let d := (getL (defsL f) u.1).getD (0, 0, 0, 0)
  if d.1 < 0 then 0 else if (d.1 = u.2.2.1 ∧ d.2.1 < u.2.2.2) ∨ (d.1 ≠ u.2.2.1 ∧ overP t d.1 u.2.2.1 = true) then 0 else 7
open Classical in
noncomputable def lookP (f : FFun) (level : Int) : Int :=
  if mayF f = false then 4 else if shapeP f ≠ 0 then shapeP f else if typedP f level ≠ 0 then typedP f level else if definedP f ≠ 0 then definedP f
  else if usesP f (askS f) ≠ 0 then usesP f (askS f) else usesP f (askP f (match ofP f with | some g => treeP g 0 | none => []))
noncomputable def checkP (f : FFun) (level : Int) : Int := if level < 0 ∨ 2 < level then 1 else lookP f level
def AskQ (P : Program) (K : FuncId) (cap : Array Value) (ask : Use → Int) (m : Imm) : Prop := ∀ m', m.le m' → ∀ v s1 s2 b a, I64 b → Quiet P K ([.int .i64 v, .agg #[.int .i64 s1, .int .i64 s2], .int .i64 b, .int .i64 a] ++ cap.toList) m' (.int .i64 (ask (v, (s1, s2), b, a)))
theorem AskQ.mono {P : Program} {K : FuncId} {cap : Array Value} {ask : Use → Int} {m m' : Imm} (h : AskQ P K cap ask m) (hm : m.le m') : AskQ P K cap ask m' := fun m'' h' => h m'' (Imm.le_trans hm h')
theorem bits_get1 (f : FFun) (b : FBlk) : Value.int .i64 (endBits f b) = (getA (putA (putA [] 0 (.int .i64 f.ret)) 2 (.int .i64 1)) b.fin.kind).getD (.int .i64 0) := by
  rw [getA_put, getA_put, endBits]
  by_cases h0 : b.fin.kind = 0
  · simp [h0]
  · by_cases h2 : b.fin.kind = 2
    · simp [h2]
    · rw [if_neg (Ne.symm h2), if_neg (Ne.symm h0), if_neg h0, if_neg h2]; rfl
theorem bits_get2 (f : FFun) (b : FBlk) : Value.int .i64 (endBits f b) = (getA (putA (putA [] 2 (.int .i64 1)) 0 (.int .i64 f.ret)) b.fin.kind).getD (.int .i64 0) := by
  rw [getA_put, getA_put, endBits]
  by_cases h0 : b.fin.kind = 0
  · simp [h0]
  · by_cases h2 : b.fin.kind = 2
    · simp [h2]
    · rw [if_neg (Ne.symm h0), if_neg (Ne.symm h2), if_neg h0, if_neg h2]; rfl
theorem getL_i64 {ds : List (Int × Def)} (h : ∀ p ∈ ds, I64 p.2.1) (x : Int) : I64 ((getL ds x).getD (0, 0, 0, 0)).1 := by
  induction ds with
  | nil => exact ⟨by simp [getL], by simp [getL]⟩
  | cons p r ih =>
    simp only [getL]
    split
    · exact h p (by simp)
    · exact ih fun q hq => h q (by simp [hq])
section
variable {ask : Use → Int} {f : FFun} {b : FBlk} {k0 : Nat}
theorem uses_phi {p : FPhi} {k1 k2 : Nat} {z y : Int} (hb : f.blocks[k0]? = some b) (hp : b.phis[k1]? = some p) (hz : p.args[k2]? = some z) (hy : p.fr[k2]? = some y) (h0 : firstN ask ((f.blocks.zipIdx.take k0).flatMap (blockU f)) = 0)
    (h1 : firstN ask ((b.phis.take k1).flatMap phiU) = 0) (h2 : firstN ask ((phiU p).take k2) = 0) (hne : ask (z, (p.bits, 1), y, 1048576) ≠ 0) : usesP f ask = ask (z, (p.bits, 1), y, 1048576) :=
  firstN_flat (zip_get hb) h0 (by rw [blockU]; exact firstN_hit (firstN_flat hp h1 (firstN_at (phiU_get hz hy) h2 hne) hne) hne) hne
theorem uses_op {o : FOp} {k3 k4 : Nat} {z : Int} {sh : Int × Int} (hb : f.blocks[k0]? = some b) (ho : b.ops[k3]? = some o) (hz : o.args[k4]? = some z) (hs : (takesK o)[k4]? = some sh) (h0 : firstN ask ((f.blocks.zipIdx.take k0).flatMap (blockU f)) = 0)
    (h1 : firstN ask (b.phis.flatMap phiU) = 0) (h3 : firstN ask ((b.ops.zipIdx.take k3).flatMap (opU k0)) = 0) (h4 : firstN ask ((opU k0 (o, k3)).take k4) = 0) (hne : ask (z, sh, (k0 : Int), (k3 : Int)) ≠ 0) : usesP f ask = ask (z, sh, (k0 : Int), (k3 : Int)) :=
  firstN_flat (zip_get hb) h0 (by rw [blockU, firstN_add h1]; exact firstN_hit (firstN_flat (zip_get ho) h3 (firstN_at (opU_get hz hs) h4 hne) hne) hne) hne
theorem uses_end (hb : f.blocks[k0]? = some b) (h0 : firstN ask ((f.blocks.zipIdx.take k0).flatMap (blockU f)) = 0)
    (h1 : firstN ask (b.phis.flatMap phiU) = 0) (h3 : firstN ask (b.ops.zipIdx.flatMap (opU k0)) = 0) (he : endBits f b ≠ 0) (hne : ask (b.fin.arg, (endBits f b, 1), (k0 : Int), 1048576) ≠ 0) : usesP f ask = ask (b.fin.arg, (endBits f b, 1), (k0 : Int), 1048576) :=
  firstN_flat (zip_get hb) h0 (by rw [blockU, firstN_add h1, firstN_add h3, endU, if_neg he, firstN_one]) hne
theorem uses_step (hb : f.blocks[k0]? = some b) (h0 : firstN ask ((f.blocks.zipIdx.take k0).flatMap (blockU f)) = 0)
    (h1 : firstN ask (b.phis.flatMap phiU) = 0) (h3 : firstN ask (b.ops.zipIdx.flatMap (opU k0)) = 0) (he : endBits f b = 0 ∨ ask (b.fin.arg, (endBits f b, 1), (k0 : Int), 1048576) = 0) : firstN ask ((f.blocks.zipIdx.take (k0 + 1)).flatMap (blockU f)) = 0 := by
  refine firstN_step (zip_get hb) h0 ?_
  rw [blockU, firstN_add h1, firstN_add h3, endU]
  by_cases hz : endBits f b = 0
  · rw [if_pos hz]; rfl
  · rw [if_neg hz, firstN_one]; exact he.resolve_left hz
theorem uses_none (h0 : firstN ask ((f.blocks.zipIdx.take f.blocks.length).flatMap (blockU f)) = 0) : usesP f ask = 0 := by
  rw [List.take_of_length_le (by simp)] at h0; exact h0
theorem take_all {α : Type _} {l : List α} {n : Nat} (h : n = l.length) : l.take n = l := by subst h; exact List.take_length
end
theorem graphQ_zero {r : Option FGraph} {q : FGraph × Int} (h : graphQ r = q) (h0 : q.2 = 0) : r = some q.1 := by
  cases r with
  | none => simp [graphQ] at h; rw [← h] at h0; cases h0
  | some g => simp [graphQ] at h; rw [← h]
theorem graphQ_non {r : Option FGraph} {q : FGraph × Int} (h : graphQ r = q) (h0 : q.2 ≠ 0) : r = none := by
  cases r with
  | none => rfl
  | some g => simp [graphQ] at h; rw [← h] at h0; exact absurd rfl h0
theorem okPhi_t {pr : List Int} {p : FPhi} (h1 : ¬ (p.fr.length : Int) = 0) (h2 : p.fr = pr) (h3 : (p.args.length : Int) = (p.fr.length : Int)) : okPhi pr p = true := by
  simp only [okPhi, beq_iff_eq.2 h2, decide_eq_false h1, decide_eq_true h3]; rfl
theorem okPhi_f1 {pr : List Int} {p : FPhi} (h1 : (p.fr.length : Int) = 0) : okPhi pr p = false := by simp only [okPhi, decide_eq_true h1]; rfl
theorem okPhi_f2 {pr : List Int} {p : FPhi} (h2 : ¬ p.fr = pr) : okPhi pr p = false := by simp [okPhi, h2]
theorem okPhi_f3 {pr : List Int} {p : FPhi} (h3 : ¬ (p.args.length : Int) = (p.fr.length : Int)) : okPhi pr p = false := by simp only [okPhi, decide_eq_false h3]; simp
theorem okPhi_len {pr : List Int} {p : FPhi} (h : okPhi pr p = true) : p.fr = pr ∧ p.args.length = p.fr.length := by
  simp only [okPhi, Bool.not_eq_true', Bool.or_eq_false_iff, Bool.not_eq_false', beq_iff_eq, decide_eq_true_eq] at h
  exact ⟨h.2.1, by have := h.2.2; omega⟩
theorem okShape_t {g : FGraph} {t pr : List Int} {i : Nat} {b : FBlk} (hpr : g.pred[i]? = some pr) (h1 : overP t i i = true) (h2 : ∀ (j : Nat) p, j < b.phis.length → b.phis[j]? = some p → okPhi pr p = true) (h3 : (b.fin.kind = 1 ∨ b.fin.kind = 3) → b.fin.arg = 0) : okShape g t i b = true := by
  have e2 : b.phis.all (okPhi (g.pred.getD i [])) = true := List.all_eq_true.2 fun p hp => by
    obtain ⟨j, hj⟩ := List.mem_iff_getElem?.1 hp
    rw [getDl_of hpr]; exact h2 j p (List.getElem?_eq_some_iff.1 hj).1 hj
  rw [okShape, h1, e2]
  by_cases hk : b.fin.kind = 1 ∨ b.fin.kind = 3
  · rw [h3 hk]; simp
  · have : (b.fin.kind == 1 || b.fin.kind == 3) = false := by simpa using hk
    rw [this]; rfl
theorem okShape_f1 {g : FGraph} {t : List Int} {i : Nat} {b : FBlk} (h : overP t i i = false) : okShape g t i b = false := by rw [okShape, h]; rfl
theorem okShape_f2 {g : FGraph} {t pr : List Int} {i j : Nat} {b : FBlk} {p : FPhi} (hpr : g.pred[i]? = some pr) (hp : b.phis[j]? = some p) (h : okPhi pr p = false) : okShape g t i b = false := by
  have : b.phis.all (okPhi (g.pred.getD i [])) = false := List.all_eq_false.2 ⟨p, List.mem_of_getElem? hp, by rw [getDl_of hpr, h]; simp⟩
  rw [okShape, this]; simp
theorem okShape_f3 {g : FGraph} {t : List Int} {i : Nat} {b : FBlk} (hk : b.fin.kind = 1 ∨ b.fin.kind = 3) (h : ¬ b.fin.arg = 0) : okShape g t i b = false := by
  have e1 : (b.fin.kind == 1 || b.fin.kind == 3) = true := by simpa using hk
  have e2 : (b.fin.arg == 0) = false := by simpa using h
  rw [okShape, e1, e2]; simp
noncomputable def CheckC (f : FFun) (A B : Option Addr) (c d : Nat) (lev : Int) (g : FGraph) (A1 A2 A3 : Option Addr) (c1 c2 c3 : Nat) (mv : Value) : List Value :=
  [.slice A f.params.length c, .int .i64 f.ret, .slice B f.blocks.length d, .int .i64 lev, .slice A1 g.succ.length c1, .slice A2 g.pred.length c2, .slice A3 (treeP g 0).length c3, mv]
theorem getL_none {α : Type} {l : List (Int × α)} {x : Int} : getL l x = none ↔ x ∉ l.map (·.1) := by
  rw [← getL_mem]; cases getL l x <;> simp
theorem nodup_snoc {α : Type} {x : List (Int × α)} {v : Int} {d : α} (h : (x.map (·.1)).Nodup) (hn : getL x v = none) : ((x ++ [(v, d)]).map (·.1)).Nodup := by
  rw [List.map_append, List.nodup_append]
  refine ⟨h, by simp, fun a ha b hb => ?_⟩
  simp at hb; subst hb
  rintro rfl
  exact getL_none.1 hn ha
def PD (f : FFun) : List (Int × Def) := f.params.zipIdx.map paramD
theorem params_keys (f : FFun) (k : Nat) : ∀ v : Int, v ∈ ((f.params.zipIdx.take k).map paramD).map (·.1) → 1 ≤ v ∧ v ≤ k := by
  intro v hv
  simp only [List.map_map, List.mem_map, Function.comp] at hv
  obtain ⟨x, hx, rfl⟩ := hv
  obtain ⟨j, hj⟩ := List.mem_iff_getElem?.1 hx
  rw [List.getElem?_take] at hj
  split at hj
  · rw [List.getElem?_zipIdx] at hj
    cases hp : f.params[j]? with
    | none => rw [hp] at hj; cases hj
    | some z => rw [hp] at hj; simp at hj; subst hj; simp [paramD]; omega
  · cases hj
theorem params_new (f : FFun) (k : Nat) : getL ((f.params.zipIdx.take k).map paramD) ((k : Int) + 1) = none := getL_none.2 fun h => by have := params_keys f k _ h; omega
theorem params_step {f : FFun} {k : Nat} {z : Int} (h : f.params[k]? = some z) : putL ((f.params.zipIdx.take k).map paramD) ((k : Int) + 1) (-1, 0, z, 1) = (f.params.zipIdx.take (k + 1)).map paramD := by
  rw [putL_new (params_new f k), take_map_succ (zip_get h)]; rfl
theorem params_nodup (f : FFun) : ∀ k : Nat, k ≤ f.params.length → (((f.params.zipIdx.take k).map paramD).map (·.1)).Nodup
  | 0, _ => by simp
  | k + 1, hk => by
    have hz : f.params[k]? = some f.params[k] := List.getElem?_eq_getElem (by omega)
    have ih := params_nodup f k (by omega)
    rw [take_map_succ (zip_get hz)]
    exact nodup_snoc ih (params_new f k)
theorem flatD_take {α β : Type _} {F : α → List β} {l : List α} {k : Nat} {z : α} (h : l[k]? = some z) : (l.take (k + 1)).flatMap F = (l.take k).flatMap F ++ F z := by
  rw [List.take_add_one, h]; simp
theorem flatD_split {α β : Type _} {F : α → List β} {l : List α} {k : Nat} {z : α} (h : l[k]? = some z) : l.flatMap F = (l.take k).flatMap F ++ (F z ++ (l.drop (k + 1)).flatMap F) := by
  have e := List.take_append_drop (k + 1) l
  conv => lhs; rw [← e]
  rw [List.flatMap_append, flatD_take h, List.append_assoc]
section
variable {f : FFun} {b : FBlk} {k1 : Nat}
theorem map_split {α β : Type _} {F : α → β} {l : List α} {k : Nat} {z : α} (h : l[k]? = some z) : l.map F = (l.take k).map F ++ (F z :: (l.drop (k + 1)).map F) := by
  have e := List.take_append_drop (k + 1) l
  conv => lhs; rw [← e]
  rw [List.map_append, take_map_succ h]; simp
theorem pre_phi {p : FPhi} {k2 : Nat} (hb : f.blocks[k1]? = some b) (hp : b.phis[k2]? = some p) : (PD f ++ (f.blocks.zipIdx.take k1).flatMap blockD ++ (b.phis.take k2).map (phiD k1) ++ [phiD k1 p]) <+: defsL f := by
  refine ⟨(b.phis.drop (k2 + 1)).map (phiD k1) ++ b.ops.zipIdx.flatMap (opD k1) ++ (f.blocks.zipIdx.drop (k1 + 1)).flatMap blockD, ?_⟩
  rw [defsL, flatD_split (zip_get hb), blockD, map_split hp]
  simp [PD]
theorem pre_op {o : FOp} {k3 : Nat} (hb : f.blocks[k1]? = some b) (ho : b.ops[k3]? = some o) : (PD f ++ (f.blocks.zipIdx.take k1).flatMap blockD ++ b.phis.map (phiD k1) ++ (b.ops.zipIdx.take k3).flatMap (opD k1) ++ opD k1 (o, k3)) <+: defsL f := by
  refine ⟨(b.ops.zipIdx.drop (k3 + 1)).flatMap (opD k1) ++ (f.blocks.zipIdx.drop (k1 + 1)).flatMap blockD, ?_⟩
  rw [defsL, flatD_split (zip_get hb), blockD, flatD_split (zip_get ho)]
  simp [PD]
theorem definedP_bad1 {p : FPhi} (hb : f.blocks[k1]? = some b) {k2 : Nat} (hp : b.phis[k2]? = some p) (h : okDst p = false) : definedP f = 7 := by
  refine if_neg fun hd => ?_
  rw [hd.1 b (List.mem_of_getElem? hb) p (List.mem_of_getElem? hp)] at h; cases h
theorem definedP_bad2 {x : List (Int × Def)} {v : Int} {d : Def} (hp : (x ++ [(v, d)]) <+: defsL f) (h : (getL x v).isSome = true) : definedP f = 7 := by
  refine if_neg fun hd => ?_
  obtain ⟨r, hr⟩ := hp
  have := hd.2
  rw [← hr, List.map_append, List.map_append] at this
  have h1 := (List.nodup_append.1 (List.nodup_append.1 this).1).2.2
  exact h1 v (getL_mem.1 h) v (by simp) rfl
theorem definedP_ok (h1 : ∀ (j : Nat) b, j < f.blocks.length → f.blocks[j]? = some b → ∀ p ∈ b.phis, okDst p = true) (h2 : ((defsL f).map (·.1)).Nodup) : definedP f = usesP f (askD f) := by
  refine if_pos ⟨fun b hb => ?_, h2⟩
  obtain ⟨j, hj⟩ := List.mem_iff_getElem?.1 hb
  exact h1 j b (List.getElem?_eq_some_iff.1 hj).1 hj
theorem defsL_eq (f : FFun) : defsL f = PD f ++ (f.blocks.zipIdx.take f.blocks.length).flatMap blockD := by
  rw [List.take_of_length_le (by simp)]; rfl
theorem blockD_step (hb : f.blocks[k1]? = some b) (X : List (Int × Def)) : X ++ (f.blocks.zipIdx.take k1).flatMap blockD ++ b.phis.map (phiD k1) ++ b.ops.zipIdx.flatMap (opD k1) = X ++ (f.blocks.zipIdx.take (k1 + 1)).flatMap blockD := by
  rw [flatD_take (zip_get hb), blockD]; simp
theorem defs_i64 (h : f.blocks.length ≤ 140737488355328) : ∀ p ∈ defsL f, I64 p.2.1 := by
  intro p hp
  rcases List.mem_append.1 hp with hp | hp
  · obtain ⟨x, _, rfl⟩ := List.mem_map.1 hp
    exact ⟨by simp [paramD], by simp [paramD]⟩
  · obtain ⟨x, hx, hp⟩ := List.mem_flatMap.1 hp
    obtain ⟨j, hj⟩ := List.mem_iff_getElem?.1 hx
    have hjl := (List.getElem?_eq_some_iff.1 hj).1
    rw [List.getElem?_zipIdx] at hj
    have hx2 : x.2 < f.blocks.length := by
      cases hz : f.blocks[j]? with
      | none => rw [hz] at hj; cases hj
      | some z => rw [hz] at hj; simp at hj; subst hj; simpa using hjl
    rcases List.mem_append.1 hp with hp | hp
    · obtain ⟨q, _, rfl⟩ := List.mem_map.1 hp
      exact ⟨by simp only [phiD]; omega, by simp only [phiD]; omega⟩
    · obtain ⟨q, _, hp⟩ := List.mem_flatMap.1 hp
      unfold opD at hp
      split at hp
      · simp at hp; subst hp; exact ⟨by dsimp only; omega, by dsimp only; omega⟩
      · cases hp
theorem shapeP_phis (h : shapeP f = 0) : ∀ b ∈ f.blocks, ∀ p ∈ b.phis, p.args.length ≤ p.fr.length := by
  obtain ⟨g, _, ha⟩ := shapeP_zero h
  intro b hb p hp
  obtain ⟨i, hi⟩ := List.mem_iff_getElem?.1 hb
  have h1 := ha i b hi
  simp only [okShape, Bool.and_eq_true] at h1
  exact Nat.le_of_eq (okPhi_len (List.all_eq_true.1 h1.2.1 p hp)).2
end
end Go.Proofs.YtipmgkhjoekaaaaGreat
namespace Go.Proofs.YtipmgkhjoekaaaaGreat.Fw
open Go Go.RowKit Go.Sort
theorem val_getD {α : Type} (f : α → Value) (l : List (Int × α)) (x : Int) (d : α) : f ((getL l x).getD d) = (getA (valL f l) x).getD (f d) := by
  rw [getA_val]; cases getL l x <;> rfl
theorem val_is {α : Type} (f : α → Value) (l : List (Int × α)) (x : Int) : (getL l x).isSome = (getA (valL f l) x).isSome := by
  rw [getA_val]; cases getL l x <;> rfl
section
variable {P : Program} {ops : Array Oper} {Q : Post} {rest : List Oper} {n : Nat} {s : Start} {m : Imm} {R : List Res} {L : Loc}
variable {d : Nat} {dst : Option Nat} {ty : TypeId} {pos : String} {af : Array Edge} {g : Option (Nat × Bool)} {x y : Operand}
theorem S_mapUpdateV {α : Type} {f : α → Value} {T K E b : Nat} {x' : Int} {l : List (Int × α)} (v : α) {z : Operand} (i : Nat) (hT : P.underlying T = some (.map K E)) (hK : P.underlying K = some (.int .i64)) (hx : ev L x = some (.map (some b))) (hy : ev L y = some (.int .i64 x')) (hz : ev L z = some (f v)) (hi : R[i]? = some (imap b (valL f l)))
    (next : WL P ops Q rest n s m (R.set i (imap b (valL f (putL l x' v)))) L) : WL P ops Q (⟨none, .mapUpdate T x y z, ty, pos, af, none⟩ :: rest) n s m R L :=
  S_mapUpdate i hT hK hx hy hz hi (by rw [putA_val]; exact next)
theorem r_quietM {f : FuncId} {xs : List Operand} {tys : Array TypeId} {vs : List Value} {v : Value} {b : Nat} {l : List (Int × Value)} (i : Nat) (hi : R[i]? = some (imap b l))
    (hq : ∀ m', m.le m' → MapIn m' b l → Quiet P f vs m' v) (hf : hasBody P f = true) (hxs : evs L xs = some vs) : Qt P ⟨dst, .call ⟨.value (.func f), xs.toArray, tys⟩, ty, pos, af, g⟩ n m R L v :=
  r_quietx (fun w hp => by obtain ⟨m', p, le, h⟩ := hp.putM hi; exact ⟨m', p.inW, hq m' le h⟩) hf hxs
theorem k_row0 {g' : Option Nat} {n' cap e sz : Nat} {xs : List Value} (i : Nat) (hi : R[i]? = some (row g' n' cap e sz xs)) : ∀ w, St s m R w → (g' = none → cap = 0) := fun w hS hg => ((row_g (hS.at hi)).2.2.2.1 hg).2
end
theorem does_putO {P : Program} {f : FuncId} {m : Imm} {E cap : Nat} {g : Option Nat} {l : List Int} (T : List Int → List Int) (h0 : T [] = []) (hT : (T l).length = l.length) (hg : 0 < l.length → ∃ b, g = some b)
    (h : ∀ b w, Holds (Value.int .i64) w b 0 l.toArray → b < w.heap.size → Calls P f #[.slice (some ⟨b, 0, none⟩) l.length cap] w fun e w' => e = .returned (.tuple #[]) ∧ ∃ n os, w' = grow (putRow (Value.int .i64) (Sort.ahead w n) b 0 (T l).toArray) os)
    (hn : ∀ a w, Calls P f #[.slice a 0 cap] w fun e w' => e = .returned (.tuple #[]) ∧ w' = w) :
    Does P f [slI g cap l] m [rowI E g cap l] (fun m' R' v => m' = m ∧ R' = [rowI E g cap (T l)] ∧ v = .tuple #[]) := by
  cases hl : l with
  | nil =>
    intro w hp
    refine (hn (rowA g) w).mono fun e w' => ?_
    rintro ⟨rfl, rfl⟩
    exact ⟨_, m, _, rfl, ⟨rfl, by rw [h0], rfl⟩, hp.start⟩
  | cons z r =>
    rw [← hl]
    obtain ⟨b, rfl⟩ := hg (by rw [hl]; simp)
    exact does_put hT (h b)
end Go.Proofs.YtipmgkhjoekaaaaGreat.Fw
namespace Go.Proofs.YtipmgkhjoekaaaaGreat
open Go Go.Proofs.YtipmgkhjoekaaaaGreat.Fw
def idV (z : Int) : Value := .int .i64 z
def defsH (ops : List FOp) (k : Nat) : List (Int × Int) := (ops.zipIdx.take k).foldl (fun d x => if 0 < x.1.dst then putL d x.1.dst (x.2 : Int) else d) []
def impH (ops : List FOp) (k : Nat) : List Int := ((ops.zipIdx.take k).filter fun x => !(pureK x.1.kind)).map fun x => (x.2 : Int)
def argsH (ops : List FOp) (k : Nat) (l : List Int) : List Int := l.filterMap (getL (defsH ops k))
def rawH (ops : List FOp) (x : FOp × Nat) : List Int := argsH ops x.2 x.1.args ++ (if pureK x.1.kind then [] else impH ops x.2)
def hangsP (ops : List FOp) : List (List Int) := ops.zipIdx.map fun x => sortC (rawH ops x)
theorem hangsP_len (ops : List FOp) : (hangsP ops).length = ops.length := by simp [hangsP]
section
variable {ops : List FOp} {k : Nat} {o : FOp}
theorem defsH_step1 (h : ops[k]? = some o) (hd : 0 < o.dst) : defsH ops (k + 1) = putL (defsH ops k) o.dst (k : Int) := by
  rw [defsH, List.take_add_one, zip_get h]; simp [defsH, hd]
theorem defsH_step0 (h : ops[k]? = some o) (hd : ¬ 0 < o.dst) : defsH ops (k + 1) = defsH ops k := by
  rw [defsH, List.take_add_one, zip_get h]; simp [defsH, hd]
theorem impH_step1 (h : ops[k]? = some o) (hp : pureK o.kind = false) : impH ops (k + 1) = impH ops k ++ [(k : Int)] := by
  rw [impH, List.take_add_one, zip_get h]; simp [impH, hp]
theorem impH_step0 (h : ops[k]? = some o) (hp : pureK o.kind = true) : impH ops (k + 1) = impH ops k := by
  rw [impH, List.take_add_one, zip_get h]; simp [impH, hp]
theorem mem_zip_take {α : Type _} {l : List α} {k : Nat} {x : α × Nat} (h : x ∈ l.zipIdx.take k) : x.2 < k ∧ l[x.2]? = some x.1 := by
  obtain ⟨j, hj⟩ := List.mem_iff_getElem?.1 h
  rw [List.getElem?_take] at hj
  split at hj
  · rename_i hjk
    rw [List.getElem?_zipIdx] at hj
    cases hz : l[j]? with
    | none => rw [hz] at hj; cases hj
    | some z => rw [hz] at hj; simp at hj; subst hj; exact ⟨by simpa using hjk, by simpa using hz⟩
  · cases hj
theorem impH_len (ops : List FOp) (k : Nat) : (impH ops k).length ≤ k := by
  rw [impH, List.length_map]
  have h1 := List.length_filter_le (fun x : FOp × Nat => !(pureK x.1.kind)) (ops.zipIdx.take k)
  have h2 := List.length_take_le k ops.zipIdx
  omega
theorem mem_impH {v : Int} : v ∈ impH ops k ↔ ∃ j o, j < k ∧ ops[j]? = some o ∧ pureK o.kind = false ∧ v = j := by
  simp only [impH, List.mem_map, List.mem_filter]
  constructor
  · rintro ⟨x, ⟨hx, hp⟩, rfl⟩
    have := mem_zip_take hx
    exact ⟨x.2, x.1, this.1, this.2, by simpa using hp, rfl⟩
  · rintro ⟨j, o, hj, ho, hp, rfl⟩
    refine ⟨(o, j), ⟨List.mem_of_getElem? (i := j) ?_, by simp [hp]⟩, rfl⟩
    rw [List.getElem?_take, if_pos hj]; exact zip_get ho
theorem putL_vals {α : Type} {p : α → Prop} {l : List (Int × α)} (h : ∀ q ∈ l, p q.2) {x : Int} {v : α} (hv : p v) : ∀ q ∈ putL l x v, p q.2 := by
  induction l with
  | nil => intro q hq; simp [putL] at hq; subst hq; exact hv
  | cons a r ih =>
    intro q hq
    simp only [putL] at hq
    split at hq
    · rcases List.mem_cons.1 hq with rfl | hq
      · exact hv
      · exact h q (by simp [hq])
    · rcases List.mem_cons.1 hq with rfl | hq
      · exact h _ (by simp)
      · exact ih (fun q hq => h q (by simp [hq])) q hq
theorem getL_val {α : Type} {l : List (Int × α)} {x : Int} {v : α} (h : getL l x = some v) : ∃ q ∈ l, q.2 = v := by
  induction l with
  | nil => cases h
  | cons a r ih =>
    simp only [getL] at h
    split at h
    · cases h; exact ⟨a, by simp, rfl⟩
    · obtain ⟨q, hq, e⟩ := ih h; exact ⟨q, by simp [hq], e⟩
theorem defsH_vals (ops : List FOp) : ∀ k : Nat, ∀ q ∈ defsH ops k, 0 ≤ q.2 ∧ q.2 < (k : Int)
  | 0 => by simp [defsH]
  | k + 1 => by
    have ih := defsH_vals ops k
    by_cases hk : k < ops.length
    · have ho : ops[k]? = some ops[k] := List.getElem?_eq_getElem hk
      by_cases hd : 0 < ops[k].dst
      · rw [defsH_step1 ho hd]
        exact putL_vals (p := fun z : Int => 0 ≤ z ∧ z < ((k + 1 : Nat) : Int)) (fun q hq => by have := ih q hq; omega) (by omega)
      · rw [defsH_step0 ho hd]; intro q hq; have := ih q hq; omega
    · have e : defsH ops (k + 1) = defsH ops k := by
        rw [defsH, defsH, List.take_of_length_le (by simp; omega), List.take_of_length_le (by simp; omega)]
      rw [e]; intro q hq; have := ih q hq; omega
theorem rawH_rng (x : FOp × Nat) : ∀ v ∈ rawH ops x, 0 ≤ v ∧ v < (x.2 : Int) := by
  intro v hv
  rcases List.mem_append.1 hv with hv | hv
  · simp only [argsH, List.mem_filterMap] at hv
    obtain ⟨a, _, ha⟩ := hv
    obtain ⟨q, hq, rfl⟩ := getL_val ha
    exact defsH_vals ops x.2 q hq
  · split at hv
    · cases hv
    · obtain ⟨j, o, hj, _, _, rfl⟩ := mem_impH.1 hv
      omega
theorem hangsP_get (h : ops[k]? = some o) : (hangsP ops)[k]? = some (sortC (rawH ops (o, k))) := by
  rw [hangsP, List.getElem?_map, zip_get h]; rfl
theorem hangsP_rng {l : List Int} (h : (hangsP ops)[k]? = some l) : ∀ v ∈ l, 0 ≤ v ∧ v < (k : Int) := by
  have hk : k < ops.length := by have := (List.getElem?_eq_some_iff.1 h).1; rwa [hangsP_len] at this
  rw [hangsP_get (List.getElem?_eq_getElem hk)] at h
  cases h
  exact fun v hv => rawH_rng (ops := ops) (ops[k], k) v (sortC_sub _ v hv)
theorem argsH_step1 {l : List Int} {j : Nat} {z v : Int} (h : l[j]? = some z) (hv : getL (defsH ops k) z = some v) : argsH ops k (l.take (j + 1)) = argsH ops k (l.take j) ++ [v] := by
  rw [argsH, List.take_add_one, h]; simp [argsH, hv]
theorem argsH_step0 {l : List Int} {j : Nat} {z : Int} (h : l[j]? = some z) (hv : getL (defsH ops k) z = none) : argsH ops k (l.take (j + 1)) = argsH ops k (l.take j) := by
  rw [argsH, List.take_add_one, h]; simp [argsH, hv]
theorem argsH_len (ops : List FOp) (k : Nat) (l : List Int) : (argsH ops k l).length ≤ l.length := List.length_filterMap_le _ _
end
theorem take_set_end {α : Type _} {l : List α} {k : Nat} {v : α} (h : k < l.length) : (l.set k v).take (k + 1) = l.take k ++ [v] := by
  rw [List.take_add_one, List.take_set_of_le (Nat.le_refl _), List.getElem?_set_self h]; rfl
theorem set_same {α : Type _} {l : List α} {k : Nat} {v : α} (h : l[k]? = some v) : l.set k v = l := by
  obtain ⟨hk, rfl⟩ := List.getElem?_eq_some_iff.1 h
  exact List.set_getElem_self hk
instance : Inhabited FOp := ⟨⟨0, 0, 0, 0, [], 0⟩⟩
instance : Inhabited FEnd := ⟨⟨0, 0, []⟩⟩
instance : Inhabited FBlk := ⟨⟨[], [], ⟨0, 0, []⟩⟩⟩
def inM (L : List (Int × Bool)) (a : Int) : Bool := (getL L a).getD false
def standsB (L : List (Int × Bool)) (l : List Int) : Bool := !(l.any fun k => !(inM L k))
noncomputable def rightP (f : FFun) (block : Int) : Bool := decide (0 ≤ block) && (decide (block < (f.blocks.length : Int)) && (checkP f 2 == 0))
def putM (order : List Int) (k : Nat) : List (Int × Bool) := (order.take k).foldl (fun L a => putL L a true) []
def okO (b : FBlk) (order : List Int) (k : Nat) : Bool := match order[k]? with
  | some a => !(decide (a < 0) || decide ((b.ops.length : Int) ≤ a)) && (!(inM (putM order k) a) && standsB (putM order k) ((hangsP b.ops).getD a.toNat []))
  | none => true
def legalP (b : FBlk) (order : List Int) : Bool := decide (order.length = b.ops.length) && (List.range order.length).all (okO b order)
noncomputable def LegalP (f : FFun) (block : Int) (order : List Int) : Bool := rightP f block && (match f.blocks[block.toNat]? with | some b => legalP b order | none => false)
theorem putM_succ {order : List Int} {k : Nat} {a : Int} (h : order[k]? = some a) : putM order (k + 1) = putL (putM order k) a true := by
  rw [putM, List.take_add_one, h]; simp [putM]
section
variable {b : FBlk} {order : List Int} {k : Nat} {a : Int}
theorem okO_f1 (h : order[k]? = some a) (h1 : a < 0 ∨ (b.ops.length : Int) ≤ a) : okO b order k = false := by
  have : (decide (a < 0) || decide ((b.ops.length : Int) ≤ a)) = true := by simpa using h1
  simp only [okO, h, this]; rfl
theorem okO_f2 (h : order[k]? = some a) (h1 : inM (putM order k) a = true) : okO b order k = false := by simp [okO, h, h1]
theorem okO_f3 {l : List Int} (h : order[k]? = some a) (hl : (hangsP b.ops)[a.toNat]? = some l) (h1 : standsB (putM order k) l = false) : okO b order k = false := by simp only [okO, h, getDl_of hl, h1]; simp
theorem okO_t {l : List Int} (h : order[k]? = some a) (h0 : 0 ≤ a) (hn : a < (b.ops.length : Int)) (h1 : inM (putM order k) a = false) (hl : (hangsP b.ops)[a.toNat]? = some l) (h2 : standsB (putM order k) l = true) : okO b order k = true := by
  have : (decide (a < 0) || decide ((b.ops.length : Int) ≤ a)) = false := by
    rw [Bool.or_eq_false_iff, decide_eq_false_iff_not, decide_eq_false_iff_not]; omega
  simp only [okO, h, this, h1, getDl_of hl, h2]; rfl
theorem legalP_f0 (h : ¬ (order.length : Int) = (b.ops.length : Int)) : legalP b order = false := by
  have : ¬ order.length = b.ops.length := by omega
  simp [legalP, this]
theorem legalP_f (h : order[k]? = some a) (h1 : okO b order k = false) : legalP b order = false := by
  have : (List.range order.length).all (okO b order) = false := range_all_false (List.getElem?_eq_some_iff.1 h).1 h1
  simp [legalP, this]
theorem legalP_t (h : (order.length : Int) = (b.ops.length : Int)) (h1 : ∀ j, j < order.length → okO b order j = true) : legalP b order = true := by
  have e : order.length = b.ops.length := by omega
  rw [legalP, range_all_true h1, decide_eq_true e]; rfl
end
theorem right_small {f : FFun} {block : Int} (h : rightP f block = true) : mayF f = true := by
  simp only [rightP, Bool.and_eq_true, beq_iff_eq] at h
  have h1 := h.2.2
  simp only [checkP] at h1
  rw [if_neg (by omega), lookP] at h1
  cases hm : mayF f with
  | true => rfl
  | false => rw [if_pos hm] at h1; omega
theorem may_small {f : FFun} (h : mayF f = true) {b : FBlk} (hb : b ∈ f.blocks) : b.ops.length ≤ 512 ∧ (∀ o ∈ b.ops, o.args.length ≤ 64) ∧ b.phis.length ≤ 512 := by
  simp only [mayF, Bool.and_eq_true, Bool.not_eq_true', Bool.or_eq_false_iff, decide_eq_false_iff_not] at h
  obtain ⟨⟨⟨⟨⟨h1, h2⟩, h4⟩, h5⟩, h6⟩, h3⟩ := h
  have hblk := List.any_eq_false.1 h3 b hb
  have hm : mayBlock b = true := by simpa using hblk
  simp only [mayBlock, Bool.and_eq_true] at hm
  have hsum : ((b.phis.length : Int) + (b.ops.length : Int)) ≤ (f.blocks.map fun b => ((b.phis.length : Int) + (b.ops.length : Int))).sum := by
    clear h1 h2 h3 h4 h5 h6 hblk hm
    revert hb
    generalize f.blocks = l
    intro hb
    induction l with
    | nil => cases hb
    | cons x r ih =>
      have hpos : ∀ l : List FBlk, 0 ≤ (l.map fun b => ((b.phis.length : Int) + (b.ops.length : Int))).sum := fun l => by
        induction l with
        | nil => simp
        | cons y s ih => simp only [List.map_cons, List.sum_cons]; omega
      have := hpos r
      simp only [List.map_cons, List.sum_cons]
      rcases List.mem_cons.1 hb with rfl | hb
      · omega
      · have := ih hb; omega
  simp only [sizeF] at h4
  refine ⟨by omega, fun o ho => ?_, by omega⟩
  have := List.all_eq_true.1 hm.2.1 o ho
  simp only [mayOpC, Bool.not_eq_true', Bool.or_eq_false_iff, Bool.not_eq_false', listsB, List.all_cons, List.all_nil, Bool.and_true, decide_eq_false_iff_not] at this
  have h2 := this.2
  omega
theorem right_block {f : FFun} {block : Int} (h : rightP f block = true) : 0 ≤ block ∧ block < (f.blocks.length : Int) := by
  simp only [rightP, Bool.and_eq_true, decide_eq_true_eq] at h
  exact ⟨h.1, h.2.1⟩
def depS (ll : List (List Int)) (out : List Int) (l : List Int) : Int := l.foldl (fun n k => max n (out.getD k.toNat 0 + 1)) 0
def depK (ll : List (List Int)) (k : Nat) : List Int := (ll.take k).foldl (fun out l => out ++ [depS ll out l]) []
def depP (ll : List (List Int)) : List Int := depK ll ll.length
theorem depK_succ {ll : List (List Int)} {k : Nat} {l : List Int} (h : ll[k]? = some l) : depK ll (k + 1) = depK ll k ++ [depS ll (depK ll k) l] := by
  rw [depK, List.take_add_one, h]; simp [depK]
theorem depK_len (ll : List (List Int)) : ∀ k : Nat, k ≤ ll.length → (depK ll k).length = k
  | 0, _ => rfl
  | k + 1, h => by rw [depK_succ (List.getElem?_eq_getElem (by omega)), List.length_append, depK_len ll k (by omega)]; rfl
theorem depS_take {ll : List (List Int)} {out l : List Int} {j : Nat} {z : Int} (h : l[j]? = some z) : depS ll out (l.take (j + 1)) = max (depS ll out (l.take j)) (out.getD z.toNat 0 + 1) := by
  rw [depS, List.take_add_one, h]; simp [depS]
theorem depS_rng {ll : List (List Int)} {out : List Int} {K : Int} (h : ∀ v ∈ out, 0 ≤ v ∧ v < K) (hK : 0 ≤ K) : ∀ l : List Int, (∀ z ∈ l, 0 ≤ z ∧ z < out.length) → 0 ≤ depS ll out l ∧ depS ll out l ≤ K := by
  intro l hl
  refine snoc_ind (p := fun l : List Int => (∀ z : Int, z ∈ l → 0 ≤ z ∧ z < (out.length : Int)) → 0 ≤ depS ll out l ∧ depS ll out l ≤ K) (fun _ => by simp [depS]; omega) (fun l x ih hx => ?_) l hl
  have h1 := ih fun z hz => hx z (by simp [hz])
  have hxr := hx x (by simp)
  have hz : out[x.toNat]? = some out[x.toNat] := List.getElem?_eq_getElem (by omega)
  have h2 := h _ (List.mem_of_getElem? hz)
  have e : depS ll out (l ++ [x]) = max (depS ll out l) (out.getD x.toNat 0 + 1) := by simp [depS]
  rw [e, getD_of hz]; omega
theorem depK_rng {ops : List FOp} : ∀ k : Nat, k ≤ ops.length → ∀ v ∈ depK (hangsP ops) k, 0 ≤ v ∧ v < (k : Int)
  | 0, _ => by simp [depK]
  | k + 1, hk => by
    have hkl : k < (hangsP ops).length := by rw [hangsP_len]; omega
    have hz : (hangsP ops)[k]? = some (hangsP ops)[k] := List.getElem?_eq_getElem hkl
    have ih := depK_rng (ops := ops) k (by omega)
    intro v hv
    rw [depK_succ hz] at hv
    have hl := depK_len (hangsP ops) k (by rw [hangsP_len]; omega)
    rcases List.mem_append.1 hv with hv | hv
    · have := ih v hv; omega
    · simp at hv; subst hv
      have := depS_rng (ll := hangsP ops) (out := depK (hangsP ops) k) (K := (k : Int)) ih (by omega) (hangsP ops)[k] (fun z hz' => by rw [hl]; exact hangsP_rng hz z hz')
      omega
theorem LegalP_f {f : FFun} {block : Int} {order : List Int} (h : rightP f block = false) : LegalP f block order = false := by rw [LegalP, h]; rfl
theorem LegalP_t {f : FFun} {block : Int} {order : List Int} {b : FBlk} (h : rightP f block = true) (hb : f.blocks[block.toNat]? = some b) : LegalP f block order = legalP b order := by rw [LegalP, h, hb]; rfl
def ordOps (b : FBlk) (order : List Int) : List FOp := order.map fun a => b.ops.getD a.toNat ⟨0, 0, 0, 0, [], 0⟩
def putOps (f : FFun) (block : Int) (order : List Int) : FFun := { f with blocks := f.blocks.modify block.toNat fun b => { b with ops := ordOps b order } }
noncomputable def HangsP (f : FFun) (block at_ : Int) : List Int := if rightP f block = true then (if 0 ≤ at_ then (match f.blocks[block.toNat]? with | some b => (hangsP b.ops).getD at_.toNat [] | none => []) else []) else []
theorem HangsP_f {f : FFun} {block at_ : Int} (h : rightP f block = false) : HangsP f block at_ = [] := by simp [HangsP, h]
theorem HangsP_f1 {f : FFun} {block at_ : Int} (h : at_ < 0) : HangsP f block at_ = [] := by
  have : ¬ 0 ≤ at_ := by omega
  simp [HangsP, this]
theorem HangsP_f2 {f : FFun} {block at_ : Int} {b : FBlk} (hb : f.blocks[block.toNat]? = some b) (h : (b.ops.length : Int) ≤ at_) : HangsP f block at_ = [] := by
  have : (hangsP b.ops)[at_.toNat]? = none := List.getElem?_eq_none (by rw [hangsP_len]; omega)
  simp only [HangsP, hb, List.getD_eq_getElem?_getD, this]; simp
theorem HangsP_t {f : FFun} {block at_ : Int} {b : FBlk} {l : List Int} (h : rightP f block = true) (h0 : 0 ≤ at_) (hb : f.blocks[block.toNat]? = some b) (hl : (hangsP b.ops)[at_.toNat]? = some l) : HangsP f block at_ = l := by
  simp [HangsP, h, h0, hb, hl]
noncomputable def DepthP (f : FFun) (block : Int) : List Int := if rightP f block = true then (match f.blocks[block.toNat]? with | some b => depP (hangsP b.ops) | none => []) else []
theorem DepthP_f {f : FFun} {block : Int} (h : rightP f block = false) : DepthP f block = [] := by simp [DepthP, h]
theorem DepthP_t {f : FFun} {block : Int} {b : FBlk} (h : rightP f block = true) (hb : f.blocks[block.toNat]? = some b) : DepthP f block = depP (hangsP b.ops) := by simp [DepthP, h, hb]
theorem getL_putL {α : Type} (l : List (Int × α)) (x y : Int) (v : α) : getL (putL l x v) y = if x = y then some v else getL l y := by
  induction l with
  | nil => simp [putL, getL]
  | cons p r ih =>
    simp only [putL]
    by_cases h : p.1 = x
    · rw [if_pos h]
      by_cases h2 : x = y
      · simp [getL, h2]
      · simp [getL, h2, h]
    · rw [if_neg h]
      by_cases h3 : p.1 = y
      · have : ¬ x = y := fun e => h (by rw [h3, e])
        simp [getL, h3, this]
      · simp [getL, h3, ih]
theorem inM_putL (L : List (Int × Bool)) (x y : Int) : inM (putL L x true) y = (decide (x = y) || inM L y) := by
  simp only [inM, getL_putL]
  by_cases h : x = y <;> simp [h]
theorem inM_fold (l : List Int) (L : List (Int × Bool)) (y : Int) : inM (l.foldl (fun L a => putL L a true) L) y = (decide (y ∈ l) || inM L y) := by
  induction l generalizing L with
  | nil => simp
  | cons a r ih =>
    rw [List.foldl_cons, ih, inM_putL]
    by_cases h1 : y = a
    · subst h1; simp
    · have : ¬ a = y := fun e => h1 e.symm
      simp [h1, this]
theorem inM_putM (order : List Int) (k : Nat) (y : Int) : inM (putM order k) y = decide (y ∈ order.take k) := by
  rw [putM, inM_fold]; simp [inM, getL]
def putL1 (out : List Int) : List (Int × Bool) := putM out out.length
theorem putL1_in (out : List Int) (y : Int) : inM (putL1 out) y = decide (y ∈ out) := by rw [putL1, inM_putM, List.take_length]
theorem putL1_snoc (out : List Int) (a : Int) : putL1 (out ++ [a]) = putL (putL1 out) a true := by
  rw [putL1, putL1, putM, putM, List.take_length, List.take_length, List.foldl_append]; rfl
def condF (ops : List FOp) (L : List (Int × Bool)) (pass : Bool) (a : Nat) : Bool := !(inM L a) && ((pureK (ops.getD a default).kind == pass) && standsB L ((hangsP ops).getD a []))
def flatNext (ops : List FOp) (L : List (Int × Bool)) : Option Nat := match (List.range ops.length).find? (condF ops L true) with
  | some a => some a
  | none => (List.range ops.length).find? (condF ops L false)
def flatRun (ops : List FOp) : Nat → List Int → List Int
  | 0, out => out
  | t + 1, out => match flatNext ops (putL1 out) with
    | none => out
    | some a => flatRun ops t (out ++ [(a : Int)])
def flatP (ops : List FOp) : List Int := flatRun ops ops.length []
noncomputable def FlatP (f : FFun) (block : Int) : List Int := if rightP f block = true then (match f.blocks[block.toNat]? with | some b => flatP b.ops | none => []) else []
theorem FlatP_f {f : FFun} {block : Int} (h : rightP f block = false) : FlatP f block = [] := by simp [FlatP, h]
theorem FlatP_t {f : FFun} {block : Int} {b : FBlk} (h : rightP f block = true) (hb : f.blocks[block.toNat]? = some b) : FlatP f block = flatP b.ops := by simp [FlatP, h, hb]
structure FlatSt (ops : List FOp) (L : List (Int × Bool)) (out : List Int) : Prop where
  L_eq : L = putL1 out
  nd : out.Nodup
  rng : ∀ z ∈ out, 0 ≤ z ∧ z < (ops.length : Int)
  run : flatP ops = flatRun ops (ops.length - out.length) out
theorem flatSt_init (ops : List FOp) : FlatSt ops [] [] := ⟨rfl, List.nodup_nil, by simp, rfl⟩
theorem find_false {n : Nat} {p : Nat → Bool} (h : ∀ a, a < n → p a = false) : (List.range n).find? p = none := by
  rw [List.find?_eq_none]; intro a ha; rw [h a (List.mem_range.1 ha)]; decide
theorem find_at {n k : Nat} {p : Nat → Bool} (hk : k < n) (h : ∀ a, a < k → p a = false) (h1 : p k = true) : (List.range n).find? p = some k := by
  rw [List.find?_range_eq_some]
  exact ⟨h1, List.mem_range.2 hk, fun j hj => by rw [h j hj]; rfl⟩
section
variable {ops : List FOp} {L : List (Int × Bool)} {out : List Int}
theorem flatNext_some {k0 k1 : Nat} (hk0 : k0 < 2) (hk1 : k1 < ops.length) (h0 : ∀ j, j < k0 → ∀ a, a < ops.length → condF ops L (j == 0) a = false) (h1 : ∀ a, a < k1 → condF ops L (k0 == 0) a = false) (h2 : condF ops L (k0 == 0) k1 = true) : flatNext ops L = some k1 := by
  rcases k0 with _ | _ | k0
  · rw [flatNext, show (List.range ops.length).find? (condF ops L true) = some k1 from find_at hk1 h1 h2]
  · have := find_false (fun a ha => h0 0 (by omega) a ha)
    rw [flatNext, show (List.range ops.length).find? (condF ops L true) = none from this]
    exact find_at hk1 h1 h2
  · omega
theorem flatNext_none (h0 : ∀ j, j < 2 → ∀ a, a < ops.length → condF ops L (j == 0) a = false) : flatNext ops L = none := by
  rw [flatNext, show (List.range ops.length).find? (condF ops L true) = none from find_false (fun a ha => h0 0 (by omega) a ha)]
  exact find_false (fun a ha => h0 1 (by omega) a ha)
theorem subset_range {l : List Int} {n : Nat} (h : ∀ z ∈ l, 0 ≤ z ∧ z < (n : Int)) (hn : l.Nodup) : l.length ≤ n := by
  have hs : l ⊆ (List.range n).map (Int.ofNat ·) := by
    intro z hz
    have := h z hz
    rw [List.mem_map]
    exact ⟨z.toNat, List.mem_range.2 (by omega), by simp; omega⟩
  have := List.Nodup.length_le_of_subset hn hs
  simpa using this
theorem FlatSt.len (h : FlatSt ops L out) : out.length ≤ ops.length := subset_range h.rng h.nd
theorem FlatSt.snoc {k1 : Nat} (h : FlatSt ops L out) (hk : k1 < ops.length) (hn : flatNext ops L = some k1) (hi : inM L (k1 : Int) = false) : FlatSt ops (putL L (k1 : Int) true) (out ++ [(k1 : Int)]) ∧ out.length < ops.length := by
  have hL := h.L_eq
  have hni : (k1 : Int) ∉ out := by
    rw [hL, putL1_in] at hi; simpa using hi
  have hnd : (out ++ [(k1 : Int)]).Nodup := by
    rw [List.nodup_append]
    exact ⟨h.nd, by simp, fun a ha b hb => by simp at hb; subst hb; rintro rfl; exact hni ha⟩
  have hrng : ∀ z ∈ out ++ [(k1 : Int)], 0 ≤ z ∧ z < (ops.length : Int) := by
    intro z hz
    rcases List.mem_append.1 hz with hz | hz
    · exact h.rng z hz
    · simp at hz; omega
  have hl := subset_range hrng hnd
  rw [List.length_append, List.length_singleton] at hl
  refine ⟨⟨by rw [putL1_snoc, hL], hnd, hrng, ?_⟩, by omega⟩
  rw [h.run, show ops.length - out.length = (ops.length - (out ++ [(k1 : Int)]).length) + 1 by rw [List.length_append, List.length_singleton]; omega, flatRun, ← hL, hn]
theorem FlatSt.end_ (h : FlatSt ops L out) (hn : flatNext ops L = none) : flatP ops = out := by
  rw [h.run]
  cases ops.length - out.length with
  | zero => rfl
  | succ t => rw [flatRun, ← h.L_eq, hn]
theorem condF_1 {pass : Bool} {k : Nat} (h : inM L (k : Int) = true) : condF ops L pass k = false := by simp [condF, h]
theorem condF_2 {pass : Bool} {k : Nat} {o : FOp} (ho : ops[k]? = some o) (h : (pureK o.kind == pass) = false) : condF ops L pass k = false := by
  simp [condF, ho, h]
theorem condF_3 {pass : Bool} {k : Nat} {l : List Int} (hl : (hangsP ops)[k]? = some l) (h : standsB L l = false) : condF ops L pass k = false := by simp [condF, hl, h]
theorem condF_t {pass : Bool} {k : Nat} {o : FOp} {l : List Int} (h1 : inM L (k : Int) = false) (ho : ops[k]? = some o) (h2 : (pureK o.kind == pass) = true) (hl : (hangsP ops)[k]? = some l) (h3 : standsB L l = true) : condF ops L pass k = true := by
  simp only [condF, h1, List.getD_eq_getElem?_getD, ho, hl, Option.getD_some, h2, h3]; rfl
theorem pass_lit {k : Nat} (h : k < 2) : [Value.bool true, Value.bool false][k]? = some (.bool (k == 0)) := by
  rcases k with _ | _ | k
  · rfl
  · rfl
  · omega
end
end Go.Proofs.YtipmgkhjoekaaaaGreat
namespace Go.Proofs.YtipmgkhjoekaaaaGreat.Fw
open Go Go.RowKit
structure SRows {α : Type _} (r : Rep α) (sz : Nat) (m : Imm) (xs : List Value) (l : List α) : Prop where
  len : xs.length = l.length * sz
  at_ : ∀ j z, l[j]? = some z → ∃ es, es.length = sz ∧ r m es z ∧ ∀ k v, es[k]? = some v → xs[j * sz + k]? = some v
section
variable {α : Type _} {r : Rep α} {sz : Nat} {m : Imm} {xs : List Value} {l : List α}
theorem SRows.nil : SRows r sz m [] [] := ⟨by simp, by simp⟩
theorem SRows.mono (hr : Mono r) {m' : Imm} (hm : m.le m') (h : SRows r sz m xs l) : SRows r sz m' xs l := ⟨h.len, fun j z hj => by
  obtain ⟨es, h1, h2, h3⟩ := h.at_ j z hj
  exact ⟨es, h1, hr _ _ _ _ hm h2, h3⟩⟩
theorem SRows.snoc (h : SRows r sz m xs l) {es : List Value} {z : α} (hes : es.length = sz) (hz : r m es z) : SRows r sz m (xs ++ es) (l ++ [z]) := by
  refine ⟨by rw [List.length_append, List.length_append, h.len, hes, List.length_singleton, Nat.add_mul, Nat.one_mul], fun j z' hj => ?_⟩
  by_cases hjn : j < l.length
  · rw [List.getElem?_append_left hjn] at hj
    obtain ⟨es', h1, h2, h3⟩ := h.at_ j z' hj
    refine ⟨es', h1, h2, fun k v hk => ?_⟩
    have h4 := h3 k v hk
    rw [List.getElem?_append_left (List.getElem?_eq_some_iff.1 h4).1]; exact h4
  · have hlt := (List.getElem?_eq_some_iff.1 hj).1
    rw [List.length_append, List.length_singleton] at hlt
    obtain rfl : j = l.length := by omega
    rw [List.getElem?_append_right (Nat.le_refl _), Nat.sub_self] at hj
    simp only [List.getElem?_cons_zero, Option.some.injEq] at hj
    subst hj
    refine ⟨es, hes, hz, fun k v hk => ?_⟩
    rw [List.getElem?_append_right (by rw [h.len]; omega), h.len, Nat.add_sub_cancel_left]; exact hk
theorem SRows.sl (h : SRows r sz m xs l) {g' : Option Nat} {cap : Nat} (hf : Frz g' xs m) (h1 : l.length ≤ cap) (h2 : cap ≤ maxLen) (hlen : l.length ≤ 140737488355328) (hg : 0 < l.length → ∃ b, g' = some b) : Sl r sz m (rowA g') cap l :=
  Sl_frz hf h1 h2 hlen hg h.at_
theorem SRows.set (h : SRows r sz m xs l) {j k : Nat} {z z' : α} {v : Value} (hj : l[j]? = some z) (hk : k < sz) (hz : ∀ es, es.length = sz → r m es z → r m (es.set k v) z') : SRows r sz m (xs.set (j * sz + k) v) (l.set j z') := by
  have hjl := (List.getElem?_eq_some_iff.1 hj).1
  refine ⟨by simp [h.len], fun j' y hy => ?_⟩
  by_cases e : j' = j
  · subst e
    rw [List.getElem?_set_self hjl] at hy
    cases hy
    obtain ⟨es, h1, h2, h3⟩ := h.at_ j' z hj
    refine ⟨es.set k v, by simp [h1], hz es h1 h2, fun i u hi => ?_⟩
    by_cases e2 : i = k
    · subst e2
      rw [List.getElem?_set_self (by omega)] at hi
      cases hi
      have hlt : j' * sz + i < xs.length := by
        rw [h.len]
        calc j' * sz + i < j' * sz + sz := by omega
          _ = (j' + 1) * sz := by rw [Nat.add_mul, Nat.one_mul]
          _ ≤ l.length * sz := Nat.mul_le_mul_right _ hjl
      rw [List.getElem?_set_self hlt]
    · rw [List.getElem?_set_ne (Ne.symm e2)] at hi
      rw [List.getElem?_set_ne (by omega)]
      exact h3 i u hi
  · rw [List.getElem?_set_ne (Ne.symm e)] at hy
    obtain ⟨es, h1, h2, h3⟩ := h.at_ j' y hy
    refine ⟨es, h1, h2, fun i u hi => ?_⟩
    have hi' : i < sz := by have := (List.getElem?_eq_some_iff.1 hi).1; omega
    have hne : j * sz + k ≠ j' * sz + i := by
      intro e3
      have h4 : (j * sz + k) / sz = (j' * sz + i) / sz := by rw [e3]
      rw [Nat.mul_comm j, Nat.mul_comm j', Nat.mul_add_div (by omega), Nat.mul_add_div (by omega), Nat.div_eq_of_lt hk, Nat.div_eq_of_lt hi'] at h4
      omega
    rw [List.getElem?_set_ne hne]
    exact h3 i u hi
theorem SRows.of_sl {A : Option Addr} {ad : Addr} {c : Nat} (h : Sl r sz m A c l) (hA : A = some ad) (h1 : ∀ es z, r m es z → es.all (·.oneCell') = true) :
    ∃ ys, SRows r sz m ys l ∧ ys.all (·.oneCell') = true ∧ ∀ j u, ys[j]? = some u → m.cell? (ad.add j) = some u := by
  have : ∀ k, k ≤ l.length → ∃ ys, SRows r sz m ys (l.take k) ∧ ys.all (·.oneCell') = true ∧ ∀ j u, ys[j]? = some u → m.cell? (ad.add j) = some u := by
    intro k
    induction k with
    | zero => intro _; exact ⟨[], SRows.nil, rfl, by simp⟩
    | succ k ih =>
      intro hk
      obtain ⟨ys, a1, a2, a3⟩ := ih (by omega)
      have hz : l[k]? = some l[k] := List.getElem?_eq_getElem (by omega)
      obtain ⟨es, b1, b2, b3⟩ := h.get hA hz
      refine ⟨ys ++ es, by rw [List.take_add_one, hz]; exact a1.snoc b2 b1, by rw [List.all_append, a2, h1 es _ b1]; rfl, fun j u hj => ?_⟩
      have hyl : ys.length = k * sz := by rw [a1.len, List.length_take, Nat.min_eq_left (by omega)]
      by_cases hjn : j < ys.length
      · rw [List.getElem?_append_left hjn] at hj; exact a3 j u hj
      · rw [List.getElem?_append_right (by omega)] at hj
        have := b3 _ u hj
        rw [add_add, hyl, show k * sz + (j - k * sz) = j by omega] at this
        exact this
  obtain ⟨ys, a1, a2, a3⟩ := this l.length (Nat.le_refl _)
  rw [List.take_length] at a1
  exact ⟨ys, a1, a2, a3⟩
end
theorem Src.of_cells {s : Fw.Start} {m : Imm} {R : List Res} {ad : Addr} {c : Nat} {ys : List Value} (h : ∀ j u, ys[j]? = some u → m.cell? (ad.add j) = some u) : Src s m R (some ad) c ys :=
  ⟨fun w hS j u hj => ⟨ad, rfl, hS.inW.cell (h j u hj)⟩, fun e => by cases e⟩
theorem one_block {m : Imm} (es : List Value) (z : FBlk) (h : rBlock m es z) : es.all (·.oneCell') = true := by
  obtain ⟨A, c, A', c', A'', c'', rfl, _⟩ := h; rfl
theorem block_ops {m : Imm} {b : FBlk} {A : Option Addr} {c : Nat} {ops : List FOp} (h : Sl rOp 6 m A c ops) (es : List Value) (hb : rBlock m es b) : rBlock m (es.set 1 (.slice A ops.length c)) { b with ops := ops } := by
  obtain ⟨A1, c1, A2, c2, A3, c3, rfl, h1, h2, h3, h4⟩ := hb
  exact ⟨A1, c1, A, c, A3, c3, rfl, h1, h, h3, h4⟩
section
variable {P : Program} {ops : Array Oper} {Q : Post} {rest : List Oper} {n : Nat} {s : Start} {m : Imm} {R : List Res} {L : Loc}
variable {d : Nat} {dst : Option Nat} {ty : TypeId} {pos : String} {af : Array Edge} {g : Option (Nat × Bool)} {x y : Operand}
theorem S_storerk {T b o n' cap e sz : Nat} {xs : List Value} {v : Value} (i : Nat) (hx : ev L x = some (.pointer (some ⟨b, o, none⟩))) (hy : ev L y = some v) (hc : v.cells = #[v]) (h1 : v.oneCell' = true) (hs : sz? P T = some 1) (hi : R[i]? = some (row (some b) n' cap e sz xs))
    (ho : o < xs.length) (next : WL P ops Q rest n s m (R.set i (row (some b) n' cap e sz (xs.set o v))) L) : WL P ops Q (⟨none, .store T x y, ty, pos, af, none⟩ :: rest) n s m R L :=
  S_storer (xs' := xs.set o v) (vs := [v]) i hx hy (by rw [hc]) hs hi (by simp [h1]) (by simp only [List.length_cons, List.length_nil]; omega) (set_one ho) next
def RndM (X : Type) (n : Nat) (s : Start) (N : Nat) (J : Nat → Imm → X → Prop) (Mf : Nat → X → Loc) (Rf : Nat → X → List Res) (RR : List Res) (F : Loc) (k : Nat) (a : Act) (w : World) : Prop :=
  k < N ∧ ∃ x m1, J (k + 1) m1 x ∧ Fr n (Mf (k + 1) x ++ F) a ∧ St s m1 (Rf (k + 1) x ++ RR) w
theorem C_loopM {c : Code} (X : Type) (N : Nat) (J : Nat → Imm → X → Prop) (Mf : Nat → X → Loc) (Rf : Nat → X → List Res) (mks ks : List Nat) {F : Loc} {RR : List Res} (x0 : X) (h0 : J 0 m x0) (hM : sel L mks = Mf 0 x0) (hks : sel L ks = F) (hR : R = Rf 0 x0 ++ RR)
    (round : ∀ k m1 x, k ≤ N → J k m1 x → CW P c (Exit.then (RndM X n s N J Mf Rf RR F k) Q) n s m1 (Rf k x ++ RR) (Mf k x ++ F)) : CW P (.loop c) Q n s m R L := fun a w hF hS => by
  subst hks
  exact
  wp_loop_ghost (fun q a w => ∃ k m1 x, k ≤ N ∧ q = N - k ∧ J k m1 x ∧ Fr n (Mf k x ++ sel L ks) a ∧ St s m1 (Rf k x ++ RR) w) N ⟨0, m, x0, Nat.zero_le _, rfl, h0, by
      have h1 := hF.keep (mks ++ ks)
      have h2 : ∀ (a b : List Nat), sel L (a ++ b) = sel L a ++ sel L b := by
        intro a b
        induction a with
        | nil => rfl
        | cons t ts ih => simp only [List.cons_append, sel]; split <;> simp [ih]
      rw [h2, hM] at h1; exact h1, hR ▸ hS⟩ (fun q a w h => by
    obtain ⟨k, m1, x, hk, hq, hJ, hF, hS⟩ := h
    refine wp_mono (round k m1 x hk hJ a w hF hS) ?_
    intro e a' w' hq'
    cases e with
    | normal =>
      obtain ⟨hlt, x', m2, hJ', hF', hS'⟩ := hq'
      exact ⟨N - (k + 1), by omega, k + 1, m2, x', by omega, rfl, hJ', hF', hS'⟩
    | exit id => exact hq'
    | goto l => exact hq'
    | ret => exact hq'
    | panic ch => exact hq'
    | outgrown => exact hq')
theorem NX_rndM {X : Type} {N : Nat} {J : Nat → Imm → X → Prop} {Mf : Nat → X → Loc} {Rf : Nat → X → List Res} {RR : List Res} {F : Loc} {k : Nat} {R' : List Res} {m1 : Imm} (ks : List Nat) (hk : k < N) (x : X) (hJ : J (k + 1) m1 x) (hL : sel L ks = Mf (k + 1) x ++ F) (hs : R'.Sublist R) (hR : R' = Rf (k + 1) x ++ RR) :
    NX (Exit.then (RndM X n s N J Mf Rf RR F k) Q) n s m1 R L := fun a w hF hS => ⟨hk, x, m1, hJ, hL ▸ hF.keep ks, hR ▸ hS.sub hs⟩
theorem CW_cutV {c1 c2 : Code} {α : Type} (V : α → Value) (t : Nat) (ks : List Nat) {F : Loc} (hks : sel L ks = F) (C : α → Prop) (h1 : CW P c1 (Exit.then (Cut n s α (fun _ => m) (fun _ => R) (fun x => (t, V x) :: F) C) Q) n s m R L) (h2 : ∀ x, C x → CW P c2 Q n s m R ((t, V x) :: F)) : CW P (.seq c1 c2) Q n s m R L := CW_cut α _ _ _ C h1 h2
theorem NX_cutV {α : Type} {V : α → Value} {t : Nat} {F : Loc} {C : α → Prop} (x : α) (ks : List Nat) (hL : sel L ks = (t, V x) :: F) (hC : C x) : NX (Exit.then (Cut n s α (fun _ => m) (fun _ => R) (fun x => (t, V x) :: F) C) Q) n s m R L := NX_cut x hC ks hL (by rw [List.append_nil]) rfl
theorem r_eqt {k : IntKind} {i j : Int} {T T' : TypeId} (hx : ev L x = some (.int k i)) (hy : ev L y = some (.int k j)) (h : i = j) : Qt P ⟨dst, .binOp .eql T x y T', ty, pos, af, g⟩ n m R L (.bool true) := by
  have := r_bin (P := P) (n := n) (m := m) (R := R) (dst := dst) (ty := ty) (pos := pos) (af := af) (g := g) (T := T) (T' := T') hx hy (bin_eql _ _ _ _)
  subst h
  simpa using this
theorem r_nef {k : IntKind} {i j : Int} {T T' : TypeId} (hx : ev L x = some (.int k i)) (hy : ev L y = some (.int k j)) (h : i = j) : Qt P ⟨dst, .binOp .neq T x y T', ty, pos, af, g⟩ n m R L (.bool false) := by
  have := r_bin (P := P) (n := n) (m := m) (R := R) (dst := dst) (ty := ty) (pos := pos) (af := af) (g := g) (T := T) (T' := T') hx hy (bin_neq _ _ _ _)
  subst h
  simpa using this
end
end Go.Proofs.YtipmgkhjoekaaaaGreat.Fw
namespace Go.Proofs.YtipmgkhjoekaaaaGreat
open Go Go.Proofs.YtipmgkhjoekaaaaGreat.Fw
theorem LegalP_ex {f : FFun} {block : Int} {order : List Int} (h : LegalP f block order = true) : rightP f block = true ∧ ∃ b, f.blocks[block.toNat]? = some b ∧ legalP b order = true := by
  simp only [LegalP, Bool.and_eq_true] at h
  refine ⟨h.1, ?_⟩
  have h2 := h.2
  split at h2
  · rename_i b hb; exact ⟨b, hb, h2⟩
  · cases h2
theorem legalP_len {b : FBlk} {order : List Int} (h : legalP b order = true) : order.length = b.ops.length := by
  simp only [legalP, Bool.and_eq_true, decide_eq_true_eq] at h; exact h.1
theorem legalP_ok {b : FBlk} {order : List Int} (h : legalP b order = true) {k : Nat} (hk : k < order.length) : okO b order k = true := by
  simp only [legalP, Bool.and_eq_true, decide_eq_true_eq] at h
  exact List.all_eq_true.1 h.2 k (List.mem_range.2 hk)
theorem okO_rng {b : FBlk} {order : List Int} {k : Nat} {a : Int} (h : okO b order k = true) (ha : order[k]? = some a) : 0 ≤ a ∧ a < (b.ops.length : Int) := by
  simp only [okO, ha, Bool.and_eq_true, Bool.not_eq_true', Bool.or_eq_false_iff, decide_eq_false_iff_not] at h
  omega
theorem legalP_rng {b : FBlk} {order : List Int} (h : legalP b order = true) : ∀ a ∈ order, 0 ≤ a ∧ a < (b.ops.length : Int) := by
  intro a ha
  obtain ⟨k, hk⟩ := List.mem_iff_getElem?.1 ha
  exact okO_rng (legalP_ok h (List.getElem?_eq_some_iff.1 hk).1) hk
theorem ordOps_succ {b : FBlk} {order : List Int} {k : Nat} {a : Int} {o : FOp} (h : order[k]? = some a) (ho : b.ops[a.toNat]? = some o) : ordOps b (order.take (k + 1)) = ordOps b (order.take k) ++ [o] := by
  rw [ordOps, ordOps, List.take_add_one, h]; simp [ho]
theorem putOps_set {f : FFun} {block : Int} {order : List Int} {b : FBlk} (hb : f.blocks[block.toNat]? = some b) : putOps f block order = { f with blocks := f.blocks.set block.toNat { b with ops := ordOps b order } } := by
  rw [putOps, List.modify_eq_set, hb]; rfl
def PutΦ (f : FFun) (block : Int) (order : List Int) (m : Imm) (v : Value) : Prop :=
  (LegalP f block order = true ∧ ∃ es, v = .tuple #[.agg es.toArray, .int .i64 0] ∧ rFunc m es (putOps f block order)) ∨ (LegalP f block order = false ∧ v = .tuple #[.agg #[.slice none 0 0, .int .i64 0, .slice none 0 0], .int .i64 10])
def iota (n : Nat) : List Int := (List.range n).map fun (i : Nat) => (i : Int)
theorem iota_len (n : Nat) : (iota n).length = n := by simp [iota]
section
variable {n : Nat}
def g1 : FGraph := ⟨[[]], [[]]⟩
theorem g1_tree : treeP g1 0 = [-1] := by
  refine treeP_eq (Int.le_refl 0) ⟨rfl, rfl, fun y h0 h1 hn => ?_, fun y h0 h1 _ hne => ?_⟩
  · have : y = 0 := by simp only [g1, List.length_cons, List.length_nil] at h1; omega
    subst this; exact absurd (.refl trivial) hn
  · have : y = 0 := by simp only [g1, List.length_cons, List.length_nil] at h1; omega
    exact absurd this hne
end
theorem sortC_rise {l : List Int} (h : l.Pairwise (· < ·)) : sortC l = l := by
  rw [sortC, List.mergeSort_of_pairwise (h.imp (by intro a b hab; simp; omega))]
  refine Lib.compact_all l fun j hj => ?_
  simp only [Lib.keeps, decide_eq_true_eq]
  rcases Nat.eq_zero_or_pos j with h0 | h0
  · exact .inl h0
  · right
    have e1 : l.toArray[j]! = l[j] := by rw [getElem!_pos _ j (by simpa using hj)]; simp
    have e2 : l.toArray[j - 1]! = l[j - 1] := by rw [getElem!_pos _ (j - 1) (by simp; omega)]; simp
    rw [e1, e2]
    have := List.pairwise_iff_getElem.1 h (j - 1) j (by omega) hj (by omega)
    omega
def awO1 : FOp := ⟨0, 8, 1, 1, [], 7⟩
def awO2 : FOp := ⟨0, 8, 1, 2, [], 8⟩
def awO3 : FOp := ⟨1, 8, 1, 3, [1, 2], 0⟩
def awB : FBlk := ⟨[], [awO1, awO2, awO3], ⟨0, 3, []⟩⟩
def awF : FFun := ⟨[], 8, [awB]⟩
theorem aw_may : mayF awF = true := by decide
theorem aw_of : ofP awF = some g1 := by
  have e : sortC [] = [] := sortC_rise List.Pairwise.nil
  rw [ofP_ok (by simp [awF]) (fun j b hj hb => by
    simp only [awF, List.length_cons, List.length_nil] at hj
    obtain rfl : j = 0 := by omega
    cases hb; rfl)]
  show makeP [sortC []] = some g1
  rw [e]; rfl
theorem aw_shape : shapeP awF = 0 := by
  refine shapeP_ok aw_of fun i b hi => ?_
  obtain ⟨hlt, rfl⟩ := List.getElem?_eq_some_iff.1 hi
  simp only [awF, List.length_cons, List.length_nil] at hlt
  obtain rfl : i = 0 := by omega
  rw [g1_tree]; show okShape g1 [-1] 0 awB = true; decide
theorem aw_typed : typedP awF 2 = 0 := by decide
theorem aw_defined : definedP awF = 0 := by
  have hd : defOK awF := by
    refine ⟨fun b hb p hp => ?_, by decide⟩
    simp only [awF, List.mem_singleton] at hb; subst hb; simp [awB] at hp
  rw [definedP, if_pos hd]; decide
theorem aw_check : checkP awF 2 = 0 := by
  rw [checkP, if_neg (by omega), lookP, if_neg (by simp [aw_may]), if_neg (by simp [aw_shape]), if_neg (by simp [aw_typed]), if_neg (by simp [aw_defined]), if_neg (by
    have : usesP awF (askS awF) = 0 := by decide
    simp [this]), aw_of]
  show usesP awF (askP awF (treeP g1 0)) = 0
  rw [g1_tree]; decide
theorem aw_right : rightP awF 0 = true := by
  simp only [rightP, aw_check]; rfl
theorem aw_hangs : hangsP [awO1, awO2, awO3] = [[], [], [0, 1]] := by
  have e0 : sortC [] = [] := sortC_rise List.Pairwise.nil
  have e1 : sortC [0, 1] = [0, 1] := sortC_rise (by decide)
  show [sortC [], sortC [], sortC [0, 1]] = _
  rw [e0, e1]
theorem aw_legal {order : List Int} {q : Bool} (h : (decide (order.length = 3) && (List.range order.length).all fun k => match order[k]? with
    | some a => !(decide (a < 0) || decide ((3 : Int) ≤ a)) && (!(inM (putM order k) a) && standsB (putM order k) ([[], [], [(0 : Int), 1]].getD a.toNat []))
    | none => true) = q) : LegalP awF 0 order = q := by
  rw [LegalP_t aw_right (b := awB) rfl, ← h]
  have : okO awB order = fun k => match order[k]? with
    | some a => !(decide (a < 0) || decide ((3 : Int) ≤ a)) && (!(inM (putM order k) a) && standsB (putM order k) ([[], [], [(0 : Int), 1]].getD a.toNat []))
    | none => true := by
    funext k; simp only [okO, awB, aw_hangs]; rfl
  rw [legalP, this]; rfl
theorem aw_legal1 : LegalP awF 0 [1, 0, 2] = true := aw_legal (by decide)
theorem aw_legal2 : LegalP awF 0 [2, 0, 1] = false := aw_legal (by decide)
theorem aw_hangs2 : HangsP awF 0 2 = [0, 1] := by
  rw [HangsP, if_pos aw_right, if_pos (by decide)]
  show (hangsP [awO1, awO2, awO3]).getD 2 [] = _
  rw [aw_hangs]; rfl
theorem aw_flat : FlatP awF 0 = [0, 1, 2] := by
  rw [FlatP_t aw_right (b := awB) rfl]
  have hc : ∀ L p a, condF [awO1, awO2, awO3] L p a = (!(inM L a) && ((pureK ([awO1, awO2, awO3].getD a default).kind == p) && standsB L ([[], [], [(0 : Int), 1]].getD a []))) := fun L p a => by rw [condF, aw_hangs]
  have h0 : flatNext [awO1, awO2, awO3] (putL1 []) = some 0 := flatNext_some (k0 := 0) (k1 := 0) (by omega) (by decide) (by intro j hj; omega) (by intro a ha; omega) (by rw [hc]; decide)
  have h1 : flatNext [awO1, awO2, awO3] (putL1 [0]) = some 1 := flatNext_some (k0 := 0) (k1 := 1) (by omega) (by decide) (by intro j hj; omega) (by intro a ha; rw [hc]; rcases (show a = 0 ∨ a = 0 by omega) with rfl | rfl <;> decide) (by rw [hc]; decide)
  have h2 : flatNext [awO1, awO2, awO3] (putL1 [0, 1]) = some 2 := flatNext_some (k0 := 0) (k1 := 2) (by omega) (by decide) (by intro j hj; omega) (by intro a ha; rw [hc]; rcases (show a = 0 ∨ a = 1 by omega) with rfl | rfl <;> decide) (by rw [hc]; decide)
  show flatRun [awO1, awO2, awO3] 3 [] = _
  rw [flatRun, h0]
  show flatRun [awO1, awO2, awO3] 2 [0] = _
  rw [flatRun, h1]
  show flatRun [awO1, awO2, awO3] 1 [0, 1] = _
  rw [flatRun, h2]; rfl
theorem aw_depth : DepthP awF 0 = [0, 0, 1] := by
  rw [DepthP_t aw_right (b := awB) rfl]
  show depP (hangsP [awO1, awO2, awO3]) = _
  rw [aw_hangs]; decide
theorem Fw.SRows.lit {α : Type} {r : Rep α} {sz c : Nat} {m : Imm} {ad : Addr} {cs : List Value} {l : List α} (h : SRows r sz m cs l) (hl : ∀ j v, cs[j]? = some v → m.cell? (ad.add j) = some v) (hc : l.length = c := by rfl) (hle : Nat.ble c 1000 = true := by rfl) : Sl r sz m (some ad) c l := by
  have hle := Nat.le_of_ble_eq_true hle
  subst hc
  refine ⟨Nat.le_refl _, by simp only [maxLen]; omega, by omega, fun j x hj => ?_⟩
  obtain ⟨es, h1, h2, h3⟩ := h.at_ j x hj
  exact ⟨ad, rfl, es, h1, h2, fun k v hk => hl _ _ (h3 k v hk)⟩
theorem Fw.SRows.add {α : Type} {r : Rep α} {sz : Nat} {m : Imm} {xs es : List Value} {l : List α} {z : α} (h : SRows r sz m xs l) (hz : r m es z) (hes : es.length = sz := by rfl) : SRows r sz m (xs ++ es) (l ++ [z]) := h.snoc hes hz
theorem rOp_none {m : Imm} {k b l d i : Int} (hk : I64 k := by exact ⟨by omega, by omega⟩) (hb : I64 b := by exact ⟨by omega, by omega⟩) (hl : I64 l := by exact ⟨by omega, by omega⟩) (hd : I64 d := by exact ⟨by omega, by omega⟩) (hi : U64 i := by exact ⟨by omega, by omega⟩) :
    rOp m [.int .i64 k, .int .i64 b, .int .i64 l, .int .i64 d, .slice none 0 0, .int .u64 i] ⟨k, b, l, d, [], i⟩ := ⟨none, 0, rfl, Sl.nil _ _ _, hk, hb, hl, hd, hi⟩
theorem rOp_some {m : Imm} {k b l d i : Int} {A : Option Addr} {c n : Nat} {ags : List Int} (h : Ints m A c ags) (hn : ags.length = n := by rfl) (hk : I64 k := by exact ⟨by omega, by omega⟩) (hb : I64 b := by exact ⟨by omega, by omega⟩) (hl : I64 l := by exact ⟨by omega, by omega⟩) (hd : I64 d := by exact ⟨by omega, by omega⟩) (hi : U64 i := by exact ⟨by omega, by omega⟩) :
    rOp m [.int .i64 k, .int .i64 b, .int .i64 l, .int .i64 d, .slice A n c, .int .u64 i] ⟨k, b, l, d, ags, i⟩ := by subst hn; exact ⟨A, c, rfl, h, hk, hb, hl, hd, hi⟩
theorem rBlock_of {m : Imm} {B : Option Addr} {d n : Nat} {ops : List FOp} {k a : Int} (h : Sl rOp 6 m B d ops) (hn : ops.length = n := by rfl) (hk : I64 k := by exact ⟨by omega, by omega⟩) (ha : I64 a := by exact ⟨by omega, by omega⟩) :
    rBlock m [.slice none 0 0, .slice B n d, .int .i64 k, .int .i64 a, .slice none 0 0] ⟨[], ops, ⟨k, a, []⟩⟩ := by subst hn; exact ⟨none, 0, B, d, none, 0, rfl, Sl.nil _ _ _, h, Sl.nil _ _ _, hk, ha⟩
theorem mem_compact {l : List Int} {x : Int} (h : x ∈ l) : x ∈ Lib.compact l := by
  have : ∀ k : Nat, ∀ j : Nat, j ≤ k → l[j]? = some x → x ∈ Lib.compact l := by
    intro k
    induction k with
    | zero =>
      intro j hj hx
      obtain rfl : j = 0 := by omega
      have hlt := (List.getElem?_eq_some_iff.1 hx).1
      simp only [Lib.compact, Lib.compactUpTo, List.mem_map, List.mem_filter, List.mem_range]
      refine ⟨0, ⟨hlt, by simp [Lib.keeps]⟩, ?_⟩
      rw [getElem!_pos _ 0 (by simpa using hlt)]
      simpa using (List.getElem?_eq_some_iff.1 hx).2
    | succ k ih =>
      intro j hj hx
      by_cases hjk : j ≤ k
      · exact ih j hjk hx
      · obtain rfl : j = k + 1 := by omega
        have hlt := (List.getElem?_eq_some_iff.1 hx).1
        by_cases hp : l[k]? = some x
        · exact ih k (Nat.le_refl _) hp
        · simp only [Lib.compact, Lib.compactUpTo, List.mem_map, List.mem_filter, List.mem_range]
          have e1 : l.toArray[k + 1]! = x := by
            rw [getElem!_pos _ (k + 1) (by simpa using hlt)]
            simpa using (List.getElem?_eq_some_iff.1 hx).2
          refine ⟨k + 1, ⟨hlt, ?_⟩, e1⟩
          simp only [Lib.keeps, decide_eq_true_eq]
          right
          rw [e1, Nat.add_sub_cancel, getElem!_pos _ k (by simp; omega)]
          intro hc
          apply hp
          rw [List.getElem?_eq_getElem (by omega), hc]; simp
  obtain ⟨j, hj⟩ := List.mem_iff_getElem?.1 h
  exact this j j (Nat.le_refl _) hj
theorem mem_sortC {l : List Int} {x : Int} : x ∈ sortC l ↔ x ∈ l := ⟨sortC_sub l x, fun h => mem_compact (List.mem_mergeSort.2 h)⟩
theorem usesP_zero {f : FFun} {ask : Use → Int} : usesP f ask = 0 ↔ ∀ u ∈ usesL f, ask u = 0 := by
  rw [usesP, firstN]
  constructor
  · intro h u hu
    cases hf : (usesL f).find? (fun u => !(ask u == 0)) with
    | none =>
      have := List.find?_eq_none.1 hf u hu
      simpa using this
    | some w =>
      rw [hf] at h
      have := List.find?_some hf
      simp only [Bool.not_eq_true', beq_eq_false_iff_ne] at this
      exact absurd h this
  · intro h
    have : (usesL f).find? (fun u => !(ask u == 0)) = none := List.find?_eq_none.2 fun u hu => by simp [h u hu]
    rw [this]
theorem mem_zip {α : Type _} {l : List α} {x : α × Nat} : x ∈ l.zipIdx ↔ l[x.2]? = some x.1 := by
  rw [List.mem_zipIdx_iff_getElem?]
theorem mem_usesL {f : FFun} {u : Use} : u ∈ usesL f ↔ ∃ (i : Nat) (b : FBlk), f.blocks[i]? = some b ∧ u ∈ blockU f (b, i) := by
  simp only [usesL, List.mem_flatMap]
  constructor
  · rintro ⟨x, hx, hu⟩; exact ⟨x.2, x.1, mem_zip.1 hx, hu⟩
  · rintro ⟨i, b, hb, hu⟩; exact ⟨(b, i), mem_zip.2 hb, hu⟩
theorem mem_blockU {f : FFun} {b : FBlk} {i : Nat} {u : Use} : u ∈ blockU f (b, i) ↔ (u ∈ b.phis.flatMap phiU ∨ u ∈ endU f i b) ∨ ∃ (k : Nat) (o : FOp), b.ops[k]? = some o ∧ u ∈ opU i (o, k) := by
  simp only [blockU, List.mem_append, List.mem_flatMap]
  constructor
  · rintro (h | ⟨x, hx, hu⟩ | h)
    · exact .inl (.inl h)
    · exact .inr ⟨x.2, x.1, mem_zip.1 hx, hu⟩
    · exact .inl (.inr h)
  · rintro ((h | h) | ⟨k, o, ho, hu⟩)
    · exact .inl h
    · exact .inr (.inr h)
    · exact .inr (.inl ⟨(o, k), mem_zip.2 ho, hu⟩)
def givesB (o : FOp) : Bool := decide (0 < (givesP o).1)
def dPhi (f : FFun) (v : Int) (d : Def) : Prop := ((v, d) ∈ f.params.zipIdx.map paramD) ∨ ∃ (i : Nat) (b : FBlk), f.blocks[i]? = some b ∧ (v, d) ∈ b.phis.map (phiD i)
theorem mem_defsL {f : FFun} {v : Int} {d : Def} : (v, d) ∈ defsL f ↔ dPhi f v d ∨ ∃ (i : Nat) (b : FBlk) (k : Nat) (o : FOp), f.blocks[i]? = some b ∧ b.ops[k]? = some o ∧ givesB o = true ∧ v = o.dst ∧ d = ((i : Int), (k : Int), (givesP o).1, (givesP o).2) := by
  have hop : ∀ (i : Nat) (o : FOp) (k : Nat), (v, d) ∈ opD i (o, k) ↔ givesB o = true ∧ v = o.dst ∧ d = ((i : Int), (k : Int), (givesP o).1, (givesP o).2) := fun i o k => by
    rw [opD, givesB, decide_eq_true_eq]
    by_cases h : 0 < (givesP o).1
    · rw [if_pos h]; simp [h]
    · rw [if_neg h]; simp [h]
  simp only [defsL, List.mem_append, List.mem_flatMap, blockD, dPhi]
  constructor
  · rintro (h | ⟨x, hx, h | ⟨y, hy, h⟩⟩)
    · exact .inl (.inl h)
    · exact .inl (.inr ⟨x.2, x.1, mem_zip.1 hx, h⟩)
    · exact .inr ⟨x.2, x.1, y.2, y.1, mem_zip.1 hx, mem_zip.1 hy, (hop _ _ _).1 h⟩
  · rintro ((h | ⟨i, b, hb, h⟩) | ⟨i, b, k, o, hb, ho, h⟩)
    · exact .inl h
    · exact .inr ⟨(b, i), mem_zip.2 hb, .inl h⟩
    · exact .inr ⟨(b, i), mem_zip.2 hb, .inr ⟨(o, k), mem_zip.2 ho, (hop i o k).2 h⟩⟩
theorem getL_iff {α : Type} {l : List (Int × α)} (hn : (l.map (·.1)).Nodup) {x : Int} {v : α} : getL l x = some v ↔ (x, v) ∈ l := by
  induction l with
  | nil => simp [getL]
  | cons p r ih =>
    rw [List.map_cons, List.nodup_cons] at hn
    simp only [getL, List.mem_cons]
    by_cases h : p.1 = x
    · rw [if_pos h]
      constructor
      · intro e; cases e; exact .inl (by rw [← h])
      · rintro (e | e)
        · rw [← e]
        · exact absurd (List.mem_map.2 ⟨_, e, by rw [h]⟩) hn.1
    · rw [if_neg h, ih hn.2]
      constructor
      · exact .inr
      · rintro (e | e)
        · exact absurd (by rw [← e]) h
        · exact e
noncomputable def treeF (f : FFun) : List Int := match ofP f with | some g => treeP g 0 | none => []
theorem checkP_zero {f : FFun} : checkP f 2 = 0 ↔ mayF f = true ∧ shapeP f = 0 ∧ typedP f 2 = 0 ∧ definedP f = 0 ∧ usesP f (askS f) = 0 ∧ usesP f (askP f (treeF f)) = 0 := by
  rw [checkP, if_neg (by omega), lookP]
  cases hm : mayF f with
  | false => simp
  | true =>
    rw [if_neg (by simp)]
    by_cases h1 : shapeP f = 0
    · rw [if_neg (by simp [h1])]
      by_cases h2 : typedP f 2 = 0
      · rw [if_neg (by simp [h2])]
        by_cases h3 : definedP f = 0
        · rw [if_neg (by simp [h3])]
          by_cases h4 : usesP f (askS f) = 0
          · rw [if_neg (by simp [h4])]; simp only [h1, h2, h3, h4, true_and]; exact Iff.rfl
          · rw [if_pos h4]; simp [h4]
        · rw [if_pos h3]; simp [h3]
      · rw [if_pos h2]; simp [h2]
    · rw [if_pos h1]; simp [h1]
theorem askP_zero {f : FFun} {t : List Int} {u : Use} {d : Def} (hd : getL (defsL f) u.1 = some d) : askP f t u = 0 ↔ d.1 < 0 ∨ (d.1 = u.2.2.1 ∧ d.2.1 < u.2.2.2) ∨ (d.1 ≠ u.2.2.1 ∧ overP t d.1 u.2.2.1 = true) := by
  simp only [askP, hd, Option.getD_some]
  by_cases h1 : d.1 < 0
  · rw [if_pos h1]; simp [h1]
  · rw [if_neg h1]
    by_cases h2 : (d.1 = u.2.2.1 ∧ d.2.1 < u.2.2.2) ∨ (d.1 ≠ u.2.2.1 ∧ overP t d.1 u.2.2.1 = true)
    · rw [if_pos h2]; exact ⟨fun _ => .inr h2, fun _ => rfl⟩
    · rw [if_neg h2]; exact ⟨fun hc => absurd hc (by decide), fun hc => absurd (hc.resolve_left h1) h2⟩
theorem askS_zero {f : FFun} {u : Use} {d : Def} (hd : getL (defsL f) u.1 = some d) : askS f u = 0 ↔ d.2.2 = u.2.1 := by
  simp only [askS, hd, Option.getD_some]
  by_cases h : d.2.2 = u.2.1
  · rw [if_pos h]; simp [h]
  · rw [if_neg h]; exact ⟨fun hc => absurd hc (by decide), fun hc => absurd hc h⟩
theorem definedP_zero {f : FFun} : definedP f = 0 ↔ defOK f ∧ usesP f (askD f) = 0 := by
  rw [definedP]
  by_cases h : defOK f
  · rw [if_pos h]; simp [h]
  · rw [if_neg h]; simp [h]
theorem typedP_zero {f : FFun} {lev : Int} : typedP f lev = 0 ↔ mayW f.ret = true ∧ f.params.all mayW = true ∧ f.blocks.all (okTyped lev) = true := by
  rw [typedP]
  by_cases h : (mayW f.ret && (f.params.all mayW && f.blocks.all (okTyped lev))) = true
  · rw [if_pos h]; simp only [Bool.and_eq_true] at h; simp [h]
  · rw [if_neg h]; simp only [Bool.and_eq_true] at h
    exact ⟨fun hc => absurd hc (by decide), fun hc => absurd hc h⟩
theorem ofK_may {lev : Int} {o : FOp} (h : ofK lev o = true) : mayOpK o = true := by
  simp only [ofK, Bool.and_eq_true] at h; exact h.2.2
theorem may_dst {o : FOp} (h : mayOpK o = true) : givesB o = true ↔ 0 < o.dst := by
  have hs := shapeB_bits (mayOpK_shape h)
  have h2 := h
  simp only [mayOpK, Bool.and_eq_true] at h2
  have h3 := h2.2.2.1
  rw [givesB, decide_eq_true_eq, givesP, h]
  cases hst : storesK o.kind with
  | true =>
    rw [hst, if_pos rfl, beq_iff_eq] at h3
    simp [h3]
  | false =>
    rw [hst] at h3
    simp only [Bool.false_eq_true, if_false, valueB, Bool.and_eq_true, decide_eq_true_eq] at h3
    simp only [Bool.not_true, Bool.or_self, Bool.false_eq_true, if_false]
    split
    · constructor
      · intro _; omega
      · intro _; decide
    · split
      · constructor <;> intro _ <;> omega
      · constructor <;> intro _ <;> omega
theorem may_args {o : FOp} (h : mayOpK o = true) : (takesK o).length = o.args.length := by
  have h2 := h
  simp only [mayOpK, Bool.and_eq_true, decide_eq_true_eq] at h2
  rw [takesK, if_pos h]
  have := h2.2.2.2.1
  omega
def argsP (o : FOp) : Int :=
  if o.kind = 0 then 0 else if (1 ≤ o.kind ∧ o.kind ≤ 12) ∨ o.kind = 17 then 2 else if o.kind = 13 ∨ o.kind = 18 ∨ o.kind = 19 then 3
  else if o.kind = 14 ∨ o.kind = 15 ∨ o.kind = 16 ∨ o.kind = 22 then 1 else if o.kind = 20 then 4 else if o.kind = 21 then o.lanes else -1
def oneL (k : Int) : Bool := k == 4 || (decide (10 ≤ k) && decide (k ≤ 12)) || k == 14 || k == 15 || (decide (18 ≤ k) && decide (k ≤ 20))
def lowB (o : FOp) : Bool := (decide (16 ≤ o.kind) && (decide (o.kind ≤ 19) && decide (o.bits < 8))) || (decide (21 ≤ o.kind) && decide (o.lanes < 2))
def immP (o : FOp) : Bool :=
  if o.kind = 0 then cutV o.imm o.bits == o.imm else if o.kind = 14 then decide (o.imm < o.bits) && mayW o.imm
  else if o.kind = 15 then decide (o.bits < o.imm) && (decide (o.imm ≤ 64) && mayW o.imm) else if o.kind = 22 then decide (o.imm < o.lanes) else o.imm == 0
def fitsP (o : FOp) : Bool := !(oneL o.kind && !(o.lanes == 1)) && (!(lowB o) && immP o)
def mayR (o : FOp) : Bool := shapeB o.bits o.lanes && (decide (argsP o = (o.args.length : Int)) && (fitsP o && (o.args.all valueB && (if storesK o.kind then o.dst == 0 else valueB o.dst))))
theorem kind_cases (k : Int) : (k < 0 ∨ 22 < k) ∨ k = 0 ∨ k = 1 ∨ k = 2 ∨ k = 3 ∨ k = 4 ∨ k = 5 ∨ k = 6 ∨ k = 7 ∨ k = 8 ∨ k = 9 ∨ k = 10 ∨ k = 11 ∨ k = 12 ∨ k = 13 ∨ k = 14 ∨ k = 15 ∨ k = 16 ∨ k = 17 ∨ k = 18 ∨ k = 19 ∨ k = 20 ∨ k = 21 ∨ k = 22 := by omega
theorem bool_ext {p q : Bool} (h : p = true ↔ q = true) : p = q := by cases p <;> cases q <;> simp_all
theorem min_may {i : Int} (h : mayW i = true) : min i 128 = i := by have := mayW_le h; omega
theorem fits_takes {o : FOp} (hS : shapeB o.bits o.lanes = true) : (argsP o = (o.args.length : Int) ∧ fitsP o = true) ↔ ((takesP o).2 = true ∧ ((takesP o).1.length : Int) = (o.args.length : Int)) := by
  have hb := shapeB_bits hS
  obtain ⟨k, b, l, d, as', im⟩ := o
  simp only at hb hS ⊢
  rcases kind_cases k with h | h | h | h | h | h | h | h | h | h | h | h | h | h | h | h | h | h | h | h | h | h | h | h
  · have e1 : argsP ⟨k, b, l, d, as', im⟩ = -1 := by simp only [argsP]; repeat (first | rw [if_neg (by omega)])
    have e2 : takesP ⟨k, b, l, d, as', im⟩ = ([], false) := by
      have f : ∀ z : Int, (0 ≤ z ∧ z ≤ 22) → (k == z) = false := fun z hz => by rw [beq_eq_false_iff_ne]; omega
      simp [takesP, scalarKs, f]
    rw [e1, e2]
    constructor
    · rintro ⟨h1, _⟩; omega
    · rintro ⟨h1, _⟩; cases h1
  all_goals subst h
  all_goals simp [argsP, fitsP, takesP, scalarKs, oneL, lowB, immP]
  all_goals (try omega)
  all_goals (constructor)
  all_goals (intro hh)
  all_goals (try omega)
  all_goals (first | (refine ⟨?_, ?_⟩ <;> first | omega | (simp_all; omega) | simp_all) | (simp_all; omega) | simp_all)
theorem mayR_eq (o : FOp) : mayR o = mayOpK o := by
  refine bool_ext ?_
  cases hS : shapeB o.bits o.lanes with
  | false => simp [mayR, mayOpK, hS]
  | true =>
    have h := fits_takes hS
    have ha : (o.args.all valueB) = !(o.args.any fun v => !(valueB v)) := by
      rw [List.all_eq_not_any_not]
    simp only [mayR, mayOpK, hS, ha, Bool.true_and, Bool.and_eq_true, decide_eq_true_eq]
    constructor
    · rintro ⟨h1, h2, h3, h4⟩
      obtain ⟨a, b⟩ := h.1 ⟨h1, h2⟩
      exact ⟨a, h4, b, h3⟩
    · rintro ⟨a, h4, b, h3⟩
      obtain ⟨h1, h2⟩ := h.2 ⟨a, b⟩
      exact ⟨h1, h2, h3, h4⟩
def takeEl (o : FOp) (i : Nat) : Int × Int :=
  if o.kind = 13 ∨ o.kind = 20 then (if (i : Int) = 0 then (1, 1) else (o.bits, o.lanes)) else if o.kind = 14 ∨ o.kind = 15 then (o.imm, 1)
  else if o.kind = 16 ∨ o.kind = 17 then (if (i : Int) = 0 then (64, 1) else (o.bits, o.lanes)) else if o.kind = 18 ∨ o.kind = 19 then (if (i : Int) = 1 then (64, 1) else if (i : Int) = 0 then (1, 1) else (o.bits, o.lanes))
  else if o.kind = 21 then (o.bits, 1) else (o.bits, o.lanes)
theorem takes_el {o : FOp} (h : mayOpK o = true) {i : Nat} (hi : i < o.args.length) : (takesP o).1[i]? = some (takeEl o i) := by
  have hS := mayOpK_shape h
  have hb := shapeB_bits hS
  simp only [mayOpK, Bool.and_eq_true, decide_eq_true_eq] at h
  have h1 := h.2.1
  have h2 := h.2.2.2.1
  clear h
  obtain ⟨k, b, l, d, as', im⟩ := o
  simp only at hb hi h1 h2 hS ⊢
  rcases kind_cases k with h | h | h | h | h | h | h | h | h | h | h | h | h | h | h | h | h | h | h | h | h | h | h | h
  · have e2 : takesP ⟨k, b, l, d, as', im⟩ = ([], false) := by
      have f : ∀ z : Int, (0 ≤ z ∧ z ≤ 22) → (k == z) = false := fun z hz => by rw [beq_eq_false_iff_ne]; omega
      simp [takesP, scalarKs, f]
    rw [e2] at h1; cases h1
  all_goals subst h
  all_goals simp [takesP, scalarKs] at h1 h2
  all_goals simp [takesP, scalarKs, takeEl]
  all_goals (try omega)
  all_goals (try (rw [List.getElem?_replicate]; simp; omega))
  all_goals (rcases (show i = 0 ∨ i = 1 ∨ i = 2 ∨ i = 3 by omega) with e | e | e | e)
  all_goals (first | (exfalso; omega) | (subst e; first | rfl | (simp; done) | (rw [min_may (by simp_all)]; rfl) | (simp; exact min_may (by simp_all)) | (simp; omega)))
theorem takesK_el {o : FOp} (h : mayOpK o = true) {i : Nat} (hi : i < o.args.length) : (takesK o)[i]? = some (takeEl o i) := by rw [takesK, if_pos h]; exact takes_el h hi
theorem takesK_take {o : FOp} (h : mayOpK o = true) {i : Nat} (hi : i < o.args.length) : (takesK o).take (i + 1) = (takesK o).take i ++ [takeEl o i] := by
  rw [List.take_add_one, takesK_el h hi]; rfl
theorem imm_small {o : FOp} (h : mayOpK o = true) (hk : o.kind = 14 ∨ o.kind = 15) : 0 ≤ o.imm ∧ o.imm ≤ 64 := by
  have h2 := h
  simp only [mayOpK, Bool.and_eq_true] at h2
  have h3 := h2.2.1
  have hb := shapeB_bits (mayOpK_shape h)
  rcases hk with hk | hk
  · have e : takesP o = ([(min o.imm 128, 1)], o.lanes == 1 && (decide (o.imm < o.bits) && mayW o.imm)) := by simp [takesP, scalarKs, hk]
    rw [e] at h3
    simp only [Bool.and_eq_true] at h3
    have := mayW_le h3.2.2; omega
  · have e : takesP o = ([(min o.imm 128, 1)], o.lanes == 1 && (decide (o.bits < o.imm) && (decide (o.imm ≤ 64) && mayW o.imm))) := by simp [takesP, scalarKs, hk]
    rw [e] at h3
    simp only [Bool.and_eq_true] at h3
    have := mayW_le h3.2.2.2; omega
theorem may_len16 {o : FOp} (h : mayOpK o = true) : o.args.length ≤ 16 := by
  have hb := shapeB_bits (mayOpK_shape h)
  rw [← mayR_eq] at h
  simp only [mayR, Bool.and_eq_true, decide_eq_true_eq] at h
  have h2 := h.2.1
  have h3 : argsP o ≤ 16 := by
    simp only [argsP]
    repeat' split
    all_goals omega
  omega
theorem pair_of {m : Imm} {a b : Int} {p : Int × Int} (e : p = (a, b)) (ha : I64 a) (hb : I64 b) : rPair m [.int .i64 a, .int .i64 b] p := by subst e; exact ⟨rfl, ha, hb⟩
theorem takesK_none {o : FOp} (h : mayOpK o = false) : takesK o = [] := by rw [takesK, if_neg (by simp [h])]
def numB (n : Int) : Bool := decide (0 ≤ n) && decide (n ≤ 2147483647)
def listN (l : List Int) : Bool := l.all numB && decide (l.length ≤ 64)
def may4P (p : FPhi) : Bool := numB p.bits && (numB p.dst && (listN p.fr && listN p.args))
def may4O (o : FOp) : Bool := numB o.kind && (numB o.bits && (numB o.lanes && (numB o.dst && listN o.args)))
def may4E (e : FEnd) : Bool := numB e.kind && (numB e.arg && listN e.to)
def may4B (b : FBlk) : Bool := b.phis.all may4P && (b.ops.all may4O && may4E b.fin)
def may4 (f : FFun) : Bool := !(decide (f.blocks.length = 0)) && (!(decide (64 < f.blocks.length)) && (!(decide (16 < f.params.length)) && (listN f.params && (numB f.ret && (!(decide (512 < sizeF f)) && f.blocks.all may4B)))))
theorem num_out (n : Int) : numB n = !(outN n) := by
  refine bool_ext ?_
  simp only [numB, outN, Bool.and_eq_true, decide_eq_true_eq, Bool.not_eq_true', Bool.or_eq_false_iff, decide_eq_false_iff_not]
  omega
theorem all_num (l : List Int) : l.all numB = inB l := by
  rw [inB, List.all_eq_not_any_not]
  have : (fun n => !(numB n)) = outN := by funext n; rw [num_out, Bool.not_not]
  rw [this]
theorem listN_eq (l : List Int) : listN l = listsB [l] := by
  refine bool_ext ?_
  simp only [listN, listsB, all_num, List.all_cons, List.all_nil, Bool.and_true, Bool.and_eq_true, decide_eq_true_eq, Bool.not_eq_true', Bool.or_eq_false_iff, decide_eq_false_iff_not, Bool.not_eq_false']
  constructor
  · rintro ⟨h1, h2⟩; exact ⟨by omega, h1⟩
  · rintro ⟨h1, h2⟩; exact ⟨h2, by omega⟩
theorem inB_cons (a : Int) (l : List Int) : inB (a :: l) = (numB a && inB l) := by rw [inB, List.any_cons, Bool.not_or, num_out]; rfl
theorem inB_nil : inB [] = true := rfl
theorem listsB_cons (a : List Int) (l : List (List Int)) : listsB (a :: l) = (listN a && listsB l) := by
  rw [listN_eq]; simp [listsB]
theorem may4P_eq (p : FPhi) : may4P p = mayPhi p := by
  simp only [may4P, mayPhi, inB_cons, inB_nil, listsB_cons, show listsB [] = true from rfl, Bool.and_true]
  cases numB p.bits <;> cases numB p.dst <;> cases listN p.fr <;> cases listN p.args <;> rfl
theorem may4O_eq (o : FOp) : may4O o = mayOpC o := by
  simp only [may4O, mayOpC, inB_cons, inB_nil, listsB_cons, show listsB [] = true from rfl, Bool.and_true]
  cases numB o.kind <;> cases numB o.bits <;> cases numB o.lanes <;> cases numB o.dst <;> cases listN o.args <;> rfl
theorem may4B_eq (b : FBlk) : may4B b = mayBlock b := by
  have h1 : may4P = mayPhi := by funext p; exact may4P_eq p
  have h2 : may4O = mayOpC := by funext p; exact may4O_eq p
  simp only [may4B, mayBlock, h1, h2, may4E, inB_cons, inB_nil, listsB_cons, show listsB [] = true from rfl, Bool.and_true, Bool.and_assoc]
theorem may4_eq (f : FFun) : may4 f = mayF f := by
  have h1 : may4B = mayBlock := by funext p; exact may4B_eq p
  have h2 : (f.blocks.any fun b => !(mayBlock b)) = !(f.blocks.all mayBlock) := by rw [List.all_eq_not_any_not]; simp
  refine bool_ext ?_
  simp only [may4, mayF, h1, h2, ← all_num, Bool.and_eq_true, Bool.not_eq_true', Bool.or_eq_false_iff, decide_eq_false_iff_not, Bool.not_eq_false', listN, decide_eq_true_eq]
  constructor
  · rintro ⟨a1, a2, a3, ⟨a4, a5⟩, a6, a7, a8⟩
    exact ⟨⟨⟨⟨⟨⟨by omega, by omega⟩, by omega⟩, a7⟩, by simpa using a6⟩, a4⟩, by simpa using a8⟩
  · rintro ⟨⟨⟨⟨⟨⟨a1, a2⟩, a3⟩, a7⟩, a6⟩, a4⟩, a8⟩
    exact ⟨by omega, by omega, by omega, ⟨a4, by omega⟩, by simpa using a6, a7, by simpa using a8⟩
theorem may4_f {f : FFun} (h : f.blocks.length = 0 ∨ 64 < f.blocks.length ∨ 16 < f.params.length ∨ 512 < sizeF f) : may4 f = false := by
  cases hm : may4 f with
  | false => rfl
  | true =>
    simp only [may4, Bool.and_eq_true, Bool.not_eq_true', decide_eq_false_iff_not] at hm
    obtain ⟨a1, a2, a3, _, _, a4, _⟩ := hm
    omega
theorem may4_t {f : FFun} (h0 : ¬ f.blocks.length = 0) (h1 : ¬ 64 < f.blocks.length) (h2 : ¬ 16 < f.params.length) (h3 : listN f.params = true) (h4 : numB f.ret = true) (h5 : ¬ 512 < sizeF f) (h6 : f.blocks.all may4B = true) : may4 f = true := by
  simp only [may4, h0, h1, h2, h3, h4, h5, h6, decide_false, Bool.not_false, Bool.and_true]
theorem sizeK_le (f : FFun) : ∀ k, k ≤ f.blocks.length → (∀ b ∈ f.blocks, b.phis.length ≤ 140737488355328 ∧ b.ops.length ≤ 140737488355328) → sizeK f k ≤ (f.blocks.length : Int) + (k : Int) * 281474976710656 ∧ 0 ≤ sizeK f k
  | 0, _, _ => by rw [sizeK_zero]; omega
  | k + 1, h, hb => by
    have hz : f.blocks[k]? = some f.blocks[k] := List.getElem?_eq_getElem (by omega)
    have := sizeK_le f k (by omega) hb
    have h2 := hb _ (List.getElem_mem (show k < f.blocks.length by omega))
    rw [sizeK_succ hz]
    omega
def size4 (f : FFun) (k : Nat) : Int := sizeK f k - (f.blocks.length : Int) + (k : Int)
theorem size4_zero (f : FFun) : size4 f 0 = 0 := by rw [size4, sizeK_zero]; omega
theorem size4_succ {f : FFun} {k : Nat} {b : FBlk} (h : f.blocks[k]? = some b) : size4 f (k + 1) = size4 f k + b.phis.length + b.ops.length + 1 := by rw [size4, size4, sizeK_succ h]; omega
theorem size4_end (f : FFun) : size4 f f.blocks.length = sizeF f := by rw [size4, sizeK_end]; omega
def setT (bs : List Bool) (i : Int) : List Bool := bs.set i.toNat true
def onB (bs : List Bool) (i : Int) : Prop := bs[i.toNat]? = some true
structure ReachSt (g : FGraph) (root w : Int) (bs : List Bool) : Prop where
  len : bs.length = g.succ.length
  sound : ∀ i : Nat, bs[i]? = some true → RA (Ed g) (· ≠ w) root i
  top : onB bs root
def closedAt (g : FGraph) (w : Int) (bs : List Bool) (i : Nat) : Prop := ∀ z ∈ g.succ.getD i [], z ≠ w → onB bs z
def trues (bs : List Bool) : Nat := bs.countP (· = true)
def leB (a b : List Bool) : Prop := a.length = b.length ∧ ∀ i : Nat, a[i]? = some true → b[i]? = some true
theorem leB.refl (a : List Bool) : leB a a := ⟨rfl, fun _ h => h⟩
theorem leB.trans {a b c : List Bool} (h : leB a b) (k : leB b c) : leB a c := ⟨h.1.trans k.1, fun i hi => k.2 i (h.2 i hi)⟩
theorem leB_set (a : List Bool) (i : Int) : leB a (setT a i) := ⟨by simp [setT], fun j hj => by
  have hl := (List.getElem?_eq_some_iff.1 hj).1
  by_cases e : i.toNat = j
  · subst e; rw [setT, List.getElem?_set_self hl]
  · rw [setT, List.getElem?_set_ne e]; exact hj⟩
theorem leB_count : ∀ {a b : List Bool}, leB a b → trues a ≤ trues b ∧ (trues a = trues b → a = b)
  | [], [], _ => ⟨Nat.le_refl _, fun _ => rfl⟩
  | [], _ :: _, h => by cases h.1
  | _ :: _, [], h => by cases h.1
  | x :: a, y :: b, h => by
    have h1 : leB a b := ⟨by simpa using h.1, fun i hi => by simpa using h.2 (i + 1) (by simpa using hi)⟩
    obtain ⟨h2, h3⟩ := leB_count h1
    have h4 := h.2 0
    simp only [List.getElem?_cons_zero, Option.some.injEq] at h4
    simp only [trues, List.countP_cons] at *
    cases x <;> cases y <;> simp at * <;> (try omega)
    · exact ⟨h2, h3⟩
    · exact ⟨h2, h3⟩
theorem trues_le (a : List Bool) : trues a ≤ a.length := List.countP_le_length
section
variable {g : FGraph} {root w : Int} {bs b0 : List Bool} {i k : Nat}
theorem reach_init (hr0 : 0 ≤ root) (hrl : root < g.succ.length) (hw : ¬ root = w) : ReachSt g root w ((List.replicate g.succ.length false).set root.toNat true) := by
  refine ⟨by simp, fun i hi => ?_, ?_⟩
  · by_cases e : root.toNat = i
    · have : (i : Int) = root := by omega
      rw [this]; exact .refl hw
    · rw [List.getElem?_set_ne e, List.getElem?_replicate] at hi
      split at hi <;> simp at hi
  · rw [onB, List.getElem?_set_self (by simp; omega)]
theorem ReachSt.set (h : ReachSt g root w bs) (hg : GOk g) {i : Nat} {z : Int} (hi : bs[i]? = some true) (hz : z ∈ g.succ.getD i []) (hw : z ≠ w) : ReachSt g root w (setT bs z) := by
  have hE : Ed g (i : Int) z := ⟨by omega, by rw [Int.toNat_natCast]; exact hz⟩
  have hr := (hE.rng hg).2
  refine ⟨by simp [setT, h.len], fun j hj => ?_, (leB_set bs z).2 _ h.top⟩
  by_cases e : z.toNat = j
  · have : (j : Int) = z := by omega
    rw [this]; exact .step (h.sound i hi) hE hw
  · rw [setT, List.getElem?_set_ne e] at hj; exact h.sound j hj
theorem closedAt.mono {bs' : List Bool} {i : Nat} (h : closedAt g w bs i) (hl : leB bs bs') : closedAt g w bs' i := fun z hz hw => hl.2 _ (h z hz hw)
theorem ReachSt.done (h : ReachSt g root w bs) (hg : GOk g) (hr0 : 0 ≤ root) (hc : ∀ i : Nat, bs[i]? = some true → closedAt g w bs i) : ∀ i : Nat, bs[i]? = some true ↔ RA (Ed g) (· ≠ w) root i := by
  intro i
  refine ⟨h.sound i, fun hR => ?_⟩
  have : ∀ {a b : Int}, RA (Ed g) (· ≠ w) a b → onB bs a → 0 ≤ a → onB bs b ∧ 0 ≤ b := by
    intro a b hab
    induction hab with
    | refl _ => exact fun h0 h1 => ⟨h0, h1⟩
    | @step b' c' _ he hp ih =>
      intro h0 h1
      obtain ⟨h2, h3⟩ := ih h0 h1
      have hr := he.rng hg
      exact ⟨hc b'.toNat h2 c' he.2 hp, hr.2.1⟩
  have := (this hR h.top hr0).1
  rw [onB, Int.toNat_natCast] at this
  exact this
structure RoundSt (g : FGraph) (root w : Int) (b0 bs : List Bool) (k : Nat) : Prop where
  st : ReachSt g root w bs
  le : leB b0 bs
  cl : ∀ i : Nat, i < k → b0[i]? = some true → closedAt g w bs i
theorem RoundSt.next {bs' : List Bool} (h : RoundSt g root w bs bs' g.succ.length) (hst : ReachSt g root w bs) (hg : GOk g) (hr0 : 0 ≤ root) {r : Nat} (hc : r < trues bs ∨ ∀ i : Nat, bs[i]? = some true → closedAt g w bs i) : r + 1 < trues bs' ∨ ∀ i : Nat, bs'[i]? = some true → closedAt g w bs' i := by
  obtain ⟨h1, h2⟩ := leB_count h.le
  by_cases e : trues bs = trues bs'
  · right
    have := h2 e
    subst this
    intro i hi
    have hl := (List.getElem?_eq_some_iff.1 hi).1
    rw [h.st.len] at hl
    exact h.cl i hl hi
  · rcases hc with hc | hc
    · left; omega
    · right
      -- closed already: nothing was put in
      exfalso
      apply e
      have hsub : leB bs' bs := by
        refine ⟨h.le.1.symm, fun i hi => ?_⟩
        exact (hst.done hg hr0 hc i).2 (h.st.sound i hi)
      have h3 := (leB_count hsub).1
      omega
noncomputable def reachP (g : FGraph) (root w : Int) : List Bool := open Classical in (List.range g.succ.length).map fun (i : Nat) => decide (RA (Ed g) (· ≠ w) root i)
theorem reachP_len : (reachP g root w).length = g.succ.length := by simp [reachP]
theorem reachP_at {i : Nat} (hi : i < g.succ.length) : (reachP g root w)[i]? = some true ↔ RA (Ed g) (· ≠ w) root i := by
  rw [reachP, List.getElem?_map, List.getElem?_range hi]; simp
theorem reach_eq (hl : bs.length = g.succ.length) (h : ∀ i : Nat, bs[i]? = some true ↔ RA (Ed g) (· ≠ w) root i) : bs = reachP g root w := by
  refine List.ext_getElem? fun i => ?_
  by_cases hi : i < g.succ.length
  · have h1 := h i
    have h2 := reachP_at (g := g) (root := root) (w := w) hi
    rw [List.getElem?_eq_getElem (by omega)] at h1 ⊢
    rw [List.getElem?_eq_getElem (by rw [reachP_len]; exact hi)] at h2 ⊢
    simp only [Option.some.injEq] at h1 h2 ⊢
    exact bool_ext (h1.trans h2.symm)
  · rw [List.getElem?_eq_none (by omega), List.getElem?_eq_none (by rw [reachP_len]; omega)]
theorem reach_none (hw : root = w) : List.replicate g.succ.length false = reachP g root w := by
  refine reach_eq (by simp) fun i => ?_
  rw [List.getElem?_replicate]
  constructor
  · intro h; split at h <;> simp at h
  · intro h; exact absurd hw h.first
theorem reach_done {r : Nat} (h : ReachSt g root w bs) (hg : GOk g) (hr0 : 0 ≤ root) (hr : g.succ.length ≤ r) (hc : r < trues bs ∨ ∀ i : Nat, bs[i]? = some true → closedAt g w bs i) : bs = reachP g root w := by
  refine reach_eq h.len (h.done hg hr0 (hc.resolve_left ?_))
  have := trues_le bs
  have := h.len
  omega
structure StepSt (g : FGraph) (root w : Int) (b0 bs : List Bool) (i k : Nat) : Prop where
  rs : RoundSt g root w b0 bs i
  here : ∀ j : Nat, j < k → ∀ z, (g.succ.getD i [])[j]? = some z → z ≠ w → onB bs z
  b1 : 0 < k → bs[i]? = some true
theorem StepSt.put (h : StepSt g root w b0 bs i k) (hg : GOk g) (hi : bs[i]? = some true) {z : Int} (hz : (g.succ.getD i [])[k]? = some z) (hw : z ≠ w) : StepSt g root w b0 (setT bs z) i (k + 1) := by
  have hle := leB_set bs z
  refine ⟨⟨h.rs.st.set hg hi (List.mem_of_getElem? hz) hw, h.rs.le.trans hle, fun j hj hb => (h.rs.cl j hj hb).mono hle⟩, fun j hj y hy hyw => ?_, fun _ => hle.2 _ hi⟩
  by_cases e : j = k
  · subst e
    rw [hz] at hy; cases hy
    have hE : Ed g (i : Int) z := ⟨by omega, by rw [Int.toNat_natCast]; exact List.mem_of_getElem? hz⟩
    have hr := (hE.rng hg).2
    rw [onB, setT, List.getElem?_set_self (by rw [h.rs.st.len]; omega)]
  · exact hle.2 _ (h.here j (by omega) y hy hyw)
theorem StepSt.skip (h : StepSt g root w b0 bs i k) (hi : bs[i]? = some true) {z : Int} (hz : (g.succ.getD i [])[k]? = some z) (hw : z = w) : StepSt g root w b0 bs i (k + 1) :=
  ⟨h.rs, fun j hj y hy hyw => by
    by_cases e : j = k
    · subst e; rw [hz] at hy; cases hy; exact absurd hw hyw
    · exact h.here j (by omega) y hy hyw, fun _ => hi⟩
theorem StepSt.done (h : StepSt g root w b0 bs i k) (hk : bs[i]? = some false ∨ (g.succ.getD i []).length ≤ k) : RoundSt g root w b0 bs (i + 1) := by
  refine ⟨h.rs.st, h.rs.le, fun j hj hb => ?_⟩
  by_cases e : j = i
  · subst e
    have hb' := h.rs.le.2 _ hb
    rcases hk with hk | hk
    · rw [hk] at hb'; cases hb'
    · intro z hz hw
      obtain ⟨q, hq⟩ := List.mem_iff_getElem?.1 hz
      exact h.here q (by have := (List.getElem?_eq_some_iff.1 hq).1; omega) z hq hw
  · exact h.rs.cl j (by omega) hb
theorem stepSt_init (h : RoundSt g root w b0 bs i) : StepSt g root w b0 bs i 0 := ⟨h, fun j hj => absurd hj (by omega), fun h0 => absurd h0 (by omega)⟩
theorem roundSt_init (h : ReachSt g root w bs) : RoundSt g root w bs bs 0 := ⟨h, leB.refl _, fun j hj => absurd hj (by omega)⟩
theorem trues_pos {i : Int} (h : onB bs i) : 0 < trues bs := by
  rw [trues, List.countP_pos_iff]
  exact ⟨true, List.mem_of_getElem? h, by simp⟩
end
theorem Bools_frz {gg : Option Nat} {cap : Nat} {bs : List Bool} {m' : Imm} (hf : Frz gg (bs.map Value.bool) m') (h1 : bs.length ≤ cap) (h2 : cap ≤ maxLen) (hlen : bs.length ≤ 140737488355328) (hg : 0 < bs.length → ∃ b, gg = some b) : Sl rB 1 m' (rowA gg) cap bs :=
  Sl_frz hf h1 h2 hlen hg fun j z hj => ⟨[.bool z], rfl, rfl, fun k v hk => by
    rcases k with _ | k
    · simp only [List.getElem?_cons_zero, Option.some.injEq] at hk; subst hk; simp [hj]
    · simp at hk⟩
def ReachΦ (g : FGraph) (root w : Int) (m : Imm) (v : Value) : Prop := ∃ A c, v = .slice A (reachP g root w).length c ∧ Sl rB 1 m A c (reachP g root w)
theorem reachΦ_mk {g : FGraph} {root w : Int} {m : Imm} {A : Option Addr} {c n : Nat} {bs : List Bool} (h : Sl rB 1 m A c bs) (e : bs = reachP g root w) (hn : n = bs.length) : ReachΦ g root w m (.slice A n c) := by subst e hn; exact ⟨A, c, rfl, h⟩
def predF (succ : List (List Int)) (x : Int) (k : Nat) : List Int := ((List.range k).filter fun j => (succ.getD j []).contains x).map fun (j : Nat) => (j : Int)
theorem predF_succ (succ : List (List Int)) (x : Int) (k : Nat) : predF succ x (k + 1) = predF succ x k ++ (if (succ.getD k []).contains x then [(k : Int)] else []) := by
  rw [predF, List.range_succ, List.filter_append, List.map_append]
  congr 1
  by_cases h : (succ.getD k []).contains x = true
  · simp only [List.filter_cons, h, if_true, List.filter_nil, List.map_cons, List.map_nil]
  · simp only [List.filter_cons, h, List.filter_nil]; simp
theorem predF_len (succ : List (List Int)) (x : Int) (k : Nat) : (predF succ x k).length ≤ k := by
  rw [predF, List.length_map]
  have := List.length_filter_le (fun j => (succ.getD j []).contains x) (List.range k)
  rwa [List.length_range] at this
theorem predF_rng {succ : List (List Int)} {x : Int} {k : Nat} : ∀ z ∈ predF succ x k, 0 ≤ z ∧ z < (k : Int) := by
  intro z hz
  simp only [predF, List.mem_map, List.mem_filter, List.mem_range] at hz
  obtain ⟨j, ⟨hj, _⟩, rfl⟩ := hz; omega
def predsR (succ : List (List Int)) : List (List Int) := (List.range succ.length).map fun (i : Nat) => predF succ (i : Int) succ.length
theorem pushAt_get {out : List (List Int)} {z i : Int} {x : Nat} {l : List Int} (h : out[x]? = some l) : (pushAt out z i)[x]? = some (if z.toNat = x then l ++ [i] else l) := by
  rw [pushAt, List.getElem?_modify, h]; split <;> rfl
theorem predRow_get : ∀ {l : List Int} {out : List (List Int)} {i : Int} {x : Nat} {o : List Int}, out[x]? = some o → l.Nodup → (∀ z ∈ l, 0 ≤ z) → (predRow out i l)[x]? = some (o ++ if l.contains (x : Int) then [i] else [])
  | [], out, i, x, o, h, _, _ => by simp [predRow, h]
  | z :: r, out, i, x, o, h, hn, h0 => by
    rw [List.nodup_cons] at hn
    have h1 := pushAt_get (z := z) (i := i) h
    have h2 := predRow_get (l := r) (i := i) h1 hn.2 (fun y hy => h0 y (by simp [hy]))
    have e : predRow out i (z :: r) = predRow (pushAt out z i) i r := rfl
    rw [e, h2]
    have hz := h0 z (by simp)
    by_cases hx : z.toNat = x
    · have hzx : z = (x : Int) := by omega
      have hr : r.contains (x : Int) = false := by
        rw [← hzx]; simpa using hn.1
      rw [if_pos hx, hr, hzx]; simp
    · have hzx : ¬ (x : Int) = z := by omega
      rw [if_neg hx, List.contains_cons, show ((x : Int) == z) = false from beq_eq_false_iff_ne.2 hzx, Bool.false_or]
theorem predsK_get {succ : List (List Int)} (hn : ∀ l ∈ succ, l.Nodup ∧ ∀ z ∈ l, 0 ≤ z) {x : Nat} (hx : x < succ.length) : ∀ k, k ≤ succ.length → (predsK succ k)[x]? = some (predF succ (x : Int) k)
  | 0, _ => by simp [predsK, predF, hx]
  | k + 1, h => by
    have ih := predsK_get hn hx k (by omega)
    have hk : succ[k]? = some succ[k] := List.getElem?_eq_getElem (by omega)
    have hl := hn _ (List.getElem_mem (show k < succ.length by omega))
    rw [predsK_succ, predF_succ, getDl_of hk]
    exact predRow_get ih hl.1 hl.2
theorem preds_eq {succ : List (List Int)} (hn : ∀ l ∈ succ, l.Nodup ∧ ∀ z ∈ l, 0 ≤ z) : predsR succ = predsP succ := by
  refine List.ext_getElem? fun x => ?_
  by_cases hx : x < succ.length
  · rw [predsP, predsK_get hn hx _ (Nat.le_refl _), predsR, List.getElem?_map, List.getElem?_range hx]; rfl
  · rw [List.getElem?_eq_none (by simp [predsR]; omega), List.getElem?_eq_none (by rw [predsP_length]; omega)]
theorem predsR_len (succ : List (List Int)) : (predsR succ).length = succ.length := by simp [predsR]
theorem predsR_get {succ : List (List Int)} {i : Nat} (h : i < succ.length) : (predsR succ)[i]? = some (predF succ (i : Int) succ.length) := by
  rw [predsR, List.getElem?_map, List.getElem?_range h]; rfl
theorem okR_ge {l : List Int} {n : Int} {k : Nat} (h : ∀ j, j < k → okR l n j = true) (hk : k ≤ l.length) : ∀ j, j ≤ k → (j : Int) - 1 ≤ prevL l j
  | 0, _ => by simp [prevL]
  | j + 1, hj => by
    have ih := okR_ge h hk j (by omega)
    have := h j (by omega)
    have hz : l[j]? = some l[j] := List.getElem?_eq_getElem (by omega)
    rw [prevL_succ hz]
    simp only [okR, Bool.and_eq_true, decide_eq_true_eq, getD_of hz] at this
    omega
theorem okR_t {l : List Int} {n : Int} {k : Nat} {z : Int} (h : ∀ j, j < k → okR l n j = true) (hz : l[k]? = some z) (h0 : 0 ≤ z) (hn : z < n) (hp : ∀ y, 0 < k → l[k - 1]? = some y → y < z) : okR l n k = true := by
  simp only [okR, Bool.and_eq_true, decide_eq_true_eq, getD_of hz]
  refine ⟨?_, hn⟩
  cases k with
  | zero => simp [prevL]; omega
  | succ k =>
    have hkl : k < l.length := by have := (List.getElem?_eq_some_iff.1 hz).1; omega
    have hy : l[k]? = some l[k] := List.getElem?_eq_getElem hkl
    rw [prevL_succ hy]
    exact hp _ (by omega) hy
theorem okR_f {l : List Int} {n : Int} {k : Nat} {z : Int} (h : ∀ j, j < k → okR l n j = true) (hz : l[k]? = some z) (hb : z < 0 ∨ n ≤ z ∨ ∃ y, 0 < k ∧ l[k - 1]? = some y ∧ z ≤ y) : okR l n k = false := by
  have hkl := (List.getElem?_eq_some_iff.1 hz).1
  have hge := okR_ge h (by omega) k (Nat.le_refl _)
  cases hc : okR l n k with
  | false => rfl
  | true =>
    exfalso
    simp only [okR, Bool.and_eq_true, decide_eq_true_eq, getD_of hz] at hc
    rcases hb with hb | hb | ⟨y, h0, hy, hle⟩
    · omega
    · omega
    · cases k with
      | zero => omega
      | succ k =>
        rw [prevL_succ (by simpa using hy)] at hc
        omega
theorem rising_pair {l : List Int} {n : Int} (h : risingP l n = true) : l.Pairwise (· < ·) := by
  rw [List.pairwise_iff_getElem]
  intro i j hi hj hij
  have : ∀ d : Nat, ∀ hd : i + (d + 1) < l.length, l[i] < l[i + (d + 1)] := by
    intro d
    induction d with
    | zero =>
      intro hd
      have h1 := rising_ok h (j := i + 1) hd
      have hz : l[i]? = some l[i] := List.getElem?_eq_getElem hi
      have hz' : l[i + 1]? = some l[i + 1] := List.getElem?_eq_getElem hd
      simp only [okR, Bool.and_eq_true, decide_eq_true_eq, getD_of hz', prevL_succ hz] at h1
      exact h1.1
    | succ d ih =>
      intro hd
      have h0 := ih (by omega)
      have h1 := rising_ok h (j := i + (d + 1) + 1) (by omega)
      have hz : l[i + (d + 1)]? = some l[i + (d + 1)] := List.getElem?_eq_getElem (by omega)
      have hz' : l[i + (d + 1) + 1]? = some l[i + (d + 1) + 1] := List.getElem?_eq_getElem (by omega)
      simp only [okR, Bool.and_eq_true, decide_eq_true_eq, getD_of hz', prevL_succ hz] at h1
      have : i + (d + 1 + 1) = i + (d + 1) + 1 := by omega
      simp only [this]; omega
  have h2 := this (j - i - 1) (by omega)
  have e : i + (j - i - 1 + 1) = j := by omega
  simp only [e] at h2; exact h2
theorem rising_nd {l : List Int} {n : Int} (h : risingP l n = true) : l.Nodup ∧ ∀ z ∈ l, 0 ≤ z := by
  refine ⟨?_, fun z hz => (rising_mem h hz).1⟩
  rw [List.nodup_iff_pairwise_ne]
  exact (rising_pair h).imp (by intro a b hab; omega)
theorem makeP_t {succ : List (List Int)} (h0 : ¬ succ.length = 0) (h1 : ¬ 64 < succ.length) (hr : ∀ j, j < succ.length → ∀ l, succ[j]? = some l → risingP l succ.length = true) : makeP succ = some ⟨succ, predsR succ⟩ := by
  have hall : ∀ l ∈ succ, risingP l succ.length = true := fun l hl => by
    obtain ⟨j, hj⟩ := List.mem_iff_getElem?.1 hl
    exact hr j (List.getElem?_eq_some_iff.1 hj).1 l hj
  rw [preds_eq (fun l hl => rising_nd (hall l hl)), makeP, if_neg]
  simp only [Bool.or_eq_true, decide_eq_true_eq, List.any_eq_true, not_or]
  refine ⟨by omega, by omega, ?_⟩
  rintro ⟨l, hl, hc⟩
  rw [hall l hl] at hc; cases hc
theorem makeP_f0 {succ : List (List Int)} (h : succ.length = 0 ∨ 64 < succ.length) : makeP succ = none := by
  rw [makeP, if_pos]
  simp only [Bool.or_eq_true, decide_eq_true_eq]
  omega
theorem makeP_f {succ : List (List Int)} {j k : Nat} {l : List Int} (hl : succ[j]? = some l) (hk : k < l.length) (h : okR l succ.length k = false) : makeP succ = none := by
  rw [makeP, if_pos]
  simp only [Bool.or_eq_true, decide_eq_true_eq, List.any_eq_true]
  refine .inr (.inr ⟨l, List.mem_of_getElem? hl, ?_⟩)
  rw [risingP, range_all_false hk h]; rfl
theorem sortC_pair (l : List Int) : (sortC l).Pairwise (· < ·) := by
  have hs : (l.mergeSort fun x y => decide (x ≤ y)).Pairwise (· ≤ ·) := by
    have := List.pairwise_mergeSort (le := fun (x y : Int) => decide (x ≤ y)) (fun a b c h1 h2 => by simp at *; omega) (fun a b => by simp; omega) l
    exact this.imp (by intro a b h; simpa using h)
  rw [sortC]
  generalize l.mergeSort (fun x y => decide (x ≤ y)) = d at hs
  simp only [Lib.compact, Lib.compactUpTo]
  rw [List.pairwise_map]
  have hr : (List.range d.length).Pairwise (· < ·) := List.pairwise_lt_range
  have hm : ∀ j : Nat, ∀ hj : j < d.length, d.toArray[j]! = d[j] := fun j hj => by rw [getElem!_pos _ j (by simpa using hj)]; simp
  refine List.Pairwise.imp_of_mem ?_ (hr.filter (p := Lib.keeps d.toArray))
  intro a b ha hb hab
  have ha' := (List.mem_filter.1 ha)
  have hb' := (List.mem_filter.1 hb)
  have hal := List.mem_range.1 ha'.1
  have hbl := List.mem_range.1 hb'.1
  have hk := hb'.2
  simp only [Lib.keeps, decide_eq_true_eq] at hk
  have hle : ∀ i j : Nat, ∀ (hi : i < d.length) (hj : j < d.length), i ≤ j → d[i] ≤ d[j] := fun i j hi hj hij => by
    by_cases e : i = j
    · subst e; exact Int.le_refl _
    · exact List.pairwise_iff_getElem.1 hs i j hi hj (by omega)
  rcases hk with hk | hk
  · omega
  · rw [hm b hbl, hm (b - 1) (by omega)] at hk
    have h1 := hle a (b - 1) hal (by omega) (by omega)
    have h2 := hle (b - 1) b (by omega) hbl (by omega)
    rw [hm a hal, hm b hbl]; omega
def onF (l : List Int) (k : Nat) : List Int := ((List.range k).filter fun (j : Nat) => decide (1 ≤ j) && l.contains (j : Int)).map fun (j : Nat) => (j : Int)
theorem onF_succ (l : List Int) (k : Nat) : onF l (k + 1) = onF l k ++ (if (decide (1 ≤ k) && l.contains (k : Int)) = true then [(k : Int)] else []) := by
  rw [onF, List.range_succ, List.filter_append, List.map_append]
  congr 1
  by_cases h : (decide (1 ≤ k) && l.contains (k : Int)) = true
  · simp only [List.filter_cons, h, if_true, List.filter_nil, List.map_cons, List.map_nil]
  · simp only [List.filter_cons, h, List.filter_nil]; simp
theorem onF_len (l : List Int) (k : Nat) : (onF l k).length ≤ k := by
  rw [onF, List.length_map]
  have := List.length_filter_le (fun (j : Nat) => decide (1 ≤ j) && l.contains (j : Int)) (List.range k)
  rwa [List.length_range] at this
theorem onF_rng {l : List Int} {k : Nat} : ∀ z ∈ onF l k, 0 ≤ z ∧ z < (k : Int) := by
  intro z hz
  simp only [onF, List.mem_map, List.mem_filter, List.mem_range] at hz
  obtain ⟨j, ⟨hj, _⟩, rfl⟩ := hz; omega
theorem onF_eq {l : List Int} {n : Nat} (h : ∀ z ∈ l, 1 ≤ z ∧ z < (n : Int)) : onF l n = sortC l := by
  have h1 : (onF l n).Pairwise (· < ·) := by
    rw [onF, List.pairwise_map]
    exact (List.pairwise_lt_range.filter (p := fun (j : Nat) => decide (1 ≤ j) && l.contains (j : Int))).imp (by intro a b hab; omega)
  have h2 := sortC_pair l
  have hm : ∀ z, z ∈ onF l n ↔ z ∈ sortC l := fun z => by
    rw [mem_sortC]
    simp only [onF, List.mem_map, List.mem_filter, List.mem_range, Bool.and_eq_true, decide_eq_true_eq, List.contains_iff_mem]
    constructor
    · rintro ⟨j, ⟨_, _, hj⟩, rfl⟩; exact hj
    · intro hz; have := h z hz; exact ⟨z.toNat, ⟨by omega, by omega, by rwa [Int.toNat_of_nonneg (by omega)]⟩, by omega⟩
  have hp : (onF l n).Perm (sortC l) := (List.perm_ext_iff_of_nodup (by rw [List.nodup_iff_pairwise_ne]; exact h1.imp (by intro a b hab; omega)) (by rw [List.nodup_iff_pairwise_ne]; exact h2.imp (by intro a b hab; omega))).2 hm
  exact hp.eq_of_pairwise (le := fun a b => a < b) (fun a b _ _ h3 h4 => by omega) h1 h2
end Go.Proofs.YtipmgkhjoekaaaaGreat
namespace Go.Proofs.YtipmgkhjoekaaaaGreat.Fw
open Go Go.RowKit
def catR (rs : List Res) : Res where
  has k := ∃ r ∈ rs, r.has k
  holds w := (∀ r ∈ rs, r.holds w) ∧ rs.Pairwise (fun (r r' : Res) => ∀ k : Nat, r.has k → ¬ r'.has k)
  loc h hs := ⟨fun r hr => r.loc (h.1 r hr) fun k hk => hs k ⟨r, hr, hk⟩, h.2⟩
  lt h hk := by obtain ⟨r, hr, hk⟩ := hk; exact r.lt (h.1 r hr) hk
theorem St.openC {s : Start} {m : Imm} {R rs : List Res} {w : World} (h : St s m (catR rs :: R) w) : St s m (rs ++ R) w := by
  have hh : (catR rs).holds w := h.holds _ (by simp)
  have hp := List.pairwise_cons.1 h.pair
  refine { h with holds := fun r hr => ?_, apart := fun r hr k hk => ?_, pair := ?_, own := fun r hr k hk => ?_ }
  · rcases List.mem_append.1 hr with hr | hr
    · exact hh.1 r hr
    · exact h.holds r (by simp [hr])
  · rcases List.mem_append.1 hr with hr | hr
    · exact h.apart (catR rs) (by simp) k ⟨r, hr, hk⟩
    · exact h.apart r (by simp [hr]) k hk
  · exact List.pairwise_append.2 ⟨hh.2, hp.2, fun x hx y hy k hk => hp.1 y hy k ⟨x, hx, hk⟩⟩
  · rcases List.mem_append.1 hr with hr | hr
    · exact h.own (catR rs) (by simp) k ⟨r, hr, hk⟩
    · exact h.own r (by simp [hr]) k hk
theorem St.shutC {s : Start} {m : Imm} {R rs : List Res} {w : World} (h : St s m (rs ++ R) w) : St s m (catR rs :: R) w := by
  have hp := List.pairwise_append.1 h.pair
  refine { h with holds := fun r hr => ?_, apart := fun r hr k hk => ?_, pair := ?_, own := fun r hr k hk => ?_ }
  · rcases List.mem_cons.1 hr with rfl | hr
    · exact ⟨fun x hx => h.holds x (by simp [hx]), hp.1⟩
    · exact h.holds r (by simp [hr])
  · rcases List.mem_cons.1 hr with rfl | hr
    · obtain ⟨x, hx, hk⟩ := hk; exact h.apart x (by simp [hx]) k hk
    · exact h.apart r (by simp [hr]) k hk
  · exact List.pairwise_cons.2 ⟨fun y hy k hk => by obtain ⟨x, hx, hk⟩ := hk; exact hp.2.2 x hx y hy k hk, hp.2.1⟩
  · rcases List.mem_cons.1 hr with rfl | hr
    · obtain ⟨x, hx, hk⟩ := hk; exact h.own x (by simp [hx]) k hk
    · exact h.own r (by simp [hr]) k hk
theorem set_perm {α : Type _} {R : List α} {i : Nat} {r x : α} (hi : R[i]? = some r) : (x :: R.eraseIdx i).Perm (R.set i x) := by
  obtain ⟨h1, h2⟩ := eraseIdx_split hi
  have h3 := (take_set_drop hi).2 x
  rw [h2, h3]; exact List.perm_middle.symm
section
variable {P : Program} {ops : Array Oper} {Q : Post} {rest : List Oper} {n : Nat} {s : Start} {m : Imm} {R : List Res} {L : Loc}
variable {d : Nat} {dst : Option Nat} {ty : TypeId} {pos : String} {af : Array Edge} {g : Option (Nat × Bool)} {x y : Operand}
theorem St.openAt {w : World} {rs : List Res} {i : Nat} (hS : St s m R w) (hi : R[i]? = some (catR rs)) : St s m (rs ++ R.eraseIdx i) w := (hS.perm (perm_erase hi)).openC
theorem St.shutAt {w : World} {rs : List Res} {r : Res} {i : Nat} (hi : R[i]? = some r) (hS : St s m (rs ++ R.eraseIdx i) w) : St s m (R.set i (catR rs)) w := hS.shutC.perm (set_perm hi)
theorem WL_openC {rs : List Res} (i : Nat) (hi : R[i]? = some (catR rs)) (h : WL P ops Q rest n s m (rs ++ R.eraseIdx i) L) : WL P ops Q rest n s m R L := fun a w hF hS => h a w hF (hS.openAt hi)
theorem WL_shutC {rs R' : List Res} {r : Res} (i : Nat) (hi : R[i]? = some r) (hR : R' = rs ++ R.eraseIdx i) (h : WL P ops Q rest n s m (R.set i (catR rs)) L) : WL P ops Q rest n s m R' L := fun a w hF hS => h a w hF ((hR ▸ hS : St s m (rs ++ R.eraseIdx i) w).shutAt hi)
theorem Src.open' {A : Option Addr} {c : Nat} {ys : List Value} {R' : List Res} (h : Src s m R A c ys) (hs : ∀ w, St s m R' w → St s m R w) : Src s m R' A c ys := ⟨fun w hS => h.1 w (hs w hS), h.2⟩
theorem St.shutSame {w : World} {rs : List Res} {i : Nat} (hi : R[i]? = some (catR rs)) (hS : St s m (rs ++ R.eraseIdx i) w) : St s m R w := hS.shutC.perm (perm_erase hi).symm
def matR (E E' : TypeId) (b n' cap : Nat) (rs : List IRow) : Res := catR (row (some b) n' cap E' 1 (rs.map IRow.val) :: rs.map (IRow.res E))
theorem CW_matrixC {c : Code} {b n' cap E' : Nat} (E i : Nat) (hi : R[i]? = some (row (some b) n' cap E' 1 (List.replicate n' (.slice none 0 0)))) (next : CW P c Q n s m (R.set i (matR E E' b n' cap (List.replicate n' (none, 0, [])))) L) : CW P c Q n s m R L := fun a w hF hS => by
  have e : (List.replicate n' ((none, 0, []) : IRow)).map IRow.val = List.replicate n' (.slice none 0 0) := by simp [IRow.val, slI, rowA]
  have h : ∀ q, St s m ((List.replicate q ((none, 0, []) : IRow)).map (IRow.res E) ++ R) w := by
    intro q
    induction q with
    | zero => simpa using hS
    | succ q ih =>
      have := ih.nilRow E 1
      rw [List.replicate_succ, List.map_cons, List.cons_append]
      exact this
  refine next a w hF (St.shutAt hi ?_)
  rw [e, List.cons_append]
  exact ((h n').perm ((perm_erase hi).append_left _)).perm List.perm_middle
theorem r_loadrM {T b o n' cap E E' : Nat} {rs : List IRow} {it : IRow} (i : Nat) (hx : ev L x = some (.pointer (some ⟨b, o, none⟩))) (hT : agg? P T = some false) (hi : R[i]? = some (matR E E' b n' cap rs)) (hv : rs[o]? = some it) : Qt P ⟨dst, .load T x, ty, pos, af, g⟩ n m R L it.val :=
  .of fun a w hF hp => by
    have h : (matR E E' b n' cap rs).holds w := hp.at hi
    have := h.1 _ (List.mem_cons_self ..)
    simp [execOp, hF.eval hx, run_load1 hT (row_cell this (v := it.val) (by rw [List.getElem?_map, hv]; rfl))]
theorem S_appendMC {T E E' b n' cap bytes n2 c2 k : Nat} {z : Value} {A2 : Option Addr} {rs : List IRow} {it : IRow} (zs : List Int) (i : Nat) (hi : R[i]? = some (matR E E' b n' cap rs)) (hk : rs[k]? = some it)
    (hx : ev L x = some it.val) (hy : ev L y = some (.slice A2 n2 c2))
    (hT : P.underlying T = some (.slice E)) (hs : sz? P E = some 1) (hz : zero? P E = some z) (hby : byt? P E = some bytes) (hzs : z.cells.size = 1)
    (hl : zs.length = n2) (hc : Src s m R A2 c2 (zs.map (Value.int .i64)))
    (hb : (it.2.2.length + zs.length) * bytes ≤ 140737488355328) (hd : Nat.blt d n = true)
    (next : ∀ g' c', (0 < (it.2.2 ++ zs).length → ∃ b, g' = some b) → WL P ops Q rest n s m (R.set i (catR (row (some b) n' cap E' 1 (rs.map IRow.val) :: (rs.set k (g', c', it.2.2 ++ zs)).map (IRow.res E)))) ((d, IRow.val (g', c', it.2.2 ++ zs)) :: L)) (hbz : Nat.blt 0 bytes = true := by rfl) :
    WL P ops Q (⟨some d, .call ⟨.builtin .append, #[x, y], #[T, T]⟩, ty, pos, af, none⟩ :: rest) n s m R L := by
  have hkl : k < rs.length := (List.getElem?_eq_some_iff.1 hk).1
  refine WL_openC i hi (S_appendI (l := it.2.2) zs (k + 1) hx hy (by simp only [List.cons_append, List.getElem?_cons_succ]; exact get_mid hk) hT hs hz hby hzs hl (hc.open' fun w hS => hS.shutSame hi) hb hd (fun g' c' hg => ?_) hbz)
  refine WL_shutC i hi ?_ (next g' c' hg)
  simp only [List.cons_append, List.set_cons_succ]
  rw [show rowI E g' c' (it.2.2 ++ zs) = IRow.res E (g', c', it.2.2 ++ zs) from rfl, set_mid _ _ _ _ _ hkl]
theorem S_storeMC {T E E' b k n' cap : Nat} {rs rs' : List IRow} {it : IRow} (i : Nat) (hx : ev L x = some (.pointer (some ⟨b, k, none⟩))) (hy : ev L y = some it.val) (hs : sz? P T = some 1) (hi : R[i]? = some (catR (row (some b) n' cap E' 1 (rs.map IRow.val) :: rs'.map (IRow.res E))))
    (hk : k < rs.length) (he : rs' = rs.set k it) (next : WL P ops Q rest n s m (R.set i (matR E E' b n' cap rs')) L) : WL P ops Q (⟨none, .store T x y, ty, pos, af, none⟩ :: rest) n s m R L := by
  refine WL_openC i hi (S_storer1 0 hx hy rfl rfl hs (by rfl) (by simpa using hk) ?_)
  refine WL_shutC i hi ?_ next
  subst he
  rw [← List.map_set]; rfl
theorem Frz.mono {g : Option Nat} {xs : List Value} {m m' : Imm} (h : Frz g xs m) (hm : m.le m') : Frz g xs m' := fun b hb o v hv => hm.cell (h b hb o v hv)
theorem St.freezeMC {E E' : TypeId} {w : World} {i b n' cap : Nat} {rs : List IRow} (hS : St s m R w) (hi : R[i]? = some (matR E E' b n' cap rs)) (hm : ∀ k, ¬ s.mods k) (hr : ∀ x ∈ rs, ∀ z ∈ x.2.2, I64 z) (hlen : ∀ x ∈ rs, x.2.2.length ≤ 140737488355328) (hn : rs.length ≤ 140737488355328) :
    ∃ m', m.le m' ∧ Sl (rS rI 1) 1 m' (some ⟨b, 0, none⟩) cap (rs.map fun x => x.2.2) ∧ n' = rs.length ∧ St s m' (R.eraseIdx i) w := by
  have h0 := hS.openAt hi
  obtain ⟨h1, h2, h3, _⟩ := row_g (h0.at (i := 0) rfl)
  obtain ⟨m1, l1, S1, f1⟩ := h0.freezeAt (i := 0) (gg := some b) rfl hm
  obtain ⟨m2, l2, S2, f2⟩ := St.freezeRows rs (m := m1) (RR := R.eraseIdx i) S1 hm hr hlen
  have hn' : n' = rs.length := by simp at h1; omega
  exact ⟨m2, Imm.le_trans l1 l2, SlS_frz (gg := some b) (Frz.mono (g := some b) f1 l2) (by omega) h3 hn (fun _ => ⟨b, rfl⟩) f2, hn', S2⟩
theorem RX_freezeMC {E E' : TypeId} {b n' cap : Nat} {rs : List IRow} (i : Nat) (hi : R[i]? = some (matR E E' b n' cap rs)) (hm : ∀ k, ¬ s.mods k) (hr : ∀ x ∈ rs, ∀ z ∈ x.2.2, I64 z) (hlen : ∀ x ∈ rs, x.2.2.length ≤ 140737488355328) (hn : rs.length ≤ 140737488355328)
    (next : ∀ m', m.le m' → Sl (rS rI 1) 1 m' (some ⟨b, 0, none⟩) cap (rs.map fun x => x.2.2) → n' = rs.length → RX Q n s m' (R.eraseIdx i) L) : RX Q n s m R L := fun a w hF hS => by
  obtain ⟨m', h1, h2, h3, h4⟩ := hS.freezeMC hi hm hr hlen hn
  exact next m' h1 h2 h3 a w hF h4
end
end Go.Proofs.YtipmgkhjoekaaaaGreat.Fw
namespace Go.Proofs.YtipmgkhjoekaaaaGreat.Fw
open Go
theorem cells_part {m : Imm} {ad : Addr} {es vs : List Value} (l : ∀ k v, es[k]? = some v → m.cell? (ad.add k) = some v) (o k : Nat) (h : vs = (es.drop o).take k) : ∀ j v, vs[j]? = some v → m.cell? ((ad.add o).add j) = some v := by
  subst h
  intro j v hj
  rw [add_add]
  rw [List.getElem?_take] at hj
  split at hj
  · rw [List.getElem?_drop] at hj; exact l _ _ hj
  · cases hj
end Go.Proofs.YtipmgkhjoekaaaaGreat.Fw
namespace Go.Proofs.YtipmgkhjoekaaaaGreat
open Go Go.Proofs.YtipmgkhjoekaaaaGreat.Fw
structure MatSt (succ : List (List Int)) (x : List IRow) (k q : Nat) : Prop where
  len : x.length = succ.length
  at_ : ∀ (i : Nat) y, x[i]? = some y → y.2.2 = if i < k then predF succ (i : Int) succ.length else if i = k then predF succ (i : Int) q else []
theorem predF_zero (succ : List (List Int)) (x : Int) : predF succ x 0 = [] := rfl
theorem matSt_init (succ : List (List Int)) : MatSt succ (List.replicate succ.length (none, 0, [])) 0 0 := ⟨by simp, fun i y hy => by
  rw [List.getElem?_replicate] at hy
  split at hy
  · cases hy; rw [if_neg (by omega), predF_zero]; split <;> rfl
  · cases hy⟩
section
variable {succ : List (List Int)} {x : List IRow} {k q : Nat}
theorem MatSt.put (h : MatSt succ x k q) {it : IRow} (hi : x[k]? = some it) {l : List Int} (hl : succ[q]? = some l) (hc : l.contains (k : Int) = true) {g : Option Nat} {c : Nat} : MatSt succ (x.set k (g, c, it.2.2 ++ [(q : Int)])) k (q + 1) := by
  refine ⟨by simp [h.len], fun i y hy => ?_⟩
  have h0 := h.at_ k it hi
  rw [if_neg (by omega), if_pos rfl] at h0
  by_cases e : k = i
  · subst e
    rw [List.getElem?_set_self (List.getElem?_eq_some_iff.1 hi).1] at hy
    cases hy
    rw [if_neg (by omega), if_pos rfl, predF_succ, getDl_of hl, if_pos hc, h0]
  · rw [List.getElem?_set_ne e] at hy
    have := h.at_ i y hy
    rw [this, if_neg (show ¬ i = k by omega), if_neg (show ¬ i = k by omega)]
theorem MatSt.skip (h : MatSt succ x k q) {l : List Int} (hl : succ[q]? = some l) (hc : l.contains (k : Int) = false) : MatSt succ x k (q + 1) := by
  refine ⟨h.len, fun i y hy => ?_⟩
  have := h.at_ i y hy
  by_cases e : i = k
  · subst e
    rw [if_neg (by omega), if_pos rfl] at this ⊢
    rw [predF_succ, getDl_of hl, hc, this]; simp
  · rw [this, if_neg e, if_neg e]
theorem MatSt.next (h : MatSt succ x k succ.length) : MatSt succ x (k + 1) 0 := by
  refine ⟨h.len, fun i y hy => ?_⟩
  have := h.at_ i y hy
  rw [this]
  by_cases e : i < k
  · rw [if_pos e, if_pos (by omega)]
  · by_cases e' : i = k
    · subst e'; rw [if_neg e, if_pos rfl, if_pos (by omega)]
    · rw [if_neg e, if_neg e', if_neg (by omega)]; split <;> simp [predF_zero]
theorem MatSt.done (h : MatSt succ x succ.length 0) : x.map (fun y => y.2.2) = predsR succ := by
  refine List.ext_getElem? fun i => ?_
  by_cases hi : i < succ.length
  · obtain ⟨y, hx⟩ : ∃ y, x[i]? = some y := ⟨_, List.getElem?_eq_getElem (by rw [h.len]; exact hi)⟩
    rw [List.getElem?_map, hx, predsR_get hi, Option.map_some, h.at_ i _ hx, if_pos hi]
  · rw [List.getElem?_eq_none (by rw [List.length_map, h.len]; omega), List.getElem?_eq_none (by rw [predsR_len]; omega)]
theorem MatSt.small (h : MatSt succ x k q) (hq : q ≤ succ.length) : ∀ y ∈ x, y.2.2.length ≤ succ.length := by
  intro y hy
  obtain ⟨i, hi⟩ := List.mem_iff_getElem?.1 hy
  rw [h.at_ i y hi]
  split
  · exact predF_len _ _ _
  · split
    · exact Nat.le_trans (predF_len _ _ _) hq
    · simp
theorem MatSt.i64 (h : MatSt succ x k q) (hq : q ≤ succ.length) (hn : succ.length ≤ 64) : ∀ y ∈ x, ∀ z ∈ y.2.2, I64 z := by
  intro y hy z hz
  obtain ⟨i, hi⟩ := List.mem_iff_getElem?.1 hy
  rw [h.at_ i y hi] at hz
  split at hz
  · have := predF_rng z hz; exact ⟨by omega, by omega⟩
  · split at hz
    · have := predF_rng z hz; exact ⟨by omega, by omega⟩
    · cases hz
end
theorem has_t {l : List Int} {x z : Int} {k : Nat} (h : l[k]? = some z) (e : z = x) : l.contains x = true := by
  subst e; simpa using List.mem_of_getElem? h
theorem has_f {l : List Int} {x : Int} (h : ∀ j, j < l.length → ∀ y, l[j]? = some y → y ≠ x) : l.contains x = false := by
  rw [Bool.eq_false_iff]; intro hc
  have hm : x ∈ l := by simpa using hc
  obtain ⟨j, hj⟩ := List.mem_iff_getElem?.1 hm
  exact h j (List.getElem?_eq_some_iff.1 hj).1 x hj rfl
theorem rising_of {l : List Int} {n : Int} (h : ∀ j, j < l.length → okR l n j = true) : risingP l n = true := range_all_true h
theorem graphΦ_none {succ : List (List Int)} {m : Imm} (h : makeP succ = none) : GraphΦ (makeP succ) m (.tuple #[.agg #[.slice none 0 0, .slice none 0 0], .int .i64 5]) := by
  rw [h]; exact ⟨_, rfl, none, 0, none, 0, rfl, Sl.nil _ _ _, Sl.nil _ _ _⟩
theorem graphΦ_some {succ : List (List Int)} {m : Imm} {A B : Option Addr} {c d : Nat} (h : makeP succ = some ⟨succ, predsR succ⟩) (h1 : Sl (rS rI 1) 1 m A c succ) (h2 : Sl (rS rI 1) 1 m B d (predsR succ)) : GraphΦ (makeP succ) m (.tuple #[.agg #[.slice A succ.length c, .slice B succ.length d], .int .i64 0]) := by
  rw [h]; exact ⟨_, rfl, A, c, B, d, by show _ = [_, Value.slice B (predsR succ).length d]; rw [predsR_len]; rfl, h1, h2⟩
theorem lists_f {a b : List (List Int)} {k : Nat} {y z : List Int} (h : a[k]? = some y) (h' : b[k]? = some z) (hc : (y == z) = false) : (a == b) = false := by
  rw [beq_eq_false_iff_ne] at hc ⊢
  rintro rfl; rw [h] at h'; exact hc (Option.some.inj h')
theorem lists_t {a b : List (List Int)} (hl : a.length = b.length) (h : ∀ j, j < a.length → a[j]? = b[j]?) : (a == b) = true := by
  rw [beq_iff_eq]
  refine List.ext_getElem? fun j => ?_
  by_cases hj : j < a.length
  · exact h j hj
  · rw [List.getElem?_eq_none (by omega), List.getElem?_eq_none (by omega)]
theorem goes_lit {k z : Int} (h0 : 0 ≤ k) (h3 : k ≤ 3) (h : [(0 : Int), 1, 2, 0][k.toNat]? = some z) : goesK k = z := by
  rcases (show k = 0 ∨ k = 1 ∨ k = 2 ∨ k = 3 by omega) with rfl | rfl | rfl | rfl <;> (simp at h; subst h; rfl)
section
variable {n : Nat} {b : FBlk}
theorem badB_t1 (h : b.fin.kind < 0 ∨ 3 < b.fin.kind) : badB n b = true := by
  have : goesK b.fin.kind = -1 := by
    have f : ∀ z : Int, (0 ≤ z ∧ z ≤ 3) → (b.fin.kind == z) = false := fun z hz => by rw [beq_eq_false_iff_ne]; omega
    simp [goesK, f]
  have h2 : ((-1 : Int) != (b.fin.to.length : Int)) = true := bne_iff_ne.2 (by omega)
  simp only [badB, this, h2]; rfl
theorem badB_t2 {z : Int} (h0 : 0 ≤ b.fin.kind) (h3 : b.fin.kind ≤ 3) (h : [(0 : Int), 1, 2, 0][b.fin.kind.toNat]? = some z) (hz : (b.fin.to.length : Int) ≠ z) : badB n b = true := by
  have h2 : (goesK b.fin.kind != (b.fin.to.length : Int)) = true := bne_iff_ne.2 (by rw [goes_lit h0 h3 h]; omega)
  simp only [badB, h2]; rfl
theorem badB_t3 {k : Nat} {y : Int} (h : b.fin.to[k]? = some y) (hy : y ≤ 0 ∨ (n : Int) ≤ y) : badB n b = true := by
  have : b.fin.to.any (fun k => decide (k < 1) || decide ((n : Int) ≤ k)) = true := List.any_eq_true.2 ⟨y, List.mem_of_getElem? h, by
    simp only [Bool.or_eq_true, decide_eq_true_eq]; omega⟩
  simp only [badB, this, Bool.or_true]
theorem badB_f {z : Int} (h0 : 0 ≤ b.fin.kind) (h3 : b.fin.kind ≤ 3) (h : [(0 : Int), 1, 2, 0][b.fin.kind.toNat]? = some z) (hz : (b.fin.to.length : Int) = z) (ha : ∀ j, j < b.fin.to.length → ∀ y, b.fin.to[j]? = some y → 1 ≤ y ∧ y < (n : Int)) : badB n b = false := by
  have h2 : (goesK b.fin.kind != (b.fin.to.length : Int)) = false := by rw [goes_lit h0 h3 h, hz]; simp
  have h4 : b.fin.to.any (fun k => decide (k < 1) || decide ((n : Int) ≤ k)) = false := List.any_eq_false.2 fun y hy => by
    obtain ⟨j, hj⟩ := List.mem_iff_getElem?.1 hy
    have := ha j (List.getElem?_eq_some_iff.1 hj).1 y hj
    simp only [Bool.or_eq_true, decide_eq_true_eq]; omega
  simp only [badB, h2, h4, Bool.or_self]
theorem badB_rng (h : badB n b = false) : ∀ z ∈ b.fin.to, 1 ≤ z ∧ z < (n : Int) := by
  simp only [badB, Bool.or_eq_false_iff] at h
  intro z hz
  have := List.any_eq_false.1 h.2 z hz
  simp only [Bool.or_eq_true, decide_eq_true_eq] at this
  omega
end
theorem ofP_nil {f : FFun} (h : f.blocks.length = 0) : ofP f = none := by
  have hb : f.blocks = [] := List.eq_nil_of_length_eq_zero h
  simp only [ofP, hb]; rfl
theorem ofR_eq {f : FFun} (h0 : ¬ 64 < f.blocks.length) (h : ∀ j b, j < f.blocks.length → f.blocks[j]? = some b → badB f.blocks.length b = false) : ofP f = makeP (f.blocks.map fun b => onF b.fin.to f.blocks.length) := by
  rw [ofP_ok h0 h]
  congr 1
  refine List.map_congr_left fun b hb => ?_
  obtain ⟨j, hj⟩ := List.mem_iff_getElem?.1 hb
  exact (onF_eq (badB_rng (h j b (List.getElem?_eq_some_iff.1 hj).1 hj))).symm
theorem graphΦ_no {r : Option FGraph} {m : Imm} (h : r = none) : GraphΦ r m (.tuple #[.agg #[.slice none 0 0, .slice none 0 0], .int .i64 5]) := by
  rw [h]; exact ⟨_, rfl, none, 0, none, 0, rfl, Sl.nil _ _ _, Sl.nil _ _ _⟩
theorem may_mayG {g : FGraph} {m : Imm} {q : FGraph × Int} (h : graphQ (makeP g.succ) = q) (h0 : q.2 = 0) : (q.1.succ == g.succ && q.1.pred == g.pred) = mayG g := by
  have h1 := graphQ_zero h h0
  have h2 := makeP_some h1
  rw [mayG, h, h0, h2.2.1]; simp
theorem may_mayG0 {g : FGraph} (h : (graphQ (makeP g.succ)).2 ≠ 0) : mayG g = false := by
  have : ((graphQ (makeP g.succ)).2 == 0) = false := beq_eq_false_iff_ne.2 h
  rw [mayG, this]; rfl
theorem andG_f1 {p q : Bool} (h : p = false) : (p && q) = false := by rw [h]; rfl
theorem andG_f2 {p q : Bool} (h : q = false) : (p && q) = false := by rw [h]; simp
theorem andG_t {p q : Bool} (h : p = true) (h' : q = true) : (p && q) = true := by rw [h, h']; rfl
theorem lists_len {a b : List (List Int)} (h : ¬ (a.length : Int) = (b.length : Int)) : (a == b) = false := by
  rw [beq_eq_false_iff_ne]; rintro rfl; exact h rfl
theorem eq_get {a b : List (List Int)} {k : Nat} {y z : List Int} (h : a[k]? = some y) (h' : b[k]? = some z) (hc : y = z) : a[k]? = b[k]? := by
  rw [h, h', hc]
theorem lists_n {a b : List (List Int)} {k : Nat} {y z : List Int} (h : a[k]? = some y) (h' : b[k]? = some z) (hc : ¬ y = z) : (a == b) = false := lists_f h h' (beq_eq_false_iff_ne.2 hc)
section
variable {E : Int → Int → Prop} {root : Int}
theorem rch_refl : Rch E root root := RA.refl trivial
theorem dom_pre {P : Int → Prop} {b c : Int} (h : RA E P root c) (hd : Dom E root b c) : RA E P root b := by
  refine Classical.byContradiction fun hn => hd ?_
  have key : ∀ {x y : Int}, RA E P x y → x = root → RA E (· ≠ b) root y := by
    intro x y hr
    induction hr with
    | refl hp =>
      rintro rfl
      refine .refl fun e => hn ?_
      subst e; exact .refl hp
    | @step p c hr hE hp ih =>
      intro e
      subst e
      refine (ih rfl).step hE fun e => hn ?_
      subst e; exact hr.step hE hp
  exact key h rfl
theorem Dom.trans {a b c : Int} (h : Dom E root a b) (h' : Dom E root b c) : Dom E root a c := fun hr => h (dom_pre hr h')
theorem Dom.rch {a b : Int} (h : Dom E root a b) (hb : Rch E root b) : Rch E root a := dom_pre hb h
theorem dom_root {b : Int} : Dom E root root b := fun h => h.first rfl
theorem dom_at_root {w : Int} (h : Dom E root w root) : w = root := Classical.byContradiction fun hn => h (.refl fun e => hn e.symm)
theorem Dom.total {a b c : Int} (hb : Rch E root b) (h1 : Dom E root a b) (h2 : Dom E root c b) : Dom E root a c ∨ Dom E root c a := by
  refine Classical.byContradiction fun hn => ?_
  simp only [not_or, Dom, Classical.not_not] at hn
  obtain ⟨g1, g2⟩ := hn
  have key : ∀ {x y : Int}, RA E (fun _ => True) x y → x = root → RA E (· ≠ a) root y ∨ RA E (· ≠ c) root y := by
    intro x y hr
    induction hr with
    | refl _ => rintro rfl; exact .inl (.refl g1.first)
    | @step p z _ hE _ ih =>
      intro e
      rcases ih e with h | h
      · by_cases e1 : z = a
        · subst e1; exact .inr g2
        · exact .inl (h.step hE e1)
      · by_cases e1 : z = c
        · subst e1; exact .inl g1
        · exact .inr (h.step hE e1)
  rcases key hb rfl with h | h
  · exact h1 h
  · exact h2 h
theorem Dom.anti' {a b : Int} (hr : Rch E root a) (hab : Dom E root a b) (hba : Dom E root b a) : a = b := Dom.anti hr hab hba rfl
end
section
variable {g : FGraph} {root : Int}
theorem rch_rng (hg : GOk g) (hr0 : 0 ≤ root) (hrl : root < g.succ.length) {y : Int} (h : Rch (Ed g) root y) : 0 ≤ y ∧ y < g.succ.length := by
  have key : ∀ {x y : Int}, RA (Ed g) (fun _ => True) x y → x = root → 0 ≤ y ∧ y < g.succ.length := by
    intro x y hr
    induction hr with
    | refl _ => rintro rfl; exact ⟨hr0, hrl⟩
    | step _ hE _ _ => intro _; exact (hE.rng hg).2
  exact key h rfl
theorem chain_max {R : Int → Int → Prop} (ht : ∀ a b c, R a b → R b c → R a c) (hs : ∀ a, R a a) : ∀ (l : List Int), l ≠ [] → (∀ a ∈ l, ∀ b ∈ l, R a b ∨ R b a) → ∃ m ∈ l, ∀ c ∈ l, R c m
  | [], h, _ => absurd rfl h
  | [x], _, _ => ⟨x, by simp, fun c hc => by simp at hc; subst hc; exact hs c⟩
  | x :: y :: l, _, hT => by
    obtain ⟨m, hm, hmax⟩ := chain_max ht hs (y :: l) (by simp) (fun a ha b hb => hT a (by simp [ha]) b (by simp [hb]))
    rcases hT x (by simp) m (by simp [hm]) with h | h
    · exact ⟨m, by simp [hm], fun c hc => by
        rcases List.mem_cons.1 hc with rfl | hc
        · exact h
        · exact hmax c hc⟩
    · exact ⟨x, by simp, fun c hc => by
        rcases List.mem_cons.1 hc with rfl | hc
        · exact hs c
        · exact ht _ _ _ (hmax c hc) h⟩
def IsId (g : FGraph) (root a b : Int) : Prop := a ≠ b ∧ Dom (Ed g) root a b ∧ ∀ c, c ≠ b → Dom (Ed g) root c b → Dom (Ed g) root c a
theorem IsId.iff {a b : Int} (hb : Rch (Ed g) root b) (h : IsId g root a b) (w : Int) : Dom (Ed g) root w a ↔ Dom (Ed g) root w b ∧ w ≠ b := by
  constructor
  · intro hw
    refine ⟨hw.trans h.2.1, ?_⟩
    rintro rfl
    exact h.1 (Dom.anti' (h.2.1.rch hb) h.2.1 hw)
  · rintro ⟨h1, h2⟩; exact h.2.2 w h2 h1
theorem id_exists (hg : GOk g) (hr0 : 0 ≤ root) (hrl : root < g.succ.length) {b : Int} (hb : Rch (Ed g) root b) (hne : b ≠ root) : ∃ a, IsId g root a b := by
  classical
  let D := ((List.range g.succ.length).map fun (i : Nat) => (i : Int)).filter fun a => decide (a ≠ b ∧ Dom (Ed g) root a b)
  have hD : ∀ a, a ∈ D ↔ a ≠ b ∧ Dom (Ed g) root a b := fun a => by
    simp only [D, List.mem_filter, List.mem_map, List.mem_range, decide_eq_true_eq]
    constructor
    · exact fun h => h.2
    · intro h
      have := rch_rng hg hr0 hrl (h.2.rch hb)
      exact ⟨⟨a.toNat, by omega, by omega⟩, h⟩
  obtain ⟨m, hm, hmax⟩ := chain_max (R := Dom (Ed g) root) (fun a b c h1 h2 => h1.trans h2) (fun a => Dom.self) D (List.ne_nil_of_mem ((hD root).2 ⟨Ne.symm hne, dom_root⟩)) (fun a ha c hc => Dom.total hb ((hD a).1 ha).2 ((hD c).1 hc).2)
  have h1 := (hD m).1 hm
  exact ⟨m, h1.1, h1.2, fun c hc hd => hmax c ((hD c).2 ⟨hc, hd⟩)⟩
theorem domTree_of (hg : GOk g) (hr0 : 0 ≤ root) (hrl : root < g.succ.length) {t : List Int} (hl : t.length = g.succ.length) (h0 : atS t root = -1) (h1 : ∀ y : Int, 0 ≤ y → y < g.succ.length → ¬ Rch (Ed g) root y → atS t y = -2) (h2 : ∀ y : Int, 0 ≤ y → y < g.succ.length → Rch (Ed g) root y → y ≠ root → IsId g root (atS t y) y) : DomTree g root t :=
  ⟨hl, h0, h1, fun y hy0 hyl hr hne => by
    have h := h2 y hy0 hyl hr hne
    have hR := h.2.1.rch hr
    have := rch_rng hg hr0 hrl hR
    exact ⟨hR, this.1, this.2, h.iff hr⟩⟩
theorem domTree_exists (hg : GOk g) (hr0 : 0 ≤ root) (hrl : root < g.succ.length) : ∃ t, DomTree g root t := by
  classical
  let T := (List.range g.succ.length).map fun (i : Nat) => if (i : Int) = root then (-1 : Int) else if h : ∃ a, IsId g root a i ∧ Rch (Ed g) root i then h.choose else -2
  have hT : ∀ y : Int, 0 ≤ y → y < g.succ.length → atS T y = if y = root then (-1 : Int) else if h : ∃ a, IsId g root a y ∧ Rch (Ed g) root y then h.choose else -2 := fun y h0 hl => by
    have e : T[y.toNat]? = some (if ((y.toNat : Nat) : Int) = root then (-1 : Int) else if h : ∃ a, IsId g root a (y.toNat : Nat) ∧ Rch (Ed g) root (y.toNat : Nat) then h.choose else -2) := by
      simp only [T]; rw [List.getElem?_map, List.getElem?_range (by omega)]; rfl
    rw [atS_of e]
    have : ((y.toNat : Nat) : Int) = y := by omega
    simp only [this]
  refine ⟨T, domTree_of hg hr0 hrl (by simp [T]) (by rw [hT root hr0 hrl, if_pos rfl]) (fun y h0 hl hn => ?_) (fun y h0 hl hr hne => ?_)⟩
  · rw [hT y h0 hl, if_neg (fun e => hn (by rw [e]; exact rch_refl)), dif_neg (fun ⟨a, _, h⟩ => hn h)]
  · have he : ∃ a, IsId g root a y ∧ Rch (Ed g) root y := by
      obtain ⟨a, ha⟩ := id_exists hg hr0 hrl hr hne
      exact ⟨a, ha, hr⟩
    rw [hT y h0 hl, if_neg hne, dif_pos he]
    exact he.choose_spec.1
theorem domTree_treeP (hg : GOk g) (hr0 : 0 ≤ root) (hrl : root < g.succ.length) : DomTree g root (treeP g root) := by
  obtain ⟨t, ht⟩ := domTree_exists hg hr0 hrl
  rw [treeP_eq hr0 ht]; exact ht
open Classical in
noncomputable def dc (g : FGraph) (root a : Int) : Nat := (List.range g.succ.length).countP fun (i : Nat) => decide (Dom (Ed g) root i a)
theorem dc_le (g : FGraph) (root a : Int) : dc g root a ≤ g.succ.length := by
  have := List.countP_le_length (p := fun (i : Nat) => @decide (Dom (Ed g) root i a) (Classical.propDecidable _)) (l := List.range g.succ.length)
  simpa [dc] using this
theorem count_less {p q : Nat → Bool} {l : List Nat} {x : Nat} (hn : l.Nodup) (hx : x ∈ l) (hp : ∀ i ∈ l, p i = true ↔ q i = true ∧ i ≠ x) (hqx : q x = true) : l.countP q = l.countP p + 1 := by
  induction l with
  | nil => cases hx
  | cons a r ih =>
    rw [List.nodup_cons] at hn
    simp only [List.countP_cons]
    by_cases e : a = x
    · subst e
      have h1 : p a = false := by
        cases hpa : p a with
        | false => rfl
        | true => exact absurd rfl ((hp a (by simp)).1 hpa).2
      have h2 : r.countP p = r.countP q := List.countP_congr fun i hi => by
        rw [hp i (by simp [hi])]
        constructor
        · exact fun h => h.1
        · exact fun h => ⟨h, fun e => hn.1 (e ▸ hi)⟩
      rw [h1, hqx, h2]; simp
    · have h1 : x ∈ r := by
        rcases List.mem_cons.1 hx with h | h
        · exact absurd h.symm e
        · exact h
      have h2 := ih hn.2 h1 (fun i hi => hp i (by simp [hi]))
      have h3 : p a = q a := bool_ext (by rw [hp a (by simp)]; exact ⟨fun h => h.1, fun h => ⟨h, e⟩⟩)
      rw [h2, h3]; omega
theorem dc_root (hr0 : 0 ≤ root) (hrl : root < g.succ.length) : dc g root root = 1 := by
  have := count_less (p := fun _ => false) (q := fun (i : Nat) => @decide (Dom (Ed g) root i root) (Classical.propDecidable _)) (l := List.range g.succ.length) (x := root.toNat) List.nodup_range (List.mem_range.2 (by omega)) (fun i hi => by
    simp only [Bool.false_eq_true, false_iff, decide_eq_true_eq, not_and, Classical.not_not]
    intro h; have := dom_at_root h; omega) (by simp only [decide_eq_true_eq]; rw [Int.toNat_of_nonneg hr0]; exact Dom.self)
  simpa [dc] using this
end
section
variable {g : FGraph} {root : Int} {t : List Int}
theorem DomTree.dc_up (hg : GOk g) (hr0 : 0 ≤ root) (hrl : root < g.succ.length) (h : DomTree g root t) {y : Int} (hy : Rch (Ed g) root y) (hne : y ≠ root) : dc g root y = dc g root (atS t y) + 1 := by
  have hy' := rch_rng hg hr0 hrl hy
  obtain ⟨_, _, _, h4⟩ := h.up y hy'.1 hy'.2 hy hne
  refine count_less (x := y.toNat) List.nodup_range (List.mem_range.2 (by omega)) (fun i hi => ?_) ?_
  · simp only [decide_eq_true_eq]
    rw [h4]
    refine and_congr_right fun _ => ?_
    omega
  · simp only [decide_eq_true_eq]; rw [Int.toNat_of_nonneg hy'.1]; exact Dom.self
theorem DomTree.get (h : DomTree g root t) {y : Int} (h0 : 0 ≤ y) (hl : y < g.succ.length) : t[y.toNat]? = some (atS t y) := by
  have : y.toNat < t.length := by rw [h.len]; omega
  rw [List.getElem?_eq_getElem this, atS, List.getD_eq_getElem?_getD, List.getElem?_eq_getElem this]; rfl
theorem DomTree.depthF (hg : GOk g) (hr0 : 0 ≤ root) (hrl : root < g.succ.length) (h : DomTree g root t) : ∀ (f : Nat) (y : Int), Rch (Ed g) root y → dc g root y ≤ f → depthF t f 0 y = (dc g root y : Int) - 1
  | 0, y, hy, hf => by
    by_cases e : y = root
    · subst e; rw [dc_root hr0 hrl] at hf; omega
    · have := h.dc_up hg hr0 hrl hy e; omega
  | f + 1, y, hy, hf => by
    have hy' := rch_rng hg hr0 hrl hy
    have hget := h.get hy'.1 hy'.2
    by_cases e : y = root
    · subst e
      rw [h.top] at hget
      rw [depthF_top (by omega) (by rw [h.len]; omega) hget, dc_root hr0 hrl]; rfl
    · have hup := h.up y hy'.1 hy'.2 hy e
      have hd := h.dc_up hg hr0 hrl hy e
      have ih := h.depthF hg hr0 hrl f (atS t y) hup.1 (by omega)
      rw [depthF_up (by rw [h.len]; omega) hget (by omega), depthF_shift, ih, if_neg]
      · omega
      · have : 1 ≤ dc g root (atS t y) := by
          by_cases e2 : atS t y = root
          · rw [e2, dc_root hr0 hrl]; omega
          · have := h.dc_up hg hr0 hrl hup.1 e2; omega
        omega
theorem dc_pos (hg : GOk g) (hr0 : 0 ≤ root) (hrl : root < g.succ.length) (h : DomTree g root t) {y : Int} (hy : Rch (Ed g) root y) : 1 ≤ dc g root y := by
  by_cases e2 : y = root
  · rw [e2, dc_root hr0 hrl]; omega
  · have := h.dc_up hg hr0 hrl hy e2; omega
theorem DomTree.depth (hg : GOk g) (hr0 : 0 ≤ root) (hrl : root < g.succ.length) (h : DomTree g root t) {y : Int} (hy : Rch (Ed g) root y) : depthP t y = (dc g root y : Int) - 1 := by
  rw [depthP]; exact h.depthF hg hr0 hrl _ y hy (by rw [h.len]; exact dc_le g root y)
theorem DomTree.depth_iff (hg : GOk g) (hr0 : 0 ≤ root) (hrl : root < g.succ.length) (h : DomTree g root t) {y : Int} : 0 ≤ depthP t y ↔ Rch (Ed g) root y := by
  constructor
  · intro hd
    refine Classical.byContradiction fun hn => ?_
    have hin := depth_in hd
    rw [h.len] at hin
    have h2 := h.none y hin.1 hin.2 hn
    have hget := h.get hin.1 hin.2
    rw [h2] at hget
    have := depth_up hd hget (by omega)
    have := depth_in this.2
    omega
  · intro hy
    rw [h.depth hg hr0 hrl hy]
    have := dc_pos hg hr0 hrl h hy
    omega
theorem DomTree.val (hg : GOk g) (hr0 : 0 ≤ root) (hrl : root < g.succ.length) (h : DomTree g root t) {y : Int} (h0 : 0 ≤ y) (hl : y < g.succ.length) : (atS t y = -1 ↔ y = root) ∧ (atS t y = -2 ↔ ¬ Rch (Ed g) root y) := by
  by_cases e : y = root
  · subst e; rw [h.top]
    exact ⟨by simp, by constructor <;> intro hh; omega; exact absurd rch_refl hh⟩
  · by_cases hr : Rch (Ed g) root y
    · have := h.up y h0 hl hr e
      exact ⟨by constructor <;> intro hh; omega; exact absurd hh e, by constructor <;> intro hh; omega; exact absurd hr hh⟩
    · rw [h.none y h0 hl hr]
      exact ⟨by constructor <;> intro hh; omega; exact absurd hh e, by simp [hr]⟩
theorem DomTree.right (hg : GOk g) (hr0 : 0 ≤ root) (hrl : root < g.succ.length) (h : DomTree g root t) : rightT t = true := by
  have hone : topsK t t.length = 1 := by
    have e : (t.take t.length).filter (· == -1) = (t.filter (· == -1)) := by rw [List.take_length]
    rw [topsK, e]
    have : (t.filter (· == (-1 : Int))).length = t.countP (· == (-1 : Int)) := List.countP_eq_length_filter.symm
    rw [this]
    have e2 : t = (List.range g.succ.length).map fun (i : Nat) => atS t i := by
      refine List.ext_getElem? fun j => ?_
      by_cases hj : j < g.succ.length
      · rw [List.getElem?_map, List.getElem?_range hj]
        have := h.get (y := (j : Int)) (by omega) (by omega)
        simpa using this
      · rw [List.getElem?_eq_none (by rw [h.len]; omega), List.getElem?_eq_none (by simp; omega)]
    rw [e2, List.countP_map]
    have := count_less (p := fun _ => false) (q := (fun x : Int => x == -1) ∘ fun (i : Nat) => atS t i) (l := List.range g.succ.length) (x := root.toNat) List.nodup_range (List.mem_range.2 (by omega)) (fun i hi => by
      have hi' := List.mem_range.1 hi
      simp only [Bool.false_eq_true, false_iff, Function.comp, beq_iff_eq, not_and, Classical.not_not]
      intro hh; have := ((h.val hg hr0 hrl (y := (i : Int)) (by omega) (by omega)).1).1 hh; omega) (by
      simp only [Function.comp, beq_iff_eq]; rw [Int.toNat_of_nonneg hr0, h.top])
    rw [this]; simp
  rw [rightT, hone, range_all_true fun j hj => ?_]
  · rfl
  · rw [h.len] at hj
    have hget := h.get (y := (j : Int)) (by omega) (by omega)
    rw [Int.toNat_natCast] at hget
    rw [okT, getD_of hget]
    by_cases hr : Rch (Ed g) root (j : Int)
    · have := (h.depth_iff hg hr0 hrl).2 hr
      rw [decide_eq_false (by omega)]; simp
    · rw [h.none j (by omega) (by omega) hr]; simp
theorem DomTree.meetF (hg : GOk g) (hr0 : 0 ≤ root) (hrl : root < g.succ.length) (h : DomTree g root t) : ∀ (f : Nat) (a b : Int), Rch (Ed g) root a → Rch (Ed g) root b → dc g root a + dc g root b ≤ f + 2 → Rch (Ed g) root (meetF t f a b) ∧ ∀ w, Dom (Ed g) root w (meetF t f a b) ↔ Dom (Ed g) root w a ∧ Dom (Ed g) root w b := by
  have same : ∀ {a b : Int}, Rch (Ed g) root a → Dom (Ed g) root a b → a ≠ b → Rch (Ed g) root b → depthP t a < depthP t b := by
    intro a b ha hd hne hb
    rw [h.depth hg hr0 hrl ha, h.depth hg hr0 hrl hb]
    have : dc g root a < dc g root b := by
      have hbr : b ≠ root := by rintro rfl; exact hne (dom_at_root hd)
      rw [h.dc_up hg hr0 hrl hb hbr]
      have hb' := rch_rng hg hr0 hrl hb
      have hu := h.up b hb'.1 hb'.2 hb hbr
      have hda : Dom (Ed g) root a (atS t b) := (hu.2.2.2 a).2 ⟨hd, hne⟩
      have : dc g root a ≤ dc g root (atS t b) := List.countP_mono_left fun i _ hi => by
        simp only [decide_eq_true_eq] at hi ⊢
        exact hi.trans hda
      omega
    omega
  intro f
  induction f with
  | zero =>
    intro a b ha hb hf
    have h1 := dc_pos hg hr0 hrl h ha
    have h2 := dc_pos hg hr0 hrl h hb
    have ea : a = root := Classical.byContradiction fun e => by
      have := h.dc_up hg hr0 hrl ha e
      have ha' := rch_rng hg hr0 hrl ha
      have := dc_pos hg hr0 hrl h (h.up a ha'.1 ha'.2 ha e).1
      omega
    have eb : b = root := Classical.byContradiction fun e => by
      have := h.dc_up hg hr0 hrl hb e
      have hb' := rch_rng hg hr0 hrl hb
      have := dc_pos hg hr0 hrl h (h.up b hb'.1 hb'.2 hb e).1
      omega
    subst ea eb
    rw [meetF_eq]; exact ⟨ha, fun w => by simp⟩
  | succ f ih =>
    intro a b ha hb hf
    by_cases e : a = b
    · subst e; rw [meetF_eq]; exact ⟨ha, fun w => by simp⟩
    · have ha' := rch_rng hg hr0 hrl ha
      have hb' := rch_rng hg hr0 hrl hb
      by_cases hle : depthP t b ≤ depthP t a
      · have har : a ≠ root := by
          rintro rfl
          have h1 := h.depth hg hr0 hrl hb
          have h2 := h.depth hg hr0 hrl ha
          rw [dc_root hr0 hrl] at h2
          have h3 := h.dc_up hg hr0 hrl hb (Ne.symm e)
          have h4 := dc_pos hg hr0 hrl h (h.up b hb'.1 hb'.2 hb (Ne.symm e)).1
          omega
        have hu := h.up a ha'.1 ha'.2 ha har
        have hd := h.dc_up hg hr0 hrl ha har
        rw [meetF_a e hle (h.get ha'.1 ha'.2)]
        obtain ⟨i1, i2⟩ := ih (atS t a) b hu.1 hb (by omega)
        refine ⟨i1, fun w => ?_⟩
        rw [i2, hu.2.2.2]
        constructor
        · rintro ⟨⟨h1, _⟩, h2⟩; exact ⟨h1, h2⟩
        · rintro ⟨h1, h2⟩
          refine ⟨⟨h1, ?_⟩, h2⟩
          rintro rfl
          have := same ha h2 e hb
          omega
      · have hbr : b ≠ root := by
          rintro rfl
          have h1 := h.depth hg hr0 hrl hb
          have h2 := h.depth hg hr0 hrl ha
          rw [dc_root hr0 hrl] at h1
          have := dc_pos hg hr0 hrl h ha
          omega
        have hu := h.up b hb'.1 hb'.2 hb hbr
        have hd := h.dc_up hg hr0 hrl hb hbr
        rw [meetF_b e hle (h.get hb'.1 hb'.2)]
        obtain ⟨i1, i2⟩ := ih a (atS t b) ha hu.1 (by omega)
        refine ⟨i1, fun w => ?_⟩
        rw [i2, hu.2.2.2]
        constructor
        · rintro ⟨h1, h2, _⟩; exact ⟨h1, h2⟩
        · rintro ⟨h1, h2⟩
          refine ⟨h1, h2, ?_⟩
          rintro rfl
          have := same hb h1 (Ne.symm e) ha
          omega
theorem DomTree.over (hg : GOk g) (hr0 : 0 ≤ root) (hrl : root < g.succ.length) (h : DomTree g root t) {a b : Int} : overP t a b = true ↔ Rch (Ed g) root a ∧ Rch (Ed g) root b ∧ Dom (Ed g) root a b := by
  have hin : inT t [a, b] = true ↔ Rch (Ed g) root a ∧ Rch (Ed g) root b := by
    rw [inT, h.right hg hr0 hrl, ← h.depth_iff hg hr0 hrl, ← h.depth_iff hg hr0 hrl]
    simp
  by_cases hc : Rch (Ed g) root a ∧ Rch (Ed g) root b
  · have hi := hin.2 hc
    obtain ⟨ha, hb⟩ := hc
    have h1 := dc_pos hg hr0 hrl h ha
    have h2 := dc_pos hg hr0 hrl h hb
    obtain ⟨m1, m2⟩ := h.meetF hg hr0 hrl (meetN t a b) a b ha hb (by
      rw [meetN, h.depth hg hr0 hrl ha, h.depth hg hr0 hrl hb]; omega)
    rw [overP, hi, meetP, if_pos hi, Bool.true_and, beq_iff_eq]
    constructor
    · intro e; rw [e] at m2; exact ⟨ha, hb, ((m2 a).1 Dom.self).2⟩
    · rintro ⟨_, _, hd⟩
      exact Dom.anti' m1 ((m2 _).1 Dom.self).1 ((m2 a).2 ⟨Dom.self, hd⟩)
  · have : inT t [a, b] = false := by
      cases hi : inT t [a, b] with
      | false => rfl
      | true => exact absurd (hin.1 hi) hc
    rw [overP, this]
    constructor
    · intro hh; cases hh
    · rintro ⟨ha, hb, _⟩; exact absurd ⟨ha, hb⟩ hc
end
noncomputable def overB (g : FGraph) (root a : Int) : List Bool := (List.range g.succ.length).map fun (b : Nat) => (reachP g root (-1)).getD b false && !((reachP g root a).getD b false)
def Ov (g : FGraph) (root a b : Int) : Prop := Rch (Ed g) root b ∧ Dom (Ed g) root a b
theorem getDb_of {l : List Bool} {k : Nat} {z d : Bool} (h : l[k]? = some z) : l.getD k d = z := by simp [List.getD, h]
section
variable {g : FGraph} {root : Int}
theorem reach_rch (hg : GOk g) (hr0 : 0 ≤ root) (hrl : root < g.succ.length) {i : Int} : RA (Ed g) (· ≠ -1) root i ↔ Rch (Ed g) root i := by
  constructor
  · intro h; exact h.mono fun _ _ => trivial
  · intro h
    have key : ∀ {x y : Int}, RA (Ed g) (fun _ => True) x y → x = root → RA (Ed g) (· ≠ -1) root y := by
      intro x y hr
      induction hr with
      | refl _ => rintro rfl; exact .refl (by omega)
      | step _ hE _ ih => intro e; exact (ih e).step hE (by have := (hE.rng hg).2; omega)
    exact key h rfl
theorem overB_len {a : Int} : (overB g root a).length = g.succ.length := by simp [overB]
theorem overB_get {a : Int} {b : Nat} (hb : b < g.succ.length) : (overB g root a)[b]? = some ((reachP g root (-1)).getD b false && !((reachP g root a).getD b false)) := by
  rw [overB, List.getElem?_map, List.getElem?_range hb]; rfl
theorem reachP_d {w : Int} {b : Nat} (hb : b < g.succ.length) : (reachP g root w).getD b false = true ↔ RA (Ed g) (· ≠ w) root b := by
  rw [← reachP_at hb]
  have : b < (reachP g root w).length := by rw [reachP_len]; exact hb
  rw [List.getD_eq_getElem?_getD, List.getElem?_eq_getElem this]; simp
theorem overB_at (hg : GOk g) (hr0 : 0 ≤ root) (hrl : root < g.succ.length) {a : Int} {b : Nat} {q : Bool} (h : (overB g root a)[b]? = some q) : q = true ↔ Ov g root a b := by
  have hb : b < g.succ.length := by have := (List.getElem?_eq_some_iff.1 h).1; rwa [overB_len] at this
  rw [overB_get hb] at h
  obtain rfl := Option.some.inj h
  rw [Bool.and_eq_true, Bool.not_eq_true', reachP_d hb, reach_rch hg hr0 hrl, Ov, Dom]
  refine and_congr_right fun _ => ?_
  rw [← Bool.not_eq_true, reachP_d hb]
theorem ovB_f {a : Int} {k : Nat} (h : (reachP g root (-1))[k]? = some false) : (overB g root a)[k]? = some false := by
  have hk : k < g.succ.length := by have := (List.getElem?_eq_some_iff.1 h).1; rwa [reachP_len] at this
  rw [overB_get hk, getDb_of h]; rfl
theorem ovB_t {a : Int} {k : Nat} {z : Bool} (h : (reachP g root (-1))[k]? = some true) (h' : (reachP g root a)[k]? = some z) : (overB g root a)[k]? = some (!z) := by
  have hk : k < g.succ.length := by have := (List.getElem?_eq_some_iff.1 h).1; rwa [reachP_len] at this
  rw [overB_get hk, getDb_of h, getDb_of h']; rfl
end
structure RowSt (L : List Bool) (x : List Value) (k : Nat) : Prop where
  len : x.length = L.length
  at_ : ∀ j, j < k → x[j]? = (L.map Value.bool)[j]?
theorem rowSt_init (L : List Bool) {n : Nat} (h : n = L.length) : RowSt L (List.replicate n (.bool false)) 0 := ⟨by simp [h], fun j hj => absurd hj (by omega)⟩
theorem RowSt.put {L : List Bool} {x : List Value} {k : Nat} {q : Bool} (h : RowSt L x k) (hq : L[k]? = some q) : RowSt L (x.set k (.bool q)) (k + 1) := by
  refine ⟨by simp [h.len], fun j hj => ?_⟩
  by_cases e : k = j
  · subst e
    rw [List.getElem?_set_self (by rw [h.len]; exact (List.getElem?_eq_some_iff.1 hq).1), List.getElem?_map, hq]; rfl
  · rw [List.getElem?_set_ne e]; exact h.at_ j (by omega)
theorem RowSt.done {L : List Bool} {x : List Value} (h : RowSt L x L.length) : x = L.map Value.bool := by
  refine List.ext_getElem? fun j => ?_
  by_cases hj : j < L.length
  · exact h.at_ j hj
  · rw [List.getElem?_eq_none (by rw [h.len]; omega), List.getElem?_eq_none (by rw [List.length_map]; omega)]
noncomputable def ovP (g : FGraph) (root : Int) : List (List Bool) := (List.range g.succ.length).map fun (a : Nat) => overB g root (a : Int)
def OvSt (g : FGraph) (root : Int) (m : Imm) (x : List Value) (k : Nat) : Prop := x.length = g.succ.length ∧ ∀ j, j < k → ∀ y, x[j]? = some y → ∃ A c, y = .slice A g.succ.length c ∧ Sl rB 1 m A c (overB g root (j : Int))
section
variable {g : FGraph} {root : Int} {m m' : Imm} {x : List Value} {k : Nat}
theorem OvSt.mono (h : OvSt g root m x k) (hm : m.le m') : OvSt g root m' x k := ⟨h.1, fun j hj y hy => by
  obtain ⟨A, c, h1, h2⟩ := h.2 j hj y hy
  exact ⟨A, c, h1, h2.mono rB_mono hm⟩⟩
theorem OvSt.put (h : OvSt g root m x k) (hk : k < g.succ.length) {A : Option Addr} {c : Nat} (hs : Sl rB 1 m A c (overB g root (k : Int))) : OvSt g root m (x.set k (.slice A g.succ.length c)) (k + 1) := by
  refine ⟨by simp [h.1], fun j hj y hy => ?_⟩
  by_cases e : k = j
  · subst e
    rw [List.getElem?_set_self (by rw [h.1]; exact hk)] at hy
    cases hy; exact ⟨A, c, rfl, hs⟩
  · rw [List.getElem?_set_ne e] at hy; exact h.2 j (by omega) y hy
theorem ovSt_init (v : Value) : OvSt g root m (List.replicate g.succ.length v) 0 := ⟨by simp, fun j hj => absurd hj (by omega)⟩
theorem ovP_get {a : Nat} {z : List Bool} (h : (ovP g root)[a]? = some z) : z = overB g root (a : Int) := by
  have ha : a < g.succ.length := by have := (List.getElem?_eq_some_iff.1 h).1; simpa [ovP] using this
  rw [ovP, List.getElem?_map, List.getElem?_range ha] at h
  exact (Option.some.inj h).symm
theorem ovP_row {a : Nat} {z : List Bool} (h : (ovP g root)[a]? = some z) : z.length = g.succ.length := by rw [ovP_get h, overB_len]
theorem ovP_len : (ovP g root).length = g.succ.length := by simp [ovP]
theorem OvSt.sl (h : OvSt g root m x g.succ.length) {b cap : Nat} (hf : Frz (some b) x m) (h1 : g.succ.length ≤ cap) (h2 : cap ≤ maxLen) (hlen : g.succ.length ≤ 140737488355328) : Sl (rS rB 1) 1 m (some ⟨b, 0, none⟩) cap (ovP g root) :=
  Sl_frz (gg := some b) hf (by rw [ovP_len]; exact h1) h2 (by rw [ovP_len]; exact hlen) (fun _ => ⟨b, rfl⟩) fun j z hj => by
    have hjn : j < g.succ.length := by have := (List.getElem?_eq_some_iff.1 hj).1; rwa [ovP_len] at this
    obtain ⟨y, hy⟩ : ∃ y, x[j]? = some y := ⟨_, List.getElem?_eq_getElem (by rw [h.1]; exact hjn)⟩
    obtain ⟨A, c, rfl, hs⟩ := h.2 j hjn y hy
    rw [← ovP_get hj] at hs
    refine ⟨[.slice A z.length c], rfl, ⟨A, c, rfl, hs⟩, fun k v hk => ?_⟩
    rcases k with _ | k
    · simp only [List.getElem?_cons_zero, Option.some.injEq] at hk
      subst hk
      rw [ovP_row hj]; simpa using hy
    · simp at hk
theorem ov_at (hg : GOk g) (hr0 : 0 ≤ root) (hrl : root < g.succ.length) {a b : Nat} {z : List Bool} {q : Bool} (h : (ovP g root)[a]? = some z) (h' : z[b]? = some q) : q = true ↔ Ov g root a b := by
  rw [ovP_get h] at h'
  exact overB_at hg hr0 hrl h'
end
def OutOK (g : FGraph) (root y v : Int) : Prop := (y = root → v = -1) ∧ (¬ Rch (Ed g) root y → v = -2) ∧ (Rch (Ed g) root y → y ≠ root → IsId g root v y)
def Cand (g : FGraph) (root a b : Int) : Prop := Rch (Ed g) root b ∧ IsId g root a b
structure OutSt (g : FGraph) (root : Int) (l : List Int) (k : Nat) : Prop where
  len : l.length = g.succ.length
  ok : ∀ j, j < k → ∀ v, l[j]? = some v → OutOK g root j v
  i64 : ∀ z ∈ l, I64 z
structure SearchSt (g : FGraph) (root : Int) (l : List Int) (b a : Nat) : Prop where
  out : OutSt g root l b
  cur : ∃ v, l[b]? = some v ∧ ((b : Int) = root → v = -1) ∧ ((b : Int) ≠ root → (v = -2 ∧ ∀ j, j < a → ¬ Cand g root (j : Int) (b : Int)) ∨ Cand g root v b)
def Near (g : FGraph) (root a b c : Int) : Prop := c = b ∨ ¬ Ov g root c b ∨ Ov g root c a
section
variable {g : FGraph} {root : Int} {l : List Int} {b a : Nat}
theorem outSt_init (h : g.succ.length ≤ 64) : OutSt g root (List.replicate g.succ.length 0) 0 := ⟨by simp, fun j hj => absurd hj (by omega), fun z hz => by
  have := List.eq_of_mem_replicate hz; exact ⟨by omega, by omega⟩⟩
theorem OutSt.set (h : OutSt g root l b) {v : Int} (hv : I64 v) : OutSt g root (l.set b v) b := by
  refine ⟨by simp [h.len], fun j hj v hv => ?_, fun z hz => ?_⟩
  · rw [List.getElem?_set_ne (by omega)] at hv; exact h.ok j hj v hv
  · rcases List.mem_or_eq_of_mem_set hz with hz | rfl
    · exact h.i64 z hz
    · exact hv
theorem searchSt_root (h : OutSt g root l b) (hb : b < g.succ.length) (e : (b : Int) = root) : SearchSt g root ((l.set b (-2)).set b (-1)) b 0 :=
  ⟨(h.set ⟨by omega, by omega⟩).set ⟨by omega, by omega⟩, -1, List.getElem?_set_self (by simp [h.len]; omega), fun _ => rfl, fun hn => absurd e hn⟩
theorem searchSt_ne (h : OutSt g root l b) (hb : b < g.succ.length) (e : ¬ (b : Int) = root) : SearchSt g root (l.set b (-2)) b 0 :=
  ⟨h.set ⟨by omega, by omega⟩, -2, List.getElem?_set_self (by rw [h.len]; omega), fun hn => absurd hn e, fun _ => .inl ⟨rfl, fun j hj => absurd hj (by omega)⟩⟩
theorem SearchSt.skip (h : SearchSt g root l b a) (hn : ¬ Cand g root (a : Int) (b : Int)) : SearchSt g root l b (a + 1) := by
  obtain ⟨v, h1, h2, h3⟩ := h.cur
  refine ⟨h.out, v, h1, h2, fun hb => ?_⟩
  rcases h3 hb with ⟨h4, h5⟩ | h4
  · refine .inl ⟨h4, fun j hj => ?_⟩
    by_cases e : j = a
    · subst e; exact hn
    · exact h5 j (by omega)
  · exact .inr h4
theorem SearchSt.hit (h : SearchSt g root l b a) (hb : b < g.succ.length) (ha : a < g.succ.length) (hl : g.succ.length ≤ 64) (e : ¬ (b : Int) = root) (hc : Cand g root (a : Int) (b : Int)) : SearchSt g root (l.set b (a : Int)) b (a + 1) :=
  ⟨h.out.set ⟨by omega, by omega⟩, a, List.getElem?_set_self (by rw [h.out.len]; omega), fun hn => absurd hn e, fun _ => .inr hc⟩
theorem SearchSt.done (hg : GOk g) (hr0 : 0 ≤ root) (hrl : root < g.succ.length) (h : SearchSt g root l b a) (hd : g.succ.length ≤ a ∨ (b : Int) = root) : OutSt g root l (b + 1) := by
  refine ⟨h.out.len, fun j hj v hv => ?_, h.out.i64⟩
  by_cases e : j = b
  · subst e
    obtain ⟨u, h1, h2, h3⟩ := h.cur
    rw [hv] at h1
    obtain rfl := Option.some.inj h1
    by_cases er : (j : Int) = root
    · exact ⟨fun _ => h2 er, fun hn => absurd (er ▸ rch_refl) hn, fun _ hn => absurd er hn⟩
    · refine ⟨fun hn => absurd hn er, fun hn => ?_, fun hr _ => ?_⟩
      · rcases h3 er with ⟨h4, _⟩ | h4
        · exact h4
        · exact absurd h4.1 hn
      · rcases h3 er with ⟨_, h5⟩ | h4
        · obtain ⟨m, hm⟩ := id_exists hg hr0 hrl hr er
          have hmr := rch_rng hg hr0 hrl (hm.2.1.rch hr)
          have := h5 m.toNat (by rcases hd with hd | hd <;> omega)
          rw [Int.toNat_of_nonneg hmr.1] at this
          exact absurd ⟨hr, hm⟩ this
        · exact h4.2
  · exact h.out.ok j (by omega) v hv
theorem OutSt.tree (hg : GOk g) (hr0 : 0 ≤ root) (hrl : root < g.succ.length) (h : OutSt g root l g.succ.length) : l = treeP g root := by
  have hget : ∀ y : Int, 0 ≤ y → y < g.succ.length → OutOK g root y (atS l y) := fun y h0 hl => by
    have : y.toNat < l.length := by rw [h.len]; omega
    have e := List.getElem?_eq_getElem this
    have := h.ok y.toNat (by omega) _ e
    rw [atS_of e]
    rwa [Int.toNat_of_nonneg h0] at this
  refine (treeP_eq hr0 (domTree_of hg hr0 hrl h.len ?_ (fun y h0 hl hn => (hget y h0 hl).2.1 hn) (fun y h0 hl hr hne => (hget y h0 hl).2.2 hr hne))).symm
  exact (hget root hr0 hrl).1 rfl
theorem cand_of (hg : GOk g) (hr0 : 0 ≤ root) (hrl : root < g.succ.length) (hne : ¬ (a : Int) = (b : Int)) (ho : Ov g root a b) (hn : ∀ c, c < g.succ.length → Near g root a b (c : Int)) : Cand g root (a : Int) (b : Int) := by
  refine ⟨ho.1, hne, ho.2, fun c hc hd => ?_⟩
  have hcr := rch_rng hg hr0 hrl (hd.rch ho.1)
  have := hn c.toNat (by omega)
  rw [Int.toNat_of_nonneg hcr.1] at this
  rcases this with h | h | h
  · exact absurd h hc
  · exact absurd ⟨ho.1, hd⟩ h
  · exact h.2
theorem near_of (hc : Cand g root (a : Int) (b : Int)) (c : Int) : Near g root a b c := by
  by_cases e : c = b
  · exact .inl e
  · by_cases ho : Ov g root c b
    · exact .inr (.inr ⟨hc.2.2.1.rch hc.1, hc.2.2.2 c e ho.2⟩)
    · exact .inr (.inl ho)
theorem cand_ne (hc : Cand g root (a : Int) (b : Int)) : ¬ (a : Int) = (b : Int) := hc.2.1
theorem cand_ov (hc : Cand g root (a : Int) (b : Int)) : Ov g root a b := ⟨hc.1, hc.2.2.1⟩
end
section
variable {N : Nat → Prop} {x y : Bool} {k : Nat}
theorem near_f (h : x = true ↔ ∀ c, c < k → N c) (hx : x = false) : false = true ↔ ∀ c, c < k + 1 → N c := by
  subst hx
  constructor
  · intro hh; cases hh
  · intro hh; exact h.2 fun c hc => hh c (by omega)
theorem near_v (h : x = true ↔ ∀ c, c < k → N c) (hx : x = true) (hv : y = true ↔ N k) : y = true ↔ ∀ c, c < k + 1 → N c := by
  constructor
  · intro hy c hc
    by_cases e : c = k
    · subst e; exact hv.1 hy
    · exact h.1 hx c (by omega)
  · intro hh; exact hv.2 (hh k (by omega))
theorem near_t (h : x = true ↔ ∀ c, c < k → N c) (hx : x = true) (hv : N k) : true = true ↔ ∀ c, c < k + 1 → N c := near_v h hx (by simp [hv])
end
def pathF (t : List Int) : Nat → Int → Option (List Int)
  | 0, _ => none
  | f + 1, a => if a < 0 ∨ (t.length : Int) ≤ a then none else if t.getD a.toNat 0 = -1 then some [a] else (pathF t f (t.getD a.toNat 0)).map (a :: ·)
def pathR (t : List Int) (a : Int) : List Int := (pathF t t.length a).getD []
def okPt (t : List Int) (j : Nat) : Bool := !(!(t.getD j 0 == -2) && decide ((pathR t (j : Int)).length = 0))
def rightR (t : List Int) : Bool := (List.range t.length).all (okPt t) && topsK t t.length == 1
def meetR (t : List Int) (a b : Int) : Int := if rightR t then ((pathR t a).find? fun p => (pathR t b).contains p).getD (-2) else -2
section
variable {t : List Int} {a z : Int} {f : Nat}
theorem pathF_out (h : a < 0 ∨ (t.length : Int) ≤ a) : pathF t f a = none := by
  cases f with
  | zero => rfl
  | succ f => rw [pathF, if_pos h]
theorem pathF_top (hf : 0 < f) (h0 : 0 ≤ a) (hl : a < (t.length : Int)) (hz : t[a.toNat]? = some (-1)) : pathF t f a = some [a] := by
  obtain ⟨q, rfl⟩ : ∃ q, f = q + 1 := ⟨f - 1, by omega⟩
  rw [pathF, if_neg (by omega), getD_of hz, if_pos rfl]
theorem pathF_up (h0 : 0 ≤ a) (hl : a < (t.length : Int)) (hz : t[a.toNat]? = some z) (hne : z ≠ -1) : pathF t (f + 1) a = (pathF t f z).map (a :: ·) := by
  rw [pathF, if_neg (by omega), getD_of hz, if_neg hne]
structure PathSt (t : List Int) (a0 : Int) (k : Nat) (out : List Int) (a : Int) : Prop where
  len : out.length = k
  eq : pathF t t.length a0 = (pathF t (t.length - k) a).map (out ++ ·)
  rng : ∀ z ∈ out, 0 ≤ z ∧ z < (t.length : Int)
theorem pathSt_init (t : List Int) (a0 : Int) : PathSt t a0 0 [] a0 := ⟨rfl, by cases h : pathF t t.length a0 <;> simp [h], by simp⟩
theorem PathSt.step {a0 : Int} {k : Nat} {out : List Int} (h : PathSt t a0 k out a) (hk : k < t.length) (h0 : 0 ≤ a) (hl : a < (t.length : Int)) (hz : t[a.toNat]? = some z) (hne : z ≠ -1) : PathSt t a0 (k + 1) (out ++ [a]) z := by
  refine ⟨by simp [h.len], ?_, fun y hy => ?_⟩
  · rw [h.eq, show t.length - k = (t.length - (k + 1)) + 1 by omega, pathF_up h0 hl hz hne, Option.map_map]
    congr 1
    funext l; simp
  · rcases List.mem_append.1 hy with hy | hy
    · exact h.rng y hy
    · simp at hy; subst hy; exact ⟨h0, hl⟩
theorem PathSt.top {a0 : Int} {k : Nat} {out : List Int} (h : PathSt t a0 k out a) (hk : k < t.length) (h0 : 0 ≤ a) (hl : a < (t.length : Int)) (hz : t[a.toNat]? = some (-1)) : pathR t a0 = out ++ [a] := by
  rw [pathR, h.eq, pathF_top (by omega) h0 hl hz]; rfl
theorem PathSt.out {a0 : Int} {k : Nat} {out : List Int} (h : PathSt t a0 k out a) (hk : t.length ≤ k ∨ a < 0 ∨ (t.length : Int) ≤ a) : pathR t a0 = [] := by
  rw [pathR, h.eq]
  rcases hk with hk | hk
  · rw [show t.length - k = 0 by omega]; rfl
  · rw [pathF_out hk]; rfl
end
section
variable {g : FGraph} {root : Int} {t : List Int}
theorem DomTree.path (hg : GOk g) (hr0 : 0 ≤ root) (hrl : root < g.succ.length) (h : DomTree g root t) : ∀ (f : Nat) (y : Int), Rch (Ed g) root y → dc g root y ≤ f → ∃ l, pathF t f y = some (y :: l) ∧ ∀ w, w ∈ (y :: l) ↔ Dom (Ed g) root w y
  | 0, y, hy, hf => by have := dc_pos hg hr0 hrl h hy; omega
  | f + 1, y, hy, hf => by
    have hy' := rch_rng hg hr0 hrl hy
    have hget := h.get hy'.1 hy'.2
    by_cases e : y = root
    · subst e
      rw [h.top] at hget
      refine ⟨[], pathF_top (by omega) hy'.1 (by rw [h.len]; exact hy'.2) hget, fun w => ?_⟩
      simp only [List.mem_singleton]
      exact ⟨fun e => e ▸ Dom.self, dom_at_root⟩
    · have hu := h.up y hy'.1 hy'.2 hy e
      have hd := h.dc_up hg hr0 hrl hy e
      obtain ⟨l, h1, h2⟩ := h.path hg hr0 hrl f (atS t y) hu.1 (by omega)
      refine ⟨atS t y :: l, by rw [pathF_up hy'.1 (by rw [h.len]; exact hy'.2) hget (by omega), h1]; rfl, fun w => ?_⟩
      rw [List.mem_cons, h2, hu.2.2.2]
      constructor
      · rintro (rfl | h3)
        · exact Dom.self
        · exact h3.1
      · intro hw
        by_cases e2 : w = y
        · exact .inl e2
        · exact .inr ⟨hw, e2⟩
theorem DomTree.pathR (hg : GOk g) (hr0 : 0 ≤ root) (hrl : root < g.succ.length) (h : DomTree g root t) {y : Int} (hy : Rch (Ed g) root y) : ∃ l, Proofs.YtipmgkhjoekaaaaGreat.pathR t y = y :: l ∧ ∀ w, w ∈ Proofs.YtipmgkhjoekaaaaGreat.pathR t y ↔ Dom (Ed g) root w y := by
  obtain ⟨l, h1, h2⟩ := h.path hg hr0 hrl t.length y hy (by rw [h.len]; exact dc_le g root y)
  have e : Proofs.YtipmgkhjoekaaaaGreat.pathR t y = y :: l := by rw [Proofs.YtipmgkhjoekaaaaGreat.pathR, h1]; rfl
  exact ⟨l, e, fun w => by rw [e]; exact h2 w⟩
theorem DomTree.rightR (hg : GOk g) (hr0 : 0 ≤ root) (hrl : root < g.succ.length) (h : DomTree g root t) : Proofs.YtipmgkhjoekaaaaGreat.rightR t = true := by
  have hT := h.right hg hr0 hrl
  rw [rightT, Bool.and_eq_true] at hT
  rw [Proofs.YtipmgkhjoekaaaaGreat.rightR, hT.2, range_all_true fun j hj => ?_]
  · rfl
  · rw [h.len] at hj
    have hget := h.get (y := (j : Int)) (by omega) (by omega)
    rw [Int.toNat_natCast] at hget
    rw [okPt, getD_of hget]
    by_cases hr : Rch (Ed g) root (j : Int)
    · obtain ⟨l, e, _⟩ := h.pathR hg hr0 hrl hr
      rw [e]; simp
    · rw [h.none j (by omega) (by omega) hr]; simp
theorem DomTree.meetR (hg : GOk g) (hr0 : 0 ≤ root) (hrl : root < g.succ.length) (h : DomTree g root t) {a b : Int} (ha : Rch (Ed g) root a) (hb : Rch (Ed g) root b) : Proofs.YtipmgkhjoekaaaaGreat.meetR t a b = a ↔ Dom (Ed g) root a b := by
  obtain ⟨l, ea, ma⟩ := h.pathR hg hr0 hrl ha
  obtain ⟨l', eb, mb⟩ := h.pathR hg hr0 hrl hb
  have ha' := rch_rng hg hr0 hrl ha
  rw [Proofs.YtipmgkhjoekaaaaGreat.meetR, if_pos (h.rightR hg hr0 hrl)]
  constructor
  · intro hm
    cases hf : (Proofs.YtipmgkhjoekaaaaGreat.pathR t a).find? fun p => (Proofs.YtipmgkhjoekaaaaGreat.pathR t b).contains p with
    | none => rw [hf] at hm; simp at hm; omega
    | some p =>
      rw [hf] at hm
      simp at hm
      subst hm
      have := List.find?_some hf
      exact (mb _).1 (by simpa using this)
  · intro hd
    have : (Proofs.YtipmgkhjoekaaaaGreat.pathR t b).contains a = true := by simpa using (mb a).2 hd
    rw [ea, List.find?_cons, this]; rfl
end
end Go.Proofs.YtipmgkhjoekaaaaGreat
namespace Go.Proofs.YtipmgkhjoekaaaaGreat.Fw
open Go
abbrev GRow := Option Nat × Nat × Nat × List Value
structure RSt {α : Type _} (r : Rep α) (sz : Nat) (m : Imm) (x : GRow) (l : List α) : Prop where
  rows : SRows r sz m x.2.2.2 l
  n : x.2.1 = l.length
  some_ : 0 < l.length → ∃ b, x.1 = some b
section
variable {α : Type _} {r : Rep α} {sz : Nat} {m m' : Imm} {x : GRow} {l l' : List α}
theorem RSt.nil : RSt r sz m (none, 0, 0, []) [] := ⟨SRows.nil, rfl, by simp⟩
theorem RSt.up (h : RSt r sz m x l) (hr : Mono r) (hm : m.le m') : RSt r sz m' x l := ⟨h.rows.mono hr hm, h.n, h.some_⟩
theorem RSt.snoc (h : RSt r sz m x l) {g : Option Nat} {c n : Nat} {es : List Value} {z : α} (hz : r m es z) (hg : 0 < n → ∃ b, g = some b) (hn : n = x.2.1 + 1) (hes : es.length = sz := by rfl) : RSt r sz m (g, n, c, x.2.2.2 ++ es) (l ++ [z]) :=
  ⟨h.rows.snoc hes hz, by rw [List.length_append, ← h.n]; exact hn, fun _ => hg (by omega)⟩
theorem RSt.to (h : RSt r sz m x l) (e : l = l') : RSt r sz m x l' := e ▸ h
theorem RSt.sl (h : RSt r sz m x l) (hf : Frz x.1 x.2.2.2 m) {cap : Nat} (h1 : x.2.1 ≤ cap) (h2 : cap ≤ maxLen) (hlen : l.length ≤ 140737488355328) : Sl r sz m (rowA x.1) cap l :=
  h.rows.sl hf (by rw [← h.n]; exact h1) h2 hlen h.some_
end
end Go.Proofs.YtipmgkhjoekaaaaGreat.Fw
namespace Go.Proofs.YtipmgkhjoekaaaaGreat
open Go Go.Proofs.YtipmgkhjoekaaaaGreat.Fw
def rDef : Rep (Int × Def) := fun _ es d => es = [.int .i64 d.1, .int .i64 d.2.1, .int .i64 d.2.2.1, .int .i64 d.2.2.2.1, .int .i64 d.2.2.2.2] ∧ I64 d.1 ∧ I64 d.2.1 ∧ I64 d.2.2.1 ∧ I64 d.2.2.2.1 ∧ I64 d.2.2.2.2
theorem rDef_mono : Mono rDef := fun _ _ _ _ _ h => h
def rUse : Rep Use := fun _ es u => es = [.int .i64 u.1, .int .i64 u.2.2.1, .int .i64 u.2.2.2, .int .i64 u.2.1.1, .int .i64 u.2.1.2] ∧ I64 u.1 ∧ I64 u.2.2.1 ∧ I64 u.2.2.2 ∧ I64 u.2.1.1 ∧ I64 u.2.1.2
theorem rUse_mono : Mono rUse := fun _ _ _ _ _ h => h
theorem Fw.RSt.mono {α : Type _} {r : Rep α} {sz : Nat} {m m' : Imm} {x : GRow} {l : List α} (h : RSt r sz m x l) (hm : m.le m') (hr : Mono r := by first | exact rUse_mono | exact rDef_mono | exact rOp_mono | exact rPhi_mono | exact rBlock_mono) : RSt r sz m' x l := h.up hr hm
theorem flat_len {α β : Type _} {F : α → List β} {w : α → Nat} : ∀ {l : List α}, (∀ x ∈ l, (F x).length ≤ w x) → (l.flatMap F).length ≤ (l.map w).sum
  | [], _ => by simp
  | x :: r, h => by
    have h1 := h x (by simp)
    have h2 := flat_len (l := r) fun y hy => h y (by simp [hy])
    simp only [List.flatMap_cons, List.length_append, List.map_cons, List.sum_cons]; omega
theorem flat_at {α β : Type _} {F : α → List β} {l : List α} {k : Nat} {z : α} (h : l[k]? = some z) : ((l.take k).flatMap F).length + (F z).length ≤ (l.flatMap F).length := by
  rw [flatD_split (F := F) h]; simp only [List.length_append]; omega
theorem flat_le {α β : Type _} {F : α → List β} (l : List α) (k : Nat) : ((l.take k).flatMap F).length ≤ (l.flatMap F).length := by
  conv => rhs; rw [← List.take_append_drop k l, List.flatMap_append, List.length_append]
  omega
theorem sum_const {α : Type _} (l : List α) (c : Nat) : (l.map fun _ => c).sum = l.length * c := by induction l with | nil => simp | cons x r ih => simp only [List.map_cons, List.sum_cons, ih, List.length_cons]; rw [Nat.add_mul]; omega
def wB (b : FBlk) : Nat := b.phis.length + b.ops.length
theorem wB_sum : ∀ l : List FBlk, (((l.map wB).sum : Nat) : Int) = (l.map fun b => ((b.phis.length : Int) + (b.ops.length : Int))).sum
  | [] => rfl
  | b :: r => by simp only [List.map_cons, List.sum_cons, ← wB_sum r, wB]; omega
theorem zip_sum {α : Type _} {w : α → Nat} (l : List α) : (l.zipIdx.map fun x => w x.1).sum = (l.map w).sum := by
  have : l.zipIdx.map (fun x => w x.1) = (l.zipIdx.map Prod.fst).map w := by rw [List.map_map]; rfl
  rw [this, List.zipIdx_map_fst]
theorem may_sums {f : FFun} (h : mayF f = true) : f.params.length ≤ 16 ∧ f.blocks.length ≤ 64 ∧ (f.blocks.map wB).sum + f.blocks.length ≤ 512 := by
  simp only [mayF, Bool.and_eq_true, Bool.not_eq_true', Bool.or_eq_false_iff, decide_eq_false_iff_not] at h
  obtain ⟨⟨⟨⟨⟨h1, h2⟩, h4⟩, h5⟩, h6⟩, h3⟩ := h
  have := wB_sum f.blocks
  simp only [sizeF] at h4
  omega
theorem may_lists {f : FFun} (h : mayF f = true) {b : FBlk} (hb : b ∈ f.blocks) : (∀ p ∈ b.phis, p.args.length ≤ 64 ∧ p.fr.length ≤ 64) ∧ (∀ o ∈ b.ops, o.args.length ≤ 64) := by
  refine ⟨fun p hp => ?_, (may_small h hb).2.1⟩
  simp only [mayF, Bool.and_eq_true, Bool.not_eq_true', Bool.or_eq_false_iff] at h
  have hblk := List.any_eq_false.1 h.2 b hb
  have hm : mayBlock b = true := by simpa using hblk
  simp only [mayBlock, Bool.and_eq_true] at hm
  have := List.all_eq_true.1 hm.1 p hp
  simp only [mayPhi, Bool.not_eq_true', Bool.or_eq_false_iff, Bool.not_eq_false', listsB_cons, Bool.and_eq_true, listN, decide_eq_true_eq] at this
  exact ⟨this.2.2.1.2, this.2.1.2⟩
def pP (f : FFun) (k : Nat) : List (Int × Def) := (f.params.zipIdx.take k).map paramD
def dP (f : FFun) (k1 : Nat) : List (Int × Def) := PD f ++ (f.blocks.zipIdx.take k1).flatMap blockD
def dQ (f : FFun) (k1 : Nat) (b : FBlk) (k2 : Nat) : List (Int × Def) := dP f k1 ++ (b.phis.take k2).map (phiD k1)
def dR (f : FFun) (k1 : Nat) (b : FBlk) (k3 : Nat) : List (Int × Def) := dP f k1 ++ b.phis.map (phiD k1) ++ (b.ops.zipIdx.take k3).flatMap (opD k1)
section
variable {f : FFun} {k k1 k2 k3 : Nat} {b : FBlk}
theorem pP_zero : pP f 0 = [] := by simp [pP]
theorem pP_succ {z : Int} (h : f.params[k]? = some z) : pP f (k + 1) = pP f k ++ [((k : Int) + 1, (-1, 0, z, 1))] := by rw [pP, take_map_succ (zip_get h)]; rfl
theorem pP_end : pP f f.params.length = dP f 0 := by rw [pP, List.take_of_length_le (by simp)]; simp [dP, PD]
theorem dP_end : dP f f.blocks.length = defsL f := by rw [dP, List.take_of_length_le (by simp)]; rfl
theorem dQ_zero : dP f k1 = dQ f k1 b 0 := by simp [dQ]
theorem dQ_succ {p : FPhi} (h : b.phis[k2]? = some p) : dQ f k1 b (k2 + 1) = dQ f k1 b k2 ++ [(p.dst, ((k1 : Int), -1, p.bits, 1))] := by rw [dQ, take_map_succ h, ← List.append_assoc]; rfl
theorem dR_zero : dQ f k1 b b.phis.length = dR f k1 b 0 := by simp [dQ, dR]
theorem dR_succ {o : FOp} (h : b.ops[k3]? = some o) : dR f k1 b (k3 + 1) = dR f k1 b k3 ++ opD k1 (o, k3) := by rw [dR, flatD_take (zip_get h), ← List.append_assoc]; rfl
theorem dR_end (hb : f.blocks[k1]? = some b) : dR f k1 b b.ops.length = dP f (k1 + 1) := by
  rw [dR, List.take_of_length_le (by simp), dP, dP, blockD_step hb]
theorem opD_1 {o : FOp} (h : 0 < (givesP o).1) : opD k1 (o, k3) = [(o.dst, ((k1 : Int), (k3 : Int), (givesP o).1, (givesP o).2))] := if_pos h
theorem opD_0 {o : FOp} (h : ¬ 0 < (givesP o).1) : opD k1 (o, k3) = [] := if_neg h
theorem opD_len (x : FOp × Nat) : (opD k1 x).length ≤ 1 := by unfold opD; split <;> simp
theorem blockD_len (x : FBlk × Nat) : (blockD x).length ≤ wB x.1 := by
  rw [blockD, List.length_append, List.length_map, wB]
  have := flat_len (F := opD x.2) (w := fun _ => 1) (l := x.1.ops.zipIdx) fun y _ => opD_len y
  rw [sum_const, List.length_zipIdx] at this; omega
theorem defs_len (h : mayF f = true) : (defsL f).length ≤ 600 := by
  have h1 := may_sums h
  have h2 := flat_len (F := blockD) (w := fun x => wB x.1) (l := f.blocks.zipIdx) fun y _ => blockD_len y
  rw [zip_sum] at h2
  rw [defsL, List.length_append, List.length_map, List.length_zipIdx]; omega
theorem pP_len (hk : k ≤ f.params.length) : (pP f k).length = k := by simp [pP]; omega
theorem dP_len (h : mayF f = true) : (dP f k1).length ≤ 600 := by
  have h1 := defs_len h
  have h2 := flat_le (F := blockD) f.blocks.zipIdx k1
  rw [defsL, List.length_append] at h1
  rw [dP, List.length_append, PD]; omega
theorem dR_len (h : mayF f = true) (hb : f.blocks[k1]? = some b) : (dR f k1 b k3).length ≤ 600 := by
  have h1 := defs_len h
  have h2 := flat_at (F := blockD) (zip_get hb)
  have h3 := flat_le (F := opD k1) b.ops.zipIdx k3
  rw [defsL, List.length_append] at h1
  rw [blockD, List.length_append] at h2
  rw [dR, dP, List.length_append, List.length_append, List.length_append, PD]
  simp only at h2
  omega
theorem dQ_len (h : mayF f = true) (hb : f.blocks[k1]? = some b) : (dQ f k1 b k2).length ≤ 600 := by
  have h1 := dR_len (k3 := 0) h hb
  rw [← dR_zero] at h1
  have : (dQ f k1 b k2).length ≤ (dQ f k1 b b.phis.length).length := by
    simp only [dQ, List.length_append, List.length_map, List.length_take]; omega
  omega
end
def phiR (p : FPhi) : List Use := (List.range p.args.length).map fun k => (p.args.getD k 0, (p.bits, 1), p.fr.getD k 0, 1000)
def endR (f : FFun) (i : Nat) (b : FBlk) : List Use := if b.fin.kind = 0 then [(b.fin.arg, (f.ret, 1), (i : Int), 1000)] else if b.fin.kind = 2 then [(b.fin.arg, (1, 1), (i : Int), 1000)] else []
def blockR (f : FFun) (x : FBlk × Nat) : List Use := x.1.phis.flatMap phiR ++ (x.1.ops.zipIdx.flatMap (opU x.2) ++ endR f x.2 x.1)
def usesR (f : FFun) : List Use := f.blocks.zipIdx.flatMap (blockR f)
def uP (f : FFun) (k1 : Nat) : List Use := (f.blocks.zipIdx.take k1).flatMap (blockR f)
def uQ (f : FFun) (k1 : Nat) (b : FBlk) (k2 : Nat) : List Use := uP f k1 ++ (b.phis.take k2).flatMap phiR
def uA (f : FFun) (k1 : Nat) (b : FBlk) (k2 : Nat) (p : FPhi) (k3 : Nat) : List Use := uQ f k1 b k2 ++ (phiR p).take k3
def uO (f : FFun) (k1 : Nat) (b : FBlk) (k4 : Nat) : List Use := uP f k1 ++ b.phis.flatMap phiR ++ (b.ops.zipIdx.take k4).flatMap (opU k1)
def uT (f : FFun) (k1 : Nat) (b : FBlk) (k4 : Nat) (o : FOp) (k5 : Nat) : List Use := uO f k1 b k4 ++ (opU k1 (o, k4)).take k5
section
variable {f : FFun} {k k1 k2 k3 k4 k5 : Nat} {b : FBlk} {p : FPhi} {o : FOp}
theorem phiR_len : (phiR p).length = p.args.length := by simp [phiR]
theorem phiR_get {z y : Int} (h : p.args[k]? = some z) (h' : p.fr[k]? = some y) : (phiR p)[k]? = some (z, (p.bits, 1), y, 1000) := by
  have hk := (List.getElem?_eq_some_iff.1 h).1
  rw [phiR, List.getElem?_map, List.getElem?_range hk]
  simp only [Option.map_some]
  rw [getD_of h, getD_of h']
theorem uP_zero : uP f 0 = [] := by simp [uP]
theorem uP_end : uP f f.blocks.length = usesR f := by rw [uP, List.take_of_length_le (by simp)]; rfl
theorem uQ_zero : uP f k1 = uQ f k1 b 0 := by simp [uQ]
theorem uA_zero : uQ f k1 b k2 = uA f k1 b k2 p 0 := by simp [uA]
theorem uA_succ {z y : Int} (h : p.args[k3]? = some z) (h' : p.fr[k3]? = some y) : uA f k1 b k2 p (k3 + 1) = uA f k1 b k2 p k3 ++ [(z, (p.bits, 1), y, 1000)] := by
  rw [uA, List.take_add_one, phiR_get h h', ← List.append_assoc]; rfl
theorem uA_end (h : b.phis[k2]? = some p) : uA f k1 b k2 p p.args.length = uQ f k1 b (k2 + 1) := by
  rw [uA, List.take_of_length_le (by rw [phiR_len]; omega), uQ, uQ, flatD_take h, List.append_assoc]
theorem uO_zero : uQ f k1 b b.phis.length = uO f k1 b 0 := by simp [uQ, uO]
theorem uT_zero : uO f k1 b k4 = uT f k1 b k4 o 0 := by simp [uT]
theorem uT_succ {z : Int} {sh : Int × Int} (h : o.args[k5]? = some z) (h' : (takesK o)[k5]? = some sh) : uT f k1 b k4 o (k5 + 1) = uT f k1 b k4 o k5 ++ [(z, sh, (k1 : Int), (k4 : Int))] := by
  rw [uT, List.take_add_one, opU_get h h', ← List.append_assoc]; rfl
theorem uT_end (h : b.ops[k4]? = some o) : uT f k1 b k4 o (takesK o).length = uO f k1 b (k4 + 1) := by
  rw [uT, List.take_of_length_le (by rw [opU_len]; exact Nat.le_refl _), uO, uO, flatD_take (zip_get h), List.append_assoc, List.append_assoc]
theorem uO_end (hb : f.blocks[k1]? = some b) : uO f k1 b b.ops.length ++ endR f k1 b = uP f (k1 + 1) := by
  rw [uO, List.take_of_length_le (by simp), uP, uP, flatD_take (zip_get hb), blockR]; simp
theorem endR_0 (h : b.fin.kind = 0) : endR f k1 b = [(b.fin.arg, (f.ret, 1), (k1 : Int), 1000)] := if_pos h
theorem endR_2 (h : b.fin.kind = 2) : endR f k1 b = [(b.fin.arg, (1, 1), (k1 : Int), 1000)] := by rw [endR, if_neg (by omega), if_pos h]
theorem endR_n (h : ¬ b.fin.kind = 0) (h' : ¬ b.fin.kind = 2) : endR f k1 b = [] := by rw [endR, if_neg h, if_neg h']
theorem endR_len : (endR f k1 b).length ≤ 1 := by unfold endR; split; simp; split <;> simp
theorem blockR_len (hm : mayF f = true) {x : FBlk × Nat} (hx : x ∈ f.blocks.zipIdx) : (blockR f x).length ≤ 64 * wB x.1 + 1 := by
  have hb : x.1 ∈ f.blocks := List.mem_of_getElem? (mem_zip.1 hx)
  obtain ⟨h1, h2⟩ := may_lists hm hb
  have e1 := flat_len (F := phiR) (w := fun _ => 64) (l := x.1.phis) fun p hp => by rw [phiR_len]; exact (h1 p hp).1
  have e2 := flat_len (F := opU x.2) (w := fun _ => 64) (l := x.1.ops.zipIdx) fun y hy => by
    rw [opU_len]; exact Nat.le_trans (takesK_len y.1) (h2 y.1 (List.mem_of_getElem? (mem_zip.1 hy)))
  rw [sum_const] at e1 e2
  rw [List.length_zipIdx] at e2
  have e3 := endR_len (f := f) (k1 := x.2) (b := x.1)
  rw [blockR, List.length_append, List.length_append, wB]; omega
theorem uses_len (hm : mayF f = true) : (usesR f).length ≤ 40000 := by
  have h1 := may_sums hm
  have h2 := flat_len (F := blockR f) (w := fun x => 64 * wB x.1 + 1) (l := f.blocks.zipIdx) fun y hy => blockR_len hm hy
  rw [zip_sum (w := fun b => 64 * wB b + 1)] at h2
  have h3 : ∀ l : List FBlk, (l.map fun b => 64 * wB b + 1).sum = 64 * (l.map wB).sum + l.length := fun l => by
    induction l with
    | nil => rfl
    | cons b r ih => simp only [List.map_cons, List.sum_cons, ih, List.length_cons]; omega
  rw [h3] at h2
  rw [usesR]; omega
theorem uP_len (hm : mayF f = true) (hb : f.blocks[k1]? = some b) : (uP f k1).length + (blockR f (b, k1)).length ≤ 40000 := by
  have h1 := uses_len hm
  have h2 := flat_at (F := blockR f) (zip_get hb)
  rw [usesR] at h1; rw [uP]; omega
theorem uA_len (hm : mayF f = true) (hb : f.blocks[k1]? = some b) (hp : b.phis[k2]? = some p) : (uA f k1 b k2 p k3).length ≤ 40000 := by
  have h1 := uP_len hm hb
  have h2 := flat_at (F := phiR) hp
  rw [blockR, List.length_append] at h1
  simp only [uA, uQ, List.length_append, List.length_take]
  simp only at h1; omega
theorem uO_len (hm : mayF f = true) (hb : f.blocks[k1]? = some b) : (uO f k1 b k4).length + (endR f k1 b).length ≤ 40000 := by
  have h1 := uP_len hm hb
  have h2 := flat_le (F := opU k1) b.ops.zipIdx k4
  rw [blockR, List.length_append, List.length_append] at h1
  simp only [uO, List.length_append]
  simp only at h1; omega
theorem uT_len (hm : mayF f = true) (hb : f.blocks[k1]? = some b) (ho : b.ops[k4]? = some o) : (uT f k1 b k4 o k5).length ≤ 40000 := by
  have h1 := uP_len hm hb
  have h2 := flat_at (F := opU k1) (zip_get ho)
  rw [blockR, List.length_append, List.length_append] at h1
  simp only [uT, uO, List.length_append, List.length_take]
  simp only at h1; omega
end
def findD (l : List (Int × Def)) (v : Int) : Int := match l.findIdx? (fun d => d.1 == v) with
  | some i => (i : Int)
  | none => -1
section
variable {l : List (Int × Def)} {v : Int} {k : Nat} {d : Int × Def}
theorem findIdx_at {α : Type _} {p : α → Bool} : ∀ {l : List α} {k : Nat} {z : α}, (∀ j, j < k → ∀ y, l[j]? = some y → p y = false) → l[k]? = some z → p z = true → l.findIdx? p = some k
  | [], k, z, _, h, _ => by simp at h
  | x :: r, 0, z, _, h, hp => by simp at h; subst h; rw [List.findIdx?_cons, hp]; rfl
  | x :: r, k + 1, z, hn, h, hp => by
    have h0 := hn 0 (by omega) x rfl
    rw [List.findIdx?_cons, h0, findIdx_at (k := k) (fun j hj y hy => hn (j + 1) (by omega) y (by simpa using hy)) (by simpa using h) hp]; rfl
theorem findD_at (hn : ∀ j, j < k → ∀ y, l[j]? = some y → y.1 ≠ v) (h : l[k]? = some d) (hd : d.1 = v) : findD l v = (k : Int) := by
  rw [findD, findIdx_at (fun j hj y hy => beq_eq_false_iff_ne.2 (hn j hj y hy)) h (beq_iff_eq.2 hd)]
theorem findD_no (hn : ∀ j, j < l.length → ∀ y, l[j]? = some y → y.1 ≠ v) : findD l v = -1 := by
  rw [findD]
  have : l.findIdx? (fun d => d.1 == v) = none := List.findIdx?_eq_none_iff.2 fun y hy => by
    obtain ⟨j, hj⟩ := List.mem_iff_getElem?.1 hy
    exact beq_eq_false_iff_ne.2 (hn j (List.getElem?_eq_some_iff.1 hj).1 y hj)
  rw [this]
theorem getL_idx : ∀ (l : List (Int × Def)) (v : Int), match l.findIdx? (fun d => d.1 == v) with
    | some i => ∃ d, l[i]? = some d ∧ d.1 = v ∧ getL l v = some d.2
    | none => getL l v = none
  | [], v => by simp [getL]
  | d :: r, v => by
    have ih := getL_idx r v
    rw [List.findIdx?_cons]
    by_cases e : d.1 = v
    · rw [beq_iff_eq.2 e]; exact ⟨d, rfl, e, by simp only [getL]; rw [if_pos e]⟩
    · rw [beq_eq_false_iff_ne.2 e]
      cases hf : r.findIdx? (fun d => d.1 == v) with
      | none => rw [hf] at ih; simp only [Bool.false_eq_true, if_false, Option.map_none]; simp only [getL]; rw [if_neg e]; exact ih
      | some i =>
        rw [hf] at ih
        obtain ⟨x, h1, h2, h3⟩ := ih
        simp only [Bool.false_eq_true, if_false, Option.map_some]
        exact ⟨x, by simpa using h1, h2, by simp only [getL]; rw [if_neg e]; exact h3⟩
theorem findD_some (h : 0 ≤ findD l v) : ∃ d, l[(findD l v).toNat]? = some d ∧ d.1 = v ∧ getL l v = some d.2 := by
  have h1 := getL_idx l v
  revert h h1
  rw [findD]
  cases hf : l.findIdx? (fun d => d.1 == v) with
  | none => intro h; simp at h
  | some i => intro h h1; simpa using h1
theorem findD_none (h : findD l v < 0) : getL l v = none := by
  have h1 := getL_idx l v
  revert h h1
  rw [findD]
  cases hf : l.findIdx? (fun d => d.1 == v) with
  | none => intro h h1; exact h1
  | some i => intro h; simp only at h; omega
theorem findD_rng : -1 ≤ findD l v ∧ findD l v < (l.length : Int) := by
  rw [findD]
  cases hf : l.findIdx? (fun d => d.1 == v) with
  | none => simp only; omega
  | some i =>
    have := getL_idx l v
    rw [hf] at this
    obtain ⟨d, h1, _⟩ := this
    have := (List.getElem?_eq_some_iff.1 h1).1
    simp only; omega
end
end Go.Proofs.YtipmgkhjoekaaaaGreat
namespace Go.Proofs.YtipmgkhjoekaaaaGreat
open Go Go.Proofs.YtipmgkhjoekaaaaGreat.Fw
def putB (b : FBlk) (order : List Int) : FBlk := { b with ops := ordOps b order }
section
variable {f : FFun} {B : Nat} {b : FBlk} {order : List Int}
theorem iota_nd (n : Nat) : (iota n).Nodup := by
  rw [iota, List.nodup_iff_pairwise_ne, List.pairwise_map]
  refine List.Pairwise.imp ?_ List.pairwise_lt_range
  intro a b hab; omega
theorem mem_iota {n : Nat} {z : Int} : z ∈ iota n ↔ 0 ≤ z ∧ z < (n : Int) := by
  simp only [iota, List.mem_map, List.mem_range]
  constructor
  · rintro ⟨a, ha, rfl⟩; omega
  · intro h; exact ⟨z.toNat, by omega, by omega⟩
theorem full_order {l : List Int} {n : Nat} (hl : l.length = n) (hn : l.Nodup) (hr : ∀ a ∈ l, 0 ≤ a ∧ a < (n : Int)) {k : Nat} (hk : k < n) : (k : Int) ∈ l := by
  by_cases hc : (k : Int) ∈ l
  · exact hc
  · exfalso
    have hs : l ⊆ (iota n).erase (k : Int) := by
      intro a ha
      refine (List.mem_erase_of_ne ?_).2 (mem_iota.2 (hr a ha))
      rintro rfl; exact hc ha
    have h1 := List.Nodup.length_le_of_subset hn hs
    rw [List.length_erase_of_mem (mem_iota.2 (by omega)), iota_len] at h1
    omega
theorem defsH_get {ops : List FOp} {v : Int} {k' : Nat} {o' : FOp} (ho : ops[k']? = some o') (hv : o'.dst = v) (h0 : 0 < v) (hu : ∀ (k2 : Nat) o2, ops[k2]? = some o2 → o2.dst = v → k2 = k') : ∀ k : Nat, k' < k → k ≤ ops.length → getL (defsH ops k) v = some (k' : Int)
  | 0, h, _ => absurd h (by omega)
  | k + 1, h, hk => by
    have hz : ops[k]? = some ops[k] := List.getElem?_eq_getElem (by omega)
    by_cases e : k = k'
    · subst e
      rw [hz] at ho; cases ho
      rw [defsH_step1 hz (by rw [hv]; exact h0), hv, getL_putL, if_pos rfl]
    · have ih := defsH_get ho hv h0 hu k (by omega) (by omega)
      by_cases hd : 0 < ops[k].dst
      · rw [defsH_step1 hz hd, getL_putL, if_neg (fun hc => e (hu k _ hz hc)), ih]
      · rw [defsH_step0 hz hd, ih]
theorem typed_ops (ht : typedP f 2 = 0) {i : Nat} (hb : f.blocks[i]? = some b) {k : Nat} {o : FOp} (ho : b.ops[k]? = some o) : mayOpK o = true := by
  have h1 := (typedP_zero.1 ht).2.2
  have h2 := List.all_eq_true.1 h1 b (List.mem_of_getElem? hb)
  simp only [okTyped, Bool.and_eq_true] at h2
  exact ofK_may (List.all_eq_true.1 h2.2 o (List.mem_of_getElem? ho))
theorem dst_once (hn : ((defsL f).map (·.1)).Nodup) (ht : typedP f 2 = 0) {i i' : Nat} {b b' : FBlk} {k k' : Nat} {o o' : FOp} (hb : f.blocks[i]? = some b) (hb' : f.blocks[i']? = some b') (ho : b.ops[k]? = some o) (ho' : b'.ops[k']? = some o') (h0 : 0 < o.dst) (he : o.dst = o'.dst) : i = i' ∧ k = k' := by
  have h1 := (getL_iff hn).2 (mem_defsL.2 (.inr ⟨i, b, k, o, hb, ho, (may_dst (typed_ops ht hb ho)).2 h0, rfl, rfl⟩))
  have h2 := (getL_iff hn).2 (mem_defsL.2 (.inr ⟨i', b', k', o', hb', ho', (may_dst (typed_ops ht hb' ho')).2 (by omega), rfl, rfl⟩))
  rw [he] at h1
  rw [h1] at h2
  simp only [Option.some.injEq, Prod.mk.injEq] at h2
  omega
theorem raw_arg (hn : ((defsL f).map (·.1)).Nodup) (ht : typedP f 2 = 0) (hb : f.blocks[B]? = some b) {k k' : Nat} {o o' : FOp} (ho : b.ops[k]? = some o) (ho' : b.ops[k']? = some o') (hk : k' < k) {v : Int} (hv : v ∈ o.args) (hd : o'.dst = v) (h0 : 0 < v) : (k' : Int) ∈ rawH b.ops (o, k) := by
  refine List.mem_append.2 (.inl (List.mem_filterMap.2 ⟨v, hv, ?_⟩))
  exact defsH_get ho' hd h0 (fun k2 o2 h2 hd2 => (dst_once hn ht hb hb h2 ho' (by omega) (by omega)).2) k hk (by have := (List.getElem?_eq_some_iff.1 ho).1; omega)
end
section
variable {f : FFun} {g : FGraph}
theorem over_reach (hg : GOk g) {i : Nat} {z : Bool} (h : (reachP g 0 (-1))[i]? = some z) : overP (treeP g 0) (i : Int) (i : Int) = z := by
  have hn := hg.ne
  have hi : i < g.succ.length := by have := (List.getElem?_eq_some_iff.1 h).1; rwa [reachP_len] at this
  have hT := domTree_treeP hg (root := 0) (by omega) (by omega)
  refine bool_ext ?_
  rw [hT.over hg (by omega) (by omega)]
  have h1 := reachP_at (g := g) (root := 0) (w := -1) hi
  rw [h, reach_rch hg (by omega) (by omega)] at h1
  simp only [Option.some.injEq] at h1
  rw [h1]
  exact ⟨fun h => h.1, fun h => ⟨h, h, Dom.self⟩⟩
theorem okPhi_f0 {pr : List Int} {p : FPhi} (h : (pr.length : Int) = 0) : okPhi pr p = false := by
  have hp : pr = [] := List.eq_nil_of_length_eq_zero (by omega)
  subst hp
  by_cases h1 : p.fr = []
  · simp [okPhi, h1]
  · have : (p.fr == []) = false := beq_eq_false_iff_ne.2 h1
    simp [okPhi, this]
theorem okPhi_fa {pr : List Int} {p : FPhi} (h : ¬ p.fr = pr) : okPhi pr p = false := by
  have : (p.fr == pr) = false := beq_eq_false_iff_ne.2 h
  simp [okPhi, this]
theorem okPhi_fb {pr : List Int} {p : FPhi} (h : p.fr = pr) (h2 : ¬ (p.args.length : Int) = (pr.length : Int)) : okPhi pr p = false := by
  subst h
  simp only [okPhi, decide_eq_false h2]; simp
theorem okPhi_ta {pr : List Int} {p : FPhi} (h0 : ¬ (pr.length : Int) = 0) (h : p.fr = pr) (h2 : (p.args.length : Int) = (pr.length : Int)) : okPhi pr p = true := by
  subst h; exact okPhi_t h0 rfl h2
theorem shape_dec (h : shapeP f = 5) : decide (shapeP f = 0) = false := by rw [h]; rfl
theorem shape_dec0 (h : shapeP f = 0) : decide (shapeP f = 0) = true := by rw [h]; rfl
theorem may_kind {o : FOp} (h : mayOpK o = true) : 0 ≤ o.kind ∧ o.kind ≤ 22 := by
  simp only [mayOpK, Bool.and_eq_true] at h
  have h1 := h.2.1
  rcases kind_cases o.kind with hk | hk
  · have e2 : takesP o = ([], false) := by
      have ff : ∀ z : Int, (0 ≤ z ∧ z ≤ 22) → (o.kind == z) = false := fun z hz => by rw [beq_eq_false_iff_ne]; omega
      simp [takesP, scalarKs, ff]
    rw [e2] at h1; cases h1
  · omega
theorem ofK_f0 {lev : Int} {o : FOp} (h : mayOpK o = false) : ofK lev o = false := by simp [ofK, h]
theorem typed_dec {lev : Int} (h : typedP f lev = 6) : decide (typedP f lev = 0) = false := by rw [h]; rfl
theorem typedP_or {lev : Int} : typedP f lev = 0 ∨ typedP f lev = 6 := by unfold typedP; split <;> simp
theorem shapeP_or : shapeP f = 0 ∨ shapeP f = 5 := by unfold shapeP; split; simp; split <;> simp
theorem typed_no {lev : Int} (h : ¬ (mayW f.ret = true ∧ f.params.all mayW = true ∧ f.blocks.all (okTyped lev) = true)) : typedP f lev = 6 := typedP_or.resolve_left fun hc => h (typedP_zero.1 hc)
def upU (u : Use) : Use := (u.1, u.2.1, u.2.2.1, if u.2.2.2 = 1000 then 1048576 else u.2.2.2)
theorem uses_up (hm : mayF f = true) (hr : f.ret ≠ 0) : usesL f = (usesR f).map upU := by
  rw [usesL, usesR, List.map_flatMap]
  rw [List.flatMap_def, List.flatMap_def]
  congr 1
  refine List.map_congr_left fun x hx => ?_
  have hb : x.1 ∈ f.blocks := List.mem_of_getElem? (mem_zip.1 hx)
  have hop := (may_small hm hb).1
  rw [blockU, blockR, List.map_append, List.map_append, List.map_flatMap, List.map_flatMap]
  have e1 : ∀ p : FPhi, (phiR p).map upU = phiU p := fun p => by
    rw [phiR, phiU, List.map_map]; rfl
  have e2 : (x.1.ops.zipIdx.flatMap fun y => (opU x.2 y).map upU) = x.1.ops.zipIdx.flatMap (opU x.2) := by
    rw [List.flatMap_def, List.flatMap_def]
    congr 1
    refine List.map_congr_left fun y hy => ?_
    have hy2 := (List.getElem?_eq_some_iff.1 (mem_zip.1 hy)).1
    rw [opU, List.map_map]
    refine List.map_congr_left fun k _ => ?_
    simp only [Function.comp, upU]
    rw [if_neg (by omega)]
  have e3 : (endR f x.2 x.1).map upU = endU f x.2 x.1 := by
    rw [endR, endU, endBits]
    by_cases h0 : x.1.fin.kind = 0
    · rw [if_pos h0, if_pos h0, if_neg hr]; rfl
    · rw [if_neg h0, if_neg h0]
      by_cases h2 : x.1.fin.kind = 2
      · rw [if_pos h2, if_pos h2, if_neg (by decide)]; rfl
      · rw [if_neg h2, if_neg h2, if_pos rfl]; rfl
  rw [e2, e3]
  congr 1
  rw [List.flatMap_def, List.flatMap_def]
  congr 1
  exact List.map_congr_left fun p _ => (e1 p).symm
theorem usesP_R (hm : mayF f = true) (hr : f.ret ≠ 0) {ask : Use → Int} : usesP f ask = 0 ↔ ∀ u ∈ usesR f, ask (upU u) = 0 := by
  rw [usesP_zero, uses_up hm hr]
  simp only [List.mem_map, forall_exists_index, and_imp, forall_apply_eq_imp_iff₂]
theorem usesP_val {ask : Use → Int} {c : Int} (h : ∀ u, ask u = 0 ∨ ask u = c) : usesP f ask = 0 ∨ usesP f ask = c := by
  rw [usesP, firstN]
  split
  · exact h _
  · exact .inl rfl
theorem askD_val (u : Use) : askD f u = 0 ∨ askD f u = 7 := by unfold askD; split <;> simp
theorem askS_val (u : Use) : askS f u = 0 ∨ askS f u = 6 := by unfold askS; split <;> simp
theorem askP_val (t : List Int) (u : Use) : askP f t u = 0 ∨ askP f t u = 7 := by
  simp only [askP]
  split
  · exact .inl rfl
  · split <;> simp
theorem ret_ne {lev : Int} (ht : typedP f lev = 0) : f.ret ≠ 0 := by
  have := mayW_le (typedP_zero.1 ht).1; omega
theorem typed_op {lev : Int} (ht : typedP f lev = 0) {b : FBlk} (hb : b ∈ f.blocks) {o : FOp} (ho : o ∈ b.ops) : mayOpK o = true := by
  have h2 := List.all_eq_true.1 (typedP_zero.1 ht).2.2 b hb
  simp only [okTyped, Bool.and_eq_true] at h2
  exact ofK_may (List.all_eq_true.1 h2.2 o ho)
theorem def_ok {lev : Int} (hm : mayF f = true) (ht : typedP f lev = 0) (hd : defOK f) : ∀ y ∈ defsL f, valueB y.1 = true := by
  intro y hy
  obtain ⟨v, d⟩ := y
  have h16 := (may_sums hm).1
  rcases mem_defsL.1 hy with (h | ⟨i, b, hb, h⟩) | ⟨i, b, k, o, hb, ho, hg, rfl, rfl⟩
  · obtain ⟨x, hx, e⟩ := List.mem_map.1 h
    have hx2 := (List.getElem?_eq_some_iff.1 (mem_zip.1 hx)).1
    simp only [paramD, Prod.mk.injEq] at e
    simp only [valueB, Bool.and_eq_true, decide_eq_true_eq]; omega
  · obtain ⟨p, hp, e⟩ := List.mem_map.1 h
    have := hd.1 b (List.mem_of_getElem? hb) p hp
    simp only [phiD, Prod.mk.injEq] at e
    simp only [okDst, Bool.and_eq_true, decide_eq_true_eq] at this
    simp only [valueB, Bool.and_eq_true, decide_eq_true_eq]; omega
  · have hmo := typed_op ht (List.mem_of_getElem? hb) (List.mem_of_getElem? ho)
    have hpos := (may_dst hmo).1 hg
    simp only [mayOpK, Bool.and_eq_true] at hmo
    have h3 := hmo.2.2.1
    split at h3
    · rw [beq_iff_eq] at h3; omega
    · exact h3
theorem nodup_find {l : List (Int × Def)} (hn : (l.map (·.1)).Nodup) {j : Nat} {y : Int × Def} (h : l[j]? = some y) : findD l y.1 = (j : Int) := by
  refine findD_at (fun i hi z hz e => ?_) h rfl
  have h1 : (l.map (·.1))[i]? = some y.1 := by rw [List.getElem?_map, hz, ← e]; rfl
  have h2 : (l.map (·.1))[j]? = some y.1 := by rw [List.getElem?_map, h]; rfl
  have := nodup_idx hn h1 h2
  omega
theorem find_nodup {l : List (Int × Def)} (h : ∀ (j : Nat) y, l[j]? = some y → findD l y.1 = (j : Int)) : (l.map (·.1)).Nodup := by
  rw [List.nodup_iff_pairwise_ne, List.pairwise_iff_getElem]
  intro i j hi hj hij e
  have hi' : i < l.length := by simpa using hi
  have hj' : j < l.length := by simpa using hj
  have h1 := h i _ (List.getElem?_eq_getElem hi')
  have h2 := h j _ (List.getElem?_eq_getElem hj')
  simp only [List.getElem_map] at e
  rw [e, h2] at h1; omega
theorem def_iff {lev : Int} (hm : mayF f = true) (ht : typedP f lev = 0) : defOK f ↔ ∀ (j : Nat) y, (defsL f)[j]? = some y → valueB y.1 = true ∧ findD (defsL f) y.1 = (j : Int) := by
  constructor
  · intro hd j y hy
    exact ⟨def_ok hm ht hd y (List.mem_of_getElem? hy), nodup_find hd.2 hy⟩
  · intro h
    refine ⟨fun b hb p hp => ?_, find_nodup fun j y hy => (h j y hy).2⟩
    obtain ⟨i, hi⟩ := List.mem_iff_getElem?.1 hb
    have hmem : (p.dst, ((i : Int), (-1 : Int), p.bits, (1 : Int))) ∈ defsL f := mem_defsL.2 (.inl (.inr ⟨i, b, hi, List.mem_map.2 ⟨p, hp, rfl⟩⟩))
    obtain ⟨j, hj⟩ := List.mem_iff_getElem?.1 hmem
    have := (h j _ hj).1
    simp only [valueB, Bool.and_eq_true, decide_eq_true_eq] at this
    simp only [okDst, Bool.and_eq_true, decide_eq_true_eq]; exact this
theorem def_no {lev : Int} (hm : mayF f = true) (ht : typedP f lev = 0) {j : Nat} {y : Int × Def} (hy : (defsL f)[j]? = some y) (h : valueB y.1 = false ∨ ¬ findD (defsL f) y.1 = (j : Int)) : definedP f = 7 := by
  rw [definedP, if_neg]
  intro hd
  have := (def_iff hm ht).1 hd j y hy
  rcases h with h | h
  · rw [this.1] at h; cases h
  · exact h this.2
theorem def_yes {lev : Int} (hm : mayF f = true) (ht : typedP f lev = 0) (h : ∀ j, j < (defsL f).length → ∀ y, (defsL f)[j]? = some y → valueB y.1 = true ∧ findD (defsL f) y.1 = (j : Int)) : defOK f :=
  (def_iff hm ht).2 fun j y hy => h j (List.getElem?_eq_some_iff.1 hy).1 y hy
theorem askD_R {u : Use} : askD f (upU u) = 0 ↔ 0 ≤ findD (defsL f) u.1 := by
  rw [askD]
  show (if (getL (defsL f) u.1).isSome = true then (0 : Int) else 7) = 0 ↔ _
  constructor
  · intro h
    by_cases hs : (getL (defsL f) u.1).isSome = true
    · refine Classical.byContradiction fun hn => ?_
      rw [findD_none (by omega)] at hs; cases hs
    · rw [if_neg hs] at h; exact absurd h (by decide)
  · intro h
    obtain ⟨d, _, _, h3⟩ := findD_some h
    rw [h3]; rfl
theorem uses_no {lev : Int} (hm : mayF f = true) (ht : typedP f lev = 0) (hd : defOK f) {j : Nat} {u : Use} (hu : (usesR f)[j]? = some u) (h : findD (defsL f) u.1 < 0) : definedP f = 7 := by
  rw [definedP, if_pos hd]
  refine (usesP_val askD_val).resolve_left fun hc => ?_
  have := askD_R.1 ((usesP_R hm (ret_ne ht)).1 hc u (List.mem_of_getElem? hu))
  omega
theorem uses_yes {lev : Int} (hm : mayF f = true) (ht : typedP f lev = 0) (hd : defOK f) (h : ∀ j, j < (usesR f).length → ∀ u, (usesR f)[j]? = some u → 0 ≤ findD (defsL f) u.1) : definedP f = 0 :=
  definedP_zero.2 ⟨hd, (usesP_R hm (ret_ne ht)).2 fun u hu => by
    obtain ⟨j, hj⟩ := List.mem_iff_getElem?.1 hu
    exact askD_R.2 (h j (List.getElem?_eq_some_iff.1 hj).1 u hj)⟩
theorem defined_find {lev : Int} (hm : mayF f = true) (ht : typedP f lev = 0) (h : definedP f = 0) {j : Nat} {u : Use} (hu : (usesR f)[j]? = some u) : 0 ≤ findD (defsL f) u.1 :=
  askD_R.1 ((usesP_R hm (ret_ne ht)).1 (definedP_zero.1 h).2 u (List.mem_of_getElem? hu))
theorem find_get {v : Int} {y : Int × Def} (h0 : 0 ≤ findD (defsL f) v) (hy : (defsL f)[(findD (defsL f) v).toNat]? = some y) : getL (defsL f) v = some y.2 := by
  obtain ⟨d, h1, _, h3⟩ := findD_some h0
  rw [hy] at h1
  rw [h3, ← Option.some.inj h1]
theorem askS_R {u : Use} {y : Int × Def} (h0 : 0 ≤ findD (defsL f) u.1) (hy : (defsL f)[(findD (defsL f) u.1).toNat]? = some y) : askS f (upU u) = 0 ↔ y.2.2.2 = u.2.1 := askS_zero (u := upU u) (find_get h0 hy)
theorem shapes_no {lev : Int} (hm : mayF f = true) (ht : typedP f lev = 0) {j : Nat} {u : Use} {y : Int × Def} (hu : (usesR f)[j]? = some u) (h0 : 0 ≤ findD (defsL f) u.1) (hy : (defsL f)[(findD (defsL f) u.1).toNat]? = some y) (h : ¬ (y.2.2.2.1 = u.2.1.1 ∧ y.2.2.2.2 = u.2.1.2)) : usesP f (askS f) = 6 := by
  refine (usesP_val askS_val).resolve_left fun hc => ?_
  have := (askS_R h0 hy).1 ((usesP_R hm (ret_ne ht)).1 hc u (List.mem_of_getElem? hu))
  exact h ⟨by rw [this], by rw [this]⟩
theorem shapes_yes {lev : Int} (hm : mayF f = true) (ht : typedP f lev = 0) (h : ∀ j, j < (usesR f).length → ∀ u, (usesR f)[j]? = some u → askS f (upU u) = 0) : usesP f (askS f) = 0 :=
  (usesP_R hm (ret_ne ht)).2 fun u hu => by
    obtain ⟨j, hj⟩ := List.mem_iff_getElem?.1 hu
    exact h j (List.getElem?_eq_some_iff.1 hj).1 u hj
theorem askS_y {u : Use} {y : Int × Def} (h0 : 0 ≤ findD (defsL f) u.1) (hy : (defsL f)[(findD (defsL f) u.1).toNat]? = some y) (h1 : y.2.2.2.1 = u.2.1.1) (h2 : y.2.2.2.2 = u.2.1.2) : askS f (upU u) = 0 :=
  (askS_R h0 hy).2 (Prod.ext h1 h2)
theorem def_rng (hm : mayF f = true) {y : Int × Def} (hy : y ∈ defsL f) : -1 ≤ y.2.1 ∧ y.2.1 < (f.blocks.length : Int) ∧ y.2.2.1 < 1000 := by
  obtain ⟨v, d⟩ := y
  rcases mem_defsL.1 hy with (h | ⟨i, b, hb, h⟩) | ⟨i, b, k, o, hb, ho, hg, rfl, rfl⟩
  · obtain ⟨x, hx, e⟩ := List.mem_map.1 h
    simp only [paramD, Prod.mk.injEq] at e
    obtain ⟨rfl, rfl⟩ := e
    simp only; omega
  · obtain ⟨p, hp, e⟩ := List.mem_map.1 h
    simp only [phiD, Prod.mk.injEq] at e
    obtain ⟨rfl, rfl⟩ := e
    have := (List.getElem?_eq_some_iff.1 hb).1
    simp only; omega
  · have h1 := (List.getElem?_eq_some_iff.1 hb).1
    have h2 := (List.getElem?_eq_some_iff.1 ho).1
    have h3 := (may_small hm (List.mem_of_getElem? hb)).1
    simp only; omega
theorem shape_rch (h : shapeP f = 0) (hg : ofP f = some g) : ∀ i : Int, 0 ≤ i → i < (f.blocks.length : Int) → Rch (Ed g) 0 i := by
  intro i h0 hl
  obtain ⟨g', hg', ha⟩ := shapeP_zero h
  rw [hg] at hg'
  obtain rfl := Option.some.inj hg'
  obtain ⟨hmg, _, hsl, hn1, _⟩ := ofP_some hg
  have hgo := mayG_ok hmg
  have hb : f.blocks[i.toNat]? = some f.blocks[i.toNat] := List.getElem?_eq_getElem (by omega)
  have h1 := ha _ _ hb
  simp only [okShape, Bool.and_eq_true] at h1
  have h2 := h1.1
  rw [Int.toNat_of_nonneg h0, (domTree_treeP hgo (root := 0) (by omega) (by omega)).over hgo (by omega) (by omega)] at h2
  exact h2.1
theorem use_rng (hm : mayF f = true) (h : shapeP f = 0) {u : Use} (hu : u ∈ usesR f) : 0 ≤ u.2.2.1 ∧ u.2.2.1 < (f.blocks.length : Int) := by
  obtain ⟨g, hg, ha⟩ := shapeP_zero h
  obtain ⟨hmg, _, hsl, hn1, _⟩ := ofP_some hg
  have hgo := mayG_ok hmg
  simp only [usesR, List.mem_flatMap] at hu
  obtain ⟨x, hx, hu⟩ := hu
  have hxb := mem_zip.1 hx
  have hxl := (List.getElem?_eq_some_iff.1 hxb).1
  simp only [blockR, List.mem_append, List.mem_flatMap] at hu
  rcases hu with ⟨p, hp, hu⟩ | ⟨y, hy, hu⟩ | hu
  · simp only [phiR, List.mem_map, List.mem_range] at hu
    obtain ⟨k, hk, rfl⟩ := hu
    have h1 := ha _ _ hxb
    simp only [okShape, Bool.and_eq_true] at h1
    have h2 := List.all_eq_true.1 h1.2.1 p hp
    simp only [okPhi, Bool.not_eq_true', Bool.or_eq_false_iff, Bool.not_eq_false', beq_iff_eq, decide_eq_true_eq] at h2
    have hfr : p.fr = g.pred.getD x.2 [] := h2.2.1
    have hlen : k < p.fr.length := by have := h2.2.2; omega
    have hmem : p.fr.getD k 0 ∈ g.pred.getD ((x.2 : Int)).toNat [] := by
      rw [Int.toNat_natCast, ← hfr, List.getD_eq_getElem?_getD, List.getElem?_eq_getElem hlen]
      exact List.getElem_mem hlen
    have hE := ((mem_pred hgo (by omega)).1 hmem).rng hgo
    rw [hsl] at hE
    exact hE.1
  · simp only [opU, List.mem_map] at hu
    obtain ⟨k, _, rfl⟩ := hu
    simp only; omega
  · simp only [endR] at hu
    split at hu
    · simp at hu; subst hu; simp only; omega
    · split at hu
      · simp at hu; subst hu; simp only; omega
      · cases hu
theorem askP_R (hm : mayF f = true) (hs : shapeP f = 0) (hg : ofP f = some g) {u : Use} {y : Int × Def} (hu : u ∈ usesR f) (h0 : 0 ≤ findD (defsL f) u.1) (hy : (defsL f)[(findD (defsL f) u.1).toNat]? = some y) :
    askP f (treeP g 0) (upU u) = 0 ↔ y.2.1 < 0 ∨ (y.2.1 = u.2.2.1 ∧ y.2.2.1 < u.2.2.2) ∨ (y.2.1 ≠ u.2.2.1 ∧ meetR (treeP g 0) y.2.1 u.2.2.1 = y.2.1) := by
  rw [askP_zero (u := upU u) (find_get h0 hy)]
  have hyr := def_rng hm (List.mem_of_getElem? hy)
  obtain ⟨hmg, _, hsl, hn1, _⟩ := ofP_some hg
  have hgo := mayG_ok hmg
  have hT := domTree_treeP hgo (root := 0) (by omega) (by omega)
  have hur := use_rng hm hs hu
  have hat : y.2.2.1 < (upU u).2.2.2 ↔ y.2.2.1 < u.2.2.2 := by
    simp only [upU]; split <;> omega
  show y.2.1 < 0 ∨ (y.2.1 = u.2.2.1 ∧ y.2.2.1 < (upU u).2.2.2) ∨ (y.2.1 ≠ u.2.2.1 ∧ overP (treeP g 0) y.2.1 u.2.2.1 = true) ↔ _
  rw [hat]
  by_cases hneg : y.2.1 < 0
  · simp [hneg]
  · have ha := shape_rch hs hg y.2.1 (by omega) (by omega)
    have hb := shape_rch hs hg u.2.2.1 hur.1 hur.2
    have hov : overP (treeP g 0) y.2.1 u.2.2.1 = true ↔ meetR (treeP g 0) y.2.1 u.2.2.1 = y.2.1 := by
      rw [hT.over hgo (by omega) (by omega), hT.meetR hgo (by omega) (by omega) ha hb]
      exact ⟨fun h => h.2.2, fun h => ⟨ha, hb, h⟩⟩
    rw [hov]
theorem places_no {lev : Int} (hm : mayF f = true) (ht : typedP f lev = 0) (hs : shapeP f = 0) (hg : ofP f = some g) {j : Nat} {u : Use} {y : Int × Def} (hu : (usesR f)[j]? = some u) (h0 : 0 ≤ findD (defsL f) u.1) (hy : (defsL f)[(findD (defsL f) u.1).toNat]? = some y)
    (h1 : ¬ y.2.1 < 0) (h2 : ¬ (y.2.1 = u.2.2.1 ∧ y.2.2.1 < u.2.2.2)) (h3 : y.2.1 = u.2.2.1 ∨ ¬ meetR (treeP g 0) y.2.1 u.2.2.1 = y.2.1) : usesP f (askP f (treeP g 0)) = 7 := by
  refine (usesP_val (askP_val _)).resolve_left fun hc => ?_
  rcases (askP_R hm hs hg (List.mem_of_getElem? hu) h0 hy).1 ((usesP_R hm (ret_ne ht)).1 hc u (List.mem_of_getElem? hu)) with h | h | h
  · exact h1 h
  · exact h2 h
  · rcases h3 with h3 | h3
    · exact h.1 h3
    · exact h3 h.2
theorem askP_y (hm : mayF f = true) (hs : shapeP f = 0) (hg : ofP f = some g) {j : Nat} {u : Use} {y : Int × Def} (hu : (usesR f)[j]? = some u) (h0 : 0 ≤ findD (defsL f) u.1) (hy : (defsL f)[(findD (defsL f) u.1).toNat]? = some y)
    (h : y.2.1 < 0 ∨ (y.2.1 = u.2.2.1 ∧ y.2.2.1 < u.2.2.2) ∨ (y.2.1 ≠ u.2.2.1 ∧ meetR (treeP g 0) y.2.1 u.2.2.1 = y.2.1)) : askP f (treeP g 0) (upU u) = 0 := (askP_R hm hs hg (List.mem_of_getElem? hu) h0 hy).2 h
theorem places_yes {lev : Int} (hm : mayF f = true) (ht : typedP f lev = 0) {t : List Int} (h : ∀ j, j < (usesR f).length → ∀ u, (usesR f)[j]? = some u → askP f t (upU u) = 0) : usesP f (askP f t) = 0 :=
  (usesP_R hm (ret_ne ht)).2 fun u hu => by
    obtain ⟨j, hj⟩ := List.mem_iff_getElem?.1 hu
    exact h j (List.getElem?_eq_some_iff.1 hj).1 u hj
theorem chk_arg {lev : Int} (h : lev < 0 ∨ 2 < lev) : checkP f lev = 1 := if_pos h
section
variable {lev : Int} (h0 : 0 ≤ lev) (h2 : lev ≤ 2)
include h0 h2
theorem chk_size (h : mayF f = false) : checkP f lev = 4 := by rw [checkP, if_neg (by omega), lookP, if_pos h]
theorem chk_shape (hm : mayF f = true) (h : ¬ shapeP f = 0) : checkP f lev = 5 := by
  rw [checkP, if_neg (by omega), lookP, if_neg (by simp [hm]), if_pos h]; exact shapeP_or.resolve_left h
theorem chk_typed (hm : mayF f = true) (hs : shapeP f = 0) (h : ¬ typedP f lev = 0) : checkP f lev = 6 := by
  rw [checkP, if_neg (by omega), lookP, if_neg (by simp [hm]), if_neg (by simp [hs]), if_pos h]; exact typedP_or.resolve_left h
theorem chk_def (hm : mayF f = true) (hs : shapeP f = 0) (ht : typedP f lev = 0) (h : definedP f = 7) : checkP f lev = 7 := by
  rw [checkP, if_neg (by omega), lookP, if_neg (by simp [hm]), if_neg (by simp [hs]), if_neg (by simp [ht]), if_pos (by omega), h]
theorem chk_shapes (hm : mayF f = true) (hs : shapeP f = 0) (ht : typedP f lev = 0) (hd : definedP f = 0) (h : usesP f (askS f) = 6) : checkP f lev = 6 := by
  rw [checkP, if_neg (by omega), lookP, if_neg (by simp [hm]), if_neg (by simp [hs]), if_neg (by simp [ht]), if_neg (by simp [hd]), if_pos (by omega), h]
theorem chk_last (hm : mayF f = true) (hs : shapeP f = 0) (ht : typedP f lev = 0) (hd : definedP f = 0) (h : usesP f (askS f) = 0) (hg : ofP f = some g) : checkP f lev = usesP f (askP f (treeP g 0)) := by
  rw [checkP, if_neg (by omega), lookP, if_neg (by simp [hm]), if_neg (by simp [hs]), if_neg (by simp [ht]), if_neg (by simp [hd]), if_neg (by simp [h]), hg]
end
end
end Go.Proofs.YtipmgkhjoekaaaaGreat
namespace Go.Proofs.YtipmgkhjoekaaaaGreat
open Go Go.Proofs.YtipmgkhjoekaaaaGreat.Fw
def hangK (ops : List FOp) (k : Nat) : List Int := (hangsP ops).getD k []
structure LegSt (ops : List FOp) (l : List Int) : Prop where
  nd : l.Nodup
  rng : ∀ a ∈ l, 0 ≤ a ∧ a < (ops.length : Int)
  ahead : ∀ (k : Nat) a, l[k]? = some a → ∀ z ∈ hangK ops a.toNat, z ∈ l.take k
theorem stands_iff {order : List Int} {k : Nat} {l : List Int} : standsB (putM order k) l = true ↔ ∀ z ∈ l, z ∈ order.take k := by
  rw [standsB, Bool.not_eq_true', List.any_eq_false]
  constructor
  · intro h z hz
    have := h z hz
    rw [inM_putM] at this
    simpa using this
  · intro h z hz
    rw [inM_putM]; simp [h z hz]
theorem legal_iff {b : FBlk} {order : List Int} : legalP b order = true ↔ order.length = b.ops.length ∧ LegSt b.ops order := by
  constructor
  · intro h
    have hlen := legalP_len h
    have hrng := legalP_rng h
    have hok := fun k (hk : k < order.length) => legalP_ok h hk
    have hnot : ∀ k a, order[k]? = some a → a ∉ order.take k := fun k a ha => by
      have := hok k (List.getElem?_eq_some_iff.1 ha).1
      simp only [okO, ha, Bool.and_eq_true, Bool.not_eq_true', inM_putM, decide_eq_false_iff_not] at this
      exact this.2.1
    refine ⟨hlen, ?_, hrng, fun k a ha z hz => ?_⟩
    · rw [List.nodup_iff_pairwise_ne, List.pairwise_iff_getElem]
      intro i j hi hj hij e
      have hj' : order[j]? = some order[j] := List.getElem?_eq_getElem hj
      refine hnot j _ hj' (List.mem_of_getElem? (i := i) ?_)
      rw [List.getElem?_take, if_pos hij, List.getElem?_eq_getElem hi, e]
    · have := hok k (List.getElem?_eq_some_iff.1 ha).1
      simp only [okO, ha, Bool.and_eq_true] at this
      exact stands_iff.1 this.2.2 z hz
  · rintro ⟨hlen, hnd, hrng, hah⟩
    refine legalP_t (by omega) fun j hj => ?_
    have ha : order[j]? = some order[j] := List.getElem?_eq_getElem hj
    have hr := hrng _ (List.getElem_mem hj)
    have hl : (hangsP b.ops)[order[j].toNat]? = some (hangK b.ops order[j].toNat) := by
      rw [hangK, List.getD_eq_getElem?_getD, List.getElem?_eq_getElem (by rw [hangsP_len]; omega)]; rfl
    refine okO_t ha hr.1 hr.2 ?_ hl (stands_iff.2 (hah j _ ha))
    rw [inM_putM, decide_eq_false_iff_not]
    intro hm
    obtain ⟨i, hi⟩ := List.mem_iff_getElem?.1 hm
    rw [List.getElem?_take] at hi
    split at hi
    · have := nodup_idx hnd hi ha; omega
    · cases hi
theorem hangK_rng {ops : List FOp} {k : Nat} (hk : k < ops.length) : ∀ z ∈ hangK ops k, 0 ≤ z ∧ z < (k : Int) := by
  intro z hz
  obtain ⟨l, hl⟩ : ∃ l, (hangsP ops)[k]? = some l := ⟨_, List.getElem?_eq_getElem (by rw [hangsP_len]; exact hk)⟩
  rw [hangK, getDl_of hl] at hz
  exact hangsP_rng hl z hz
theorem flat_more {ops : List FOp} {out : List Int} (h : LegSt ops out) (hlt : out.length < ops.length) : ∃ a, flatNext ops (putL1 out) = some a ∧ a < ops.length ∧ (a : Int) ∉ out ∧ ∀ z ∈ hangK ops a, z ∈ out := by
  classical
  have hex : ∃ k, k < ops.length ∧ (k : Int) ∉ out := by
    refine Classical.byContradiction fun hn => ?_
    have hsub : ∀ z ∈ iota ops.length, z ∈ out := fun z hz => by
      have hz' := mem_iota.1 hz
      refine Classical.byContradiction fun hc => hn ⟨z.toNat, by omega, ?_⟩
      rwa [Int.toNat_of_nonneg hz'.1]
    have := List.Nodup.length_le_of_subset (iota_nd ops.length) hsub
    rw [iota_len] at this; omega
  have hready : ∃ k, k < ops.length ∧ (k : Int) ∉ out ∧ ∀ z ∈ hangK ops k, z ∈ out := by
    obtain ⟨k0, h1, h2⟩ := hex
    have key : ∀ n k, k ≤ n → k < ops.length → (k : Int) ∉ out → ∃ k, k < ops.length ∧ (k : Int) ∉ out ∧ ∀ z ∈ hangK ops k, z ∈ out := by
      intro n
      induction n with
      | zero =>
        intro k hk hkl hko
        refine ⟨k, hkl, hko, fun z hz => ?_⟩
        have := hangK_rng hkl z hz; omega
      | succ n ih =>
        intro k hk hkl hko
        by_cases hall : ∀ z ∈ hangK ops k, z ∈ out
        · exact ⟨k, hkl, hko, hall⟩
        · obtain ⟨z, hz, hzo⟩ : ∃ z, z ∈ hangK ops k ∧ z ∉ out := Classical.byContradiction fun hc => hall fun z hz => Classical.byContradiction fun hzo => hc ⟨z, hz, hzo⟩
          have hzr := hangK_rng hkl z hz
          exact ih z.toNat (by omega) (by omega) (by rwa [Int.toNat_of_nonneg hzr.1])
    exact key k0 k0 (Nat.le_refl _) h1 h2
  have hcond : ∀ (pass : Bool) (a : Nat), condF ops (putL1 out) pass a = true ↔ ((a : Int) ∉ out ∧ pureK (ops.getD a default).kind = pass ∧ ∀ z ∈ hangK ops a, z ∈ out) := fun pass a => by
    have hs : standsB (putL1 out) ((hangsP ops).getD a []) = true ↔ ∀ z ∈ hangK ops a, z ∈ out := by
      rw [putL1, stands_iff, List.take_length]; rfl
    rw [condF, Bool.and_eq_true, Bool.and_eq_true, hs, beq_iff_eq, Bool.not_eq_true', putL1_in, decide_eq_false_iff_not]
  obtain ⟨k, hk1, hk2, hk3⟩ := hready
  have hsome : ∃ a, flatNext ops (putL1 out) = some a := by
    cases hf : flatNext ops (putL1 out) with
    | some a => exact ⟨a, rfl⟩
    | none =>
      exfalso
      rw [flatNext] at hf
      split at hf
      · cases hf
      · rename_i h1
        have h2 := List.find?_eq_none.1 h1 k (List.mem_range.2 hk1)
        have h3 := List.find?_eq_none.1 hf k (List.mem_range.2 hk1)
        rw [hcond] at h2 h3
        cases hp : pureK (ops.getD k default).kind with
        | true => exact h2 ⟨hk2, hp, hk3⟩
        | false => exact h3 ⟨hk2, hp, hk3⟩
  obtain ⟨a, ha⟩ := hsome
  refine ⟨a, ha, ?_⟩
  rw [flatNext] at ha
  split at ha
  · rename_i a' h1
    obtain rfl := Option.some.inj ha
    have h2 := (hcond _ _).1 (List.find?_some h1)
    exact ⟨List.mem_range.1 (List.mem_of_find?_eq_some h1), h2.1, h2.2.2⟩
  · have h2 := (hcond _ _).1 (List.find?_some ha)
    exact ⟨List.mem_range.1 (List.mem_of_find?_eq_some ha), h2.1, h2.2.2⟩
theorem LegSt.snoc {ops : List FOp} {out : List Int} (h : LegSt ops out) {a : Nat} (ha : a < ops.length) (hn : (a : Int) ∉ out) (hh : ∀ z ∈ hangK ops a, z ∈ out) : LegSt ops (out ++ [(a : Int)]) := by
  refine ⟨?_, fun z hz => ?_, fun k z hz y hy => ?_⟩
  · rw [List.nodup_append]
    exact ⟨h.nd, by simp, fun x hx y hy => by simp at hy; subst hy; rintro rfl; exact hn hx⟩
  · rcases List.mem_append.1 hz with hz | hz
    · exact h.rng z hz
    · simp at hz; subst hz; omega
  · by_cases hk : k < out.length
    · rw [List.getElem?_append_left hk] at hz
      rw [List.take_append_of_le_length (by omega)]
      exact h.ahead k z hz y hy
    · rw [List.getElem?_append_right (by omega)] at hz
      have hk0 : k - out.length = 0 := by
        have := (List.getElem?_eq_some_iff.1 hz).1
        simp at this; omega
      rw [hk0] at hz
      simp at hz; subst hz
      rw [List.take_append_of_le_length (by omega), show k = out.length by omega, List.take_length]
      exact hh y (by simpa using hy)
theorem legSt_nil (ops : List FOp) : LegSt ops [] := ⟨List.nodup_nil, by simp, by simp⟩
theorem depK_take {ll : List (List Int)} : ∀ k n : Nat, k ≤ n → n ≤ ll.length → (depK ll n).take k = depK ll k
  | k, 0, h, _ => by obtain rfl : k = 0 := by omega
                     simp [depK]
  | k, n + 1, h, hn => by
    by_cases e : k = n + 1
    · subst e; rw [List.take_of_length_le (by rw [depK_len ll _ hn]; omega)]
    · rw [depK_succ (List.getElem?_eq_getElem (by omega)), List.take_append_of_le_length (by rw [depK_len ll _ (by omega)]; omega), depK_take k n (by omega) (by omega)]
theorem depP_len (ll : List (List Int)) : (depP ll).length = ll.length := depK_len ll _ (Nat.le_refl _)
theorem depP_get {ll : List (List Int)} {k : Nat} {l : List Int} (h : ll[k]? = some l) : (depP ll)[k]? = some (depS ll (depK ll k) l) := by
  have hk := (List.getElem?_eq_some_iff.1 h).1
  have h1 : ((depP ll).take (k + 1))[k]? = (depP ll)[k]? := by rw [List.getElem?_take, if_pos (by omega)]
  rw [← h1, depP, depK_take (k + 1) _ (by omega) (Nat.le_refl _), depK_succ h, List.getElem?_append_right (by rw [depK_len ll _ (by omega)]; omega), depK_len ll _ (by omega)]
  simp
theorem depS_same {ll : List (List Int)} {out out' : List Int} : ∀ {l : List Int}, (∀ z ∈ l, out.getD z.toNat 0 = out'.getD z.toNat 0) → depS ll out l = depS ll out' l := by
  intro l
  refine snoc_ind (p := fun l => (∀ z ∈ l, out.getD z.toNat 0 = out'.getD z.toNat 0) → depS ll out l = depS ll out' l) (fun _ => rfl) (fun l x ih h => ?_) l
  have e : ∀ o, depS ll o (l ++ [x]) = max (depS ll o l) (o.getD x.toNat 0 + 1) := fun o => by simp [depS]
  rw [e, e, ih fun z hz => h z (by simp [hz]), h x (by simp)]
theorem depP_at {ops : List FOp} {k : Nat} {l : List Int} (h : (hangsP ops)[k]? = some l) : (depP (hangsP ops))[k]? = some (depS (hangsP ops) (depP (hangsP ops)) l) := by
  have hk := (List.getElem?_eq_some_iff.1 h).1
  rw [depP_get h]
  refine congrArg some (depS_same fun z hz => ?_)
  have hr := hangsP_rng h z hz
  have e : (depK (hangsP ops) k).getD z.toNat 0 = ((depP (hangsP ops)).take k).getD z.toNat 0 := by rw [depP, depK_take k _ (by omega) (Nat.le_refl _)]
  rw [e, List.getD_eq_getElem?_getD, List.getD_eq_getElem?_getD, List.getElem?_take, if_pos (by omega)]
theorem depP_rng {ops : List FOp} : ∀ v ∈ depP (hangsP ops), 0 ≤ v ∧ v < (ops.length : Int) := by
  have := depK_rng (ops := ops) (hangsP ops).length (by rw [hangsP_len]; exact Nat.le_refl _)
  rw [hangsP_len] at this
  rw [depP, hangsP_len]; exact this
def hangB (ops : List FOp) (at_ k : Nat) : Bool := decide (k < at_) && (match ops[k]?, ops[at_]? with
  | some x, some y => (!(x.dst == 0) && y.args.contains x.dst) || (!(pureK x.kind) && !(pureK y.kind))
  | _, _ => false)
theorem hangB_of {ops : List FOp} {at_ k : Nat} {x y : FOp} (hx : ops[k]? = some x) (hy : ops[at_]? = some y) : hangB ops at_ k = (decide (k < at_) && ((!(x.dst == 0) && y.args.contains x.dst) || (!(pureK x.kind) && !(pureK y.kind)))) := by rw [hangB, hx, hy]
section
variable {f : FFun} {B : Nat} {b : FBlk}
theorem dst_pos (ht : typedP f 2 = 0) (hb : f.blocks[B]? = some b) {k : Nat} {o : FOp} (ho : b.ops[k]? = some o) : 0 ≤ o.dst := by
  have hmo := typed_ops ht hb ho
  simp only [mayOpK, Bool.and_eq_true] at hmo
  have h3 := hmo.2.2.1
  split at h3
  · rw [beq_iff_eq] at h3; omega
  · simp only [valueB, Bool.and_eq_true, decide_eq_true_eq] at h3; omega
theorem defsH_from {ops : List FOp} {v z : Int} : ∀ k : Nat, k ≤ ops.length → getL (defsH ops k) v = some z → ∃ (j : Nat) (o : FOp), j < k ∧ z = (j : Int) ∧ ops[j]? = some o ∧ o.dst = v ∧ 0 < v
  | 0, _, h => by simp [defsH, getL] at h
  | k + 1, hk, h => by
    have ho : ops[k]? = some ops[k] := List.getElem?_eq_getElem (by omega)
    by_cases hd : 0 < ops[k].dst
    · rw [defsH_step1 ho hd, getL_putL] at h
      by_cases e : ops[k].dst = v
      · rw [if_pos e] at h
        exact ⟨k, ops[k], by omega, (Option.some.inj h).symm, ho, e, by omega⟩
      · rw [if_neg e] at h
        obtain ⟨j, o, h1, h2⟩ := defsH_from k (by omega) h
        exact ⟨j, o, by omega, h2⟩
    · rw [defsH_step0 ho hd] at h
      obtain ⟨j, o, h1, h2⟩ := defsH_from k (by omega) h
      exact ⟨j, o, by omega, h2⟩
theorem hang_on (hn : ((defsL f).map (·.1)).Nodup) (ht : typedP f 2 = 0) (hb : f.blocks[B]? = some b) {at_ k : Nat} (ha : at_ < b.ops.length) (hk : k < b.ops.length) : (k : Int) ∈ hangK b.ops at_ ↔ hangB b.ops at_ k = true := by
  have hy : b.ops[at_]? = some b.ops[at_] := List.getElem?_eq_getElem ha
  have hx : b.ops[k]? = some b.ops[k] := List.getElem?_eq_getElem hk
  rw [hangK, getDl_of (hangsP_get hy), mem_sortC, hangB_of hx hy]
  simp only [Bool.and_eq_true, Bool.or_eq_true, Bool.not_eq_true', decide_eq_true_eq, beq_eq_false_iff_ne]
  constructor
  · intro h
    have hlt := rawH_rng (ops := b.ops) (b.ops[at_], at_) _ h
    simp only at hlt
    refine ⟨by omega, ?_⟩
    rcases List.mem_append.1 h with h | h
    · left
      simp only [argsH, List.mem_filterMap] at h
      obtain ⟨v, hv, hg⟩ := h
      obtain ⟨j, o, h1, h2, h3, h4, h5⟩ := defsH_from at_ (by omega) hg
      have : j = k := by omega
      subst this
      rw [hx] at h3; cases h3
      rw [h4]
      exact ⟨by omega, by simpa using hv⟩
    · right
      simp only at h
      split at h
      · cases h
      · rename_i hp
        obtain ⟨j, o, h1, h2, h3, h4⟩ := mem_impH.1 h
        have : j = k := by omega
        subst this
        rw [hx] at h2; cases h2
        exact ⟨h3, by simpa using hp⟩
  · rintro ⟨hlt, h | h⟩
    · have hpos := dst_pos ht hb hx
      exact raw_arg hn ht hb hy hx hlt (by simpa using h.2) rfl (by omega)
    · refine List.mem_append.2 (.inr ?_)
      simp only [h.2, Bool.false_eq_true, if_false]
      exact mem_impH.2 ⟨k, b.ops[k], hlt, hx, h.1, rfl⟩
def onF2 (ops : List FOp) (at_ n : Nat) : List Int := ((List.range n).filter fun k => hangB ops at_ k).map fun (k : Nat) => (k : Int)
theorem onF2_succ (ops : List FOp) (at_ n : Nat) : onF2 ops at_ (n + 1) = onF2 ops at_ n ++ (if hangB ops at_ n = true then [(n : Int)] else []) := by
  rw [onF2, List.range_succ, List.filter_append, List.map_append]
  congr 1
  by_cases h : hangB ops at_ n = true
  · simp only [List.filter_cons, h, if_true, List.filter_nil, List.map_cons, List.map_nil]
  · simp only [List.filter_cons, h, List.filter_nil]; simp
theorem onF2_len (ops : List FOp) (at_ n : Nat) : (onF2 ops at_ n).length ≤ n := by
  rw [onF2, List.length_map]
  have := List.length_filter_le (fun k => hangB ops at_ k) (List.range n)
  rwa [List.length_range] at this
theorem onF2_rng {ops : List FOp} {at_ n : Nat} : ∀ z ∈ onF2 ops at_ n, 0 ≤ z ∧ z < (n : Int) := by
  intro z hz
  simp only [onF2, List.mem_map, List.mem_filter, List.mem_range] at hz
  obtain ⟨j, ⟨hj, _⟩, rfl⟩ := hz; omega
theorem hang_list (hn : ((defsL f).map (·.1)).Nodup) (ht : typedP f 2 = 0) (hb : f.blocks[B]? = some b) {at_ : Nat} (ha : at_ < b.ops.length) : onF2 b.ops at_ at_ = hangK b.ops at_ := by
  have hy : b.ops[at_]? = some b.ops[at_] := List.getElem?_eq_getElem ha
  have h1 : (onF2 b.ops at_ at_).Pairwise (· < ·) := by
    rw [onF2, List.pairwise_map]
    exact (List.pairwise_lt_range.filter (p := fun k => hangB b.ops at_ k)).imp (by intro a b hab; omega)
  have h2 : (hangK b.ops at_).Pairwise (· < ·) := by rw [hangK, getDl_of (hangsP_get hy)]; exact sortC_pair _
  have hm : ∀ z, z ∈ onF2 b.ops at_ at_ ↔ z ∈ hangK b.ops at_ := fun z => by
    constructor
    · intro hz
      simp only [onF2, List.mem_map, List.mem_filter, List.mem_range] at hz
      obtain ⟨j, ⟨hj, ho⟩, rfl⟩ := hz
      exact (hang_on hn ht hb ha (by omega)).2 ho
    · intro hz
      have hr := hangK_rng ha z hz
      have e : z = ((z.toNat : Nat) : Int) := by omega
      rw [e] at hz
      have := (hang_on hn ht hb ha (by omega)).1 hz
      rw [e]
      simp only [onF2, List.mem_map, List.mem_filter, List.mem_range]
      exact ⟨z.toNat, ⟨by omega, this⟩, rfl⟩
  have hp : (onF2 b.ops at_ at_).Perm (hangK b.ops at_) := (List.perm_ext_iff_of_nodup (by rw [List.nodup_iff_pairwise_ne]; exact h1.imp (by intro a b hab; omega)) (by rw [List.nodup_iff_pairwise_ne]; exact h2.imp (by intro a b hab; omega))).2 hm
  exact hp.eq_of_pairwise (le := fun a b => a < b) (fun a b _ _ h3 h4 => by omega) h1 h2
end
end Go.Proofs.YtipmgkhjoekaaaaGreat
namespace Go.Proofs.YtipmgkhjoekaaaaGreat
open Go Go.Proofs.YtipmgkhjoekaaaaGreat.Fw
section
variable {f : FFun} {kk : Int} {b : FBlk}
theorem DepthP_eq (hrt : rightP f kk = true) (hb : f.blocks[kk.toNat]? = some b) : DepthP f kk = depP (hangsP b.ops) ∧ (DepthP f kk).length = b.ops.length := by
  have h := DepthP_t hrt hb
  exact ⟨h, by rw [h, depP_len, hangsP_len]⟩
theorem hangK_get {ops : List FOp} {k : Nat} (hk : k < ops.length) : (hangsP ops)[k]? = some (hangK ops k) := by
  rw [hangK, List.getD_eq_getElem?_getD, List.getElem?_eq_getElem (by rw [hangsP_len]; exact hk)]; rfl
theorem HangsP_eq (hrt : rightP f kk = true) (hb : f.blocks[kk.toNat]? = some b) {k : Nat} (hk : k < b.ops.length) : HangsP f kk (k : Int) = hangK b.ops k :=
  HangsP_t hrt (by omega) hb (by rw [Int.toNat_natCast]; exact hangK_get hk)
theorem depth_eq (hrt : rightP f kk = true) (hb : f.blocks[kk.toNat]? = some b) {k : Nat} {c : Int} (h : (DepthP f kk)[k]? = some c) : c = depS (hangsP b.ops) (DepthP f kk) (HangsP f kk (k : Int)) := by
  have hk := (List.getElem?_eq_some_iff.1 h).1
  rw [(DepthP_eq hrt hb).2] at hk
  rw [HangsP_eq hrt hb hk]
  rw [(DepthP_eq hrt hb).1] at h ⊢
  rw [depP_at (hangK_get hk)] at h
  exact (Option.some.inj h).symm
theorem depth_i64 (hrt : rightP f kk = true) (hb : f.blocks[kk.toNat]? = some b) : ∀ v ∈ DepthP f kk, 0 ≤ v ∧ v < (b.ops.length : Int) := by
  rw [(DepthP_eq hrt hb).1]; exact depP_rng
end
end Go.Proofs.YtipmgkhjoekaaaaGreat
