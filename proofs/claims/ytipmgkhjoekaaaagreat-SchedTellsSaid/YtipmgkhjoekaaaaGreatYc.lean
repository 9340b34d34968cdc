/- A part of a proof about a given program: rules, plain functions and walks. -/
import Derived.Test.YtipmgkhjoekaaaaGreatProg
import Derived.Shelf.Small.Bits
import Derived.Shelf.Small.Wraps
import Derived.Shelf.Strconv.Itoa0
import Derived.Shelf.Sort.Plain
import Derived.Shelf.Slices.Reverse
import Derived.Ground.Names2Prog
import Derived.Shelf.Slices.CompactI
import Derived.Shelf.Slices.Cells
import Derived.Shelf.Slices.In.SortNone
import Derived.Test.YtipmgkhjoekaaaaGreatYb
set_option linter.unusedVariables false
set_option linter.unusedSimpArgs false
namespace Go.Proofs.YtipmgkhjoekaaaaGreat
open Go Go.Proofs.YtipmgkhjoekaaaaGreat.Fw
section
variable {f : FFun} {block : Int} {b : FBlk}
theorem right_iff : rightP f block = true ↔ checkP f 2 = 0 ∧ 0 ≤ block ∧ block < (f.blocks.length : Int) := by
  simp only [rightP, Bool.and_eq_true, decide_eq_true_eq, beq_iff_eq]
  exact ⟨fun ⟨a, b, c⟩ => ⟨c, a, b⟩, fun ⟨c, a, b⟩ => ⟨a, b, c⟩⟩
theorem hang_all (hrt : rightP f block = true) (hb : f.blocks[block.toNat]? = some b) {at_ : Nat} (ha : at_ < b.ops.length) : onF2 b.ops at_ at_ = hangK b.ops at_ := by
  obtain ⟨_, _, c3, c4, _, _⟩ := checkP_zero.1 (right_iff.1 hrt).1
  exact hang_list (definedP_zero.1 c4).1.2 c3 hb ha
theorem hang_mem (hrt : rightP f block = true) (hb : f.blocks[block.toNat]? = some b) {at_ k : Nat} (ha : at_ < b.ops.length) (hk : k < b.ops.length) : (k : Int) ∈ hangK b.ops at_ ↔ hangB b.ops at_ k = true := by
  obtain ⟨_, _, c3, c4, _, _⟩ := checkP_zero.1 (right_iff.1 hrt).1
  exact hang_on (definedP_zero.1 c4).1.2 c3 hb ha hk
theorem hangs19 (hrt : rightP f block = true) (hb : f.blocks[block.toNat]? = some b) {at_ : Int} (h0 : 0 ≤ at_) (ha : at_ < (b.ops.length : Int)) : onF2 b.ops at_.toNat at_.toNat = HangsP f block at_ := by
  rw [hang_all hrt hb (by omega), HangsP_t hrt h0 hb (hangK_get (by omega))]
theorem cover {order : List Int} {n : Nat} (hl : order.length = n) (hsub : ∀ z ∈ iota n, z ∈ order) : order.Nodup ∧ ∀ a ∈ order, a ∈ iota n := by
  constructor
  · rw [List.nodup_iff_pairwise_ne, List.pairwise_iff_getElem]
    intro i j hi hj hij e
    have hs : iota n ⊆ order.eraseIdx j := fun z hz => by
      obtain ⟨q, hq⟩ := List.mem_iff_getElem?.1 (hsub z hz)
      rw [List.mem_eraseIdx_iff_getElem?]
      by_cases hqj : q = j
      · subst hqj
        refine ⟨i, by omega, ?_⟩
        rw [List.getElem?_eq_getElem hi, e, ← List.getElem?_eq_getElem hj]; exact hq
      · exact ⟨q, hqj, hq⟩
    have := List.Nodup.length_le_of_subset (iota_nd n) hs
    rw [iota_len, List.length_eraseIdx_of_lt hj] at this
    omega
  · intro a ha
    refine Classical.byContradiction fun hn => ?_
    have hs : (a :: iota n) ⊆ order := fun z hz => by
      rcases List.mem_cons.1 hz with rfl | hz
      · exact ha
      · exact hsub z hz
    have := List.Nodup.length_le_of_subset (List.nodup_cons.2 ⟨hn, iota_nd n⟩) hs
    rw [List.length_cons, iota_len] at this
    omega
theorem legal19 (hrt : rightP f block = true) (hb : f.blocks[block.toNat]? = some b) {order : List Int} (hl : order.length = b.ops.length) (h1 : ∀ j, j < order.length → order.contains (j : Int) = true)
    (h2 : ∀ i, i < order.length → ∀ k, i < k → k < order.length → ∀ x y, order[i]? = some x → order[k]? = some y → hangB b.ops x.toNat y.toNat = false) : LegalP f block order = true := by
  rw [LegalP_t hrt hb]
  have hsub : ∀ z ∈ iota b.ops.length, z ∈ order := fun z hz => by
    have hz' := mem_iota.1 hz
    have := h1 z.toNat (by omega)
    rw [Int.toNat_of_nonneg hz'.1] at this
    simpa using this
  obtain ⟨hnd, hin⟩ := cover hl hsub
  have hrng : ∀ a ∈ order, 0 ≤ a ∧ a < (b.ops.length : Int) := fun a ha => mem_iota.1 (hin a ha)
  refine legal_iff.2 ⟨hl, hnd, hrng, fun k a ha z hz => ?_⟩
  have har := hrng a (List.mem_of_getElem? ha)
  have hzr := hangK_rng (ops := b.ops) (k := a.toNat) (by omega) z hz
  obtain ⟨j, hj⟩ := List.mem_iff_getElem?.1 (hsub z (mem_iota.2 ⟨hzr.1, by omega⟩))
  have hjl := (List.getElem?_eq_some_iff.1 hj).1
  have hkl := (List.getElem?_eq_some_iff.1 ha).1
  by_cases hjk : j < k
  · refine List.mem_of_getElem? (i := j) ?_
    rw [List.getElem?_take, if_pos hjk]; exact hj
  · exfalso
    have hne : j ≠ k := by
      rintro rfl
      rw [ha] at hj
      have := Option.some.inj hj
      omega
    have h3 := h2 k hkl j (by omega) hjl a z ha hj
    have e : z = ((z.toNat : Nat) : Int) := by omega
    rw [e] at hz
    rw [(hang_mem hrt hb (by omega) (by omega)).1 hz] at h3
    cases h3
theorem legal19_len (hrt : rightP f block = true) (hb : f.blocks[block.toNat]? = some b) {order : List Int} (h : ¬ order.length = b.ops.length) : LegalP f block order = false := by
  rw [LegalP_t hrt hb]
  cases hc : legalP b order with
  | false => rfl
  | true => exact absurd (legal_iff.1 hc).1 h
theorem legal19_has (hrt : rightP f block = true) (hb : f.blocks[block.toNat]? = some b) {order : List Int} (hl : order.length = b.ops.length) {j : Nat} (hj : j < order.length) (h : order.contains (j : Int) = false) : LegalP f block order = false := by
  rw [LegalP_t hrt hb]
  cases hc : legalP b order with
  | false => rfl
  | true =>
    have hls := (legal_iff.1 hc).2
    have := full_order (n := b.ops.length) hl hls.nd hls.rng (k := j) (by omega)
    have : order.contains (j : Int) = true := by simpa using this
    rw [h] at this; cases this
theorem legal19_on (hrt : rightP f block = true) (hb : f.blocks[block.toNat]? = some b) {order : List Int} (hl : order.length = b.ops.length) {i k : Nat} {x y : Int} (hik : i < k) (hx : order[i]? = some x) (hy : order[k]? = some y) (h : hangB b.ops x.toNat y.toNat = true) : LegalP f block order = false := by
  rw [LegalP_t hrt hb]
  cases hc : legalP b order with
  | false => rfl
  | true =>
    exfalso
    have hls := (legal_iff.1 hc).2
    have hxr := hls.rng x (List.mem_of_getElem? hx)
    have hyr := hls.rng y (List.mem_of_getElem? hy)
    have hz := (hang_mem hrt hb (at_ := x.toNat) (k := y.toNat) (by omega) (by omega)).2 h
    rw [Int.toNat_of_nonneg hyr.1] at hz
    have hm := hls.ahead i x hx y hz
    obtain ⟨q, hq⟩ := List.mem_iff_getElem?.1 hm
    rw [List.getElem?_take] at hq
    split at hq
    · have := nodup_idx hls.nd hq hy; omega
    · cases hq
theorem perm_rng {order : List Int} {n : Nat} (hl : order.length = n) (h1 : ∀ j, j < order.length → order.contains (j : Int) = true) : ∀ a ∈ order, 0 ≤ a ∧ a < (n : Int) := by
  have hsub : ∀ z ∈ iota n, z ∈ order := fun z hz => by
    have hz' := mem_iota.1 hz
    have := h1 z.toNat (by omega)
    rw [Int.toNat_of_nonneg hz'.1] at this
    simpa using this
  exact fun a ha => mem_iota.1 ((cover hl hsub).2 a ha)
end
def readyB (ops : List FOp) (out : List Int) (a : Nat) : Bool := !(out.contains (a : Int)) && (List.range a).all fun k => !(hangB ops a k) || out.contains (k : Int)
structure BestSt (ops : List FOp) (out : List Int) (n : Nat) (best : Int) : Prop where
  none : best = -1 → ∀ a, a < n → readyB ops out a = false
  some_ : best ≠ -1 → 0 ≤ best ∧ best.toNat < n ∧ readyB ops out best.toNat = true ∧
    (pureK (ops.getD best.toNat default).kind = true → ∀ a, a < best.toNat → readyB ops out a = true → pureK (ops.getD a default).kind = false) ∧
    (pureK (ops.getD best.toNat default).kind = false → (∀ a, a < n → readyB ops out a = true → pureK (ops.getD a default).kind = false) ∧ ∀ a, a < best.toNat → readyB ops out a = false)
theorem bestSt_init (ops : List FOp) (out : List Int) : BestSt ops out 0 (-1) := ⟨fun _ a ha => absurd ha (by omega), fun h => absurd rfl h⟩
section
variable {ops : List FOp} {out : List Int} {n : Nat} {best : Int}
theorem BestSt.skip (h : BestSt ops out n best) (hr : readyB ops out n = false) : BestSt ops out (n + 1) best := by
  refine ⟨fun hb a ha => ?_, fun hb => ?_⟩
  · by_cases e : a = n
    · subst e; exact hr
    · exact h.none hb a (by omega)
  · obtain ⟨h1, h2, h3, h4, h5⟩ := h.some_ hb
    refine ⟨h1, by omega, h3, h4, fun hp => ⟨fun a ha hra => ?_, (h5 hp).2⟩⟩
    by_cases e : a = n
    · subst e; rw [hr] at hra; cases hra
    · exact (h5 hp).1 a (by omega) hra
theorem BestSt.keep (h : BestSt ops out n best) (hb : best ≠ -1) (hk : pureK (ops.getD n default).kind = false ∨ pureK (ops.getD best.toNat default).kind = true) : BestSt ops out (n + 1) best := by
  refine ⟨fun hb' => absurd hb' hb, fun _ => ?_⟩
  obtain ⟨h1, h2, h3, h4, h5⟩ := h.some_ hb
  refine ⟨h1, by omega, h3, h4, fun hp => ⟨fun a ha hra => ?_, (h5 hp).2⟩⟩
  by_cases e : a = n
  · subst e
    rcases hk with hk | hk
    · exact hk
    · rw [hp] at hk; cases hk
  · exact (h5 hp).1 a (by omega) hra
theorem BestSt.put (h : BestSt ops out n best) (hr : readyB ops out n = true) (hb : best = -1 ∨ (pureK (ops.getD n default).kind = true ∧ pureK (ops.getD best.toNat default).kind = false)) : BestSt ops out (n + 1) (n : Int) := by
  refine ⟨fun hb' => by omega, fun _ => ⟨by omega, by omega, by simpa using hr, fun hp a ha hra => ?_, fun hp => ?_⟩⟩
  · simp only [Int.toNat_natCast] at ha
    rcases hb with hb | hb
    · rw [h.none hb a ha] at hra; cases hra
    · by_cases e : best = -1
      · rw [h.none e a ha] at hra; cases hra
      · exact ((h.some_ e).2.2.2.2 hb.2).1 a ha hra
  · simp only [Int.toNat_natCast] at hp ⊢
    rcases hb with hb | hb
    · refine ⟨fun a ha hra => ?_, fun a ha => h.none hb a ha⟩
      by_cases e : a = n
      · subst e; exact hp
      · rw [h.none hb a (by omega)] at hra; cases hra
    · rw [hp] at hb; cases hb.1
end
section
variable {f : FFun} {block : Int} {b : FBlk}
theorem ready_cond (hrt : rightP f block = true) (hb : f.blocks[block.toNat]? = some b) {out : List Int} {a : Nat} (ha : a < b.ops.length) (p : Bool) : condF b.ops (putL1 out) p a = (readyB b.ops out a && (pureK (b.ops.getD a default).kind == p)) := by
  refine bool_ext ?_
  rw [condF, readyB]
  have hs : standsB (putL1 out) ((hangsP b.ops).getD a []) = true ↔ ((List.range a).all fun k => !(hangB b.ops a k) || out.contains (k : Int)) = true := by
    rw [putL1, stands_iff, List.take_length, List.all_eq_true]
    show (∀ z ∈ hangK b.ops a, z ∈ out) ↔ _
    constructor
    · intro h k hk
      have hk' := List.mem_range.1 hk
      cases hh : hangB b.ops a k with
      | false => rfl
      | true => simpa using h (k : Int) ((hang_mem hrt hb ha (by omega)).2 hh)
    · intro h z hz
      have hr := hangK_rng ha z hz
      have e : z = ((z.toNat : Nat) : Int) := by omega
      rw [e] at hz ⊢
      have h1 := h z.toNat (List.mem_range.2 (by omega))
      rw [(hang_mem hrt hb ha (by omega)).1 hz] at h1
      simpa using h1
  simp only [Bool.and_eq_true, hs, putL1_in, Bool.not_eq_true', decide_eq_false_iff_not]
  have hc : out.contains (a : Int) = false ↔ (a : Int) ∉ out := by rw [← Bool.not_eq_true]; simp
  rw [hc]
  constructor
  · rintro ⟨h1, h2, h3⟩; exact ⟨⟨h1, h3⟩, h2⟩
  · rintro ⟨⟨h1, h3⟩, h2⟩; exact ⟨h1, h2, h3⟩
theorem best_next (hrt : rightP f block = true) (hb : f.blocks[block.toNat]? = some b) {out : List Int} {best : Int} (h : BestSt b.ops out b.ops.length best) (hls : LegSt b.ops out) (hlt : out.length < b.ops.length) : 0 ≤ best ∧ best.toNat < b.ops.length ∧ flatNext b.ops (putL1 out) = some best.toNat ∧ LegSt b.ops (out ++ [best]) := by
  obtain ⟨a, h1, h2, h3, h4⟩ := flat_more hls hlt
  have hra : readyB b.ops out a = true := by
    have hc := ready_cond hrt hb (out := out) h2 (pureK (b.ops.getD a default).kind)
    have : condF b.ops (putL1 out) (pureK (b.ops.getD a default).kind) a = true := by
      rw [flatNext] at h1
      split at h1
      · rename_i a' h5
        obtain rfl := Option.some.inj h1
        have h6 := List.find?_some h5
        have h7 := ready_cond hrt hb (out := out) h2 true
        rw [h6] at h7
        have h8 := h7.symm
        simp only [Bool.and_eq_true, beq_iff_eq] at h8
        rw [h8.2]; exact h6
      · have h6 := List.find?_some h1
        have h7 := ready_cond hrt hb (out := out) h2 false
        rw [h6] at h7
        have h8 := h7.symm
        simp only [Bool.and_eq_true, beq_iff_eq] at h8
        rw [h8.2]; exact h6
    rw [this] at hc
    have h8 := hc.symm
    simp only [Bool.and_eq_true] at h8
    exact h8.1
  have hbn : best ≠ -1 := fun e => by
    have := h.none e a h2
    rw [hra] at this; cases this
  obtain ⟨s1, s2, s3, s4, s5⟩ := h.some_ hbn
  have hnext : flatNext b.ops (putL1 out) = some best.toNat := by
    cases hp : pureK (b.ops.getD best.toNat default).kind with
    | true =>
      refine flatNext_some (k0 := 0) (by omega) s2 (fun j hj => absurd hj (by omega)) (fun a' ha' => ?_) ?_
      · show condF b.ops (putL1 out) true a' = false
        rw [ready_cond hrt hb (by omega)]
        cases hr : readyB b.ops out a' with
        | false => rfl
        | true => rw [s4 hp a' ha' hr]; rfl
      · show condF b.ops (putL1 out) true best.toNat = true
        rw [ready_cond hrt hb s2, s3, hp]; rfl
    | false =>
      refine flatNext_some (k0 := 1) (by omega) s2 (fun j hj a' ha' => ?_) (fun a' ha' => ?_) ?_
      · have : j = 0 := by omega
        subst this
        show condF b.ops (putL1 out) true a' = false
        rw [ready_cond hrt hb ha']
        cases hr : readyB b.ops out a' with
        | false => rfl
        | true => rw [(s5 hp).1 a' ha' hr]; rfl
      · show condF b.ops (putL1 out) false a' = false
        rw [ready_cond hrt hb (by omega), (s5 hp).2 a' ha']; rfl
      · show condF b.ops (putL1 out) false best.toNat = true
        rw [ready_cond hrt hb s2, s3, hp]; rfl
  refine ⟨s1, s2, hnext, ?_⟩
  rw [hnext] at h1
  obtain rfl := Option.some.inj h1
  have := hls.snoc h2 h3 h4
  rwa [Int.toNat_of_nonneg s1] at this
structure FlatR (ops : List FOp) (out : List Int) : Prop where
  leg : LegSt ops out
  run : flatP ops = flatRun ops (ops.length - out.length) out
theorem flatR_init (ops : List FOp) : FlatR ops [] := ⟨legSt_nil ops, rfl⟩
theorem FlatR.len {ops : List FOp} {out : List Int} (h : FlatR ops out) : out.length ≤ ops.length := subset_range h.leg.rng h.leg.nd
theorem FlatR.step (hrt : rightP f block = true) (hb : f.blocks[block.toNat]? = some b) {out : List Int} {best : Int} (h : FlatR b.ops out) (hs : BestSt b.ops out b.ops.length best) (hlt : out.length < b.ops.length) : FlatR b.ops (out ++ [best]) := by
  obtain ⟨s1, s2, s3, s4⟩ := best_next hrt hb hs h.leg hlt
  refine ⟨s4, ?_⟩
  rw [h.run, show b.ops.length - out.length = (b.ops.length - (out ++ [best]).length) + 1 by simp; omega, flatRun, s3]
  simp only
  rw [Int.toNat_of_nonneg s1]
theorem FlatR.done {ops : List FOp} {out : List Int} (h : FlatR ops out) (hl : ¬ out.length < ops.length) : flatP ops = out := by
  rw [h.run, show ops.length - out.length = 0 by omega]; rfl
end
theorem ready_step {ops : List FOp} {out : List Int} {a k : Nat} {x : Bool} (h : x = (!(out.contains (a : Int)) && (List.range k).all fun k => !(hangB ops a k) || out.contains (k : Int))) {y : Bool} (hy : y = (x && (!(hangB ops a k) || out.contains (k : Int)))) : y = (!(out.contains (a : Int)) && (List.range (k + 1)).all fun k => !(hangB ops a k) || out.contains (k : Int)) := by
  rw [hy, h, List.range_succ, List.all_append, Bool.and_assoc]; simp
def wantS (ops : List FOp) (d : List Int) (at_ k : Nat) : Int := (List.range k).foldl (fun w j => if hangB ops at_ j = true then max w (d.getD j 0 + 1) else w) 0
theorem wantS_succ (ops : List FOp) (d : List Int) (at_ k : Nat) : wantS ops d at_ (k + 1) = if hangB ops at_ k = true then max (wantS ops d at_ k) (d.getD k 0 + 1) else wantS ops d at_ k := by
  rw [wantS, List.range_succ, List.foldl_append]; rfl
theorem wantS_eq {ops : List FOp} {d : List Int} {ll : List (List Int)} {at_ : Nat} : ∀ k : Nat, wantS ops d at_ k = depS ll d (onF2 ops at_ k)
  | 0 => rfl
  | k + 1 => by
    rw [wantS_succ, wantS_eq (ll := ll) k, onF2_succ]
    by_cases h : hangB ops at_ k = true
    · rw [if_pos h, if_pos h, depS, depS, List.foldl_append]; simp
    · rw [if_neg h, if_neg h, List.append_nil]
theorem want_end {f : FFun} {block : Int} {b : FBlk} (hrt : rightP f block = true) (hb : f.blocks[block.toNat]? = some b) {k : Nat} {c : Int} (h : (DepthP f block)[k]? = some c) : c = wantS b.ops (DepthP f block) k k := by
  have hk := (List.getElem?_eq_some_iff.1 h).1
  rw [(DepthP_eq hrt hb).2] at hk
  rw [wantS_eq (ll := hangsP b.ops), hang_all hrt hb hk, ← HangsP_eq hrt hb hk]
  exact depth_eq hrt hb h
end Go.Proofs.YtipmgkhjoekaaaaGreat
namespace Go.Proofs.YtipmgkhjoekaaaaGreat.Fw
open Go Go.RowKit
theorem r_quietI1 {P : Program} {n : Nat} {m : Imm} {R : List Res} {L : Loc} {dst : Option Nat} {ty : TypeId} {pos : String} {af : Array Edge} {g : Option (Nat × Bool)}
    {f : FuncId} {xs : List Operand} {tys : Array TypeId} {vs : List Value} {v : Value} {E1 c1 : Nat} {g1 : Option Nat} {l1 : List Int} (i : Nat) (hi : R[i]? = some (rowI E1 g1 c1 l1))
    (h1 : ∀ z ∈ l1, I64 z) (n1 : l1.length ≤ 140737488355328)
    (hq : ∀ m', m.le m' → Ints m' (rowA g1) c1 l1 → Quiet P f vs m' v) (hf : hasBody P f = true) (hxs : evs L xs = some vs) : Qt P ⟨dst, .call ⟨.value (.func f), xs.toArray, tys⟩, ty, pos, af, g⟩ n m R L v :=
  r_quietx (fun w hp => by
    obtain ⟨m1, p1, le1, a1⟩ := hp.putInts hi h1 n1
    exact ⟨m1, p1.inW, hq m1 le1 a1⟩) hf hxs
end Go.Proofs.YtipmgkhjoekaaaaGreat.Fw
namespace Go.Proofs.YtipmgkhjoekaaaaGreat.Fw
open Go Go.RowKit
section
variable {P : Program} {ops : Array Oper} {Q : Post} {rest : List Oper} {n : Nat} {s : Start} {m : Imm} {R : List Res} {L : Loc}
variable {d : Nat} {ty : TypeId} {pos : String} {af : Array Edge} {x y p q c : Operand} {v u : Value}
theorem sq {x y : Code} (h : CW P x (Exit.then (fun a w => y.wp P Q a w) Q) n s m R L) : CW P (.seq x y) Q n s m R L := CW_seq h
theorem rg {id : Nat} {l : List Oper} (h : WL P l.toArray Q l n s m R L) : CW P (.region id l.toArray false) Q n s m R L := CW_region h
theorem bk {id : Nat} {c : Code} (h : CW P c (Exit.inBlock id Q) n s m R L) : CW P (.block id c) Q n s m R L := CW_block h
theorem wn (h : NX Q n s m R L) : WL P ops Q [] n s m R L := WL_nil h
theorem sk (h : NX Q n s m R L) : CW P .skip Q n s m R L := CW_skip h
theorem nb {id : Nat} (h : NX Q n s m R L) : NX (Exit.inBlock id Q) n s m R L := h
theorem mv (next : WL P ops Q rest n s m R ((d, v) :: L)) (hx : ev L x = some v := by exact rfl) (hd : Nat.blt d n = true := by exact rfl) : WL P ops Q (⟨some d, .move x, ty, pos, af, none⟩ :: rest) n s m R L := W_q (r_move hx) hd next
theorem as_ (next : WL P ops Q rest n s m R ((d, v) :: L)) (hx : ev L x = some v := by exact rfl) (hd : Nat.blt d n = true := by exact rfl) : WL P ops Q (⟨some d, .assign x, ty, pos, af, none⟩ :: rest) n s m R L := W_q (r_assign hx) hd next
theorem pt (next : WL P ops Q rest n s m R ((d, v) :: L)) (hc : ev L c = some (.bool true) := by exact rfl) (hp : ev L p = some v := by exact rfl) (hd : Nat.blt d n = true := by exact rfl) : WL P ops Q (⟨some d, .pick c p q, ty, pos, af, none⟩ :: rest) n s m R L := W_q (r_pick_t hc hp) hd next
theorem pf (next : WL P ops Q rest n s m R ((d, v) :: L)) (hc : ev L c = some (.bool false) := by exact rfl) (hp : ev L q = some v := by exact rfl) (hd : Nat.blt d n = true := by exact rfl) : WL P ops Q (⟨some d, .pick c p q, ty, pos, af, none⟩ :: rest) n s m R L := W_q (r_pick_f hc hp) hd next
theorem nt {b : Bool} {T : TypeId} (next : WL P ops Q rest n s m R ((d, .bool (!b)) :: L)) (hx : ev L x = some (.bool b) := by exact rfl) (hd : Nat.blt d n = true := by exact rfl) : WL P ops Q (⟨some d, .unOp .not T x, ty, pos, af, none⟩ :: rest) n s m R L := W_q (r_not hx) hd next
theorem ps {d' : Nat} {op : Op} {j d : Nat} {b b' : Bool} (h : WL P ops Q rest n s m R ((d', undef) :: L)) (hj : (ops[j]?).bind (·.dst) = some d := by exact rfl) (hl : lk L d = some (.bool b') := by exact rfl) (hb : (b' == b) = false := by exact rfl) (hd : Nat.blt d' n = true := by exact rfl) : WL P ops Q (⟨some d', op, ty, pos, af, some (j, b)⟩ :: rest) n s m R L := WL_pass hj hl hb hd h
theorem tk {d? : Option Nat} {op : Op} {j d : Nat} {b : Bool} (h : WL P ops Q (⟨d?, op, ty, pos, af, none⟩ :: rest) n s m R L) (hj : (ops[j]?).bind (·.dst) = some d := by exact rfl) (hl : lk L d = some (.bool b) := by exact rfl) : WL P ops Q (⟨d?, op, ty, pos, af, some (j, b)⟩ :: rest) n s m R L := WL_take hj hl h
theorem fb {S f off k b o : Nat} (o' : Nat) (hf : fld? P S f = some (off, k)) (next : WL P ops Q rest n s m R ((d, .pointer (some ⟨b, o', none⟩)) :: L)) (hx : ev L x = some (.pointer (some ⟨b, o, none⟩)) := by exact rfl) (ho : o + off = o' := by exact rfl) (hk : Nat.blt 0 k = true := by exact rfl) (hd : Nat.blt d n = true := by exact rfl) : WL P ops Q (⟨some d, .fieldAddr S x f, ty, pos, af, none⟩ :: rest) n s m R L := W_q (r_fieldb hx hf ho hk) hd next
theorem lb {T E b o : Nat} {l : List Value} (i : Nat) (hT : agg? P T = some false) (next : WL P ops Q rest n s m R ((d, v) :: L)) (hx : ev L x = some (.pointer (some ⟨b, o, none⟩)) := by exact rfl) (hi : R[i]? = some (bx b E l) := by exact rfl) (hv : l[o]? = some v := by exact rfl) (hd : Nat.blt d n = true := by exact rfl) : WL P ops Q (⟨some d, .load T x, ty, pos, af, none⟩ :: rest) n s m R L := W_q (r_loadb i hx hT hi hv) hd next
theorem ln {T E : TypeId} {A : Option Addr} {k c : Nat} (hT : P.underlying T = some (.slice E)) (next : WL P ops Q rest n s m R ((d, .int .i64 (k : Int)) :: L)) (hx : ev L x = some (.slice A k c) := by exact rfl) (hd : Nat.blt d n = true := by exact rfl) : WL P ops Q (⟨some d, .call ⟨.builtin .len, #[x], #[T]⟩, ty, pos, af, none⟩ :: rest) n s m R L := W_q (r_len hT hx) hd next
theorem ad {i j : Int} {T T' : TypeId} (next : WL P ops Q rest n s m R ((d, .int .i64 (i + j)) :: L)) (hx : ev L x = some (.int .i64 i) := by exact rfl) (hy : ev L y = some (.int .i64 j) := by exact rfl) (hr : I64 (i + j) := by (unfold I64 at *; omega)) (hd : Nat.blt d n = true := by exact rfl) : WL P ops Q (⟨some d, .binOp .add T x y T', ty, pos, af, none⟩ :: rest) n s m R L := W_q (r_add hx hy hr) hd next
theorem be {k : IntKind} {i j : Int} {T T' : TypeId} (next : WL P ops Q rest n s m R ((d, .bool (i == j)) :: L)) (hx : ev L x = some (.int k i) := by exact rfl) (hy : ev L y = some (.int k j) := by exact rfl) (hd : Nat.blt d n = true := by exact rfl) : WL P ops Q (⟨some d, .binOp .eql T x y T', ty, pos, af, none⟩ :: rest) n s m R L := W_q (r_bin hx hy (bin_eql _ _ _ _)) hd next
theorem bn {k : IntKind} {i j : Int} {T T' : TypeId} (next : WL P ops Q rest n s m R ((d, .bool (i != j)) :: L)) (hx : ev L x = some (.int k i) := by exact rfl) (hy : ev L y = some (.int k j) := by exact rfl) (hd : Nat.blt d n = true := by exact rfl) : WL P ops Q (⟨some d, .binOp .neq T x y T', ty, pos, af, none⟩ :: rest) n s m R L := W_q (r_bin hx hy (bin_neq _ _ _ _)) hd next
theorem bl {k : IntKind} {i j : Int} {T T' : TypeId} (next : WL P ops Q rest n s m R ((d, .bool (decide (i < j))) :: L)) (hx : ev L x = some (.int k i) := by exact rfl) (hy : ev L y = some (.int k j) := by exact rfl) (hd : Nat.blt d n = true := by exact rfl) : WL P ops Q (⟨some d, .binOp .lss T x y T', ty, pos, af, none⟩ :: rest) n s m R L := W_q (r_bin hx hy (bin_lss _ _ _ _)) hd next
theorem bq {k : IntKind} {i j : Int} {T T' : TypeId} (next : WL P ops Q rest n s m R ((d, .bool (decide (i ≤ j))) :: L)) (hx : ev L x = some (.int k i) := by exact rfl) (hy : ev L y = some (.int k j) := by exact rfl) (hd : Nat.blt d n = true := by exact rfl) : WL P ops Q (⟨some d, .binOp .leq T x y T', ty, pos, af, none⟩ :: rest) n s m R L := W_q (r_bin hx hy (bin_leq _ _ _ _)) hd next
theorem bg {k : IntKind} {i j : Int} {T T' : TypeId} (next : WL P ops Q rest n s m R ((d, .bool (decide (j < i))) :: L)) (hx : ev L x = some (.int k i) := by exact rfl) (hy : ev L y = some (.int k j) := by exact rfl) (hd : Nat.blt d n = true := by exact rfl) : WL P ops Q (⟨some d, .binOp .gtr T x y T', ty, pos, af, none⟩ :: rest) n s m R L := W_q (r_bin hx hy (bin_gtr _ _ _ _)) hd next
theorem bh {k : IntKind} {i j : Int} {T T' : TypeId} (next : WL P ops Q rest n s m R ((d, .bool (decide (j ≤ i))) :: L)) (hx : ev L x = some (.int k i) := by exact rfl) (hy : ev L y = some (.int k j) := by exact rfl) (hd : Nat.blt d n = true := by exact rfl) : WL P ops Q (⟨some d, .binOp .geq T x y T', ty, pos, af, none⟩ :: rest) n s m R L := W_q (r_bin hx hy (bin_geq _ _ _ _)) hd next
theorem cd {t : Nat} {x y : Code} {c : Bool} (ht : c = true → CW P x Q n s m R ((t, .bool true) :: L)) (hf : c = false → CW P y Q n s m R ((t, .bool false) :: L)) (hc : lk L t = some (.bool c) := by exact rfl) : CW P (.cond (.tmp t) x y) Q n s m R L := CW_condk hc ht hf
theorem sp {c : Bool} (t : Nat) (ht : c = true → WL P ops Q rest n s m R ((t, .bool true) :: L)) (hf : c = false → WL P ops Q rest n s m R ((t, .bool false) :: L)) (hl : lk L t = some (.bool c) := by exact rfl) : WL P ops Q rest n s m R L := WL_split hl ht hf
theorem kk0 {y : Code} (ks : List Nat) (h : CW P y Q n s m R []) (e : sel L ks = [] := by exact rfl) : NX (Exit.then (fun a w => y.wp P Q a w) Q) n s m R L := NX_as ks e h
theorem kk1 {p0 : Nat × Value} {y : Code} (ks : List Nat) (h : CW P y Q n s m R [p0]) (e : sel L ks = [p0] := by exact rfl) : NX (Exit.then (fun a w => y.wp P Q a w) Q) n s m R L := NX_as ks e h
theorem kk2 {p0 p1 : Nat × Value} {y : Code} (ks : List Nat) (h : CW P y Q n s m R [p0, p1]) (e : sel L ks = [p0, p1] := by exact rfl) : NX (Exit.then (fun a w => y.wp P Q a w) Q) n s m R L := NX_as ks e h
theorem jj2 {p0 p1 : Nat × Value} {y : Code} (ks : List Nat) (h : CW P y Q n s m R [p0, p1]) (e : sel L ks = [p0, p1] := by exact rfl) : CW P y Q n s m R L := CW_as ks e h
theorem kk3 {p0 p1 p2 : Nat × Value} {y : Code} (ks : List Nat) (h : CW P y Q n s m R [p0, p1, p2]) (e : sel L ks = [p0, p1, p2] := by exact rfl) : NX (Exit.then (fun a w => y.wp P Q a w) Q) n s m R L := NX_as ks e h
theorem jj3 {p0 p1 p2 : Nat × Value} {y : Code} (ks : List Nat) (h : CW P y Q n s m R [p0, p1, p2]) (e : sel L ks = [p0, p1, p2] := by exact rfl) : CW P y Q n s m R L := CW_as ks e h
theorem kk4 {p0 p1 p2 p3 : Nat × Value} {y : Code} (ks : List Nat) (h : CW P y Q n s m R [p0, p1, p2, p3]) (e : sel L ks = [p0, p1, p2, p3] := by exact rfl) : NX (Exit.then (fun a w => y.wp P Q a w) Q) n s m R L := NX_as ks e h
theorem jj4 {p0 p1 p2 p3 : Nat × Value} {y : Code} (ks : List Nat) (h : CW P y Q n s m R [p0, p1, p2, p3]) (e : sel L ks = [p0, p1, p2, p3] := by exact rfl) : CW P y Q n s m R L := CW_as ks e h
theorem kk5 {p0 p1 p2 p3 p4 : Nat × Value} {y : Code} (ks : List Nat) (h : CW P y Q n s m R [p0, p1, p2, p3, p4]) (e : sel L ks = [p0, p1, p2, p3, p4] := by exact rfl) : NX (Exit.then (fun a w => y.wp P Q a w) Q) n s m R L := NX_as ks e h
theorem jj5 {p0 p1 p2 p3 p4 : Nat × Value} {y : Code} (ks : List Nat) (h : CW P y Q n s m R [p0, p1, p2, p3, p4]) (e : sel L ks = [p0, p1, p2, p3, p4] := by exact rfl) : CW P y Q n s m R L := CW_as ks e h
theorem kk6 {p0 p1 p2 p3 p4 p5 : Nat × Value} {y : Code} (ks : List Nat) (h : CW P y Q n s m R [p0, p1, p2, p3, p4, p5]) (e : sel L ks = [p0, p1, p2, p3, p4, p5] := by exact rfl) : NX (Exit.then (fun a w => y.wp P Q a w) Q) n s m R L := NX_as ks e h
theorem jj6 {p0 p1 p2 p3 p4 p5 : Nat × Value} {y : Code} (ks : List Nat) (h : CW P y Q n s m R [p0, p1, p2, p3, p4, p5]) (e : sel L ks = [p0, p1, p2, p3, p4, p5] := by exact rfl) : CW P y Q n s m R L := CW_as ks e h
theorem kk7 {p0 p1 p2 p3 p4 p5 p6 : Nat × Value} {y : Code} (ks : List Nat) (h : CW P y Q n s m R [p0, p1, p2, p3, p4, p5, p6]) (e : sel L ks = [p0, p1, p2, p3, p4, p5, p6] := by exact rfl) : NX (Exit.then (fun a w => y.wp P Q a w) Q) n s m R L := NX_as ks e h
theorem jj7 {p0 p1 p2 p3 p4 p5 p6 : Nat × Value} {y : Code} (ks : List Nat) (h : CW P y Q n s m R [p0, p1, p2, p3, p4, p5, p6]) (e : sel L ks = [p0, p1, p2, p3, p4, p5, p6] := by exact rfl) : CW P y Q n s m R L := CW_as ks e h
theorem kk8 {p0 p1 p2 p3 p4 p5 p6 p7 : Nat × Value} {y : Code} (ks : List Nat) (h : CW P y Q n s m R [p0, p1, p2, p3, p4, p5, p6, p7]) (e : sel L ks = [p0, p1, p2, p3, p4, p5, p6, p7] := by exact rfl) : NX (Exit.then (fun a w => y.wp P Q a w) Q) n s m R L := NX_as ks e h
theorem jj8 {p0 p1 p2 p3 p4 p5 p6 p7 : Nat × Value} {y : Code} (ks : List Nat) (h : CW P y Q n s m R [p0, p1, p2, p3, p4, p5, p6, p7]) (e : sel L ks = [p0, p1, p2, p3, p4, p5, p6, p7] := by exact rfl) : CW P y Q n s m R L := CW_as ks e h
theorem kk9 {p0 p1 p2 p3 p4 p5 p6 p7 p8 : Nat × Value} {y : Code} (ks : List Nat) (h : CW P y Q n s m R [p0, p1, p2, p3, p4, p5, p6, p7, p8]) (e : sel L ks = [p0, p1, p2, p3, p4, p5, p6, p7, p8] := by exact rfl) : NX (Exit.then (fun a w => y.wp P Q a w) Q) n s m R L := NX_as ks e h
theorem jj9 {p0 p1 p2 p3 p4 p5 p6 p7 p8 : Nat × Value} {y : Code} (ks : List Nat) (h : CW P y Q n s m R [p0, p1, p2, p3, p4, p5, p6, p7, p8]) (e : sel L ks = [p0, p1, p2, p3, p4, p5, p6, p7, p8] := by exact rfl) : CW P y Q n s m R L := CW_as ks e h
theorem kk10 {p0 p1 p2 p3 p4 p5 p6 p7 p8 p9 : Nat × Value} {y : Code} (ks : List Nat) (h : CW P y Q n s m R [p0, p1, p2, p3, p4, p5, p6, p7, p8, p9]) (e : sel L ks = [p0, p1, p2, p3, p4, p5, p6, p7, p8, p9] := by exact rfl) : NX (Exit.then (fun a w => y.wp P Q a w) Q) n s m R L := NX_as ks e h
theorem jj10 {p0 p1 p2 p3 p4 p5 p6 p7 p8 p9 : Nat × Value} {y : Code} (ks : List Nat) (h : CW P y Q n s m R [p0, p1, p2, p3, p4, p5, p6, p7, p8, p9]) (e : sel L ks = [p0, p1, p2, p3, p4, p5, p6, p7, p8, p9] := by exact rfl) : CW P y Q n s m R L := CW_as ks e h
theorem kk11 {p0 p1 p2 p3 p4 p5 p6 p7 p8 p9 p10 : Nat × Value} {y : Code} (ks : List Nat) (h : CW P y Q n s m R [p0, p1, p2, p3, p4, p5, p6, p7, p8, p9, p10]) (e : sel L ks = [p0, p1, p2, p3, p4, p5, p6, p7, p8, p9, p10] := by exact rfl) : NX (Exit.then (fun a w => y.wp P Q a w) Q) n s m R L := NX_as ks e h
theorem jj11 {p0 p1 p2 p3 p4 p5 p6 p7 p8 p9 p10 : Nat × Value} {y : Code} (ks : List Nat) (h : CW P y Q n s m R [p0, p1, p2, p3, p4, p5, p6, p7, p8, p9, p10]) (e : sel L ks = [p0, p1, p2, p3, p4, p5, p6, p7, p8, p9, p10] := by exact rfl) : CW P y Q n s m R L := CW_as ks e h
theorem kk12 {p0 p1 p2 p3 p4 p5 p6 p7 p8 p9 p10 p11 : Nat × Value} {y : Code} (ks : List Nat) (h : CW P y Q n s m R [p0, p1, p2, p3, p4, p5, p6, p7, p8, p9, p10, p11]) (e : sel L ks = [p0, p1, p2, p3, p4, p5, p6, p7, p8, p9, p10, p11] := by exact rfl) : NX (Exit.then (fun a w => y.wp P Q a w) Q) n s m R L := NX_as ks e h
theorem jj12 {p0 p1 p2 p3 p4 p5 p6 p7 p8 p9 p10 p11 : Nat × Value} {y : Code} (ks : List Nat) (h : CW P y Q n s m R [p0, p1, p2, p3, p4, p5, p6, p7, p8, p9, p10, p11]) (e : sel L ks = [p0, p1, p2, p3, p4, p5, p6, p7, p8, p9, p10, p11] := by exact rfl) : CW P y Q n s m R L := CW_as ks e h
theorem kk13 {p0 p1 p2 p3 p4 p5 p6 p7 p8 p9 p10 p11 p12 : Nat × Value} {y : Code} (ks : List Nat) (h : CW P y Q n s m R [p0, p1, p2, p3, p4, p5, p6, p7, p8, p9, p10, p11, p12]) (e : sel L ks = [p0, p1, p2, p3, p4, p5, p6, p7, p8, p9, p10, p11, p12] := by exact rfl) : NX (Exit.then (fun a w => y.wp P Q a w) Q) n s m R L := NX_as ks e h
theorem jj13 {p0 p1 p2 p3 p4 p5 p6 p7 p8 p9 p10 p11 p12 : Nat × Value} {y : Code} (ks : List Nat) (h : CW P y Q n s m R [p0, p1, p2, p3, p4, p5, p6, p7, p8, p9, p10, p11, p12]) (e : sel L ks = [p0, p1, p2, p3, p4, p5, p6, p7, p8, p9, p10, p11, p12] := by exact rfl) : CW P y Q n s m R L := CW_as ks e h
theorem kk14 {p0 p1 p2 p3 p4 p5 p6 p7 p8 p9 p10 p11 p12 p13 : Nat × Value} {y : Code} (ks : List Nat) (h : CW P y Q n s m R [p0, p1, p2, p3, p4, p5, p6, p7, p8, p9, p10, p11, p12, p13]) (e : sel L ks = [p0, p1, p2, p3, p4, p5, p6, p7, p8, p9, p10, p11, p12, p13] := by exact rfl) : NX (Exit.then (fun a w => y.wp P Q a w) Q) n s m R L := NX_as ks e h
theorem kk15 {p0 p1 p2 p3 p4 p5 p6 p7 p8 p9 p10 p11 p12 p13 p14 : Nat × Value} {y : Code} (ks : List Nat) (h : CW P y Q n s m R [p0, p1, p2, p3, p4, p5, p6, p7, p8, p9, p10, p11, p12, p13, p14]) (e : sel L ks = [p0, p1, p2, p3, p4, p5, p6, p7, p8, p9, p10, p11, p12, p13, p14] := by exact rfl) : NX (Exit.then (fun a w => y.wp P Q a w) Q) n s m R L := NX_as ks e h
theorem kk16 {p0 p1 p2 p3 p4 p5 p6 p7 p8 p9 p10 p11 p12 p13 p14 p15 : Nat × Value} {y : Code} (ks : List Nat) (h : CW P y Q n s m R [p0, p1, p2, p3, p4, p5, p6, p7, p8, p9, p10, p11, p12, p13, p14, p15]) (e : sel L ks = [p0, p1, p2, p3, p4, p5, p6, p7, p8, p9, p10, p11, p12, p13, p14, p15] := by exact rfl) : NX (Exit.then (fun a w => y.wp P Q a w) Q) n s m R L := NX_as ks e h
theorem jj16 {p0 p1 p2 p3 p4 p5 p6 p7 p8 p9 p10 p11 p12 p13 p14 p15 : Nat × Value} {y : Code} (ks : List Nat) (h : CW P y Q n s m R [p0, p1, p2, p3, p4, p5, p6, p7, p8, p9, p10, p11, p12, p13, p14, p15]) (e : sel L ks = [p0, p1, p2, p3, p4, p5, p6, p7, p8, p9, p10, p11, p12, p13, p14, p15] := by exact rfl) : CW P y Q n s m R L := CW_as ks e h
theorem kk17 {p0 p1 p2 p3 p4 p5 p6 p7 p8 p9 p10 p11 p12 p13 p14 p15 p16 : Nat × Value} {y : Code} (ks : List Nat) (h : CW P y Q n s m R [p0, p1, p2, p3, p4, p5, p6, p7, p8, p9, p10, p11, p12, p13, p14, p15, p16]) (e : sel L ks = [p0, p1, p2, p3, p4, p5, p6, p7, p8, p9, p10, p11, p12, p13, p14, p15, p16] := by exact rfl) : NX (Exit.then (fun a w => y.wp P Q a w) Q) n s m R L := NX_as ks e h
theorem jj17 {p0 p1 p2 p3 p4 p5 p6 p7 p8 p9 p10 p11 p12 p13 p14 p15 p16 : Nat × Value} {y : Code} (ks : List Nat) (h : CW P y Q n s m R [p0, p1, p2, p3, p4, p5, p6, p7, p8, p9, p10, p11, p12, p13, p14, p15, p16]) (e : sel L ks = [p0, p1, p2, p3, p4, p5, p6, p7, p8, p9, p10, p11, p12, p13, p14, p15, p16] := by exact rfl) : CW P y Q n s m R L := CW_as ks e h
theorem kk18 {p0 p1 p2 p3 p4 p5 p6 p7 p8 p9 p10 p11 p12 p13 p14 p15 p16 p17 : Nat × Value} {y : Code} (ks : List Nat) (h : CW P y Q n s m R [p0, p1, p2, p3, p4, p5, p6, p7, p8, p9, p10, p11, p12, p13, p14, p15, p16, p17]) (e : sel L ks = [p0, p1, p2, p3, p4, p5, p6, p7, p8, p9, p10, p11, p12, p13, p14, p15, p16, p17] := by exact rfl) : NX (Exit.then (fun a w => y.wp P Q a w) Q) n s m R L := NX_as ks e h
theorem kk19 {p0 p1 p2 p3 p4 p5 p6 p7 p8 p9 p10 p11 p12 p13 p14 p15 p16 p17 p18 : Nat × Value} {y : Code} (ks : List Nat) (h : CW P y Q n s m R [p0, p1, p2, p3, p4, p5, p6, p7, p8, p9, p10, p11, p12, p13, p14, p15, p16, p17, p18]) (e : sel L ks = [p0, p1, p2, p3, p4, p5, p6, p7, p8, p9, p10, p11, p12, p13, p14, p15, p16, p17, p18] := by exact rfl) : NX (Exit.then (fun a w => y.wp P Q a w) Q) n s m R L := NX_as ks e h
end
section
variable {P : Program} {ops : Array Oper} {Q : Post} {m0 : Imm} {R0 : List Res} {listed : Array Bool} {ord : List (Nat × Bool)} {n : Nat} {s : Start} {m : Imm} {R : List Res} {L : Loc}
variable {i d : Nat} {ty : TypeId} {pos : String} {af : Array Edge} {x y p q c : Operand} {v u : Value}
theorem dmv (next : DL P ops Q m0 R0 (listed.setIfInBounds i true) ord n s m R ((d, v) :: L)) (hi : ops[i]? = some ⟨some d, .move x, ty, pos, af, none⟩ := by exact rfl) (hx : ev L x = some v := by exact rfl) (hd : Nat.blt d n = true := by exact rfl) : DL P ops Q m0 R0 listed ((i, true) :: ord) n s m R L := D_q hi (r_move hx) hd next
theorem das (next : DL P ops Q m0 R0 (listed.setIfInBounds i true) ord n s m R ((d, v) :: L)) (hi : ops[i]? = some ⟨some d, .assign x, ty, pos, af, none⟩ := by exact rfl) (hx : ev L x = some v := by exact rfl) (hd : Nat.blt d n = true := by exact rfl) : DL P ops Q m0 R0 listed ((i, true) :: ord) n s m R L := D_q hi (r_assign hx) hd next
theorem dfb {S f off k b o : Nat} (o' : Nat) (hf : fld? P S f = some (off, k)) (next : DL P ops Q m0 R0 (listed.setIfInBounds i true) ord n s m R ((d, .pointer (some ⟨b, o', none⟩)) :: L)) (hi : ops[i]? = some ⟨some d, .fieldAddr S x f, ty, pos, af, none⟩ := by exact rfl) (hx : ev L x = some (.pointer (some ⟨b, o, none⟩)) := by exact rfl) (ho : o + off = o' := by exact rfl) (hk : Nat.blt 0 k = true := by exact rfl) (hd : Nat.blt d n = true := by exact rfl) : DL P ops Q m0 R0 listed ((i, true) :: ord) n s m R L := D_q hi (r_fieldb hx hf ho hk) hd next
theorem dlb {T E b o : Nat} {l : List Value} (j : Nat) (hT : agg? P T = some false) (next : DL P ops Q m0 R0 (listed.setIfInBounds i true) ord n s m R ((d, v) :: L)) (hi : ops[i]? = some ⟨some d, .load T x, ty, pos, af, none⟩ := by exact rfl) (hx : ev L x = some (.pointer (some ⟨b, o, none⟩)) := by exact rfl) (hj : R0[j]? = some (bx b E l) := by exact rfl) (hv : l[o]? = some v := by exact rfl) (hd : Nat.blt d n = true := by exact rfl) : DL P ops Q m0 R0 listed ((i, true) :: ord) n s m R L := D_q hi (r_loadb j hx hT hj hv) hd next
theorem dps {op : Op} {j t : Nat} {b b' : Bool} (h : DL P ops Q m0 R0 (listed.setIfInBounds i true) ord n s m R ((d, undef) :: L)) (hi : ops[i]? = some ⟨some d, op, ty, pos, af, some (j, b)⟩ := by exact rfl) (hj : (ops[j]?).bind (·.dst) = some t := by exact rfl) (hl : lk L t = some (.bool b') := by exact rfl) (hb : (b' == b) = false := by exact rfl) (hd : Nat.blt d n = true := by exact rfl) : DL P ops Q m0 R0 listed ((i, true) :: ord) n s m R L := D_pass hi hj hl hb hd h
end
theorem tt : (∀ {p : Prop} [Decidable p], (decide p = true) = p) ∧ (∀ {p : Prop} {x : Decidable p}, decide p = false ↔ ¬p) ∧ (∀ {α : Type} [BEq α] [LawfulBEq α] {a b : α}, (a == b) = true ↔ a = b) ∧ (∀ {α : Type} [BEq α] [LawfulBEq α] {a b : α}, (a == b) = false ↔ a ≠ b) ∧ (∀ {α : Type} [BEq α] [LawfulBEq α] {a b : α}, (a != b) = true ↔ a ≠ b) ∧ (∀ {α : Type} [BEq α] [LawfulBEq α] {a b : α}, (a != b) = false ↔ a = b) ∧
    (∀ b : Bool, ((!b) = true) = (b = false)) ∧ (∀ b : Bool, ((!b) = false) = (b = true)) ∧ (∀ b : Bool, (¬b = true) = (b = false)) ∧ (∀ b : Bool, (¬b = false) = (b = true)) ∧ (∀ {α : Type} (a b : α), (a ≠ b) = ¬a = b) ∧ (∀ {p : Prop} [Decidable p], ¬¬p ↔ p) :=
  ⟨tA, tB, tC, tD, tE, tF, tG, tH, tI, tJ, tK, tL⟩
section
variable {P : Program} {ops : Array Oper} {Q : Post} {rest : List Oper} {n : Nat} {s : Start} {m m0 : Imm} {R R0 : List Res} {L : Loc} {listed : Array Bool} {fuel : Nat}
variable {d : Nat} {ty : TypeId} {pos : String} {af : Array Edge} {x y p q c : Operand} {v u : Value}
theorem alz (hs : Region.noSelect ops = true) (k : Nat) (h : DA P ops Q m R0 fuel listed n s m R L) (hR : List.drop k R = R0 := by exact rfl) : WL P ops (LeftA P ops Q m R0 fuel listed) [] n s m R L := A_leftw hs (Imm.le_refl _) (sub_drop k hR) h
theorem aoz (i : Nat) {o : Oper} (h : Region.noSelect ops = true → WL P ops (LeftA P ops Q m0 R0 fuel (listed.setIfInBounds i true)) [o] n s m R L) (hr : (Region.ready .any ops listed == [i]) = true := by kernel_rfl) (hi : ops[i]? = some o := by exact rfl) : DA P ops Q m0 R0 (fuel + 1) listed n s m R L := A_one hr hi h
theorem ixz {T E : TypeId} {A : Option Addr} {ad : Addr} {k : IntKind} {i : Int} {len c sz : Nat} (hA : A = some ad) (hT : P.underlying T = some (.slice E)) (hs : sz? P E = some sz) (next : WL P ops Q rest n s m R ((d, .pointer (some (ad.add (i.toNat * sz)))) :: L))
    (hx : ev L x = some (.slice A len c) := by exact rfl) (hy : ev L y = some (.int k i) := by exact rfl) (hd : Nat.blt d n = true := by exact rfl) (hi : 0 ≤ i ∧ i < len := by constructor <;> omega) : WL P ops Q (⟨some d, .indexAddr T x y, ty, pos, af, none⟩ :: rest) n s m R L := W_q (r_index hA hT hs hx hy hi) hd next
theorem liz {T : TypeId} {p : Addr} (hT : agg? P T = some false) (hc : m.cell? p = some v) (next : WL P ops Q rest n s m R ((d, v) :: L)) (hx : ev L x = some (.pointer (some p)) := by exact rfl) (hd : Nat.blt d n = true := by exact rfl) : WL P ops Q (⟨some d, .load T x, ty, pos, af, none⟩ :: rest) n s m R L := W_q (r_load_imm hx hT hc) hd next
theorem puz {d' : Nat} {op : Op} {j d : Nat} {b : Bool} (h : WL P ops Q rest n s m R ((d', undef) :: L)) (hj : (ops[j]?).bind (·.dst) = some d := by exact rfl) (hl : lk L d = some undef := by exact rfl) (hd : Nat.blt d' n = true := by exact rfl) : WL P ops Q (⟨some d', op, ty, pos, af, some (j, b)⟩ :: rest) n s m R L := WL_passu hj hl hd h
theorem ctz {x y : Code} (h : CW P x Q n s m R L) (hc : ev L c = some (.bool true) := by exact rfl) : CW P (.cond c x y) Q n s m R L := CW_cond_t hc h
theorem cfz {x y : Code} (h : CW P y Q n s m R L) (hc : ev L c = some (.bool false) := by exact rfl) : CW P (.cond c x y) Q n s m R L := CW_cond_f hc h
theorem sb1 {T E b o k : Nat} {l vs : List Value} {p0 : Value} (i : Nat) (hs : sz? P T = some k) (next : WL P ops Q rest n s m (R.set i (bx b E [p0])) L) (hx : ev L x = some (.pointer (some ⟨b, o, none⟩)) := by exact rfl) (hy : ev L y = some v := by exact rfl) (hc : v.cells.toList = vs := by exact rfl) (hi : R[i]? = some (bx b E l) := by exact rfl) (hk : vs.length = k := by exact rfl) (h1 : vs.all (·.oneCell') = true := by exact rfl) (hl : Nat.ble (o + vs.length) l.length = true := by exact rfl) (hl' : l.take o ++ vs ++ l.drop (o + vs.length) = [p0] := by exact rfl) : WL P ops Q (⟨none, .store T x y, ty, pos, af, none⟩ :: rest) n s m R L := S_storeb i hx hy hc (hs.trans (congrArg some hk.symm)) hi h1 hl hl' next
theorem sa1 {T : TypeId} {z p0 : Value} (hz : zero? P T = some z) (next : ∀ b, WL P ops Q rest n s m (bx b T [p0] :: R) ((d, .pointer (some ⟨b, 0, none⟩)) :: L)) (hl : z.cells.toList = [p0] := by exact rfl) (hd : Nat.blt d n = true := by exact rfl) : WL P ops Q (⟨some d, .alloc T, ty, pos, af, none⟩ :: rest) n s m R L := S_alloc hz hl hd next
theorem sb2 {T E b o k : Nat} {l vs : List Value} {p0 p1 : Value} (i : Nat) (hs : sz? P T = some k) (next : WL P ops Q rest n s m (R.set i (bx b E [p0, p1])) L) (hx : ev L x = some (.pointer (some ⟨b, o, none⟩)) := by exact rfl) (hy : ev L y = some v := by exact rfl) (hc : v.cells.toList = vs := by exact rfl) (hi : R[i]? = some (bx b E l) := by exact rfl) (hk : vs.length = k := by exact rfl) (h1 : vs.all (·.oneCell') = true := by exact rfl) (hl : Nat.ble (o + vs.length) l.length = true := by exact rfl) (hl' : l.take o ++ vs ++ l.drop (o + vs.length) = [p0, p1] := by exact rfl) : WL P ops Q (⟨none, .store T x y, ty, pos, af, none⟩ :: rest) n s m R L := S_storeb i hx hy hc (hs.trans (congrArg some hk.symm)) hi h1 hl hl' next
theorem sa2 {T : TypeId} {z p0 p1 : Value} (hz : zero? P T = some z) (next : ∀ b, WL P ops Q rest n s m (bx b T [p0, p1] :: R) ((d, .pointer (some ⟨b, 0, none⟩)) :: L)) (hl : z.cells.toList = [p0, p1] := by exact rfl) (hd : Nat.blt d n = true := by exact rfl) : WL P ops Q (⟨some d, .alloc T, ty, pos, af, none⟩ :: rest) n s m R L := S_alloc hz hl hd next
theorem sb3 {T E b o k : Nat} {l vs : List Value} {p0 p1 p2 : Value} (i : Nat) (hs : sz? P T = some k) (next : WL P ops Q rest n s m (R.set i (bx b E [p0, p1, p2])) L) (hx : ev L x = some (.pointer (some ⟨b, o, none⟩)) := by exact rfl) (hy : ev L y = some v := by exact rfl) (hc : v.cells.toList = vs := by exact rfl) (hi : R[i]? = some (bx b E l) := by exact rfl) (hk : vs.length = k := by exact rfl) (h1 : vs.all (·.oneCell') = true := by exact rfl) (hl : Nat.ble (o + vs.length) l.length = true := by exact rfl) (hl' : l.take o ++ vs ++ l.drop (o + vs.length) = [p0, p1, p2] := by exact rfl) : WL P ops Q (⟨none, .store T x y, ty, pos, af, none⟩ :: rest) n s m R L := S_storeb i hx hy hc (hs.trans (congrArg some hk.symm)) hi h1 hl hl' next
theorem sa3 {T : TypeId} {z p0 p1 p2 : Value} (hz : zero? P T = some z) (next : ∀ b, WL P ops Q rest n s m (bx b T [p0, p1, p2] :: R) ((d, .pointer (some ⟨b, 0, none⟩)) :: L)) (hl : z.cells.toList = [p0, p1, p2] := by exact rfl) (hd : Nat.blt d n = true := by exact rfl) : WL P ops Q (⟨some d, .alloc T, ty, pos, af, none⟩ :: rest) n s m R L := S_alloc hz hl hd next
theorem sb4 {T E b o k : Nat} {l vs : List Value} {p0 p1 p2 p3 : Value} (i : Nat) (hs : sz? P T = some k) (next : WL P ops Q rest n s m (R.set i (bx b E [p0, p1, p2, p3])) L) (hx : ev L x = some (.pointer (some ⟨b, o, none⟩)) := by exact rfl) (hy : ev L y = some v := by exact rfl) (hc : v.cells.toList = vs := by exact rfl) (hi : R[i]? = some (bx b E l) := by exact rfl) (hk : vs.length = k := by exact rfl) (h1 : vs.all (·.oneCell') = true := by exact rfl) (hl : Nat.ble (o + vs.length) l.length = true := by exact rfl) (hl' : l.take o ++ vs ++ l.drop (o + vs.length) = [p0, p1, p2, p3] := by exact rfl) : WL P ops Q (⟨none, .store T x y, ty, pos, af, none⟩ :: rest) n s m R L := S_storeb i hx hy hc (hs.trans (congrArg some hk.symm)) hi h1 hl hl' next
theorem sa4 {T : TypeId} {z p0 p1 p2 p3 : Value} (hz : zero? P T = some z) (next : ∀ b, WL P ops Q rest n s m (bx b T [p0, p1, p2, p3] :: R) ((d, .pointer (some ⟨b, 0, none⟩)) :: L)) (hl : z.cells.toList = [p0, p1, p2, p3] := by exact rfl) (hd : Nat.blt d n = true := by exact rfl) : WL P ops Q (⟨some d, .alloc T, ty, pos, af, none⟩ :: rest) n s m R L := S_alloc hz hl hd next
theorem sb5 {T E b o k : Nat} {l vs : List Value} {p0 p1 p2 p3 p4 : Value} (i : Nat) (hs : sz? P T = some k) (next : WL P ops Q rest n s m (R.set i (bx b E [p0, p1, p2, p3, p4])) L) (hx : ev L x = some (.pointer (some ⟨b, o, none⟩)) := by exact rfl) (hy : ev L y = some v := by exact rfl) (hc : v.cells.toList = vs := by exact rfl) (hi : R[i]? = some (bx b E l) := by exact rfl) (hk : vs.length = k := by exact rfl) (h1 : vs.all (·.oneCell') = true := by exact rfl) (hl : Nat.ble (o + vs.length) l.length = true := by exact rfl) (hl' : l.take o ++ vs ++ l.drop (o + vs.length) = [p0, p1, p2, p3, p4] := by exact rfl) : WL P ops Q (⟨none, .store T x y, ty, pos, af, none⟩ :: rest) n s m R L := S_storeb i hx hy hc (hs.trans (congrArg some hk.symm)) hi h1 hl hl' next
theorem sa5 {T : TypeId} {z p0 p1 p2 p3 p4 : Value} (hz : zero? P T = some z) (next : ∀ b, WL P ops Q rest n s m (bx b T [p0, p1, p2, p3, p4] :: R) ((d, .pointer (some ⟨b, 0, none⟩)) :: L)) (hl : z.cells.toList = [p0, p1, p2, p3, p4] := by exact rfl) (hd : Nat.blt d n = true := by exact rfl) : WL P ops Q (⟨some d, .alloc T, ty, pos, af, none⟩ :: rest) n s m R L := S_alloc hz hl hd next
theorem sb6 {T E b o k : Nat} {l vs : List Value} {p0 p1 p2 p3 p4 p5 : Value} (i : Nat) (hs : sz? P T = some k) (next : WL P ops Q rest n s m (R.set i (bx b E [p0, p1, p2, p3, p4, p5])) L) (hx : ev L x = some (.pointer (some ⟨b, o, none⟩)) := by exact rfl) (hy : ev L y = some v := by exact rfl) (hc : v.cells.toList = vs := by exact rfl) (hi : R[i]? = some (bx b E l) := by exact rfl) (hk : vs.length = k := by exact rfl) (h1 : vs.all (·.oneCell') = true := by exact rfl) (hl : Nat.ble (o + vs.length) l.length = true := by exact rfl) (hl' : l.take o ++ vs ++ l.drop (o + vs.length) = [p0, p1, p2, p3, p4, p5] := by exact rfl) : WL P ops Q (⟨none, .store T x y, ty, pos, af, none⟩ :: rest) n s m R L := S_storeb i hx hy hc (hs.trans (congrArg some hk.symm)) hi h1 hl hl' next
theorem sa6 {T : TypeId} {z p0 p1 p2 p3 p4 p5 : Value} (hz : zero? P T = some z) (next : ∀ b, WL P ops Q rest n s m (bx b T [p0, p1, p2, p3, p4, p5] :: R) ((d, .pointer (some ⟨b, 0, none⟩)) :: L)) (hl : z.cells.toList = [p0, p1, p2, p3, p4, p5] := by exact rfl) (hd : Nat.blt d n = true := by exact rfl) : WL P ops Q (⟨some d, .alloc T, ty, pos, af, none⟩ :: rest) n s m R L := S_alloc hz hl hd next
theorem sb8 {T E b o k : Nat} {l vs : List Value} {p0 p1 p2 p3 p4 p5 p6 p7 : Value} (i : Nat) (hs : sz? P T = some k) (next : WL P ops Q rest n s m (R.set i (bx b E [p0, p1, p2, p3, p4, p5, p6, p7])) L) (hx : ev L x = some (.pointer (some ⟨b, o, none⟩)) := by exact rfl) (hy : ev L y = some v := by exact rfl) (hc : v.cells.toList = vs := by exact rfl) (hi : R[i]? = some (bx b E l) := by exact rfl) (hk : vs.length = k := by exact rfl) (h1 : vs.all (·.oneCell') = true := by exact rfl) (hl : Nat.ble (o + vs.length) l.length = true := by exact rfl) (hl' : l.take o ++ vs ++ l.drop (o + vs.length) = [p0, p1, p2, p3, p4, p5, p6, p7] := by exact rfl) : WL P ops Q (⟨none, .store T x y, ty, pos, af, none⟩ :: rest) n s m R L := S_storeb i hx hy hc (hs.trans (congrArg some hk.symm)) hi h1 hl hl' next
end
end Go.Proofs.YtipmgkhjoekaaaaGreat.Fw
set_option maxHeartbeats 200000000
namespace Go.Proofs.YtipmgkhjoekaaaaGreat
open Go Go.RowKit Go.Proofs Go.Proofs.YtipmgkhjoekaaaaGreat.Fw
attribute [local irreducible] Qt WL CW NX RX EX GX DL
namespace T
theorem ag22 : agg? Tryz.prog 22 = some false := by kernel_rfl
theorem ag3 : agg? Tryz.prog 3 = some false := by kernel_rfl
theorem ag44 : agg? Tryz.prog 44 = some true := by kernel_rfl
theorem ag51 : agg? Tryz.prog 51 = some true := by kernel_rfl
theorem ag61 : agg? Tryz.prog 61 = some true := by kernel_rfl
theorem hb126 : hasBody Tryz.prog 126 = true := by kernel_rfl
theorem hb148 : hasBody Tryz.prog 148 = true := by kernel_rfl
theorem hb152 : hasBody Tryz.prog 152 = true := by kernel_rfl
theorem hb181 : hasBody Tryz.prog 181 = true := by kernel_rfl
theorem hb188 : hasBody Tryz.prog 188 = true := by kernel_rfl
theorem hb189 : hasBody Tryz.prog 189 = true := by kernel_rfl
theorem sz22 : sz? Tryz.prog 22 = some 1 := by kernel_rfl
theorem sz3 : sz? Tryz.prog 3 = some 1 := by kernel_rfl
theorem sz44 : sz? Tryz.prog 44 = some 5 := by kernel_rfl
theorem sz51 : sz? Tryz.prog 51 = some 6 := by kernel_rfl
theorem sz61 : sz? Tryz.prog 61 = some 4 := by kernel_rfl
end T
theorem May_q {m : Imm} (b : Int) : Quiet Tryz.prog 152 [.int .i64 b] m (.bool (mayW b)) := by
 refine quiet_of Tryz.func152 rfl Tryz.ntmps152 rfl (fun w => ?_)
 refine sq (rg ?_)
 refine as_ ?_
 refine wn (kk2 [0,2] (sq (sq (rg ?_))))
 refine mv ?_
 refine wn (kk2 [2,3] (bk (sq (sq (rg ?_)))))
 refine be (as_ ?_)
 refine wn (kk3 [2,3,4] ?_)
 refine cd ?_ ?_ <;> intro h1 <;> try simp only [tt] at h1
 refine sk (kk2 [2,4] ?_)
 refine ctz (sq (rg ?_))
 refine as_ ?_
 refine wn (kk1 [2] ?_)
 refine C_ret (RX_block (RX_then (RX_q1 rfl rfl ?_)))
 simp [mayW, *]
 refine sq (rg ?_)
 refine be (as_ ?_)
 refine wn (kk3 [2,3,4] ?_)
 refine cd ?_ ?_ <;> intro h2 <;> try simp only [tt] at h2
 refine sk (kk2 [2,4] ?_)
 refine ctz (sq (rg ?_))
 refine as_ ?_
 refine wn (kk1 [2] ?_)
 refine C_ret (RX_block (RX_then (RX_q1 rfl rfl ?_)))
 simp [mayW, *]
 refine sq (rg ?_)
 refine be (as_ ?_)
 refine wn (kk3 [2,3,4] ?_)
 refine cd ?_ ?_ <;> intro h3 <;> try simp only [tt] at h3
 refine sk (kk2 [2,4] ?_)
 refine ctz (sq (rg ?_))
 refine as_ ?_
 refine wn (kk1 [2] ?_)
 refine C_ret (RX_block (RX_then (RX_q1 rfl rfl ?_)))
 simp [mayW, *]
 refine sq (rg ?_)
 refine be (as_ ?_)
 refine wn (kk3 [2,3,4] ?_)
 refine cd ?_ ?_ <;> intro h4 <;> try simp only [tt] at h4
 refine sk (kk2 [2,4] ?_)
 refine ctz (sq (rg ?_))
 refine as_ ?_
 refine wn (kk1 [2] ?_)
 refine C_ret (RX_block (RX_then (RX_q1 rfl rfl ?_)))
 simp [mayW, *]
 refine rg ?_
 refine be (as_ ?_)
 refine wn (kk2 [2,4] ?_)
 refine cd ?_ ?_ <;> intro h5 <;> try simp only [tt] at h5
 refine sq (rg ?_)
 refine as_ ?_
 refine wn (kk1 [2] ?_)
 refine C_ret (RX_block (RX_then (RX_q1 rfl rfl ?_)))
 simp [mayW, *]
 refine sk (nb (kk1 [2] (sq (rg ?_))))
 refine as_ ?_
 refine wn (kk1 [2] ?_)
 refine C_ret (RX_q1 rfl rfl ?_)
 simp [mayW, *]
theorem value_q {m : Imm} (v : Int) : Quiet Tryz.prog 207 [.int .i64 v] m (.bool (valueB v)) := by
 refine quiet_of Tryz.func207 rfl Tryz.ntmps207 rfl (fun w => ?_)
 refine sq (rg ?_)
 refine as_ ?_
 refine wn (kk2 [0,2] (sq (rg ?_)))
 refine mv (bh (mv ?_))
 refine sp 5 ?_ ?_ <;> intro h1 <;> try simp only [tt] at h1
 refine tk (mv ?_)
 refine tk (bq (pt (as_ ?_)))
 refine wn (kk1 [2] ?_)
 refine C_ret (RX_q1 rfl rfl ?_)
 simp [valueB, *]
 refine ps (ps ?_)
 refine pf (as_ ?_)
 refine wn (kk1 [2] ?_)
 refine C_ret (RX_q1 rfl rfl ?_)
 simp [valueB, *]
theorem Pure_q {m : Imm} (k : Int) : Quiet Tryz.prog 53 [.int .i64 k] m (.bool (pureK k)) := by
 refine quiet_of Tryz.func53 rfl Tryz.ntmps53 rfl (fun w => ?_)
 refine sq (rg ?_)
 refine as_ ?_
 refine wn (kk2 [0,2] (sq (sq (rg ?_))))
 refine mv ?_
 refine wn (kk3 [0,2,3] (bk (sq (sq (rg ?_)))))
 refine be (as_ ?_)
 refine wn (kk4 [0,2,3,4] ?_)
 refine cd ?_ ?_ <;> intro h1 <;> try simp only [tt] at h1
 refine sk (kk3 [0,2,4] ?_)
 refine ctz (sq (rg ?_))
 refine as_ ?_
 refine wn (kk2 [0,2] ?_)
 refine C_ret (RX_block (RX_then (RX_q1 rfl rfl ?_)))
 simp [pureK, *]
 refine sq (rg ?_)
 refine be (as_ ?_)
 refine wn (kk4 [0,2,3,4] ?_)
 refine cd ?_ ?_ <;> intro h2 <;> try simp only [tt] at h2
 refine sk (kk3 [0,2,4] ?_)
 refine ctz (sq (rg ?_))
 refine as_ ?_
 refine wn (kk2 [0,2] ?_)
 refine C_ret (RX_block (RX_then (RX_q1 rfl rfl ?_)))
 simp [pureK, *]
 refine sq (rg ?_)
 refine be (as_ ?_)
 refine wn (kk4 [0,2,3,4] ?_)
 refine cd ?_ ?_ <;> intro h3 <;> try simp only [tt] at h3
 refine sk (kk3 [0,2,4] ?_)
 refine ctz (sq (rg ?_))
 refine as_ ?_
 refine wn (kk2 [0,2] ?_)
 refine C_ret (RX_block (RX_then (RX_q1 rfl rfl ?_)))
 simp [pureK, *]
 refine sq (rg ?_)
 refine be (as_ ?_)
 refine wn (kk4 [0,2,3,4] ?_)
 refine cd ?_ ?_ <;> intro h4 <;> try simp only [tt] at h4
 refine sk (kk3 [0,2,4] ?_)
 refine ctz (sq (rg ?_))
 refine as_ ?_
 refine wn (kk2 [0,2] ?_)
 refine C_ret (RX_block (RX_then (RX_q1 rfl rfl ?_)))
 simp [pureK, *]
 refine sq (rg ?_)
 refine be (as_ ?_)
 refine wn (kk4 [0,2,3,4] ?_)
 refine cd ?_ ?_ <;> intro h5 <;> try simp only [tt] at h5
 refine sk (kk3 [0,2,4] ?_)
 refine ctz (sq (rg ?_))
 refine as_ ?_
 refine wn (kk2 [0,2] ?_)
 refine C_ret (RX_block (RX_then (RX_q1 rfl rfl ?_)))
 simp [pureK, *]
 refine rg ?_
 refine be (as_ ?_)
 refine wn (kk3 [0,2,4] ?_)
 refine cd ?_ ?_ <;> intro h6 <;> try simp only [tt] at h6
 refine sq (rg ?_)
 refine as_ ?_
 refine wn (kk2 [0,2] ?_)
 refine C_ret (RX_block (RX_then (RX_q1 rfl rfl ?_)))
 simp [pureK, *]
 refine sk (nb (kk2 [0,2] (sq (rg ?_))))
 refine mv (bh (mv ?_))
 refine sp 13 ?_ ?_ <;> intro h7 <;> try simp only [tt] at h7
 refine tk (mv ?_)
 refine tk (bq (pt (as_ ?_)))
 refine wn (kk1 [2] ?_)
 refine C_ret (RX_q1 rfl rfl ?_)
 simp [pureK, *]
 refine ps (ps ?_)
 refine pf (as_ ?_)
 refine wn (kk1 [2] ?_)
 refine C_ret (RX_q1 rfl rfl ?_)
 simp [pureK, *]
theorem stores_q {m : Imm} (k : Int) : Quiet Tryz.prog 191 [.int .i64 k] m (.bool (storesK k)) := by
 refine quiet_of Tryz.func191 rfl Tryz.ntmps191 rfl (fun w => ?_)
 refine sq (rg ?_)
 refine as_ ?_
 refine wn (kk2 [0,2] (sq (rg ?_)))
 refine mv (be (mv ?_))
 refine sp 5 ?_ ?_ <;> intro h1 <;> try simp only [tt] at h1
 refine ps (ps ?_)
 refine pt (as_ ?_)
 refine wn (kk1 [2] ?_)
 refine C_ret (RX_q1 rfl rfl ?_)
 simp [storesK, *]
 refine tk (mv ?_)
 refine tk (be (pf (as_ ?_)))
 refine wn (kk1 [2] ?_)
 refine C_ret (RX_q1 rfl rfl ?_)
 simp [storesK, *]
theorem in1_q {m : Imm} (n : Int) : Quiet Tryz.prog 147 [.int .i64 n] m (.bool (outN n)) := by
 refine quiet_of Tryz.func147 rfl Tryz.ntmps147 rfl (fun w => ?_)
 refine sq (rg ?_)
 refine as_ ?_
 refine wn (kk2 [0,2] (sq (rg ?_)))
 refine mv (bl (mv ?_))
 refine sp 5 ?_ ?_ <;> intro h1 <;> try simp only [tt] at h1
 refine ps (ps ?_)
 refine pt (as_ ?_)
 refine wn (kk1 [2] ?_)
 refine C_ret (RX_q1 rfl rfl ?_)
 simp [outN, *]
 refine tk (mv ?_)
 refine tk (bg (pf (as_ ?_)))
 refine wn (kk1 [2] ?_)
 refine C_ret (RX_q1 rfl rfl ?_)
 simp [outN, *]
theorem Shape_q {m : Imm} (b l : Int) : Quiet Tryz.prog 205 [.int .i64 b, .int .i64 l] m (.bool (shapeB b l)) := by
 refine quiet_of Tryz.func205 rfl Tryz.ntmps205 rfl (fun w => ?_)
 refine sq (rg ?_)
 refine as_ ?_
 refine wn (kk3 [0,1,4] (sq (sq (rg ?_))))
 refine mv ?_
 refine W_quiet (May_q _) T.hb152 rfl rfl ?_
 refine nt ?_
 refine wn (kk4 [0,1,4,7] ?_)
 refine cd ?_ ?_ <;> intro h1 <;> try simp only [tt] at h1
 refine sq (rg ?_)
 refine as_ ?_
 refine wn (kk3 [0,1,4] ?_)
 refine C_ret (RX_then (RX_q1 rfl rfl ?_))
 simp [shapeB, *]
 refine sk (kk3 [0,1,4] (sq (sq (rg ?_))))
 refine mv ?_
 refine wn (kk4 [0,1,4,8] (bk (sq (rg ?_))))
 refine be (as_ ?_)
 refine wn (kk5 [0,1,4,8,9] ?_)
 refine cd ?_ ?_ <;> intro h2 <;> try simp only [tt] at h2
 refine sq (rg ?_)
 refine as_ ?_
 refine wn (kk1 [4] ?_)
 refine C_ret (RX_block (RX_then (RX_q1 rfl rfl ?_)))
 simp [shapeB, *]
 refine sq (sq (rg ?_))
 refine be (as_ ?_)
 refine wn (kk5 [0,1,4,8,11] ?_)
 refine cd ?_ ?_ <;> intro h3 <;> try simp only [tt] at h3
 refine sk (kk4 [0,1,4,11] ?_)
 refine ctz (sq (rg ?_))
 refine mv (bh (mv ?_))
 refine sp 18 ?_ ?_ <;> intro h4 <;> try simp only [tt] at h4
 refine tk (mv ?_)
 refine tk (mv ?_)
 refine tk ?_
 refine W_q (r_bin rfl rfl (bin_mul _ _ _ _)) rfl ?_
 refine tk (bq (pt (as_ ?_)))
 refine wn (kk1 [4] ?_)
 refine C_ret (RX_block (RX_then (RX_q1 rfl rfl ?_)))
 have hb := mayW_le h1; subst_vars; rw [i64_of _ ⟨by omega, by omega⟩]; simp [shapeB, *]
 refine ps (ps (ps (ps ?_)))
 refine pf (as_ ?_)
 refine wn (kk1 [4] ?_)
 refine C_ret (RX_block (RX_then (RX_q1 rfl rfl ?_)))
 simp [shapeB, *]
 refine sq (rg ?_)
 refine be (as_ ?_)
 refine wn (kk5 [0,1,4,8,11] ?_)
 refine cd ?_ ?_ <;> intro h5 <;> try simp only [tt] at h5
 refine sk (kk4 [0,1,4,11] ?_)
 refine ctz (sq (rg ?_))
 refine mv (bh (mv ?_))
 refine sp 18 ?_ ?_ <;> intro h6 <;> try simp only [tt] at h6
 refine tk (mv ?_)
 refine tk (mv ?_)
 refine tk ?_
 refine W_q (r_bin rfl rfl (bin_mul _ _ _ _)) rfl ?_
 refine tk (bq (pt (as_ ?_)))
 refine wn (kk1 [4] ?_)
 refine C_ret (RX_block (RX_then (RX_q1 rfl rfl ?_)))
 have hb := mayW_le h1; subst_vars; rw [i64_of _ ⟨by omega, by omega⟩]; simp [shapeB, *]
 refine ps (ps (ps (ps ?_)))
 refine pf (as_ ?_)
 refine wn (kk1 [4] ?_)
 refine C_ret (RX_block (RX_then (RX_q1 rfl rfl ?_)))
 simp [shapeB, *]
 refine sq (rg ?_)
 refine be (as_ ?_)
 refine wn (kk5 [0,1,4,8,11] ?_)
 refine cd ?_ ?_ <;> intro h7 <;> try simp only [tt] at h7
 refine sk (kk4 [0,1,4,11] ?_)
 refine ctz (sq (rg ?_))
 refine mv (bh (mv ?_))
 refine sp 18 ?_ ?_ <;> intro h8 <;> try simp only [tt] at h8
 refine tk (mv ?_)
 refine tk (mv ?_)
 refine tk ?_
 refine W_q (r_bin rfl rfl (bin_mul _ _ _ _)) rfl ?_
 refine tk (bq (pt (as_ ?_)))
 refine wn (kk1 [4] ?_)
 refine C_ret (RX_block (RX_then (RX_q1 rfl rfl ?_)))
 have hb := mayW_le h1; subst_vars; rw [i64_of _ ⟨by omega, by omega⟩]; simp [shapeB, *]
 refine ps (ps (ps (ps ?_)))
 refine pf (as_ ?_)
 refine wn (kk1 [4] ?_)
 refine C_ret (RX_block (RX_then (RX_q1 rfl rfl ?_)))
 simp [shapeB, *]
 refine rg ?_
 refine be (as_ ?_)
 refine wn (kk4 [0,1,4,11] ?_)
 refine cd ?_ ?_ <;> intro h9 <;> try simp only [tt] at h9
 refine sq (rg ?_)
 refine mv (bh (mv ?_))
 refine sp 18 ?_ ?_ <;> intro h10 <;> try simp only [tt] at h10
 refine tk (mv ?_)
 refine tk (mv ?_)
 refine tk ?_
 refine W_q (r_bin rfl rfl (bin_mul _ _ _ _)) rfl ?_
 refine tk (bq (pt (as_ ?_)))
 refine wn (kk1 [4] ?_)
 refine C_ret (RX_block (RX_then (RX_q1 rfl rfl ?_)))
 have hb := mayW_le h1; subst_vars; rw [i64_of _ ⟨by omega, by omega⟩]; simp [shapeB, *]
 refine ps (ps (ps (ps ?_)))
 refine pf (as_ ?_)
 refine wn (kk1 [4] ?_)
 refine C_ret (RX_block (RX_then (RX_q1 rfl rfl ?_)))
 simp [shapeB, *]
 refine sk (nb (kk1 [4] (sq (rg ?_))))
 refine as_ ?_
 refine wn (kk1 [4] ?_)
 refine C_ret (RX_q1 rfl rfl ?_)
 simp [shapeB, *]
theorem goes_q {m : Imm} (k : Int) : Quiet Tryz.prog 100 [.int .i64 k] m (.int .i64 (goesK k)) := by
 refine quiet_of Tryz.func100 rfl Tryz.ntmps100 rfl (fun w => ?_)
 refine sq (rg ?_)
 refine as_ ?_
 refine wn (kk2 [0,2] (sq (sq (rg ?_))))
 refine mv ?_
 refine wn (kk2 [2,3] (bk (sq (sq (rg ?_)))))
 refine be (as_ ?_)
 refine wn (kk3 [2,3,4] ?_)
 refine cd ?_ ?_ <;> intro h1 <;> try simp only [tt] at h1
 refine sk (kk3 [2,3,4] ?_)
 refine ctz (sq (rg ?_))
 refine as_ ?_
 refine wn (kk1 [2] ?_)
 refine C_ret (RX_block (RX_then (RX_q1 rfl rfl ?_)))
 simp [goesK, *]
 refine rg ?_
 refine be (as_ ?_)
 refine wn (kk3 [2,3,4] ?_)
 refine cd ?_ ?_ <;> intro h2 <;> try simp only [tt] at h2
 refine sq (rg ?_)
 refine as_ ?_
 refine wn (kk1 [2] ?_)
 refine C_ret (RX_block (RX_then (RX_q1 rfl rfl ?_)))
 simp [goesK, *]
 refine sq (rg ?_)
 refine be (as_ ?_)
 refine wn (kk3 [2,3,7] ?_)
 refine cd ?_ ?_ <;> intro h3 <;> try simp only [tt] at h3
 refine sq (rg ?_)
 refine as_ ?_
 refine wn (kk1 [2] ?_)
 refine C_ret (RX_block (RX_then (RX_q1 rfl rfl ?_)))
 simp [goesK, *]
 refine sq (rg ?_)
 refine be (as_ ?_)
 refine wn (kk2 [2,9] ?_)
 refine cd ?_ ?_ <;> intro h4 <;> try simp only [tt] at h4
 refine sq (rg ?_)
 refine as_ ?_
 refine wn (kk1 [2] ?_)
 refine C_ret (RX_block (RX_then (RX_q1 rfl rfl ?_)))
 simp [goesK, *]
 refine sk (nb (kk1 [2] (sq (rg ?_))))
 refine as_ ?_
 refine wn (kk1 [2] ?_)
 refine C_ret (RX_q1 rfl rfl ?_)
 simp [goesK, *]
theorem Has_q {m : Imm} {A : Option Addr} {c : Nat} {l : List Int} (h : Ints m A c l) (x : Int) : Quiet Tryz.prog 51 [.slice A l.length c, .int .i64 x] m (.bool (l.contains x)) := by
 have hlen := h.len
 refine quiet_of Tryz.func51 rfl Tryz.ntmps51 rfl (fun w => ?_)
 refine sq (rg ?_)
 refine as_ ?_
 refine wn (kk3 [0,1,4] (sq (sq (rg ?_))))
 refine as_ ?_
 refine wn (kk4 [0,1,4,5] (bk ?_))
 refine C_loop (Unit) (l.length) (fun k1 x1 => ∀ j, j < k1 → l[j]? ≠ some x) (fun k1 x1 => [(5, .int .i64 (k1 : Int))]) (fun _ _ => []) [5] [0, 1] (F := [(0, _), (1, _)]) (()) (by simp) rfl rfl rfl (fun k1 x1 hk1 hJ1 => ?_)
 refine jj3 [0,1,5] (sq (sq (rg ?_)))
 refine mv (mv (ln Tryz.underlying22 (bl ?_)))
 refine wn (kk4 [0,1,5,9] ?_)
 refine cd ?_ ?_ <;> intro h2 <;> try simp only [tt] at h2
 refine sk (kk3 [0,1,5] (sq (bk (sq (rg ?_)))))
 refine mv (mv ?_)
 obtain ⟨ad3, hA3⟩ := h.ad (j := k1) (by omega)
 obtain ⟨z3, hz3⟩ := h.getz (j := k1) (by omega)
 refine ixz hA3 Tryz.underlying22 T.sz3 ?_
 obtain ⟨l4, r4⟩ := Sl.getI h hA3 hz3
 refine liz T.ag3 l4 ?_
 refine mv (be ?_)
 refine wn (kk4 [0,1,5,17] ?_)
 refine cd ?_ ?_ <;> intro h5 <;> try simp only [tt] at h5
 refine sq (rg ?_)
 refine as_ ?_
 refine wn (kk4 [0,1,4,5] ?_)
 refine C_ret (RX_block (RX_then (RX_then (RX_block (RX_then (RX_q1 rfl rfl ?_))))))
 have := List.mem_of_getElem? hz3; simp_all
 refine sk (nb (kk3 [0,1,5] (rg ?_)))
 refine mv ?_
 refine ad ?_
 refine as_ ?_
 refine wn ?_
 refine NX_rnd [5, 0, 1] (by omega) (()) ?_ rfl (List.Sublist.refl _) rfl (Imm.le_refl _)
 exact lt_succ_all hJ1 (by rw [hz3]; simpa using h5)
 refine C_exit (EX_then (EX_then (EX_hit (?_))))
 refine kk0 [] (sq (rg ?_))
 refine as_ ?_
 refine wn (kk1 [4] ?_)
 refine C_ret (RX_q1 rfl rfl ?_)
 have : k1 = l.length := by omega
 subst this; rw [contains_false_of hJ1]
theorem Ints_q {m : Imm} {A : Option Addr} {c : Nat} {l : List Int} (h : Ints m A c l) {A' : Option Addr} {c' : Nat} {l' : List Int} (h' : Ints m A' c' l') : Quiet Tryz.prog 21 [.slice A l.length c, .slice A' l'.length c'] m (.bool (l == l')) := by
 have hlen := h.len
 have hlen' := h'.len
 refine quiet_of Tryz.func21 rfl Tryz.ntmps21 rfl (fun w => ?_)
 refine sq (rg ?_)
 refine as_ ?_
 refine wn (kk3 [0,1,4] (sq (sq (rg ?_))))
 refine mv (ln Tryz.underlying22 (mv (ln Tryz.underlying22 (bn ?_))))
 refine wn (kk4 [0,1,4,10] ?_)
 refine cd ?_ ?_ <;> intro h1 <;> try simp only [tt] at h1
 refine sq (rg ?_)
 refine as_ ?_
 refine wn (kk3 [0,1,4] ?_)
 refine C_ret (RX_then (RX_q1 rfl rfl ?_))
 have : l ≠ l' := by rintro rfl; omega
 simp [this]
 refine sk (kk3 [0,1,4] (sq (sq (rg ?_))))
 refine as_ ?_
 refine wn (kk4 [0,1,4,5] (bk ?_))
 refine C_loop (Unit) (l.length) (fun k2 x2 => ∀ j, j < k2 → l[j]? = l'[j]?) (fun k2 x2 => [(5, .int .i64 (k2 : Int))]) (fun _ _ => []) [5] [0, 1] (F := [(0, _), (1, _)]) (()) (by simp) rfl rfl rfl (fun k2 x2 hk2 hJ2 => ?_)
 refine jj3 [0,1,5] (sq (sq (rg ?_)))
 refine mv (mv (ln Tryz.underlying22 (bl ?_)))
 refine wn (kk4 [0,1,5,14] ?_)
 refine cd ?_ ?_ <;> intro h3 <;> try simp only [tt] at h3
 refine sk (kk3 [0,1,5] (sq (bk (sq ?_))))
 refine C_drawn [(0, true), (1, true), (2, true), (3, true), (4, true), (5, true), (6, true), (7, true), (8, true)] (by kernel_rfl) rfl (by kernel_rfl) (by kernel_rfl) ?_
 refine dmv ?_
 refine dmv ?_
 obtain ⟨ad4, hA4⟩ := h.ad (j := k2) (by omega)
 obtain ⟨z4, hz4⟩ := h.getz (j := k2) (by omega)
 refine D_q rfl (r_index hA4 Tryz.underlying22 T.sz3 rfl rfl ⟨by omega, by omega⟩) rfl ?_
 obtain ⟨l5, r5⟩ := Sl.getI h hA4 hz4
 refine D_q rfl (r_load_imm rfl T.ag3 l5) rfl ?_
 refine dmv ?_
 refine dmv ?_
 obtain ⟨ad6, hA6⟩ := h'.ad (j := k2) (by omega)
 obtain ⟨z6, hz6⟩ := h'.getz (j := k2) (by omega)
 refine D_q rfl (r_index hA6 Tryz.underlying22 T.sz3 rfl rfl ⟨by omega, by omega⟩) rfl ?_
 obtain ⟨l7, r7⟩ := Sl.getI h' hA6 hz6
 refine D_q rfl (r_load_imm rfl T.ag3 l7) rfl ?_
 refine D_q rfl (r_bin rfl rfl (bin_neq _ _ _ _)) rfl ?_
 refine D_end ?_
 refine kk4 [0,1,5,25] ?_
 refine cd ?_ ?_ <;> intro h8 <;> try simp only [tt] at h8
 refine sq (rg ?_)
 refine as_ ?_
 refine wn (kk4 [0,1,4,5] ?_)
 refine C_ret (RX_block (RX_then (RX_then (RX_block (RX_then (RX_q1 rfl rfl ?_))))))
 have : l ≠ l' := by rintro rfl; rw [hz4] at hz6; simp at hz6; omega
 simp [this]
 refine sk (nb (kk3 [0,1,5] (rg ?_)))
 refine mv ?_
 refine ad ?_
 refine as_ ?_
 refine wn ?_
 refine NX_rnd [5, 0, 1] (by omega) (()) ?_ rfl (List.Sublist.refl _) rfl (Imm.le_refl _)
 exact lt_succ_all hJ2 (by rw [hz4, hz6]; simpa using h8)
 refine C_exit (EX_then (EX_then (EX_hit (?_))))
 refine kk0 [] (sq (rg ?_))
 refine as_ ?_
 refine wn (kk1 [4] ?_)
 refine C_ret (RX_q1 rfl rfl ?_)
 have : k2 = l.length := by omega
 subst this
 rw [eq_of_all (by omega) hJ2]; simp
theorem IndexFuncI_q {m : Imm} {A : Option Addr} {c : Nat} {l : List (Int)} (h : Sl rI 1 m A c l) {p : Int → Bool} {K : Nat} {cap : Array Value} (hK : hasBody Tryz.prog K = true)
    (hp : ∀ {j : Nat} (z : Int), l[j]? = some z → Quiet Tryz.prog K ([.int .i64 z] ++ cap.toList) m (.bool (p z))) : Quiet Tryz.prog 126 [.slice A l.length c, .func (.func K) #[] cap] m (.int .i64 (idxF p l)) := by
 have hlen := h.len
 refine quiet_of Tryz.func126 rfl Tryz.ntmps126 rfl (fun w => ?_)
 refine sq (rg ?_)
 refine as_ ?_
 refine wn (kk3 [0,1,4] (sq (sq (rg ?_))))
 refine mv (ln Tryz.underlying22 (mv ?_))
 refine wn (kk5 [0,1,4,7,8] ?_)
 refine C_range (Unit) (l.length) (fun k1 x1 => ∀ j, j < k1 → ∀ y, l[j]? = some y → p y = false) (fun k1 x1 => []) (fun _ _ => []) [] [0, 1] (F := [(0, _), (1, _)]) (()) rfl rfl (by omega) (by simp) rfl rfl rfl rfl rfl rfl rfl (fun _ _ => rfl) (fun _ _ => rfl) (fun k1 x1 hk1 hJ1 => ?_) (fun x1 hJ1 => ?_)
 refine jj4 [0,1,7,8] (sq (rg ?_))
 refine mv (as_ ?_)
 refine wn (kk5 [0,1,5,7,8] (sq (rg ?_)))
 refine mv (mv (mv ?_))
 obtain ⟨ad2, hA2⟩ := h.ad (j := k1) (by omega)
 obtain ⟨z2, hz2⟩ := h.getz (j := k1) (by omega)
 refine ixz hA2 Tryz.underlying22 T.sz3 ?_
 obtain ⟨l3, r3⟩ := Sl.getI h hA2 hz2
 refine liz T.ag3 l3 ?_
 refine W_callv rfl rfl (hp _ hz2) hK rfl ?_
 refine wn (kk6 [0,1,5,7,8,16] ?_)
 refine cd ?_ ?_ <;> intro h4 <;> try simp only [tt] at h4
 refine sq (rg ?_)
 refine mv (as_ ?_)
 refine wn (kk5 [0,1,4,7,8] ?_)
 refine C_ret (RX_block (RX_then (RX_block (RX_then (RX_q1 rfl rfl ?_)))))
 rw [idxF_at hJ1 hz2 h4]
 refine sk (nb (?_))
 refine NX_rng [0, 1] (()) ?_ rfl (List.Sublist.refl _) rfl (Imm.le_refl _)
 exact lt_succ_all hJ1 (fun y hy => by rw [hz2] at hy; simp only [Option.some.injEq] at hy; subst hy; exact h4)
 refine kk0 [] (sq (rg ?_))
 refine as_ ?_
 refine wn (kk1 [4] ?_)
 refine C_ret (RX_q1 rfl rfl ?_)
 rw [idxF_none hJ1]
theorem ContainsFuncI_q {m : Imm} {A : Option Addr} {c : Nat} {l : List (Int)} (h : Sl rI 1 m A c l) {p : Int → Bool} {K : Nat} {cap : Array Value} (hK : hasBody Tryz.prog K = true)
    (hp : ∀ {j : Nat} (z : Int), l[j]? = some z → Quiet Tryz.prog K ([.int .i64 z] ++ cap.toList) m (.bool (p z))) : Quiet Tryz.prog 86 [.slice A l.length c, .func (.func K) #[] cap] m (.bool (l.any p)) := by
 refine quiet_of Tryz.func86 rfl Tryz.ntmps86 rfl (fun w => ?_)
 refine sq (rg ?_)
 refine as_ ?_
 refine wn (kk3 [0,1,4] (sq (rg ?_)))
 refine mv (mv ?_)
 refine W_quiet (IndexFuncI_q h hK hp) T.hb126 rfl rfl ?_
 refine bh (as_ ?_)
 refine wn (kk1 [4] ?_)
 refine C_ret (RX_q1 rfl rfl ?_)
 rw [idxF_any]
theorem IndexFuncB_q {m : Imm} {A : Option Addr} {c : Nat} {l : List (FBlk)} (h : Sl rBlock 5 m A c l) {p : FBlk → Bool} {K : Nat} {cap : Array Value} (hK : hasBody Tryz.prog K = true)
    (hp : ∀ {j : Nat} (z : FBlk), l[j]? = some z → ∀ es, rBlock m es z → Quiet Tryz.prog K ([.agg es.toArray] ++ cap.toList) m (.bool (p z))) : Quiet Tryz.prog 148 [.slice A l.length c, .func (.func K) #[] cap] m (.int .i64 (idxF p l)) := by
 have hlen := h.len
 refine quiet_of Tryz.func148 rfl Tryz.ntmps148 rfl (fun w => ?_)
 refine sq (rg ?_)
 refine as_ ?_
 refine wn (kk3 [0,1,4] (sq (sq (rg ?_))))
 refine mv (ln Tryz.underlying23 (mv ?_))
 refine wn (kk5 [0,1,4,7,8] ?_)
 refine C_range (Unit) (l.length) (fun k1 x1 => ∀ j, j < k1 → ∀ y, l[j]? = some y → p y = false) (fun k1 x1 => []) (fun _ _ => []) [] [0, 1] (F := [(0, _), (1, _)]) (()) rfl rfl (by omega) (by simp) rfl rfl rfl rfl rfl rfl rfl (fun _ _ => rfl) (fun _ _ => rfl) (fun k1 x1 hk1 hJ1 => ?_) (fun x1 hJ1 => ?_)
 refine jj4 [0,1,7,8] (sq (rg ?_))
 refine mv (as_ ?_)
 refine wn (kk5 [0,1,5,7,8] (sq (rg ?_)))
 refine mv (mv (mv ?_))
 obtain ⟨ad2, hA2⟩ := h.ad (j := k1) (by omega)
 obtain ⟨z2, hz2⟩ := h.getz (j := k1) (by omega)
 refine ixz hA2 Tryz.underlying23 T.sz44 ?_
 obtain ⟨es3, f3, _, l3⟩ := Sl.get h hA2 hz2
 have F3 := f3
 obtain ⟨A3, c3, B3, d3, C3, e3, rfl, hp3, ho3, ht3, i3a, i3b⟩ := f3
 refine W_q (r_load_immk (vs := [_, _, _, _, _]) rfl T.ag44 T.sz44 l3) rfl ?_
 refine W_callv rfl rfl (hp _ hz2 _ F3) hK rfl ?_
 refine wn (kk6 [0,1,5,7,8,16] ?_)
 refine cd ?_ ?_ <;> intro h4 <;> try simp only [tt] at h4
 refine sq (rg ?_)
 refine mv (as_ ?_)
 refine wn (kk5 [0,1,4,7,8] ?_)
 refine C_ret (RX_block (RX_then (RX_block (RX_then (RX_q1 rfl rfl ?_)))))
 rw [idxF_at hJ1 hz2 h4]
 refine sk (nb (?_))
 refine NX_rng [0, 1] (()) ?_ rfl (List.Sublist.refl _) rfl (Imm.le_refl _)
 exact lt_succ_all hJ1 (fun y hy => by rw [hz2] at hy; simp only [Option.some.injEq] at hy; subst hy; exact h4)
 refine kk0 [] (sq (rg ?_))
 refine as_ ?_
 refine wn (kk1 [4] ?_)
 refine C_ret (RX_q1 rfl rfl ?_)
 rw [idxF_none hJ1]
theorem ContainsFuncB_q {m : Imm} {A : Option Addr} {c : Nat} {l : List (FBlk)} (h : Sl rBlock 5 m A c l) {p : FBlk → Bool} {K : Nat} {cap : Array Value} (hK : hasBody Tryz.prog K = true)
    (hp : ∀ {j : Nat} (z : FBlk), l[j]? = some z → ∀ es, rBlock m es z → Quiet Tryz.prog K ([.agg es.toArray] ++ cap.toList) m (.bool (p z))) : Quiet Tryz.prog 110 [.slice A l.length c, .func (.func K) #[] cap] m (.bool (l.any p)) := by
 refine quiet_of Tryz.func110 rfl Tryz.ntmps110 rfl (fun w => ?_)
 refine sq (rg ?_)
 refine as_ ?_
 refine wn (kk3 [0,1,4] (sq (rg ?_)))
 refine mv (mv ?_)
 refine W_quiet (IndexFuncB_q h hK hp) T.hb148 rfl rfl ?_
 refine bh (as_ ?_)
 refine wn (kk1 [4] ?_)
 refine C_ret (RX_q1 rfl rfl ?_)
 rw [idxF_any]
theorem IndexFuncP_q {m : Imm} {A : Option Addr} {c : Nat} {l : List (FPhi)} (h : Sl rPhi 4 m A c l) {p : FPhi → Bool} {K : Nat} {cap : Array Value} (hK : hasBody Tryz.prog K = true)
    (hp : ∀ {j : Nat} (z : FPhi), l[j]? = some z → ∀ es, rPhi m es z → Quiet Tryz.prog K ([.agg es.toArray] ++ cap.toList) m (.bool (p z))) : Quiet Tryz.prog 188 [.slice A l.length c, .func (.func K) #[] cap] m (.int .i64 (idxF p l)) := by
 have hlen := h.len
 refine quiet_of Tryz.func188 rfl Tryz.ntmps188 rfl (fun w => ?_)
 refine sq (rg ?_)
 refine as_ ?_
 refine wn (kk3 [0,1,4] (sq (sq (rg ?_))))
 refine mv (ln Tryz.underlying39 (mv ?_))
 refine wn (kk5 [0,1,4,7,8] ?_)
 refine C_range (Unit) (l.length) (fun k1 x1 => ∀ j, j < k1 → ∀ y, l[j]? = some y → p y = false) (fun k1 x1 => []) (fun _ _ => []) [] [0, 1] (F := [(0, _), (1, _)]) (()) rfl rfl (by omega) (by simp) rfl rfl rfl rfl rfl rfl rfl (fun _ _ => rfl) (fun _ _ => rfl) (fun k1 x1 hk1 hJ1 => ?_) (fun x1 hJ1 => ?_)
 refine jj4 [0,1,7,8] (sq (rg ?_))
 refine mv (as_ ?_)
 refine wn (kk5 [0,1,5,7,8] (sq (rg ?_)))
 refine mv (mv (mv ?_))
 obtain ⟨ad2, hA2⟩ := h.ad (j := k1) (by omega)
 obtain ⟨z2, hz2⟩ := h.getz (j := k1) (by omega)
 refine ixz hA2 Tryz.underlying39 T.sz61 ?_
 obtain ⟨es3, f3, _, l3⟩ := Sl.get h hA2 hz2
 have F3 := f3
 obtain ⟨A3, c3, B3, d3, rfl, h3, g3, i3a, i3b⟩ := f3
 refine W_q (r_load_immk (vs := [_, _, _, _]) rfl T.ag61 T.sz61 l3) rfl ?_
 refine W_callv rfl rfl (hp _ hz2 _ F3) hK rfl ?_
 refine wn (kk6 [0,1,5,7,8,16] ?_)
 refine cd ?_ ?_ <;> intro h4 <;> try simp only [tt] at h4
 refine sq (rg ?_)
 refine mv (as_ ?_)
 refine wn (kk5 [0,1,4,7,8] ?_)
 refine C_ret (RX_block (RX_then (RX_block (RX_then (RX_q1 rfl rfl ?_)))))
 rw [idxF_at hJ1 hz2 h4]
 refine sk (nb (?_))
 refine NX_rng [0, 1] (()) ?_ rfl (List.Sublist.refl _) rfl (Imm.le_refl _)
 exact lt_succ_all hJ1 (fun y hy => by rw [hz2] at hy; simp only [Option.some.injEq] at hy; subst hy; exact h4)
 refine kk0 [] (sq (rg ?_))
 refine as_ ?_
 refine wn (kk1 [4] ?_)
 refine C_ret (RX_q1 rfl rfl ?_)
 rw [idxF_none hJ1]
theorem ContainsFuncP_q {m : Imm} {A : Option Addr} {c : Nat} {l : List (FPhi)} (h : Sl rPhi 4 m A c l) {p : FPhi → Bool} {K : Nat} {cap : Array Value} (hK : hasBody Tryz.prog K = true)
    (hp : ∀ {j : Nat} (z : FPhi), l[j]? = some z → ∀ es, rPhi m es z → Quiet Tryz.prog K ([.agg es.toArray] ++ cap.toList) m (.bool (p z))) : Quiet Tryz.prog 154 [.slice A l.length c, .func (.func K) #[] cap] m (.bool (l.any p)) := by
 refine quiet_of Tryz.func154 rfl Tryz.ntmps154 rfl (fun w => ?_)
 refine sq (rg ?_)
 refine as_ ?_
 refine wn (kk3 [0,1,4] (sq (rg ?_)))
 refine mv (mv ?_)
 refine W_quiet (IndexFuncP_q h hK hp) T.hb188 rfl rfl ?_
 refine bh (as_ ?_)
 refine wn (kk1 [4] ?_)
 refine C_ret (RX_q1 rfl rfl ?_)
 rw [idxF_any]
theorem IndexFuncO_q {m : Imm} {A : Option Addr} {c : Nat} {l : List (FOp)} (h : Sl rOp 6 m A c l) {p : FOp → Bool} {K : Nat} {cap : Array Value} (hK : hasBody Tryz.prog K = true)
    (hp : ∀ {j : Nat} (z : FOp), l[j]? = some z → ∀ es, rOp m es z → Quiet Tryz.prog K ([.agg es.toArray] ++ cap.toList) m (.bool (p z))) : Quiet Tryz.prog 189 [.slice A l.length c, .func (.func K) #[] cap] m (.int .i64 (idxF p l)) := by
 have hlen := h.len
 refine quiet_of Tryz.func189 rfl Tryz.ntmps189 rfl (fun w => ?_)
 refine sq (rg ?_)
 refine as_ ?_
 refine wn (kk3 [0,1,4] (sq (sq (rg ?_))))
 refine mv (ln Tryz.underlying40 (mv ?_))
 refine wn (kk5 [0,1,4,7,8] ?_)
 refine C_range (Unit) (l.length) (fun k1 x1 => ∀ j, j < k1 → ∀ y, l[j]? = some y → p y = false) (fun k1 x1 => []) (fun _ _ => []) [] [0, 1] (F := [(0, _), (1, _)]) (()) rfl rfl (by omega) (by simp) rfl rfl rfl rfl rfl rfl rfl (fun _ _ => rfl) (fun _ _ => rfl) (fun k1 x1 hk1 hJ1 => ?_) (fun x1 hJ1 => ?_)
 refine jj4 [0,1,7,8] (sq (rg ?_))
 refine mv (as_ ?_)
 refine wn (kk5 [0,1,5,7,8] (sq (rg ?_)))
 refine mv (mv (mv ?_))
 obtain ⟨ad2, hA2⟩ := h.ad (j := k1) (by omega)
 obtain ⟨z2, hz2⟩ := h.getz (j := k1) (by omega)
 refine ixz hA2 Tryz.underlying40 T.sz51 ?_
 obtain ⟨es3, f3, _, l3⟩ := Sl.get h hA2 hz2
 have F3 := f3
 obtain ⟨A3, c3, rfl, h3, i3a, i3b, i3c, i3d, i3e⟩ := f3
 refine W_q (r_load_immk (vs := [_, _, _, _, _, _]) rfl T.ag51 T.sz51 l3) rfl ?_
 refine W_callv rfl rfl (hp _ hz2 _ F3) hK rfl ?_
 refine wn (kk6 [0,1,5,7,8,16] ?_)
 refine cd ?_ ?_ <;> intro h4 <;> try simp only [tt] at h4
 refine sq (rg ?_)
 refine mv (as_ ?_)
 refine wn (kk5 [0,1,4,7,8] ?_)
 refine C_ret (RX_block (RX_then (RX_block (RX_then (RX_q1 rfl rfl ?_)))))
 rw [idxF_at hJ1 hz2 h4]
 refine sk (nb (?_))
 refine NX_rng [0, 1] (()) ?_ rfl (List.Sublist.refl _) rfl (Imm.le_refl _)
 exact lt_succ_all hJ1 (fun y hy => by rw [hz2] at hy; simp only [Option.some.injEq] at hy; subst hy; exact h4)
 refine kk0 [] (sq (rg ?_))
 refine as_ ?_
 refine wn (kk1 [4] ?_)
 refine C_ret (RX_q1 rfl rfl ?_)
 rw [idxF_none hJ1]
theorem ContainsFuncO_q {m : Imm} {A : Option Addr} {c : Nat} {l : List (FOp)} (h : Sl rOp 6 m A c l) {p : FOp → Bool} {K : Nat} {cap : Array Value} (hK : hasBody Tryz.prog K = true)
    (hp : ∀ {j : Nat} (z : FOp), l[j]? = some z → ∀ es, rOp m es z → Quiet Tryz.prog K ([.agg es.toArray] ++ cap.toList) m (.bool (p z))) : Quiet Tryz.prog 156 [.slice A l.length c, .func (.func K) #[] cap] m (.bool (l.any p)) := by
 refine quiet_of Tryz.func156 rfl Tryz.ntmps156 rfl (fun w => ?_)
 refine sq (rg ?_)
 refine as_ ?_
 refine wn (kk3 [0,1,4] (sq (rg ?_)))
 refine mv (mv ?_)
 refine W_quiet (IndexFuncO_q h hK hp) T.hb189 rfl rfl ?_
 refine bh (as_ ?_)
 refine wn (kk1 [4] ?_)
 refine C_ret (RX_q1 rfl rfl ?_)
 rw [idxF_any]
theorem IndexFuncS_q {m : Imm} {A : Option Addr} {c : Nat} {l : List (List Int)} (h : Sl (rS rI 1) 1 m A c l) {p : List Int → Bool} {K : Nat} {cap : Array Value} (hK : hasBody Tryz.prog K = true)
    (hp : ∀ {j : Nat} (z : List Int), l[j]? = some z → ∀ A' c', Ints m A' c' z → Quiet Tryz.prog K ([.slice A' z.length c'] ++ cap.toList) m (.bool (p z))) : Quiet Tryz.prog 181 [.slice A l.length c, .func (.func K) #[] cap] m (.int .i64 (idxF p l)) := by
 have hlen := h.len
 refine quiet_of Tryz.func181 rfl Tryz.ntmps181 rfl (fun w => ?_)
 refine sq (rg ?_)
 refine as_ ?_
 refine wn (kk3 [0,1,4] (sq (sq (rg ?_))))
 refine mv (ln Tryz.underlying65 (mv ?_))
 refine wn (kk5 [0,1,4,7,8] ?_)
 refine C_range (Unit) (l.length) (fun k1 x1 => ∀ j, j < k1 → ∀ y, l[j]? = some y → p y = false) (fun k1 x1 => []) (fun _ _ => []) [] [0, 1] (F := [(0, _), (1, _)]) (()) rfl rfl (by omega) (by simp) rfl rfl rfl rfl rfl rfl rfl (fun _ _ => rfl) (fun _ _ => rfl) (fun k1 x1 hk1 hJ1 => ?_) (fun x1 hJ1 => ?_)
 refine jj4 [0,1,7,8] (sq (rg ?_))
 refine mv (as_ ?_)
 refine wn (kk5 [0,1,5,7,8] (sq (rg ?_)))
 refine mv (mv (mv ?_))
 obtain ⟨ad2, hA2⟩ := h.ad (j := k1) (by omega)
 obtain ⟨z2, hz2⟩ := h.getz (j := k1) (by omega)
 refine ixz hA2 Tryz.underlying65 T.sz22 ?_
 obtain ⟨A3, c3, l3, h3⟩ := Sl.getS h hA2 hz2
 refine liz T.ag22 l3 ?_
 refine W_callv rfl rfl (hp _ hz2 _ _ h3) hK rfl ?_
 refine wn (kk6 [0,1,5,7,8,16] ?_)
 refine cd ?_ ?_ <;> intro h4 <;> try simp only [tt] at h4
 refine sq (rg ?_)
 refine mv (as_ ?_)
 refine wn (kk5 [0,1,4,7,8] ?_)
 refine C_ret (RX_block (RX_then (RX_block (RX_then (RX_q1 rfl rfl ?_)))))
 rw [idxF_at hJ1 hz2 h4]
 refine sk (nb (?_))
 refine NX_rng [0, 1] (()) ?_ rfl (List.Sublist.refl _) rfl (Imm.le_refl _)
 exact lt_succ_all hJ1 (fun y hy => by rw [hz2] at hy; simp only [Option.some.injEq] at hy; subst hy; exact h4)
 refine kk0 [] (sq (rg ?_))
 refine as_ ?_
 refine wn (kk1 [4] ?_)
 refine C_ret (RX_q1 rfl rfl ?_)
 rw [idxF_none hJ1]
theorem ContainsFuncS_q {m : Imm} {A : Option Addr} {c : Nat} {l : List (List Int)} (h : Sl (rS rI 1) 1 m A c l) {p : List Int → Bool} {K : Nat} {cap : Array Value} (hK : hasBody Tryz.prog K = true)
    (hp : ∀ {j : Nat} (z : List Int), l[j]? = some z → ∀ A' c', Ints m A' c' z → Quiet Tryz.prog K ([.slice A' z.length c'] ++ cap.toList) m (.bool (p z))) : Quiet Tryz.prog 133 [.slice A l.length c, .func (.func K) #[] cap] m (.bool (l.any p)) := by
 refine quiet_of Tryz.func133 rfl Tryz.ntmps133 rfl (fun w => ?_)
 refine sq (rg ?_)
 refine as_ ?_
 refine wn (kk3 [0,1,4] (sq (rg ?_)))
 refine mv (mv ?_)
 refine W_quiet (IndexFuncS_q h hK hp) T.hb181 rfl rfl ?_
 refine bh (as_ ?_)
 refine wn (kk1 [4] ?_)
 refine C_ret (RX_q1 rfl rfl ?_)
 rw [idxF_any]
namespace T
theorem ag23 : agg? Tryz.prog 23 = some false := by kernel_rfl
theorem ag25 : agg? Tryz.prog 25 = some true := by kernel_rfl
theorem ag39 : agg? Tryz.prog 39 = some false := by kernel_rfl
theorem ag40 : agg? Tryz.prog 40 = some false := by kernel_rfl
theorem fo25_0 : fld? Tryz.prog 25 0 = some (0, 1) := by kernel_rfl
theorem fo25_1 : fld? Tryz.prog 25 1 = some (1, 1) := by kernel_rfl
theorem fo25_2 : fld? Tryz.prog 25 2 = some (2, 1) := by kernel_rfl
theorem fo42_0 : fld? Tryz.prog 42 0 = some (0, 1) := by kernel_rfl
theorem fo42_1 : fld? Tryz.prog 42 1 = some (1, 1) := by kernel_rfl
theorem fo42_2 : fld? Tryz.prog 42 2 = some (2, 1) := by kernel_rfl
theorem fo44_0 : fld? Tryz.prog 44 0 = some (0, 1) := by kernel_rfl
theorem fo44_1 : fld? Tryz.prog 44 1 = some (1, 1) := by kernel_rfl
theorem fo44_2 : fld? Tryz.prog 44 2 = some (2, 3) := by kernel_rfl
theorem fo51_0 : fld? Tryz.prog 51 0 = some (0, 1) := by kernel_rfl
theorem fo51_1 : fld? Tryz.prog 51 1 = some (1, 1) := by kernel_rfl
theorem fo51_2 : fld? Tryz.prog 51 2 = some (2, 1) := by kernel_rfl
theorem fo51_3 : fld? Tryz.prog 51 3 = some (3, 1) := by kernel_rfl
theorem fo51_4 : fld? Tryz.prog 51 4 = some (4, 1) := by kernel_rfl
theorem fo61_0 : fld? Tryz.prog 61 0 = some (0, 1) := by kernel_rfl
theorem fo61_1 : fld? Tryz.prog 61 1 = some (1, 1) := by kernel_rfl
theorem fo61_2 : fld? Tryz.prog 61 2 = some (2, 1) := by kernel_rfl
theorem fo61_3 : fld? Tryz.prog 61 3 = some (3, 1) := by kernel_rfl
theorem hb108 : hasBody Tryz.prog 108 = true := by kernel_rfl
theorem hb109 : hasBody Tryz.prog 109 = true := by kernel_rfl
theorem hb110 : hasBody Tryz.prog 110 = true := by kernel_rfl
theorem hb111 : hasBody Tryz.prog 111 = true := by kernel_rfl
theorem hb112 : hasBody Tryz.prog 112 = true := by kernel_rfl
theorem hb147 : hasBody Tryz.prog 147 = true := by kernel_rfl
theorem hb149 : hasBody Tryz.prog 149 = true := by kernel_rfl
theorem hb86 : hasBody Tryz.prog 86 = true := by kernel_rfl
theorem sz25 : sz? Tryz.prog 25 = some 3 := by kernel_rfl
theorem ze22 : zero? Tryz.prog 22 = some (.slice none 0 0) := by kernel_rfl
theorem ze3 : zero? Tryz.prog 3 = some (.int .i64 0) := by kernel_rfl
theorem ze44 : zero? Tryz.prog 44 = some (.agg #[(.slice none 0 0), (.slice none 0 0), (.int .i64 0), (.int .i64 0), (.slice none 0 0)]) := by kernel_rfl
theorem ze51 : zero? Tryz.prog 51 = some (.agg #[(.int .i64 0), (.int .i64 0), (.int .i64 0), (.int .i64 0), (.slice none 0 0), (.int .u64 0)]) := by kernel_rfl
theorem ze61 : zero? Tryz.prog 61 = some (.agg #[(.int .i64 0), (.int .i64 0), (.slice none 0 0), (.slice none 0 0)]) := by kernel_rfl
end T
theorem in_q {m : Imm} {A : Option Addr} {c : Nat} {l : List Int} (h : Ints m A c l) : Quiet Tryz.prog 109 [.slice A l.length c] m (.bool (inB l)) := by
 refine quiet_of Tryz.func109 rfl Tryz.ntmps109 rfl (fun w => ?_)
 refine sq (rg ?_)
 refine as_ ?_
 refine wn (kk2 [0,2] (sq (rg ?_)))
 refine mv ?_
 refine W_quiet (ContainsFuncI_q h (p := outN) (K := 147) T.hb147 (fun z _ => in1_q z)) T.hb86 rfl rfl ?_
 refine nt (as_ ?_)
 refine wn (kk1 [2] ?_)
 refine C_ret (RX_q1 rfl rfl ?_)
 rw [inB]
theorem lists_q {m : Imm} {A : Option Addr} {c : Nat} {ll : List (List Int)} (h : Sl (rS rI 1) 1 m A c ll) : Quiet Tryz.prog 149 [.slice A ll.length c] m (.bool (listsB ll)) := by
 have hlen := h.len
 refine quiet_of Tryz.func149 rfl Tryz.ntmps149 rfl (fun w => ?_)
 refine sq (rg ?_)
 refine as_ ?_
 refine wn (kk2 [0,2] (sq (sq (rg ?_))))
 refine mv (ln Tryz.underlying65 (mv ?_))
 refine wn (kk4 [2,5,6,7] ?_)
 refine C_range (Unit) (ll.length) (fun k1 x1 => ∀ j, j < k1 → ∀ y, ll[j]? = some y → (!(decide (64 < (y.length : Int)) || !(inB y))) = true) (fun k1 x1 => []) (fun _ _ => []) [] [5] (F := [(5, _)]) (()) rfl rfl (by omega) (by simp) rfl rfl rfl rfl rfl rfl rfl (fun _ _ => rfl) (fun _ _ => rfl) (fun k1 x1 hk1 hJ1 => ?_) (fun x1 hJ1 => ?_)
 refine jj3 [5,6,7] (sq (rg ?_))
 obtain ⟨ad2, hA2⟩ := h.ad (j := k1) (by omega)
 obtain ⟨z2, hz2⟩ := h.getz (j := k1) (by omega)
 refine ixz hA2 Tryz.underlying65 T.sz22 ?_
 obtain ⟨A3, c3, l3, h3⟩ := Sl.getS h hA2 hz2
 refine liz T.ag22 l3 ?_
 refine as_ ?_
 refine wn (kk4 [4,5,6,7] (sq (rg ?_)))
 refine mv (ln Tryz.underlying22 (bg (mv ?_)))
 refine sp 14 ?_ ?_ <;> intro h4 <;> try simp only [tt] at h4
 refine ps (ps (ps ?_))
 refine pt ?_
 refine wn (kk4 [5,6,7,18] ?_)
 refine ctz (sq (rg ?_))
 refine as_ ?_
 refine wn (kk4 [2,5,6,7] ?_)
 refine C_ret (RX_block (RX_then (RX_block (RX_then (RX_q1 rfl rfl ?_)))))
 rw [listsB, all_false_of hz2 (by simp_all)]
 refine tk (mv ?_)
 refine tk ?_
 refine W_quiet (in_q h3) T.hb109 rfl rfl ?_
 refine tk (nt (pf ?_))
 refine wn (kk4 [5,6,7,18] ?_)
 refine cd ?_ ?_ <;> intro h5 <;> try simp only [tt] at h5
 refine sq (rg ?_)
 refine as_ ?_
 refine wn (kk4 [2,5,6,7] ?_)
 refine C_ret (RX_block (RX_then (RX_block (RX_then (RX_q1 rfl rfl ?_)))))
 rw [listsB, all_false_of hz2 (by simp_all)]
 refine sk (nb (?_))
 refine NX_rng [5] (()) ?_ rfl (List.Sublist.refl _) rfl (Imm.le_refl _)
 exact lt_succ_all hJ1 (fun y hy => by rw [hz2] at hy; simp only [Option.some.injEq] at hy; subst hy; simp_all)
 refine kk0 [] (sq (rg ?_))
 refine as_ ?_
 refine wn (kk1 [2] ?_)
 refine C_ret (RX_q1 rfl rfl ?_)
 rw [listsB, all_true_of hJ1]
theorem mayBlock_q {m : Imm} {es : List Value} {b : FBlk} (hB : rBlock m es b) : Quiet Tryz.prog 112 [.agg es.toArray] m (.bool (mayBlock b)) := by
 have hB_0 := hB
 obtain ⟨A90, c90, B90, d90, C90, e90, rfl, hp90, ho90, ht90, i90a, i90b⟩ := hB_0
 have hlen := hp90.len
 have hlen2 := ho90.len
 refine quiet_of Tryz.func112 rfl Tryz.ntmps112 rfl (fun w => ?_)
 refine sq (rg ?_)
 refine S_box (l := [_, _, _, _, _]) rfl rfl rfl (fun b1 => ?_)
 refine as_ ?_
 refine wn (kk2 [1,2] (sq (sq (rg ?_))))
 refine fb 0 T.fo44_0 (lb 0 T.ag39 (ln Tryz.underlying39 (mv ?_)))
 refine wn (kk5 [1,2,8,9,10] ?_)
 refine C_range (Unit) (b.phis.length) (fun k2 x2 => ∀ j, j < k2 → ∀ y, b.phis[j]? = some y → mayPhi y = true) (fun k2 x2 => []) (fun _ _ => []) [] [1, 8] (F := [(1, _), (8, _)]) (()) rfl rfl (by omega) (by simp) rfl rfl rfl rfl rfl rfl rfl (fun _ _ => rfl) (fun _ _ => rfl) (fun k2 x2 hk2 hJ2 => ?_) (fun x2 hJ2 => ?_)
 refine jj4 [1,8,9,10] (sq (rg ?_))
 obtain ⟨ad3, hA3⟩ := hp90.ad (j := k2) (by omega)
 obtain ⟨z3, hz3⟩ := hp90.getz (j := k2) (by omega)
 refine ixz hA3 Tryz.underlying39 T.sz61 ?_
 obtain ⟨es4, f4, _, l4⟩ := Sl.get hp90 hA3 hz3
 have F4 := f4
 obtain ⟨A4, c4, B4, d4, rfl, h4, g4, i4a, i4b⟩ := f4
 refine W_q (r_load_immk (vs := [_, _, _, _]) rfl T.ag61 T.sz61 l4) rfl ?_
 refine sa4 T.ze61 (fun b5 => ?_)
 refine sb4 0 T.sz61 ?_
 refine wn (kk5 [1,4,8,9,10] (sq (rg ?_)))
 refine fb 0 T.fo61_0 (lb 0 T.ag3 (fb 1 T.fo61_1 (lb 0 T.ag3 ?_)))
 refine S_lit (vs := [_, _]) (cs := [_, _]) Tryz.underlying22 T.sz3 T.ze3 rfl rfl rfl rfl rfl rfl (fun m6 ad6 le6 l6 => ?_)
 replace hB := rBlock_mono _ _ _ _ le6 hB
 replace hp90 := hp90.mono rPhi_mono le6
 replace ho90 := ho90.mono rOp_mono le6
 replace ht90 := ht90.mono rI_mono le6
 replace F4 := rPhi_mono _ _ _ _ le6 F4
 replace h4 := h4.mono rI_mono le6
 replace g4 := g4.mono rI_mono le6
 have h6 : Ints m6 (some ad6) 2 _ := Ints_lit [_, _] l6 (i64s_cons (by first | assumption | exact ⟨by omega, by omega⟩) (i64s_cons (by first | assumption | exact ⟨by omega, by omega⟩) i64s_nil))
 refine W_quiet (in_q h6) T.hb109 rfl rfl ?_
 refine nt (mv ?_)
 refine sp 21 ?_ ?_ <;> intro h7 <;> try simp only [tt] at h7
 refine ps (ps (ps (ps (ps (ps (ps ?_))))))
 refine pt ?_
 refine wn (kk5 [1,8,9,10,29] ?_)
 refine ctz (sq (rg ?_))
 refine as_ ?_
 refine wn (kk5 [1,2,8,9,10] ?_)
 refine C_ret (RX_block (RX_then (RX_block (RX_then (RX_q1 rfl rfl ?_)))))
 rw [mayBlock, all_false_of hz3 (by simp_all [mayPhi])]; rfl
 refine tk (fb 2 T.fo61_2 ?_)
 refine tk (lb 0 T.ag22 ?_)
 refine tk (fb 3 T.fo61_3 ?_)
 refine tk (lb 0 T.ag22 ?_)
 refine tk ?_
 refine S_lit (vs := [_, _]) (cs := [_, _]) Tryz.underlying65 T.sz22 T.ze22 rfl rfl rfl rfl rfl rfl (fun m8 ad8 le8 l8 => ?_)
 replace hB := rBlock_mono _ _ _ _ le8 hB
 replace hp90 := hp90.mono rPhi_mono le8
 replace ho90 := ho90.mono rOp_mono le8
 replace ht90 := ht90.mono rI_mono le8
 replace F4 := rPhi_mono _ _ _ _ le8 F4
 replace h4 := h4.mono rI_mono le8
 replace g4 := g4.mono rI_mono le8
 replace h6 := h6.mono rI_mono le8
 have h8 := slS_lit2 h4 g4 l8
 refine tk ?_
 refine W_quiet (lists_q h8) T.hb149 rfl rfl ?_
 refine tk (nt (pf ?_))
 refine wn (kk5 [1,8,9,10,29] ?_)
 refine cd ?_ ?_ <;> intro h9 <;> try simp only [tt] at h9
 refine sq (rg ?_)
 refine as_ ?_
 refine wn (kk5 [1,2,8,9,10] ?_)
 refine C_ret (RX_block (RX_then (RX_block (RX_then (RX_q1 rfl rfl ?_)))))
 rw [mayBlock, all_false_of hz3 (by simp_all [mayPhi])]; rfl
 refine sk (nb (?_))
 refine NX_rng [1, 8] (()) ?_ rfl (sub_drop 1 rfl) rfl (Imm.le_trans (le6) le8)
 exact lt_succ_all hJ2 (fun y hy => by rw [hz3] at hy; simp only [Option.some.injEq] at hy; subst hy; simp_all [mayPhi])
 refine kk1 [1] (sq (sq (rg ?_)))
 refine fb 1 T.fo44_1 (lb 0 T.ag40 (ln Tryz.underlying40 (mv ?_)))
 refine wn (kk4 [1,32,33,34] ?_)
 refine C_range (Unit) (b.ops.length) (fun k10 x10 => ∀ j, j < k10 → ∀ y, b.ops[j]? = some y → mayOpC y = true) (fun k10 x10 => []) (fun _ _ => []) [] [1, 32] (F := [(1, _), (32, _)]) (()) rfl rfl (by omega) (by simp) rfl rfl rfl rfl rfl rfl rfl (fun _ _ => rfl) (fun _ _ => rfl) (fun k10 x10 hk10 hJ10 => ?_) (fun x10 hJ10 => ?_)
 refine jj4 [1,32,33,34] (sq (rg ?_))
 obtain ⟨ad11, hA11⟩ := ho90.ad (j := k10) (by omega)
 obtain ⟨z11, hz11⟩ := ho90.getz (j := k10) (by omega)
 refine ixz hA11 Tryz.underlying40 T.sz51 ?_
 obtain ⟨es12, f12, _, l12⟩ := Sl.get ho90 hA11 hz11
 have F12 := f12
 obtain ⟨A12, c12, rfl, h12, i12a, i12b, i12c, i12d, i12e⟩ := f12
 refine W_q (r_load_immk (vs := [_, _, _, _, _, _]) rfl T.ag51 T.sz51 l12) rfl ?_
 refine sa6 T.ze51 (fun b13 => ?_)
 refine sb6 0 T.sz51 ?_
 refine wn (kk5 [1,6,32,33,34] (sq (rg ?_)))
 refine fb 0 T.fo51_0 (lb 0 T.ag3 (fb 1 T.fo51_1 (lb 0 T.ag3 (fb 2 T.fo51_2 (lb 0 T.ag3 (fb 3 T.fo51_3 (lb 0 T.ag3 ?_)))))))
 refine S_lit (vs := [_, _, _, _]) (cs := [_, _, _, _]) Tryz.underlying22 T.sz3 T.ze3 rfl rfl rfl rfl rfl rfl (fun m14 ad14 le14 l14 => ?_)
 replace hB := rBlock_mono _ _ _ _ le14 hB
 replace hp90 := hp90.mono rPhi_mono le14
 replace ho90 := ho90.mono rOp_mono le14
 replace ht90 := ht90.mono rI_mono le14
 replace F12 := rOp_mono _ _ _ _ le14 F12
 replace h12 := h12.mono rI_mono le14
 have h14 : Ints m14 (some ad14) 4 _ := Ints_lit [_, _, _, _] l14 (i64s_cons (by first | assumption | exact ⟨by omega, by omega⟩) (i64s_cons (by first | assumption | exact ⟨by omega, by omega⟩) (i64s_cons (by first | assumption | exact ⟨by omega, by omega⟩) (i64s_cons (by first | assumption | exact ⟨by omega, by omega⟩) i64s_nil))))
 refine W_quiet (in_q h14) T.hb109 rfl rfl ?_
 refine nt (mv ?_)
 refine sp 49 ?_ ?_ <;> intro h15 <;> try simp only [tt] at h15
 refine ps (ps (ps (ps (ps ?_))))
 refine pt ?_
 refine wn (kk5 [1,32,33,34,55] ?_)
 refine ctz (sq (rg ?_))
 refine as_ ?_
 refine wn (kk5 [1,2,32,33,34] ?_)
 refine C_ret (RX_block (RX_then (RX_block (RX_then (RX_q1 rfl rfl ?_)))))
 rw [mayBlock, all_true_of hJ2, all_false_of hz11 (by simp_all [mayOpC])]; rfl
 refine tk (fb 4 T.fo51_4 ?_)
 refine tk (lb 0 T.ag22 ?_)
 refine tk ?_
 refine S_lit (vs := [_]) (cs := [_]) Tryz.underlying65 T.sz22 T.ze22 rfl rfl rfl rfl rfl rfl (fun m16 ad16 le16 l16 => ?_)
 replace hB := rBlock_mono _ _ _ _ le16 hB
 replace hp90 := hp90.mono rPhi_mono le16
 replace ho90 := ho90.mono rOp_mono le16
 replace ht90 := ht90.mono rI_mono le16
 replace F12 := rOp_mono _ _ _ _ le16 F12
 replace h12 := h12.mono rI_mono le16
 replace h14 := h14.mono rI_mono le16
 have h16 := slS_lit1 h12 l16
 refine tk ?_
 refine W_quiet (lists_q h16) T.hb149 rfl rfl ?_
 refine tk (nt (pf ?_))
 refine wn (kk5 [1,32,33,34,55] ?_)
 refine cd ?_ ?_ <;> intro h17 <;> try simp only [tt] at h17
 refine sq (rg ?_)
 refine as_ ?_
 refine wn (kk5 [1,2,32,33,34] ?_)
 refine C_ret (RX_block (RX_then (RX_block (RX_then (RX_q1 rfl rfl ?_)))))
 rw [mayBlock, all_true_of hJ2, all_false_of hz11 (by simp_all [mayOpC])]; rfl
 refine sk (nb (?_))
 refine NX_rng [1, 32] (()) ?_ rfl (sub_drop 1 rfl) rfl (Imm.le_trans (le14) le16)
 exact lt_succ_all hJ10 (fun y hy => by rw [hz11] at hy; simp only [Option.some.injEq] at hy; subst hy; simp_all [mayOpC])
 refine kk1 [1] (sq (rg ?_))
 refine fb 2 T.fo44_2 (fb 2 T.fo42_0 (lb 0 T.ag3 (fb 2 T.fo44_2 (fb 3 T.fo42_1 (lb 0 T.ag3 ?_)))))
 refine S_lit (vs := [_, _]) (cs := [_, _]) Tryz.underlying22 T.sz3 T.ze3 rfl rfl rfl rfl rfl rfl (fun m18 ad18 le18 l18 => ?_)
 replace hB := rBlock_mono _ _ _ _ le18 hB
 replace hp90 := hp90.mono rPhi_mono le18
 replace ho90 := ho90.mono rOp_mono le18
 replace ht90 := ht90.mono rI_mono le18
 have h18 : Ints m18 (some ad18) 2 _ := Ints_lit [_, _] l18 (i64s_cons (by first | assumption | exact ⟨by omega, by omega⟩) (i64s_cons (by first | assumption | exact ⟨by omega, by omega⟩) i64s_nil))
 refine W_quiet (in_q h18) T.hb109 rfl rfl ?_
 refine mv ?_
 refine sp 65 ?_ ?_ <;> intro h19 <;> try simp only [tt] at h19
 refine tk (fb 2 T.fo44_2 ?_)
 refine tk (fb 4 T.fo42_2 ?_)
 refine tk (lb 0 T.ag22 ?_)
 refine tk ?_
 refine S_lit (vs := [_]) (cs := [_]) Tryz.underlying65 T.sz22 T.ze22 rfl rfl rfl rfl rfl rfl (fun m20 ad20 le20 l20 => ?_)
 replace hB := rBlock_mono _ _ _ _ le20 hB
 replace hp90 := hp90.mono rPhi_mono le20
 replace ho90 := ho90.mono rOp_mono le20
 replace ht90 := ht90.mono rI_mono le20
 replace h18 := h18.mono rI_mono le20
 have h20 := slS_lit1 ht90 l20
 refine tk ?_
 refine W_quiet (lists_q h20) T.hb149 rfl rfl ?_
 refine pt (as_ ?_)
 refine wn (kk1 [2] ?_)
 refine C_ret (RX_q1 rfl rfl ?_)
 rw [mayBlock, all_true_of hJ2, all_true_of hJ10]; simp_all
 refine ps (ps (ps (ps (ps ?_))))
 refine pf (as_ ?_)
 refine wn (kk1 [2] ?_)
 refine C_ret (RX_q1 rfl rfl ?_)
 rw [mayBlock, all_true_of hJ2, all_true_of hJ10]; simp_all
theorem Size_q {m : Imm} {es : List Value} {f : FFun} (hF : rFunc m es f) (hs : f.blocks.length ≤ 100) : Quiet Tryz.prog 108 [.agg es.toArray] m (.int .i64 (sizeF f)) := by
 have hF_0 := hF
 obtain ⟨A90, c90, B90, d90, rfl, hq90, hb90, i90a⟩ := hF_0
 have hlen := hb90.len
 refine quiet_of Tryz.func108 rfl Tryz.ntmps108 rfl (fun w => ?_)
 refine sq (rg ?_)
 refine S_box (l := [_, _, _]) rfl rfl rfl (fun b1 => ?_)
 refine as_ ?_
 refine wn (kk2 [1,2] (sq (rg ?_)))
 refine fb 2 T.fo25_2 (lb 0 T.ag23 (ln Tryz.underlying23 (as_ ?_)))
 refine wn (kk3 [1,2,3] (sq (sq (rg ?_))))
 refine fb 2 T.fo25_2 (lb 0 T.ag23 (ln Tryz.underlying23 (mv ?_)))
 refine wn (kk5 [2,3,10,11,12] ?_)
 refine C_range (Unit) (f.blocks.length) (fun k2 x2 => 0 ≤ sizeK f k2 ∧ sizeK f k2 ≤ 100 + (k2 : Int) * 281474976710656) (fun k2 x2 => [(3, .int .i64 (sizeK f k2))]) (fun _ _ => []) [3] [2, 10] (F := [(2, _), (10, _)]) (()) rfl rfl (by omega) (by rw [sizeK_zero]; omega) (by rw [sizeK_zero]; rfl) rfl rfl rfl rfl rfl rfl (fun _ _ => rfl) (fun _ _ => rfl) (fun k2 x2 hk2 hJ2 => ?_) (fun x2 hJ2 => ?_)
 obtain ⟨hJa, hJb⟩ := hJ2
 refine jj5 [2,3,10,11,12] (sq (rg ?_))
 obtain ⟨ad3, hA3⟩ := hb90.ad (j := k2) (by omega)
 obtain ⟨z3, hz3⟩ := hb90.getz (j := k2) (by omega)
 refine ixz hA3 Tryz.underlying23 T.sz44 ?_
 obtain ⟨es4, f4, _, l4⟩ := Sl.get hb90 hA3 hz3
 have F4 := f4
 obtain ⟨A4, c4, B4, d4, C4, e4, rfl, hp4, ho4, ht4, i4a, i4b⟩ := f4
 refine W_q (r_load_immk (vs := [_, _, _, _, _]) rfl T.ag44 T.sz44 l4) rfl ?_
 refine sa5 T.ze44 (fun b5 => ?_)
 refine sb5 0 T.sz44 ?_
 refine wn (kk6 [2,3,5,10,11,12] (rg ?_))
 refine mv (fb 0 T.fo44_0 (lb 0 T.ag39 (ln Tryz.underlying39 (fb 1 T.fo44_1 (lb 0 T.ag40 (ln Tryz.underlying40 ?_))))))
 refine W_q (r_add rfl rfl (by unfold I64; have := hp4.len; have := ho4.len; omega)) rfl ?_
 refine W_q (r_add rfl rfl (by unfold I64; have := hp4.len; have := ho4.len; omega)) rfl ?_
 refine as_ ?_
 refine wn (nb (?_))
 rw [← sizeK_succ hz3]
 refine NX_rng [3, 2, 10] (()) ?_ rfl (sub_drop 1 rfl) rfl (Imm.le_refl _)
 rw [sizeK_succ hz3]; have := hp4.len; have := ho4.len; omega
 refine kk2 [2,3] (sq (rg ?_))
 refine mv (as_ ?_)
 refine wn (kk1 [2] ?_)
 refine C_ret (RX_q1 rfl rfl ?_)
 rw [sizeK_end]
theorem May1_q {m : Imm} {es : List Value} {b : FBlk} (hB : rBlock m es b) : Quiet Tryz.prog 111 [.agg es.toArray] m (.bool (!(mayBlock b))) := by
 have hB_0 := hB
 obtain ⟨A90, c90, B90, d90, C90, e90, rfl, hp90, ho90, ht90, i90a, i90b⟩ := hB_0
 refine quiet_of Tryz.func111 rfl Tryz.ntmps111 rfl (fun w => ?_)
 refine sq (rg ?_)
 refine S_box (l := [_, _, _, _, _]) rfl rfl rfl (fun b1 => ?_)
 refine as_ ?_
 refine wn (kk2 [1,2] (sq (rg ?_)))
 refine W_q (r_loadbk 0 (vs := [_, _, _, _, _]) rfl T.ag44 T.sz44 rfl rfl rfl) rfl ?_
 refine W_quiet (mayBlock_q hB) T.hb112 rfl rfl ?_
 refine nt (as_ ?_)
 refine wn (kk1 [2] ?_)
 refine C_ret (RX_q1 rfl rfl ?_)
 rfl
theorem MayF_q {m : Imm} {es : List Value} {f : FFun} (hF : rFunc m es f) : Quiet Tryz.prog 72 [.agg es.toArray] m (.bool (mayF f)) := by
 have hF_0 := hF
 obtain ⟨A90, c90, B90, d90, rfl, hq90, hb90, i90a⟩ := hF_0
 refine quiet_of Tryz.func72 rfl Tryz.ntmps72 rfl (fun w => ?_)
 refine sq (rg ?_)
 refine S_box (l := [_, _, _]) rfl rfl rfl (fun b1 => ?_)
 refine as_ ?_
 refine wn (kk2 [1,2] (sq (sq (rg ?_))))
 refine fb 2 T.fo25_2 (lb 0 T.ag23 (ln Tryz.underlying23 (bl (mv ?_))))
 refine sp 7 ?_ ?_ <;> intro h2 <;> try simp only [tt] at h2
 refine ps (ps (ps (ps ?_)))
 refine pt (mv ?_)
 refine ps (ps (ps (ps ?_)))
 refine pt (mv ?_)
 refine ps (ps (ps ?_))
 refine pt (mv ?_)
 refine ps (ps (ps (ps (ps ?_))))
 refine pt (mv ?_)
 refine ps (ps (ps (ps ?_)))
 refine pt ?_
 refine wn (kk3 [1,2,36] ?_)
 refine ctz (sq (rg ?_))
 refine as_ ?_
 refine wn (kk2 [1,2] ?_)
 refine C_ret (RX_then (RX_q1 rfl rfl ?_))
 simp_all [mayF]
 refine tk (fb 2 T.fo25_2 ?_)
 refine tk (lb 0 T.ag23 ?_)
 refine tk (ln Tryz.underlying23 ?_)
 refine tk (bg (pf (mv ?_)))
 refine sp 13 ?_ ?_ <;> intro h3 <;> try simp only [tt] at h3
 refine ps (ps (ps (ps ?_)))
 refine pt (mv ?_)
 refine ps (ps (ps ?_))
 refine pt (mv ?_)
 refine ps (ps (ps (ps (ps ?_))))
 refine pt (mv ?_)
 refine ps (ps (ps (ps ?_)))
 refine pt ?_
 refine wn (kk3 [1,2,36] ?_)
 refine ctz (sq (rg ?_))
 refine as_ ?_
 refine wn (kk2 [1,2] ?_)
 refine C_ret (RX_then (RX_q1 rfl rfl ?_))
 simp_all [mayF]
 refine tk (fb 0 T.fo25_0 ?_)
 refine tk (lb 0 T.ag22 ?_)
 refine tk (ln Tryz.underlying22 ?_)
 refine tk (bg (pf (mv ?_)))
 refine sp 19 ?_ ?_ <;> intro h4 <;> try simp only [tt] at h4
 refine ps (ps (ps ?_))
 refine pt (mv ?_)
 refine ps (ps (ps (ps (ps ?_))))
 refine pt (mv ?_)
 refine ps (ps (ps (ps ?_)))
 refine pt ?_
 refine wn (kk3 [1,2,36] ?_)
 refine ctz (sq (rg ?_))
 refine as_ ?_
 refine wn (kk2 [1,2] ?_)
 refine C_ret (RX_then (RX_q1 rfl rfl ?_))
 simp_all [mayF]
 refine tk ?_
 refine W_q (r_loadbk 0 (vs := [_, _, _]) rfl T.ag25 T.sz25 rfl rfl rfl) rfl ?_
 refine tk ?_
 refine W_quiet (Size_q hF (by omega)) T.hb108 rfl rfl ?_
 refine tk (bg (pf (mv ?_)))
 refine sp 24 ?_ ?_ <;> intro h5 <;> try simp only [tt] at h5
 refine ps (ps (ps (ps (ps ?_))))
 refine pt (mv ?_)
 refine ps (ps (ps (ps ?_)))
 refine pt ?_
 refine wn (kk3 [1,2,36] ?_)
 refine ctz (sq (rg ?_))
 refine as_ ?_
 refine wn (kk2 [1,2] ?_)
 refine C_ret (RX_then (RX_q1 rfl rfl ?_))
 simp_all [mayF]
 refine tk (fb 1 T.fo25_1 ?_)
 refine tk (lb 0 T.ag3 ?_)
 refine tk ?_
 refine S_lit (vs := [_]) (cs := [_]) Tryz.underlying22 T.sz3 T.ze3 rfl rfl rfl rfl rfl rfl (fun m6 ad6 le6 l6 => ?_)
 replace hF := rFunc_mono _ _ _ _ le6 hF
 replace hq90 := hq90.mono rI_mono le6
 replace hb90 := hb90.mono rBlock_mono le6
 have h6 : Ints m6 (some ad6) 1 _ := Ints_lit [_] l6 (i64s_cons (by first | assumption | exact ⟨by omega, by omega⟩) i64s_nil)
 refine tk ?_
 refine W_quiet (in_q h6) T.hb109 rfl rfl ?_
 refine tk (nt (pf (mv ?_)))
 refine sp 31 ?_ ?_ <;> intro h7 <;> try simp only [tt] at h7
 refine ps (ps (ps (ps ?_)))
 refine pt ?_
 refine wn (kk3 [1,2,36] ?_)
 refine ctz (sq (rg ?_))
 refine as_ ?_
 refine wn (kk2 [1,2] ?_)
 refine C_ret (RX_then (RX_q1 rfl rfl ?_))
 simp_all [mayF]
 refine tk (fb 0 T.fo25_0 ?_)
 refine tk (lb 0 T.ag22 ?_)
 refine tk ?_
 refine W_quiet (in_q hq90) T.hb109 rfl rfl ?_
 refine tk (nt (pf ?_))
 refine wn (kk3 [1,2,36] ?_)
 refine cd ?_ ?_ <;> intro h8 <;> try simp only [tt] at h8
 refine sq (rg ?_)
 refine as_ ?_
 refine wn (kk2 [1,2] ?_)
 refine C_ret (RX_then (RX_q1 rfl rfl ?_))
 simp_all [mayF]
 refine sk (kk2 [1,2] (sq (rg ?_)))
 refine fb 2 T.fo25_2 (lb 0 T.ag23 ?_)
 refine W_quiet (ContainsFuncB_q hb90 (p := fun b => !(mayBlock b)) (K := 111) T.hb111 (fun z _ es hz => May1_q hz)) T.hb110 rfl rfl ?_
 refine nt (as_ ?_)
 refine wn (kk1 [2] ?_)
 refine C_ret (RX_q1 rfl rfl ?_)
 simp_all [mayF]
namespace T
theorem ag49 : agg? Tryz.prog 49 = some false := by kernel_rfl
theorem ag71 : agg? Tryz.prog 71 = some true := by kernel_rfl
theorem by3 : byt? Tryz.prog 3 = some 8 := by kernel_rfl
theorem by71 : byt? Tryz.prog 71 = some 16 := by kernel_rfl
theorem fo51_5 : fld? Tryz.prog 51 5 = some (5, 1) := by kernel_rfl
theorem hb201 : hasBody Tryz.prog 201 = true := by kernel_rfl
theorem hb212 : hasBody Tryz.prog 212 = true := by kernel_rfl
theorem hb213 : hasBody Tryz.prog 213 = true := by kernel_rfl
theorem hb214 : hasBody Tryz.prog 214 = true := by kernel_rfl
theorem hb215 : hasBody Tryz.prog 215 = true := by kernel_rfl
theorem sz71 : sz? Tryz.prog 71 = some 2 := by kernel_rfl
theorem ze71 : zero? Tryz.prog 71 = some (.agg #[(.int .i64 0), (.int .i64 0)]) := by kernel_rfl
end T
theorem Cut_q {m : Imm} (v b : Int) (hv : U64 v) : Quiet Tryz.prog 213 [.int .u64 v, .int .i64 b] m (.int .u64 (cutV v b)) := by
 refine quiet_of Tryz.func213 rfl Tryz.ntmps213 rfl (fun w => ?_)
 refine sq (rg ?_)
 refine as_ ?_
 refine wn (kk3 [0,1,4] (sq (sq (rg ?_))))
 refine mv ?_
 refine W_quiet (May_q _) T.hb152 rfl rfl ?_
 refine nt ?_
 refine wn (kk4 [0,1,4,7] ?_)
 refine cd ?_ ?_ <;> intro h1 <;> try simp only [tt] at h1
 refine sq (rg ?_)
 refine as_ ?_
 refine wn (kk3 [0,1,4] ?_)
 refine C_ret (RX_then (RX_q1 rfl rfl ?_))
 rw [cutV, if_neg (by simp_all)]
 refine sk (kk3 [0,1,4] (sq (rg ?_)))
 refine mv (mv ?_)
 refine W_q (r_sub rfl rfl (by have := mayW_le h1; unfold I64; omega)) rfl ?_
 refine W_q (r_shl rfl rfl (by have := mayW_le h1; omega) rfl) rfl ?_
 refine mv ?_
 refine W_q (r_sub rfl rfl (by have := mayW_le h1; unfold I64; omega)) rfl ?_
 refine W_q (r_shr rfl rfl (by have := mayW_le h1; omega) rfl) rfl ?_
 refine as_ ?_
 refine wn (kk1 [4] ?_)
 refine C_ret (RX_q1 rfl rfl ?_)
 exact congrArg _ (cut_eq h1 hv)
theorem kindrow_q {m : Imm} (v : Value) : Quiet Tryz.prog 214 [v] m (v) := by
 refine quiet_of Tryz.func214 rfl Tryz.ntmps214 rfl (fun w => ?_)
 refine sq (rg ?_)
 refine as_ ?_
 refine wn (kk2 [0,2] (sq (rg ?_)))
 refine mv (as_ ?_)
 refine wn (kk1 [2] ?_)
 refine C_ret (RX_q1 rfl rfl ?_)
 rfl
theorem Mul64_q {m : Imm} (k : Nat) (hk : k < 65) : Quiet Tryz.prog 212 [.int .u64 1, .int .u64 (k : Int)] m (.tuple #[.int .u64 0, .int .u64 (k : Int)]) := by
 refine quiet_of Tryz.func212 rfl Tryz.ntmps212 rfl (fun w => ?_)
 refine sq (rg ?_)
 refine as_ (as_ ?_)
 refine wn (kk4 [0,1,4,5] (sq (rg ?_)))
 refine mv ?_
 refine W_q (r_and rfl rfl rfl) rfl ?_
 refine as_ ?_
 refine wn (kk5 [0,1,4,5,6] (sq (rg ?_)))
 refine mv ?_
 refine W_q (r_shr rfl rfl (by omega) rfl) rfl ?_
 refine as_ ?_
 refine wn (kk6 [0,1,4,5,6,7] (sq (rg ?_)))
 refine mv ?_
 refine W_q (r_and rfl rfl rfl) rfl ?_
 refine as_ ?_
 refine wn (kk7 [0,1,4,5,6,7,8] (sq (rg ?_)))
 refine mv ?_
 refine W_q (r_shr rfl rfl (by omega) rfl) rfl ?_
 refine as_ ?_
 refine wn (kk8 [0,1,4,5,6,7,8,9] (sq (rg ?_)))
 refine mv (mv ?_)
 refine W_q (r_bin rfl rfl (bin_mul _ _ _ _)) rfl ?_
 refine as_ ?_
 refine wn (kk9 [0,1,4,5,6,7,8,9,10] (sq (rg ?_)))
 refine mv (mv ?_)
 refine W_q (r_bin rfl rfl (bin_mul _ _ _ _)) rfl ?_
 refine mv ?_
 refine W_q (r_shr rfl rfl (by omega) rfl) rfl ?_
 refine W_q (r_bin rfl rfl (bin_add _ _ _ _)) rfl ?_
 refine as_ ?_
 refine wn (kk8 [0,1,4,5,6,7,9,11] (sq (rg ?_)))
 refine mv ?_
 refine W_q (r_and rfl rfl rfl) rfl ?_
 refine as_ ?_
 refine wn (kk9 [0,1,4,5,6,7,9,11,12] (sq (rg ?_)))
 refine mv ?_
 refine W_q (r_shr rfl rfl (by omega) rfl) rfl ?_
 refine as_ ?_
 refine wn (kk9 [0,1,4,5,6,7,9,12,13] (sq (rg ?_)))
 refine mv (mv (mv ?_))
 refine W_q (r_bin rfl rfl (bin_mul _ _ _ _)) rfl ?_
 refine W_q (r_bin rfl rfl (bin_add _ _ _ _)) rfl ?_
 refine as_ ?_
 refine wn (kk8 [0,1,4,5,7,9,12,13] (sq (rg ?_)))
 refine mv (mv ?_)
 refine W_q (r_bin rfl rfl (bin_mul _ _ _ _)) rfl ?_
 refine mv ?_
 refine W_q (r_bin rfl rfl (bin_add _ _ _ _)) rfl ?_
 refine mv ?_
 refine W_q (r_shr rfl rfl (by omega) rfl) rfl ?_
 refine W_q (r_bin rfl rfl (bin_add _ _ _ _)) rfl ?_
 refine as_ ?_
 refine wn (kk4 [0,1,4,5] (sq (rg ?_)))
 refine mv (mv ?_)
 refine W_q (r_bin rfl rfl (bin_mul _ _ _ _)) rfl ?_
 refine as_ ?_
 refine wn (kk2 [4,5] ?_)
 refine C_ret (RX_q2 rfl rfl rfl ?_ ?_)
 exact congrArg _ (mulHi_one k hk)
 rw [u64_of _ ⟨by omega, by omega⟩]; simp
theorem Mul_q {m : Imm} (k : Nat) (hk : k < 65) : Quiet Tryz.prog 201 [.int .u64 1, .int .u64 (k : Int)] m (.tuple #[.int .u64 0, .int .u64 (k : Int)]) := by
 refine quiet_of Tryz.func201 rfl Tryz.ntmps201 rfl (fun w => ?_)
 refine sq (rg ?_)
 refine as_ (as_ ?_)
 refine wn (kk4 [0,1,4,5] (sq ?_))
 refine cfz (sk (kk4 [0,1,4,5] (sq (rg ?_))))
 refine mv (mv ?_)
 refine W_quiet (Mul64_q _ (by omega)) T.hb212 rfl rfl ?_
 refine mv ?_
 refine W_q (r_extract rfl rfl) rfl ?_
 refine W_q (r_extract rfl rfl) rfl ?_
 refine as_ (as_ ?_)
 refine wn (kk4 [4,5,8,9] (sq (rg ?_)))
 refine mv (mv (as_ (as_ ?_)))
 refine wn (kk2 [4,5] ?_)
 refine C_ret (RX_q2 rfl rfl rfl ?_ ?_)
 rfl
 rfl
theorem RepeatP_g {m : Imm} {A : Option Addr} {c : Nat} {p : (Int × Int)} (h : Sl rPair 2 m A c [p]) {k : Nat} {z : Int} (hz : z = (k : Int)) (hk : 1 ≤ k) (hk' : k ≤ 64) : Gives Tryz.prog 215 [.slice A 1 c, .int .i64 z] m (fun m' v => ∃ ad, v = .slice (some ad) (List.replicate k p).length k ∧ Sl rPair 2 m' (some ad) k (List.replicate k p)) := by
 subst hz
 obtain ⟨ad, rfl, es, he1, he2, he3⟩ := h.at_ 0 p rfl
 refine gives_of Tryz.func215 rfl Tryz.ntmps215 rfl (fun w => ?_)
 refine sq (rg ?_)
 refine as_ ?_
 refine wn (kk3 [0,1,4] (sq (sq (rg ?_))))
 refine mv (bl ?_)
 refine wn (kk4 [0,1,4,10] ?_)
 refine cd ?_ ?_ <;> intro h1 <;> try simp only [tt] at h1
 refine rg ?_
 exfalso
 omega
 refine sk (kk3 [0,1,4] (sq (rg ?_)))
 refine mv (ln Tryz.underlying113 ?_)
 refine W_q (r_convi Tryz.underlying3 Tryz.underlying147 rfl (u64_of _ ⟨by omega, by omega⟩)) rfl ?_
 refine mv ?_
 refine W_q (r_convi Tryz.underlying3 Tryz.underlying147 rfl (u64_of _ ⟨by omega, by omega⟩)) rfl ?_
 refine W_quiet (Mul_q _ (by omega)) T.hb201 rfl rfl ?_
 refine mv ?_
 refine W_q (r_extract rfl rfl) rfl ?_
 refine W_q (r_extract rfl rfl) rfl ?_
 refine as_ (as_ ?_)
 refine wn (kk4 [0,4,5,6] (sq (sq (rg ?_))))
 refine mv (bg (mv ?_))
 refine sp 23 ?_ ?_ <;> intro h2 <;> try simp only [tt] at h2
 refine ps (ps ?_)
 refine pt ?_
 refine wn (kk4 [0,4,6,26] ?_)
 refine ctz (rg ?_)
 exfalso
 omega
 refine tk (mv ?_)
 refine tk (bg (pf ?_))
 refine wn (kk4 [0,4,6,26] ?_)
 refine cd ?_ ?_ <;> intro h3 <;> try simp only [tt] at h3
 refine rg ?_
 exfalso
 omega
 refine sk (kk3 [0,4,6] (sq (rg ?_)))
 refine mv ?_
 refine W_q (r_convi Tryz.underlying147 Tryz.underlying3 rfl (i64_of _ ⟨by omega, by omega⟩)) rfl ?_
 refine S_make (len := k) Tryz.underlying113 T.sz71 T.ze71 T.by71 rfl rfl rfl (by omega) (by unfold maxLen; omega) rfl (fun b4 => ?_)
 generalize hZ : Array.toList (madeCells _ (k * 2)) = Z
 have hZl : Z.length = k * 2 := by rw [← hZ]; simp [size_madeCells]
 refine as_ ?_
 refine wn (kk3 [0,4,7] (sq (rg ?_)))
 refine mv (mv ?_)
 refine S_copy es 0 rfl rfl rfl Tryz.underlying113 T.sz71 (by rw [he1, show min 1 k = 1 by omega, Nat.one_mul]) (Src.sl h (by simp) (fun ad' e j u hj => by cases e; simpa using he3 j u hj) (by simp)) (by rw [List.all_eq_true]; exact (fun u hu => by obtain ⟨rfl, _⟩ := he2; simp at hu; rcases hu with rfl | rfl <;> rfl)) (by rw [he1, hZl]; omega) rfl ?_
 rw [show Z.take 0 ++ es ++ Z.drop (0 + es.length) = repL es 1 ++ Z.drop (1 * 2) by simp [repL_one, he1], show min 1 k = 1 by omega]
 refine as_ ?_
 refine wn (kk3 [4,7,8] (sq (bk ?_)))
 refine CW_front 0 rfl rfl ?_
 refine C_loop (Nat) (k) (fun k5 x5 => 1 ≤ x5 ∧ x5 ≤ k ∧ k5 + 1 ≤ x5) (fun k5 x5 => [(8, .int .i64 (x5 : Int))]) (fun k5 x5 => [row (some b4) k k 71 2 (repL es x5 ++ Z.drop (x5 * 2))]) [8] [4, 7] (F := [(4, _), (7, _)]) (1) (by omega) rfl rfl rfl (fun k5 x5 hk5 hJ5 => ?_)
 obtain ⟨hJa, hJb, hJc⟩ := hJ5
 refine jj3 [4,7,8] (sq (sq (rg ?_)))
 refine mv (mv (ln Tryz.underlying113 (bl ?_)))
 refine wn (kk4 [4,7,8,37] ?_)
 refine cd ?_ ?_ <;> intro h6 <;> try simp only [tt] at h6
 refine sk (kk3 [4,7,8] (bk ?_))
 refine C_drawnk 1 [(0, true), (1, true), (2, true), (3, true), (4, true), (5, true), (6, true), (7, false), (8, true), (9, true)] (by kernel_rfl) rfl (by kernel_rfl) (by kernel_rfl) ?_
 refine dmv ?_
 refine dmv ?_
 refine dmv ?_
 refine D_q rfl (r_sllo (h := x5) Tryz.underlying113 rfl rfl (by omega) (by omega) T.sz71 (by rw [Nat.zero_add])) rfl ?_
 refine dmv ?_
 refine dmv ?_
 refine D_q rfl (r_slhi' x5 Tryz.underlying113 rfl rfl rfl (by omega) T.sz71) rfl ?_
 refine D_f rfl (fun hs7 hc7 => ?_)
 refine S_copy (repL es (min x5 (k - x5))) 0 rfl rfl rfl Tryz.underlying113 T.sz71 (repL_len he1 _) ⟨fun w hS j u hj => ⟨_, rfl, by rw [add_plain, Nat.zero_add]; exact row_cell (hS.at (i := 0) rfl) (repL_pre he1 (by omega) hj)⟩, by simp⟩ (repL_one' (fun u hu => by obtain ⟨rfl, _⟩ := he2; simp at hu; rcases hu with rfl | rfl <;> rfl) _) (by rw [repL_len he1, List.length_append, repL_len he1, List.length_drop, hZl]; omega) rfl ?_
 rw [repL_step he1 (k := k) (by omega)]
 refine W_leftw hs7 hc7 (Imm.le_refl _) (sub_drop 1 rfl) ?_
 refine D_q rfl (r_add rfl rfl (by unfold I64 at *; omega)) rfl ?_
 refine das ?_
 refine D_end ?_
 refine nb (?_)
 refine NX_rnd [8, 4, 7] (by omega) (x5 + min x5 (k - x5)) ?_ rfl (List.Sublist.refl _) rfl (Imm.le_refl _)
 omega
 refine C_exit (EX_then (EX_then (EX_hit (?_))))
 refine kk2 [4,7] (sq (rg ?_))
 refine mv (as_ ?_)
 refine wn (kk1 [4] ?_)
 obtain rfl : x5 = k := by omega
 refine C_ret (RX_freeze 0 rfl (fun _ h => h) (fun mf lef hf => ?_))
 refine RX_g1 rfl rfl ⟨⟨b4, 0, none⟩, by simp, ?_⟩
 refine Sl_frz (gg := some b4) hf (by simp) (by unfold maxLen; omega) (by simp; omega) (fun _ => ⟨_, rfl⟩) (fun j z hj => ⟨es, he1, ?_, fun q v hv => ?_⟩)
 · rw [List.getElem?_replicate] at hj; split at hj <;> simp at hj; subst hj; exact rPair_mono _ _ _ _ (lef) he2
 · have hj' : j < x5 := by have := (List.getElem?_eq_some_iff.1 hj).1; simpa using this
   have hq : q < 2 := by have := (List.getElem?_eq_some_iff.1 hv).1; omega
   rw [List.getElem?_append_left (by rw [repL_len he1]; omega), repL_get he1 hj' hq, hv]
theorem takes_g {m : Imm} {es : List Value} {o : FOp} (hO : rOp m es o) (hS : shapeB o.bits o.lanes = true) : Gives Tryz.prog 206 [.agg es.toArray] m (TakesΦ (takesP o)) := by
 have hO_0 := hO
 obtain ⟨A90, c90, rfl, h90, i90a, i90b, i90c, i90d, i90e⟩ := hO_0
 have hb := shapeB_bits hS
 have hU : 0 ≤ o.imm ∧ o.imm ≤ 18446744073709551615 := i90e
 refine gives_of Tryz.func206 rfl Tryz.ntmps206 rfl (fun w => ?_)
 refine sq (rg ?_)
 refine S_box (l := [_, _, _, _, _, _]) rfl rfl rfl (fun b1 => ?_)
 refine as_ (as_ ?_)
 refine wn (kk3 [1,2,3] ?_)
 refine CW_cut (Nat × Nat × Nat × Nat) (fun x2 => m) (fun x2 => [bx x2.1 71 [.int .i64 o.bits, .int .i64 o.lanes], bx x2.2.1 71 [.int .i64 o.bits, .int .i64 1], bx x2.2.2.1 71 [.int .i64 1, .int .i64 1], bx x2.2.2.2 71 [.int .i64 64, .int .i64 1], bx b1 51 [.int .i64 o.kind, .int .i64 o.bits, .int .i64 o.lanes, .int .i64 o.dst, .slice A90 o.args.length c90, .int .u64 o.imm]]) (fun x2 => [(1, .pointer (some ⟨b1, 0, none⟩)), (2, .slice none 0 0), (3, .bool false), (4, .pointer (some ⟨x2.1, 0, none⟩)), (5, .pointer (some ⟨x2.2.1, 0, none⟩)), (6, .pointer (some ⟨x2.2.2.1, 0, none⟩)), (7, .pointer (some ⟨x2.2.2.2, 0, none⟩))]) (fun x2 => True) ?_ (fun x2 hC2 => ?_)
 refine C_drawnA 0 18 rfl (by kernel_rfl) (by kernel_rfl) ?_
 refine A_q (i := 0) (by kernel_rfl) rfl (r_fieldb (o' := 1) rfl T.fo51_1 rfl) rfl ?_
 refine A_q (i := 1) (by kernel_rfl) rfl (r_loadb 0 rfl T.ag3 rfl rfl) rfl ?_
 refine A_q (i := 2) (by kernel_rfl) rfl (r_fieldb (o' := 2) rfl T.fo51_2 rfl) rfl ?_
 refine A_q (i := 3) (by kernel_rfl) rfl (r_loadb 0 rfl T.ag3 rfl rfl) rfl ?_
 refine A_q (i := 4) (by kernel_rfl) rfl (r_builda (zs := [_, _]) (cs := [_, _]) Tryz.underlying71 T.sz3 T.ze71 rfl rfl rfl) rfl ?_
 refine A_q (i := 5) (by kernel_rfl) rfl (r_fieldb (o' := 1) rfl T.fo51_1 rfl) rfl ?_
 refine A_q (i := 6) (by kernel_rfl) rfl (r_loadb 0 rfl T.ag3 rfl rfl) rfl ?_
 refine A_q (i := 7) (by kernel_rfl) rfl (r_builda (zs := [_, _]) (cs := [_, _]) Tryz.underlying71 T.sz3 T.ze71 rfl rfl rfl) rfl ?_
 refine A_q (i := 8) (by kernel_rfl) rfl (r_builda (zs := [_, _]) (cs := [_, _]) Tryz.underlying71 T.sz3 T.ze71 rfl rfl rfl) rfl ?_
 refine A_q (i := 9) (by kernel_rfl) rfl (r_builda (zs := [_, _]) (cs := [_, _]) Tryz.underlying71 T.sz3 T.ze71 rfl rfl rfl) rfl ?_
 refine A_four (i := 10) (j := 11) (k := 12) (l := 13) (by kernel_rfl) rfl rfl rfl rfl (fun hs3 => ?_) (fun hs3 => ?_) (fun hs3 => ?_) (fun hs3 => ?_)
 refine sa2 T.ze71 (fun b4 => ?_)
 refine alz hs3 1 ?_
 refine A_three (i := 11) (j := 12) (k := 13) (by kernel_rfl) rfl rfl rfl (fun hs5 => ?_) (fun hs5 => ?_) (fun hs5 => ?_)
 refine sa2 T.ze71 (fun b6 => ?_)
 refine alz hs5 2 ?_
 refine A_two (i := 12) (j := 13) (by kernel_rfl) rfl rfl (fun hs7 => ?_) (fun hs7 => ?_)
 refine sa2 T.ze71 (fun b8 => ?_)
 refine alz hs7 3 ?_
 refine aoz 13 (fun hs9 => ?_)
 refine sa2 T.ze71 (fun b10 => ?_)
 refine alz hs9 4 ?_
 refine aoz 14 (fun hs11 => ?_)
 refine sb2 3 T.sz71 ?_
 refine alz hs11 4 ?_
 refine aoz 15 (fun hs12 => ?_)
 refine sb2 2 T.sz71 ?_
 refine alz hs12 4 ?_
 refine aoz 16 (fun hs13 => ?_)
 refine sb2 1 T.sz71 ?_
 refine alz hs13 4 ?_
 refine aoz 17 (fun hs14 => ?_)
 refine sb2 0 T.sz71 ?_
 refine alz hs14 4 ?_
 refine A_end (by kernel_rfl) ?_
 refine NX_cut ((b4, b6, b8, b10)) (trivial) [1, 2, 3, 4, 5, 6, 7] rfl (perm_take 3 rfl (perm_take 2 rfl (perm_take 1 rfl (perm_take 0 rfl (perm_take 0 rfl (List.Perm.refl _)))))) rfl
 refine sa2 T.ze71 (fun b15 => ?_)
 refine alz hs7 3 ?_
 refine aoz 12 (fun hs16 => ?_)
 refine sa2 T.ze71 (fun b17 => ?_)
 refine alz hs16 4 ?_
 refine aoz 14 (fun hs18 => ?_)
 refine sb2 3 T.sz71 ?_
 refine alz hs18 4 ?_
 refine aoz 15 (fun hs19 => ?_)
 refine sb2 2 T.sz71 ?_
 refine alz hs19 4 ?_
 refine aoz 16 (fun hs20 => ?_)
 refine sb2 0 T.sz71 ?_
 refine alz hs20 4 ?_
 refine aoz 17 (fun hs21 => ?_)
 refine sb2 1 T.sz71 ?_
 refine alz hs21 4 ?_
 refine A_end (by kernel_rfl) ?_
 refine NX_cut ((b4, b6, b17, b15)) (trivial) [1, 2, 3, 4, 5, 6, 7] rfl (perm_take 3 rfl (perm_take 2 rfl (perm_take 0 rfl (perm_take 0 rfl (perm_take 0 rfl (List.Perm.refl _)))))) rfl
 refine sa2 T.ze71 (fun b22 => ?_)
 refine alz hs5 2 ?_
 refine A_two (i := 11) (j := 13) (by kernel_rfl) rfl rfl (fun hs23 => ?_) (fun hs23 => ?_)
 refine sa2 T.ze71 (fun b24 => ?_)
 refine alz hs23 3 ?_
 refine aoz 13 (fun hs25 => ?_)
 refine sa2 T.ze71 (fun b26 => ?_)
 refine alz hs25 4 ?_
 refine aoz 14 (fun hs27 => ?_)
 refine sb2 3 T.sz71 ?_
 refine alz hs27 4 ?_
 refine aoz 15 (fun hs28 => ?_)
 refine sb2 1 T.sz71 ?_
 refine alz hs28 4 ?_
 refine aoz 16 (fun hs29 => ?_)
 refine sb2 2 T.sz71 ?_
 refine alz hs29 4 ?_
 refine aoz 17 (fun hs30 => ?_)
 refine sb2 0 T.sz71 ?_
 refine alz hs30 4 ?_
 refine A_end (by kernel_rfl) ?_
 refine NX_cut ((b4, b24, b22, b26)) (trivial) [1, 2, 3, 4, 5, 6, 7] rfl (perm_take 3 rfl (perm_take 1 rfl (perm_take 1 rfl (perm_take 0 rfl (perm_take 0 rfl (List.Perm.refl _)))))) rfl
 refine sa2 T.ze71 (fun b31 => ?_)
 refine alz hs23 3 ?_
 refine aoz 11 (fun hs32 => ?_)
 refine sa2 T.ze71 (fun b33 => ?_)
 refine alz hs32 4 ?_
 refine aoz 14 (fun hs34 => ?_)
 refine sb2 3 T.sz71 ?_
 refine alz hs34 4 ?_
 refine aoz 15 (fun hs35 => ?_)
 refine sb2 0 T.sz71 ?_
 refine alz hs35 4 ?_
 refine aoz 16 (fun hs36 => ?_)
 refine sb2 2 T.sz71 ?_
 refine alz hs36 4 ?_
 refine aoz 17 (fun hs37 => ?_)
 refine sb2 1 T.sz71 ?_
 refine alz hs37 4 ?_
 refine A_end (by kernel_rfl) ?_
 refine NX_cut ((b4, b33, b22, b31)) (trivial) [1, 2, 3, 4, 5, 6, 7] rfl (perm_take 3 rfl (perm_take 0 rfl (perm_take 1 rfl (perm_take 0 rfl (perm_take 0 rfl (List.Perm.refl _)))))) rfl
 refine sa2 T.ze71 (fun b38 => ?_)
 refine alz hs5 2 ?_
 refine A_two (i := 11) (j := 12) (by kernel_rfl) rfl rfl (fun hs39 => ?_) (fun hs39 => ?_)
 refine sa2 T.ze71 (fun b40 => ?_)
 refine alz hs39 3 ?_
 refine aoz 12 (fun hs41 => ?_)
 refine sa2 T.ze71 (fun b42 => ?_)
 refine alz hs41 4 ?_
 refine aoz 14 (fun hs43 => ?_)
 refine sb2 3 T.sz71 ?_
 refine alz hs43 4 ?_
 refine aoz 15 (fun hs44 => ?_)
 refine sb2 1 T.sz71 ?_
 refine alz hs44 4 ?_
 refine aoz 16 (fun hs45 => ?_)
 refine sb2 0 T.sz71 ?_
 refine alz hs45 4 ?_
 refine aoz 17 (fun hs46 => ?_)
 refine sb2 2 T.sz71 ?_
 refine alz hs46 4 ?_
 refine A_end (by kernel_rfl) ?_
 refine NX_cut ((b4, b40, b42, b38)) (trivial) [1, 2, 3, 4, 5, 6, 7] rfl (perm_take 3 rfl (perm_take 1 rfl (perm_take 0 rfl (perm_take 0 rfl (perm_take 0 rfl (List.Perm.refl _)))))) rfl
 refine sa2 T.ze71 (fun b47 => ?_)
 refine alz hs39 3 ?_
 refine aoz 11 (fun hs48 => ?_)
 refine sa2 T.ze71 (fun b49 => ?_)
 refine alz hs48 4 ?_
 refine aoz 14 (fun hs50 => ?_)
 refine sb2 3 T.sz71 ?_
 refine alz hs50 4 ?_
 refine aoz 15 (fun hs51 => ?_)
 refine sb2 0 T.sz71 ?_
 refine alz hs51 4 ?_
 refine aoz 16 (fun hs52 => ?_)
 refine sb2 1 T.sz71 ?_
 refine alz hs52 4 ?_
 refine aoz 17 (fun hs53 => ?_)
 refine sb2 2 T.sz71 ?_
 refine alz hs53 4 ?_
 refine A_end (by kernel_rfl) ?_
 refine NX_cut ((b4, b49, b47, b38)) (trivial) [1, 2, 3, 4, 5, 6, 7] rfl (perm_take 3 rfl (perm_take 0 rfl (perm_take 0 rfl (perm_take 0 rfl (perm_take 0 rfl (List.Perm.refl _)))))) rfl
 refine sa2 T.ze71 (fun b54 => ?_)
 refine alz hs3 1 ?_
 refine A_three (i := 10) (j := 12) (k := 13) (by kernel_rfl) rfl rfl rfl (fun hs55 => ?_) (fun hs55 => ?_) (fun hs55 => ?_)
 refine sa2 T.ze71 (fun b56 => ?_)
 refine alz hs55 2 ?_
 refine A_two (i := 12) (j := 13) (by kernel_rfl) rfl rfl (fun hs57 => ?_) (fun hs57 => ?_)
 refine sa2 T.ze71 (fun b58 => ?_)
 refine alz hs57 3 ?_
 refine aoz 13 (fun hs59 => ?_)
 refine sa2 T.ze71 (fun b60 => ?_)
 refine alz hs59 4 ?_
 refine aoz 14 (fun hs61 => ?_)
 refine sb2 2 T.sz71 ?_
 refine alz hs61 4 ?_
 refine aoz 15 (fun hs62 => ?_)
 refine sb2 3 T.sz71 ?_
 refine alz hs62 4 ?_
 refine aoz 16 (fun hs63 => ?_)
 refine sb2 1 T.sz71 ?_
 refine alz hs63 4 ?_
 refine aoz 17 (fun hs64 => ?_)
 refine sb2 0 T.sz71 ?_
 refine alz hs64 4 ?_
 refine A_end (by kernel_rfl) ?_
 refine NX_cut ((b56, b54, b58, b60)) (trivial) [1, 2, 3, 4, 5, 6, 7] rfl (perm_take 2 rfl (perm_take 2 rfl (perm_take 1 rfl (perm_take 0 rfl (perm_take 0 rfl (List.Perm.refl _)))))) rfl
 refine sa2 T.ze71 (fun b65 => ?_)
 refine alz hs57 3 ?_
 refine aoz 12 (fun hs66 => ?_)
 refine sa2 T.ze71 (fun b67 => ?_)
 refine alz hs66 4 ?_
 refine aoz 14 (fun hs68 => ?_)
 refine sb2 2 T.sz71 ?_
 refine alz hs68 4 ?_
 refine aoz 15 (fun hs69 => ?_)
 refine sb2 3 T.sz71 ?_
 refine alz hs69 4 ?_
 refine aoz 16 (fun hs70 => ?_)
 refine sb2 0 T.sz71 ?_
 refine alz hs70 4 ?_
 refine aoz 17 (fun hs71 => ?_)
 refine sb2 1 T.sz71 ?_
 refine alz hs71 4 ?_
 refine A_end (by kernel_rfl) ?_
 refine NX_cut ((b56, b54, b67, b65)) (trivial) [1, 2, 3, 4, 5, 6, 7] rfl (perm_take 2 rfl (perm_take 2 rfl (perm_take 0 rfl (perm_take 0 rfl (perm_take 0 rfl (List.Perm.refl _)))))) rfl
 refine sa2 T.ze71 (fun b72 => ?_)
 refine alz hs55 2 ?_
 refine A_two (i := 10) (j := 13) (by kernel_rfl) rfl rfl (fun hs73 => ?_) (fun hs73 => ?_)
 refine sa2 T.ze71 (fun b74 => ?_)
 refine alz hs73 3 ?_
 refine aoz 13 (fun hs75 => ?_)
 refine sa2 T.ze71 (fun b76 => ?_)
 refine alz hs75 4 ?_
 refine aoz 14 (fun hs77 => ?_)
 refine sb2 1 T.sz71 ?_
 refine alz hs77 4 ?_
 refine aoz 15 (fun hs78 => ?_)
 refine sb2 3 T.sz71 ?_
 refine alz hs78 4 ?_
 refine aoz 16 (fun hs79 => ?_)
 refine sb2 2 T.sz71 ?_
 refine alz hs79 4 ?_
 refine aoz 17 (fun hs80 => ?_)
 refine sb2 0 T.sz71 ?_
 refine alz hs80 4 ?_
 refine A_end (by kernel_rfl) ?_
 refine NX_cut ((b74, b54, b72, b76)) (trivial) [1, 2, 3, 4, 5, 6, 7] rfl (perm_take 1 rfl (perm_take 2 rfl (perm_take 1 rfl (perm_take 0 rfl (perm_take 0 rfl (List.Perm.refl _)))))) rfl
 refine sa2 T.ze71 (fun b81 => ?_)
 refine alz hs73 3 ?_
 refine aoz 10 (fun hs82 => ?_)
 refine sa2 T.ze71 (fun b83 => ?_)
 refine alz hs82 4 ?_
 refine aoz 14 (fun hs84 => ?_)
 refine sb2 0 T.sz71 ?_
 refine alz hs84 4 ?_
 refine aoz 15 (fun hs85 => ?_)
 refine sb2 3 T.sz71 ?_
 refine alz hs85 4 ?_
 refine aoz 16 (fun hs86 => ?_)
 refine sb2 2 T.sz71 ?_
 refine alz hs86 4 ?_
 refine aoz 17 (fun hs87 => ?_)
 refine sb2 1 T.sz71 ?_
 refine alz hs87 4 ?_
 refine A_end (by kernel_rfl) ?_
 refine NX_cut ((b83, b54, b72, b81)) (trivial) [1, 2, 3, 4, 5, 6, 7] rfl (perm_take 0 rfl (perm_take 2 rfl (perm_take 1 rfl (perm_take 0 rfl (perm_take 0 rfl (List.Perm.refl _)))))) rfl
 refine sa2 T.ze71 (fun b88 => ?_)
 refine alz hs55 2 ?_
 refine A_two (i := 10) (j := 12) (by kernel_rfl) rfl rfl (fun hs89 => ?_) (fun hs89 => ?_)
 refine sa2 T.ze71 (fun b90 => ?_)
 refine alz hs89 3 ?_
 refine aoz 12 (fun hs91 => ?_)
 refine sa2 T.ze71 (fun b92 => ?_)
 refine alz hs91 4 ?_
 refine aoz 14 (fun hs93 => ?_)
 refine sb2 1 T.sz71 ?_
 refine alz hs93 4 ?_
 refine aoz 15 (fun hs94 => ?_)
 refine sb2 3 T.sz71 ?_
 refine alz hs94 4 ?_
 refine aoz 16 (fun hs95 => ?_)
 refine sb2 0 T.sz71 ?_
 refine alz hs95 4 ?_
 refine aoz 17 (fun hs96 => ?_)
 refine sb2 2 T.sz71 ?_
 refine alz hs96 4 ?_
 refine A_end (by kernel_rfl) ?_
 refine NX_cut ((b90, b54, b92, b88)) (trivial) [1, 2, 3, 4, 5, 6, 7] rfl (perm_take 1 rfl (perm_take 2 rfl (perm_take 0 rfl (perm_take 0 rfl (perm_take 0 rfl (List.Perm.refl _)))))) rfl
 refine sa2 T.ze71 (fun b97 => ?_)
 refine alz hs89 3 ?_
 refine aoz 10 (fun hs98 => ?_)
 refine sa2 T.ze71 (fun b99 => ?_)
 refine alz hs98 4 ?_
 refine aoz 14 (fun hs100 => ?_)
 refine sb2 0 T.sz71 ?_
 refine alz hs100 4 ?_
 refine aoz 15 (fun hs101 => ?_)
 refine sb2 3 T.sz71 ?_
 refine alz hs101 4 ?_
 refine aoz 16 (fun hs102 => ?_)
 refine sb2 1 T.sz71 ?_
 refine alz hs102 4 ?_
 refine aoz 17 (fun hs103 => ?_)
 refine sb2 2 T.sz71 ?_
 refine alz hs103 4 ?_
 refine A_end (by kernel_rfl) ?_
 refine NX_cut ((b99, b54, b97, b88)) (trivial) [1, 2, 3, 4, 5, 6, 7] rfl (perm_take 0 rfl (perm_take 2 rfl (perm_take 0 rfl (perm_take 0 rfl (perm_take 0 rfl (List.Perm.refl _)))))) rfl
 refine sa2 T.ze71 (fun b104 => ?_)
 refine alz hs3 1 ?_
 refine A_three (i := 10) (j := 11) (k := 13) (by kernel_rfl) rfl rfl rfl (fun hs105 => ?_) (fun hs105 => ?_) (fun hs105 => ?_)
 refine sa2 T.ze71 (fun b106 => ?_)
 refine alz hs105 2 ?_
 refine A_two (i := 11) (j := 13) (by kernel_rfl) rfl rfl (fun hs107 => ?_) (fun hs107 => ?_)
 refine sa2 T.ze71 (fun b108 => ?_)
 refine alz hs107 3 ?_
 refine aoz 13 (fun hs109 => ?_)
 refine sa2 T.ze71 (fun b110 => ?_)
 refine alz hs109 4 ?_
 refine aoz 14 (fun hs111 => ?_)
 refine sb2 2 T.sz71 ?_
 refine alz hs111 4 ?_
 refine aoz 15 (fun hs112 => ?_)
 refine sb2 1 T.sz71 ?_
 refine alz hs112 4 ?_
 refine aoz 16 (fun hs113 => ?_)
 refine sb2 3 T.sz71 ?_
 refine alz hs113 4 ?_
 refine aoz 17 (fun hs114 => ?_)
 refine sb2 0 T.sz71 ?_
 refine alz hs114 4 ?_
 refine A_end (by kernel_rfl) ?_
 refine NX_cut ((b106, b108, b104, b110)) (trivial) [1, 2, 3, 4, 5, 6, 7] rfl (perm_take 2 rfl (perm_take 1 rfl (perm_take 1 rfl (perm_take 0 rfl (perm_take 0 rfl (List.Perm.refl _)))))) rfl
 refine sa2 T.ze71 (fun b115 => ?_)
 refine alz hs107 3 ?_
 refine aoz 11 (fun hs116 => ?_)
 refine sa2 T.ze71 (fun b117 => ?_)
 refine alz hs116 4 ?_
 refine aoz 14 (fun hs118 => ?_)
 refine sb2 2 T.sz71 ?_
 refine alz hs118 4 ?_
 refine aoz 15 (fun hs119 => ?_)
 refine sb2 0 T.sz71 ?_
 refine alz hs119 4 ?_
 refine aoz 16 (fun hs120 => ?_)
 refine sb2 3 T.sz71 ?_
 refine alz hs120 4 ?_
 refine aoz 17 (fun hs121 => ?_)
 refine sb2 1 T.sz71 ?_
 refine alz hs121 4 ?_
 refine A_end (by kernel_rfl) ?_
 refine NX_cut ((b106, b117, b104, b115)) (trivial) [1, 2, 3, 4, 5, 6, 7] rfl (perm_take 2 rfl (perm_take 0 rfl (perm_take 1 rfl (perm_take 0 rfl (perm_take 0 rfl (List.Perm.refl _)))))) rfl
 refine sa2 T.ze71 (fun b122 => ?_)
 refine alz hs105 2 ?_
 refine A_two (i := 10) (j := 13) (by kernel_rfl) rfl rfl (fun hs123 => ?_) (fun hs123 => ?_)
 refine sa2 T.ze71 (fun b124 => ?_)
 refine alz hs123 3 ?_
 refine aoz 13 (fun hs125 => ?_)
 refine sa2 T.ze71 (fun b126 => ?_)
 refine alz hs125 4 ?_
 refine aoz 14 (fun hs127 => ?_)
 refine sb2 1 T.sz71 ?_
 refine alz hs127 4 ?_
 refine aoz 15 (fun hs128 => ?_)
 refine sb2 2 T.sz71 ?_
 refine alz hs128 4 ?_
 refine aoz 16 (fun hs129 => ?_)
 refine sb2 3 T.sz71 ?_
 refine alz hs129 4 ?_
 refine aoz 17 (fun hs130 => ?_)
 refine sb2 0 T.sz71 ?_
 refine alz hs130 4 ?_
 refine A_end (by kernel_rfl) ?_
 refine NX_cut ((b124, b122, b104, b126)) (trivial) [1, 2, 3, 4, 5, 6, 7] rfl (perm_take 1 rfl (perm_take 1 rfl (perm_take 1 rfl (perm_take 0 rfl (perm_take 0 rfl (List.Perm.refl _)))))) rfl
 refine sa2 T.ze71 (fun b131 => ?_)
 refine alz hs123 3 ?_
 refine aoz 10 (fun hs132 => ?_)
 refine sa2 T.ze71 (fun b133 => ?_)
 refine alz hs132 4 ?_
 refine aoz 14 (fun hs134 => ?_)
 refine sb2 0 T.sz71 ?_
 refine alz hs134 4 ?_
 refine aoz 15 (fun hs135 => ?_)
 refine sb2 2 T.sz71 ?_
 refine alz hs135 4 ?_
 refine aoz 16 (fun hs136 => ?_)
 refine sb2 3 T.sz71 ?_
 refine alz hs136 4 ?_
 refine aoz 17 (fun hs137 => ?_)
 refine sb2 1 T.sz71 ?_
 refine alz hs137 4 ?_
 refine A_end (by kernel_rfl) ?_
 refine NX_cut ((b133, b122, b104, b131)) (trivial) [1, 2, 3, 4, 5, 6, 7] rfl (perm_take 0 rfl (perm_take 1 rfl (perm_take 1 rfl (perm_take 0 rfl (perm_take 0 rfl (List.Perm.refl _)))))) rfl
 refine sa2 T.ze71 (fun b138 => ?_)
 refine alz hs105 2 ?_
 refine A_two (i := 10) (j := 11) (by kernel_rfl) rfl rfl (fun hs139 => ?_) (fun hs139 => ?_)
 refine sa2 T.ze71 (fun b140 => ?_)
 refine alz hs139 3 ?_
 refine aoz 11 (fun hs141 => ?_)
 refine sa2 T.ze71 (fun b142 => ?_)
 refine alz hs141 4 ?_
 refine aoz 14 (fun hs143 => ?_)
 refine sb2 1 T.sz71 ?_
 refine alz hs143 4 ?_
 refine aoz 15 (fun hs144 => ?_)
 refine sb2 0 T.sz71 ?_
 refine alz hs144 4 ?_
 refine aoz 16 (fun hs145 => ?_)
 refine sb2 3 T.sz71 ?_
 refine alz hs145 4 ?_
 refine aoz 17 (fun hs146 => ?_)
 refine sb2 2 T.sz71 ?_
 refine alz hs146 4 ?_
 refine A_end (by kernel_rfl) ?_
 refine NX_cut ((b140, b142, b104, b138)) (trivial) [1, 2, 3, 4, 5, 6, 7] rfl (perm_take 1 rfl (perm_take 0 rfl (perm_take 1 rfl (perm_take 0 rfl (perm_take 0 rfl (List.Perm.refl _)))))) rfl
 refine sa2 T.ze71 (fun b147 => ?_)
 refine alz hs139 3 ?_
 refine aoz 10 (fun hs148 => ?_)
 refine sa2 T.ze71 (fun b149 => ?_)
 refine alz hs148 4 ?_
 refine aoz 14 (fun hs150 => ?_)
 refine sb2 0 T.sz71 ?_
 refine alz hs150 4 ?_
 refine aoz 15 (fun hs151 => ?_)
 refine sb2 1 T.sz71 ?_
 refine alz hs151 4 ?_
 refine aoz 16 (fun hs152 => ?_)
 refine sb2 3 T.sz71 ?_
 refine alz hs152 4 ?_
 refine aoz 17 (fun hs153 => ?_)
 refine sb2 2 T.sz71 ?_
 refine alz hs153 4 ?_
 refine A_end (by kernel_rfl) ?_
 refine NX_cut ((b149, b147, b104, b138)) (trivial) [1, 2, 3, 4, 5, 6, 7] rfl (perm_take 0 rfl (perm_take 0 rfl (perm_take 1 rfl (perm_take 0 rfl (perm_take 0 rfl (List.Perm.refl _)))))) rfl
 refine sa2 T.ze71 (fun b154 => ?_)
 refine alz hs3 1 ?_
 refine A_three (i := 10) (j := 11) (k := 12) (by kernel_rfl) rfl rfl rfl (fun hs155 => ?_) (fun hs155 => ?_) (fun hs155 => ?_)
 refine sa2 T.ze71 (fun b156 => ?_)
 refine alz hs155 2 ?_
 refine A_two (i := 11) (j := 12) (by kernel_rfl) rfl rfl (fun hs157 => ?_) (fun hs157 => ?_)
 refine sa2 T.ze71 (fun b158 => ?_)
 refine alz hs157 3 ?_
 refine aoz 12 (fun hs159 => ?_)
 refine sa2 T.ze71 (fun b160 => ?_)
 refine alz hs159 4 ?_
 refine aoz 14 (fun hs161 => ?_)
 refine sb2 2 T.sz71 ?_
 refine alz hs161 4 ?_
 refine aoz 15 (fun hs162 => ?_)
 refine sb2 1 T.sz71 ?_
 refine alz hs162 4 ?_
 refine aoz 16 (fun hs163 => ?_)
 refine sb2 0 T.sz71 ?_
 refine alz hs163 4 ?_
 refine aoz 17 (fun hs164 => ?_)
 refine sb2 3 T.sz71 ?_
 refine alz hs164 4 ?_
 refine A_end (by kernel_rfl) ?_
 refine NX_cut ((b156, b158, b160, b154)) (trivial) [1, 2, 3, 4, 5, 6, 7] rfl (perm_take 2 rfl (perm_take 1 rfl (perm_take 0 rfl (perm_take 0 rfl (perm_take 0 rfl (List.Perm.refl _)))))) rfl
 refine sa2 T.ze71 (fun b165 => ?_)
 refine alz hs157 3 ?_
 refine aoz 11 (fun hs166 => ?_)
 refine sa2 T.ze71 (fun b167 => ?_)
 refine alz hs166 4 ?_
 refine aoz 14 (fun hs168 => ?_)
 refine sb2 2 T.sz71 ?_
 refine alz hs168 4 ?_
 refine aoz 15 (fun hs169 => ?_)
 refine sb2 0 T.sz71 ?_
 refine alz hs169 4 ?_
 refine aoz 16 (fun hs170 => ?_)
 refine sb2 1 T.sz71 ?_
 refine alz hs170 4 ?_
 refine aoz 17 (fun hs171 => ?_)
 refine sb2 3 T.sz71 ?_
 refine alz hs171 4 ?_
 refine A_end (by kernel_rfl) ?_
 refine NX_cut ((b156, b167, b165, b154)) (trivial) [1, 2, 3, 4, 5, 6, 7] rfl (perm_take 2 rfl (perm_take 0 rfl (perm_take 0 rfl (perm_take 0 rfl (perm_take 0 rfl (List.Perm.refl _)))))) rfl
 refine sa2 T.ze71 (fun b172 => ?_)
 refine alz hs155 2 ?_
 refine A_two (i := 10) (j := 12) (by kernel_rfl) rfl rfl (fun hs173 => ?_) (fun hs173 => ?_)
 refine sa2 T.ze71 (fun b174 => ?_)
 refine alz hs173 3 ?_
 refine aoz 12 (fun hs175 => ?_)
 refine sa2 T.ze71 (fun b176 => ?_)
 refine alz hs175 4 ?_
 refine aoz 14 (fun hs177 => ?_)
 refine sb2 1 T.sz71 ?_
 refine alz hs177 4 ?_
 refine aoz 15 (fun hs178 => ?_)
 refine sb2 2 T.sz71 ?_
 refine alz hs178 4 ?_
 refine aoz 16 (fun hs179 => ?_)
 refine sb2 0 T.sz71 ?_
 refine alz hs179 4 ?_
 refine aoz 17 (fun hs180 => ?_)
 refine sb2 3 T.sz71 ?_
 refine alz hs180 4 ?_
 refine A_end (by kernel_rfl) ?_
 refine NX_cut ((b174, b172, b176, b154)) (trivial) [1, 2, 3, 4, 5, 6, 7] rfl (perm_take 1 rfl (perm_take 1 rfl (perm_take 0 rfl (perm_take 0 rfl (perm_take 0 rfl (List.Perm.refl _)))))) rfl
 refine sa2 T.ze71 (fun b181 => ?_)
 refine alz hs173 3 ?_
 refine aoz 10 (fun hs182 => ?_)
 refine sa2 T.ze71 (fun b183 => ?_)
 refine alz hs182 4 ?_
 refine aoz 14 (fun hs184 => ?_)
 refine sb2 0 T.sz71 ?_
 refine alz hs184 4 ?_
 refine aoz 15 (fun hs185 => ?_)
 refine sb2 2 T.sz71 ?_
 refine alz hs185 4 ?_
 refine aoz 16 (fun hs186 => ?_)
 refine sb2 1 T.sz71 ?_
 refine alz hs186 4 ?_
 refine aoz 17 (fun hs187 => ?_)
 refine sb2 3 T.sz71 ?_
 refine alz hs187 4 ?_
 refine A_end (by kernel_rfl) ?_
 refine NX_cut ((b183, b172, b181, b154)) (trivial) [1, 2, 3, 4, 5, 6, 7] rfl (perm_take 0 rfl (perm_take 1 rfl (perm_take 0 rfl (perm_take 0 rfl (perm_take 0 rfl (List.Perm.refl _)))))) rfl
 refine sa2 T.ze71 (fun b188 => ?_)
 refine alz hs155 2 ?_
 refine A_two (i := 10) (j := 11) (by kernel_rfl) rfl rfl (fun hs189 => ?_) (fun hs189 => ?_)
 refine sa2 T.ze71 (fun b190 => ?_)
 refine alz hs189 3 ?_
 refine aoz 11 (fun hs191 => ?_)
 refine sa2 T.ze71 (fun b192 => ?_)
 refine alz hs191 4 ?_
 refine aoz 14 (fun hs193 => ?_)
 refine sb2 1 T.sz71 ?_
 refine alz hs193 4 ?_
 refine aoz 15 (fun hs194 => ?_)
 refine sb2 0 T.sz71 ?_
 refine alz hs194 4 ?_
 refine aoz 16 (fun hs195 => ?_)
 refine sb2 2 T.sz71 ?_
 refine alz hs195 4 ?_
 refine aoz 17 (fun hs196 => ?_)
 refine sb2 3 T.sz71 ?_
 refine alz hs196 4 ?_
 refine A_end (by kernel_rfl) ?_
 refine NX_cut ((b190, b192, b188, b154)) (trivial) [1, 2, 3, 4, 5, 6, 7] rfl (perm_take 1 rfl (perm_take 0 rfl (perm_take 0 rfl (perm_take 0 rfl (perm_take 0 rfl (List.Perm.refl _)))))) rfl
 refine sa2 T.ze71 (fun b197 => ?_)
 refine alz hs189 3 ?_
 refine aoz 10 (fun hs198 => ?_)
 refine sa2 T.ze71 (fun b199 => ?_)
 refine alz hs198 4 ?_
 refine aoz 14 (fun hs200 => ?_)
 refine sb2 0 T.sz71 ?_
 refine alz hs200 4 ?_
 refine aoz 15 (fun hs201 => ?_)
 refine sb2 1 T.sz71 ?_
 refine alz hs201 4 ?_
 refine aoz 16 (fun hs202 => ?_)
 refine sb2 2 T.sz71 ?_
 refine alz hs202 4 ?_
 refine aoz 17 (fun hs203 => ?_)
 refine sb2 3 T.sz71 ?_
 refine alz hs203 4 ?_
 refine A_end (by kernel_rfl) ?_
 refine NX_cut ((b199, b197, b188, b154)) (trivial) [1, 2, 3, 4, 5, 6, 7] rfl (perm_take 0 rfl (perm_take 0 rfl (perm_take 0 rfl (perm_take 0 rfl (perm_take 0 rfl (List.Perm.refl _)))))) rfl
 refine sq ?_
 refine C_drawn [(0, true), (1, true), (2, true), (3, true), (4, true), (5, true), (6, true), (7, true)] (by kernel_rfl) rfl (by kernel_rfl) (by kernel_rfl) ?_
 refine dfb 2 T.fo51_2 ?_
 refine dlb 4 T.ag3 ?_
 refine D_q rfl (r_bin rfl rfl (bin_eql _ _ _ _)) rfl ?_
 refine dfb 1 T.fo51_1 ?_
 refine dlb 4 T.ag3 ?_
 refine D_q rfl (r_bin rfl rfl (bin_geq _ _ _ _)) rfl ?_
 refine das ?_
 refine das ?_
 refine D_end ?_
 refine kk9 [1,2,3,4,5,6,7,8,9] (sq (sq (rg ?_)))
 refine fb 0 T.fo51_0 (lb 4 T.ag3 ?_)
 refine wn (kk10 [1,2,3,4,5,6,7,8,9,27] (bk (sq (rg ?_))))
 refine be (as_ ?_)
 refine wn (kk11 [1,2,3,4,5,6,7,8,9,27,28] ?_)
 refine cd ?_ ?_ <;> intro h204 <;> try simp only [tt] at h204
 refine sq ?_
 refine C_drawn [(0, true), (1, true), (2, true), (3, true), (4, true), (5, true), (6, true), (7, true), (8, true), (9, true)] (by kernel_rfl) rfl (by kernel_rfl) (by kernel_rfl) ?_
 refine dfb 5 T.fo51_5 ?_
 refine dlb 4 T.ag49 ?_
 refine dfb 1 T.fo51_1 ?_
 refine dlb 4 T.ag3 ?_
 refine D_quiet rfl (Cut_q _ _ (by assumption)) T.hb213 rfl rfl ?_
 refine dfb 5 T.fo51_5 ?_
 refine dlb 4 T.ag49 ?_
 refine D_q rfl (r_bin rfl rfl (bin_eql _ _ _ _)) rfl ?_
 refine das ?_
 refine das ?_
 refine D_end ?_
 refine kk2 [2,3] ?_
 refine C_ret (RX_block (RX_then (RX_g2 rfl rfl rfl (takesΦ_mk (Sl.nil _ _ _) ?_))))
 simp [takesP, scalarKs, *]
 refine sq (sq (rg ?_))
 refine be (as_ ?_)
 refine wn (kk11 [1,2,3,4,5,6,7,8,9,27,38] ?_)
 refine cd ?_ ?_ <;> intro h205 <;> try simp only [tt] at h205
 refine sk (kk11 [1,2,3,4,5,6,7,8,9,27,38] ?_)
 refine ctz (sq ?_)
 refine C_drawn [(0, true), (1, true), (4, true), (5, true), (6, true), (2, false), (3, true), (7, true), (8, true)] (by kernel_rfl) rfl (by kernel_rfl) (by kernel_rfl) ?_
 refine D_q rfl (r_loadbk 0 (vs := [_, _]) rfl T.ag71 T.sz71 rfl rfl rfl) rfl ?_
 refine D_q rfl (r_loadbk 0 (vs := [_, _]) rfl T.ag71 T.sz71 rfl rfl rfl) rfl ?_
 refine dfb 5 T.fo51_5 ?_
 refine dlb 4 T.ag49 ?_
 refine D_q rfl (r_bin rfl rfl (bin_eql _ _ _ _)) rfl ?_
 refine D_f rfl (fun hs206 hc206 => ?_)
 refine S_lit (vs := [_, _]) (cs := [_, _, _, _]) Tryz.underlying113 T.sz71 T.ze71 rfl rfl rfl rfl rfl rfl (fun m207 ad207 le207 l207 => ?_)
 replace hO := rOp_mono _ _ _ _ le207 hO
 replace h90 := h90.mono rI_mono le207
 have h207 : Sl rPair 2 m207 (some ad207) 2 _ := Pairs_lit [(_, _), (_, _)] l207 (pairs_cons (by first | assumption | exact ⟨by omega, by omega⟩) (by first | assumption | exact ⟨by omega, by omega⟩) (pairs_cons (by first | assumption | exact ⟨by omega, by omega⟩) (by first | assumption | exact ⟨by omega, by omega⟩) pairs_nil))
 refine W_leftw hs206 hc206 (le207) (List.Sublist.refl _) ?_
 refine D_quiet rfl (kindrow_q _) T.hb214 rfl rfl ?_
 refine das ?_
 refine das ?_
 refine D_end ?_
 refine kk2 [2,3] ?_
 refine C_ret (RX_block (RX_then (RX_g2 rfl rfl rfl (takesΦ_mk (h207) ?_))))
 simp [takesP, scalarKs, *]
 refine sq (rg ?_)
 refine be (as_ ?_)
 refine wn (kk11 [1,2,3,4,5,6,7,8,9,27,38] ?_)
 refine cd ?_ ?_ <;> intro h208 <;> try simp only [tt] at h208
 refine sk (kk11 [1,2,3,4,5,6,7,8,9,27,38] ?_)
 refine ctz (sq ?_)
 refine C_drawn [(0, true), (1, true), (4, true), (5, true), (6, true), (2, false), (3, true), (7, true), (8, true)] (by kernel_rfl) rfl (by kernel_rfl) (by kernel_rfl) ?_
 refine D_q rfl (r_loadbk 0 (vs := [_, _]) rfl T.ag71 T.sz71 rfl rfl rfl) rfl ?_
 refine D_q rfl (r_loadbk 0 (vs := [_, _]) rfl T.ag71 T.sz71 rfl rfl rfl) rfl ?_
 refine dfb 5 T.fo51_5 ?_
 refine dlb 4 T.ag49 ?_
 refine D_q rfl (r_bin rfl rfl (bin_eql _ _ _ _)) rfl ?_
 refine D_f rfl (fun hs209 hc209 => ?_)
 refine S_lit (vs := [_, _]) (cs := [_, _, _, _]) Tryz.underlying113 T.sz71 T.ze71 rfl rfl rfl rfl rfl rfl (fun m210 ad210 le210 l210 => ?_)
 replace hO := rOp_mono _ _ _ _ le210 hO
 replace h90 := h90.mono rI_mono le210
 have h210 : Sl rPair 2 m210 (some ad210) 2 _ := Pairs_lit [(_, _), (_, _)] l210 (pairs_cons (by first | assumption | exact ⟨by omega, by omega⟩) (by first | assumption | exact ⟨by omega, by omega⟩) (pairs_cons (by first | assumption | exact ⟨by omega, by omega⟩) (by first | assumption | exact ⟨by omega, by omega⟩) pairs_nil))
 refine W_leftw hs209 hc209 (le210) (List.Sublist.refl _) ?_
 refine D_quiet rfl (kindrow_q _) T.hb214 rfl rfl ?_
 refine das ?_
 refine das ?_
 refine D_end ?_
 refine kk2 [2,3] ?_
 refine C_ret (RX_block (RX_then (RX_g2 rfl rfl rfl (takesΦ_mk (h210) ?_))))
 simp [takesP, scalarKs, *]
 refine sq (rg ?_)
 refine be (as_ ?_)
 refine wn (kk11 [1,2,3,4,5,6,7,8,9,27,38] ?_)
 refine cd ?_ ?_ <;> intro h211 <;> try simp only [tt] at h211
 refine sk (kk11 [1,2,3,4,5,6,7,8,9,27,38] ?_)
 refine ctz (sq ?_)
 refine C_drawn [(0, true), (1, true), (4, true), (5, true), (6, true), (2, false), (3, true), (7, true), (8, true)] (by kernel_rfl) rfl (by kernel_rfl) (by kernel_rfl) ?_
 refine D_q rfl (r_loadbk 0 (vs := [_, _]) rfl T.ag71 T.sz71 rfl rfl rfl) rfl ?_
 refine D_q rfl (r_loadbk 0 (vs := [_, _]) rfl T.ag71 T.sz71 rfl rfl rfl) rfl ?_
 refine dfb 5 T.fo51_5 ?_
 refine dlb 4 T.ag49 ?_
 refine D_q rfl (r_bin rfl rfl (bin_eql _ _ _ _)) rfl ?_
 refine D_f rfl (fun hs212 hc212 => ?_)
 refine S_lit (vs := [_, _]) (cs := [_, _, _, _]) Tryz.underlying113 T.sz71 T.ze71 rfl rfl rfl rfl rfl rfl (fun m213 ad213 le213 l213 => ?_)
 replace hO := rOp_mono _ _ _ _ le213 hO
 replace h90 := h90.mono rI_mono le213
 have h213 : Sl rPair 2 m213 (some ad213) 2 _ := Pairs_lit [(_, _), (_, _)] l213 (pairs_cons (by first | assumption | exact ⟨by omega, by omega⟩) (by first | assumption | exact ⟨by omega, by omega⟩) (pairs_cons (by first | assumption | exact ⟨by omega, by omega⟩) (by first | assumption | exact ⟨by omega, by omega⟩) pairs_nil))
 refine W_leftw hs212 hc212 (le213) (List.Sublist.refl _) ?_
 refine D_quiet rfl (kindrow_q _) T.hb214 rfl rfl ?_
 refine das ?_
 refine das ?_
 refine D_end ?_
 refine kk2 [2,3] ?_
 refine C_ret (RX_block (RX_then (RX_g2 rfl rfl rfl (takesΦ_mk (h213) ?_))))
 simp [takesP, scalarKs, *]
 refine sq (rg ?_)
 refine be (as_ ?_)
 refine wn (kk11 [1,2,3,4,5,6,7,8,9,27,38] ?_)
 refine cd ?_ ?_ <;> intro h214 <;> try simp only [tt] at h214
 refine sk (kk11 [1,2,3,4,5,6,7,8,9,27,38] ?_)
 refine ctz (sq ?_)
 refine C_drawn [(0, true), (1, true), (4, true), (5, true), (6, true), (2, false), (3, true), (7, true), (8, true)] (by kernel_rfl) rfl (by kernel_rfl) (by kernel_rfl) ?_
 refine D_q rfl (r_loadbk 0 (vs := [_, _]) rfl T.ag71 T.sz71 rfl rfl rfl) rfl ?_
 refine D_q rfl (r_loadbk 0 (vs := [_, _]) rfl T.ag71 T.sz71 rfl rfl rfl) rfl ?_
 refine dfb 5 T.fo51_5 ?_
 refine dlb 4 T.ag49 ?_
 refine D_q rfl (r_bin rfl rfl (bin_eql _ _ _ _)) rfl ?_
 refine D_f rfl (fun hs215 hc215 => ?_)
 refine S_lit (vs := [_, _]) (cs := [_, _, _, _]) Tryz.underlying113 T.sz71 T.ze71 rfl rfl rfl rfl rfl rfl (fun m216 ad216 le216 l216 => ?_)
 replace hO := rOp_mono _ _ _ _ le216 hO
 replace h90 := h90.mono rI_mono le216
 have h216 : Sl rPair 2 m216 (some ad216) 2 _ := Pairs_lit [(_, _), (_, _)] l216 (pairs_cons (by first | assumption | exact ⟨by omega, by omega⟩) (by first | assumption | exact ⟨by omega, by omega⟩) (pairs_cons (by first | assumption | exact ⟨by omega, by omega⟩) (by first | assumption | exact ⟨by omega, by omega⟩) pairs_nil))
 refine W_leftw hs215 hc215 (le216) (List.Sublist.refl _) ?_
 refine D_quiet rfl (kindrow_q _) T.hb214 rfl rfl ?_
 refine das ?_
 refine das ?_
 refine D_end ?_
 refine kk2 [2,3] ?_
 refine C_ret (RX_block (RX_then (RX_g2 rfl rfl rfl (takesΦ_mk (h216) ?_))))
 simp [takesP, scalarKs, *]
 refine sq (rg ?_)
 refine be (as_ ?_)
 refine wn (kk11 [1,2,3,4,5,6,7,8,9,27,38] ?_)
 refine cd ?_ ?_ <;> intro h217 <;> try simp only [tt] at h217
 refine sk (kk11 [1,2,3,4,5,6,7,8,9,27,38] ?_)
 refine ctz (sq ?_)
 refine C_drawn [(0, true), (1, true), (4, true), (5, true), (6, true), (2, false), (3, true), (7, true), (8, true)] (by kernel_rfl) rfl (by kernel_rfl) (by kernel_rfl) ?_
 refine D_q rfl (r_loadbk 0 (vs := [_, _]) rfl T.ag71 T.sz71 rfl rfl rfl) rfl ?_
 refine D_q rfl (r_loadbk 0 (vs := [_, _]) rfl T.ag71 T.sz71 rfl rfl rfl) rfl ?_
 refine dfb 5 T.fo51_5 ?_
 refine dlb 4 T.ag49 ?_
 refine D_q rfl (r_bin rfl rfl (bin_eql _ _ _ _)) rfl ?_
 refine D_f rfl (fun hs218 hc218 => ?_)
 refine S_lit (vs := [_, _]) (cs := [_, _, _, _]) Tryz.underlying113 T.sz71 T.ze71 rfl rfl rfl rfl rfl rfl (fun m219 ad219 le219 l219 => ?_)
 replace hO := rOp_mono _ _ _ _ le219 hO
 replace h90 := h90.mono rI_mono le219
 have h219 : Sl rPair 2 m219 (some ad219) 2 _ := Pairs_lit [(_, _), (_, _)] l219 (pairs_cons (by first | assumption | exact ⟨by omega, by omega⟩) (by first | assumption | exact ⟨by omega, by omega⟩) (pairs_cons (by first | assumption | exact ⟨by omega, by omega⟩) (by first | assumption | exact ⟨by omega, by omega⟩) pairs_nil))
 refine W_leftw hs218 hc218 (le219) (List.Sublist.refl _) ?_
 refine D_quiet rfl (kindrow_q _) T.hb214 rfl rfl ?_
 refine das ?_
 refine das ?_
 refine D_end ?_
 refine kk2 [2,3] ?_
 refine C_ret (RX_block (RX_then (RX_g2 rfl rfl rfl (takesΦ_mk (h219) ?_))))
 simp [takesP, scalarKs, *]
 refine sq (rg ?_)
 refine be (as_ ?_)
 refine wn (kk11 [1,2,3,4,5,6,7,8,9,27,38] ?_)
 refine cd ?_ ?_ <;> intro h220 <;> try simp only [tt] at h220
 refine sk (kk11 [1,2,3,4,5,6,7,8,9,27,38] ?_)
 refine ctz (sq ?_)
 refine C_drawn [(0, true), (1, true), (4, true), (5, true), (6, true), (2, false), (3, true), (7, true), (8, true)] (by kernel_rfl) rfl (by kernel_rfl) (by kernel_rfl) ?_
 refine D_q rfl (r_loadbk 0 (vs := [_, _]) rfl T.ag71 T.sz71 rfl rfl rfl) rfl ?_
 refine D_q rfl (r_loadbk 0 (vs := [_, _]) rfl T.ag71 T.sz71 rfl rfl rfl) rfl ?_
 refine dfb 5 T.fo51_5 ?_
 refine dlb 4 T.ag49 ?_
 refine D_q rfl (r_bin rfl rfl (bin_eql _ _ _ _)) rfl ?_
 refine D_f rfl (fun hs221 hc221 => ?_)
 refine S_lit (vs := [_, _]) (cs := [_, _, _, _]) Tryz.underlying113 T.sz71 T.ze71 rfl rfl rfl rfl rfl rfl (fun m222 ad222 le222 l222 => ?_)
 replace hO := rOp_mono _ _ _ _ le222 hO
 replace h90 := h90.mono rI_mono le222
 have h222 : Sl rPair 2 m222 (some ad222) 2 _ := Pairs_lit [(_, _), (_, _)] l222 (pairs_cons (by first | assumption | exact ⟨by omega, by omega⟩) (by first | assumption | exact ⟨by omega, by omega⟩) (pairs_cons (by first | assumption | exact ⟨by omega, by omega⟩) (by first | assumption | exact ⟨by omega, by omega⟩) pairs_nil))
 refine W_leftw hs221 hc221 (le222) (List.Sublist.refl _) ?_
 refine D_quiet rfl (kindrow_q _) T.hb214 rfl rfl ?_
 refine das ?_
 refine das ?_
 refine D_end ?_
 refine kk2 [2,3] ?_
 refine C_ret (RX_block (RX_then (RX_g2 rfl rfl rfl (takesΦ_mk (h222) ?_))))
 simp [takesP, scalarKs, *]
 refine sq (rg ?_)
 refine be (as_ ?_)
 refine wn (kk11 [1,2,3,4,5,6,7,8,9,27,38] ?_)
 refine cd ?_ ?_ <;> intro h223 <;> try simp only [tt] at h223
 refine sk (kk11 [1,2,3,4,5,6,7,8,9,27,38] ?_)
 refine ctz (sq ?_)
 refine C_drawn [(0, true), (1, true), (4, true), (5, true), (6, true), (2, false), (3, true), (7, true), (8, true)] (by kernel_rfl) rfl (by kernel_rfl) (by kernel_rfl) ?_
 refine D_q rfl (r_loadbk 0 (vs := [_, _]) rfl T.ag71 T.sz71 rfl rfl rfl) rfl ?_
 refine D_q rfl (r_loadbk 0 (vs := [_, _]) rfl T.ag71 T.sz71 rfl rfl rfl) rfl ?_
 refine dfb 5 T.fo51_5 ?_
 refine dlb 4 T.ag49 ?_
 refine D_q rfl (r_bin rfl rfl (bin_eql _ _ _ _)) rfl ?_
 refine D_f rfl (fun hs224 hc224 => ?_)
 refine S_lit (vs := [_, _]) (cs := [_, _, _, _]) Tryz.underlying113 T.sz71 T.ze71 rfl rfl rfl rfl rfl rfl (fun m225 ad225 le225 l225 => ?_)
 replace hO := rOp_mono _ _ _ _ le225 hO
 replace h90 := h90.mono rI_mono le225
 have h225 : Sl rPair 2 m225 (some ad225) 2 _ := Pairs_lit [(_, _), (_, _)] l225 (pairs_cons (by first | assumption | exact ⟨by omega, by omega⟩) (by first | assumption | exact ⟨by omega, by omega⟩) (pairs_cons (by first | assumption | exact ⟨by omega, by omega⟩) (by first | assumption | exact ⟨by omega, by omega⟩) pairs_nil))
 refine W_leftw hs224 hc224 (le225) (List.Sublist.refl _) ?_
 refine D_quiet rfl (kindrow_q _) T.hb214 rfl rfl ?_
 refine das ?_
 refine das ?_
 refine D_end ?_
 refine kk2 [2,3] ?_
 refine C_ret (RX_block (RX_then (RX_g2 rfl rfl rfl (takesΦ_mk (h225) ?_))))
 simp [takesP, scalarKs, *]
 refine rg ?_
 refine be (as_ ?_)
 refine wn (kk11 [1,2,3,4,5,6,7,8,9,27,38] ?_)
 refine cd ?_ ?_ <;> intro h226 <;> try simp only [tt] at h226
 refine sq ?_
 refine C_drawn [(0, true), (1, true), (4, true), (5, true), (6, true), (2, false), (3, true), (7, true), (8, true)] (by kernel_rfl) rfl (by kernel_rfl) (by kernel_rfl) ?_
 refine D_q rfl (r_loadbk 0 (vs := [_, _]) rfl T.ag71 T.sz71 rfl rfl rfl) rfl ?_
 refine D_q rfl (r_loadbk 0 (vs := [_, _]) rfl T.ag71 T.sz71 rfl rfl rfl) rfl ?_
 refine dfb 5 T.fo51_5 ?_
 refine dlb 4 T.ag49 ?_
 refine D_q rfl (r_bin rfl rfl (bin_eql _ _ _ _)) rfl ?_
 refine D_f rfl (fun hs227 hc227 => ?_)
 refine S_lit (vs := [_, _]) (cs := [_, _, _, _]) Tryz.underlying113 T.sz71 T.ze71 rfl rfl rfl rfl rfl rfl (fun m228 ad228 le228 l228 => ?_)
 replace hO := rOp_mono _ _ _ _ le228 hO
 replace h90 := h90.mono rI_mono le228
 have h228 : Sl rPair 2 m228 (some ad228) 2 _ := Pairs_lit [(_, _), (_, _)] l228 (pairs_cons (by first | assumption | exact ⟨by omega, by omega⟩) (by first | assumption | exact ⟨by omega, by omega⟩) (pairs_cons (by first | assumption | exact ⟨by omega, by omega⟩) (by first | assumption | exact ⟨by omega, by omega⟩) pairs_nil))
 refine W_leftw hs227 hc227 (le228) (List.Sublist.refl _) ?_
 refine D_quiet rfl (kindrow_q _) T.hb214 rfl rfl ?_
 refine das ?_
 refine das ?_
 refine D_end ?_
 refine kk2 [2,3] ?_
 refine C_ret (RX_block (RX_then (RX_g2 rfl rfl rfl (takesΦ_mk (h228) ?_))))
 simp [takesP, scalarKs, *]
 refine sq (sq (rg ?_))
 refine be (as_ ?_)
 refine wn (kk11 [1,2,3,4,5,6,7,8,9,27,54] ?_)
 refine cd ?_ ?_ <;> intro h229 <;> try simp only [tt] at h229
 refine sk (kk11 [1,2,3,4,5,6,7,8,9,27,54] ?_)
 refine ctz (sq ?_)
 refine C_drawn [(0, true), (1, true), (4, true), (5, true), (6, true), (2, false), (3, true), (7, true), (8, true), (9, true), (10, true), (11, true)] (by kernel_rfl) rfl (by kernel_rfl) (by kernel_rfl) ?_
 refine D_q rfl (r_loadbk 0 (vs := [_, _]) rfl T.ag71 T.sz71 rfl rfl rfl) rfl ?_
 refine D_q rfl (r_loadbk 0 (vs := [_, _]) rfl T.ag71 T.sz71 rfl rfl rfl) rfl ?_
 refine dfb 5 T.fo51_5 ?_
 refine dlb 4 T.ag49 ?_
 refine D_q rfl (r_bin rfl rfl (bin_eql _ _ _ _)) rfl ?_
 refine D_f rfl (fun hs230 hc230 => ?_)
 refine S_lit (vs := [_, _]) (cs := [_, _, _, _]) Tryz.underlying113 T.sz71 T.ze71 rfl rfl rfl rfl rfl rfl (fun m231 ad231 le231 l231 => ?_)
 replace hO := rOp_mono _ _ _ _ le231 hO
 replace h90 := h90.mono rI_mono le231
 have h231 : Sl rPair 2 m231 (some ad231) 2 _ := Pairs_lit [(_, _), (_, _)] l231 (pairs_cons (by first | assumption | exact ⟨by omega, by omega⟩) (by first | assumption | exact ⟨by omega, by omega⟩) (pairs_cons (by first | assumption | exact ⟨by omega, by omega⟩) (by first | assumption | exact ⟨by omega, by omega⟩) pairs_nil))
 refine W_leftw hs230 hc230 (le231) (List.Sublist.refl _) ?_
 refine D_quiet rfl (kindrow_q _) T.hb214 rfl rfl ?_
 refine dmv ?_
 refine D_split (t := 66) rfl (fun h232 => ?_) (fun h232 => ?_)
 (try simp only [tt] at h232)
 refine D_qt rfl rfl rfl (r_move rfl) rfl ?_
 refine D_q rfl (r_pick_t rfl rfl) rfl ?_
 refine das ?_
 refine das ?_
 refine D_end ?_
 refine kk2 [2,3] ?_
 refine C_ret (RX_block (RX_then (RX_g2 rfl rfl rfl (takesΦ_mk (h231) ?_))))
 simp [takesP, scalarKs, *]
 (try simp only [tt] at h232)
 refine dps ?_
 refine D_q rfl (r_pick_f rfl rfl) rfl ?_
 refine das ?_
 refine das ?_
 refine D_end ?_
 refine kk2 [2,3] ?_
 refine C_ret (RX_block (RX_then (RX_g2 rfl rfl rfl (takesΦ_mk (h231) ?_))))
 simp [takesP, scalarKs, *]
 refine sq (rg ?_)
 refine be (as_ ?_)
 refine wn (kk11 [1,2,3,4,5,6,7,8,9,27,54] ?_)
 refine cd ?_ ?_ <;> intro h233 <;> try simp only [tt] at h233
 refine sk (kk11 [1,2,3,4,5,6,7,8,9,27,54] ?_)
 refine ctz (sq ?_)
 refine C_drawn [(0, true), (1, true), (4, true), (5, true), (6, true), (2, false), (3, true), (7, true), (8, true), (9, true), (10, true), (11, true)] (by kernel_rfl) rfl (by kernel_rfl) (by kernel_rfl) ?_
 refine D_q rfl (r_loadbk 0 (vs := [_, _]) rfl T.ag71 T.sz71 rfl rfl rfl) rfl ?_
 refine D_q rfl (r_loadbk 0 (vs := [_, _]) rfl T.ag71 T.sz71 rfl rfl rfl) rfl ?_
 refine dfb 5 T.fo51_5 ?_
 refine dlb 4 T.ag49 ?_
 refine D_q rfl (r_bin rfl rfl (bin_eql _ _ _ _)) rfl ?_
 refine D_f rfl (fun hs234 hc234 => ?_)
 refine S_lit (vs := [_, _]) (cs := [_, _, _, _]) Tryz.underlying113 T.sz71 T.ze71 rfl rfl rfl rfl rfl rfl (fun m235 ad235 le235 l235 => ?_)
 replace hO := rOp_mono _ _ _ _ le235 hO
 replace h90 := h90.mono rI_mono le235
 have h235 : Sl rPair 2 m235 (some ad235) 2 _ := Pairs_lit [(_, _), (_, _)] l235 (pairs_cons (by first | assumption | exact ⟨by omega, by omega⟩) (by first | assumption | exact ⟨by omega, by omega⟩) (pairs_cons (by first | assumption | exact ⟨by omega, by omega⟩) (by first | assumption | exact ⟨by omega, by omega⟩) pairs_nil))
 refine W_leftw hs234 hc234 (le235) (List.Sublist.refl _) ?_
 refine D_quiet rfl (kindrow_q _) T.hb214 rfl rfl ?_
 refine dmv ?_
 refine D_split (t := 66) rfl (fun h236 => ?_) (fun h236 => ?_)
 (try simp only [tt] at h236)
 refine D_qt rfl rfl rfl (r_move rfl) rfl ?_
 refine D_q rfl (r_pick_t rfl rfl) rfl ?_
 refine das ?_
 refine das ?_
 refine D_end ?_
 refine kk2 [2,3] ?_
 refine C_ret (RX_block (RX_then (RX_g2 rfl rfl rfl (takesΦ_mk (h235) ?_))))
 simp [takesP, scalarKs, *]
 (try simp only [tt] at h236)
 refine dps ?_
 refine D_q rfl (r_pick_f rfl rfl) rfl ?_
 refine das ?_
 refine das ?_
 refine D_end ?_
 refine kk2 [2,3] ?_
 refine C_ret (RX_block (RX_then (RX_g2 rfl rfl rfl (takesΦ_mk (h235) ?_))))
 simp [takesP, scalarKs, *]
 refine sq (rg ?_)
 refine be (as_ ?_)
 refine wn (kk11 [1,2,3,4,5,6,7,8,9,27,54] ?_)
 refine cd ?_ ?_ <;> intro h237 <;> try simp only [tt] at h237
 refine sk (kk11 [1,2,3,4,5,6,7,8,9,27,54] ?_)
 refine ctz (sq ?_)
 refine C_drawn [(0, true), (1, true), (4, true), (5, true), (6, true), (2, false), (3, true), (7, true), (8, true), (9, true), (10, true), (11, true)] (by kernel_rfl) rfl (by kernel_rfl) (by kernel_rfl) ?_
 refine D_q rfl (r_loadbk 0 (vs := [_, _]) rfl T.ag71 T.sz71 rfl rfl rfl) rfl ?_
 refine D_q rfl (r_loadbk 0 (vs := [_, _]) rfl T.ag71 T.sz71 rfl rfl rfl) rfl ?_
 refine dfb 5 T.fo51_5 ?_
 refine dlb 4 T.ag49 ?_
 refine D_q rfl (r_bin rfl rfl (bin_eql _ _ _ _)) rfl ?_
 refine D_f rfl (fun hs238 hc238 => ?_)
 refine S_lit (vs := [_, _]) (cs := [_, _, _, _]) Tryz.underlying113 T.sz71 T.ze71 rfl rfl rfl rfl rfl rfl (fun m239 ad239 le239 l239 => ?_)
 replace hO := rOp_mono _ _ _ _ le239 hO
 replace h90 := h90.mono rI_mono le239
 have h239 : Sl rPair 2 m239 (some ad239) 2 _ := Pairs_lit [(_, _), (_, _)] l239 (pairs_cons (by first | assumption | exact ⟨by omega, by omega⟩) (by first | assumption | exact ⟨by omega, by omega⟩) (pairs_cons (by first | assumption | exact ⟨by omega, by omega⟩) (by first | assumption | exact ⟨by omega, by omega⟩) pairs_nil))
 refine W_leftw hs238 hc238 (le239) (List.Sublist.refl _) ?_
 refine D_quiet rfl (kindrow_q _) T.hb214 rfl rfl ?_
 refine dmv ?_
 refine D_split (t := 66) rfl (fun h240 => ?_) (fun h240 => ?_)
 (try simp only [tt] at h240)
 refine D_qt rfl rfl rfl (r_move rfl) rfl ?_
 refine D_q rfl (r_pick_t rfl rfl) rfl ?_
 refine das ?_
 refine das ?_
 refine D_end ?_
 refine kk2 [2,3] ?_
 refine C_ret (RX_block (RX_then (RX_g2 rfl rfl rfl (takesΦ_mk (h239) ?_))))
 simp [takesP, scalarKs, *]
 (try simp only [tt] at h240)
 refine dps ?_
 refine D_q rfl (r_pick_f rfl rfl) rfl ?_
 refine das ?_
 refine das ?_
 refine D_end ?_
 refine kk2 [2,3] ?_
 refine C_ret (RX_block (RX_then (RX_g2 rfl rfl rfl (takesΦ_mk (h239) ?_))))
 simp [takesP, scalarKs, *]
 refine rg ?_
 refine be (as_ ?_)
 refine wn (kk11 [1,2,3,4,5,6,7,8,9,27,54] ?_)
 refine cd ?_ ?_ <;> intro h241 <;> try simp only [tt] at h241
 refine sq ?_
 refine C_drawn [(0, true), (1, true), (4, true), (5, true), (6, true), (2, false), (3, true), (7, true), (8, true), (9, true), (10, true), (11, true)] (by kernel_rfl) rfl (by kernel_rfl) (by kernel_rfl) ?_
 refine D_q rfl (r_loadbk 0 (vs := [_, _]) rfl T.ag71 T.sz71 rfl rfl rfl) rfl ?_
 refine D_q rfl (r_loadbk 0 (vs := [_, _]) rfl T.ag71 T.sz71 rfl rfl rfl) rfl ?_
 refine dfb 5 T.fo51_5 ?_
 refine dlb 4 T.ag49 ?_
 refine D_q rfl (r_bin rfl rfl (bin_eql _ _ _ _)) rfl ?_
 refine D_f rfl (fun hs242 hc242 => ?_)
 refine S_lit (vs := [_, _]) (cs := [_, _, _, _]) Tryz.underlying113 T.sz71 T.ze71 rfl rfl rfl rfl rfl rfl (fun m243 ad243 le243 l243 => ?_)
 replace hO := rOp_mono _ _ _ _ le243 hO
 replace h90 := h90.mono rI_mono le243
 have h243 : Sl rPair 2 m243 (some ad243) 2 _ := Pairs_lit [(_, _), (_, _)] l243 (pairs_cons (by first | assumption | exact ⟨by omega, by omega⟩) (by first | assumption | exact ⟨by omega, by omega⟩) (pairs_cons (by first | assumption | exact ⟨by omega, by omega⟩) (by first | assumption | exact ⟨by omega, by omega⟩) pairs_nil))
 refine W_leftw hs242 hc242 (le243) (List.Sublist.refl _) ?_
 refine D_quiet rfl (kindrow_q _) T.hb214 rfl rfl ?_
 refine dmv ?_
 refine D_split (t := 66) rfl (fun h244 => ?_) (fun h244 => ?_)
 (try simp only [tt] at h244)
 refine D_qt rfl rfl rfl (r_move rfl) rfl ?_
 refine D_q rfl (r_pick_t rfl rfl) rfl ?_
 refine das ?_
 refine das ?_
 refine D_end ?_
 refine kk2 [2,3] ?_
 refine C_ret (RX_block (RX_then (RX_g2 rfl rfl rfl (takesΦ_mk (h243) ?_))))
 simp [takesP, scalarKs, *]
 (try simp only [tt] at h244)
 refine dps ?_
 refine D_q rfl (r_pick_f rfl rfl) rfl ?_
 refine das ?_
 refine das ?_
 refine D_end ?_
 refine kk2 [2,3] ?_
 refine C_ret (RX_block (RX_then (RX_g2 rfl rfl rfl (takesΦ_mk (h243) ?_))))
 simp [takesP, scalarKs, *]
 refine sq (rg ?_)
 refine be (as_ ?_)
 refine wn (kk11 [1,2,3,4,5,6,7,8,9,27,69] ?_)
 refine cd ?_ ?_ <;> intro h245 <;> try simp only [tt] at h245
 refine sq ?_
 refine C_drawn [(0, true), (1, true), (2, true), (5, true), (6, true), (7, true), (3, false), (4, true), (8, true), (9, true)] (by kernel_rfl) rfl (by kernel_rfl) (by kernel_rfl) ?_
 refine D_q rfl (r_loadbk 2 (vs := [_, _]) rfl T.ag71 T.sz71 rfl rfl rfl) rfl ?_
 refine D_q rfl (r_loadbk 0 (vs := [_, _]) rfl T.ag71 T.sz71 rfl rfl rfl) rfl ?_
 refine D_q rfl (r_loadbk 0 (vs := [_, _]) rfl T.ag71 T.sz71 rfl rfl rfl) rfl ?_
 refine dfb 5 T.fo51_5 ?_
 refine dlb 4 T.ag49 ?_
 refine D_q rfl (r_bin rfl rfl (bin_eql _ _ _ _)) rfl ?_
 refine D_f rfl (fun hs246 hc246 => ?_)
 refine S_lit (vs := [_, _, _]) (cs := [_, _, _, _, _, _]) Tryz.underlying113 T.sz71 T.ze71 rfl rfl rfl rfl rfl rfl (fun m247 ad247 le247 l247 => ?_)
 replace hO := rOp_mono _ _ _ _ le247 hO
 replace h90 := h90.mono rI_mono le247
 have h247 : Sl rPair 2 m247 (some ad247) 3 _ := Pairs_lit [(_, _), (_, _), (_, _)] l247 (pairs_cons (by first | assumption | exact ⟨by omega, by omega⟩) (by first | assumption | exact ⟨by omega, by omega⟩) (pairs_cons (by first | assumption | exact ⟨by omega, by omega⟩) (by first | assumption | exact ⟨by omega, by omega⟩) (pairs_cons (by first | assumption | exact ⟨by omega, by omega⟩) (by first | assumption | exact ⟨by omega, by omega⟩) pairs_nil)))
 refine W_leftw hs246 hc246 (le247) (List.Sublist.refl _) ?_
 refine D_quiet rfl (kindrow_q _) T.hb214 rfl rfl ?_
 refine das ?_
 refine das ?_
 refine D_end ?_
 refine kk2 [2,3] ?_
 refine C_ret (RX_block (RX_then (RX_g2 rfl rfl rfl (takesΦ_mk (h247) ?_))))
 simp [takesP, scalarKs, *]
 refine sq (rg ?_)
 refine be (as_ ?_)
 refine wn (kk11 [1,2,3,4,5,6,7,8,9,27,79] ?_)
 refine cd ?_ ?_ <;> intro h248 <;> try simp only [tt] at h248
 refine sq (rg ?_)
 refine fb 5 T.fo51_5 (lb 4 T.ag49 ?_)
 refine W_q (r_min rfl rfl) rfl ?_
 refine W_q (r_convi Tryz.underlying49 Tryz.underlying3 rfl (i64_of _ ⟨by omega, by omega⟩)) rfl ?_
 refine W_q (r_builda (zs := [_, _]) (cs := [_, _]) Tryz.underlying71 T.sz3 T.ze71 rfl rfl rfl) rfl ?_
 refine S_lit (vs := [_]) (cs := [_, _]) Tryz.underlying113 T.sz71 T.ze71 rfl rfl rfl rfl rfl rfl (fun m249 ad249 le249 l249 => ?_)
 replace hO := rOp_mono _ _ _ _ le249 hO
 replace h90 := h90.mono rI_mono le249
 have h249 : Sl rPair 2 m249 (some ad249) 1 _ := Pairs_lit [(_, _)] l249 (pairs_cons (by first | assumption | exact ⟨by omega, by omega⟩) (by first | assumption | exact ⟨by omega, by omega⟩) pairs_nil)
 refine W_quiet (kindrow_q _) T.hb214 rfl rfl ?_
 refine mv (mv ?_)
 refine sp 89 ?_ ?_ <;> intro h250 <;> try simp only [tt] at h250
 refine tk (fb 5 T.fo51_5 ?_)
 refine tk (lb 4 T.ag49 ?_)
 refine tk (fb 1 T.fo51_1 ?_)
 refine tk (lb 4 T.ag3 ?_)
 refine tk ?_
 refine W_q (r_convi Tryz.underlying3 Tryz.underlying49 rfl (u64_of _ ⟨by omega, by omega⟩)) rfl ?_
 refine tk (bl (pt (mv ?_)))
 refine sp 97 ?_ ?_ <;> intro h251 <;> try simp only [tt] at h251
 refine tk (fb 5 T.fo51_5 ?_)
 refine tk (lb 4 T.ag49 ?_)
 refine tk ?_
 refine W_q (r_convi Tryz.underlying49 Tryz.underlying3 rfl (i64_of _ ⟨by omega, by omega⟩)) rfl ?_
 refine tk ?_
 refine W_quiet (May_q _) T.hb152 rfl rfl ?_
 refine pt (as_ (as_ ?_))
 refine wn (kk2 [2,3] ?_)
 refine C_ret (RX_block (RX_then (RX_g2 rfl rfl rfl (takesΦ_mk (h249) ?_))))
 simp [takesP, scalarKs, *]
 refine ps (ps (ps (ps ?_)))
 refine pf (as_ (as_ ?_))
 refine wn (kk2 [2,3] ?_)
 refine C_ret (RX_block (RX_then (RX_g2 rfl rfl rfl (takesΦ_mk (h249) ?_))))
 simp [takesP, scalarKs, *]
 refine ps (ps (ps (ps (ps (ps ?_)))))
 refine pf (mv ?_)
 refine ps (ps (ps (ps ?_)))
 refine pf (as_ (as_ ?_))
 refine wn (kk2 [2,3] ?_)
 refine C_ret (RX_block (RX_then (RX_g2 rfl rfl rfl (takesΦ_mk (h249) ?_))))
 simp [takesP, scalarKs, *]
 refine sq (rg ?_)
 refine be (as_ ?_)
 refine wn (kk11 [1,2,3,4,5,6,7,8,9,27,103] ?_)
 refine cd ?_ ?_ <;> intro h252 <;> try simp only [tt] at h252
 refine sq (rg ?_)
 refine fb 5 T.fo51_5 (lb 4 T.ag49 ?_)
 refine W_q (r_min rfl rfl) rfl ?_
 refine W_q (r_convi Tryz.underlying49 Tryz.underlying3 rfl (i64_of _ ⟨by omega, by omega⟩)) rfl ?_
 refine W_q (r_builda (zs := [_, _]) (cs := [_, _]) Tryz.underlying71 T.sz3 T.ze71 rfl rfl rfl) rfl ?_
 refine S_lit (vs := [_]) (cs := [_, _]) Tryz.underlying113 T.sz71 T.ze71 rfl rfl rfl rfl rfl rfl (fun m253 ad253 le253 l253 => ?_)
 replace hO := rOp_mono _ _ _ _ le253 hO
 replace h90 := h90.mono rI_mono le253
 have h253 : Sl rPair 2 m253 (some ad253) 1 _ := Pairs_lit [(_, _)] l253 (pairs_cons (by first | assumption | exact ⟨by omega, by omega⟩) (by first | assumption | exact ⟨by omega, by omega⟩) pairs_nil)
 refine W_quiet (kindrow_q _) T.hb214 rfl rfl ?_
 refine mv (mv ?_)
 refine sp 113 ?_ ?_ <;> intro h254 <;> try simp only [tt] at h254
 refine tk (fb 5 T.fo51_5 ?_)
 refine tk (lb 4 T.ag49 ?_)
 refine tk (fb 1 T.fo51_1 ?_)
 refine tk (lb 4 T.ag3 ?_)
 refine tk ?_
 refine W_q (r_convi Tryz.underlying3 Tryz.underlying49 rfl (u64_of _ ⟨by omega, by omega⟩)) rfl ?_
 refine tk (bg (pt (mv ?_)))
 refine sp 121 ?_ ?_ <;> intro h255 <;> try simp only [tt] at h255
 refine tk (fb 5 T.fo51_5 ?_)
 refine tk (lb 4 T.ag49 ?_)
 refine tk (bq (pt (mv ?_)))
 refine sp 126 ?_ ?_ <;> intro h256 <;> try simp only [tt] at h256
 refine tk (fb 5 T.fo51_5 ?_)
 refine tk (lb 4 T.ag49 ?_)
 refine tk ?_
 refine W_q (r_convi Tryz.underlying49 Tryz.underlying3 rfl (i64_of _ ⟨by omega, by omega⟩)) rfl ?_
 refine tk ?_
 refine W_quiet (May_q _) T.hb152 rfl rfl ?_
 refine pt (as_ (as_ ?_))
 refine wn (kk2 [2,3] ?_)
 refine C_ret (RX_block (RX_then (RX_g2 rfl rfl rfl (takesΦ_mk (h253) ?_))))
 simp [takesP, scalarKs, *]
 refine ps (ps (ps (ps ?_)))
 refine pf (as_ (as_ ?_))
 refine wn (kk2 [2,3] ?_)
 refine C_ret (RX_block (RX_then (RX_g2 rfl rfl rfl (takesΦ_mk (h253) ?_))))
 simp [takesP, scalarKs, *]
 refine ps (ps (ps ?_))
 refine pf (mv ?_)
 refine ps (ps (ps (ps ?_)))
 refine pf (as_ (as_ ?_))
 refine wn (kk2 [2,3] ?_)
 refine C_ret (RX_block (RX_then (RX_g2 rfl rfl rfl (takesΦ_mk (h253) ?_))))
 simp [takesP, scalarKs, *]
 refine ps (ps (ps (ps (ps (ps ?_)))))
 refine pf (mv ?_)
 refine ps (ps (ps ?_))
 refine pf (mv ?_)
 refine ps (ps (ps (ps ?_)))
 refine pf (as_ (as_ ?_))
 refine wn (kk2 [2,3] ?_)
 refine C_ret (RX_block (RX_then (RX_g2 rfl rfl rfl (takesΦ_mk (h253) ?_))))
 simp [takesP, scalarKs, *]
 refine sq (rg ?_)
 refine be (as_ ?_)
 refine wn (kk11 [1,2,3,4,5,6,7,8,9,27,132] ?_)
 refine cd ?_ ?_ <;> intro h257 <;> try simp only [tt] at h257
 refine sq ?_
 refine C_drawn [(0, true), (3, true), (4, true), (5, true), (1, false), (2, true), (6, true), (7, true), (8, true), (9, true), (10, true)] (by kernel_rfl) rfl (by kernel_rfl) (by kernel_rfl) ?_
 refine D_q rfl (r_loadbk 3 (vs := [_, _]) rfl T.ag71 T.sz71 rfl rfl rfl) rfl ?_
 refine dfb 5 T.fo51_5 ?_
 refine dlb 4 T.ag49 ?_
 refine D_q rfl (r_bin rfl rfl (bin_eql _ _ _ _)) rfl ?_
 refine D_f rfl (fun hs258 hc258 => ?_)
 refine S_lit (vs := [_]) (cs := [_, _]) Tryz.underlying113 T.sz71 T.ze71 rfl rfl rfl rfl rfl rfl (fun m259 ad259 le259 l259 => ?_)
 replace hO := rOp_mono _ _ _ _ le259 hO
 replace h90 := h90.mono rI_mono le259
 have h259 : Sl rPair 2 m259 (some ad259) 1 _ := Pairs_lit [(_, _)] l259 (pairs_cons (by first | assumption | exact ⟨by omega, by omega⟩) (by first | assumption | exact ⟨by omega, by omega⟩) pairs_nil)
 refine W_leftw hs258 hc258 (le259) (List.Sublist.refl _) ?_
 refine D_quiet rfl (kindrow_q _) T.hb214 rfl rfl ?_
 refine dmv ?_
 refine D_split (t := 140) rfl (fun h260 => ?_) (fun h260 => ?_)
 (try simp only [tt] at h260)
 refine D_qt rfl rfl rfl (r_move rfl) rfl ?_
 refine D_q rfl (r_pick_t rfl rfl) rfl ?_
 refine das ?_
 refine das ?_
 refine D_end ?_
 refine kk2 [2,3] ?_
 refine C_ret (RX_block (RX_then (RX_g2 rfl rfl rfl (takesΦ_mk (h259) ?_))))
 simp [takesP, scalarKs, *]
 (try simp only [tt] at h260)
 refine dps ?_
 refine D_q rfl (r_pick_f rfl rfl) rfl ?_
 refine das ?_
 refine das ?_
 refine D_end ?_
 refine kk2 [2,3] ?_
 refine C_ret (RX_block (RX_then (RX_g2 rfl rfl rfl (takesΦ_mk (h259) ?_))))
 simp [takesP, scalarKs, *]
 refine sq (rg ?_)
 refine be (as_ ?_)
 refine wn (kk11 [1,2,3,4,5,6,7,8,9,27,143] ?_)
 refine cd ?_ ?_ <;> intro h261 <;> try simp only [tt] at h261
 refine sq ?_
 refine C_drawn [(0, true), (1, true), (4, true), (5, true), (6, true), (2, false), (3, true), (7, true), (8, true), (9, true), (10, true), (11, true)] (by kernel_rfl) rfl (by kernel_rfl) (by kernel_rfl) ?_
 refine D_q rfl (r_loadbk 3 (vs := [_, _]) rfl T.ag71 T.sz71 rfl rfl rfl) rfl ?_
 refine D_q rfl (r_loadbk 0 (vs := [_, _]) rfl T.ag71 T.sz71 rfl rfl rfl) rfl ?_
 refine dfb 5 T.fo51_5 ?_
 refine dlb 4 T.ag49 ?_
 refine D_q rfl (r_bin rfl rfl (bin_eql _ _ _ _)) rfl ?_
 refine D_f rfl (fun hs262 hc262 => ?_)
 refine S_lit (vs := [_, _]) (cs := [_, _, _, _]) Tryz.underlying113 T.sz71 T.ze71 rfl rfl rfl rfl rfl rfl (fun m263 ad263 le263 l263 => ?_)
 replace hO := rOp_mono _ _ _ _ le263 hO
 replace h90 := h90.mono rI_mono le263
 have h263 : Sl rPair 2 m263 (some ad263) 2 _ := Pairs_lit [(_, _), (_, _)] l263 (pairs_cons (by first | assumption | exact ⟨by omega, by omega⟩) (by first | assumption | exact ⟨by omega, by omega⟩) (pairs_cons (by first | assumption | exact ⟨by omega, by omega⟩) (by first | assumption | exact ⟨by omega, by omega⟩) pairs_nil))
 refine W_leftw hs262 hc262 (le263) (List.Sublist.refl _) ?_
 refine D_quiet rfl (kindrow_q _) T.hb214 rfl rfl ?_
 refine dmv ?_
 refine D_split (t := 152) rfl (fun h264 => ?_) (fun h264 => ?_)
 (try simp only [tt] at h264)
 refine D_qt rfl rfl rfl (r_move rfl) rfl ?_
 refine D_q rfl (r_pick_t rfl rfl) rfl ?_
 refine das ?_
 refine das ?_
 refine D_end ?_
 refine kk2 [2,3] ?_
 refine C_ret (RX_block (RX_then (RX_g2 rfl rfl rfl (takesΦ_mk (h263) ?_))))
 simp [takesP, scalarKs, *]
 (try simp only [tt] at h264)
 refine dps ?_
 refine D_q rfl (r_pick_f rfl rfl) rfl ?_
 refine das ?_
 refine das ?_
 refine D_end ?_
 refine kk2 [2,3] ?_
 refine C_ret (RX_block (RX_then (RX_g2 rfl rfl rfl (takesΦ_mk (h263) ?_))))
 simp [takesP, scalarKs, *]
 refine sq (sq (rg ?_))
 refine be (as_ ?_)
 refine wn (kk11 [1,2,3,4,5,6,7,8,9,27,155] ?_)
 refine cd ?_ ?_ <;> intro h265 <;> try simp only [tt] at h265
 refine sk (kk11 [1,2,3,4,5,6,7,8,9,27,155] ?_)
 refine ctz (sq ?_)
 refine C_drawn [(0, true), (1, true), (2, true), (5, true), (6, true), (7, true), (3, false), (4, true), (8, true), (9, true), (10, true), (11, true), (12, true), (13, true), (14, true), (15, true)] (by kernel_rfl) rfl (by kernel_rfl) (by kernel_rfl) ?_
 refine D_q rfl (r_loadbk 2 (vs := [_, _]) rfl T.ag71 T.sz71 rfl rfl rfl) rfl ?_
 refine D_q rfl (r_loadbk 3 (vs := [_, _]) rfl T.ag71 T.sz71 rfl rfl rfl) rfl ?_
 refine D_q rfl (r_loadbk 0 (vs := [_, _]) rfl T.ag71 T.sz71 rfl rfl rfl) rfl ?_
 refine dfb 5 T.fo51_5 ?_
 refine dlb 4 T.ag49 ?_
 refine D_q rfl (r_bin rfl rfl (bin_eql _ _ _ _)) rfl ?_
 refine D_f rfl (fun hs266 hc266 => ?_)
 refine S_lit (vs := [_, _, _]) (cs := [_, _, _, _, _, _]) Tryz.underlying113 T.sz71 T.ze71 rfl rfl rfl rfl rfl rfl (fun m267 ad267 le267 l267 => ?_)
 replace hO := rOp_mono _ _ _ _ le267 hO
 replace h90 := h90.mono rI_mono le267
 have h267 : Sl rPair 2 m267 (some ad267) 3 _ := Pairs_lit [(_, _), (_, _), (_, _)] l267 (pairs_cons (by first | assumption | exact ⟨by omega, by omega⟩) (by first | assumption | exact ⟨by omega, by omega⟩) (pairs_cons (by first | assumption | exact ⟨by omega, by omega⟩) (by first | assumption | exact ⟨by omega, by omega⟩) (pairs_cons (by first | assumption | exact ⟨by omega, by omega⟩) (by first | assumption | exact ⟨by omega, by omega⟩) pairs_nil)))
 refine W_leftw hs266 hc266 (le267) (List.Sublist.refl _) ?_
 refine D_quiet rfl (kindrow_q _) T.hb214 rfl rfl ?_
 refine dmv ?_
 refine D_split (t := 166) rfl (fun h268 => ?_) (fun h268 => ?_)
 (try simp only [tt] at h268)
 refine D_qt rfl rfl rfl (r_move rfl) rfl ?_
 refine D_q rfl (r_pick_t rfl rfl) rfl ?_
 refine dmv ?_
 refine D_split (t := 169) rfl (fun h269 => ?_) (fun h269 => ?_)
 (try simp only [tt] at h269)
 refine D_qt rfl rfl rfl (r_move rfl) rfl ?_
 refine D_q rfl (r_pick_t rfl rfl) rfl ?_
 refine das ?_
 refine das ?_
 refine D_end ?_
 refine kk2 [2,3] ?_
 refine C_ret (RX_block (RX_then (RX_g2 rfl rfl rfl (takesΦ_mk (h267) ?_))))
 simp [takesP, scalarKs, *]
 (try simp only [tt] at h269)
 refine dps ?_
 refine D_q rfl (r_pick_f rfl rfl) rfl ?_
 refine das ?_
 refine das ?_
 refine D_end ?_
 refine kk2 [2,3] ?_
 refine C_ret (RX_block (RX_then (RX_g2 rfl rfl rfl (takesΦ_mk (h267) ?_))))
 simp [takesP, scalarKs, *]
 (try simp only [tt] at h268)
 refine dps ?_
 refine D_q rfl (r_pick_f rfl rfl) rfl ?_
 refine dmv ?_
 refine dps ?_
 refine D_q rfl (r_pick_f rfl rfl) rfl ?_
 refine das ?_
 refine das ?_
 refine D_end ?_
 refine kk2 [2,3] ?_
 refine C_ret (RX_block (RX_then (RX_g2 rfl rfl rfl (takesΦ_mk (h267) ?_))))
 simp [takesP, scalarKs, *]
 refine rg ?_
 refine be (as_ ?_)
 refine wn (kk11 [1,2,3,4,5,6,7,8,9,27,155] ?_)
 refine cd ?_ ?_ <;> intro h270 <;> try simp only [tt] at h270
 refine sq ?_
 refine C_drawn [(0, true), (1, true), (2, true), (5, true), (6, true), (7, true), (3, false), (4, true), (8, true), (9, true), (10, true), (11, true), (12, true), (13, true), (14, true), (15, true)] (by kernel_rfl) rfl (by kernel_rfl) (by kernel_rfl) ?_
 refine D_q rfl (r_loadbk 2 (vs := [_, _]) rfl T.ag71 T.sz71 rfl rfl rfl) rfl ?_
 refine D_q rfl (r_loadbk 3 (vs := [_, _]) rfl T.ag71 T.sz71 rfl rfl rfl) rfl ?_
 refine D_q rfl (r_loadbk 0 (vs := [_, _]) rfl T.ag71 T.sz71 rfl rfl rfl) rfl ?_
 refine dfb 5 T.fo51_5 ?_
 refine dlb 4 T.ag49 ?_
 refine D_q rfl (r_bin rfl rfl (bin_eql _ _ _ _)) rfl ?_
 refine D_f rfl (fun hs271 hc271 => ?_)
 refine S_lit (vs := [_, _, _]) (cs := [_, _, _, _, _, _]) Tryz.underlying113 T.sz71 T.ze71 rfl rfl rfl rfl rfl rfl (fun m272 ad272 le272 l272 => ?_)
 replace hO := rOp_mono _ _ _ _ le272 hO
 replace h90 := h90.mono rI_mono le272
 have h272 : Sl rPair 2 m272 (some ad272) 3 _ := Pairs_lit [(_, _), (_, _), (_, _)] l272 (pairs_cons (by first | assumption | exact ⟨by omega, by omega⟩) (by first | assumption | exact ⟨by omega, by omega⟩) (pairs_cons (by first | assumption | exact ⟨by omega, by omega⟩) (by first | assumption | exact ⟨by omega, by omega⟩) (pairs_cons (by first | assumption | exact ⟨by omega, by omega⟩) (by first | assumption | exact ⟨by omega, by omega⟩) pairs_nil)))
 refine W_leftw hs271 hc271 (le272) (List.Sublist.refl _) ?_
 refine D_quiet rfl (kindrow_q _) T.hb214 rfl rfl ?_
 refine dmv ?_
 refine D_split (t := 166) rfl (fun h273 => ?_) (fun h273 => ?_)
 (try simp only [tt] at h273)
 refine D_qt rfl rfl rfl (r_move rfl) rfl ?_
 refine D_q rfl (r_pick_t rfl rfl) rfl ?_
 refine dmv ?_
 refine D_split (t := 169) rfl (fun h274 => ?_) (fun h274 => ?_)
 (try simp only [tt] at h274)
 refine D_qt rfl rfl rfl (r_move rfl) rfl ?_
 refine D_q rfl (r_pick_t rfl rfl) rfl ?_
 refine das ?_
 refine das ?_
 refine D_end ?_
 refine kk2 [2,3] ?_
 refine C_ret (RX_block (RX_then (RX_g2 rfl rfl rfl (takesΦ_mk (h272) ?_))))
 simp [takesP, scalarKs, *]
 (try simp only [tt] at h274)
 refine dps ?_
 refine D_q rfl (r_pick_f rfl rfl) rfl ?_
 refine das ?_
 refine das ?_
 refine D_end ?_
 refine kk2 [2,3] ?_
 refine C_ret (RX_block (RX_then (RX_g2 rfl rfl rfl (takesΦ_mk (h272) ?_))))
 simp [takesP, scalarKs, *]
 (try simp only [tt] at h273)
 refine dps ?_
 refine D_q rfl (r_pick_f rfl rfl) rfl ?_
 refine dmv ?_
 refine dps ?_
 refine D_q rfl (r_pick_f rfl rfl) rfl ?_
 refine das ?_
 refine das ?_
 refine D_end ?_
 refine kk2 [2,3] ?_
 refine C_ret (RX_block (RX_then (RX_g2 rfl rfl rfl (takesΦ_mk (h272) ?_))))
 simp [takesP, scalarKs, *]
 refine sq (rg ?_)
 refine be (as_ ?_)
 refine wn (kk9 [1,2,3,4,5,6,8,27,172] ?_)
 refine cd ?_ ?_ <;> intro h275 <;> try simp only [tt] at h275
 refine sq ?_
 refine C_drawn [(0, true), (1, true), (2, true), (3, true), (6, true), (7, true), (8, true), (4, false), (5, true), (9, true), (10, true), (11, true), (12, true), (13, true)] (by kernel_rfl) rfl (by kernel_rfl) (by kernel_rfl) ?_
 refine D_q rfl (r_loadbk 2 (vs := [_, _]) rfl T.ag71 T.sz71 rfl rfl rfl) rfl ?_
 refine D_q rfl (r_loadbk 0 (vs := [_, _]) rfl T.ag71 T.sz71 rfl rfl rfl) rfl ?_
 refine D_q rfl (r_loadbk 0 (vs := [_, _]) rfl T.ag71 T.sz71 rfl rfl rfl) rfl ?_
 refine D_q rfl (r_loadbk 0 (vs := [_, _]) rfl T.ag71 T.sz71 rfl rfl rfl) rfl ?_
 refine dfb 5 T.fo51_5 ?_
 refine dlb 4 T.ag49 ?_
 refine D_q rfl (r_bin rfl rfl (bin_eql _ _ _ _)) rfl ?_
 refine D_f rfl (fun hs276 hc276 => ?_)
 refine S_lit (vs := [_, _, _, _]) (cs := [_, _, _, _, _, _, _, _]) Tryz.underlying113 T.sz71 T.ze71 rfl rfl rfl rfl rfl rfl (fun m277 ad277 le277 l277 => ?_)
 replace hO := rOp_mono _ _ _ _ le277 hO
 replace h90 := h90.mono rI_mono le277
 have h277 : Sl rPair 2 m277 (some ad277) 4 _ := Pairs_lit [(_, _), (_, _), (_, _), (_, _)] l277 (pairs_cons (by first | assumption | exact ⟨by omega, by omega⟩) (by first | assumption | exact ⟨by omega, by omega⟩) (pairs_cons (by first | assumption | exact ⟨by omega, by omega⟩) (by first | assumption | exact ⟨by omega, by omega⟩) (pairs_cons (by first | assumption | exact ⟨by omega, by omega⟩) (by first | assumption | exact ⟨by omega, by omega⟩) (pairs_cons (by first | assumption | exact ⟨by omega, by omega⟩) (by first | assumption | exact ⟨by omega, by omega⟩) pairs_nil))))
 refine W_leftw hs276 hc276 (le277) (List.Sublist.refl _) ?_
 refine D_quiet rfl (kindrow_q _) T.hb214 rfl rfl ?_
 refine dmv ?_
 refine D_split (t := 183) rfl (fun h278 => ?_) (fun h278 => ?_)
 (try simp only [tt] at h278)
 refine D_qt rfl rfl rfl (r_move rfl) rfl ?_
 refine D_q rfl (r_pick_t rfl rfl) rfl ?_
 refine das ?_
 refine das ?_
 refine D_end ?_
 refine kk2 [2,3] ?_
 refine C_ret (RX_block (RX_then (RX_g2 rfl rfl rfl (takesΦ_mk (h277) ?_))))
 simp [takesP, scalarKs, *]
 (try simp only [tt] at h278)
 refine dps ?_
 refine D_q rfl (r_pick_f rfl rfl) rfl ?_
 refine das ?_
 refine das ?_
 refine D_end ?_
 refine kk2 [2,3] ?_
 refine C_ret (RX_block (RX_then (RX_g2 rfl rfl rfl (takesΦ_mk (h277) ?_))))
 simp [takesP, scalarKs, *]
 refine sq (rg ?_)
 refine be (as_ ?_)
 refine wn (kk8 [1,2,3,4,5,8,27,186] ?_)
 refine cd ?_ ?_ <;> intro h279 <;> try simp only [tt] at h279
 refine sq ?_
 refine C_drawn [(0, true), (3, true), (4, true), (6, true), (7, true), (8, true), (1, false), (2, true), (5, false), (9, true), (10, true), (11, true), (12, true), (13, true), (14, true)] (by kernel_rfl) rfl (by kernel_rfl) (by kernel_rfl) ?_
 refine D_q rfl (r_loadbk 1 (vs := [_, _]) rfl T.ag71 T.sz71 rfl rfl rfl) rfl ?_
 refine dfb 2 T.fo51_2 ?_
 refine dlb 4 T.ag3 ?_
 refine dfb 5 T.fo51_5 ?_
 refine dlb 4 T.ag49 ?_
 refine D_q rfl (r_bin rfl rfl (bin_eql _ _ _ _)) rfl ?_
 refine D_f rfl (fun hs280 hc280 => ?_)
 refine S_lit (vs := [_]) (cs := [_, _]) Tryz.underlying113 T.sz71 T.ze71 rfl rfl rfl rfl rfl rfl (fun m281 ad281 le281 l281 => ?_)
 replace hO := rOp_mono _ _ _ _ le281 hO
 replace h90 := h90.mono rI_mono le281
 have h281 : Sl rPair 2 m281 (some ad281) 1 _ := Pairs_lit [(_, _)] l281 (pairs_cons (by first | assumption | exact ⟨by omega, by omega⟩) (by first | assumption | exact ⟨by omega, by omega⟩) pairs_nil)
 refine W_leftw hs280 hc280 (le281) (List.Sublist.refl _) ?_
 refine D_quiet rfl (kindrow_q _) T.hb214 rfl rfl ?_
 refine D_f rfl (fun hs282 hc282 => ?_)
 refine S_gives (RepeatP_g h281 (k := o.lanes.toNat) (by omega) (by omega) (by omega)) T.hb215 rfl rfl (fun m283 v283 le283 hv283 => ?_)
 replace hO := rOp_mono _ _ _ _ le283 hO
 replace h90 := h90.mono rI_mono le283
 replace h281 := h281.mono rPair_mono le283
 obtain ⟨ad283, rfl, h283⟩ := hv283
 refine W_leftw hs282 hc282 (Imm.le_trans (le281) le283) (List.Sublist.refl _) ?_
 refine dmv ?_
 refine D_split (t := 197) rfl (fun h284 => ?_) (fun h284 => ?_)
 (try simp only [tt] at h284)
 refine D_qt rfl rfl rfl (r_move rfl) rfl ?_
 refine D_qt rfl rfl rfl (r_not rfl) rfl ?_
 refine D_q rfl (r_pick_t rfl rfl) rfl ?_
 refine das ?_
 refine das ?_
 refine D_end ?_
 refine kk2 [2,3] ?_
 refine C_ret (RX_block (RX_then (RX_g2 rfl rfl rfl (takesΦ_mk (h283) ?_))))
 simp [takesP, scalarKs, *]
 (try simp only [tt] at h284)
 refine dps ?_
 refine dps ?_
 refine D_q rfl (r_pick_f rfl rfl) rfl ?_
 refine das ?_
 refine das ?_
 refine D_end ?_
 refine kk2 [2,3] ?_
 refine C_ret (RX_block (RX_then (RX_g2 rfl rfl rfl (takesΦ_mk (h283) ?_))))
 simp [takesP, scalarKs, *]
 refine sq (rg ?_)
 refine be (as_ ?_)
 refine wn (kk6 [1,2,3,4,8,201] ?_)
 refine cd ?_ ?_ <;> intro h285 <;> try simp only [tt] at h285
 refine sq ?_
 refine C_drawn [(0, true), (3, true), (4, true), (1, false), (2, true), (5, true), (6, true), (7, true), (8, true), (9, true), (10, true), (11, true), (12, true), (13, true), (14, true)] (by kernel_rfl) rfl (by kernel_rfl) (by kernel_rfl) ?_
 refine D_q rfl (r_loadbk 0 (vs := [_, _]) rfl T.ag71 T.sz71 rfl rfl rfl) rfl ?_
 refine dmv ?_
 refine D_q rfl (r_not rfl) rfl ?_
 refine D_f rfl (fun hs286 hc286 => ?_)
 refine S_lit (vs := [_]) (cs := [_, _]) Tryz.underlying113 T.sz71 T.ze71 rfl rfl rfl rfl rfl rfl (fun m287 ad287 le287 l287 => ?_)
 replace hO := rOp_mono _ _ _ _ le287 hO
 replace h90 := h90.mono rI_mono le287
 have h287 : Sl rPair 2 m287 (some ad287) 1 _ := Pairs_lit [(_, _)] l287 (pairs_cons (by first | assumption | exact ⟨by omega, by omega⟩) (by first | assumption | exact ⟨by omega, by omega⟩) pairs_nil)
 refine W_leftw hs286 hc286 (le287) (List.Sublist.refl _) ?_
 refine D_quiet rfl (kindrow_q _) T.hb214 rfl rfl ?_
 refine dmv ?_
 refine D_split (t := 208) rfl (fun h288 => ?_) (fun h288 => ?_)
 (try simp only [tt] at h288)
 refine D_qt rfl rfl rfl (r_fieldb (o' := 5) rfl T.fo51_5 rfl) rfl ?_
 refine D_qt rfl rfl rfl (r_loadb 4 rfl T.ag49 rfl rfl) rfl ?_
 refine D_qt rfl rfl rfl (r_fieldb (o' := 2) rfl T.fo51_2 rfl) rfl ?_
 refine D_qt rfl rfl rfl (r_loadb 4 rfl T.ag3 rfl rfl) rfl ?_
 refine D_qt rfl rfl rfl (r_convi Tryz.underlying3 Tryz.underlying49 rfl (u64_of _ ⟨by omega, by omega⟩)) rfl ?_
 refine D_qt rfl rfl rfl (r_bin rfl rfl (bin_lss _ _ _ _)) rfl ?_
 refine D_q rfl (r_pick_t rfl rfl) rfl ?_
 refine das ?_
 refine das ?_
 refine D_end ?_
 refine kk2 [2,3] ?_
 refine C_ret (RX_block (RX_then (RX_g2 rfl rfl rfl (takesΦ_mk (h287) ?_))))
 simp [takesP, scalarKs, *]
 (try simp only [tt] at h288)
 refine dps ?_
 refine dps ?_
 refine dps ?_
 refine dps ?_
 refine dps ?_
 refine dps ?_
 refine D_q rfl (r_pick_f rfl rfl) rfl ?_
 refine das ?_
 refine das ?_
 refine D_end ?_
 refine kk2 [2,3] ?_
 refine C_ret (RX_block (RX_then (RX_g2 rfl rfl rfl (takesΦ_mk (h287) ?_))))
 simp [takesP, scalarKs, *]
 refine sk (nb (kk2 [2,3] (sq (rg ?_))))
 refine as_ (as_ ?_)
 refine wn (kk2 [2,3] ?_)
 refine C_ret (RX_g2 rfl rfl rfl (takesΦ_mk (Sl.nil _ _ _) ?_))
 simp [takesP, scalarKs, *]
namespace T
theorem hb190 : hasBody Tryz.prog 190 = true := by kernel_rfl
theorem hb191 : hasBody Tryz.prog 191 = true := by kernel_rfl
theorem hb205 : hasBody Tryz.prog 205 = true := by kernel_rfl
theorem hb206 : hasBody Tryz.prog 206 = true := by kernel_rfl
theorem hb207 : hasBody Tryz.prog 207 = true := by kernel_rfl
theorem hb208 : hasBody Tryz.prog 208 = true := by kernel_rfl
end T
theorem KMay1_q {m : Imm} (v : Int) : Quiet Tryz.prog 208 [.int .i64 v] m (.bool (!(valueB v))) := by
 refine quiet_of Tryz.func208 rfl Tryz.ntmps208 rfl (fun w => ?_)
 refine sq (rg ?_)
 refine as_ ?_
 refine wn (kk2 [0,2] (sq (rg ?_)))
 refine mv ?_
 refine W_quiet (value_q _) T.hb207 rfl rfl ?_
 refine nt (as_ ?_)
 refine wn (kk1 [2] ?_)
 refine C_ret (RX_q1 rfl rfl ?_)
 rfl
theorem KMay_q {m : Imm} {es : List Value} {o : FOp} (hO : rOp m es o) : Quiet Tryz.prog 190 [.agg es.toArray] m (.bool (mayOpK o)) := by
 have hO_0 := hO
 obtain ⟨A90, c90, rfl, h90, i90a, i90b, i90c, i90d, i90e⟩ := hO_0
 refine quiet_of Tryz.func190 rfl Tryz.ntmps190 rfl (fun w => ?_)
 refine sq (rg ?_)
 refine S_box (l := [_, _, _, _, _, _]) rfl rfl rfl (fun b1 => ?_)
 refine as_ ?_
 refine wn (kk2 [1,2] (sq (sq (rg ?_))))
 refine fb 1 T.fo51_1 (lb 0 T.ag3 (fb 2 T.fo51_2 (lb 0 T.ag3 ?_)))
 refine W_quiet (Shape_q _ _) T.hb205 rfl rfl ?_
 refine nt ?_
 refine wn (kk3 [1,2,11] ?_)
 refine cd ?_ ?_ <;> intro h2 <;> try simp only [tt] at h2
 refine sq (rg ?_)
 refine as_ ?_
 refine wn (kk2 [1,2] ?_)
 refine C_ret (RX_then (RX_q1 rfl rfl ?_))
 simp_all [mayOpK]
 refine sk (kk2 [1,2] (sq (rg ?_)))
 refine W_q (r_loadbk 0 (vs := [_, _, _, _, _, _]) rfl T.ag51 T.sz51 rfl rfl rfl) rfl ?_
 refine S_gives (takes_g hO h2) T.hb206 rfl rfl (fun m3 v3 le3 hv3 => ?_)
 replace hO := rOp_mono _ _ _ _ le3 hO
 replace h90 := h90.mono rI_mono le3
 obtain ⟨A3, c3, rfl, h3⟩ := hv3
 refine mv ?_
 refine W_q (r_extract rfl rfl) rfl ?_
 refine W_q (r_extract rfl rfl) rfl ?_
 refine as_ (as_ ?_)
 refine wn (kk4 [1,2,3,4] (sq (rg ?_)))
 refine fb 3 T.fo51_3 (lb 0 T.ag3 ?_)
 refine W_quiet (value_q _) T.hb207 rfl rfl ?_
 refine as_ ?_
 refine wn (kk5 [1,2,3,4,5] (sq (sq (rg ?_))))
 refine fb 0 T.fo51_0 (lb 0 T.ag3 ?_)
 refine W_quiet (stores_q _) T.hb191 rfl rfl ?_
 refine wn (kk6 [1,2,3,4,5,22] ?_)
 refine cd ?_ ?_ <;> intro h4 <;> try simp only [tt] at h4
 refine rg ?_
 refine fb 3 T.fo51_3 (lb 0 T.ag3 (be (as_ ?_)))
 refine wn (kk5 [1,2,3,4,5] (sq (rg ?_)))
 refine mv (mv ?_)
 refine sp 27 ?_ ?_ <;> intro h5 <;> try simp only [tt] at h5
 refine tk (mv (pt (mv ?_)))
 refine sp 30 ?_ ?_ <;> intro h6 <;> try simp only [tt] at h6
 refine tk (mv ?_)
 refine tk (ln Tryz.underlying113 ?_)
 refine tk (fb 4 T.fo51_4 ?_)
 refine tk (lb 0 T.ag22 ?_)
 refine tk (ln Tryz.underlying22 ?_)
 refine tk (be (pt (mv ?_)))
 refine sp 38 ?_ ?_ <;> intro h7 <;> try simp only [tt] at h7
 refine tk (fb 4 T.fo51_4 ?_)
 refine tk (lb 0 T.ag22 ?_)
 refine tk ?_
 refine W_quiet (ContainsFuncI_q h90 (p := fun v => !(valueB v)) (K := 208) T.hb208 (fun z _ => KMay1_q z)) T.hb86 rfl rfl ?_
 refine tk (nt (pt (as_ ?_)))
 refine wn (kk1 [2] ?_)
 refine C_ret (RX_q1 rfl rfl ?_)
 simp_all [mayOpK]
 refine ps (ps (ps (ps ?_)))
 refine pf (as_ ?_)
 refine wn (kk1 [2] ?_)
 refine C_ret (RX_q1 rfl rfl ?_)
 simp_all [mayOpK]
 refine ps (ps (ps (ps (ps (ps ?_)))))
 refine pf (mv ?_)
 refine ps (ps (ps (ps ?_)))
 refine pf (as_ ?_)
 refine wn (kk1 [2] ?_)
 refine C_ret (RX_q1 rfl rfl ?_)
 simp_all [mayOpK]
 refine ps ?_
 refine pf (mv ?_)
 refine ps (ps (ps (ps (ps (ps ?_)))))
 refine pf (mv ?_)
 refine ps (ps (ps (ps ?_)))
 refine pf (as_ ?_)
 refine wn (kk1 [2] ?_)
 refine C_ret (RX_q1 rfl rfl ?_)
 simp_all [mayOpK]
 refine sk (kk5 [1,2,3,4,5] (sq (rg ?_)))
 refine mv (mv ?_)
 refine sp 27 ?_ ?_ <;> intro h8 <;> try simp only [tt] at h8
 refine tk (mv (pt (mv ?_)))
 refine sp 30 ?_ ?_ <;> intro h9 <;> try simp only [tt] at h9
 refine tk (mv ?_)
 refine tk (ln Tryz.underlying113 ?_)
 refine tk (fb 4 T.fo51_4 ?_)
 refine tk (lb 0 T.ag22 ?_)
 refine tk (ln Tryz.underlying22 ?_)
 refine tk (be (pt (mv ?_)))
 refine sp 38 ?_ ?_ <;> intro h10 <;> try simp only [tt] at h10
 refine tk (fb 4 T.fo51_4 ?_)
 refine tk (lb 0 T.ag22 ?_)
 refine tk ?_
 refine W_quiet (ContainsFuncI_q h90 (p := fun v => !(valueB v)) (K := 208) T.hb208 (fun z _ => KMay1_q z)) T.hb86 rfl rfl ?_
 refine tk (nt (pt (as_ ?_)))
 refine wn (kk1 [2] ?_)
 refine C_ret (RX_q1 rfl rfl ?_)
 simp_all [mayOpK]
 refine ps (ps (ps (ps ?_)))
 refine pf (as_ ?_)
 refine wn (kk1 [2] ?_)
 refine C_ret (RX_q1 rfl rfl ?_)
 simp_all [mayOpK]
 refine ps (ps (ps (ps (ps (ps ?_)))))
 refine pf (mv ?_)
 refine ps (ps (ps (ps ?_)))
 refine pf (as_ ?_)
 refine wn (kk1 [2] ?_)
 refine C_ret (RX_q1 rfl rfl ?_)
 simp_all [mayOpK]
 refine ps ?_
 refine pf (mv ?_)
 refine ps (ps (ps (ps (ps (ps ?_)))))
 refine pf (mv ?_)
 refine ps (ps (ps (ps ?_)))
 refine pf (as_ ?_)
 refine wn (kk1 [2] ?_)
 refine C_ret (RX_q1 rfl rfl ?_)
 simp_all [mayOpK]
theorem Takes_g {m : Imm} {es : List Value} {o : FOp} (hO : rOp m es o) : Gives Tryz.prog 192 [.agg es.toArray] m (PairsΦ (takesK o)) := by
 have hO_0 := hO
 obtain ⟨A90, c90, rfl, h90, i90a, i90b, i90c, i90d, i90e⟩ := hO_0
 refine gives_of Tryz.func192 rfl Tryz.ntmps192 rfl (fun w => ?_)
 refine sq (rg ?_)
 refine S_box (l := [_, _, _, _, _, _]) rfl rfl rfl (fun b1 => ?_)
 refine as_ ?_
 refine wn (kk2 [1,2] (sq (sq (rg ?_))))
 refine W_q (r_loadbk 0 (vs := [_, _, _, _, _, _]) rfl T.ag51 T.sz51 rfl rfl rfl) rfl ?_
 refine W_quiet (KMay_q hO) T.hb190 rfl rfl ?_
 refine nt ?_
 refine wn (kk3 [1,2,7] ?_)
 refine cd ?_ ?_ <;> intro h2 <;> try simp only [tt] at h2
 refine sq (rg ?_)
 refine as_ ?_
 refine wn (kk2 [1,2] ?_)
 refine C_ret (RX_then (RX_g1 rfl rfl (takesK_mk (Sl.nil _ _ _) ?_)))
 simp_all [takesK]
 refine sk (kk2 [1,2] (sq (rg ?_)))
 refine W_q (r_loadbk 0 (vs := [_, _, _, _, _, _]) rfl T.ag51 T.sz51 rfl rfl rfl) rfl ?_
 refine S_gives (takes_g hO (mayOpK_shape h2)) T.hb206 rfl rfl (fun m3 v3 le3 hv3 => ?_)
 replace hO := rOp_mono _ _ _ _ le3 hO
 replace h90 := h90.mono rI_mono le3
 obtain ⟨A3, c3, rfl, h3⟩ := hv3
 refine mv ?_
 refine W_q (r_extract rfl rfl) rfl ?_
 refine W_q (r_extract rfl rfl) rfl ?_
 refine as_ (as_ ?_)
 refine wn (kk2 [2,3] (sq (rg ?_)))
 refine mv (as_ ?_)
 refine wn (kk1 [2] ?_)
 refine C_ret (RX_g1 rfl rfl (takesK_mk h3 ?_))
 simp_all [takesK]
theorem Gives_q {m : Imm} {es : List Value} {o : FOp} (hO : rOp m es o) : Quiet Tryz.prog 161 [.agg es.toArray] m (.tuple #[.int .i64 (givesP o).1, .int .i64 (givesP o).2]) := by
 have hO_0 := hO
 obtain ⟨A90, c90, rfl, h90, i90a, i90b, i90c, i90d, i90e⟩ := hO_0
 refine quiet_of Tryz.func161 rfl Tryz.ntmps161 rfl (fun w => ?_)
 refine sq (rg ?_)
 refine S_box (l := [_, _, _, _, _, _]) rfl rfl rfl (fun b1 => ?_)
 refine as_ (as_ ?_)
 refine wn (kk3 [1,2,3] (sq (bk (sq (rg ?_)))))
 refine W_q (r_loadbk 0 (vs := [_, _, _, _, _, _]) rfl T.ag51 T.sz51 rfl rfl rfl) rfl ?_
 refine W_quiet (KMay_q hO) T.hb190 rfl rfl ?_
 refine nt (mv ?_)
 refine sp 8 ?_ ?_ <;> intro h2 <;> try simp only [tt] at h2
 refine ps (ps (ps ?_))
 refine pt (as_ ?_)
 refine wn (kk4 [1,2,3,4] ?_)
 refine ctz (sq (rg ?_))
 refine as_ (as_ ?_)
 refine wn (kk3 [1,2,3] ?_)
 refine C_ret (RX_block (RX_then (RX_q2 rfl rfl rfl ?_ ?_)))
 simp_all [givesP]
 simp_all [givesP]
 refine tk (fb 0 T.fo51_0 ?_)
 refine tk (lb 0 T.ag3 ?_)
 refine tk ?_
 refine W_quiet (stores_q _) T.hb191 rfl rfl ?_
 refine pf (as_ ?_)
 refine wn (kk4 [1,2,3,4] ?_)
 refine cd ?_ ?_ <;> intro h3 <;> try simp only [tt] at h3
 refine sq (rg ?_)
 refine as_ (as_ ?_)
 refine wn (kk3 [1,2,3] ?_)
 refine C_ret (RX_block (RX_then (RX_q2 rfl rfl rfl ?_ ?_)))
 simp_all [givesP]
 simp_all [givesP]
 refine sq (rg ?_)
 refine fb 0 T.fo51_0 (lb 0 T.ag3 (bh (mv ?_)))
 refine sp 17 ?_ ?_ <;> intro h4 <;> try simp only [tt] at h4
 refine tk (fb 0 T.fo51_0 ?_)
 refine tk (lb 0 T.ag3 ?_)
 refine tk (bq (pt (as_ ?_)))
 refine wn (kk4 [1,2,3,13] ?_)
 refine cd ?_ ?_ <;> intro h5 <;> try simp only [tt] at h5
 refine sq (rg ?_)
 refine as_ (as_ ?_)
 refine wn (kk3 [1,2,3] ?_)
 refine C_ret (RX_block (RX_then (RX_q2 rfl rfl rfl ?_ ?_)))
 simp_all [givesP]
 simp_all [givesP]
 refine sq (rg ?_)
 refine fb 0 T.fo51_0 (lb 0 T.ag3 (be (as_ ?_)))
 refine wn (kk4 [1,2,3,22] ?_)
 refine cd ?_ ?_ <;> intro h6 <;> try simp only [tt] at h6
 refine sq (rg ?_)
 refine fb 1 T.fo51_1 (lb 0 T.ag3 (as_ (as_ ?_)))
 refine wn (kk3 [1,2,3] ?_)
 refine C_ret (RX_block (RX_then (RX_q2 rfl rfl rfl ?_ ?_)))
 simp_all [givesP]
 simp_all [givesP]
 refine sk (nb (kk3 [1,2,3] (sq ?_)))
 refine C_drawn [(0, true), (1, true), (2, true), (3, true), (4, true), (5, true)] (by kernel_rfl) rfl (by kernel_rfl) (by kernel_rfl) ?_
 refine dfb 1 T.fo51_1 ?_
 refine dlb 0 T.ag3 ?_
 refine dfb 2 T.fo51_2 ?_
 refine dlb 0 T.ag3 ?_
 refine das ?_
 refine das ?_
 refine D_end ?_
 refine kk2 [2,3] ?_
 refine C_ret (RX_q2 rfl rfl rfl ?_ ?_)
 simp_all [givesP]; rw [if_neg (by omega)]
 simp_all [givesP]; rw [if_neg (by omega)]
 refine ps (ps (ps ?_))
 refine pf (as_ ?_)
 refine wn (kk4 [1,2,3,13] ?_)
 refine cfz (sq (rg ?_))
 refine fb 0 T.fo51_0 (lb 0 T.ag3 (be (as_ ?_)))
 refine wn (kk4 [1,2,3,22] ?_)
 refine cd ?_ ?_ <;> intro h7 <;> try simp only [tt] at h7
 refine sq (rg ?_)
 refine fb 1 T.fo51_1 (lb 0 T.ag3 (as_ (as_ ?_)))
 refine wn (kk3 [1,2,3] ?_)
 refine C_ret (RX_block (RX_then (RX_q2 rfl rfl rfl ?_ ?_)))
 simp_all [givesP]
 simp_all [givesP]
 refine sk (nb (kk3 [1,2,3] (sq ?_)))
 refine C_drawn [(0, true), (1, true), (2, true), (3, true), (4, true), (5, true)] (by kernel_rfl) rfl (by kernel_rfl) (by kernel_rfl) ?_
 refine dfb 1 T.fo51_1 ?_
 refine dlb 0 T.ag3 ?_
 refine dfb 2 T.fo51_2 ?_
 refine dlb 0 T.ag3 ?_
 refine das ?_
 refine das ?_
 refine D_end ?_
 refine kk2 [2,3] ?_
 refine C_ret (RX_q2 rfl rfl rfl ?_ ?_)
 simp_all [givesP]; rw [if_neg (by omega)]
 simp_all [givesP]; rw [if_neg (by omega)]
namespace T
theorem by22 : byt? Tryz.prog 22 = some 24 := by kernel_rfl
theorem hb135 : hasBody Tryz.prog 135 = true := by kernel_rfl
theorem hb139 : hasBody Tryz.prog 139 = true := by kernel_rfl
end T
theorem rising_q {m : Imm} {A : Option Addr} {c : Nat} {l : List Int} (h : Ints m A c l) (n : Int) : Quiet Tryz.prog 135 [.slice A l.length c, .int .i64 n] m (.bool (risingP l n)) := by
 have hlen := h.len
 refine quiet_of Tryz.func135 rfl Tryz.ntmps135 rfl (fun w => ?_)
 refine sq (rg ?_)
 refine as_ ?_
 refine wn (kk3 [0,1,4] (sq (rg ?_)))
 refine as_ ?_
 refine wn (kk4 [0,1,4,5] (sq (sq (rg ?_))))
 refine mv (ln Tryz.underlying22 (mv ?_))
 refine wn (kk6 [1,4,5,8,9,10] ?_)
 refine C_range (Unit) (l.length) (fun k1 x1 => ∀ j, j < k1 → okR l n j = true) (fun k1 x1 => [(5, .int .i64 (prevL l k1))]) (fun _ _ => []) [5] [1, 8] (F := [(1, _), (8, _)]) (()) rfl rfl (by omega) (by simp) rfl rfl rfl rfl rfl rfl rfl (fun _ _ => rfl) (fun _ _ => rfl) (fun k1 x1 hk1 hJ1 => ?_) (fun x1 hJ1 => ?_)
 refine jj5 [1,5,8,9,10] (sq (rg ?_))
 obtain ⟨ad2, hA2⟩ := h.ad (j := k1) (by omega)
 obtain ⟨z2, hz2⟩ := h.getz (j := k1) (by omega)
 refine ixz hA2 Tryz.underlying22 T.sz3 ?_
 obtain ⟨l3, r3⟩ := Sl.getI h hA2 hz2
 refine liz T.ag3 l3 ?_
 refine as_ ?_
 refine wn (kk6 [1,5,7,8,9,10] (sq (sq (rg ?_))))
 refine mv (mv (bq (mv ?_)))
 refine sp 17 ?_ ?_ <;> intro h4 <;> try simp only [tt] at h4
 refine ps (ps (ps ?_))
 refine pt ?_
 refine wn (kk7 [1,5,7,8,9,10,21] ?_)
 refine ctz (sq (rg ?_))
 refine as_ ?_
 refine wn (kk7 [1,4,5,7,8,9,10] ?_)
 refine C_ret (RX_then (RX_block (RX_then (RX_block (RX_then (RX_q1 rfl rfl ?_))))))
 rw [risingP, range_all_false (hk1) (by have e1 := getD_of (d := 0) hz2; simp only [okR, e1, Bool.and_eq_false_iff, decide_eq_false_iff_not]; omega)]
 refine tk (mv ?_)
 refine tk (mv ?_)
 refine tk (bh (pf ?_))
 refine wn (kk7 [1,5,7,8,9,10,21] ?_)
 refine cd ?_ ?_ <;> intro h5 <;> try simp only [tt] at h5
 refine sq (rg ?_)
 refine as_ ?_
 refine wn (kk7 [1,4,5,7,8,9,10] ?_)
 refine C_ret (RX_then (RX_block (RX_then (RX_block (RX_then (RX_q1 rfl rfl ?_))))))
 rw [risingP, range_all_false (hk1) (by have e1 := getD_of (d := 0) hz2; simp only [okR, e1, Bool.and_eq_false_iff, decide_eq_false_iff_not]; omega)]
 refine sk (kk6 [1,5,7,8,9,10] (rg ?_))
 refine mv (as_ ?_)
 refine wn (nb (?_))
 rw [← prevL_succ hz2]
 refine NX_rng [5, 1, 8] (()) ?_ rfl (List.Sublist.refl _) rfl (Imm.le_refl _)
 refine lt_succ_all hJ1 ?_
 have e1 := getD_of (d := 0) hz2
 have e2 := prevL_succ hz2
 simp only [okR, e1, Bool.and_eq_true, decide_eq_true_eq]
 omega
 refine kk0 [] (sq (rg ?_))
 refine as_ ?_
 refine wn (kk1 [4] ?_)
 refine C_ret (RX_q1 rfl rfl ?_)
 rw [risingP, range_all_true hJ1]
theorem Make1_q {m : Imm} {A : Option Addr} {c : Nat} {l : List Int} (h : Ints m A c l) {ad : Addr} {n : Int} (hn : m.cell? ad = some (.int .i64 n)) : Quiet Tryz.prog 134 [.slice A l.length c, .pointer (some ad)] m (.bool (!(risingP l n))) := by
 refine quiet_of Tryz.func134 rfl Tryz.ntmps134 rfl (fun w => ?_)
 refine sq (rg ?_)
 refine as_ ?_
 refine wn (kk3 [0,1,3] (sq (rg ?_)))
 refine mv ?_
 refine liz T.ag3 hn ?_
 refine W_quiet (rising_q h _) T.hb135 rfl rfl ?_
 refine nt (as_ ?_)
 refine wn (kk1 [3] ?_)
 refine C_ret (RX_q1 rfl rfl ?_)
 rfl
theorem Of1_q {m : Imm} (k : Int) {ad : Addr} {n : Int} (hn : m.cell? ad = some (.int .i64 n)) : Quiet Tryz.prog 101 [.int .i64 k, .pointer (some ad)] m (.bool (decide (k < 1) || decide (n ≤ k))) := by
 refine quiet_of Tryz.func101 rfl Tryz.ntmps101 rfl (fun w => ?_)
 refine sq (rg ?_)
 refine as_ ?_
 refine wn (kk3 [0,1,3] (sq (rg ?_)))
 refine mv (bl (mv ?_))
 refine sp 6 ?_ ?_ <;> intro h1 <;> try simp only [tt] at h1
 refine ps (ps (ps ?_))
 refine pt (as_ ?_)
 refine wn (kk1 [3] ?_)
 refine C_ret (RX_q1 rfl rfl ?_)
 simp_all
 refine tk (mv ?_)
 refine tk ?_
 refine liz T.ag3 hn ?_
 refine tk (bh (pf (as_ ?_)))
 refine wn (kk1 [3] ?_)
 refine C_ret (RX_q1 rfl rfl ?_)
 simp_all; omega
theorem CloneI_g {m : Imm} {A : Option Addr} {c : Nat} {l : List Int} (h : Ints m A c l) (hl : l.length ≤ 1000000) : Gives Tryz.prog 136 [.slice A l.length c] m (fun m' v => ∃ A' c', v = .slice A' ([] ++ l).length c' ∧ Ints m' A' c' ([] ++ l)) := by
 have hlen := h.len
 refine gives_of Tryz.func136 rfl Tryz.ntmps136 rfl (fun w => ?_)
 refine sq (rg ?_)
 refine as_ ?_
 refine wn (kk2 [0,2] (sq (sq (rg ?_))))
 refine mv ?_
 refine W_q (r_sliceeq rfl rfl Tryz.underlying22) rfl ?_
 refine wn (kk3 [0,2,4] ?_)
 refine cd ?_ ?_ <;> intro h1 <;> try simp only [tt] at h1
 refine sq (rg ?_)
 refine as_ ?_
 refine wn (kk2 [0,2] ?_)
 have e0 := Ints_none h h1
 subst e0
 exact C_ret (RX_then (RX_g1 rfl rfl ⟨_, _, rfl, Sl.nil _ _ _⟩))
 refine sk (kk2 [0,2] (sq (rg ?_)))
 refine S_litr (vs := []) (cs := []) Tryz.underlying22 T.sz3 T.ze3 rfl rfl rfl rfl rfl rfl rfl (fun b2 => ?_)
 refine mv ?_
 refine S_appendI (l := []) (g1 := (some b2)) l 0 rfl rfl rfl Tryz.underlying22 T.sz3 T.ze3 T.by3 rfl rfl (Src_ints h h1) (by simp; omega) rfl (fun g3 c3 hg3 => ?_)
 refine as_ ?_
 refine wn (kk1 [2] ?_)
 refine C_ret (RX_know (k_rowI 0 rfl) (fun hr => ?_))
 refine RX_freeze 0 rfl (fun _ h => h) (fun mf lef hf => ?_)
 have hfin : Ints mf _ _ _ := Ints_frz hf hr.1 hr.2.1 (by simp; omega) hr.2.2 (by simpa using Ints_all h)
 exact RX_g1 rfl rfl ⟨_, _, rfl, by simpa using hfin⟩
theorem EqualI_q {m : Imm} {A : Option Addr} {c : Nat} {l : List Int} (h : Ints m A c l) {A' : Option Addr} {c' : Nat} {l' : List Int} (h' : Ints m A' c' l') : Quiet Tryz.prog 139 [.slice A l.length c, .slice A' l'.length c'] m (.bool (l == l')) := by
 have hlen := h.len
 have hlen' := h'.len
 refine quiet_of Tryz.func139 rfl Tryz.ntmps139 rfl (fun w => ?_)
 refine sq (rg ?_)
 refine as_ ?_
 refine wn (kk3 [0,1,4] (sq (sq (rg ?_))))
 refine mv (ln Tryz.underlying22 (mv (ln Tryz.underlying22 (bn ?_))))
 refine wn (kk4 [0,1,4,10] ?_)
 refine cd ?_ ?_ <;> intro h1 <;> try simp only [tt] at h1
 refine sq (rg ?_)
 refine as_ ?_
 refine wn (kk3 [0,1,4] ?_)
 refine C_ret (RX_then (RX_q1 rfl rfl ?_))
 have : l ≠ l' := by rintro rfl; omega
 simp [this]
 refine sk (kk3 [0,1,4] (sq (sq (rg ?_))))
 refine mv (ln Tryz.underlying22 (mv ?_))
 refine wn (kk5 [0,1,4,12,13] ?_)
 refine C_range (Unit) (l.length) (fun k2 x2 => ∀ j, j < k2 → l[j]? = l'[j]?) (fun k2 x2 => []) (fun _ _ => []) [] [0, 1] (F := [(0, _), (1, _)]) (()) rfl rfl (by omega) (by simp) rfl rfl rfl rfl rfl rfl rfl (fun _ _ => rfl) (fun _ _ => rfl) (fun k2 x2 hk2 hJ2 => ?_) (fun x2 hJ2 => ?_)
 refine jj4 [0,1,12,13] (sq (rg ?_))
 refine mv (as_ ?_)
 refine wn (kk5 [0,1,5,12,13] (sq ?_))
 refine C_drawn [(0, true), (1, true), (2, true), (3, true), (4, true), (5, true), (6, true), (7, true), (8, true)] (by kernel_rfl) rfl (by kernel_rfl) (by kernel_rfl) ?_
 refine dmv ?_
 refine dmv ?_
 obtain ⟨ad3, hA3⟩ := h.ad (j := k2) (by omega)
 obtain ⟨z3, hz3⟩ := h.getz (j := k2) (by omega)
 refine D_q rfl (r_index hA3 Tryz.underlying22 T.sz3 rfl rfl ⟨by omega, by omega⟩) rfl ?_
 obtain ⟨l4, r4⟩ := Sl.getI h hA3 hz3
 refine D_q rfl (r_load_imm rfl T.ag3 l4) rfl ?_
 refine dmv ?_
 refine dmv ?_
 obtain ⟨ad5, hA5⟩ := h'.ad (j := k2) (by omega)
 obtain ⟨z5, hz5⟩ := h'.getz (j := k2) (by omega)
 refine D_q rfl (r_index hA5 Tryz.underlying22 T.sz3 rfl rfl ⟨by omega, by omega⟩) rfl ?_
 obtain ⟨l6, r6⟩ := Sl.getI h' hA5 hz5
 refine D_q rfl (r_load_imm rfl T.ag3 l6) rfl ?_
 refine D_q rfl (r_bin rfl rfl (bin_neq _ _ _ _)) rfl ?_
 refine D_end ?_
 refine kk5 [0,1,12,13,24] ?_
 refine cd ?_ ?_ <;> intro h7 <;> try simp only [tt] at h7
 refine sq (rg ?_)
 refine as_ ?_
 refine wn (kk5 [0,1,4,12,13] ?_)
 refine C_ret (RX_block (RX_then (RX_block (RX_then (RX_q1 rfl rfl ?_)))))
 have : l ≠ l' := by rintro rfl; simp_all
 simp [this]
 refine sk (nb (?_))
 refine NX_rng [0, 1] (()) ?_ rfl (List.Sublist.refl _) rfl (Imm.le_refl _)
 exact lt_succ_all hJ2 (by simp_all)
 refine kk0 [] (sq (rg ?_))
 refine as_ ?_
 refine wn (kk1 [4] ?_)
 refine C_ret (RX_q1 rfl rfl ?_)
 rw [eq_of_all (by omega) hJ2]; simp
theorem EqualFunc_q {m : Imm} {A : Option Addr} {c : Nat} {ll : List (List Int)} (h : Sl (rS rI 1) 1 m A c ll) {A' : Option Addr} {c' : Nat} {ll' : List (List Int)} (h' : Sl (rS rI 1) 1 m A' c' ll') : Quiet Tryz.prog 138 [.slice A ll.length c, .slice A' ll'.length c', .func (.func 139) #[] #[]] m (.bool (ll == ll')) := by
 have hlen := h.len
 have hlen' := h'.len
 refine quiet_of Tryz.func138 rfl Tryz.ntmps138 rfl (fun w => ?_)
 refine sq (rg ?_)
 refine as_ ?_
 refine wn (kk4 [0,1,2,6] (sq (sq (rg ?_))))
 refine mv (ln Tryz.underlying65 (mv (ln Tryz.underlying65 (bn ?_))))
 refine wn (kk5 [0,1,2,6,14] ?_)
 refine cd ?_ ?_ <;> intro h1 <;> try simp only [tt] at h1
 refine sq (rg ?_)
 refine as_ ?_
 refine wn (kk4 [0,1,2,6] ?_)
 refine C_ret (RX_then (RX_q1 rfl rfl ?_))
 have : ll ≠ ll' := by rintro rfl; omega
 simp [this]
 refine sk (kk4 [0,1,2,6] (sq (sq (rg ?_))))
 refine mv (ln Tryz.underlying65 (mv ?_))
 refine wn (kk6 [1,2,6,15,16,17] ?_)
 refine C_range (Unit) (ll.length) (fun k2 x2 => ∀ j, j < k2 → ll[j]? = ll'[j]?) (fun k2 x2 => []) (fun _ _ => []) [] [1, 2, 15] (F := [(1, _), (2, _), (15, _)]) (()) rfl rfl (by omega) (by simp) rfl rfl rfl rfl rfl rfl rfl (fun _ _ => rfl) (fun _ _ => rfl) (fun k2 x2 hk2 hJ2 => ?_) (fun x2 hJ2 => ?_)
 refine jj5 [1,2,15,16,17] (sq (rg ?_))
 refine mv ?_
 obtain ⟨ad3, hA3⟩ := h.ad (j := k2) (by omega)
 obtain ⟨z3, hz3⟩ := h.getz (j := k2) (by omega)
 refine ixz hA3 Tryz.underlying65 T.sz22 ?_
 obtain ⟨A4, c4, l4, h4⟩ := Sl.getS h hA3 hz3
 refine liz T.ag22 l4 ?_
 refine as_ (as_ ?_)
 refine wn (kk7 [1,2,7,8,15,16,17] (sq (rg ?_)))
 refine mv (mv ?_)
 obtain ⟨ad5, hA5⟩ := h'.ad (j := k2) (by omega)
 obtain ⟨z5, hz5⟩ := h'.getz (j := k2) (by omega)
 refine ixz hA5 Tryz.underlying65 T.sz22 ?_
 obtain ⟨A6, c6, l6, h6⟩ := Sl.getS h' hA5 hz5
 refine liz T.ag22 l6 ?_
 refine as_ ?_
 refine wn (kk7 [1,2,8,9,15,16,17] (sq (rg ?_)))
 refine mv (mv (mv ?_))
 refine W_callv rfl rfl (EqualI_q h4 h6) T.hb139 rfl ?_
 refine nt ?_
 refine wn (kk6 [1,2,15,16,17,30] ?_)
 refine cd ?_ ?_ <;> intro h7 <;> try simp only [tt] at h7
 refine sq (rg ?_)
 refine as_ ?_
 refine wn (kk6 [1,2,6,15,16,17] ?_)
 refine C_ret (RX_block (RX_then (RX_block (RX_then (RX_q1 rfl rfl ?_)))))
 have : ll ≠ ll' := by rintro rfl; simp_all
 simp [this]
 refine sk (nb (?_))
 refine NX_rng [1, 2, 15] (()) ?_ rfl (List.Sublist.refl _) rfl (Imm.le_refl _)
 exact lt_succ_all hJ2 (by simp_all)
 refine kk0 [] (sq (rg ?_))
 refine as_ ?_
 refine wn (kk1 [6] ?_)
 refine C_ret (RX_q1 rfl rfl ?_)
 rw [eq_of_allg (by omega) hJ2]; simp
theorem preds_g {m : Imm} {A : Option Addr} {c : Nat} {succ : List (List Int)} (h : Sl (rS rI 1) 1 m A c succ) (hn : succ.length ≤ 64) (hr : ∀ l ∈ succ, risingP l succ.length = true) : Gives Tryz.prog 137 [.slice A succ.length c] m (fun m' v => ∃ A' c', v = .slice A' (predsP succ).length c' ∧ Sl (rS rI 1) 1 m' A' c' (predsP succ)) := by
 refine gives_of Tryz.func137 rfl Tryz.ntmps137 rfl (fun w => ?_)
 refine sq (rg ?_)
 refine as_ ?_
 refine wn (kk2 [0,2] (sq (rg ?_)))
 refine mv (ln Tryz.underlying65 ?_)
 refine S_make1 succ.length Tryz.underlying65 T.sz22 T.ze22 T.by22 rfl rfl rfl rfl rfl (by omega) (by unfold maxLen; omega) rfl (fun b1 => ?_)
 refine as_ ?_
 refine wn (kk3 [0,2,3] (sq (sq (rg ?_))))
 refine mv (ln Tryz.underlying65 (mv ?_))
 refine wn (kk5 [2,3,11,12,13] ?_)
 refine CW_matrix 3 ?_
 refine C_range (List IRow) (succ.length) (fun k2 x2 => x2.length = succ.length ∧ x2.map (fun y => y.2.2) = predsK succ k2 ∧ ∀ y ∈ x2, y.2.2.length ≤ k2 * 64) (fun k2 x2 => []) (fun k2 x2 => row (some b1) succ.length succ.length 22 1 (x2.map IRow.val) :: x2.map (IRow.res 3)) [] [2, 3, 11] (F := [(2, _), (3, _), (11, _)]) (List.replicate succ.length (none, 0, [])) rfl rfl (by omega) (by refine ⟨by simp, by simp [predsK], by simp⟩) rfl rfl rfl rfl rfl rfl rfl (fun _ _ => rfl) (fun _ _ => rfl) (fun k2 x2 hk2 hJ2 => ?_) (fun x2 hJ2 => ?_)
 refine jj5 [2,3,11,12,13] (sq (rg ?_))
 refine mv ?_
 obtain ⟨ad3, hA3⟩ := h.ad (j := k2) (by omega)
 obtain ⟨z3, hz3⟩ := h.getz (j := k2) (by omega)
 refine ixz hA3 Tryz.underlying65 T.sz22 ?_
 obtain ⟨A4, c4, l4, h4⟩ := Sl.getS h hA3 hz3
 refine liz T.ag22 l4 ?_
 refine as_ (as_ ?_)
 refine wn (kk7 [2,3,4,5,11,12,13] (sq (rg ?_)))
 refine mv (ln Tryz.underlying22 (mv ?_))
 refine wn (kk9 [2,3,4,11,12,13,18,19,20] ?_)
 have hR := hr _ (List.mem_of_getElem? hz3)
 obtain ⟨hIa, hIb, hIc⟩ := hJ2
 refine C_range (List IRow) (z3.length) (fun k5 x5 => x5.length = succ.length ∧ x5.map (fun y => y.2.2) = predRow (predsK succ k2) (k2 : Int) (z3.take k5) ∧ ∀ y ∈ x5, y.2.2.length ≤ k2 * 64 + k5) (fun k5 x5 => []) (fun k5 x5 => row (some b1) succ.length succ.length 22 1 (x5.map IRow.val) :: x5.map (IRow.res 3)) [] [2, 3, 4, 11, 12, 13, 18] (F := [(2, _), (3, _), (4, _), (11, _), (12, _), (13, _), (18, _)]) (x2) rfl rfl (by have := rising_len hR; omega) (by refine ⟨hIa, by simpa [predRow] using hIb, fun y hy => by have := hIc y hy; omega⟩) rfl rfl rfl rfl rfl rfl rfl (fun _ _ => rfl) (fun _ _ => rfl) (fun k5 x5 hk5 hJ5 => ?_) (fun x5 hJ5 => ?_)
 obtain ⟨hJa, hJb, hJl⟩ := hJ5
 have hkk := hk5
 refine jj9 [2,3,4,11,12,13,18,19,20] (sq (rg ?_))
 obtain ⟨ad6, hA6⟩ := h4.ad (j := k5) (by omega)
 obtain ⟨z6, hz6⟩ := h4.getz (j := k5) (by omega)
 refine ixz hA6 Tryz.underlying22 T.sz3 ?_
 obtain ⟨l7, r7⟩ := Sl.getI h4 hA6 hz6
 refine liz T.ag3 l7 ?_
 refine as_ ?_
 refine wn (kk10 [2,3,4,7,11,12,13,18,19,20] (rg ?_))
 refine mv (mv (mv (mv ?_)))
 refine W_q (r_indexr (o := z6.toNat) Tryz.underlying65 T.sz22 rfl rfl ⟨(rising_get hR hz6).1, (rising_get hR hz6).2⟩ (by omega)) rfl ?_
 obtain ⟨it9, hit9⟩ : ∃ it, x5[z6.toNat]? = some it := ⟨_, List.getElem?_eq_getElem (by have := rising_get hR hz6; omega)⟩
 refine W_q (r_loadr 0 rfl T.ag22 rfl (v := IRow.val it9) (by rw [List.getElem?_map, hit9]; rfl)) rfl ?_
 refine mv ?_
 refine S_litr (vs := [_]) (cs := [_]) Tryz.underlying22 T.sz3 T.ze3 rfl rfl rfl rfl rfl rfl rfl (fun b10 => ?_)
 refine S_appendM [_] rfl hit9 rfl rfl Tryz.underlying22 T.sz3 T.ze3 T.by3 rfl rfl (.row 0 rfl) (by have := hJl _ (List.mem_of_getElem? hit9); have := rising_len hR; simp only [List.length_cons, List.length_nil]; omega) rfl (fun g11 c11 hg11 => ?_)
 refine W_q (r_indexr (o := z6.toNat) Tryz.underlying65 T.sz22 rfl rfl ⟨(rising_get hR hz6).1, (rising_get hR hz6).2⟩ (by omega)) rfl ?_
 refine S_storeM 1 rfl rfl T.sz22 rfl (by have := (List.getElem?_eq_some_iff.1 hit9).1; omega) ?_
 refine wn (nb (?_))
 refine NX_rng [2, 3, 4, 11, 12, 13, 18] (x5.set z6.toNat (g11, c11, it9.2.2 ++ [(k2 : Int)])) ?_ rfl (sub_drop 1 rfl) rfl (Imm.le_refl _)
 refine ⟨by simp [hJa], ?_, fun y hy => ?_⟩
 · rw [pushAt_rows hit9, hJb, predRow_take hz6]
 · rcases List.mem_or_eq_of_mem_set hy with hy | rfl
   · have := hJl y hy; omega
   · have := hJl _ (List.mem_of_getElem? hit9); simp; omega
 refine nb (?_)
 refine NX_rng [2, 3, 11] (x5) ?_ rfl (List.Sublist.refl _) rfl (Imm.le_refl _)
 obtain ⟨hJa, hJb, hJc⟩ := hJ5
 refine ⟨hJa, ?_, fun y hy => by have := hJc y hy; have := rising_len hR; omega⟩
 rw [predsK_succ, hJb, List.take_of_length_le (Nat.le_refl _), getDl_of hz3]
 refine kk2 [2,3] (sq (rg ?_))
 refine mv (as_ ?_)
 refine wn (kk1 [2] ?_)
 obtain ⟨hJa, hJb, hJc⟩ := hJ2
 refine C_ret (RX_freezeM (rs := x2) rfl (fun _ h => h) (fun y hy z hz => ?_) (fun y hy => by have := hJc y hy; omega) (by omega) (fun mf lef hfin hn => ?_))
 · exact predsK_i64 (succ := succ) (k := succ.length) (by omega) (l := y.2.2) (by rw [← hJb]; exact List.mem_map_of_mem hy) hz
 · exact RX_g1 rfl rfl ⟨_, _, by rw [predsP_length], by rw [predsP, ← hJb]; exact hfin⟩
namespace T
theorem ag65 : agg? Tryz.prog 65 = some false := by kernel_rfl
theorem ag79 : agg? Tryz.prog 79 = some true := by kernel_rfl
theorem bl79 : bls? Tryz.prog 79 = some ([(0, 1), (1, 1)], ([(.slice none 0 0), (.slice none 0 0)] : List Value)) := by kernel_rfl
theorem fo79_0 : fld? Tryz.prog 79 0 = some (0, 1) := by kernel_rfl
theorem fo79_1 : fld? Tryz.prog 79 1 = some (1, 1) := by kernel_rfl
theorem hb104 : hasBody Tryz.prog 104 = true := by kernel_rfl
theorem hb133 : hasBody Tryz.prog 133 = true := by kernel_rfl
theorem hb134 : hasBody Tryz.prog 134 = true := by kernel_rfl
theorem hb136 : hasBody Tryz.prog 136 = true := by kernel_rfl
theorem hb137 : hasBody Tryz.prog 137 = true := by kernel_rfl
theorem hb138 : hasBody Tryz.prog 138 = true := by kernel_rfl
theorem sz79 : sz? Tryz.prog 79 = some 2 := by kernel_rfl
theorem ze79 : zero? Tryz.prog 79 = some (.agg #[(.slice none 0 0), (.slice none 0 0)]) := by kernel_rfl
end T
theorem Make_g {m : Imm} {A : Option Addr} {c : Nat} {succ : List (List Int)} (h : Sl (rS rI 1) 1 m A c succ) : Gives Tryz.prog 104 [.slice A succ.length c] m (GraphΦ (makeP succ)) := by
 have hlen := h.len
 refine gives_of Tryz.func104 rfl Tryz.ntmps104 rfl (fun w => ?_)
 refine sq (rg ?_)
 refine sa2 T.ze79 (fun b1 => ?_)
 refine as_ ?_
 refine wn (kk3 [0,2,3] (sq (rg ?_)))
 refine mv (ln Tryz.underlying65 ?_)
 refine sa1 T.ze3 (fun b2 => ?_)
 refine sb1 0 T.sz3 ?_
 refine wn (kk4 [0,2,3,4] (sq (sq (rg ?_))))
 refine lb 0 T.ag3 (bl (mv ?_))
 refine sp 12 ?_ ?_ <;> intro h3 <;> try simp only [tt] at h3
 refine ps (ps ?_)
 refine pt (mv ?_)
 refine ps (ps (ps ?_))
 refine pt ?_
 refine wn (kk5 [0,2,3,4,20] ?_)
 refine ctz (sq (rg ?_))
 refine W_q (r_builds (cs := [_, _]) T.bl79 rfl rfl) rfl ?_
 refine sb2 1 T.sz79 ?_
 refine as_ ?_
 refine wn (kk4 [0,2,3,4] ?_)
 refine C_ret (RX_then (RX_gR (res_ct 1 rfl rfl rfl T.ag79 T.sz79 rfl) ?_))
 rw [show makeP succ = none by simp_all [makeP]]
 exact ⟨_, rfl, _, _, _, _, rfl, Sl.nil _ _ _, Sl.nil _ _ _⟩
 refine tk (lb 0 T.ag3 ?_)
 refine tk (bg (pf (mv ?_)))
 refine sp 16 ?_ ?_ <;> intro h4 <;> try simp only [tt] at h4
 refine ps (ps (ps ?_))
 refine pt ?_
 refine wn (kk5 [0,2,3,4,20] ?_)
 refine ctz (sq (rg ?_))
 refine W_q (r_builds (cs := [_, _]) T.bl79 rfl rfl) rfl ?_
 refine sb2 1 T.sz79 ?_
 refine as_ ?_
 refine wn (kk4 [0,2,3,4] ?_)
 refine C_ret (RX_then (RX_gR (res_ct 1 rfl rfl rfl T.ag79 T.sz79 rfl) ?_))
 rw [show makeP succ = none by simp_all [makeP]]
 exact ⟨_, rfl, _, _, _, _, rfl, Sl.nil _ _ _, Sl.nil _ _ _⟩
 refine tk (mv ?_)
 refine tk ?_
 refine W_q (r_makeFunc (first := []) (cap := [_]) rfl rfl) rfl ?_
 refine tk ?_
 refine W_q (r_quietb 0 rfl (fun m' le hc => ContainsFuncS_q (h.mono (rS_mono rI_mono) le) (p := fun l => !(risingP l succ.length)) (K := 134) T.hb134 (fun z hz A' c' hz' => Make1_q hz' (hc 0 _ rfl))) T.hb133 rfl) rfl ?_
 refine pf ?_
 refine wn (kk5 [0,2,3,4,20] ?_)
 refine cd ?_ ?_ <;> intro h5 <;> try simp only [tt] at h5
 refine sq (rg ?_)
 refine W_q (r_builds (cs := [_, _]) T.bl79 rfl rfl) rfl ?_
 refine sb2 1 T.sz79 ?_
 refine as_ ?_
 refine wn (kk4 [0,2,3,4] ?_)
 refine C_ret (RX_then (RX_gR (res_ct 1 rfl rfl rfl T.ag79 T.sz79 rfl) ?_))
 rw [show makeP succ = none by simp_all [makeP]]
 exact ⟨_, rfl, _, _, _, _, rfl, Sl.nil _ _ _, Sl.nil _ _ _⟩
 refine sk (kk4 [0,2,3,4] (sq (rg ?_)))
 refine lb 0 T.ag3 ?_
 refine S_make0 (cap := succ.length) Tryz.underlying65 T.sz22 T.ze22 T.by22 rfl rfl rfl rfl (by omega) (by unfold maxLen; omega) rfl (fun b6 => ?_)
 refine as_ ?_
 refine wn (kk4 [0,2,3,5] (sq (sq (rg ?_))))
 refine mv (ln Tryz.underlying65 (mv ?_))
 refine wn (kk6 [2,3,5,24,25,26] ?_)
 have hR : ∀ l ∈ succ, risingP l succ.length = true := fun l hl => by simpa using List.any_eq_false.1 h5 l hl
 refine CW_front 0 rfl rfl ?_
 refine C_rangeM (Option Nat × Nat × List Value) (succ.length) (fun k7 mk7 x7 => m.le mk7 ∧ (SlCells mk7 x7.2.2 (succ.take k7))) (fun k7 x7 => [(5, .slice (rowA x7.1) k7 x7.2.1)]) (fun k7 x7 => [row x7.1 k7 x7.2.1 22 1 x7.2.2]) [5] [2, 3, 24] (F := [(2, _), (3, _), (24, _)]) ((some b6, succ.length, [])) rfl rfl (by omega) ⟨Imm.le_refl _, SlCells.nil _⟩ rfl rfl rfl rfl rfl rfl rfl (fun _ _ => rfl) (fun _ _ => rfl) (fun k7 mk7 x7 hk7 hJ7 => ?_) (fun mk7 x7 hJ7 => ?_)
 obtain ⟨hle7, hJ7⟩ := hJ7
 replace h := h.mono (rS_mono rI_mono) hle7
 refine jj6 [2,3,5,24,25,26] (sq (rg ?_))
 obtain ⟨ad8, hA8⟩ := h.ad (j := k7) (by omega)
 obtain ⟨z8, hz8⟩ := h.getz (j := k7) (by omega)
 refine ixz hA8 Tryz.underlying65 T.sz22 ?_
 obtain ⟨A9, c9, l9, h9⟩ := Sl.getS h hA8 hz8
 refine liz T.ag22 l9 ?_
 refine as_ ?_
 refine wn (kk7 [2,3,5,7,24,25,26] (rg ?_))
 refine mv (mv ?_)
 refine S_gives (CloneI_g h9 (by have := rising_len (hR _ (List.mem_of_getElem? hz8)); omega)) T.hb136 rfl rfl (fun m10 v10 le10 hv10 => ?_)
 replace h := h.mono (rS_mono rI_mono) le10
 replace h9 := h9.mono rI_mono le10
 obtain ⟨A10, c10, rfl, h10⟩ := hv10
 refine S_litr (vs := [_]) (cs := [_]) Tryz.underlying65 T.sz22 T.ze22 rfl rfl rfl rfl rfl rfl rfl (fun b11 => ?_)
 refine S_appendG [_] 1 rfl rfl rfl Tryz.underlying65 T.sz22 T.ze22 T.by22 rfl rfl rfl (.row 0 rfl) rfl (by omega) (by unfold maxLen; omega) rfl (fun g12 c12 hg12 => ?_)
 refine as_ ?_
 refine wn (nb (?_))
 refine NX_rngM [5, 2, 3, 24] ((_, _, _)) ⟨Imm.le_trans (hle7) le10, ?_⟩ rfl (sub_drop 1 rfl) rfl
 rw [List.take_add_one, hz8]
 exact (hJ7.mono (le10)).snoc h10
 obtain ⟨hle7, hJ7⟩ := hJ7
 replace h := h.mono (rS_mono rI_mono) hle7
 refine NX_know (k_rowG 0 rfl) (fun hr13 => ?_)
 refine NX_freeze 0 rfl (fun _ h => h) (fun m13 le13 hf13 => ?_)
 replace h := h.mono (rS_mono rI_mono) le13
 rw [List.take_of_length_le (Nat.le_refl _)] at hJ7
 have h13 := (hJ7.mono le13).sl hf13 hr13.2.1 hr13.2.2.1 (by omega) hr13.2.2.2
 refine kk3 [2,3,5] (sq (rg ?_))
 refine mv (mv ?_)
 refine S_gives (preds_g h13 (by omega) hR) T.hb137 rfl rfl (fun m14 v14 le14 hv14 => ?_)
 replace h := h.mono (rS_mono rI_mono) le14
 replace h13 := h13.mono (rS_mono rI_mono) le14
 obtain ⟨A14, c14, rfl, h14⟩ := hv14
 refine W_q (r_builds (cs := [_, _]) T.bl79 rfl rfl) rfl ?_
 refine sb2 1 T.sz79 ?_
 refine as_ ?_
 refine wn (kk2 [2,3] ?_)
 refine C_ret (RX_gR (res_ct 1 rfl rfl rfl T.ag79 T.sz79 rfl) ?_)
 rw [show makeP succ = some ⟨succ, predsP succ⟩ by simp_all [makeP]]
 exact ⟨_, rfl, _, _, _, _, rfl, h13, h14⟩
theorem MayG_q {m : Imm} {es : List Value} {g : FGraph} (hG : rGraph m es g) : Quiet Tryz.prog 105 [.agg es.toArray] m (.bool (mayG g)) := by
 have hG_0 := hG
 obtain ⟨A90, c90, B90, d90, rfl, hs90, hp90⟩ := hG_0
 refine quiet_of Tryz.func105 rfl Tryz.ntmps105 rfl (fun w => ?_)
 refine sq (rg ?_)
 refine S_box (l := [_, _]) rfl rfl rfl (fun b1 => ?_)
 refine as_ ?_
 refine wn (kk2 [1,2] (sq (rg ?_)))
 refine fb 0 T.fo79_0 (lb 0 T.ag65 ?_)
 refine S_gives (Make_g hs90) T.hb104 rfl rfl (fun m2 v2 le2 hv2 => ?_)
 replace hG := rGraph_mono _ _ _ _ le2 hG
 replace hs90 := hs90.mono (rS_mono rI_mono) le2
 replace hp90 := hp90.mono (rS_mono rI_mono) le2
 obtain ⟨_, rfl, A2, c2, B2, d2, rfl, h2, g2⟩ := hv2
 refine mv ?_
 refine W_q (r_extract rfl rfl) rfl ?_
 refine W_q (r_extract rfl rfl) rfl ?_
 refine sa2 T.ze79 (fun b3 => ?_)
 refine sb2 0 T.sz79 ?_
 refine as_ ?_
 refine wn (kk4 [1,2,3,4] (sq (rg ?_)))
 refine mv (be (mv ?_))
 refine sp 13 ?_ ?_ <;> intro h4 <;> try simp only [tt] at h4
 refine tk (fb 1 T.fo79_1 ?_)
 refine tk (lb 0 T.ag65 ?_)
 refine tk (fb 1 T.fo79_1 ?_)
 refine tk (lb 1 T.ag65 ?_)
 refine tk ?_
 refine W_quiet (EqualFunc_q g2 hp90) T.hb138 rfl rfl ?_
 refine pt (as_ ?_)
 refine wn (kk1 [2] ?_)
 refine C_ret (RX_q1 rfl rfl ?_)
 simp_all [mayG]
 refine ps (ps (ps (ps (ps ?_))))
 refine pf (as_ ?_)
 refine wn (kk1 [2] ?_)
 refine C_ret (RX_q1 rfl rfl ?_)
 simp_all [mayG]
namespace T
theorem hb186 : hasBody Tryz.prog 186 = true := by kernel_rfl
theorem hb187 : hasBody Tryz.prog 187 = true := by kernel_rfl
theorem hb202 : hasBody Tryz.prog 202 = true := by kernel_rfl
theorem hb203 : hasBody Tryz.prog 203 = true := by kernel_rfl
theorem hb204 : hasBody Tryz.prog 204 = true := by kernel_rfl
end T
theorem depth_q {m : Imm} {A : Option Addr} {c : Nat} {t : List Int} (h : Ints m A c t) (a : Int) : Quiet Tryz.prog 204 [.slice A t.length c, .int .i64 a] m (.int .i64 (depthP t a)) := by
 have hlen := h.len
 refine quiet_of Tryz.func204 rfl Tryz.ntmps204 rfl (fun w => ?_)
 refine sq (rg ?_)
 refine as_ ?_
 refine wn (kk3 [0,1,4] (sq (sq (rg ?_))))
 refine mv (ln Tryz.underlying22 (mv ?_))
 refine wn (kk5 [0,1,4,7,8] ?_)
 refine C_range (Int) (t.length) (fun k1 x1 => depthP t a = depthF t (t.length - k1) (k1 : Int) x1) (fun k1 x1 => [(1, .int .i64 x1)]) (fun _ _ => []) [1] [0] (F := [(0, _)]) (a) rfl rfl (by omega) (by simp [depthP]) rfl rfl rfl rfl rfl rfl rfl (fun _ _ => rfl) (fun _ _ => rfl) (fun k1 x1 hk1 hJ1 => ?_) (fun x1 hJ1 => ?_)
 refine jj4 [0,1,7,8] (sq (rg ?_))
 refine mv (as_ ?_)
 refine wn (kk5 [0,1,5,7,8] (sq (sq (rg ?_))))
 refine mv (bl (mv ?_))
 refine sp 13 ?_ ?_ <;> intro h2 <;> try simp only [tt] at h2
 refine ps (ps (ps (ps ?_)))
 refine pt ?_
 refine wn (kk6 [0,1,5,7,8,18] ?_)
 refine ctz (sq (rg ?_))
 refine as_ ?_
 refine wn (kk6 [0,1,4,5,7,8] ?_)
 refine C_ret (RX_then (RX_block (RX_then (RX_block (RX_then (RX_q1 rfl rfl ?_))))))
 rw [hJ1, depthF_out (by omega)]
 refine tk (mv ?_)
 refine tk (mv ?_)
 refine tk (ln Tryz.underlying22 ?_)
 refine tk (bh (pf ?_))
 refine wn (kk6 [0,1,5,7,8,18] ?_)
 refine cd ?_ ?_ <;> intro h3 <;> try simp only [tt] at h3
 refine sq (rg ?_)
 refine as_ ?_
 refine wn (kk6 [0,1,4,5,7,8] ?_)
 refine C_ret (RX_then (RX_block (RX_then (RX_block (RX_then (RX_q1 rfl rfl ?_))))))
 rw [hJ1, depthF_out (by omega)]
 refine sk (kk5 [0,1,5,7,8] (sq (sq (rg ?_))))
 refine mv (mv ?_)
 obtain ⟨ad4, hA4⟩ := h.ad (j := x1.toNat) (by omega)
 obtain ⟨z4, hz4⟩ := h.getz (j := x1.toNat) (by omega)
 refine ixz hA4 Tryz.underlying22 T.sz3 ?_
 obtain ⟨l5, r5⟩ := Sl.getI h hA4 hz4
 refine liz T.ag3 l5 ?_
 refine be ?_
 refine wn (kk6 [0,1,5,7,8,23] ?_)
 refine cd ?_ ?_ <;> intro h6 <;> try simp only [tt] at h6
 refine sq (rg ?_)
 refine mv (as_ ?_)
 refine wn (kk5 [0,1,4,7,8] ?_)
 refine C_ret (RX_then (RX_block (RX_then (RX_block (RX_then (RX_q1 rfl rfl ?_))))))
 rw [hJ1, depthF_top (by omega) (by omega) (by simp_all)]
 refine sk (kk4 [0,1,7,8] (rg ?_))
 refine mv (mv ?_)
 obtain ⟨ad7, hA7⟩ := h.ad (j := x1.toNat) (by omega)
 refine ixz hA7 Tryz.underlying22 T.sz3 ?_
 obtain ⟨l8, r8⟩ := Sl.getI h hA7 hz4
 refine liz T.ag3 l8 ?_
 refine as_ ?_
 refine wn (nb (?_))
 refine NX_rng [1, 0] (_) ?_ rfl (List.Sublist.refl _) rfl (Imm.le_refl _)
 rw [hJ1, show t.length - k1 = (t.length - (k1 + 1)) + 1 by omega]
 exact depthF_up (by omega) hz4 (by simp_all)
 refine kk0 [] (sq (rg ?_))
 refine as_ ?_
 refine wn (kk1 [4] ?_)
 refine C_ret (RX_q1 rfl rfl ?_)
 rw [hJ1]; simp [depthF]
theorem right_q {m : Imm} {A : Option Addr} {c : Nat} {t : List Int} (h : Ints m A c t) : Quiet Tryz.prog 202 [.slice A t.length c] m (.bool (rightT t)) := by
 have hlen := h.len
 refine quiet_of Tryz.func202 rfl Tryz.ntmps202 rfl (fun w => ?_)
 refine sq (rg ?_)
 refine as_ ?_
 refine wn (kk2 [0,2] (sq (rg ?_)))
 refine as_ ?_
 refine wn (kk3 [0,2,3] (sq (sq (rg ?_))))
 refine mv (ln Tryz.underlying22 (mv ?_))
 refine wn (kk6 [0,2,3,6,7,8] ?_)
 refine C_range (Unit) (t.length) (fun k1 x1 => ∀ j, j < k1 → okT t j = true) (fun k1 x1 => [(3, .int .i64 (topsK t k1))]) (fun _ _ => []) [3] [0, 6] (F := [(0, _), (6, _)]) (()) rfl rfl (by omega) (by simp) rfl rfl rfl rfl rfl rfl rfl (fun _ _ => rfl) (fun _ _ => rfl) (fun k1 x1 hk1 hJ1 => ?_) (fun x1 hJ1 => ?_)
 have htk := topsK_le t k1
 refine jj5 [0,3,6,7,8] (sq (rg ?_))
 refine mv ?_
 obtain ⟨ad2, hA2⟩ := h.ad (j := k1) (by omega)
 obtain ⟨z2, hz2⟩ := h.getz (j := k1) (by omega)
 refine ixz hA2 Tryz.underlying22 T.sz3 ?_
 obtain ⟨l3, r3⟩ := Sl.getI h hA2 hz2
 refine liz T.ag3 l3 ?_
 refine as_ (as_ ?_)
 refine wn (kk7 [0,3,4,5,6,7,8] (sq (sq (rg ?_))))
 refine mv (be ?_)
 refine wn (kk8 [0,3,4,5,6,7,8,14] ?_)
 refine cd ?_ ?_ <;> intro h4 <;> try simp only [tt] at h4
 refine rg ?_
 refine mv ?_
 refine ad ?_
 refine as_ ?_
 refine wn (kk7 [0,3,4,5,6,7,8] (sq (rg ?_)))
 refine mv (bn (mv ?_))
 refine sp 19 ?_ ?_ <;> intro h5 <;> try simp only [tt] at h5
 refine tk (mv ?_)
 refine tk (mv ?_)
 refine tk ?_
 refine W_quiet (depth_q h _) T.hb204 rfl rfl ?_
 refine tk (bl (pt ?_))
 refine wn (kk6 [0,3,6,7,8,24] ?_)
 refine cd ?_ ?_ <;> intro h6 <;> try simp only [tt] at h6
 refine sq (rg ?_)
 refine as_ ?_
 refine wn (kk6 [0,2,3,6,7,8] ?_)
 refine C_ret (RX_block (RX_then (RX_block (RX_then (RX_q1 rfl rfl ?_)))))
 rw [rightT, range_all_false hk1 (by have e1 := getD_of (d := 0) hz2; simp_all [okT])]; rfl
 refine sk (nb (?_))
 have e0 := topsK_succ hz2
 first | rw [if_pos (by assumption)] at e0 | rw [if_neg (by assumption)] at e0
 rw [← e0]
 refine NX_rng [3, 0, 6] (()) ?_ rfl (List.Sublist.refl _) rfl (Imm.le_refl _)
 refine lt_succ_all hJ1 ?_
 have e1 := getD_of (d := 0) hz2
 simp_all [okT]
 refine ps (ps (ps (ps ?_)))
 refine pf ?_
 refine wn (kk6 [0,3,6,7,8,24] ?_)
 refine cfz (sk (nb (?_)))
 have e0 := topsK_succ hz2
 first | rw [if_pos (by assumption)] at e0 | rw [if_neg (by assumption)] at e0
 rw [← e0]
 refine NX_rng [3, 0, 6] (()) ?_ rfl (List.Sublist.refl _) rfl (Imm.le_refl _)
 refine lt_succ_all hJ1 ?_
 have e1 := getD_of (d := 0) hz2
 simp_all [okT]
 refine sk (kk7 [0,3,4,5,6,7,8] (sq (rg ?_)))
 refine mv (bn (mv ?_))
 refine sp 19 ?_ ?_ <;> intro h7 <;> try simp only [tt] at h7
 refine tk (mv ?_)
 refine tk (mv ?_)
 refine tk ?_
 refine W_quiet (depth_q h _) T.hb204 rfl rfl ?_
 refine tk (bl (pt ?_))
 refine wn (kk6 [0,3,6,7,8,24] ?_)
 refine cd ?_ ?_ <;> intro h8 <;> try simp only [tt] at h8
 refine sq (rg ?_)
 refine as_ ?_
 refine wn (kk6 [0,2,3,6,7,8] ?_)
 refine C_ret (RX_block (RX_then (RX_block (RX_then (RX_q1 rfl rfl ?_)))))
 rw [rightT, range_all_false hk1 (by have e1 := getD_of (d := 0) hz2; simp_all [okT])]; rfl
 refine sk (nb (?_))
 have e0 := topsK_succ hz2
 first | rw [if_pos (by assumption)] at e0 | rw [if_neg (by assumption)] at e0
 rw [← e0]
 refine NX_rng [3, 0, 6] (()) ?_ rfl (List.Sublist.refl _) rfl (Imm.le_refl _)
 refine lt_succ_all hJ1 ?_
 have e1 := getD_of (d := 0) hz2
 simp_all [okT]
 refine ps (ps (ps (ps ?_)))
 refine pf ?_
 refine wn (kk6 [0,3,6,7,8,24] ?_)
 refine cfz (sk (nb (?_)))
 have e0 := topsK_succ hz2
 first | rw [if_pos (by assumption)] at e0 | rw [if_neg (by assumption)] at e0
 rw [← e0]
 refine NX_rng [3, 0, 6] (()) ?_ rfl (List.Sublist.refl _) rfl (Imm.le_refl _)
 refine lt_succ_all hJ1 ?_
 have e1 := getD_of (d := 0) hz2
 simp_all [okT]
 refine kk1 [3] (sq (rg ?_))
 refine mv (be (as_ ?_))
 refine wn (kk1 [2] ?_)
 refine C_ret (RX_q1 rfl rfl ?_)
 rw [rightT, range_all_true hJ1]; simp
theorem in1T_q {m : Imm} {A : Option Addr} {c : Nat} {t : List Int} (h : Ints m A c t) (a : Int) {ad : Addr} (hp : m.cell? ad = some (.slice A t.length c)) : Quiet Tryz.prog 203 [.int .i64 a, .pointer (some ad)] m (.bool (decide (depthP t a < 0))) := by
 refine quiet_of Tryz.func203 rfl Tryz.ntmps203 rfl (fun w => ?_)
 refine sq (rg ?_)
 refine as_ ?_
 refine wn (kk3 [0,1,3] (sq (rg ?_)))
 refine liz T.ag22 hp ?_
 refine mv ?_
 refine W_quiet (depth_q h _) T.hb204 rfl rfl ?_
 refine bl (as_ ?_)
 refine wn (kk1 [3] ?_)
 refine C_ret (RX_q1 rfl rfl ?_)
 rfl
theorem inT_q {m : Imm} {A : Option Addr} {c : Nat} {t : List Int} (h : Ints m A c t) {A' : Option Addr} {c' : Nat} {l : List Int} (h' : Ints m A' c' l) : Quiet Tryz.prog 186 [.slice A t.length c, .slice A' l.length c'] m (.bool (inT t l)) := by
 refine quiet_of Tryz.func186 rfl Tryz.ntmps186 rfl (fun w => ?_)
 refine sq (rg ?_)
 refine S_box (l := [_]) rfl rfl rfl (fun b1 => ?_)
 refine as_ ?_
 refine wn (kk3 [1,2,4] (sq (rg ?_)))
 refine lb 0 T.ag22 ?_
 refine W_quiet (right_q h) T.hb202 rfl rfl ?_
 refine mv ?_
 refine sp 7 ?_ ?_ <;> intro h2 <;> try simp only [tt] at h2
 refine tk (mv ?_)
 refine tk ?_
 refine W_q (r_makeFunc (first := []) (cap := [_]) rfl rfl) rfl ?_
 refine tk ?_
 refine W_q (r_quietb 0 rfl (fun m' le hc => ContainsFuncI_q (h'.mono rI_mono le) (p := fun a => decide (depthP t a < 0)) (K := 203) T.hb203 (fun z hz => in1T_q (h.mono rI_mono le) z (hc 0 _ rfl))) T.hb86 rfl) rfl ?_
 refine tk (nt (pt (as_ ?_)))
 refine wn (kk1 [4] ?_)
 refine C_ret (RX_q1 rfl rfl ?_)
 simp_all [inT]
 refine ps (ps (ps (ps ?_)))
 refine pf (as_ ?_)
 refine wn (kk1 [4] ?_)
 refine C_ret (RX_q1 rfl rfl ?_)
 simp_all [inT]
theorem Meet_q {m : Imm} {A : Option Addr} {c : Nat} {t : List Int} (h : Ints m A c t) (a b : Int) (ha : I64 a) (hb : I64 b) : Quiet Tryz.prog 187 [.slice A t.length c, .int .i64 a, .int .i64 b] m (.int .i64 (meetP t a b)) := by
 have hlen := h.len
 refine quiet_of Tryz.func187 rfl Tryz.ntmps187 rfl (fun w => ?_)
 refine sq (rg ?_)
 refine as_ ?_
 refine wn (kk4 [0,1,2,6] (sq (sq (rg ?_))))
 refine mv (mv (mv ?_))
 refine S_lit (vs := [_, _]) (cs := [_, _]) Tryz.underlying22 T.sz3 T.ze3 rfl rfl rfl rfl rfl rfl (fun m1 ad1 le1 l1 => ?_)
 replace h := h.mono rI_mono le1
 have h1 : Ints m1 (some ad1) 2 _ := Ints_lit [_, _] l1 (i64s_cons (by first | assumption | exact ⟨by omega, by omega⟩) (i64s_cons (by first | assumption | exact ⟨by omega, by omega⟩) i64s_nil))
 refine W_quiet (inT_q h h1) T.hb186 rfl rfl ?_
 refine nt ?_
 refine wn (kk5 [0,1,2,6,12] ?_)
 refine cd ?_ ?_ <;> intro h2 <;> try simp only [tt] at h2
 refine sq (rg ?_)
 refine as_ ?_
 refine wn (kk4 [0,1,2,6] ?_)
 refine C_ret (RX_then (RX_q1 rfl rfl ?_))
 simp_all [meetP]
 refine sk (kk4 [0,1,2,6] (sq (bk ?_)))
 obtain ⟨hr, hda, hdb⟩ := inT_two h2
 have hin := h2
 refine C_loop (Int × Int) (meetN t a b) (fun k3 x3 => meetF t (meetN t a b) a b = meetF t (meetN t a b - k3) x3.1 x3.2 ∧ 0 ≤ depthP t x3.1 ∧ 0 ≤ depthP t x3.2 ∧ depthP t x3.1 + depthP t x3.2 + (k3 : Int) = depthP t a + depthP t b) (fun k3 x3 => [(1, .int .i64 x3.1), (2, .int .i64 x3.2)]) (fun _ _ => []) [1, 2] [0, 6] (F := [(0, _), (6, _)]) ((a, b)) ⟨by simp, hda, hdb, by simp⟩ rfl rfl rfl (fun k3 x3 hk3 hJ3 => ?_)
 obtain ⟨hJa, hJb, hJc, hJd⟩ := hJ3
 refine jj4 [0,1,2,6] (sq (sq (rg ?_)))
 refine mv (mv (bn ?_))
 refine wn (kk5 [0,1,2,6,15] ?_)
 refine cd ?_ ?_ <;> intro h4 <;> try simp only [tt] at h4
 refine sk (kk4 [0,1,2,6] (bk (sq (rg ?_))))
 refine mv (mv ?_)
 refine W_quiet (depth_q h _) T.hb204 rfl rfl ?_
 refine mv (mv ?_)
 refine W_quiet (depth_q h _) T.hb204 rfl rfl ?_
 refine bh ?_
 refine wn (kk5 [0,1,2,6,22] ?_)
 refine cd ?_ ?_ <;> intro h5 <;> try simp only [tt] at h5
 refine rg ?_
 refine mv (mv ?_)
 obtain ⟨ad6, hA6⟩ := h.ad (j := x3.1.toNat) (by have := depth_in hJb; omega)
 obtain ⟨z6, hz6⟩ := h.getz (j := x3.1.toNat) (by have := depth_in hJb; omega)
 refine W_q (r_index hA6 Tryz.underlying22 T.sz3 rfl rfl ⟨by have := depth_in hJb; omega, by have := depth_in hJb; omega⟩) rfl ?_
 obtain ⟨l7, r7⟩ := Sl.getI h hA6 hz6
 refine liz T.ag3 l7 ?_
 refine as_ ?_
 refine wn (nb (?_))
 have hne : x3.1 ≠ x3.2 := by assumption
 have hle : depthP t x3.2 ≤ depthP t x3.1 := by assumption
 have hz' := meet_up hr hJb hJc hne hle hz6
 have hu := depth_up hJb hz6 hz'
 have hlt : k3 < meetN t a b := by simp only [meetN]; omega
 refine NX_rnd [1, 2, 0, 6] hlt ((z6, x3.2)) ?_ rfl (List.Sublist.refl _) rfl (Imm.le_refl _)
 refine ⟨?_, hu.2, hJc, by have := hu.1; dsimp only; omega⟩
 rw [hJa, show meetN t a b - k3 = (meetN t a b - (k3 + 1)) + 1 by omega]
 exact meetF_a hne hle hz6
 refine rg ?_
 refine mv (mv ?_)
 obtain ⟨ad8, hA8⟩ := h.ad (j := x3.2.toNat) (by have := depth_in hJc; omega)
 obtain ⟨z8, hz8⟩ := h.getz (j := x3.2.toNat) (by have := depth_in hJc; omega)
 refine W_q (r_index hA8 Tryz.underlying22 T.sz3 rfl rfl ⟨by have := depth_in hJc; omega, by have := depth_in hJc; omega⟩) rfl ?_
 obtain ⟨l9, r9⟩ := Sl.getI h hA8 hz8
 refine liz T.ag3 l9 ?_
 refine as_ ?_
 refine wn (nb (?_))
 have hne : x3.1 ≠ x3.2 := by assumption
 have hle : ¬ depthP t x3.2 ≤ depthP t x3.1 := by omega
 have hz' := meet_up hr hJc hJb (Ne.symm hne) (by omega) hz8
 have hu := depth_up hJc hz8 hz'
 have hlt : k3 < meetN t a b := by simp only [meetN]; omega
 refine NX_rnd [1, 2, 0, 6] hlt ((x3.1, z8)) ?_ rfl (List.Sublist.refl _) rfl (Imm.le_refl _)
 refine ⟨?_, hJb, hu.2, by have := hu.1; dsimp only; omega⟩
 rw [hJa, show meetN t a b - k3 = (meetN t a b - (k3 + 1)) + 1 by omega]
 exact meetF_b hne hle hz8
 refine C_exit (EX_then (EX_then (EX_hit (?_))))
 refine kk2 [1,6] (sq (rg ?_))
 refine mv (as_ ?_)
 refine wn (kk1 [6] ?_)
 refine C_ret (RX_q1 rfl rfl ?_)
 rw [meetP, if_pos hin, hJa]; have he : x3.1 = x3.2 := by assumption
 rw [← he, meetF_eq]
theorem Over_q {m : Imm} {A : Option Addr} {c : Nat} {t : List Int} (h : Ints m A c t) (a b : Int) (ha : I64 a) (hb : I64 b) : Quiet Tryz.prog 151 [.slice A t.length c, .int .i64 a, .int .i64 b] m (.bool (overP t a b)) := by
 refine quiet_of Tryz.func151 rfl Tryz.ntmps151 rfl (fun w => ?_)
 refine sq (rg ?_)
 refine as_ ?_
 refine wn (kk4 [0,1,2,6] (sq (rg ?_)))
 refine mv (mv (mv ?_))
 refine S_lit (vs := [_, _]) (cs := [_, _]) Tryz.underlying22 T.sz3 T.ze3 rfl rfl rfl rfl rfl rfl (fun m1 ad1 le1 l1 => ?_)
 replace h := h.mono rI_mono le1
 have h1 : Ints m1 (some ad1) 2 _ := Ints_lit [_, _] l1 (i64s_cons (by first | assumption | exact ⟨by omega, by omega⟩) (i64s_cons (by first | assumption | exact ⟨by omega, by omega⟩) i64s_nil))
 refine W_quiet (inT_q h h1) T.hb186 rfl rfl ?_
 refine mv ?_
 refine sp 12 ?_ ?_ <;> intro h2 <;> try simp only [tt] at h2
 refine tk (mv ?_)
 refine tk (mv ?_)
 refine tk (mv ?_)
 refine tk ?_
 refine W_quiet (Meet_q h _ _ (by assumption) (by assumption)) T.hb187 rfl rfl ?_
 refine tk (mv ?_)
 refine tk (be (pt (as_ ?_)))
 refine wn (kk1 [6] ?_)
 refine C_ret (RX_q1 rfl rfl ?_)
 simp_all [overP]
 refine ps (ps (ps (ps (ps (ps ?_)))))
 refine pf (as_ ?_)
 refine wn (kk1 [6] ?_)
 refine C_ret (RX_q1 rfl rfl ?_)
 simp_all [overP]
theorem meet_q {m : Imm} {A : Option Addr} {c : Nat} {t : List Int} (h : Ints m A c t) {A' : Option Addr} {c' : Nat} {at_ : List Int} (h' : Ints m A' c' at_) {root : Int} {S : Int → Prop} (hC : Climb t at_ root S) (a b : Int) (ha : S a) (hb : S b) : Quiet Tryz.prog 185 [.slice A t.length c, .slice A' at_.length c', .int .i64 a, .int .i64 b] m (.int .i64 (climbP t at_ a b)) := by
 refine quiet_of Tryz.func185 rfl Tryz.ntmps185 rfl (fun w => ?_)
 refine sq (rg ?_)
 refine as_ ?_
 refine wn (kk5 [0,1,2,3,8] (sq (bk ?_)))
 refine C_loop (Int × Int) ((atS at_ a + atS at_ b).toNat + 1) (fun k1 x1 => climbP t at_ a b = climbP t at_ x1.1 x1.2 ∧ S x1.1 ∧ S x1.2 ∧ atS at_ x1.1 + atS at_ x1.2 + (k1 : Int) ≤ atS at_ a + atS at_ b) (fun k1 x1 => [(2, .int .i64 x1.1), (3, .int .i64 x1.2)]) (fun _ _ => []) [2, 3] [0, 1, 8] (F := [(0, _), (1, _), (8, _)]) ((a, b)) ⟨rfl, ha, hb, by simp⟩ rfl rfl rfl (fun k1 x1 hk1 hJ1 => ?_)
 obtain ⟨hJa, hJb, hJc, hJd⟩ := hJ1
 have hn1 := hC.nn _ hJb
 have hn2 := hC.nn _ hJc
 refine jj5 [0,1,2,3,8] (sq (sq (rg ?_)))
 refine mv (mv (bn ?_))
 refine wn (kk6 [0,1,2,3,8,11] ?_)
 refine cd ?_ ?_ <;> intro h2 <;> try simp only [tt] at h2
 refine sk (kk5 [0,1,2,3,8] (bk (sq (bk ?_))))
 refine C_loop (Int) ((atS at_ x1.1 + atS at_ x1.2).toNat + 1) (fun k3 x3 => climbP t at_ a b = climbP t at_ x3 x1.2 ∧ S x3 ∧ atS at_ x3 + (k3 : Int) ≤ atS at_ x1.1) (fun k3 x3 => [(2, .int .i64 x3)]) (fun _ _ => []) [2] [0, 1, 3, 8] (F := [(0, _), (1, _), (3, _), (8, _)]) (x1.1) ⟨hJa, hJb, by simp⟩ rfl rfl rfl (fun k3 x3 hk3 hJ3 => ?_)
 obtain ⟨hT1, hS1, hU1⟩ := hJ3
 refine jj5 [0,1,2,3,8] (sq (sq ?_))
 refine C_drawn [(0, true), (1, true), (2, true), (3, true), (4, true), (5, true), (6, true), (7, true), (8, true)] (by kernel_rfl) rfl (by kernel_rfl) (by kernel_rfl) ?_
 refine dmv ?_
 refine dmv ?_
 obtain ⟨ad4, hA4⟩ := h'.ad (j := x3.toNat) (by have := hC.inn _ hS1; have := hC.len; omega)
 obtain ⟨z4, hz4⟩ := h'.getz (j := x3.toNat) (by have := hC.inn _ hS1; have := hC.len; omega)
 refine D_q rfl (r_index hA4 Tryz.underlying22 T.sz3 rfl rfl ⟨by have := hC.inn _ hS1; omega, by have := hC.inn _ hS1; have := hC.len; omega⟩) rfl ?_
 obtain ⟨l5, r5⟩ := Sl.getI h' hA4 hz4
 refine D_q rfl (r_load_imm rfl T.ag3 l5) rfl ?_
 refine dmv ?_
 refine dmv ?_
 obtain ⟨ad6, hA6⟩ := h'.ad (j := x1.2.toNat) (by have := hC.inn _ hJc; have := hC.len; omega)
 obtain ⟨z6, hz6⟩ := h'.getz (j := x1.2.toNat) (by have := hC.inn _ hJc; have := hC.len; omega)
 refine D_q rfl (r_index hA6 Tryz.underlying22 T.sz3 rfl rfl ⟨by have := hC.inn _ hJc; omega, by have := hC.inn _ hJc; have := hC.len; omega⟩) rfl ?_
 obtain ⟨l7, r7⟩ := Sl.getI h' hA6 hz6
 refine D_q rfl (r_load_imm rfl T.ag3 l7) rfl ?_
 refine D_q rfl (r_bin rfl rfl (bin_gtr _ _ _ _)) rfl ?_
 refine D_end ?_
 refine kk6 [0,1,2,3,8,20] ?_
 refine cd ?_ ?_ <;> intro h8 <;> try simp only [tt] at h8
 refine sk (kk5 [0,1,2,3,8] (bk (rg ?_)))
 refine mv (mv ?_)
 obtain ⟨ad9, hA9⟩ := h.ad (j := x3.toNat) (by have := hC.inn _ hS1; omega)
 obtain ⟨z9, hz9⟩ := h.getz (j := x3.toNat) (by have := hC.inn _ hS1; omega)
 refine W_q (r_index hA9 Tryz.underlying22 T.sz3 rfl rfl ⟨by have := hC.inn _ hS1; omega, by have := hC.inn _ hS1; omega⟩) rfl ?_
 obtain ⟨l10, r10⟩ := Sl.getI h hA9 hz9
 refine liz T.ag3 l10 ?_
 refine as_ ?_
 refine wn (nb (?_))
 have f1 : atS at_ x3 = _ := atS_of (by assumption)
 have f2 : atS at_ x1.2 = _ := atS_of (by assumption)
 have hs := hC.step hS1 hJc (by omega)
 rw [getD_of hz9] at hs
 have hlt1 : k3 < (atS at_ x1.1 + atS at_ x1.2).toNat + 1 := by have h1 : 0 ≤ atS at_ x1.2 := hC.nn _ hJc; omega
 refine NX_rnd [2, 0, 1, 3, 8] hlt1 (z9) ?_ rfl (List.Sublist.refl _) rfl (Imm.le_refl _)
 refine ⟨?_, hs.1, by have := hs.2; omega⟩
 rw [hT1, climb_a hC hS1 hJc (by omega), getD_of hz9]
 refine C_exit (EX_then (EX_then (EX_hit (?_))))
 refine kk5 [0,1,2,3,8] (bk ?_)
 refine C_loop (Int) ((atS at_ x3 + atS at_ x1.2).toNat + 1) (fun k11 x11 => climbP t at_ a b = climbP t at_ x3 x11 ∧ S x11 ∧ atS at_ x11 + (k11 : Int) ≤ atS at_ x1.2) (fun k11 x11 => [(3, .int .i64 x11)]) (fun _ _ => []) [3] [0, 1, 2, 8] (F := [(0, _), (1, _), (2, _), (8, _)]) (x1.2) ⟨hT1, hJc, by simp⟩ rfl rfl rfl (fun k11 x11 hk11 hJ11 => ?_)
 obtain ⟨hT2, hS2, hU2⟩ := hJ11
 refine jj5 [0,1,2,3,8] (sq (sq ?_))
 refine C_drawn [(0, true), (1, true), (2, true), (3, true), (4, true), (5, true), (6, true), (7, true), (8, true)] (by kernel_rfl) rfl (by kernel_rfl) (by kernel_rfl) ?_
 refine dmv ?_
 refine dmv ?_
 obtain ⟨ad12, hA12⟩ := h'.ad (j := x11.toNat) (by have := hC.inn _ hS2; have := hC.len; omega)
 obtain ⟨z12, hz12⟩ := h'.getz (j := x11.toNat) (by have := hC.inn _ hS2; have := hC.len; omega)
 refine D_q rfl (r_index hA12 Tryz.underlying22 T.sz3 rfl rfl ⟨by have := hC.inn _ hS2; omega, by have := hC.inn _ hS2; have := hC.len; omega⟩) rfl ?_
 obtain ⟨l13, r13⟩ := Sl.getI h' hA12 hz12
 refine D_q rfl (r_load_imm rfl T.ag3 l13) rfl ?_
 refine dmv ?_
 refine dmv ?_
 obtain ⟨ad14, hA14⟩ := h'.ad (j := x3.toNat) (by have := hC.inn _ hS1; have := hC.len; omega)
 refine D_q rfl (r_index hA14 Tryz.underlying22 T.sz3 rfl rfl ⟨by have := hC.inn _ hS1; omega, by have := hC.inn _ hS1; have := hC.len; omega⟩) rfl ?_
 obtain ⟨l15, r15⟩ := Sl.getI h' hA14 hz4
 refine D_q rfl (r_load_imm rfl T.ag3 l15) rfl ?_
 refine D_q rfl (r_bin rfl rfl (bin_gtr _ _ _ _)) rfl ?_
 refine D_end ?_
 refine kk6 [0,1,2,3,8,33] ?_
 refine cd ?_ ?_ <;> intro h16 <;> try simp only [tt] at h16
 refine sk (kk5 [0,1,2,3,8] (bk (rg ?_)))
 refine mv (mv ?_)
 obtain ⟨ad17, hA17⟩ := h.ad (j := x11.toNat) (by have := hC.inn _ hS2; omega)
 obtain ⟨z17, hz17⟩ := h.getz (j := x11.toNat) (by have := hC.inn _ hS2; omega)
 refine W_q (r_index hA17 Tryz.underlying22 T.sz3 rfl rfl ⟨by have := hC.inn _ hS2; omega, by have := hC.inn _ hS2; omega⟩) rfl ?_
 obtain ⟨l18, r18⟩ := Sl.getI h hA17 hz17
 refine liz T.ag3 l18 ?_
 refine as_ ?_
 refine wn (nb (?_))
 have f1 : atS at_ x3 = _ := atS_of (by assumption)
 have f3 : atS at_ x11 = _ := atS_of (by assumption)
 have hs := hC.step hS2 hS1 (by omega)
 rw [getD_of hz17] at hs
 have hlt2 : k11 < (atS at_ x3 + atS at_ x1.2).toNat + 1 := by have h1 : 0 ≤ atS at_ x3 := hC.nn _ hS1; omega
 refine NX_rnd [3, 0, 1, 2, 8] hlt2 (z17) ?_ rfl (List.Sublist.refl _) rfl (Imm.le_refl _)
 refine ⟨?_, hs.1, by have := hs.2; omega⟩
 rw [hT2, climb_b hC hS1 hS2 (by omega), getD_of hz17]
 refine C_exit (EX_then (EX_then (EX_hit (?_))))
 refine nb (?_)
 have f1 : atS at_ x3 = _ := atS_of (by assumption)
 have f2 : atS at_ x1.2 = _ := atS_of (by assumption)
 have f3 : atS at_ x11 = _ := atS_of (by assumption)
 have hd : atS at_ x1.1 ≠ atS at_ x1.2 := fun e => (by assumption : x1.1 ≠ x1.2) (hC.inj _ _ hJb hJc e)
 have h1 : 0 ≤ atS at_ x1.2 := hC.nn _ hJc
 have h2 : 0 ≤ atS at_ x1.1 := hC.nn _ hJb
 have hlt : k1 < (atS at_ a + atS at_ b).toNat + 1 := by omega
 refine NX_rnd [2, 3, 0, 1, 8] hlt ((x3, x11)) ?_ rfl (List.Sublist.refl _) rfl (Imm.le_refl _)
 exact ⟨hT2, hS1, hS2, by dsimp only; omega⟩
 refine C_exit (EX_then (EX_then (EX_hit (?_))))
 refine kk2 [2,8] (sq (rg ?_))
 refine mv (as_ ?_)
 refine wn (kk1 [8] ?_)
 refine C_ret (RX_q1 rfl rfl ?_)
 have he : x1.1 = x1.2 := by assumption
 rw [hJa, ← he, climb_eq]
end Go.Proofs.YtipmgkhjoekaaaaGreat
namespace Go.Proofs
open Go.Shelf
def Tryz.lays189_ren : Go.Shelf.Ren := ⟨fun | 189 => 84 | 125 => 125 | 257 => 124 | 128 => 177 | 129 => 178 | 294 => 168 | 295 => 169 | 296 => 170 | 297 => 171 | 298 => 172 | 299 => 173 | 216 => 174 | 300 => 175 | 301 => 176 | 328 => 195 | 329 => 196 | 330 => 197 | 331 => 198 | 332 => 199 | 215 => 200 | 343 => 210 | n => n, fun | 28 => 22 | 3 => 3 | 46 => 147 | 0 => 0 | 51 => 177 | 53 => 49 | 4 => 4 | 183 => 172 | 182 => 171 | 131 => 105 | 5 => 5 | 9 => 9 | 218 => 190 | 222 => 194 | 228 => 200 | 229 => 111 | n => n, fun | n => n⟩
theorem Tryz.lays189 : Go.Proofs.Lays.n189 Tryz.prog Tryz.lays189_ren := {
  mixed := by kernel_rfl
  f125 := Tryz.func125.trans (congrArg some (by kernel_rfl))
  f128 := Tryz.func177.trans (congrArg some (by kernel_rfl))
  f129 := Tryz.func178.trans (congrArg some (by kernel_rfl))
  f189 := Tryz.func84.trans (congrArg some (by kernel_rfl))
  f215 := Tryz.func200.trans (congrArg some (by kernel_rfl))
  f216 := Tryz.func174.trans (congrArg some (by kernel_rfl))
  f257 := Tryz.func124.trans (congrArg some (by kernel_rfl))
  f294 := Tryz.func168.trans (congrArg some (by kernel_rfl))
  f295 := Tryz.func169.trans (congrArg some (by kernel_rfl))
  f296 := Tryz.func170.trans (congrArg some (by kernel_rfl))
  f297 := Tryz.func171.trans (congrArg some (by kernel_rfl))
  f298 := Tryz.func172.trans (congrArg some (by kernel_rfl))
  f299 := Tryz.func173.trans (congrArg some (by kernel_rfl))
  f300 := Tryz.func175.trans (congrArg some (by kernel_rfl))
  f301 := Tryz.func176.trans (congrArg some (by kernel_rfl))
  f328 := Tryz.func195.trans (congrArg some (by kernel_rfl))
  f329 := Tryz.func196.trans (congrArg some (by kernel_rfl))
  f330 := Tryz.func197.trans (congrArg some (by kernel_rfl))
  f331 := Tryz.func198.trans (congrArg some (by kernel_rfl))
  f332 := Tryz.func199.trans (congrArg some (by kernel_rfl))
  f343 := Tryz.func210.trans (congrArg some (by kernel_rfl))
  t0 := Tryz.underlying0
  a0 := Tryz.isAgg0
  z0 := Tryz.sizeOf0
  v0 := Tryz.zeroValue0
  t3 := Tryz.underlying3
  a3 := Tryz.isAgg3
  z3 := Tryz.sizeOf3
  v3 := Tryz.zeroValue3
  t4 := Tryz.underlying4
  a4 := Tryz.isAgg4
  z4 := Tryz.sizeOf4
  v4 := Tryz.zeroValue4
  t5 := Tryz.underlying5
  a5 := Tryz.isAgg5
  z5 := Tryz.sizeOf5
  v5 := Tryz.zeroValue5
  t9 := Tryz.underlying9
  a9 := Tryz.isAgg9
  z9 := Tryz.sizeOf9
  v9 := Tryz.zeroValue9
  t28 := Tryz.underlying22
  a28 := Tryz.isAgg22
  z28 := Tryz.sizeOf22
  v28 := Tryz.zeroValue22
  t46 := Tryz.underlying147
  a46 := Tryz.isAgg147
  z46 := Tryz.sizeOf147
  v46 := Tryz.zeroValue147
  t51 := Tryz.underlying177
  a51 := Tryz.isAgg177
  z51 := Tryz.sizeOf177
  v51 := Tryz.zeroValue177
  t53 := Tryz.underlying49
  a53 := Tryz.isAgg49
  z53 := Tryz.sizeOf49
  v53 := Tryz.zeroValue49
  t131 := Tryz.underlying105
  a131 := Tryz.isAgg105
  z131 := Tryz.sizeOf105
  v131 := Tryz.zeroValue105
  t182 := Tryz.underlying171
  a182 := Tryz.isAgg171
  z182 := Tryz.sizeOf171
  v182 := Tryz.zeroValue171
  t183 := Tryz.underlying172
  a183 := Tryz.isAgg172
  z183 := Tryz.sizeOf172
  v183 := Tryz.zeroValue172
  t218 := Tryz.underlying190
  a218 := Tryz.isAgg190
  z218 := Tryz.sizeOf190
  v218 := Tryz.zeroValue190
  t222 := Tryz.underlying194
  a222 := Tryz.isAgg194
  z222 := Tryz.sizeOf194
  v222 := Tryz.zeroValue194
  t228 := Tryz.underlying200
  a228 := Tryz.isAgg200
  z228 := Tryz.sizeOf200
  v228 := Tryz.zeroValue200
  t229 := Tryz.underlying111
  a229 := Tryz.isAgg111
  z229 := Tryz.sizeOf111
  v229 := Tryz.zeroValue111 }
open Go.Sort Go.RowKit in
theorem Tryz.slices_Sort_int (blk off cap : Nat) (zs : List Int) (w : World) (hH : Holds (Value.int .i64) w blk off zs.toArray) (hblk : blk < w.heap.size) (hsz : zs.length < 4611686018427387904) :
    Calls Tryz.prog 84 #[.slice (some ⟨blk, off, none⟩) zs.length cap] w fun e w' =>
      e = .returned (.tuple #[]) ∧ ∃ n os, w' = grow (putRow (Value.int .i64) (Sort.ahead w n) blk off (zs.mergeSort fun x y => decide (x ≤ y)).toArray) os := Any.slices_Sort_int Tryz.lays189 blk off cap zs w hH hblk hsz
def Tryz.lays112_ren : Go.Shelf.Ren := ⟨fun | 112 => 106 | n => n, fun | 28 => 22 | 3 => 3 | 4 => 4 | 0 => 0 | n => n, fun | n => n⟩
theorem Tryz.lays112 : Go.Proofs.Lays.n112 Tryz.prog Tryz.lays112_ren := {
  mixed := by kernel_rfl
  f112 := Tryz.func106.trans (congrArg some (by kernel_rfl))
  t0 := Tryz.underlying0
  a0 := Tryz.isAgg0
  z0 := Tryz.sizeOf0
  v0 := Tryz.zeroValue0
  t3 := Tryz.underlying3
  a3 := Tryz.isAgg3
  z3 := Tryz.sizeOf3
  v3 := Tryz.zeroValue3
  t4 := Tryz.underlying4
  a4 := Tryz.isAgg4
  z4 := Tryz.sizeOf4
  v4 := Tryz.zeroValue4
  t28 := Tryz.underlying22
  a28 := Tryz.isAgg22
  z28 := Tryz.sizeOf22
  v28 := Tryz.zeroValue22 }
open Go.RowKit Go.Lib Go.Sort in
theorem Tryz.slices_Reverse_int (blk off cap : Nat) (zs : List Int) (w : World) (hH : Holds (Value.int .i64) w blk off zs.toArray) (hsz : zs.length ≤ 9223372036854775807) :
    Calls Tryz.prog 106 #[.slice (some ⟨blk, off, none⟩) zs.length cap] w fun e w' => e = .returned (.tuple #[]) ∧ ∃ n, w' = putRow (Value.int .i64) (Sort.ahead w n) blk off zs.reverse.toArray := Any.slices_Reverse_int Tryz.lays112 blk off cap zs w hH hsz
def Tryz.laysNm220_ren : Go.Shelf.Ren := ⟨fun | 20 => 85 | n => n, fun | 22 => 22 | 3 => 3 | 4 => 4 | 0 => 0 | n => n, fun | n => n⟩
theorem Tryz.laysNm220 : Go.Proofs.Lays2.n20 Tryz.prog Tryz.laysNm220_ren := {
  mixed := by kernel_rfl
  f20 := Tryz.func85.trans (congrArg some (by kernel_rfl))
  t0 := Tryz.underlying0
  a0 := Tryz.isAgg0
  z0 := Tryz.sizeOf0
  v0 := Tryz.zeroValue0
  t3 := Tryz.underlying3
  a3 := Tryz.isAgg3
  z3 := Tryz.sizeOf3
  v3 := Tryz.zeroValue3
  t4 := Tryz.underlying4
  a4 := Tryz.isAgg4
  z4 := Tryz.sizeOf4
  v4 := Tryz.zeroValue4
  t22 := Tryz.underlying22
  a22 := Tryz.isAgg22
  z22 := Tryz.sizeOf22
  v22 := Tryz.zeroValue22
  i3 := by kernel_rfl }
open Go.RowKit Go.Lib Go.Sort in
theorem Tryz.slices_Compact_int (blk off cap : Nat) (zs : List Int) (w : World) (hH : Holds (Value.int .i64) w blk off zs.toArray) (hsz : zs.length ≤ 9223372036854775807) (hcap : zs.length ≤ cap) :
    Calls Tryz.prog 85 #[.slice (some ⟨blk, off, none⟩) zs.length cap] w fun e w' => e = .returned (.slice (some ⟨blk, off, none⟩) (Lib.compact zs).length cap) ∧ ∃ q, w' = putRow (Value.int .i64) (Sort.ahead w q) blk off (Lib.compact zs ++ List.replicate (zs.length - (Lib.compact zs).length) 0).toArray := Any.slices_Compact_int Tryz.laysNm220 blk off cap zs w hH hsz hcap
open Go.RowKit Go.Lib Go.Sort in
theorem Tryz.slices_Compact_int_empty (a : Option Addr) (cap : Nat) (w : World) :
    Calls Tryz.prog 85 #[.slice a 0 cap] w fun e w' => e = .returned (.slice a 0 cap) ∧ w' = w := Any.slices_Compact_int_empty Tryz.laysNm220 a cap w
open Go.RowKit Go.Sort in
theorem Tryz.slices_Sort_int_none (p : Option Addr) (cap : Nat) (w : World) :
    Calls Tryz.prog 84 #[.slice p 0 cap] w fun e w' => e = .returned (.tuple #[]) ∧ w' = w := Any.slices_Sort_int_none Tryz.lays189 p cap w
end Go.Proofs
namespace Go.Proofs.YtipmgkhjoekaaaaGreat
open Go Go.RowKit Go.Proofs Go.Proofs.YtipmgkhjoekaaaaGreat.Fw
attribute [local irreducible] Qt WL CW NX RX EX GX DL
namespace T
theorem ag4 : agg? Tryz.prog 4 = some false := by kernel_rfl
theorem hb105 : hasBody Tryz.prog 105 = true := by kernel_rfl
theorem hb106 : hasBody Tryz.prog 106 = true := by kernel_rfl
theorem sz4 : sz? Tryz.prog 4 = some 1 := by kernel_rfl
theorem ze123 : zero? Tryz.prog 123 = some (.agg #[(.bool false), (.bool false), (.bool false), (.bool false), (.bool false), (.bool false), (.bool false), (.bool false), (.bool false), (.bool false), (.bool false), (.bool false), (.bool false), (.bool false), (.bool false), (.bool false), (.bool false), (.bool false), (.bool false), (.bool false), (.bool false), (.bool false), (.bool false), (.bool false), (.bool false), (.bool false), (.bool false), (.bool false), (.bool false), (.bool false), (.bool false), (.bool false), (.bool false), (.bool false), (.bool false), (.bool false), (.bool false), (.bool false), (.bool false), (.bool false), (.bool false), (.bool false), (.bool false), (.bool false), (.bool false), (.bool false), (.bool false), (.bool false), (.bool false), (.bool false), (.bool false), (.bool false), (.bool false), (.bool false), (.bool false), (.bool false), (.bool false), (.bool false), (.bool false), (.bool false), (.bool false), (.bool false), (.bool false), (.bool false)]) := by kernel_rfl
theorem ze124 : zero? Tryz.prog 124 = some (.agg #[(.int .i64 0), (.int .i64 0), (.int .i64 0), (.int .i64 0), (.int .i64 0), (.int .i64 0), (.int .i64 0), (.int .i64 0), (.int .i64 0), (.int .i64 0), (.int .i64 0), (.int .i64 0), (.int .i64 0), (.int .i64 0), (.int .i64 0), (.int .i64 0), (.int .i64 0), (.int .i64 0), (.int .i64 0), (.int .i64 0), (.int .i64 0), (.int .i64 0), (.int .i64 0), (.int .i64 0), (.int .i64 0), (.int .i64 0), (.int .i64 0), (.int .i64 0), (.int .i64 0), (.int .i64 0), (.int .i64 0), (.int .i64 0), (.int .i64 0), (.int .i64 0), (.int .i64 0), (.int .i64 0), (.int .i64 0), (.int .i64 0), (.int .i64 0), (.int .i64 0), (.int .i64 0), (.int .i64 0), (.int .i64 0), (.int .i64 0), (.int .i64 0), (.int .i64 0), (.int .i64 0), (.int .i64 0), (.int .i64 0), (.int .i64 0), (.int .i64 0), (.int .i64 0), (.int .i64 0), (.int .i64 0), (.int .i64 0), (.int .i64 0), (.int .i64 0), (.int .i64 0), (.int .i64 0), (.int .i64 0), (.int .i64 0), (.int .i64 0), (.int .i64 0), (.int .i64 0)]) := by kernel_rfl
end T
theorem Reverse_d {m : Imm} {b cap : Nat} {l : List Int} (hlen : l.length ≤ 1000000) : Does Tryz.prog 106 [slI (some b) cap l] m [rowI 3 (some b) cap l] (fun m' R' v => m' = m ∧ R' = [rowI 3 (some b) cap l.reverse] ∧ v = .tuple #[]) :=
  does_put (by simp) fun w hH hb => (Tryz.slices_Reverse_int b 0 cap l w hH (by omega)).mono fun e w' h => by
    obtain ⟨rfl, n, rfl⟩ := h
    exact ⟨rfl, n, #[], (Go.Sort.grow_empty _).symm⟩
theorem Order_g {m : Imm} {es : List Value} {g : FGraph} (hG : rGraph m es g) (r : Int) : Gives Tryz.prog 67 [.agg es.toArray, .int .i64 r] m (OrderΦ g r) := by
 have hG_0 := hG
 obtain ⟨A90, c90, B90, d90, rfl, hs90, hp90⟩ := hG_0
 refine gives_of Tryz.func67 rfl Tryz.ntmps67 rfl (fun w => ?_)
 refine sq (rg ?_)
 refine S_box (l := [_, _]) rfl rfl rfl (fun b1 => ?_)
 refine as_ ?_
 refine wn (kk3 [1,2,4] ?_)
 refine C_scope 0 rfl ?_
 refine sq (sq (rg ?_))
 refine W_q (r_loadbk 0 (vs := [_, _]) rfl T.ag79 T.sz79 rfl rfl rfl) rfl ?_
 refine W_quiet (MayG_q hG) T.hb105 rfl rfl ?_
 refine nt (mv ?_)
 refine sp 14 ?_ ?_ <;> intro h2 <;> try simp only [tt] at h2
 refine ps (ps ?_)
 refine pt (mv ?_)
 refine ps (ps (ps (ps (ps ?_))))
 refine pt ?_
 refine wn (kk4 [1,2,4,24] ?_)
 refine ctz (sq (rg ?_))
 refine as_ ?_
 refine wn (kk3 [1,2,4] ?_)
 · exact C_ret (RX_then (RX_jump (RX_g1 rfl rfl ⟨none, 0, [], rfl, Sl.nil _ _ _, fun h => (by obtain ⟨h1, h2, h3⟩ := h; first | (simp_all; done) | omega), fun _ => rfl⟩)))
 refine tk (mv ?_)
 refine tk (bl (pf (mv ?_)))
 refine sp 18 ?_ ?_ <;> intro h3 <;> try simp only [tt] at h3
 refine ps (ps (ps (ps (ps ?_))))
 refine pt ?_
 refine wn (kk4 [1,2,4,24] ?_)
 refine ctz (sq (rg ?_))
 refine as_ ?_
 refine wn (kk3 [1,2,4] ?_)
 · exact C_ret (RX_then (RX_jump (RX_g1 rfl rfl ⟨none, 0, [], rfl, Sl.nil _ _ _, fun h => (by obtain ⟨h1, h2, h3⟩ := h; first | (simp_all; done) | omega), fun _ => rfl⟩)))
 refine tk (mv ?_)
 refine tk (fb 0 T.fo79_0 ?_)
 refine tk (lb 0 T.ag65 ?_)
 refine tk (ln Tryz.underlying65 ?_)
 refine tk (bh (pf ?_))
 refine wn (kk4 [1,2,4,24] ?_)
 refine cd ?_ ?_ <;> intro h4 <;> try simp only [tt] at h4
 refine sq (rg ?_)
 refine as_ ?_
 refine wn (kk3 [1,2,4] ?_)
 · exact C_ret (RX_then (RX_jump (RX_g1 rfl rfl ⟨none, 0, [], rfl, Sl.nil _ _ _, fun h => (by obtain ⟨h1, h2, h3⟩ := h; first | (simp_all; done) | omega), fun _ => rfl⟩)))
 refine sk (kk3 [1,2,4] (sq (rg ?_)))
 have hgo := mayG_ok (g := g) (by assumption)
 have hl64 := hgo.len
 refine S_alloc (l := (List.replicate 64 false).map Value.bool) T.ze123 rfl rfl (fun b5 => ?_)
 refine wn (kk4 [1,2,4,5] (sq (rg ?_)))
 refine S_alloc (l := (List.replicate 64 (0 : Int)).map (Value.int .i64)) T.ze124 rfl rfl (fun b6 => ?_)
 refine wn (kk5 [1,2,4,5,6] (sq (rg ?_)))
 refine as_ ?_
 refine wn (kk6 [1,2,4,5,6,7] (sq (rg ?_)))
 refine mv ?_
 refine S_litr (vs := [_]) (cs := [_]) Tryz.underlying22 T.sz3 T.ze3 rfl rfl rfl rfl rfl rfl rfl (fun b7 => ?_)
 refine as_ ?_
 refine wn (kk7 [1,2,4,5,6,7,8] (sq (rg ?_)))
 refine mv ?_
 refine W_q (r_indexa (o' := r.toNat) Tryz.underlying123 T.sz4 rfl rfl ⟨by omega, by omega⟩ (by omega)) rfl ?_
 refine S_storebm (f := Value.bool) (l := (List.replicate 64 false)) (true) 2 rfl rfl rfl rfl T.sz4 rfl (by first | (rw [hO1.sl]; omega) | (rw [hO1.nl]; omega) | (simp only [List.length_replicate]; omega)) ?_
 refine wn (kk6 [2,4,5,6,7,8] ?_)
 refine CW_nilRow 3 1 ?_
 refine CW_front 0 rfl rfl ?_
 refine CW_front 1 rfl rfl ?_
 refine CW_front 3 rfl rfl ?_
 refine CW_front 3 rfl rfl ?_
 refine C_again (List Int × List Bool × List Int × Int × Option Nat × Nat × List Int × Option Nat × Nat) (fun mk9 x9 => m.le mk9 ∧ (OrdSt g r x9.2.1 x9.1 (x9.2.2.1 ++ [x9.2.2.2.1]) x9.2.2.2.2.2.2.1 ∧ (∃ b, x9.2.2.2.2.1 = some b) ∧ (0 < x9.2.2.2.2.2.2.1.length → ∃ b, x9.2.2.2.2.2.2.2.1 = some b))) (fun x9 => 2 * g.succ.length - (2 * x9.2.2.2.2.2.2.1.length + (x9.2.2.1.length + 1))) (fun x9 => [(7, .slice (rowA x9.2.2.2.2.2.2.2.1) x9.2.2.2.2.2.2.1.length x9.2.2.2.2.2.2.2.2), (8, .slice (rowA x9.2.2.2.2.1) (x9.2.2.1 ++ [x9.2.2.2.1]).length x9.2.2.2.2.2.1)]) (fun x9 => [bx b6 124 (x9.1.map (Value.int .i64)), bx b5 123 (x9.2.1.map Value.bool), rowI 3 x9.2.2.2.2.1 x9.2.2.2.2.2.1 (x9.2.2.1 ++ [x9.2.2.2.1]), rowI 3 x9.2.2.2.2.2.2.2.1 x9.2.2.2.2.2.2.2.2 x9.2.2.2.2.2.2.1]) [7, 8] [2, 5, 6] (F := [(2, _), (5, _), (6, _)]) ((List.replicate 64 0, (List.replicate 64 false).set r.toNat true, [], r, some b7, 1, [], none, 0)) ⟨Imm.le_refl _, ⟨ordSt_init hgo (by omega) (by omega), ⟨_, rfl⟩, by simp⟩⟩ rfl rfl rfl (fun mk9 x9 hJ9 => ?_)
 obtain ⟨hle9, hJ9⟩ := hJ9
 replace hG := rGraph_mono _ _ _ _ hle9 hG
 replace hs90 := hs90.mono (rS_mono rI_mono) hle9
 replace hp90 := hp90.mono (rS_mono rI_mono) hle9
 obtain ⟨nx, sn, st0, tp, gs, cs, out, go, co⟩ := x9
 dsimp only at hJ9 ⊢
 obtain ⟨hO, ⟨gb, rfl⟩, hgo1⟩ := hJ9
 have hln := hO.len
 have htp := hO.rng tp (by simp)
 have hsl : (st0 ++ [tp]).length = st0.length + 1 := by simp
 have h0n := (hO.nxt tp (by simp)).1
 have hsn := hgo.lenX tp.toNat
 refine jj5 [2,5,6,7,8] (sq (rg ?_))
 refine mv (mv (ln Tryz.underlying22 ?_))
 refine W_q (r_sub rfl rfl (by unfold I64 at *; omega)) rfl ?_
 refine W_q (r_indexr (o := ((st0 ++ [tp]).length - 1)) Tryz.underlying22 T.sz3 rfl rfl ⟨by omega, by omega⟩ (by omega)) rfl ?_
 refine W_q (r_loadrI 2 rfl T.ag3 rfl (by simp : (st0 ++ [tp])[(st0 ++ [tp]).length - 1]? = some tp)) rfl ?_
 refine as_ ?_
 refine wn (kk6 [2,5,6,7,8,9] (sq (bk ?_)))
 refine CW_front 0 rfl rfl ?_
 refine C_loop (List Int) ((g.succ.getD tp.toNat []).length + 1) (fun k12 x12 => OrdSt g r sn x12 (st0 ++ [tp]) out ∧ atS nx tp + (k12 : Int) ≤ atS x12 tp) (fun k12 x12 => [(8, .slice (rowA (some gb)) (st0 ++ [tp]).length cs)]) (fun k12 x12 => [bx b6 124 (x12.map (Value.int .i64))]) [8] [2, 5, 6, 7, 9] (F := [(2, _), (5, _), (6, _), (7, _), (9, _)]) (nx) ⟨hO, by simp⟩ rfl rfl rfl (fun k12 x12 hk12 hJ12 => ?_)
 obtain ⟨hO1, hk1⟩ := hJ12
 have hnx := hO1.nxt tp (by simp)
 obtain ⟨zz, hzz⟩ : ∃ z, x12[tp.toNat]? = some z := ⟨_, List.getElem?_eq_getElem (by rw [hO1.nl]; omega)⟩
 have hza : atS x12 tp = zz := atS_of hzz
 refine jj6 [2,5,6,7,8,9] (sq (sq ?_))
 refine C_drawn [(0, true), (1, true), (2, true), (3, true), (4, true), (5, true), (6, true), (7, true), (8, true), (9, true)] (by kernel_rfl) rfl (by kernel_rfl) (by kernel_rfl) ?_
 refine dmv ?_
 refine D_q rfl (r_indexa (o' := tp.toNat) Tryz.underlying124 T.sz3 rfl rfl ⟨by omega, by omega⟩ (by omega)) rfl ?_
 refine D_q rfl (r_loadbm (f := (Value.int .i64)) 0 rfl T.ag3 rfl hzz) rfl ?_
 refine dfb 0 T.fo79_0 ?_
 refine dlb 4 T.ag65 ?_
 refine dmv ?_
 obtain ⟨ad14, hA14⟩ := hs90.ad (j := tp.toNat) (by omega)
 obtain ⟨z14, hz14⟩ := hs90.getz (j := tp.toNat) (by omega)
 refine D_q rfl (r_index hA14 Tryz.underlying65 T.sz22 rfl rfl ⟨by omega, by omega⟩) rfl ?_
 obtain ⟨A15, c15, l15, h15⟩ := Sl.getS hs90 hA14 hz14
 refine D_q rfl (r_load_imm rfl T.ag22 l15) rfl ?_
 have hze : (g.succ.getD tp.toNat []).length = z14.length := by rw [getDl_of hz14]
 refine D_q rfl (r_len Tryz.underlying22 rfl) rfl ?_
 refine D_q rfl (r_bin rfl rfl (bin_lss _ _ _ _)) rfl ?_
 refine D_end ?_
 refine kk7 [2,5,6,7,8,9,44] ?_
 refine cd ?_ ?_ <;> intro h16 <;> try simp only [tt] at h16
 refine sk (kk6 [2,5,6,7,8,9] (bk (sq ?_)))
 refine C_drawn [(0, true), (1, true), (2, true), (3, true), (4, true), (5, true), (6, true), (7, true), (8, true), (9, true), (10, true)] (by kernel_rfl) rfl (by kernel_rfl) (by kernel_rfl) ?_
 refine dfb 0 T.fo79_0 ?_
 refine dlb 4 T.ag65 ?_
 refine dmv ?_
 obtain ⟨ad17, hA17⟩ := hs90.ad (j := tp.toNat) (by omega)
 refine D_q rfl (r_index hA17 Tryz.underlying65 T.sz22 rfl rfl ⟨by omega, by omega⟩) rfl ?_
 obtain ⟨A18, c18, l18, h18⟩ := Sl.getS hs90 hA17 hz14
 refine D_q rfl (r_load_imm rfl T.ag22 l18) rfl ?_
 refine dmv ?_
 refine D_q rfl (r_indexa (o' := tp.toNat) Tryz.underlying124 T.sz3 rfl rfl ⟨by omega, by omega⟩ (by omega)) rfl ?_
 refine D_q rfl (r_loadbm (f := (Value.int .i64)) 0 rfl T.ag3 rfl hzz) rfl ?_
 obtain ⟨ad20, hA20⟩ := h18.ad (j := zz.toNat) (by omega)
 obtain ⟨z20, hz20⟩ := h18.getz (j := zz.toNat) (by omega)
 refine D_q rfl (r_index hA20 Tryz.underlying22 T.sz3 rfl rfl ⟨by omega, by omega⟩) rfl ?_
 obtain ⟨l21, r21⟩ := Sl.getI h18 hA20 hz20
 refine D_q rfl (r_load_imm rfl T.ag3 l21) rfl ?_
 refine das ?_
 refine D_end ?_
 refine kk7 [2,5,6,7,8,9,10] (sq (rg ?_))
 refine mv ?_
 refine W_q (r_indexa (o' := tp.toNat) Tryz.underlying124 T.sz3 rfl rfl ⟨by omega, by omega⟩ (by omega)) rfl ?_
 refine W_q (r_loadbm (f := (Value.int .i64)) 0 rfl T.ag3 rfl hzz) rfl ?_
 refine ad ?_
 refine W_q (r_indexa (o' := tp.toNat) Tryz.underlying124 T.sz3 rfl rfl ⟨by omega, by omega⟩ (by omega)) rfl ?_
 refine S_storebm (f := (Value.int .i64)) (l := x12) (zz + 1) 0 rfl rfl rfl rfl T.sz3 rfl (by first | (rw [hO1.sl]; omega) | (rw [hO1.nl]; omega) | (simp only [List.length_replicate]; omega)) ?_
 refine wn (kk7 [2,5,6,7,8,9,10] (sq (rg ?_)))
 have hyr := rising_get (hgo.rise _ (List.mem_of_getElem? hz14)) hz20
 have hyS : (g.succ.getD tp.toNat [])[zz.toNat]? = some z20 := by rw [getDl_of hz14]; exact hz20
 have ez : ((zz.toNat : Nat) : Int) = zz := by omega
 refine mv ?_
 refine W_q (r_indexa (o' := z20.toNat) Tryz.underlying123 T.sz4 rfl rfl ⟨by omega, by omega⟩ (by omega)) rfl ?_
 obtain ⟨bb, hbb⟩ : ∃ z, sn[z20.toNat]? = some z := ⟨_, List.getElem?_eq_getElem (by rw [hO1.sl]; omega)⟩
 refine W_q (r_loadbm (f := Value.bool) 1 rfl T.ag4 rfl hbb) rfl ?_
 refine nt ?_
 refine wn (kk8 [2,5,6,7,8,9,10,63] ?_)
 refine cd ?_ ?_ <;> intro h25 <;> try simp only [tt] at h25
 refine sq (rg ?_)
 refine mv ?_
 refine W_q (r_indexa (o' := z20.toNat) Tryz.underlying123 T.sz4 rfl rfl ⟨by omega, by omega⟩ (by omega)) rfl ?_
 refine S_storebm (f := Value.bool) (l := sn) (true) 1 rfl rfl rfl rfl T.sz4 rfl (by first | (rw [hO1.sl]; omega) | (rw [hO1.nl]; omega) | (simp only [List.length_replicate]; omega)) ?_
 refine wn (kk7 [2,5,6,7,8,9,10] (sq (rg ?_)))
 refine mv (mv ?_)
 refine S_litr (vs := [_]) (cs := [_]) Tryz.underlying22 T.sz3 T.ze3 rfl rfl rfl rfl rfl rfl rfl (fun b27 => ?_)
 refine S_appendI (l := (st0 ++ [tp])) (g1 := (some gb)) [_] 3 rfl rfl rfl Tryz.underlying22 T.sz3 T.ze3 T.by3 rfl rfl (.row 0 rfl) (by simp only [List.length_cons, List.length_nil]; omega) rfl (fun g28 c28 hg28 => ?_)
 refine as_ ?_
 refine wn (kk6 [2,5,6,7,8,9] ?_)
 refine C_goto (GX_block (GX_then (GX_block (GX_then (?_)))))
 have hnew := hO1.push hgo rfl (j := zz.toNat) (by omega) hyS (fun hm => by have h := (hO1.seen _ hyr.1 hyr.2).2 hm; rw [hbb] at h; simp_all)
 rw [ez] at hnew
 refine GX_low [7, 8, 2, 5, 6] ((_, _, st0 ++ [tp], z20, _, _, out, _, _)) ?_ ⟨hle9, ?_⟩ rfl (sub_drop 1 rfl) rfl
 have := hnew.len; dsimp only; simp only [List.length_append, List.length_cons, List.length_nil] at *; omega
 exact ⟨hnew, hg28 (by simp), hgo1⟩
 refine sk (nb (?_))
 refine NX_rnd [8, 2, 5, 6, 7, 9] (by omega) (_) ?_ rfl (List.Sublist.refl _) rfl (Imm.le_refl _)
 have hnew := hO1.pass hgo rfl (j := zz.toNat) (by omega) hyS ((hO1.seen _ hyr.1 hyr.2).1 (by rw [hbb]; simp_all))
 rw [ez] at hnew
 refine ⟨hnew, ?_⟩
 rw [atS_set htp.1 (by rw [hO1.nl]; omega) htp.1, if_pos rfl]
 omega
 refine C_exit (EX_then (EX_then (EX_hit (?_))))
 refine kk6 [2,5,6,7,8,9] (sq (rg ?_))
 have hpop := hO1.pop (by have := hO1.nxt tp (by simp); omega)
 refine mv (mv ?_)
 refine S_litr (vs := [_]) (cs := [_]) Tryz.underlying22 T.sz3 T.ze3 rfl rfl rfl rfl rfl rfl rfl (fun b29 => ?_)
 refine S_appendI (l := out) (g1 := go) [_] 4 rfl rfl rfl Tryz.underlying22 T.sz3 T.ze3 T.by3 rfl rfl (.row 0 rfl) (by simp only [List.length_cons, List.length_nil]; omega) rfl (fun g30 c30 hg30 => ?_)
 refine as_ ?_
 refine wn (kk5 [2,5,6,7,8] (sq (rg ?_)))
 refine mv (mv (ln Tryz.underlying22 ?_))
 refine W_q (r_sub rfl rfl (by unfold I64 at *; omega)) rfl ?_
 refine WL_know (k_rowI 3 rfl) (fun hr31 => ?_)
 have hrc31 := hr31.1
 refine W_q (r_slhi' (st0.length) Tryz.underlying22 rfl rfl (by omega) (by omega) T.sz3) rfl ?_
 refine WL_trimI (l' := st0) 3 (st0.length) rfl (by simp) ?_
 refine as_ ?_
 refine wn (kk5 [2,5,6,7,8] (sq (sq (rg ?_))))
 refine mv (ln Tryz.underlying22 (bg ?_))
 refine wn (kk6 [2,5,6,7,8,81] ?_)
 refine cd ?_ ?_ <;> intro h32 <;> try simp only [tt] at h32
 refine C_goto (GX_then (?_))
 obtain ⟨st1, tq, rfl⟩ := exists_snoc (l := st0) (by omega)
 refine GX_low [7, 8, 2, 5, 6] ((_, _, st1, tq, _, _, out ++ [tp], _, _)) ?_ ⟨hle9, ?_⟩ rfl (sub_drop 1 rfl) rfl
 have := hpop.len; dsimp only; simp only [List.length_append, List.length_cons, List.length_nil] at *; omega
 exact ⟨hpop, ⟨_, rfl⟩, hg30⟩
 refine sk (kk5 [2,5,6,7,8] (sq (rg ?_)))
 refine mv ?_
 obtain ⟨ob33, rfl⟩ := hg30 (by simp)
 refine WL_front 4 rfl rfl ?_
 refine S_does (R0 := [_]) rfl (Reverse_d (l := (out ++ [_])) (by simp only [List.length_append, List.length_cons, List.length_nil]; omega)) T.hb106 rfl rfl (fun m33 R33 v33 le33 hR33 => ?_)
 obtain ⟨rfl, rfl, rfl⟩ := hR33
 refine wn (kk5 [2,5,6,7,8] (sq (rg ?_)))
 refine mv (as_ ?_)
 refine wn (kk6 [2,4,5,6,7,8] ?_)
 have e0 : st0 = [] := List.eq_nil_of_length_eq_zero (by omega)
 subst e0
 have hdone := hpop.done
 refine C_ret (RX_jump (RX_know (k_rowI 0 rfl) (fun hr => ?_)))
 refine RX_freeze 0 rfl (fun _ h => h) (fun mf lef hf => ?_)
 have hfin : Ints mf _ _ _ := Ints_frz hf hr.1 hr.2.1 (by have := hpop.len; simp only [List.length_reverse, List.length_append, List.length_cons, List.length_nil] at *; omega) hr.2.2 (fun z hz => by have := hpop.rng z (by simpa using List.mem_reverse.1 hz); exact ⟨by omega, by omega⟩)
 exact RX_g1 rfl rfl ⟨_, _, _, by simp [slI], hfin, fun _ => hdone, fun h => absurd ⟨by assumption, by omega, by omega⟩ h⟩
theorem flatten_one (n : Nat) (v : Value) : (List.replicate n [v]).flatten = List.replicate n v := by
  induction n with
  | zero => rfl
  | succ n ih => rw [List.replicate_succ, List.replicate_succ, List.flatten_cons, ih]; rfl
theorem RepeatI_d {m : Imm} {A : Option Addr} {c : Nat} {p : Int} (h : Sl rI 1 m A c [p]) {k : Nat} {z : Int} (hz : z = (k : Int)) (hk : 1 ≤ k) (hk' : k ≤ 64) : Does Tryz.prog 184 [.slice A 1 c, .int .i64 z] m ([]) (fun m' R' v => ∃ b, m.le m' ∧ R' = [rowI 3 (some b) k (List.replicate k p)] ∧ v = .slice (some ⟨b, 0, none⟩) k k) := by
 subst hz
 obtain ⟨ad, rfl, es, he1, he2, he3⟩ := h.at_ 0 p rfl
 refine does_of Tryz.func184 rfl Tryz.ntmps184 rfl (fun w => ?_)
 refine sq (rg ?_)
 refine as_ ?_
 refine wn (kk3 [0,1,4] (sq (sq (rg ?_))))
 refine mv (bl ?_)
 refine wn (kk4 [0,1,4,10] ?_)
 refine cd ?_ ?_ <;> intro h1 <;> try simp only [tt] at h1
 refine rg ?_
 exfalso
 omega
 refine sk (kk3 [0,1,4] (sq (rg ?_)))
 refine mv (ln Tryz.underlying22 ?_)
 refine W_q (r_convi Tryz.underlying3 Tryz.underlying147 rfl (u64_of _ ⟨by omega, by omega⟩)) rfl ?_
 refine mv ?_
 refine W_q (r_convi Tryz.underlying3 Tryz.underlying147 rfl (u64_of _ ⟨by omega, by omega⟩)) rfl ?_
 refine W_quiet (Mul_q _ (by omega)) T.hb201 rfl rfl ?_
 refine mv ?_
 refine W_q (r_extract rfl rfl) rfl ?_
 refine W_q (r_extract rfl rfl) rfl ?_
 refine as_ (as_ ?_)
 refine wn (kk4 [0,4,5,6] (sq (sq (rg ?_))))
 refine mv (bg (mv ?_))
 refine sp 23 ?_ ?_ <;> intro h2 <;> try simp only [tt] at h2
 refine ps (ps ?_)
 refine pt ?_
 refine wn (kk4 [0,4,6,26] ?_)
 refine ctz (rg ?_)
 exfalso
 omega
 refine tk (mv ?_)
 refine tk (bg (pf ?_))
 refine wn (kk4 [0,4,6,26] ?_)
 refine cd ?_ ?_ <;> intro h3 <;> try simp only [tt] at h3
 refine rg ?_
 exfalso
 omega
 refine sk (kk3 [0,4,6] (sq (rg ?_)))
 refine mv ?_
 refine W_q (r_convi Tryz.underlying147 Tryz.underlying3 rfl (i64_of _ ⟨by omega, by omega⟩)) rfl ?_
 refine S_make (len := k) Tryz.underlying22 T.sz3 T.ze3 T.by3 rfl rfl rfl (by omega) (by unfold maxLen; omega) rfl (fun b4 => ?_)
 generalize hZ : Array.toList (madeCells _ (k * 1)) = Z
 have hZl : Z.length = k * 1 := by rw [← hZ]; simp [size_madeCells]
 refine as_ ?_
 refine wn (kk3 [0,4,7] (sq (rg ?_)))
 refine mv (mv ?_)
 refine S_copy es 0 rfl rfl rfl Tryz.underlying22 T.sz3 (by rw [he1, show min 1 k = 1 by omega, Nat.one_mul]) (Src.sl h (by simp) (fun ad' e j u hj => by cases e; simpa using he3 j u hj) (by simp)) (by rw [List.all_eq_true]; exact (fun u hu => by obtain ⟨rfl, _⟩ := he2; simp at hu; subst hu; rfl)) (by rw [he1, hZl]; omega) rfl ?_
 rw [show Z.take 0 ++ es ++ Z.drop (0 + es.length) = repL es 1 ++ Z.drop (1 * 1) by simp [repL_one, he1], show min 1 k = 1 by omega]
 refine as_ ?_
 refine wn (kk3 [4,7,8] (sq (bk ?_)))
 refine CW_front 0 rfl rfl ?_
 refine C_loop (Nat) (k) (fun k5 x5 => 1 ≤ x5 ∧ x5 ≤ k ∧ k5 + 1 ≤ x5) (fun k5 x5 => [(8, .int .i64 (x5 : Int))]) (fun k5 x5 => [row (some b4) k k 3 1 (repL es x5 ++ Z.drop (x5 * 1))]) [8] [4, 7] (F := [(4, _), (7, _)]) (1) (by omega) rfl rfl rfl (fun k5 x5 hk5 hJ5 => ?_)
 obtain ⟨hJa, hJb, hJc⟩ := hJ5
 refine jj3 [4,7,8] (sq (sq (rg ?_)))
 refine mv (mv (ln Tryz.underlying22 (bl ?_)))
 refine wn (kk4 [4,7,8,37] ?_)
 refine cd ?_ ?_ <;> intro h6 <;> try simp only [tt] at h6
 refine sk (kk3 [4,7,8] (bk ?_))
 refine C_drawnk 1 [(0, true), (1, true), (2, true), (3, true), (4, true), (5, true), (6, true), (7, false), (8, true), (9, true)] (by kernel_rfl) rfl (by kernel_rfl) (by kernel_rfl) ?_
 refine dmv ?_
 refine dmv ?_
 refine dmv ?_
 refine D_q rfl (r_sllo (h := x5) Tryz.underlying22 rfl rfl (by omega) (by omega) T.sz3 (by rw [Nat.zero_add])) rfl ?_
 refine dmv ?_
 refine dmv ?_
 refine D_q rfl (r_slhi' x5 Tryz.underlying22 rfl rfl rfl (by omega) T.sz3) rfl ?_
 refine D_f rfl (fun hs7 hc7 => ?_)
 refine S_copy (repL es (min x5 (k - x5))) 0 rfl rfl rfl Tryz.underlying22 T.sz3 (repL_len he1 _) ⟨fun w hS j u hj => ⟨_, rfl, by rw [add_plain, Nat.zero_add]; exact row_cell (hS.at (i := 0) rfl) (repL_pre he1 (by omega) hj)⟩, by simp⟩ (repL_one' (fun u hu => by obtain ⟨rfl, _⟩ := he2; simp at hu; subst hu; rfl) _) (by rw [repL_len he1, List.length_append, repL_len he1, List.length_drop, hZl]; omega) rfl ?_
 rw [repL_step he1 (k := k) (by omega)]
 refine W_leftw hs7 hc7 (Imm.le_refl _) (sub_drop 1 rfl) ?_
 refine D_q rfl (r_add rfl rfl (by unfold I64 at *; omega)) rfl ?_
 refine das ?_
 refine D_end ?_
 refine nb (?_)
 refine NX_rnd [8, 4, 7] (by omega) (x5 + min x5 (k - x5)) ?_ rfl (List.Sublist.refl _) rfl (Imm.le_refl _)
 omega
 refine C_exit (EX_then (EX_then (EX_hit (?_))))
 refine kk2 [4,7] (sq (rg ?_))
 refine mv (as_ ?_)
 refine wn (kk1 [4] ?_)
 obtain rfl : x5 = k := by omega
 have hrow : repL es x5 ++ Z.drop (x5 * 1) = (List.replicate x5 p).map (Value.int .i64) := by
   obtain ⟨rfl, _⟩ := he2
   rw [List.drop_of_length_le (by omega), List.append_nil, repL, List.map_replicate]
   exact flatten_one _ _
 refine C_ret (RX_d1 rfl rfl (List.Sublist.refl _) ⟨b4, by first | exact Imm.le_refl _ | assumption, ?_, rfl⟩)
 show [row (some b4) _ _ _ _ _] = [rowI 3 (some b4) _ _]
 rw [hrow, rowI, List.length_replicate]
namespace T
theorem hb184 : hasBody Tryz.prog 184 = true := by kernel_rfl
theorem hb185 : hasBody Tryz.prog 185 = true := by kernel_rfl
theorem hb67 : hasBody Tryz.prog 67 = true := by kernel_rfl
end T
theorem Tree_g {m : Imm} {es : List Value} {g : FGraph} (hG : rGraph m es g) (r : Int) : Gives Tryz.prog 150 [.agg es.toArray, .int .i64 r] m (TreeΦ g r) := by
 have hG_0 := hG
 obtain ⟨A90, c90, B90, d90, rfl, hs90, hp90⟩ := hG_0
 refine gives_of Tryz.func150 rfl Tryz.ntmps150 rfl (fun w => ?_)
 refine sq (rg ?_)
 refine S_box (l := [_, _]) rfl rfl rfl (fun b1 => ?_)
 refine as_ ?_
 refine wn (kk3 [1,2,4] ?_)
 refine C_scope 0 rfl ?_
 refine sq (rg ?_)
 refine W_q (r_loadbk 0 (vs := [_, _]) rfl T.ag79 T.sz79 rfl rfl rfl) rfl ?_
 refine mv ?_
 refine S_gives (Order_g hG _) T.hb67 rfl rfl (fun m2 v2 le2 hv2 => ?_)
 replace hG := rGraph_mono _ _ _ _ le2 hG
 replace hs90 := hs90.mono (rS_mono rI_mono) le2
 replace hp90 := hp90.mono (rS_mono rI_mono) le2
 obtain ⟨A2, c2, l2, rfl, h2, ho2, hn2⟩ := hv2
 refine as_ ?_
 refine wn (kk4 [1,2,4,5] (sq (sq (rg ?_))))
 refine mv (ln Tryz.underlying22 (be ?_))
 refine wn (kk5 [1,2,4,5,21] ?_)
 refine cd ?_ ?_ <;> intro h3 <;> try simp only [tt] at h3
 refine sq (rg ?_)
 refine as_ ?_
 refine wn (kk4 [1,2,4,5] ?_)
 exact C_ret (RX_then (RX_jump (RX_g1 rfl rfl ⟨none, 0, [], rfl, Sl.nil _ _ _, fun h => (by have := (ho2 h).hd; simp_all), fun _ => rfl⟩)))
 refine sk (kk4 [1,2,4,5] (sq (rg ?_)))
 have hmg : mayG g = true ∧ 0 ≤ r ∧ r < (g.succ.length : Int) := Classical.byContradiction fun h => by
   have := hn2 h
   simp_all
 have hgo := mayG_ok hmg.1
 have hol := ho2 hmg
 have hl64 := hgo.len
 have hne1 := hgo.ne
 have hlen := hol.len
 have hpl : g.pred.length = g.succ.length := by rw [hgo.pred, predsP_length]
 obtain ⟨hmg1, hmg2, hmg3⟩ := hmg
 refine fb 0 T.fo79_0 (lb 0 T.ag65 (ln Tryz.underlying65 (as_ ?_)))
 refine wn (kk5 [1,2,4,5,6] ?_)
 refine CW_cut (Imm × Nat × Nat) (fun x4 => x4.1) (fun x4 => [rowI 3 (some x4.2.1) g.succ.length (List.replicate g.succ.length (-2)), rowI 3 (some x4.2.2) g.succ.length (List.replicate g.succ.length 0), bx b1 79 [.slice A90 g.succ.length c90, .slice B90 g.pred.length d90]]) (fun x4 => [(1, .int .i64 r), (2, .pointer (some ⟨b1, 0, none⟩)), (5, .slice A2 l2.length c2), (7, .slice (some ⟨x4.2.1, 0, none⟩) g.succ.length g.succ.length), (8, slI (some x4.2.2) g.succ.length (List.replicate g.succ.length (0 : Int)))]) (fun x4 => m2.le x4.1) ?_ (fun x4 hC4 => ?_)
 refine C_drawnA 0 7 rfl (by kernel_rfl) (by kernel_rfl) ?_
 refine A_q (i := 1) (by kernel_rfl) rfl (r_move rfl) rfl ?_
 refine A_q (i := 3) (by kernel_rfl) rfl (r_move rfl) rfl ?_
 refine A_two (i := 0) (j := 4) (by kernel_rfl) rfl rfl (fun hs5 => ?_) (fun hs5 => ?_)
 refine S_lit (vs := [_]) (cs := [_]) Tryz.underlying22 T.sz3 T.ze3 rfl rfl rfl rfl rfl rfl (fun m6 ad6 le6 l6 => ?_)
 replace hG := rGraph_mono _ _ _ _ le6 hG
 replace hs90 := hs90.mono (rS_mono rI_mono) le6
 replace hp90 := hp90.mono (rS_mono rI_mono) le6
 replace h2 := h2.mono rI_mono le6
 have h6 : Ints m6 (some ad6) 1 _ := Ints_lit [_] l6 (i64s_cons (by first | assumption | exact ⟨by omega, by omega⟩) i64s_nil)
 refine A_leftw hs5 (le6) (List.Sublist.refl _) ?_
 refine A_two (i := 2) (j := 4) (by kernel_rfl) rfl rfl (fun hs7 => ?_) (fun hs7 => ?_)
 refine S_does (R0 := []) rfl (RepeatI_d h6 (k := g.succ.length) rfl (by omega) (by omega)) T.hb184 rfl rfl (fun m8 R8 v8 le8 hR8 => ?_)
 obtain ⟨rb8, _, rfl, rfl⟩ := hR8
 replace hG := rGraph_mono _ _ _ _ le8 hG
 replace hs90 := hs90.mono (rS_mono rI_mono) le8
 replace hp90 := hp90.mono (rS_mono rI_mono) le8
 replace h2 := h2.mono rI_mono le8
 replace h6 := h6.mono rI_mono le8
 refine A_leftw hs7 (Imm.le_trans (le6) le8) (sub_drop 1 rfl) ?_
 refine A_q (i := 5) (by kernel_rfl) rfl (r_assign rfl) rfl ?_
 refine aoz 4 (fun hs9 => ?_)
 refine S_makeI g.succ.length Tryz.underlying22 T.sz3 T.ze3 T.by3 rfl rfl rfl rfl (by omega) (by unfold maxLen; omega) rfl (fun b10 => ?_)
 refine A_leftw hs9 (Imm.le_trans (le6) le8) (sub_drop 2 rfl) ?_
 refine A_q (i := 6) (by kernel_rfl) rfl (r_assign rfl) rfl ?_
 refine A_end (by kernel_rfl) ?_
 refine NX_cut ((m8, rb8, b10)) (Imm.le_trans (le6) le8) [1, 2, 5, 7, 8] rfl (perm_take 1 rfl (perm_take 0 rfl (perm_take 0 rfl (List.Perm.refl _)))) rfl
 refine S_makeI g.succ.length Tryz.underlying22 T.sz3 T.ze3 T.by3 rfl rfl rfl rfl (by omega) (by unfold maxLen; omega) rfl (fun b11 => ?_)
 refine A_leftw hs7 (le6) (sub_drop 1 rfl) ?_
 refine aoz 2 (fun hs12 => ?_)
 refine S_does (R0 := []) rfl (RepeatI_d h6 (k := g.succ.length) rfl (by omega) (by omega)) T.hb184 rfl rfl (fun m13 R13 v13 le13 hR13 => ?_)
 obtain ⟨rb13, _, rfl, rfl⟩ := hR13
 replace hG := rGraph_mono _ _ _ _ le13 hG
 replace hs90 := hs90.mono (rS_mono rI_mono) le13
 replace hp90 := hp90.mono (rS_mono rI_mono) le13
 replace h2 := h2.mono rI_mono le13
 replace h6 := h6.mono rI_mono le13
 refine A_leftw hs12 (Imm.le_trans (le6) le13) (sub_drop 2 rfl) ?_
 refine A_q (i := 5) (by kernel_rfl) rfl (r_assign rfl) rfl ?_
 refine A_q (i := 6) (by kernel_rfl) rfl (r_assign rfl) rfl ?_
 refine A_end (by kernel_rfl) ?_
 refine NX_cut ((m13, rb13, b11)) (Imm.le_trans (le6) le13) [1, 2, 5, 7, 8] rfl (perm_take 0 rfl (perm_take 0 rfl (perm_take 0 rfl (List.Perm.refl _)))) rfl
 refine S_makeI g.succ.length Tryz.underlying22 T.sz3 T.ze3 T.by3 rfl rfl rfl rfl (by omega) (by unfold maxLen; omega) rfl (fun b14 => ?_)
 refine alz hs5 1 ?_
 refine aoz 0 (fun hs15 => ?_)
 refine S_lit (vs := [_]) (cs := [_]) Tryz.underlying22 T.sz3 T.ze3 rfl rfl rfl rfl rfl rfl (fun m16 ad16 le16 l16 => ?_)
 replace hG := rGraph_mono _ _ _ _ le16 hG
 replace hs90 := hs90.mono (rS_mono rI_mono) le16
 replace hp90 := hp90.mono (rS_mono rI_mono) le16
 replace h2 := h2.mono rI_mono le16
 have h16 : Ints m16 (some ad16) 1 _ := Ints_lit [_] l16 (i64s_cons (by first | assumption | exact ⟨by omega, by omega⟩) i64s_nil)
 refine A_leftw hs15 (le16) (sub_drop 1 rfl) ?_
 refine aoz 2 (fun hs17 => ?_)
 refine S_does (R0 := []) rfl (RepeatI_d h16 (k := g.succ.length) rfl (by omega) (by omega)) T.hb184 rfl rfl (fun m18 R18 v18 le18 hR18 => ?_)
 obtain ⟨rb18, _, rfl, rfl⟩ := hR18
 replace hG := rGraph_mono _ _ _ _ le18 hG
 replace hs90 := hs90.mono (rS_mono rI_mono) le18
 replace hp90 := hp90.mono (rS_mono rI_mono) le18
 replace h2 := h2.mono rI_mono le18
 replace h16 := h16.mono rI_mono le18
 refine A_leftw hs17 (Imm.le_trans (le16) le18) (sub_drop 2 rfl) ?_
 refine A_q (i := 5) (by kernel_rfl) rfl (r_assign rfl) rfl ?_
 refine A_q (i := 6) (by kernel_rfl) rfl (r_assign rfl) rfl ?_
 refine A_end (by kernel_rfl) ?_
 refine NX_cut ((m18, rb18, b14)) (Imm.le_trans (le16) le18) [1, 2, 5, 7, 8] rfl (perm_take 0 rfl (perm_take 0 rfl (perm_take 0 rfl (List.Perm.refl _)))) rfl
 obtain ⟨mc, bt, ba⟩ := x4
 dsimp only at hC4 ⊢
 replace hG := rGraph_mono _ _ _ _ hC4 hG
 replace hs90 := hs90.mono (rS_mono rI_mono) hC4
 replace hp90 := hp90.mono (rS_mono rI_mono) hC4
 replace h2 := h2.mono rI_mono hC4
 refine sq (sq (rg ?_))
 refine mv (ln Tryz.underlying22 (mv ?_))
 refine wn (kk8 [1,2,5,7,8,30,31,32] ?_)
 refine CW_front 1 rfl rfl ?_
 refine C_range (List Int) (l2.length) (fun k19 x19 => AtK l2 x19 g.succ.length k19) (fun k19 x19 => []) (fun k19 x19 => [rowI 3 (some ba) g.succ.length x19]) [] [1, 2, 5, 7, 8, 30] (F := [(1, _), (2, _), (5, _), (7, _), (8, _), (30, _)]) ((List.replicate g.succ.length 0)) rfl rfl (by omega) (atK_zero _ _) rfl rfl rfl rfl rfl rfl rfl (fun _ _ => rfl) (fun _ _ => rfl) (fun k19 x19 hk19 hJ19 => ?_) (fun x19 hJ19 => ?_)
 refine jj8 [1,2,5,7,8,30,31,32] (sq (rg ?_))
 refine mv ?_
 obtain ⟨ad20, hA20⟩ := h2.ad (j := k19) (by omega)
 obtain ⟨z20, hz20⟩ := h2.getz (j := k19) (by omega)
 refine ixz hA20 Tryz.underlying22 T.sz3 ?_
 obtain ⟨l21, r21⟩ := Sl.getI h2 hA20 hz20
 refine liz T.ag3 l21 ?_
 refine as_ (as_ ?_)
 refine wn (kk10 [1,2,5,7,8,9,10,30,31,32] (rg ?_))
 refine mv (mv ?_)
 have hxr0 := hol.rng _ (List.mem_of_getElem? hz20)
 refine mv ?_
 refine W_q (r_indexr (o := z20.toNat) Tryz.underlying22 T.sz3 rfl rfl ⟨by omega, by simp only [List.length_replicate]; omega⟩ (by omega)) rfl ?_
 refine S_storerI 0 rfl rfl T.sz3 rfl (by rw [hJ19.1]; omega) ?_
 refine wn (nb (?_))
 refine NX_rng [1, 2, 5, 7, 8, 30] (_) ?_ rfl (List.Sublist.refl _) rfl (Imm.le_refl _)
 exact atK_step hol (by omega) hJ19 hz20
 have hat0 := hJ19
 have hat := atK_ok hJ19
 have hal := hJ19.1
 refine kk5 [1,2,5,7,8] (sq (rg ?_))
 refine mv (mv (mv ?_))
 refine W_q (r_indexr (o := r.toNat) Tryz.underlying22 T.sz3 rfl rfl ⟨by omega, by omega⟩ (by omega)) rfl ?_
 refine S_storerI 1 rfl rfl T.sz3 rfl (by simp only [List.length_replicate]; omega) ?_
 refine wn (kk5 [1,2,5,7,8] ?_)
 refine CW_front 1 rfl rfl ?_
 refine C_again (List Int) (fun mk24 x24 => mc.le mk24 ∧ (∃ k r1, TreeSt g r l2 x19 x24 k r1)) (fun x24 => mu g l2 x19 x24) (fun x24 => []) (fun x24 => [rowI 3 (some bt) g.succ.length x24]) [] [1, 2, 5, 7, 8] (F := [(1, _), (2, _), (5, _), (7, _), (8, _)]) ((List.replicate g.succ.length (-2)).set r.toNat r) ⟨Imm.le_refl _, ⟨1, r, treeSt_init hgo hol hat⟩⟩ rfl rfl rfl (fun mk24 x24 hJ24 => ?_)
 obtain ⟨hle24, hJ24⟩ := hJ24
 replace hG := rGraph_mono _ _ _ _ hle24 hG
 replace hs90 := hs90.mono (rS_mono rI_mono) hle24
 replace hp90 := hp90.mono (rS_mono rI_mono) hle24
 replace h2 := h2.mono rI_mono hle24
 obtain ⟨k1, r1, hs⟩ := hJ24
 have hC := hs.climb hgo hol hat hal
 refine jj5 [1,2,5,7,8] (sq (sq (rg ?_)))
 refine mv ?_
 have htl := Sl.tail h2 (by omega)
 have hdl : (l2.drop 1).length = l2.length - 1 := List.length_drop
 refine W_q (r_sltail Tryz.underlying22 rfl rfl (by omega) h2.le T.sz3) rfl ?_
 refine ln Tryz.underlying22 (mv ?_)
 refine wn (kk8 [1,2,5,7,8,47,48,49] ?_)
 refine C_range (Unit) ((l2.length - 1)) (fun k25 x25 => ∀ (j : Nat) y, 0 < j → j < k25 + 1 → l2[j]? = some y → atS x24 y = bestX g x24 x19 y) (fun k25 x25 => []) (fun _ _ => []) [] [1, 2, 5, 7, 8, 47] (F := [(1, _), (2, _), (5, _), (7, _), (8, _), (47, _)]) (()) rfl rfl (by omega) (fun j y h1 h2 => by omega) rfl rfl rfl rfl rfl rfl rfl (fun _ _ => rfl) (fun _ _ => rfl) (fun k25 x25 hk25 hJ25 => ?_) (fun x25 hJ25 => ?_)
 refine jj8 [1,2,5,7,8,47,48,49] (sq (rg ?_))
 obtain ⟨ad26, hA26⟩ := htl.ad (j := k25) (by omega)
 obtain ⟨z26, hz26⟩ := htl.getz (j := k25) (by omega)
 refine ixz hA26 Tryz.underlying22 T.sz3 ?_
 obtain ⟨l27, r27⟩ := Sl.getI htl hA26 hz26
 refine liz T.ag3 l27 ?_
 have hx1 : l2[1 + k25]? = some z26 := by rw [← List.getElem?_drop]; exact hz26
 have hxr := hol.rng _ (List.mem_of_getElem? hx1)
 refine as_ ?_
 refine wn (kk9 [1,2,5,7,8,12,47,48,49] (sq (rg ?_)))
 refine as_ ?_
 refine wn (kk10 [1,2,5,7,8,12,13,47,48,49] (sq (sq (rg ?_))))
 refine fb 1 T.fo79_1 (lb 2 T.ag65 (mv ?_))
 obtain ⟨ad28, hA28⟩ := hp90.ad (j := z26.toNat) (by omega)
 obtain ⟨z28, hz28⟩ := hp90.getz (j := z26.toNat) (by omega)
 refine ixz hA28 Tryz.underlying65 T.sz22 ?_
 obtain ⟨A29, c29, l29, h29⟩ := Sl.getS hp90 hA28 hz28
 refine liz T.ag22 l29 ?_
 have hpE : ∀ q ∈ z28, Ed g q z26 := fun q hq => (mem_pred hgo hxr.1).1 (by rw [getDl_of hz28]; exact hq)
 refine ln Tryz.underlying22 (mv ?_)
 refine wn (kk13 [1,2,5,7,8,12,13,47,48,49,57,58,59] ?_)
 refine C_range (Int) (z28.length) (fun k30 x30 => x30 = bestF x24 x19 (z28.take k30)) (fun k30 x30 => [(13, .int .i64 x30)]) (fun _ _ => []) [13] [1, 2, 5, 7, 8, 12, 47, 48, 49, 57] (F := [(1, _), (2, _), (5, _), (7, _), (8, _), (12, _), (47, _), (48, _), (49, _), (57, _)]) (-2) rfl rfl (by have := h29.len; omega) rfl rfl rfl rfl rfl rfl rfl rfl (fun _ _ => rfl) (fun _ _ => rfl) (fun k30 x30 hk30 hJ30 => ?_) (fun x30 hJ30 => ?_)
 refine jj13 [1,2,5,7,8,12,13,47,48,49,57,58,59] (sq (rg ?_))
 obtain ⟨ad31, hA31⟩ := h29.ad (j := k30) (by omega)
 obtain ⟨z31, hz31⟩ := h29.getz (j := k30) (by omega)
 refine ixz hA31 Tryz.underlying22 T.sz3 ?_
 obtain ⟨l32, r32⟩ := Sl.getI h29 hA31 hz31
 refine liz T.ag3 l32 ?_
 have hpr := ((hpE _ (List.mem_of_getElem? hz31)).rng hgo).1
 refine as_ ?_
 refine wn (kk14 [1,2,5,7,8,12,13,15,47,48,49,57,58,59] (bk (sq (rg ?_))))
 refine mv ?_
 obtain ⟨tz, htz⟩ : ∃ z, x24[z31.toNat]? = some z := ⟨_, List.getElem?_eq_getElem (by rw [hs.len]; omega)⟩
 have hta : atS x24 z31 = tz := atS_of htz
 refine mv ?_
 refine W_q (r_indexr (o := z31.toNat) Tryz.underlying22 T.sz3 rfl rfl ⟨by omega, by omega⟩ (by omega)) rfl ?_
 refine W_q (r_loadrI 0 rfl T.ag3 rfl htz) rfl ?_
 refine be (as_ ?_)
 refine wn (kk15 [1,2,5,7,8,12,13,15,47,48,49,57,58,59,68] ?_)
 refine cd ?_ ?_ <;> intro h34 <;> try simp only [tt] at h34
 refine sk (nb (nb (?_)))
 refine NX_rng [13, 1, 2, 5, 7, 8, 12, 47, 48, 49, 57] (_) ?_ rfl (List.Sublist.refl _) rfl (Imm.le_refl _)
 rw [bestF_take hz31, ← hJ30, bestS]
 rw [if_pos (by rw [hta]; assumption)]
 refine sq (rg ?_)
 refine mv (be (as_ ?_))
 refine wn (kk15 [1,2,5,7,8,12,13,15,47,48,49,57,58,59,74] ?_)
 refine cd ?_ ?_ <;> intro h35 <;> try simp only [tt] at h35
 refine rg ?_
 refine mv (as_ ?_)
 refine wn (nb (nb (?_)))
 refine NX_rng [13, 1, 2, 5, 7, 8, 12, 47, 48, 49, 57] (_) ?_ rfl (List.Sublist.refl _) rfl (Imm.le_refl _)
 rw [bestF_take hz31, ← hJ30, bestS]
 rw [if_neg (by rw [hta]; assumption), if_pos (by assumption)]
 refine rg ?_
 refine mv (mv (mv (mv ?_)))
 have hSb := hs.bestS hgo hol hat hal hxr.1 (l := z28.take k30) (fun q hq => hpE q (List.mem_of_mem_take hq)) (by rw [← hJ30]; assumption)
 rw [← hJ30] at hSb
 have hSp := (hs.none z31 hpr.1 hpr.2).1 (by rw [hta]; assumption)
 refine W_q (r_quietI2 0 0 rfl rfl (fun z hz => by have := hs.vals z hz; exact ⟨by omega, by omega⟩) (fun z hz => by have := hat0.2.2 z hz; exact ⟨by omega, by omega⟩) (by rw [hs.len]; omega) (by rw [hal]; omega) (fun m' le a1 a2 => meet_q a1 a2 hC _ _ hSb hSp) T.hb185 (by rw [hs.len, hal]; first | rfl | (simp only [slI, List.length_replicate]; rfl))) rfl ?_
 refine as_ ?_
 refine wn (nb (nb (?_)))
 refine NX_rng [13, 1, 2, 5, 7, 8, 12, 47, 48, 49, 57] (_) ?_ rfl (List.Sublist.refl _) rfl (Imm.le_refl _)
 rw [bestF_take hz31, ← hJ30, bestS]
 rw [if_neg (by rw [hta]; assumption), if_neg (by assumption)]
 refine kk10 [1,2,5,7,8,12,13,47,48,49] (sq (rg ?_))
 refine mv ?_
 obtain ⟨xz, hxz⟩ : ∃ z, x24[z26.toNat]? = some z := ⟨_, List.getElem?_eq_getElem (by rw [hs.len]; omega)⟩
 have hxa : atS x24 z26 = xz := atS_of hxz
 have hbx : x30 = bestX g x24 x19 z26 := by rw [hJ30, bestX, getDl_of hz28, List.take_length]
 refine mv ?_
 refine W_q (r_indexr (o := z26.toNat) Tryz.underlying22 T.sz3 rfl rfl ⟨by omega, by omega⟩ (by omega)) rfl ?_
 refine W_q (r_loadrI 0 rfl T.ag3 rfl hxz) rfl ?_
 refine mv (bn ?_)
 refine wn (kk11 [1,2,5,7,8,12,13,47,48,49,84] ?_)
 refine cd ?_ ?_ <;> intro h37 <;> try simp only [tt] at h37
 refine sq (rg ?_)
 refine mv (mv (mv ?_))
 refine W_q (r_indexr (o := z26.toNat) Tryz.underlying22 T.sz3 rfl rfl ⟨by omega, by omega⟩ (by omega)) rfl ?_
 refine S_storerI 0 rfl rfl T.sz3 rfl (by rw [hs.len]; omega) ?_
 refine wn (kk8 [1,2,5,7,8,47,48,49] ?_)
 refine C_goto (GX_block (GX_then (GX_block (GX_then (?_)))))
 obtain ⟨k2, r2, hs2, hm2⟩ := hs.step hgo hol hat hal (i := 1 + k25) (by omega) hx1 (fun j y h0 h1 hy => hJ25 j y h0 (by omega) hy) (by rw [hxa, ← hbx]; assumption)
 rw [← hbx] at hs2 hm2
 refine GX_low [1, 2, 5, 7, 8] ((x24.set z26.toNat x30)) ?_ ⟨hle24, ?_⟩ rfl (List.Sublist.refl _) rfl
 exact hm2
 exact ⟨_, _, hs2⟩
 refine sk (nb (?_))
 refine NX_rng [1, 2, 5, 7, 8, 47] (()) ?_ rfl (List.Sublist.refl _) rfl (Imm.le_refl _)
 intro j y h0 h1 hy
 by_cases e : j = 1 + k25
 · subst e; rw [hx1] at hy; cases hy; rw [hxa, ← hbx]; assumption
 · exact hJ25 j y h0 (by omega) hy
 refine kk5 [1,2,5,7,8] (sq (rg ?_))
 refine mv (mv ?_)
 refine W_q (r_indexr (o := r.toNat) Tryz.underlying22 T.sz3 rfl rfl ⟨by omega, by omega⟩ (by omega)) rfl ?_
 refine S_storerI 0 rfl rfl T.sz3 rfl (by rw [hs.len]; omega) ?_
 refine wn (kk5 [1,2,5,7,8] (sq (rg ?_)))
 refine mv (as_ ?_)
 refine wn (kk6 [1,2,4,5,7,8] ?_)
 have hd := hs.done hgo hol hat hal (fun j y h0 hy => hJ25 j y h0 (by have := (List.getElem?_eq_some_iff.1 hy).1; omega) hy)
 refine C_ret (RX_jump (RX_know (k_rowI 0 rfl) (fun hr => ?_)))
 refine RX_freeze 0 rfl (fun _ h => h) (fun mf lef hf => ?_)
 have hfin : Ints mf _ _ _ := Ints_frz hf hr.1 hr.2.1 (by rw [List.length_set, hs.len]; omega) hr.2.2 (fun z hz => (List.mem_or_eq_of_mem_set hz).elim (fun hz => by have := hs.vals z hz; exact ⟨by omega, by omega⟩) (fun e => by subst e; exact ⟨by omega, by omega⟩))
 exact RX_g1 rfl rfl ⟨_, _, _, by rw [List.length_set, hs.len]; rfl, hfin, fun _ => ⟨hd, (treeP_eq hmg2 hd).symm⟩, fun h => absurd ⟨hmg1, hmg2, hmg3⟩ h⟩
end Go.Proofs.YtipmgkhjoekaaaaGreat
