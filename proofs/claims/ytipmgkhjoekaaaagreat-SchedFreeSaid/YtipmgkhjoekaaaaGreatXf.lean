/- A part of a proof about a given program: rules, plain functions and walks. -/
import Derived.Deep.Slices
import Derived.SizedLaws
import Derived.Test.YtipmgkhjoekaaaaGreatXe
set_option linter.unusedVariables false
namespace Go.Proofs.YtipmgkhjoekaaaaGreat
open Go Go.Proofs.YtipmgkhjoekaaaaGreat.Fw
/-! Orders: which are legal, what is made by one, the flat one, depths. -/
instance : Inhabited FOp := ⟨⟨0, 0, 0, 0, [], 0⟩⟩
instance : Inhabited FEnd := ⟨⟨0, 0, []⟩⟩
instance : Inhabited FBlk := ⟨⟨[], [], ⟨0, 0, []⟩⟩⟩
def inM (L : List (Int × Bool)) (a : Int) : Bool := (getL L a).getD false
def standsB (L : List (Int × Bool)) (l : List Int) : Bool := !(l.any fun k => !(inM L k))
noncomputable def rightP (f : FFun) (block : Int) : Bool := decide (0 ≤ block) && (decide (block < (f.blocks.length : Int)) && (checkP f 2 == 0))
def putM (order : List Int) (k : Nat) : List (Int × Bool) := (order.take k).foldl (fun L a => putL L a true) []
def okO (b : FBlk) (order : List Int) (k : Nat) : Bool := match order[k]? with
  | some a => !(decide (a < 0) || decide ((b.ops.length : Int) ≤ a)) && (!(inM (putM order k) a) && standsB (putM order k) ((hangsP b.ops).getD a.toNat []))
  | none => true
def legalP (b : FBlk) (order : List Int) : Bool := decide (order.length = b.ops.length) && (List.range order.length).all (okO b order)
noncomputable def LegalP (f : FFun) (block : Int) (order : List Int) : Bool := rightP f block && (match f.blocks[block.toNat]? with | some b => legalP b order | none => false)
theorem putM_succ {order : List Int} {k : Nat} {a : Int} (h : order[k]? = some a) : putM order (k + 1) = putL (putM order k) a true := by
  rw [putM, List.take_add_one, h]; simp [putM]
section
variable {b : FBlk} {order : List Int} {k : Nat} {a : Int}
theorem okO_f1 (h : order[k]? = some a) (h1 : a < 0 ∨ (b.ops.length : Int) ≤ a) : okO b order k = false := by
  have : (decide (a < 0) || decide ((b.ops.length : Int) ≤ a)) = true := by simpa using h1
  simp only [okO, h, this]; rfl
theorem okO_f2 (h : order[k]? = some a) (h1 : inM (putM order k) a = true) : okO b order k = false := by simp [okO, h, h1]
theorem okO_f3 {l : List Int} (h : order[k]? = some a) (hl : (hangsP b.ops)[a.toNat]? = some l) (h1 : standsB (putM order k) l = false) : okO b order k = false := by simp only [okO, h, getDl_of hl, h1]; simp
theorem okO_t {l : List Int} (h : order[k]? = some a) (h0 : 0 ≤ a) (hn : a < (b.ops.length : Int)) (h1 : inM (putM order k) a = false) (hl : (hangsP b.ops)[a.toNat]? = some l) (h2 : standsB (putM order k) l = true) : okO b order k = true := by
  have : (decide (a < 0) || decide ((b.ops.length : Int) ≤ a)) = false := by
    rw [Bool.or_eq_false_iff, decide_eq_false_iff_not, decide_eq_false_iff_not]; omega
  simp only [okO, h, this, h1, getDl_of hl, h2]; rfl
theorem legalP_f0 (h : ¬ (order.length : Int) = (b.ops.length : Int)) : legalP b order = false := by
  have : ¬ order.length = b.ops.length := by omega
  simp [legalP, this]
theorem legalP_f (h : order[k]? = some a) (h1 : okO b order k = false) : legalP b order = false := by
  have : (List.range order.length).all (okO b order) = false := range_all_false (List.getElem?_eq_some_iff.1 h).1 h1
  simp [legalP, this]
theorem legalP_t (h : (order.length : Int) = (b.ops.length : Int)) (h1 : ∀ j, j < order.length → okO b order j = true) : legalP b order = true := by
  have e : order.length = b.ops.length := by omega
  rw [legalP, range_all_true h1, decide_eq_true e]; rfl
end
/-- A right function's lists are short. -/
theorem right_small {f : FFun} {block : Int} (h : rightP f block = true) : mayF f = true := by
  simp only [rightP, Bool.and_eq_true, beq_iff_eq] at h
  have h1 := h.2.2
  simp only [checkP] at h1
  rw [if_neg (by omega), lookP] at h1
  cases hm : mayF f with
  | true => rfl
  | false => rw [if_pos hm] at h1; omega
theorem inB_all {l : List Int} (h : inB l = true) : ∀ z ∈ l, outN z = false := by
  intro z hz
  have := List.any_eq_false.1 (by simpa [inB] using h : l.any outN = false) z hz
  simpa using this
theorem may_small {f : FFun} (h : mayF f = true) {b : FBlk} (hb : b ∈ f.blocks) : b.ops.length ≤ 512 ∧ (∀ o ∈ b.ops, o.args.length ≤ 64) ∧ b.phis.length ≤ 512 := by
  simp only [mayF, Bool.and_eq_true, Bool.not_eq_true', Bool.or_eq_false_iff, decide_eq_false_iff_not] at h
  obtain ⟨⟨⟨⟨⟨h1, h2⟩, h4⟩, h5⟩, h6⟩, h3⟩ := h
  have hblk := List.any_eq_false.1 h3 b hb
  have hm : mayBlock b = true := by simpa using hblk
  simp only [mayBlock, Bool.and_eq_true] at hm
  have hsum : ((b.phis.length : Int) + (b.ops.length : Int)) ≤ (f.blocks.map fun b => ((b.phis.length : Int) + (b.ops.length : Int))).sum := by
    clear h1 h2 h3 h4 h5 h6 hblk hm
    revert hb
    generalize f.blocks = l
    intro hb
    induction l with
    | nil => cases hb
    | cons x r ih =>
      have hpos : ∀ l : List FBlk, 0 ≤ (l.map fun b => ((b.phis.length : Int) + (b.ops.length : Int))).sum := fun l => by
        induction l with
        | nil => simp
        | cons y s ih => simp only [List.map_cons, List.sum_cons]; omega
      have := hpos r
      simp only [List.map_cons, List.sum_cons]
      rcases List.mem_cons.1 hb with rfl | hb
      · omega
      · have := ih hb; omega
  simp only [sizeF] at h4
  refine ⟨by omega, fun o ho => ?_, by omega⟩
  have := List.all_eq_true.1 hm.2.1 o ho
  simp only [mayOpC, Bool.not_eq_true', Bool.or_eq_false_iff, Bool.not_eq_false', listsB, List.all_cons, List.all_nil, Bool.and_true, decide_eq_false_iff_not] at this
  have h2 := this.2
  omega
theorem right_block {f : FFun} {block : Int} (h : rightP f block = true) : 0 ≤ block ∧ block < (f.blocks.length : Int) := by
  simp only [rightP, Bool.and_eq_true, decide_eq_true_eq] at h
  exact ⟨h.1, h.2.1⟩
/-! Depths. -/
def depS (ll : List (List Int)) (out : List Int) (l : List Int) : Int := l.foldl (fun n k => max n (out.getD k.toNat 0 + 1)) 0
def depK (ll : List (List Int)) (k : Nat) : List Int := (ll.take k).foldl (fun out l => out ++ [depS ll out l]) []
def depP (ll : List (List Int)) : List Int := depK ll ll.length
theorem depK_succ {ll : List (List Int)} {k : Nat} {l : List Int} (h : ll[k]? = some l) : depK ll (k + 1) = depK ll k ++ [depS ll (depK ll k) l] := by
  rw [depK, List.take_add_one, h]; simp [depK]
theorem depK_len (ll : List (List Int)) : ∀ k : Nat, k ≤ ll.length → (depK ll k).length = k
  | 0, _ => rfl
  | k + 1, h => by rw [depK_succ (List.getElem?_eq_getElem (by omega)), List.length_append, depK_len ll k (by omega)]; rfl
theorem depS_take {ll : List (List Int)} {out l : List Int} {j : Nat} {z : Int} (h : l[j]? = some z) : depS ll out (l.take (j + 1)) = max (depS ll out (l.take j)) (out.getD z.toNat 0 + 1) := by
  rw [depS, List.take_add_one, h]; simp [depS]
theorem depS_rng {ll : List (List Int)} {out : List Int} {K : Int} (h : ∀ v ∈ out, 0 ≤ v ∧ v < K) (hK : 0 ≤ K) : ∀ l : List Int, (∀ z ∈ l, 0 ≤ z ∧ z < out.length) → 0 ≤ depS ll out l ∧ depS ll out l ≤ K := by
  intro l hl
  refine snoc_ind (p := fun l : List Int => (∀ z : Int, z ∈ l → 0 ≤ z ∧ z < (out.length : Int)) → 0 ≤ depS ll out l ∧ depS ll out l ≤ K) (fun _ => by simp [depS]; omega) (fun l x ih hx => ?_) l hl
  have h1 := ih fun z hz => hx z (by simp [hz])
  have hxr := hx x (by simp)
  have hz : out[x.toNat]? = some out[x.toNat] := List.getElem?_eq_getElem (by omega)
  have h2 := h _ (List.mem_of_getElem? hz)
  have e : depS ll out (l ++ [x]) = max (depS ll out l) (out.getD x.toNat 0 + 1) := by simp [depS]
  rw [e, getD_of hz]; omega
theorem depK_rng {ops : List FOp} : ∀ k : Nat, k ≤ ops.length → ∀ v ∈ depK (hangsP ops) k, 0 ≤ v ∧ v < (k : Int)
  | 0, _ => by simp [depK]
  | k + 1, hk => by
    have hkl : k < (hangsP ops).length := by rw [hangsP_len]; omega
    have hz : (hangsP ops)[k]? = some (hangsP ops)[k] := List.getElem?_eq_getElem hkl
    have ih := depK_rng (ops := ops) k (by omega)
    intro v hv
    rw [depK_succ hz] at hv
    have hl := depK_len (hangsP ops) k (by rw [hangsP_len]; omega)
    rcases List.mem_append.1 hv with hv | hv
    · have := ih v hv; omega
    · simp at hv; subst hv
      have := depS_rng (ll := hangsP ops) (out := depK (hangsP ops) k) (K := (k : Int)) ih (by omega) (hangsP ops)[k] (fun z hz' => by rw [hl]; exact hangsP_rng hz z hz')
      omega
theorem LegalP_f {f : FFun} {block : Int} {order : List Int} (h : rightP f block = false) : LegalP f block order = false := by rw [LegalP, h]; rfl
theorem LegalP_t {f : FFun} {block : Int} {order : List Int} {b : FBlk} (h : rightP f block = true) (hb : f.blocks[block.toNat]? = some b) : LegalP f block order = legalP b order := by rw [LegalP, h, hb]; rfl
/-! What an order does: the operations in it. -/
def ordOps (b : FBlk) (order : List Int) : List FOp := order.map fun a => b.ops.getD a.toNat ⟨0, 0, 0, 0, [], 0⟩
def putOps (f : FFun) (block : Int) (order : List Int) : FFun := { f with blocks := f.blocks.modify block.toNat fun b => { b with ops := ordOps b order } }
/-- What each operation of a block hangs on. -/
noncomputable def HangsP (f : FFun) (block at_ : Int) : List Int := if rightP f block = true then (if 0 ≤ at_ then (match f.blocks[block.toNat]? with | some b => (hangsP b.ops).getD at_.toNat [] | none => []) else []) else []
theorem HangsP_f {f : FFun} {block at_ : Int} (h : rightP f block = false) : HangsP f block at_ = [] := by simp [HangsP, h]
theorem HangsP_f1 {f : FFun} {block at_ : Int} (h : at_ < 0) : HangsP f block at_ = [] := by
  have : ¬ 0 ≤ at_ := by omega
  simp [HangsP, this]
theorem HangsP_f2 {f : FFun} {block at_ : Int} {b : FBlk} (hb : f.blocks[block.toNat]? = some b) (h : (b.ops.length : Int) ≤ at_) : HangsP f block at_ = [] := by
  have : (hangsP b.ops)[at_.toNat]? = none := List.getElem?_eq_none (by rw [hangsP_len]; omega)
  simp only [HangsP, hb, List.getD_eq_getElem?_getD, this]; simp
theorem HangsP_t {f : FFun} {block at_ : Int} {b : FBlk} {l : List Int} (h : rightP f block = true) (h0 : 0 ≤ at_) (hb : f.blocks[block.toNat]? = some b) (hl : (hangsP b.ops)[at_.toNat]? = some l) : HangsP f block at_ = l := by
  simp [HangsP, h, h0, hb, hl]
noncomputable def DepthP (f : FFun) (block : Int) : List Int := if rightP f block = true then (match f.blocks[block.toNat]? with | some b => depP (hangsP b.ops) | none => []) else []
theorem DepthP_f {f : FFun} {block : Int} (h : rightP f block = false) : DepthP f block = [] := by simp [DepthP, h]
theorem DepthP_t {f : FFun} {block : Int} {b : FBlk} (h : rightP f block = true) (hb : f.blocks[block.toNat]? = some b) : DepthP f block = depP (hangsP b.ops) := by simp [DepthP, h, hb]
end Go.Proofs.YtipmgkhjoekaaaaGreat

set_option linter.unusedVariables false
namespace Go.Proofs.YtipmgkhjoekaaaaGreat
open Go Go.Proofs.YtipmgkhjoekaaaaGreat.Fw
/-! The flat order. -/
theorem getL_putL {α : Type} (l : List (Int × α)) (x y : Int) (v : α) : getL (putL l x v) y = if x = y then some v else getL l y := by
  induction l with
  | nil => simp [putL, getL]
  | cons p r ih =>
    simp only [putL]
    by_cases h : p.1 = x
    · rw [if_pos h]
      by_cases h2 : x = y
      · simp [getL, h2]
      · simp [getL, h2, h]
    · rw [if_neg h]
      by_cases h3 : p.1 = y
      · have : ¬ x = y := fun e => h (by rw [h3, e])
        simp [getL, h3, this]
      · simp [getL, h3, ih]
theorem inM_putL (L : List (Int × Bool)) (x y : Int) : inM (putL L x true) y = (decide (x = y) || inM L y) := by
  simp only [inM, getL_putL]
  by_cases h : x = y <;> simp [h]
theorem inM_fold (l : List Int) (L : List (Int × Bool)) (y : Int) : inM (l.foldl (fun L a => putL L a true) L) y = (decide (y ∈ l) || inM L y) := by
  induction l generalizing L with
  | nil => simp
  | cons a r ih =>
    rw [List.foldl_cons, ih, inM_putL]
    by_cases h1 : y = a
    · subst h1; simp
    · have : ¬ a = y := fun e => h1 e.symm
      simp [h1, this]
theorem inM_putM (order : List Int) (k : Nat) (y : Int) : inM (putM order k) y = decide (y ∈ order.take k) := by
  rw [putM, inM_fold]; simp [inM, getL]
def putL1 (out : List Int) : List (Int × Bool) := putM out out.length
theorem putL1_in (out : List Int) (y : Int) : inM (putL1 out) y = decide (y ∈ out) := by rw [putL1, inM_putM, List.take_length]
theorem putL1_snoc (out : List Int) (a : Int) : putL1 (out ++ [a]) = putL (putL1 out) a true := by
  rw [putL1, putL1, putM, putM, List.take_length, List.take_length, List.foldl_append]; rfl
def condF (ops : List FOp) (L : List (Int × Bool)) (pass : Bool) (a : Nat) : Bool := !(inM L a) && ((pureK (ops.getD a default).kind == pass) && standsB L ((hangsP ops).getD a []))
def flatNext (ops : List FOp) (L : List (Int × Bool)) : Option Nat := match (List.range ops.length).find? (condF ops L true) with
  | some a => some a
  | none => (List.range ops.length).find? (condF ops L false)
def flatRun (ops : List FOp) : Nat → List Int → List Int
  | 0, out => out
  | t + 1, out => match flatNext ops (putL1 out) with
    | none => out
    | some a => flatRun ops t (out ++ [(a : Int)])
def flatP (ops : List FOp) : List Int := flatRun ops ops.length []
noncomputable def FlatP (f : FFun) (block : Int) : List Int := if rightP f block = true then (match f.blocks[block.toNat]? with | some b => flatP b.ops | none => []) else []
theorem FlatP_f {f : FFun} {block : Int} (h : rightP f block = false) : FlatP f block = [] := by simp [FlatP, h]
theorem FlatP_t {f : FFun} {block : Int} {b : FBlk} (h : rightP f block = true) (hb : f.blocks[block.toNat]? = some b) : FlatP f block = flatP b.ops := by simp [FlatP, h, hb]
structure FlatSt (ops : List FOp) (L : List (Int × Bool)) (out : List Int) : Prop where
  L_eq : L = putL1 out
  nd : out.Nodup
  rng : ∀ z ∈ out, 0 ≤ z ∧ z < (ops.length : Int)
  run : flatP ops = flatRun ops (ops.length - out.length) out
theorem flatSt_init (ops : List FOp) : FlatSt ops [] [] := ⟨rfl, List.nodup_nil, by simp, rfl⟩
theorem find_false {n : Nat} {p : Nat → Bool} (h : ∀ a, a < n → p a = false) : (List.range n).find? p = none := by
  rw [List.find?_eq_none]; intro a ha; rw [h a (List.mem_range.1 ha)]; decide
theorem find_at {n k : Nat} {p : Nat → Bool} (hk : k < n) (h : ∀ a, a < k → p a = false) (h1 : p k = true) : (List.range n).find? p = some k := by
  rw [List.find?_range_eq_some]
  exact ⟨h1, List.mem_range.2 hk, fun j hj => by rw [h j hj]; rfl⟩
section
variable {ops : List FOp} {L : List (Int × Bool)} {out : List Int}
theorem flatNext_some {k0 k1 : Nat} (hk0 : k0 < 2) (hk1 : k1 < ops.length) (h0 : ∀ j, j < k0 → ∀ a, a < ops.length → condF ops L (j == 0) a = false) (h1 : ∀ a, a < k1 → condF ops L (k0 == 0) a = false) (h2 : condF ops L (k0 == 0) k1 = true) : flatNext ops L = some k1 := by
  rcases k0 with _ | _ | k0
  · rw [flatNext, show (List.range ops.length).find? (condF ops L true) = some k1 from find_at hk1 h1 h2]
  · have := find_false (fun a ha => h0 0 (by omega) a ha)
    rw [flatNext, show (List.range ops.length).find? (condF ops L true) = none from this]
    exact find_at hk1 h1 h2
  · omega
theorem flatNext_none (h0 : ∀ j, j < 2 → ∀ a, a < ops.length → condF ops L (j == 0) a = false) : flatNext ops L = none := by
  rw [flatNext, show (List.range ops.length).find? (condF ops L true) = none from find_false (fun a ha => h0 0 (by omega) a ha)]
  exact find_false (fun a ha => h0 1 (by omega) a ha)
theorem subset_range {l : List Int} {n : Nat} (h : ∀ z ∈ l, 0 ≤ z ∧ z < (n : Int)) (hn : l.Nodup) : l.length ≤ n := by
  have hs : l ⊆ (List.range n).map (Int.ofNat ·) := by
    intro z hz
    have := h z hz
    rw [List.mem_map]
    exact ⟨z.toNat, List.mem_range.2 (by omega), by simp; omega⟩
  have := List.Nodup.length_le_of_subset hn hs
  simpa using this
theorem FlatSt.len (h : FlatSt ops L out) : out.length ≤ ops.length := subset_range h.rng h.nd
theorem FlatSt.snoc {k1 : Nat} (h : FlatSt ops L out) (hk : k1 < ops.length) (hn : flatNext ops L = some k1) (hi : inM L (k1 : Int) = false) : FlatSt ops (putL L (k1 : Int) true) (out ++ [(k1 : Int)]) ∧ out.length < ops.length := by
  have hL := h.L_eq
  have hni : (k1 : Int) ∉ out := by
    rw [hL, putL1_in] at hi; simpa using hi
  have hnd : (out ++ [(k1 : Int)]).Nodup := by
    rw [List.nodup_append]
    exact ⟨h.nd, by simp, fun a ha b hb => by simp at hb; subst hb; rintro rfl; exact hni ha⟩
  have hrng : ∀ z ∈ out ++ [(k1 : Int)], 0 ≤ z ∧ z < (ops.length : Int) := by
    intro z hz
    rcases List.mem_append.1 hz with hz | hz
    · exact h.rng z hz
    · simp at hz; omega
  have hl := subset_range hrng hnd
  rw [List.length_append, List.length_singleton] at hl
  refine ⟨⟨by rw [putL1_snoc, hL], hnd, hrng, ?_⟩, by omega⟩
  rw [h.run, show ops.length - out.length = (ops.length - (out ++ [(k1 : Int)]).length) + 1 by rw [List.length_append, List.length_singleton]; omega, flatRun, ← hL, hn]
theorem FlatSt.end_ (h : FlatSt ops L out) (hn : flatNext ops L = none) : flatP ops = out := by
  rw [h.run]
  cases ops.length - out.length with
  | zero => rfl
  | succ t => rw [flatRun, ← h.L_eq, hn]
theorem condF_1 {pass : Bool} {k : Nat} (h : inM L (k : Int) = true) : condF ops L pass k = false := by simp [condF, h]
theorem condF_2 {pass : Bool} {k : Nat} {o : FOp} (ho : ops[k]? = some o) (h : (pureK o.kind == pass) = false) : condF ops L pass k = false := by
  simp [condF, ho, h]
theorem condF_3 {pass : Bool} {k : Nat} {l : List Int} (hl : (hangsP ops)[k]? = some l) (h : standsB L l = false) : condF ops L pass k = false := by simp [condF, hl, h]
theorem condF_t {pass : Bool} {k : Nat} {o : FOp} {l : List Int} (h1 : inM L (k : Int) = false) (ho : ops[k]? = some o) (h2 : (pureK o.kind == pass) = true) (hl : (hangsP ops)[k]? = some l) (h3 : standsB L l = true) : condF ops L pass k = true := by
  simp only [condF, h1, List.getD_eq_getElem?_getD, ho, hl, Option.getD_some, h2, h3]; rfl
theorem pass_lit {k : Nat} (h : k < 2) : [Value.bool true, Value.bool false][k]? = some (.bool (k == 0)) := by
  rcases k with _ | _ | k
  · rfl
  · rfl
  · omega
end
end Go.Proofs.YtipmgkhjoekaaaaGreat

set_option linter.unusedVariables false
set_option linter.unusedSimpArgs false
namespace Go.Proofs.YtipmgkhjoekaaaaGreat.Fw
open Go Go.RowKit
/-! Cells of structs, one behind the other. -/
structure SRows {α : Type _} (r : Rep α) (sz : Nat) (m : Imm) (xs : List Value) (l : List α) : Prop where
  len : xs.length = l.length * sz
  at_ : ∀ j z, l[j]? = some z → ∃ es, es.length = sz ∧ r m es z ∧ ∀ k v, es[k]? = some v → xs[j * sz + k]? = some v
section
variable {α : Type _} {r : Rep α} {sz : Nat} {m : Imm} {xs : List Value} {l : List α}
theorem SRows.nil : SRows r sz m [] [] := ⟨by simp, by simp⟩
theorem SRows.mono (hr : Mono r) {m' : Imm} (hm : m.le m') (h : SRows r sz m xs l) : SRows r sz m' xs l := ⟨h.len, fun j z hj => by
  obtain ⟨es, h1, h2, h3⟩ := h.at_ j z hj
  exact ⟨es, h1, hr _ _ _ _ hm h2, h3⟩⟩
theorem SRows.snoc (h : SRows r sz m xs l) {es : List Value} {z : α} (hes : es.length = sz) (hz : r m es z) : SRows r sz m (xs ++ es) (l ++ [z]) := by
  refine ⟨by rw [List.length_append, List.length_append, h.len, hes, List.length_singleton, Nat.add_mul, Nat.one_mul], fun j z' hj => ?_⟩
  by_cases hjn : j < l.length
  · rw [List.getElem?_append_left hjn] at hj
    obtain ⟨es', h1, h2, h3⟩ := h.at_ j z' hj
    refine ⟨es', h1, h2, fun k v hk => ?_⟩
    have h4 := h3 k v hk
    rw [List.getElem?_append_left (List.getElem?_eq_some_iff.1 h4).1]; exact h4
  · have hlt := (List.getElem?_eq_some_iff.1 hj).1
    rw [List.length_append, List.length_singleton] at hlt
    obtain rfl : j = l.length := by omega
    rw [List.getElem?_append_right (Nat.le_refl _), Nat.sub_self] at hj
    simp only [List.getElem?_cons_zero, Option.some.injEq] at hj
    subst hj
    refine ⟨es, hes, hz, fun k v hk => ?_⟩
    rw [List.getElem?_append_right (by rw [h.len]; omega), h.len, Nat.add_sub_cancel_left]; exact hk
theorem SRows.sl (h : SRows r sz m xs l) {g' : Option Nat} {cap : Nat} (hf : Frz g' xs m) (h1 : l.length ≤ cap) (h2 : cap ≤ maxLen) (hlen : l.length ≤ 140737488355328) (hg : 0 < l.length → ∃ b, g' = some b) : Sl r sz m (rowA g') cap l :=
  Sl_frz hf h1 h2 hlen hg h.at_
/-- One cell of one of them turns. -/
theorem SRows.set (h : SRows r sz m xs l) {j k : Nat} {z z' : α} {v : Value} (hj : l[j]? = some z) (hk : k < sz) (hz : ∀ es, es.length = sz → r m es z → r m (es.set k v) z') : SRows r sz m (xs.set (j * sz + k) v) (l.set j z') := by
  have hjl := (List.getElem?_eq_some_iff.1 hj).1
  refine ⟨by simp [h.len], fun j' y hy => ?_⟩
  by_cases e : j' = j
  · subst e
    rw [List.getElem?_set_self hjl] at hy
    cases hy
    obtain ⟨es, h1, h2, h3⟩ := h.at_ j' z hj
    refine ⟨es.set k v, by simp [h1], hz es h1 h2, fun i u hi => ?_⟩
    by_cases e2 : i = k
    · subst e2
      rw [List.getElem?_set_self (by omega)] at hi
      cases hi
      have hlt : j' * sz + i < xs.length := by
        rw [h.len]
        calc j' * sz + i < j' * sz + sz := by omega
          _ = (j' + 1) * sz := by rw [Nat.add_mul, Nat.one_mul]
          _ ≤ l.length * sz := Nat.mul_le_mul_right _ hjl
      rw [List.getElem?_set_self hlt]
    · rw [List.getElem?_set_ne (Ne.symm e2)] at hi
      rw [List.getElem?_set_ne (by omega)]
      exact h3 i u hi
  · rw [List.getElem?_set_ne (Ne.symm e)] at hy
    obtain ⟨es, h1, h2, h3⟩ := h.at_ j' y hy
    refine ⟨es, h1, h2, fun i u hi => ?_⟩
    have hi' : i < sz := by have := (List.getElem?_eq_some_iff.1 hi).1; omega
    have hne : j * sz + k ≠ j' * sz + i := by
      intro e3
      have h4 : (j * sz + k) / sz = (j' * sz + i) / sz := by rw [e3]
      rw [Nat.mul_comm j, Nat.mul_comm j', Nat.mul_add_div (by omega), Nat.mul_add_div (by omega), Nat.div_eq_of_lt hk, Nat.div_eq_of_lt hi'] at h4
      omega
    rw [List.getElem?_set_ne hne]
    exact h3 i u hi
/-- The cells that a slice that stays is kept in. -/
theorem SRows.of_sl {A : Option Addr} {ad : Addr} {c : Nat} (h : Sl r sz m A c l) (hA : A = some ad) (h1 : ∀ es z, r m es z → es.all (·.oneCell') = true) :
    ∃ ys, SRows r sz m ys l ∧ ys.all (·.oneCell') = true ∧ ∀ j u, ys[j]? = some u → m.cell? (ad.add j) = some u := by
  have : ∀ k, k ≤ l.length → ∃ ys, SRows r sz m ys (l.take k) ∧ ys.all (·.oneCell') = true ∧ ∀ j u, ys[j]? = some u → m.cell? (ad.add j) = some u := by
    intro k
    induction k with
    | zero => intro _; exact ⟨[], SRows.nil, rfl, by simp⟩
    | succ k ih =>
      intro hk
      obtain ⟨ys, a1, a2, a3⟩ := ih (by omega)
      have hz : l[k]? = some l[k] := List.getElem?_eq_getElem (by omega)
      obtain ⟨es, b1, b2, b3⟩ := h.get hA hz
      refine ⟨ys ++ es, by rw [List.take_add_one, hz]; exact a1.snoc b2 b1, by rw [List.all_append, a2, h1 es _ b1]; rfl, fun j u hj => ?_⟩
      have hyl : ys.length = k * sz := by rw [a1.len, List.length_take, Nat.min_eq_left (by omega)]
      by_cases hjn : j < ys.length
      · rw [List.getElem?_append_left hjn] at hj; exact a3 j u hj
      · rw [List.getElem?_append_right (by omega)] at hj
        have := b3 _ u hj
        rw [add_add, hyl, show k * sz + (j - k * sz) = j by omega] at this
        exact this
  obtain ⟨ys, a1, a2, a3⟩ := this l.length (Nat.le_refl _)
  rw [List.take_length] at a1
  exact ⟨ys, a1, a2, a3⟩
end
theorem Src.of_cells {s : Fw.Start} {m : Imm} {R : List Res} {ad : Addr} {c : Nat} {ys : List Value} (h : ∀ j u, ys[j]? = some u → m.cell? (ad.add j) = some u) : Src s m R (some ad) c ys :=
  ⟨fun w hS j u hj => ⟨ad, rfl, hS.inW.cell (h j u hj)⟩, fun e => by cases e⟩
theorem one_op {m : Imm} (es : List Value) (z : FOp) (h : rOp m es z) : es.all (·.oneCell') = true := by
  obtain ⟨A, c, rfl, _⟩ := h; rfl
theorem one_phi {m : Imm} (es : List Value) (z : FPhi) (h : rPhi m es z) : es.all (·.oneCell') = true := by
  obtain ⟨A, c, A', c', rfl, _⟩ := h; rfl
theorem one_block {m : Imm} (es : List Value) (z : FBlk) (h : rBlock m es z) : es.all (·.oneCell') = true := by
  obtain ⟨A, c, A', c', A'', c'', rfl, _⟩ := h; rfl
theorem block_ops {m : Imm} {b : FBlk} {A : Option Addr} {c : Nat} {ops : List FOp} (h : Sl rOp 6 m A c ops) (es : List Value) (hb : rBlock m es b) : rBlock m (es.set 1 (.slice A ops.length c)) { b with ops := ops } := by
  obtain ⟨A1, c1, A2, c2, A3, c3, rfl, h1, h2, h3, h4⟩ := hb
  exact ⟨A1, c1, A, c, A3, c3, rfl, h1, h, h3, h4⟩
section
variable {P : Program} {ops : Array Oper} {Q : Post} {rest : List Oper} {n : Nat} {s : Start} {m : Imm} {R : List Res} {L : Loc}
variable {d : Nat} {dst : Option Nat} {ty : TypeId} {pos : String} {af : Array Edge} {g : Option (Nat × Bool)} {x y : Operand}
/-- A store of one cell into a row of structs. -/
theorem S_storerk {T b o n' cap e sz : Nat} {xs : List Value} {v : Value} (i : Nat) (hx : ev L x = some (.pointer (some ⟨b, o, none⟩))) (hy : ev L y = some v) (hc : v.cells = #[v]) (h1 : v.oneCell' = true) (hs : sz? P T = some 1) (hi : R[i]? = some (row (some b) n' cap e sz xs))
    (ho : o < xs.length) (next : WL P ops Q rest n s m (R.set i (row (some b) n' cap e sz (xs.set o v))) L) : WL P ops Q (⟨none, .store T x y, ty, pos, af, none⟩ :: rest) n s m R L :=
  S_storer (xs' := xs.set o v) (vs := [v]) i hx hy (by rw [hc]) hs hi (by simp [h1]) (by simp only [List.length_cons, List.length_nil]; omega) (set_one ho) next
end
end Go.Proofs.YtipmgkhjoekaaaaGreat.Fw

set_option linter.unusedVariables false
namespace Go.Proofs.YtipmgkhjoekaaaaGreat
open Go Go.Proofs.YtipmgkhjoekaaaaGreat.Fw
/-! A function with a block's operations in an order. -/
theorem LegalP_ex {f : FFun} {block : Int} {order : List Int} (h : LegalP f block order = true) : rightP f block = true ∧ ∃ b, f.blocks[block.toNat]? = some b ∧ legalP b order = true := by
  simp only [LegalP, Bool.and_eq_true] at h
  refine ⟨h.1, ?_⟩
  have h2 := h.2
  split at h2
  · rename_i b hb; exact ⟨b, hb, h2⟩
  · cases h2
theorem legalP_len {b : FBlk} {order : List Int} (h : legalP b order = true) : order.length = b.ops.length := by
  simp only [legalP, Bool.and_eq_true, decide_eq_true_eq] at h; exact h.1
theorem legalP_ok {b : FBlk} {order : List Int} (h : legalP b order = true) {k : Nat} (hk : k < order.length) : okO b order k = true := by
  simp only [legalP, Bool.and_eq_true, decide_eq_true_eq] at h
  exact List.all_eq_true.1 h.2 k (List.mem_range.2 hk)
theorem okO_rng {b : FBlk} {order : List Int} {k : Nat} {a : Int} (h : okO b order k = true) (ha : order[k]? = some a) : 0 ≤ a ∧ a < (b.ops.length : Int) := by
  simp only [okO, ha, Bool.and_eq_true, Bool.not_eq_true', Bool.or_eq_false_iff, decide_eq_false_iff_not] at h
  omega
theorem legalP_rng {b : FBlk} {order : List Int} (h : legalP b order = true) : ∀ a ∈ order, 0 ≤ a ∧ a < (b.ops.length : Int) := by
  intro a ha
  obtain ⟨k, hk⟩ := List.mem_iff_getElem?.1 ha
  exact okO_rng (legalP_ok h (List.getElem?_eq_some_iff.1 hk).1) hk
theorem ordOps_succ {b : FBlk} {order : List Int} {k : Nat} {a : Int} {o : FOp} (h : order[k]? = some a) (ho : b.ops[a.toNat]? = some o) : ordOps b (order.take (k + 1)) = ordOps b (order.take k) ++ [o] := by
  rw [ordOps, ordOps, List.take_add_one, h]; simp [ho]
theorem putOps_set {f : FFun} {block : Int} {order : List Int} {b : FBlk} (hb : f.blocks[block.toNat]? = some b) : putOps f block order = { f with blocks := f.blocks.set block.toNat { b with ops := ordOps b order } } := by
  rw [putOps, List.modify_eq_set, hb]; rfl
def PutΦ (f : FFun) (block : Int) (order : List Int) (m : Imm) (v : Value) : Prop :=
  (LegalP f block order = true ∧ ∃ es, v = .tuple #[.agg es.toArray, .int .i64 0] ∧ rFunc m es (putOps f block order)) ∨ (LegalP f block order = false ∧ v = .tuple #[.agg #[.slice none 0 0, .int .i64 0, .slice none 0 0], .int .i64 10])
end Go.Proofs.YtipmgkhjoekaaaaGreat

set_option linter.unusedVariables false
set_option linter.unusedSimpArgs false
namespace Go.Proofs.YtipmgkhjoekaaaaGreat
open Go Go.RowKit Go.Proofs Go.Proofs.YtipmgkhjoekaaaaGreat.Fw
attribute [local irreducible] Qt WL CW NX RX EX GX DL
namespace T
theorem ag67 : agg? Tryz.prog 67 = some false := by kernel_rfl
theorem hb36 : hasBody Tryz.prog 36 = true := by kernel_rfl
theorem hb49 : hasBody Tryz.prog 49 = true := by kernel_rfl
theorem hb50 : hasBody Tryz.prog 50 = true := by kernel_rfl
theorem hb52 : hasBody Tryz.prog 52 = true := by kernel_rfl
theorem hb54 : hasBody Tryz.prog 54 = true := by kernel_rfl
theorem hb87 : hasBody Tryz.prog 87 = true := by kernel_rfl
theorem ze4 : zero? Tryz.prog 4 = some (.bool false) := by kernel_rfl
end T
theorem ints_nil {m : Imm} {l : List Int} (h : l = []) : ∃ A' c', Value.slice none 0 0 = .slice A' l.length c' ∧ Ints m A' c' l := by subst h; exact ⟨none, 0, rfl, Sl.nil _ _ _⟩
theorem ints_is {m : Imm} {l z : List Int} {A : Option Addr} {c : Nat} (e : l = z) (h : Ints m A c z) : ∃ A' c', Value.slice A z.length c = .slice A' l.length c' ∧ Ints m A' c' l := by subst e; exact ⟨A, c, rfl, h⟩
set_option maxHeartbeats 4000000 in
/-- sched.stands$1 -/
theorem stands1_q {m : Imm} {mb : Nat} {ll : List (Int × Bool)} (hM : MapIn m mb (valL Value.bool ll)) (a : Int) {ad : Addr} (hp : m.cell? ad = some (.map (some mb))) : Quiet Tryz.prog 87 [.int .i64 a, .pointer (some ad)] m (.bool (!(inM ll a))) := by
  refine quiet_of Tryz.func87 rfl Tryz.ntmps87 rfl (fun w => ?_)
  refine CW_seq ?_
  refine CW_region ?_
  refine W_q (r_assign rfl) rfl ?_
  refine W_nil ?_
  refine NX_as (L' := [(0, _), (1, _), (3, _)]) [0, 1, 3] rfl ?_
  refine CW_seq ?_
  refine CW_region ?_
  refine W_q (r_load_imm rfl T.ag67 hp) rfl ?_
  refine W_q (r_move rfl) rfl ?_
  refine W_q (r_lookupF hM Tryz.underlying67 Tryz.underlying3 T.ze4 rfl rfl (val_getD Value.bool _ _ false)) rfl ?_
  refine W_q (r_not rfl) rfl ?_
  refine W_q (r_assign rfl) rfl ?_
  refine W_nil ?_
  refine NX_as (L' := [(3, _)]) [3] rfl ?_
  refine C_ret (RX_q1 rfl rfl ?_)
  rfl

set_option maxHeartbeats 4000000 in
/-- sched.stands -/
theorem stands_q {m : Imm} {mb : Nat} {ll : List (Int × Bool)} (hM : MapIn m mb (valL Value.bool ll)) {A : Option Addr} {c : Nat} {l : List Int} (h : Ints m A c l) : Quiet Tryz.prog 54 [.map (some mb), .slice A l.length c] m (.bool (standsB ll l)) := by
  refine quiet_of Tryz.func54 rfl Tryz.ntmps54 rfl (fun w => ?_)
  refine CW_seq ?_
  refine CW_region ?_
  refine S_box (l := [_]) rfl rfl rfl (fun b1 => ?_)
  refine W_q (r_assign rfl) rfl ?_
  refine W_nil ?_
  refine NX_as (L' := [(1, _), (2, _), (4, _)]) [1, 2, 4] rfl ?_
  refine CW_seq ?_
  refine CW_region ?_
  refine W_q (r_move rfl) rfl ?_
  refine W_q (r_makeFunc (first := []) (cap := [_]) rfl rfl) rfl ?_
  refine W_q (r_quietb 0 rfl (fun m' le hc => ContainsFuncI_q (h.mono rI_mono le) (p := fun a => !(inM ll a)) (K := 87) T.hb87 (fun z hz => stands1_q (hM.mono le) z (hc 0 _ rfl))) T.hb86 rfl) rfl ?_
  refine W_q (r_not rfl) rfl ?_
  refine W_q (r_assign rfl) rfl ?_
  refine W_nil ?_
  refine NX_as (L' := [(4, _)]) [4] rfl ?_
  refine C_ret (RX_q1 rfl rfl ?_)
  simp_all [standsB]

set_option maxHeartbeats 4000000 in
/-- sched.right -/
theorem sright_q {m : Imm} {es : List Value} {f : FFun} (hF : rFunc m es f) (block : Int) : Quiet Tryz.prog 49 [.agg es.toArray, .int .i64 block] m (.bool (rightP f block)) := by
  have hF_0 := hF
  obtain ⟨A90, c90, B90, d90, rfl, hq90, hb90, i90a⟩ := hF_0
  refine quiet_of Tryz.func49 rfl Tryz.ntmps49 rfl (fun w => ?_)
  refine CW_seq ?_
  refine CW_region ?_
  refine S_box (l := [_, _, _]) rfl rfl rfl (fun b1 => ?_)
  refine W_q (r_assign rfl) rfl ?_
  refine W_nil ?_
  refine NX_as (L' := [(1, _), (2, _), (4, _)]) [1, 2, 4] rfl ?_
  refine CW_seq ?_
  refine CW_region ?_
  refine W_q (r_move rfl) rfl ?_
  refine W_q (r_bin rfl rfl (bin_geq _ _ _ _)) rfl ?_
  refine W_q (r_move rfl) rfl ?_
  refine WL_split (t := 7) rfl (fun h2 => ?_) (fun h2 => ?_)
  · (try simp only [decide_eq_true_eq, decide_eq_false_iff_not, beq_iff_eq, beq_eq_false_iff_ne, bne_iff_ne, bne_eq_false_iff_eq, Bool.not_eq_true', Bool.not_eq_false', Bool.not_eq_true, Bool.not_eq_false, ne_eq, Decidable.not_not] at h2)
    refine WL_take rfl rfl ?_
    refine W_q (r_move rfl) rfl ?_
    refine WL_take rfl rfl ?_
    refine W_q (r_fieldb (o' := 2) rfl T.fo25_2 rfl) rfl ?_
    refine WL_take rfl rfl ?_
    refine W_q (r_loadb 0 rfl T.ag23 rfl rfl) rfl ?_
    refine WL_take rfl rfl ?_
    refine W_q (r_len Tryz.underlying23 rfl) rfl ?_
    refine WL_take rfl rfl ?_
    refine W_q (r_bin rfl rfl (bin_lss _ _ _ _)) rfl ?_
    refine W_q (r_pick_t rfl rfl) rfl ?_
    refine W_q (r_move rfl) rfl ?_
    refine WL_split (t := 14) rfl (fun h3 => ?_) (fun h3 => ?_)
    · (try simp only [decide_eq_true_eq, decide_eq_false_iff_not, beq_iff_eq, beq_eq_false_iff_ne, bne_iff_ne, bne_eq_false_iff_eq, Bool.not_eq_true', Bool.not_eq_false', Bool.not_eq_true, Bool.not_eq_false, ne_eq, Decidable.not_not] at h3)
      refine WL_take rfl rfl ?_
      refine W_q (r_loadbk 0 (vs := [_, _, _]) rfl T.ag25 T.sz25 rfl rfl rfl) rfl ?_
      refine WL_take rfl rfl ?_
      refine W_quiet (Check_q hF _) T.hb36 rfl rfl ?_
      refine WL_take rfl rfl ?_
      refine W_q (r_bin rfl rfl (bin_eql _ _ _ _)) rfl ?_
      refine W_q (r_pick_t rfl rfl) rfl ?_
      refine W_q (r_assign rfl) rfl ?_
      refine W_nil ?_
      refine NX_as (L' := [(4, _)]) [4] rfl ?_
      refine C_ret (RX_q1 rfl rfl ?_)
      simp_all [rightP]
      try omega
    · (try simp only [decide_eq_true_eq, decide_eq_false_iff_not, beq_iff_eq, beq_eq_false_iff_ne, bne_iff_ne, bne_eq_false_iff_eq, Bool.not_eq_true', Bool.not_eq_false', Bool.not_eq_true, Bool.not_eq_false, ne_eq, Decidable.not_not] at h3)
      refine WL_pass rfl rfl rfl rfl ?_
      refine WL_pass rfl rfl rfl rfl ?_
      refine WL_pass rfl rfl rfl rfl ?_
      refine W_q (r_pick_f rfl rfl) rfl ?_
      refine W_q (r_assign rfl) rfl ?_
      refine W_nil ?_
      refine NX_as (L' := [(4, _)]) [4] rfl ?_
      refine C_ret (RX_q1 rfl rfl ?_)
      simp_all [rightP]
      try omega
  · (try simp only [decide_eq_true_eq, decide_eq_false_iff_not, beq_iff_eq, beq_eq_false_iff_ne, bne_iff_ne, bne_eq_false_iff_eq, Bool.not_eq_true', Bool.not_eq_false', Bool.not_eq_true, Bool.not_eq_false, ne_eq, Decidable.not_not] at h2)
    refine WL_pass rfl rfl rfl rfl ?_
    refine WL_pass rfl rfl rfl rfl ?_
    refine WL_pass rfl rfl rfl rfl ?_
    refine WL_pass rfl rfl rfl rfl ?_
    refine WL_pass rfl rfl rfl rfl ?_
    refine W_q (r_pick_f rfl rfl) rfl ?_
    refine W_q (r_move rfl) rfl ?_
    refine WL_pass rfl rfl rfl rfl ?_
    refine WL_pass rfl rfl rfl rfl ?_
    refine WL_pass rfl rfl rfl rfl ?_
    refine W_q (r_pick_f rfl rfl) rfl ?_
    refine W_q (r_assign rfl) rfl ?_
    refine W_nil ?_
    refine NX_as (L' := [(4, _)]) [4] rfl ?_
    refine C_ret (RX_q1 rfl rfl ?_)
    simp_all [rightP]
    try omega

set_option maxHeartbeats 40000000 in
/-- sched.legal -/
theorem legal_q {m : Imm} {es : List Value} {b : FBlk} (hB : rBlock m es b) (hol : b.ops.length ≤ 512) (hal : ∀ o ∈ b.ops, o.args.length ≤ 64) {A : Option Addr} {c : Nat} {order : List Int} (h : Ints m A c order) : Quiet Tryz.prog 50 [.agg es.toArray, .slice A order.length c] m (.bool (legalP b order)) := by
  have hB_0 := hB
  obtain ⟨A93, c93, B93, d93, C93, e93, rfl, hp93, ho93, ht93, i93a, i93b⟩ := hB_0
  have hlen := h.len
  have hhl := hangsP_len b.ops
  refine quiet_of Tryz.func50 rfl Tryz.ntmps50 rfl (fun w => ?_)
  refine CW_seq ?_
  refine CW_region ?_
  refine S_box (l := [_, _, _, _, _]) rfl rfl rfl (fun b1 => ?_)
  refine W_q (r_assign rfl) rfl ?_
  refine W_nil ?_
  refine NX_as (L' := [(1, _), (2, _), (4, _)]) [1, 2, 4] rfl ?_
  refine CW_seq ?_
  refine CW_seq ?_
  refine CW_region ?_
  refine W_q (r_move rfl) rfl ?_
  refine W_q (r_len Tryz.underlying22 rfl) rfl ?_
  refine W_q (r_fieldb (o' := 1) rfl T.fo44_1 rfl) rfl ?_
  refine W_q (r_loadb 0 rfl T.ag40 rfl rfl) rfl ?_
  refine W_q (r_len Tryz.underlying40 rfl) rfl ?_
  refine W_q (r_bin rfl rfl (bin_neq _ _ _ _)) rfl ?_
  refine W_nil ?_
  refine NX_as (L' := [(1, _), (2, _), (4, _), (14, _)]) [1, 2, 4, 14] rfl ?_
  refine CW_condk rfl (fun h2 => ?_) (fun h2 => ?_)
  · (try simp only [decide_eq_true_eq, decide_eq_false_iff_not, beq_iff_eq, beq_eq_false_iff_ne, bne_iff_ne, bne_eq_false_iff_eq, Bool.not_eq_true', Bool.not_eq_false', Bool.not_eq_true, Bool.not_eq_false, ne_eq, Decidable.not_not] at h2)
    refine CW_seq ?_
    refine CW_region ?_
    refine W_q (r_assign rfl) rfl ?_
    refine W_nil ?_
    refine NX_as (L' := [(1, _), (2, _), (4, _)]) [1, 2, 4] rfl ?_
    refine C_ret (RX_then (RX_q1 rfl rfl ?_))
    first
      | exact congrArg Value.bool (legalP_f0 (by omega)).symm
      | exact congrArg Value.bool (legalP_f «hzo» (okO_f1 «hzo» (by omega))).symm
      | exact congrArg Value.bool (legalP_f «hzo» (okO_f2 «hzo» (by rw [← hx]; assumption))).symm
      | exact congrArg Value.bool (legalP_f «hzo» (okO_f3 «hzo» hz (by rw [← hx]; assumption))).symm
      | exact congrArg Value.bool (legalP_t (by omega) «J0».2).symm
  · (try simp only [decide_eq_true_eq, decide_eq_false_iff_not, beq_iff_eq, beq_eq_false_iff_ne, bne_iff_ne, bne_eq_false_iff_eq, Bool.not_eq_true', Bool.not_eq_false', Bool.not_eq_true, Bool.not_eq_false, ne_eq, Decidable.not_not] at h2)
    refine C_skip ?_
    refine NX_as (L' := [(1, _), (2, _), (4, _)]) [1, 2, 4] rfl ?_
    refine CW_seq ?_
    refine CW_region ?_
    refine S_makeMap rfl (fun rm => ?_)
    refine W_q (r_assign rfl) rfl ?_
    refine W_nil ?_
    refine NX_as (L' := [(1, _), (2, _), (4, _), (5, _)]) [1, 2, 4, 5] rfl ?_
    refine CW_seq ?_
    refine CW_region ?_
    refine W_q (r_loadbk 1 (vs := [_, _, _, _, _]) rfl T.ag44 T.sz44 rfl rfl rfl) rfl ?_
    refine S_gives (hangs_g hB hol hal) T.hb52 rfl rfl (fun m3 v3 le3 hv3 => ?_)
    replace hB := rBlock_mono _ _ _ _ le3 hB
    replace hp93 := hp93.mono rPhi_mono le3
    replace ho93 := ho93.mono rOp_mono le3
    replace ht93 := ht93.mono rI_mono le3
    replace h := h.mono rI_mono le3
    obtain ⟨Ah3, ch3, rfl, hh3⟩ := hv3
    refine W_q (r_assign rfl) rfl ?_
    refine W_nil ?_
    refine NX_as (L' := [(1, _), (2, _), (4, _), (5, _), (6, _)]) [1, 2, 4, 5, 6] rfl ?_
    refine CW_seq ?_
    refine CW_seq ?_
    refine CW_region ?_
    refine W_q (r_move rfl) rfl ?_
    refine W_q (r_len Tryz.underlying22 rfl) rfl ?_
    refine W_q (r_move rfl) rfl ?_
    refine W_nil ?_
    refine NX_as (L' := [(2, _), (4, _), (5, _), (6, _), (18, _), (19, _), (20, _)]) [2, 4, 5, 6, 18, 19, 20] rfl ?_
    refine CW_front 0 rfl rfl ?_
    refine C_range (List (Int × Bool)) (order.length) (fun k4 x4 => x4 = putM order k4 ∧ ∀ j, j < k4 → okO b order j = true) (fun k4 x4 => []) (fun k4 x4 => [imap rm (valL Value.bool x4)]) [] [2, 5, 6, 18] (F := [(2, _), (5, _), (6, _), (18, _)]) ([]) rfl rfl (by omega) ⟨rfl, fun j hj => absurd hj (by omega)⟩ rfl rfl rfl rfl rfl rfl rfl (fun _ _ => rfl) (fun _ _ => rfl) (fun k4 x4 hk4 hJ4 => ?_) (fun x4 hJ4 => ?_)
    · obtain ⟨hx, hJ⟩ := hJ4
      refine CW_as (L' := [(2, _), (5, _), (6, _), (18, _), (19, _), (20, _)]) [2, 5, 6, 18, 19, 20] rfl ?_
      refine CW_seq ?_
      refine CW_region ?_
      obtain ⟨ad5, hA5⟩ := h.ad (j := k4) (by omega)
      obtain ⟨z5, hz5⟩ := h.getz (j := k4) (by omega)
      refine W_q (r_index hA5 Tryz.underlying22 T.sz3 rfl rfl ⟨by omega, by omega⟩) rfl ?_
      obtain ⟨l6, r6⟩ := Sl.getI h hA5 hz5
      refine W_q (r_load_imm rfl T.ag3 l6) rfl ?_
      refine W_q (r_assign rfl) rfl ?_
      refine W_nil ?_
      refine NX_as (L' := [(2, _), (5, _), (6, _), (8, _), (18, _), (19, _), (20, _)]) [2, 5, 6, 8, 18, 19, 20] rfl ?_
      refine CW_seq ?_
      refine CW_seq ?_
      refine CW_region ?_
      refine W_q (r_move rfl) rfl ?_
      refine W_q (r_bin rfl rfl (bin_lss _ _ _ _)) rfl ?_
      refine W_q (r_move rfl) rfl ?_
      refine WL_split (t := 26) rfl (fun h7 => ?_) (fun h7 => ?_)
      · (try simp only [decide_eq_true_eq, decide_eq_false_iff_not, beq_iff_eq, beq_eq_false_iff_ne, bne_iff_ne, bne_eq_false_iff_eq, Bool.not_eq_true', Bool.not_eq_false', Bool.not_eq_true, Bool.not_eq_false, ne_eq, Decidable.not_not] at h7)
        refine WL_pass rfl rfl rfl rfl ?_
        refine WL_pass rfl rfl rfl rfl ?_
        refine WL_pass rfl rfl rfl rfl ?_
        refine WL_pass rfl rfl rfl rfl ?_
        refine WL_pass rfl rfl rfl rfl ?_
        refine W_q (r_pick_t rfl rfl) rfl ?_
        refine W_q (r_move rfl) rfl ?_
        refine WL_pass rfl rfl rfl rfl ?_
        refine WL_pass rfl rfl rfl rfl ?_
        refine WL_pass rfl rfl rfl rfl ?_
        refine W_q (r_pick_t rfl rfl) rfl ?_
        refine W_q (r_move rfl) rfl ?_
        refine WL_pass rfl rfl rfl rfl ?_
        refine WL_pass rfl rfl rfl rfl ?_
        refine WL_pass rfl rfl rfl rfl ?_
        refine WL_pass rfl rfl rfl rfl ?_
        refine WL_pass rfl rfl rfl rfl ?_
        refine WL_pass rfl rfl rfl rfl ?_
        refine WL_pass rfl rfl rfl rfl ?_
        refine W_q (r_pick_t rfl rfl) rfl ?_
        refine W_nil ?_
        refine NX_as (L' := [(2, _), (5, _), (6, _), (8, _), (18, _), (19, _), (20, _), (46, _)]) [2, 5, 6, 8, 18, 19, 20, 46] rfl ?_
        refine CW_cond_t rfl ?_
        refine CW_seq ?_
        refine CW_region ?_
        refine W_q (r_assign rfl) rfl ?_
        refine W_nil ?_
        refine NX_as (L' := [(2, _), (4, _), (5, _), (6, _), (8, _), (18, _), (19, _), (20, _)]) [2, 4, 5, 6, 8, 18, 19, 20] rfl ?_
        refine C_ret (RX_then (RX_block (RX_then (RX_block (RX_then (RX_q1 rfl rfl ?_))))))
        first
          | exact congrArg Value.bool (legalP_f0 (by omega)).symm
          | exact congrArg Value.bool (legalP_f hz5 (okO_f1 hz5 (by omega))).symm
          | exact congrArg Value.bool (legalP_f hz5 (okO_f2 hz5 (by rw [← hx]; assumption))).symm
          | exact congrArg Value.bool (legalP_f hz5 (okO_f3 hz5 hz5 (by rw [← hx]; assumption))).symm
          | exact congrArg Value.bool (legalP_t (by omega) hJ4.2).symm
      · (try simp only [decide_eq_true_eq, decide_eq_false_iff_not, beq_iff_eq, beq_eq_false_iff_ne, bne_iff_ne, bne_eq_false_iff_eq, Bool.not_eq_true', Bool.not_eq_false', Bool.not_eq_true, Bool.not_eq_false, ne_eq, Decidable.not_not] at h7)
        refine WL_take rfl rfl ?_
        refine W_q (r_move rfl) rfl ?_
        refine WL_take rfl rfl ?_
        refine W_q (r_fieldb (o' := 1) rfl T.fo44_1 rfl) rfl ?_
        refine WL_take rfl rfl ?_
        refine W_q (r_loadb 1 rfl T.ag40 rfl rfl) rfl ?_
        refine WL_take rfl rfl ?_
        refine W_q (r_len Tryz.underlying40 rfl) rfl ?_
        refine WL_take rfl rfl ?_
        refine W_q (r_bin rfl rfl (bin_geq _ _ _ _)) rfl ?_
        refine W_q (r_pick_f rfl rfl) rfl ?_
        refine W_q (r_move rfl) rfl ?_
        refine WL_split (t := 33) rfl (fun h8 => ?_) (fun h8 => ?_)
        · (try simp only [decide_eq_true_eq, decide_eq_false_iff_not, beq_iff_eq, beq_eq_false_iff_ne, bne_iff_ne, bne_eq_false_iff_eq, Bool.not_eq_true', Bool.not_eq_false', Bool.not_eq_true, Bool.not_eq_false, ne_eq, Decidable.not_not] at h8)
          refine WL_pass rfl rfl rfl rfl ?_
          refine WL_pass rfl rfl rfl rfl ?_
          refine WL_pass rfl rfl rfl rfl ?_
          refine W_q (r_pick_t rfl rfl) rfl ?_
          refine W_q (r_move rfl) rfl ?_
          refine WL_pass rfl rfl rfl rfl ?_
          refine WL_pass rfl rfl rfl rfl ?_
          refine WL_pass rfl rfl rfl rfl ?_
          refine WL_pass rfl rfl rfl rfl ?_
          refine WL_pass rfl rfl rfl rfl ?_
          refine WL_pass rfl rfl rfl rfl ?_
          refine WL_pass rfl rfl rfl rfl ?_
          refine W_q (r_pick_t rfl rfl) rfl ?_
          refine W_nil ?_
          refine NX_as (L' := [(2, _), (5, _), (6, _), (8, _), (18, _), (19, _), (20, _), (46, _)]) [2, 5, 6, 8, 18, 19, 20, 46] rfl ?_
          refine CW_cond_t rfl ?_
          refine CW_seq ?_
          refine CW_region ?_
          refine W_q (r_assign rfl) rfl ?_
          refine W_nil ?_
          refine NX_as (L' := [(2, _), (4, _), (5, _), (6, _), (8, _), (18, _), (19, _), (20, _)]) [2, 4, 5, 6, 8, 18, 19, 20] rfl ?_
          refine C_ret (RX_then (RX_block (RX_then (RX_block (RX_then (RX_q1 rfl rfl ?_))))))
          first
            | exact congrArg Value.bool (legalP_f0 (by omega)).symm
            | exact congrArg Value.bool (legalP_f hz5 (okO_f1 hz5 (by omega))).symm
            | exact congrArg Value.bool (legalP_f hz5 (okO_f2 hz5 (by rw [← hx]; assumption))).symm
            | exact congrArg Value.bool (legalP_f hz5 (okO_f3 hz5 hz5 (by rw [← hx]; assumption))).symm
            | exact congrArg Value.bool (legalP_t (by omega) hJ4.2).symm
        · (try simp only [decide_eq_true_eq, decide_eq_false_iff_not, beq_iff_eq, beq_eq_false_iff_ne, bne_iff_ne, bne_eq_false_iff_eq, Bool.not_eq_true', Bool.not_eq_false', Bool.not_eq_true, Bool.not_eq_false, ne_eq, Decidable.not_not] at h8)
          refine WL_take rfl rfl ?_
          refine W_q (r_move rfl) rfl ?_
          refine WL_take rfl rfl ?_
          refine W_q (r_move rfl) rfl ?_
          refine WL_take rfl rfl ?_
          refine W_q (r_lookup 0 Tryz.underlying67 Tryz.underlying3 T.ze4 rfl rfl rfl (val_getD Value.bool _ _ false)) rfl ?_
          refine W_q (r_pick_f rfl rfl) rfl ?_
          refine W_q (r_move rfl) rfl ?_
          refine WL_split (t := 38) rfl (fun h9 => ?_) (fun h9 => ?_)
          · (try simp only [decide_eq_true_eq, decide_eq_false_iff_not, beq_iff_eq, beq_eq_false_iff_ne, bne_iff_ne, bne_eq_false_iff_eq, Bool.not_eq_true', Bool.not_eq_false', Bool.not_eq_true, Bool.not_eq_false, ne_eq, Decidable.not_not] at h9)
            refine WL_pass rfl rfl rfl rfl ?_
            refine WL_pass rfl rfl rfl rfl ?_
            refine WL_pass rfl rfl rfl rfl ?_
            refine WL_pass rfl rfl rfl rfl ?_
            refine WL_pass rfl rfl rfl rfl ?_
            refine WL_pass rfl rfl rfl rfl ?_
            refine WL_pass rfl rfl rfl rfl ?_
            refine W_q (r_pick_t rfl rfl) rfl ?_
            refine W_nil ?_
            refine NX_as (L' := [(2, _), (5, _), (6, _), (8, _), (18, _), (19, _), (20, _), (46, _)]) [2, 5, 6, 8, 18, 19, 20, 46] rfl ?_
            refine CW_cond_t rfl ?_
            refine CW_seq ?_
            refine CW_region ?_
            refine W_q (r_assign rfl) rfl ?_
            refine W_nil ?_
            refine NX_as (L' := [(2, _), (4, _), (5, _), (6, _), (8, _), (18, _), (19, _), (20, _)]) [2, 4, 5, 6, 8, 18, 19, 20] rfl ?_
            refine C_ret (RX_then (RX_block (RX_then (RX_block (RX_then (RX_q1 rfl rfl ?_))))))
            first
              | exact congrArg Value.bool (legalP_f0 (by omega)).symm
              | exact congrArg Value.bool (legalP_f hz5 (okO_f1 hz5 (by omega))).symm
              | exact congrArg Value.bool (legalP_f hz5 (okO_f2 hz5 (by rw [← hx]; assumption))).symm
              | exact congrArg Value.bool (legalP_f hz5 (okO_f3 hz5 hz5 (by rw [← hx]; assumption))).symm
              | exact congrArg Value.bool (legalP_t (by omega) hJ4.2).symm
          · (try simp only [decide_eq_true_eq, decide_eq_false_iff_not, beq_iff_eq, beq_eq_false_iff_ne, bne_iff_ne, bne_eq_false_iff_eq, Bool.not_eq_true', Bool.not_eq_false', Bool.not_eq_true, Bool.not_eq_false, ne_eq, Decidable.not_not] at h9)
            refine WL_take rfl rfl ?_
            refine W_q (r_move rfl) rfl ?_
            refine WL_take rfl rfl ?_
            refine W_q (r_move rfl) rfl ?_
            refine WL_take rfl rfl ?_
            refine W_q (r_move rfl) rfl ?_
            refine WL_take rfl rfl ?_
            obtain ⟨ad10, hA10⟩ := hh3.ad (j := z5.toNat) (by omega)
            obtain ⟨z10, hz10⟩ := hh3.getz (j := z5.toNat) (by omega)
            refine W_q (r_index hA10 Tryz.underlying65 T.sz22 rfl rfl ⟨by omega, by omega⟩) rfl ?_
            refine WL_take rfl rfl ?_
            obtain ⟨A11, c11, l11, h11⟩ := Sl.getS hh3 hA10 hz10
            refine W_q (r_load_imm rfl T.ag22 l11) rfl ?_
            refine WL_take rfl rfl ?_
            refine W_q (r_quietM 0 rfl (fun m' le hc => stands_q (ll := x4) hc (h11.mono rI_mono le)) T.hb54 rfl) rfl ?_
            refine WL_take rfl rfl ?_
            refine W_q (r_not rfl) rfl ?_
            refine W_q (r_pick_f rfl rfl) rfl ?_
            refine W_nil ?_
            refine NX_as (L' := [(2, _), (5, _), (6, _), (8, _), (18, _), (19, _), (20, _), (46, _)]) [2, 5, 6, 8, 18, 19, 20, 46] rfl ?_
            refine CW_condk rfl (fun h12 => ?_) (fun h12 => ?_)
            · (try simp only [decide_eq_true_eq, decide_eq_false_iff_not, beq_iff_eq, beq_eq_false_iff_ne, bne_iff_ne, bne_eq_false_iff_eq, Bool.not_eq_true', Bool.not_eq_false', Bool.not_eq_true, Bool.not_eq_false, ne_eq, Decidable.not_not] at h12)
              refine CW_seq ?_
              refine CW_region ?_
              refine W_q (r_assign rfl) rfl ?_
              refine W_nil ?_
              refine NX_as (L' := [(2, _), (4, _), (5, _), (6, _), (8, _), (18, _), (19, _), (20, _)]) [2, 4, 5, 6, 8, 18, 19, 20] rfl ?_
              refine C_ret (RX_then (RX_block (RX_then (RX_block (RX_then (RX_q1 rfl rfl ?_))))))
              first
                | exact congrArg Value.bool (legalP_f0 (by omega)).symm
                | exact congrArg Value.bool (legalP_f hz5 (okO_f1 hz5 (by omega))).symm
                | exact congrArg Value.bool (legalP_f hz5 (okO_f2 hz5 (by rw [← hx]; assumption))).symm
                | exact congrArg Value.bool (legalP_f hz5 (okO_f3 hz5 hz10 (by rw [← hx]; assumption))).symm
                | exact congrArg Value.bool (legalP_t (by omega) hJ4.2).symm
            · (try simp only [decide_eq_true_eq, decide_eq_false_iff_not, beq_iff_eq, beq_eq_false_iff_ne, bne_iff_ne, bne_eq_false_iff_eq, Bool.not_eq_true', Bool.not_eq_false', Bool.not_eq_true, Bool.not_eq_false, ne_eq, Decidable.not_not] at h12)
              refine C_skip ?_
              refine NX_as (L' := [(2, _), (5, _), (6, _), (8, _), (18, _), (19, _), (20, _)]) [2, 5, 6, 8, 18, 19, 20] rfl ?_
              refine CW_region ?_
              refine W_q (r_move rfl) rfl ?_
              refine W_q (r_move rfl) rfl ?_
              refine S_mapUpdateV (f := Value.bool) (l := x4) true 0 Tryz.underlying67 Tryz.underlying3 rfl rfl rfl rfl ?_
              refine W_nil ?_
              refine NX_block (?_)
              refine NX_rng [2, 5, 6, 18] (_) ?_ rfl (List.Sublist.refl _) rfl (Imm.le_refl _)
              refine ⟨by rw [hx, ← putM_succ hz5], lt_succ_all hJ ?_⟩
              rw [hx] at *
              exact okO_t hz5 (by omega) (by omega) (by assumption) hz10 (by assumption)
    · refine NX_as (L' := []) [] rfl ?_
      refine CW_seq ?_
      refine CW_region ?_
      refine W_q (r_assign rfl) rfl ?_
      refine W_nil ?_
      refine NX_as (L' := [(4, _)]) [4] rfl ?_
      refine C_ret (RX_q1 rfl rfl ?_)
      first
        | exact congrArg Value.bool (legalP_f0 (by omega)).symm
        | exact congrArg Value.bool (legalP_f hz5 (okO_f1 hz5 (by omega))).symm
        | exact congrArg Value.bool (legalP_f hz5 (okO_f2 hz5 (by rw [← hx]; assumption))).symm
        | exact congrArg Value.bool (legalP_f hz5 (okO_f3 hz5 hz5 (by rw [← hx]; assumption))).symm
        | exact congrArg Value.bool (legalP_t (by omega) hJ4.2).symm

set_option maxHeartbeats 20000000 in
/-- sched.Legal -/
theorem Legal_q {m : Imm} {es : List Value} {f : FFun} (hF : rFunc m es f) (block : Int) {A : Option Addr} {c : Nat} {order : List Int} (h : Ints m A c order) : Quiet Tryz.prog 19 [.agg es.toArray, .int .i64 block, .slice A order.length c] m (.bool (LegalP f block order)) := by
  have hF_0 := hF
  obtain ⟨A90, c90, B90, d90, rfl, hq90, hb90, i90a⟩ := hF_0
  have hbl := hb90.len
  refine quiet_of Tryz.func19 rfl Tryz.ntmps19 rfl (fun w => ?_)
  refine CW_seq ?_
  refine CW_region ?_
  refine S_box (l := [_, _, _]) rfl rfl rfl (fun b1 => ?_)
  refine W_q (r_assign rfl) rfl ?_
  refine W_nil ?_
  refine NX_as (L' := [(1, _), (2, _), (3, _), (6, _)]) [1, 2, 3, 6] rfl ?_
  refine CW_seq ?_
  refine CW_region ?_
  refine W_q (r_loadbk 0 (vs := [_, _, _]) rfl T.ag25 T.sz25 rfl rfl rfl) rfl ?_
  refine W_q (r_move rfl) rfl ?_
  refine W_quiet (sright_q hF _) T.hb49 rfl rfl ?_
  refine W_q (r_move rfl) rfl ?_
  refine WL_split (t := 10) rfl (fun h2 => ?_) (fun h2 => ?_)
  · (try simp only [decide_eq_true_eq, decide_eq_false_iff_not, beq_iff_eq, beq_eq_false_iff_ne, bne_iff_ne, bne_eq_false_iff_eq, Bool.not_eq_true', Bool.not_eq_false', Bool.not_eq_true, Bool.not_eq_false, ne_eq, Decidable.not_not] at h2)
    refine WL_take rfl rfl ?_
    refine W_q (r_fieldb (o' := 2) rfl T.fo25_2 rfl) rfl ?_
    refine WL_take rfl rfl ?_
    refine W_q (r_loadb 0 rfl T.ag23 rfl rfl) rfl ?_
    refine WL_take rfl rfl ?_
    refine W_q (r_move rfl) rfl ?_
    refine WL_take rfl rfl ?_
    obtain ⟨ad3, hA3⟩ := hb90.ad (j := block.toNat) (by have := right_block (f := f) (block := block) (by assumption); omega)
    obtain ⟨z3, hz3⟩ := hb90.getz (j := block.toNat) (by have := right_block (f := f) (block := block) (by assumption); omega)
    refine W_q (r_index hA3 Tryz.underlying23 T.sz44 rfl rfl ⟨by have := right_block (f := f) (block := block) (by assumption); omega, by have := right_block (f := f) (block := block) (by assumption); omega⟩) rfl ?_
    refine WL_take rfl rfl ?_
    obtain ⟨es4, f4, _, l4⟩ := Sl.get hb90 hA3 hz3
    have F4 := f4
    obtain ⟨A4, c4, B4, d4, C4, e4, rfl, hp4, ho4, ht4, i4a, i4b⟩ := f4
    refine W_q (r_load_immk (vs := [_, _, _, _, _]) rfl T.ag44 T.sz44 l4) rfl ?_
    refine WL_take rfl rfl ?_
    refine W_q (r_move rfl) rfl ?_
    refine WL_take rfl rfl ?_
    refine W_quiet (legal_q F4 (may_small (right_small (f := f) (block := block) (by assumption)) (List.mem_of_getElem? (by assumption))).1 (may_small (right_small (f := f) (block := block) (by assumption)) (List.mem_of_getElem? (by assumption))).2.1 h) T.hb50 rfl rfl ?_
    refine W_q (r_pick_t rfl rfl) rfl ?_
    refine W_q (r_assign rfl) rfl ?_
    refine W_nil ?_
    refine NX_as (L' := [(6, _)]) [6] rfl ?_
    refine C_ret (RX_q1 rfl rfl ?_)
    first
      | exact congrArg Value.bool (LegalP_t (by assumption) (by assumption)).symm
      | exact congrArg Value.bool (LegalP_f (by assumption)).symm
  · (try simp only [decide_eq_true_eq, decide_eq_false_iff_not, beq_iff_eq, beq_eq_false_iff_ne, bne_iff_ne, bne_eq_false_iff_eq, Bool.not_eq_true', Bool.not_eq_false', Bool.not_eq_true, Bool.not_eq_false, ne_eq, Decidable.not_not] at h2)
    refine WL_pass rfl rfl rfl rfl ?_
    refine WL_pass rfl rfl rfl rfl ?_
    refine WL_pass rfl rfl rfl rfl ?_
    refine WL_pass rfl rfl rfl rfl ?_
    refine WL_pass rfl rfl rfl rfl ?_
    refine WL_pass rfl rfl rfl rfl ?_
    refine WL_pass rfl rfl rfl rfl ?_
    refine W_q (r_pick_f rfl rfl) rfl ?_
    refine W_q (r_assign rfl) rfl ?_
    refine W_nil ?_
    refine NX_as (L' := [(6, _)]) [6] rfl ?_
    refine C_ret (RX_q1 rfl rfl ?_)
    first
      | exact congrArg Value.bool (LegalP_t (by assumption) (by assumption)).symm
      | exact congrArg Value.bool (LegalP_f (by assumption)).symm

set_option maxHeartbeats 20000000 in
/-- sched.Hangs -/
theorem Hangs_g {m : Imm} {es : List Value} {f : FFun} (hF : rFunc m es f) (block : Int) (at_ : Int) : Gives Tryz.prog 22 [.agg es.toArray, .int .i64 block, .int .i64 at_] m (fun m' v => ∃ A' c', v = .slice A' (HangsP f block at_).length c' ∧ Ints m' A' c' (HangsP f block at_)) := by
  have hF_0 := hF
  obtain ⟨A90, c90, B90, d90, rfl, hq90, hb90, i90a⟩ := hF_0
  have hbl := hb90.len
  refine gives_of Tryz.func22 rfl Tryz.ntmps22 rfl (fun w => ?_)
  refine CW_seq ?_
  refine CW_region ?_
  refine S_box (l := [_, _, _]) rfl rfl rfl (fun b1 => ?_)
  refine W_q (r_assign rfl) rfl ?_
  refine W_nil ?_
  refine NX_as (L' := [(1, _), (2, _), (3, _), (6, _)]) [1, 2, 3, 6] rfl ?_
  refine CW_seq ?_
  refine CW_seq ?_
  refine CW_region ?_
  refine W_q (r_loadbk 0 (vs := [_, _, _]) rfl T.ag25 T.sz25 rfl rfl rfl) rfl ?_
  refine W_q (r_move rfl) rfl ?_
  refine W_quiet (sright_q hF _) T.hb49 rfl rfl ?_
  refine W_q (r_not rfl) rfl ?_
  refine W_q (r_move rfl) rfl ?_
  refine WL_split (t := 11) rfl (fun h2 => ?_) (fun h2 => ?_)
  · (try simp only [decide_eq_true_eq, decide_eq_false_iff_not, beq_iff_eq, beq_eq_false_iff_ne, bne_iff_ne, bne_eq_false_iff_eq, Bool.not_eq_true', Bool.not_eq_false', Bool.not_eq_true, Bool.not_eq_false, ne_eq, Decidable.not_not] at h2)
    refine WL_pass rfl rfl rfl rfl ?_
    refine WL_pass rfl rfl rfl rfl ?_
    refine W_q (r_pick_t rfl rfl) rfl ?_
    refine W_q (r_move rfl) rfl ?_
    refine WL_pass rfl rfl rfl rfl ?_
    refine WL_pass rfl rfl rfl rfl ?_
    refine WL_pass rfl rfl rfl rfl ?_
    refine WL_pass rfl rfl rfl rfl ?_
    refine WL_pass rfl rfl rfl rfl ?_
    refine WL_pass rfl rfl rfl rfl ?_
    refine WL_pass rfl rfl rfl rfl ?_
    refine WL_pass rfl rfl rfl rfl ?_
    refine WL_pass rfl rfl rfl rfl ?_
    refine W_q (r_pick_t rfl rfl) rfl ?_
    refine W_nil ?_
    refine NX_as (L' := [(1, _), (2, _), (3, _), (6, _), (25, _)]) [1, 2, 3, 6, 25] rfl ?_
    refine CW_cond_t rfl ?_
    refine CW_seq ?_
    refine CW_region ?_
    refine W_q (r_assign rfl) rfl ?_
    refine W_nil ?_
    refine NX_as (L' := [(1, _), (2, _), (3, _), (6, _)]) [1, 2, 3, 6] rfl ?_
    exact C_ret (RX_then (RX_g1 rfl rfl (ints_nil (HangsP_f (by assumption)))))
  · (try simp only [decide_eq_true_eq, decide_eq_false_iff_not, beq_iff_eq, beq_eq_false_iff_ne, bne_iff_ne, bne_eq_false_iff_eq, Bool.not_eq_true', Bool.not_eq_false', Bool.not_eq_true, Bool.not_eq_false, ne_eq, Decidable.not_not] at h2)
    refine WL_take rfl rfl ?_
    refine W_q (r_move rfl) rfl ?_
    refine WL_take rfl rfl ?_
    refine W_q (r_bin rfl rfl (bin_lss _ _ _ _)) rfl ?_
    refine W_q (r_pick_f rfl rfl) rfl ?_
    refine W_q (r_move rfl) rfl ?_
    refine WL_split (t := 15) rfl (fun h3 => ?_) (fun h3 => ?_)
    · (try simp only [decide_eq_true_eq, decide_eq_false_iff_not, beq_iff_eq, beq_eq_false_iff_ne, bne_iff_ne, bne_eq_false_iff_eq, Bool.not_eq_true', Bool.not_eq_false', Bool.not_eq_true, Bool.not_eq_false, ne_eq, Decidable.not_not] at h3)
      refine WL_pass rfl rfl rfl rfl ?_
      refine WL_pass rfl rfl rfl rfl ?_
      refine WL_pass rfl rfl rfl rfl ?_
      refine WL_pass rfl rfl rfl rfl ?_
      refine WL_pass rfl rfl rfl rfl ?_
      refine WL_pass rfl rfl rfl rfl ?_
      refine WL_pass rfl rfl rfl rfl ?_
      refine WL_pass rfl rfl rfl rfl ?_
      refine WL_pass rfl rfl rfl rfl ?_
      refine W_q (r_pick_t rfl rfl) rfl ?_
      refine W_nil ?_
      refine NX_as (L' := [(1, _), (2, _), (3, _), (6, _), (25, _)]) [1, 2, 3, 6, 25] rfl ?_
      refine CW_cond_t rfl ?_
      refine CW_seq ?_
      refine CW_region ?_
      refine W_q (r_assign rfl) rfl ?_
      refine W_nil ?_
      refine NX_as (L' := [(1, _), (2, _), (3, _), (6, _)]) [1, 2, 3, 6] rfl ?_
      exact C_ret (RX_then (RX_g1 rfl rfl (ints_nil (HangsP_f1 (by assumption)))))
    · (try simp only [decide_eq_true_eq, decide_eq_false_iff_not, beq_iff_eq, beq_eq_false_iff_ne, bne_iff_ne, bne_eq_false_iff_eq, Bool.not_eq_true', Bool.not_eq_false', Bool.not_eq_true, Bool.not_eq_false, ne_eq, Decidable.not_not] at h3)
      refine WL_take rfl rfl ?_
      refine W_q (r_move rfl) rfl ?_
      refine WL_take rfl rfl ?_
      refine W_q (r_fieldb (o' := 2) rfl T.fo25_2 rfl) rfl ?_
      refine WL_take rfl rfl ?_
      refine W_q (r_loadb 0 rfl T.ag23 rfl rfl) rfl ?_
      refine WL_take rfl rfl ?_
      refine W_q (r_move rfl) rfl ?_
      refine WL_take rfl rfl ?_
      obtain ⟨ad4, hA4⟩ := hb90.ad (j := block.toNat) (by have := right_block (f := f) (block := block) (by assumption); omega)
      obtain ⟨z4, hz4⟩ := hb90.getz (j := block.toNat) (by have := right_block (f := f) (block := block) (by assumption); omega)
      refine W_q (r_index hA4 Tryz.underlying23 T.sz44 rfl rfl ⟨by have := right_block (f := f) (block := block) (by assumption); omega, by have := right_block (f := f) (block := block) (by assumption); omega⟩) rfl ?_
      refine WL_take rfl rfl ?_
      refine W_q (r_field rfl T.fo44_1) rfl ?_
      refine WL_take rfl rfl ?_
      obtain ⟨es5, f5, _, l5⟩ := Sl.get hb90 hA4 hz4
      obtain ⟨A5, c5, B5, d5, C5, e5, rfl, hp5, ho5, ht5, i5a, i5b⟩ := f5
      refine W_q (r_load_imm rfl T.ag40 (l5 1 _ rfl)) rfl ?_
      refine WL_take rfl rfl ?_
      refine W_q (r_len Tryz.underlying40 rfl) rfl ?_
      refine WL_take rfl rfl ?_
      refine W_q (r_bin rfl rfl (bin_geq _ _ _ _)) rfl ?_
      refine W_q (r_pick_f rfl rfl) rfl ?_
      refine W_nil ?_
      refine NX_as (L' := [(1, _), (2, _), (3, _), (6, _), (25, _)]) [1, 2, 3, 6, 25] rfl ?_
      refine CW_condk rfl (fun h6 => ?_) (fun h6 => ?_)
      · (try simp only [decide_eq_true_eq, decide_eq_false_iff_not, beq_iff_eq, beq_eq_false_iff_ne, bne_iff_ne, bne_eq_false_iff_eq, Bool.not_eq_true', Bool.not_eq_false', Bool.not_eq_true, Bool.not_eq_false, ne_eq, Decidable.not_not] at h6)
        refine CW_seq ?_
        refine CW_region ?_
        refine W_q (r_assign rfl) rfl ?_
        refine W_nil ?_
        refine NX_as (L' := [(1, _), (2, _), (3, _), (6, _)]) [1, 2, 3, 6] rfl ?_
        exact C_ret (RX_then (RX_g1 rfl rfl (ints_nil (HangsP_f2 (by assumption) (by omega)))))
      · (try simp only [decide_eq_true_eq, decide_eq_false_iff_not, beq_iff_eq, beq_eq_false_iff_ne, bne_iff_ne, bne_eq_false_iff_eq, Bool.not_eq_true', Bool.not_eq_false', Bool.not_eq_true, Bool.not_eq_false, ne_eq, Decidable.not_not] at h6)
        refine C_skip ?_
        refine NX_as (L' := [(1, _), (2, _), (3, _), (6, _)]) [1, 2, 3, 6] rfl ?_
        refine CW_seq ?_
        refine CW_region ?_
        refine W_q (r_fieldb (o' := 2) rfl T.fo25_2 rfl) rfl ?_
        refine W_q (r_loadb 0 rfl T.ag23 rfl rfl) rfl ?_
        refine W_q (r_move rfl) rfl ?_
        obtain ⟨ad7, hA7⟩ := hb90.ad (j := block.toNat) (by have := right_block (f := f) (block := block) (by assumption); omega)
        refine W_q (r_index hA7 Tryz.underlying23 T.sz44 rfl rfl ⟨by have := right_block (f := f) (block := block) (by assumption); omega, by have := right_block (f := f) (block := block) (by assumption); omega⟩) rfl ?_
        obtain ⟨es8, f8, _, l8⟩ := Sl.get hb90 hA7 hz4
        have F8 := f8
        obtain ⟨A8, c8, B8, d8, C8, e8, rfl, hp8, ho8, ht8, i8a, i8b⟩ := f8
        refine W_q (r_load_immk (vs := [_, _, _, _, _]) rfl T.ag44 T.sz44 l8) rfl ?_
        refine S_gives (hangs_g F8 (may_small (right_small (f := f) (block := block) (by assumption)) (List.mem_of_getElem? (by assumption))).1 (may_small (right_small (f := f) (block := block) (by assumption)) (List.mem_of_getElem? (by assumption))).2.1) T.hb52 rfl rfl (fun m9 v9 le9 hv9 => ?_)
        replace hF := rFunc_mono _ _ _ _ le9 hF
        replace hq90 := hq90.mono rI_mono le9
        replace hb90 := hb90.mono rBlock_mono le9
        replace hp5 := hp5.mono rPhi_mono le9
        replace ho5 := ho5.mono rOp_mono le9
        replace ht5 := ht5.mono rI_mono le9
        replace F8 := rBlock_mono _ _ _ _ le9 F8
        replace hp8 := hp8.mono rPhi_mono le9
        replace ho8 := ho8.mono rOp_mono le9
        replace ht8 := ht8.mono rI_mono le9
        obtain ⟨Ah9, ch9, rfl, hh9⟩ := hv9
        refine W_q (r_move rfl) rfl ?_
        obtain ⟨ad10, hA10⟩ := hh9.ad (j := at_.toNat) (by rw [hangsP_len]; omega)
        obtain ⟨z10, hz10⟩ := hh9.getz (j := at_.toNat) (by rw [hangsP_len]; omega)
        refine W_q (r_index hA10 Tryz.underlying65 T.sz22 rfl rfl ⟨by omega, by rw [hangsP_len]; omega⟩) rfl ?_
        obtain ⟨A11, c11, l11, h11⟩ := Sl.getS hh9 hA10 hz10
        refine W_q (r_load_imm rfl T.ag22 l11) rfl ?_
        refine W_q (r_assign rfl) rfl ?_
        refine W_nil ?_
        refine NX_as (L' := [(6, _)]) [6] rfl ?_
        exact C_ret (RX_g1 rfl rfl (ints_is (HangsP_t (by assumption) (by omega) hz4 hz10) h11))

set_option maxHeartbeats 20000000 in
/-- sched.Depth -/
theorem Depth_g {m : Imm} {es : List Value} {f : FFun} (hF : rFunc m es f) (block : Int)  : Gives Tryz.prog 26 [.agg es.toArray, .int .i64 block] m (fun m' v => ∃ A' c', v = .slice A' (DepthP f block).length c' ∧ Ints m' A' c' (DepthP f block)) := by
  have hF_0 := hF
  obtain ⟨A90, c90, B90, d90, rfl, hq90, hb90, i90a⟩ := hF_0
  have hbl := hb90.len
  refine gives_of Tryz.func26 rfl Tryz.ntmps26 rfl (fun w => ?_)
  refine CW_seq ?_
  refine CW_region ?_
  refine S_box (l := [_, _, _]) rfl rfl rfl (fun b1 => ?_)
  refine W_q (r_assign rfl) rfl ?_
  refine W_nil ?_
  refine NX_as (L' := [(1, _), (2, _), (4, _)]) [1, 2, 4] rfl ?_
  refine CW_seq ?_
  refine CW_seq ?_
  refine CW_region ?_
  refine W_q (r_loadbk 0 (vs := [_, _, _]) rfl T.ag25 T.sz25 rfl rfl rfl) rfl ?_
  refine W_q (r_move rfl) rfl ?_
  refine W_quiet (sright_q hF _) T.hb49 rfl rfl ?_
  refine W_q (r_not rfl) rfl ?_
  refine W_nil ?_
  refine NX_as (L' := [(1, _), (2, _), (4, _), (14, _)]) [1, 2, 4, 14] rfl ?_
  refine CW_condk rfl (fun h2 => ?_) (fun h2 => ?_)
  · (try simp only [decide_eq_true_eq, decide_eq_false_iff_not, beq_iff_eq, beq_eq_false_iff_ne, bne_iff_ne, bne_eq_false_iff_eq, Bool.not_eq_true', Bool.not_eq_false', Bool.not_eq_true, Bool.not_eq_false, ne_eq, Decidable.not_not] at h2)
    refine CW_seq ?_
    refine CW_region ?_
    refine W_q (r_assign rfl) rfl ?_
    refine W_nil ?_
    refine NX_as (L' := [(1, _), (2, _), (4, _)]) [1, 2, 4] rfl ?_
    exact C_ret (RX_then (RX_g1 rfl rfl (ints_nil (DepthP_f (by assumption)))))
  · (try simp only [decide_eq_true_eq, decide_eq_false_iff_not, beq_iff_eq, beq_eq_false_iff_ne, bne_iff_ne, bne_eq_false_iff_eq, Bool.not_eq_true', Bool.not_eq_false', Bool.not_eq_true, Bool.not_eq_false, ne_eq, Decidable.not_not] at h2)
    refine C_skip ?_
    refine NX_as (L' := [(1, _), (2, _), (4, _)]) [1, 2, 4] rfl ?_
    refine CW_seq ?_
    refine CW_region ?_
    refine W_q (r_assign rfl) rfl ?_
    refine W_nil ?_
    refine NX_as (L' := [(1, _), (2, _), (4, _), (5, _)]) [1, 2, 4, 5] rfl ?_
    refine CW_seq ?_
    refine CW_seq ?_
    refine CW_region ?_
    refine W_q (r_fieldb (o' := 2) rfl T.fo25_2 rfl) rfl ?_
    refine W_q (r_loadb 0 rfl T.ag23 rfl rfl) rfl ?_
    refine W_q (r_move rfl) rfl ?_
    obtain ⟨ad3, hA3⟩ := hb90.ad (j := block.toNat) (by have := right_block (f := f) (block := block) (by assumption); omega)
    obtain ⟨z3, hz3⟩ := hb90.getz (j := block.toNat) (by have := right_block (f := f) (block := block) (by assumption); omega)
    refine W_q (r_index hA3 Tryz.underlying23 T.sz44 rfl rfl ⟨by have := right_block (f := f) (block := block) (by assumption); omega, by have := right_block (f := f) (block := block) (by assumption); omega⟩) rfl ?_
    obtain ⟨es4, f4, _, l4⟩ := Sl.get hb90 hA3 hz3
    have F4 := f4
    obtain ⟨A4, c4, B4, d4, C4, e4, rfl, hp4, ho4, ht4, i4a, i4b⟩ := f4
    refine W_q (r_load_immk (vs := [_, _, _, _, _]) rfl T.ag44 T.sz44 l4) rfl ?_
    obtain ⟨hol, hal, _⟩ := may_small (right_small (f := f) (block := block) (by assumption)) (List.mem_of_getElem? hz3)
    have hhl := hangsP_len z3.ops
    refine S_gives (hangs_g F4 (may_small (right_small (f := f) (block := block) (by assumption)) (List.mem_of_getElem? (by assumption))).1 (may_small (right_small (f := f) (block := block) (by assumption)) (List.mem_of_getElem? (by assumption))).2.1) T.hb52 rfl rfl (fun m5 v5 le5 hv5 => ?_)
    replace hF := rFunc_mono _ _ _ _ le5 hF
    replace hq90 := hq90.mono rI_mono le5
    replace hb90 := hb90.mono rBlock_mono le5
    replace F4 := rBlock_mono _ _ _ _ le5 F4
    replace hp4 := hp4.mono rPhi_mono le5
    replace ho4 := ho4.mono rOp_mono le5
    replace ht4 := ht4.mono rI_mono le5
    obtain ⟨Ah5, ch5, rfl, hh5⟩ := hv5
    refine W_q (r_len Tryz.underlying65 rfl) rfl ?_
    refine W_q (r_move rfl) rfl ?_
    refine W_nil ?_
    refine NX_as (L' := [(4, _), (5, _), (20, _), (21, _), (22, _)]) [4, 5, 20, 21, 22] rfl ?_
    refine CW_nilRow 3 1 ?_
    refine C_range (Option Nat × Nat × List Int) ((hangsP z3.ops).length) (fun k6 x6 => x6.2.2 = depK (hangsP z3.ops) k6 ∧ (0 < x6.2.2.length → ∃ b, x6.1 = some b)) (fun k6 x6 => [(5, .slice (rowA x6.1) x6.2.2.length x6.2.1)]) (fun k6 x6 => [rowI 3 x6.1 x6.2.1 x6.2.2]) [5] [4, 20] (F := [(4, _), (20, _)]) ((none, 0, [])) rfl rfl (by rw [hangsP_len]; omega) ⟨rfl, by simp⟩ rfl rfl rfl rfl rfl rfl rfl (fun _ _ => rfl) (fun _ _ => rfl) (fun k6 x6 hk6 hJ6 => ?_) (fun x6 hJ6 => ?_)
    · obtain ⟨go, co, lo⟩ := x6
      obtain ⟨hlo, hgo⟩ := hJ6
      have hlo' := congrArg List.length hlo
      rw [depK_len _ _ (by omega)] at hlo'
      dsimp only at hlo hgo hlo'
      refine CW_as (L' := [(4, _), (5, _), (20, _), (21, _), (22, _)]) [4, 5, 20, 21, 22] rfl ?_
      refine CW_seq ?_
      refine CW_region ?_
      obtain ⟨ad8, hA8⟩ := hh5.ad (j := k6) (by omega)
      obtain ⟨z8, hz8⟩ := hh5.getz (j := k6) (by omega)
      refine W_q (r_index hA8 Tryz.underlying65 T.sz22 rfl rfl ⟨by omega, by omega⟩) rfl ?_
      obtain ⟨A9, c9, l9, h9⟩ := Sl.getS hh5 hA8 hz8
      refine W_q (r_load_imm rfl T.ag22 l9) rfl ?_
      have hll := h9.len
      refine W_q (r_assign rfl) rfl ?_
      refine W_nil ?_
      refine NX_as (L' := [(4, _), (5, _), (7, _), (20, _), (21, _), (22, _)]) [4, 5, 7, 20, 21, 22] rfl ?_
      refine CW_seq ?_
      refine CW_region ?_
      refine W_q (r_assign rfl) rfl ?_
      refine W_nil ?_
      refine NX_as (L' := [(4, _), (5, _), (7, _), (8, _), (20, _), (21, _), (22, _)]) [4, 5, 7, 8, 20, 21, 22] rfl ?_
      refine CW_seq ?_
      refine CW_seq ?_
      refine CW_region ?_
      refine W_q (r_move rfl) rfl ?_
      refine W_q (r_len Tryz.underlying22 rfl) rfl ?_
      refine W_q (r_move rfl) rfl ?_
      refine W_nil ?_
      refine NX_as (L' := [(4, _), (5, _), (8, _), (20, _), (21, _), (22, _), (26, _), (27, _), (28, _)]) [4, 5, 8, 20, 21, 22, 26, 27, 28] rfl ?_
      refine C_range (Int) (z8.length) (fun k10 x10 => x10 = depS (hangsP z3.ops) lo (z8.take k10)) (fun k10 x10 => [(8, .int .i64 x10)]) (fun _ _ => []) [8] [4, 5, 20, 21, 22, 26] (F := [(4, _), (5, _), (20, _), (21, _), (22, _), (26, _)]) (0) rfl rfl (by omega) (by simp [depS]) rfl rfl rfl rfl rfl rfl rfl (fun _ _ => rfl) (fun _ _ => rfl) (fun k10 x10 hk10 hJ10 => ?_) (fun x10 hJ10 => ?_)
      · refine CW_as (L' := [(4, _), (5, _), (8, _), (20, _), (21, _), (22, _), (26, _), (27, _), (28, _)]) [4, 5, 8, 20, 21, 22, 26, 27, 28] rfl ?_
        refine CW_seq ?_
        refine CW_region ?_
        obtain ⟨ad11, hA11⟩ := h9.ad (j := k10) (by omega)
        obtain ⟨z11, hz11⟩ := h9.getz (j := k10) (by omega)
        refine W_q (r_index hA11 Tryz.underlying22 T.sz3 rfl rfl ⟨by omega, by omega⟩) rfl ?_
        obtain ⟨l12, r12⟩ := Sl.getI h9 hA11 hz11
        refine W_q (r_load_imm rfl T.ag3 l12) rfl ?_
        have hrg := hangsP_rng hz8 _ (List.mem_of_getElem? hz11)
        refine W_q (r_assign rfl) rfl ?_
        refine W_nil ?_
        refine NX_as (L' := [(4, _), (5, _), (8, _), (10, _), (20, _), (21, _), (22, _), (26, _), (27, _), (28, _)]) [4, 5, 8, 10, 20, 21, 22, 26, 27, 28] rfl ?_
        refine CW_region ?_
        refine W_q (r_move rfl) rfl ?_
        refine W_q (r_move rfl) rfl ?_
        refine W_q (r_move rfl) rfl ?_
        obtain ⟨b13, rfl⟩ : ∃ b, go = some b := hgo (by omega)
        refine W_q (r_indexr (o := z11.toNat) Tryz.underlying22 T.sz3 rfl rfl ⟨by omega, by dsimp only; omega⟩ (by omega)) rfl ?_
        refine W_q (r_loadrI 0 rfl T.ag3 rfl (List.getElem?_eq_getElem (show z11.toNat < lo.length by omega))) rfl ?_
        refine W_q (r_add rfl rfl (by have hv := depK_rng (ops := z3.ops) k6 (by omega) _ (by rw [← hlo]; exact List.getElem_mem (show z11.toNat < lo.length by omega)); constructor <;> omega)) rfl ?_
        refine W_q (r_max rfl rfl) rfl ?_
        refine W_q (r_assign rfl) rfl ?_
        refine W_nil ?_
        refine NX_block (?_)
        refine NX_rng [8, 4, 5, 20, 21, 22, 26] (_) ?_ rfl (List.Sublist.refl _) rfl (Imm.le_refl _)
        rw [depS_take hz11, hJ10, getD_of (List.getElem?_eq_getElem (show z11.toNat < lo.length by omega))]
      · have hd := hJ10
        rw [List.take_length] at hd
        refine NX_as (L' := [(4, _), (5, _), (8, _), (20, _), (21, _), (22, _)]) [4, 5, 8, 20, 21, 22] rfl ?_
        refine CW_region ?_
        refine W_q (r_move rfl) rfl ?_
        refine W_q (r_move rfl) rfl ?_
        refine S_litr (vs := [_]) (cs := [_]) Tryz.underlying22 T.sz3 T.ze3 rfl rfl rfl rfl rfl rfl rfl (fun b14 => ?_)
        refine S_appendI (l := lo) (g1 := go) [_] 1 rfl rfl rfl Tryz.underlying22 T.sz3 T.ze3 T.by3 rfl rfl (.row 0 rfl) (by simp only [List.length_cons, List.length_nil]; omega) rfl (fun g15 c15 hg15 => ?_)
        refine W_q (r_assign rfl) rfl ?_
        refine W_nil ?_
        refine NX_block (?_)
        refine NX_rng [5, 4, 20] ((_, _, _)) ?_ rfl (sub_drop 1 rfl) rfl (Imm.le_refl _)
        refine ⟨?_, hg15⟩
        rw [depK_succ hz8, ← hlo, hd]
    · obtain ⟨go, co, lo⟩ := x6
      obtain ⟨hlo, hgo⟩ := hJ6
      have hlo' := congrArg List.length hlo
      rw [depK_len _ _ (by omega)] at hlo'
      dsimp only at hlo hgo hlo'
      refine NX_as (L' := [(4, _), (5, _)]) [4, 5] rfl ?_
      refine CW_seq ?_
      refine CW_region ?_
      refine W_q (r_move rfl) rfl ?_
      refine W_q (r_assign rfl) rfl ?_
      refine W_nil ?_
      refine NX_as (L' := [(4, _)]) [4] rfl ?_
      refine C_ret (RX_know (k_rowI 0 rfl) (fun hr => ?_))
      try dsimp only at hr
      refine RX_freeze 0 rfl (fun _ h => h) (fun mf lef hf => ?_)
      have hfin : Ints mf _ _ _ := Ints_frz hf hr.1 hr.2.1 (by dsimp only; omega) hr.2.2 (fun z hz => by rw [hlo] at hz; have := depK_rng (ops := z3.ops) (z3.ops.length) (Nat.le_refl _) z (by rw [← hangsP_len]; exact hz); exact ⟨by omega, by omega⟩)
      exact RX_g1 rfl rfl (ints_is ((DepthP_t (by assumption) hz3).trans hlo.symm) hfin)

end Go.Proofs.YtipmgkhjoekaaaaGreat

set_option linter.unusedVariables false
set_option linter.unusedSimpArgs false
namespace Go.Proofs.YtipmgkhjoekaaaaGreat
open Go Go.RowKit Go.Proofs Go.Proofs.YtipmgkhjoekaaaaGreat.Fw
attribute [local irreducible] Qt WL CW NX RX EX GX DL
set_option maxHeartbeats 40000000 in
/-- sched.Flat -/
theorem Flat_g {m : Imm} {es : List Value} {f : FFun} (hF : rFunc m es f) (block : Int)  : Gives Tryz.prog 24 [.agg es.toArray, .int .i64 block] m (fun m' v => ∃ A' c', v = .slice A' (FlatP f block).length c' ∧ Ints m' A' c' (FlatP f block)) := by
  have hF_0 := hF
  obtain ⟨A90, c90, B90, d90, rfl, hq90, hb90, i90a⟩ := hF_0
  have hbl := hb90.len
  refine gives_of Tryz.func24 rfl Tryz.ntmps24 rfl (fun w => ?_)
  refine CW_seq ?_
  refine CW_region ?_
  refine S_box (l := [_, _, _]) rfl rfl rfl (fun b1 => ?_)
  refine W_q (r_assign rfl) rfl ?_
  refine W_nil ?_
  refine NX_as (L' := [(1, _), (2, _), (4, _)]) [1, 2, 4] rfl ?_
  refine C_scope 0 rfl ?_
  refine CW_seq ?_
  refine CW_seq ?_
  refine CW_region ?_
  refine W_q (r_loadbk 0 (vs := [_, _, _]) rfl T.ag25 T.sz25 rfl rfl rfl) rfl ?_
  refine W_q (r_move rfl) rfl ?_
  refine W_quiet (sright_q hF _) T.hb49 rfl rfl ?_
  refine W_q (r_not rfl) rfl ?_
  refine W_nil ?_
  refine NX_as (L' := [(1, _), (2, _), (4, _), (16, _)]) [1, 2, 4, 16] rfl ?_
  refine CW_condk rfl (fun h2 => ?_) (fun h2 => ?_)
  · (try simp only [decide_eq_true_eq, decide_eq_false_iff_not, beq_iff_eq, beq_eq_false_iff_ne, bne_iff_ne, bne_eq_false_iff_eq, Bool.not_eq_true', Bool.not_eq_false', Bool.not_eq_true, Bool.not_eq_false, ne_eq, Decidable.not_not] at h2)
    refine CW_seq ?_
    refine CW_region ?_
    refine W_q (r_assign rfl) rfl ?_
    refine W_nil ?_
    refine NX_as (L' := [(1, _), (2, _), (4, _)]) [1, 2, 4] rfl ?_
    exact C_ret (RX_then (RX_jump (RX_g1 rfl rfl (ints_nil (FlatP_f (by assumption))))))
  · (try simp only [decide_eq_true_eq, decide_eq_false_iff_not, beq_iff_eq, beq_eq_false_iff_ne, bne_iff_ne, bne_eq_false_iff_eq, Bool.not_eq_true', Bool.not_eq_false', Bool.not_eq_true, Bool.not_eq_false, ne_eq, Decidable.not_not] at h2)
    refine C_skip ?_
    refine NX_as (L' := [(1, _), (2, _), (4, _)]) [1, 2, 4] rfl ?_
    refine CW_seq ?_
    refine CW_region ?_
    refine W_q (r_fieldb (o' := 2) rfl T.fo25_2 rfl) rfl ?_
    refine W_q (r_loadb 0 rfl T.ag23 rfl rfl) rfl ?_
    refine W_q (r_move rfl) rfl ?_
    obtain ⟨ad3, hA3⟩ := hb90.ad (j := block.toNat) (by have := right_block (f := f) (block := block) (by assumption); omega)
    obtain ⟨z3, hz3⟩ := hb90.getz (j := block.toNat) (by have := right_block (f := f) (block := block) (by assumption); omega)
    refine W_q (r_index hA3 Tryz.underlying23 T.sz44 rfl rfl ⟨by have := right_block (f := f) (block := block) (by assumption); omega, by have := right_block (f := f) (block := block) (by assumption); omega⟩) rfl ?_
    obtain ⟨es4, f4, _, l4⟩ := Sl.get hb90 hA3 hz3
    have F4 := f4
    obtain ⟨A4, c4, B4, d4, C4, e4, rfl, hp4, ho4, ht4, i4a, i4b⟩ := f4
    refine W_q (r_load_immk (vs := [_, _, _, _, _]) rfl T.ag44 T.sz44 l4) rfl ?_
    obtain ⟨hol, hal, _⟩ := may_small (right_small (f := f) (block := block) (by assumption)) (List.mem_of_getElem? hz3)
    have hhl := hangsP_len z3.ops
    refine S_alloc (l := [_, _, _, _, _]) T.ze44 rfl rfl (fun b5 => ?_)
    refine S_storeb 0 (l' := [_, _, _, _, _]) rfl rfl rfl T.sz44 rfl rfl rfl rfl ?_
    refine W_nil ?_
    refine NX_as (L' := [(4, _), (5, _)]) [4, 5] rfl ?_
    refine CW_seq ?_
    refine CW_region ?_
    refine W_q (r_loadbk 0 (vs := [_, _, _, _, _]) rfl T.ag44 T.sz44 rfl rfl rfl) rfl ?_
    refine S_gives (hangs_g F4 (may_small (right_small (f := f) (block := block) (by assumption)) (List.mem_of_getElem? (by assumption))).1 (may_small (right_small (f := f) (block := block) (by assumption)) (List.mem_of_getElem? (by assumption))).2.1) T.hb52 rfl rfl (fun m6 v6 le6 hv6 => ?_)
    replace hF := rFunc_mono _ _ _ _ le6 hF
    replace hq90 := hq90.mono rI_mono le6
    replace hb90 := hb90.mono rBlock_mono le6
    replace F4 := rBlock_mono _ _ _ _ le6 F4
    replace hp4 := hp4.mono rPhi_mono le6
    replace ho4 := ho4.mono rOp_mono le6
    replace ht4 := ht4.mono rI_mono le6
    obtain ⟨Ah6, ch6, rfl, hh6⟩ := hv6
    refine W_q (r_assign rfl) rfl ?_
    refine W_nil ?_
    refine NX_as (L' := [(4, _), (5, _), (6, _)]) [4, 5, 6] rfl ?_
    refine CW_seq ?_
    refine CW_region ?_
    refine S_makeMap rfl (fun rm => ?_)
    refine W_q (r_assign rfl) rfl ?_
    refine W_nil ?_
    refine NX_as (L' := [(4, _), (5, _), (6, _), (7, _)]) [4, 5, 6, 7] rfl ?_
    refine CW_seq ?_
    refine CW_region ?_
    refine W_q (r_assign rfl) rfl ?_
    refine W_nil ?_
    refine NX_as (L' := [(4, _), (5, _), (6, _), (7, _), (8, _)]) [4, 5, 6, 7, 8] rfl ?_
    refine CW_nilRow 3 1 ?_
    refine CW_front 0 rfl rfl ?_
    refine CW_front 1 rfl rfl ?_
    refine C_again (List (Int × Bool) × Option Nat × Nat × List Int) (fun mk7 x7 => m6.le mk7 ∧ (FlatSt z3.ops x7.1 x7.2.2.2 ∧ (0 < x7.2.2.2.length → ∃ b, x7.2.1 = some b))) (fun x7 => z3.ops.length - x7.2.2.2.length) (fun x7 => [(8, .slice (rowA x7.2.1) x7.2.2.2.length x7.2.2.1)]) (fun x7 => [imap rm (valL Value.bool x7.1), rowI 3 x7.2.1 x7.2.2.1 x7.2.2.2]) [8] [5, 6, 7] (F := [(5, _), (6, _), (7, _)]) (([], none, 0, [])) ⟨Imm.le_refl _, ⟨flatSt_init _, by simp⟩⟩ rfl rfl rfl (fun mk7 x7 hJ7 => ?_)
    obtain ⟨hle7, hJ7⟩ := hJ7
    replace hF := rFunc_mono _ _ _ _ hle7 hF
    replace hq90 := hq90.mono rI_mono hle7
    replace hb90 := hb90.mono rBlock_mono hle7
    replace F4 := rBlock_mono _ _ _ _ hle7 F4
    replace hp4 := hp4.mono rPhi_mono hle7
    replace ho4 := ho4.mono rOp_mono hle7
    replace ht4 := ht4.mono rI_mono hle7
    replace hh6 := hh6.mono (rS_mono rI_mono) hle7
    obtain ⟨hs, hgo⟩ := hJ7
    have hsl := hs.len
    refine CW_as (L' := [(5, _), (6, _), (7, _), (8, _)]) [5, 6, 7, 8] rfl ?_
    refine CW_seq ?_
    refine CW_seq ?_
    refine CW_region ?_
    refine S_litr (vs := [_, _]) (cs := [_, _]) Tryz.underlying54 T.sz4 T.ze4 rfl rfl rfl rfl rfl rfl rfl (fun b9 => ?_)
    refine W_q (r_len Tryz.underlying54 rfl) rfl ?_
    refine W_q (r_move rfl) rfl ?_
    refine W_nil ?_
    refine NX_as (L' := [(5, _), (6, _), (7, _), (8, _), (25, _), (26, _), (27, _)]) [5, 6, 7, 8, 25, 26, 27] rfl ?_
    refine C_range (Unit) (2) (fun k10 x10 => ∀ j, j < k10 → ∀ a, a < z3.ops.length → condF z3.ops x7.1 (j == 0) a = false) (fun k10 x10 => [(8, .slice (rowA x7.2.1) x7.2.2.2.length x7.2.2.1)]) (fun _ _ => []) [8] [5, 6, 7, 25] (F := [(5, _), (6, _), (7, _), (25, _)]) (()) rfl rfl (by omega) (by simp) rfl rfl rfl rfl rfl rfl rfl (fun _ _ => rfl) (fun _ _ => rfl) (fun k10 x10 hk10 hJ10 => ?_) (fun x10 hJ10 => ?_)
    · refine CW_as (L' := [(5, _), (6, _), (7, _), (8, _), (25, _), (26, _), (27, _)]) [5, 6, 7, 8, 25, 26, 27] rfl ?_
      refine CW_seq ?_
      refine CW_region ?_
      refine W_q (r_indexr (o := k10) Tryz.underlying54 T.sz4 rfl rfl ⟨by omega, by omega⟩ (by omega)) rfl ?_
      refine W_q (r_loadr 0 rfl T.ag4 rfl (pass_lit hk10)) rfl ?_
      refine W_q (r_assign rfl) rfl ?_
      refine W_nil ?_
      refine NX_as (L' := [(5, _), (6, _), (7, _), (8, _), (10, _), (25, _), (26, _), (27, _)]) [5, 6, 7, 8, 10, 25, 26, 27] rfl ?_
      refine CW_seq ?_
      refine CW_region ?_
      refine W_q (r_fieldb (o' := 1) rfl T.fo44_1 rfl) rfl ?_
      refine W_q (r_loadb 3 rfl T.ag40 rfl rfl) rfl ?_
      refine W_q (r_len Tryz.underlying40 rfl) rfl ?_
      refine W_q (r_move rfl) rfl ?_
      refine W_nil ?_
      refine NX_as (L' := [(5, _), (6, _), (7, _), (8, _), (10, _), (25, _), (26, _), (27, _), (32, _), (33, _), (34, _)]) [5, 6, 7, 8, 10, 25, 26, 27, 32, 33, 34] rfl ?_
      refine C_range (Unit) (z3.ops.length) (fun k12 x12 => ∀ a, a < k12 → condF z3.ops x7.1 (k10 == 0) a = false) (fun k12 x12 => [(8, .slice (rowA x7.2.1) x7.2.2.2.length x7.2.2.1)]) (fun _ _ => []) [8] [5, 6, 7, 10, 25, 26, 27, 32] (F := [(5, _), (6, _), (7, _), (10, _), (25, _), (26, _), (27, _), (32, _)]) (()) rfl rfl (by omega) (by simp) rfl rfl rfl rfl rfl rfl rfl (fun _ _ => rfl) (fun _ _ => rfl) (fun k12 x12 hk12 hJ12 => ?_) (fun x12 hJ12 => ?_)
      · refine CW_as (L' := [(5, _), (6, _), (7, _), (8, _), (10, _), (25, _), (26, _), (27, _), (32, _), (33, _), (34, _)]) [5, 6, 7, 8, 10, 25, 26, 27, 32, 33, 34] rfl ?_
        refine CW_seq ?_
        refine CW_region ?_
        refine W_q (r_move rfl) rfl ?_
        obtain ⟨ad13, hA13⟩ := ho4.ad (j := k12) (by omega)
        obtain ⟨z13, hz13⟩ := ho4.getz (j := k12) (by omega)
        refine W_q (r_index hA13 Tryz.underlying40 T.sz51 rfl rfl ⟨by omega, by omega⟩) rfl ?_
        obtain ⟨es14, f14, _, l14⟩ := Sl.get ho4 hA13 hz13
        have F14 := f14
        obtain ⟨A14, c14, rfl, h14, i14a, i14b, i14c, i14d, i14e⟩ := f14
        refine W_q (r_load_immk (vs := [_, _, _, _, _, _]) rfl T.ag51 T.sz51 l14) rfl ?_
        refine S_alloc (l := [_, _, _, _, _, _]) T.ze51 rfl rfl (fun b15 => ?_)
        refine W_q (r_assign rfl) rfl ?_
        refine S_storeb 0 (l' := [_, _, _, _, _, _]) rfl rfl rfl T.sz51 rfl rfl rfl rfl ?_
        refine W_nil ?_
        refine NX_as (L' := [(5, _), (6, _), (7, _), (8, _), (10, _), (11, _), (12, _), (25, _), (26, _), (27, _), (32, _), (33, _), (34, _)]) [5, 6, 7, 8, 10, 11, 12, 25, 26, 27, 32, 33, 34] rfl ?_
        refine CW_seq ?_
        refine CW_region ?_
        refine W_q (r_move rfl) rfl ?_
        refine W_q (r_move rfl) rfl ?_
        refine W_q (r_lookup 2 Tryz.underlying67 Tryz.underlying3 T.ze4 rfl rfl rfl (val_getD Value.bool _ _ false)) rfl ?_
        refine W_q (r_not rfl) rfl ?_
        refine W_q (r_move rfl) rfl ?_
        refine WL_split (t := 43) rfl (fun h16 => ?_) (fun h16 => ?_)
        · (try simp only [decide_eq_true_eq, decide_eq_false_iff_not, beq_iff_eq, beq_eq_false_iff_ne, bne_iff_ne, bne_eq_false_iff_eq, Bool.not_eq_true', Bool.not_eq_false', Bool.not_eq_true, Bool.not_eq_false, ne_eq, Decidable.not_not] at h16)
          refine WL_take rfl rfl ?_
          refine W_q (r_fieldb (o' := 0) rfl T.fo51_0 rfl) rfl ?_
          refine WL_take rfl rfl ?_
          refine W_q (r_loadb 0 rfl T.ag3 rfl rfl) rfl ?_
          refine WL_take rfl rfl ?_
          refine W_quiet (Pure_q _) T.hb53 rfl rfl ?_
          refine WL_take rfl rfl ?_
          refine W_q (r_move rfl) rfl ?_
          refine WL_take rfl rfl ?_
          refine W_q (r_booleql rfl rfl Tryz.underlying4) rfl ?_
          refine W_q (r_pick_t rfl rfl) rfl ?_
          refine W_q (r_move rfl) rfl ?_
          refine WL_split (t := 50) rfl (fun h17 => ?_) (fun h17 => ?_)
          · (try simp only [decide_eq_true_eq, decide_eq_false_iff_not, beq_iff_eq, beq_eq_false_iff_ne, bne_iff_ne, bne_eq_false_iff_eq, Bool.not_eq_true', Bool.not_eq_false', Bool.not_eq_true, Bool.not_eq_false, ne_eq, Decidable.not_not] at h17)
            refine WL_take rfl rfl ?_
            refine W_q (r_move rfl) rfl ?_
            refine WL_take rfl rfl ?_
            refine W_q (r_move rfl) rfl ?_
            refine WL_take rfl rfl ?_
            refine W_q (r_move rfl) rfl ?_
            refine WL_take rfl rfl ?_
            obtain ⟨ad18, hA18⟩ := hh6.ad (j := k12) (by omega)
            obtain ⟨z18, hz18⟩ := hh6.getz (j := k12) (by omega)
            refine W_q (r_index hA18 Tryz.underlying65 T.sz22 rfl rfl ⟨by omega, by omega⟩) rfl ?_
            refine WL_take rfl rfl ?_
            obtain ⟨A19, c19, l19, h19⟩ := Sl.getS hh6 hA18 hz18
            refine W_q (r_load_imm rfl T.ag22 l19) rfl ?_
            refine WL_take rfl rfl ?_
            refine W_q (r_quietM 2 rfl (fun m' le hc => stands_q (ll := x7.1) hc (h19.mono rI_mono le)) T.hb54 rfl) rfl ?_
            refine W_q (r_pick_t rfl rfl) rfl ?_
            refine W_nil ?_
            refine NX_as (L' := [(5, _), (6, _), (7, _), (8, _), (10, _), (11, _), (25, _), (26, _), (27, _), (32, _), (33, _), (34, _), (57, _)]) [5, 6, 7, 8, 10, 11, 25, 26, 27, 32, 33, 34, 57] rfl ?_
            refine CW_condk rfl (fun h20 => ?_) (fun h20 => ?_)
            · (try simp only [decide_eq_true_eq, decide_eq_false_iff_not, beq_iff_eq, beq_eq_false_iff_ne, bne_iff_ne, bne_eq_false_iff_eq, Bool.not_eq_true', Bool.not_eq_false', Bool.not_eq_true, Bool.not_eq_false, ne_eq, Decidable.not_not] at h20)
              refine CW_seq ?_
              refine CW_region ?_
              refine W_q (r_move rfl) rfl ?_
              refine W_q (r_move rfl) rfl ?_
              refine S_mapUpdateV (f := Value.bool) (l := x7.1) true 2 Tryz.underlying67 Tryz.underlying3 rfl rfl rfl rfl ?_
              refine W_nil ?_
              refine NX_as (L' := [(5, _), (6, _), (7, _), (8, _), (10, _), (11, _), (25, _), (26, _), (27, _), (32, _), (33, _), (34, _)]) [5, 6, 7, 8, 10, 11, 25, 26, 27, 32, 33, 34] rfl ?_
              refine CW_seq ?_
              refine CW_region ?_
              refine W_q (r_move rfl) rfl ?_
              refine W_q (r_move rfl) rfl ?_
              refine S_litr (vs := [_]) (cs := [_]) Tryz.underlying22 T.sz3 T.ze3 rfl rfl rfl rfl rfl rfl rfl (fun b21 => ?_)
              refine S_appendI (l := x7.2.2.2) (g1 := x7.2.1) [_] 4 rfl rfl rfl Tryz.underlying22 T.sz3 T.ze3 T.by3 rfl rfl (.row 0 rfl) (by simp only [List.length_cons, List.length_nil]; omega) rfl (fun g22 c22 hg22 => ?_)
              refine W_q (r_assign rfl) rfl ?_
              refine W_nil ?_
              refine NX_as (L' := [(5, _), (6, _), (7, _), (8, _), (10, _), (25, _), (26, _), (27, _), (32, _), (33, _), (34, _)]) [5, 6, 7, 8, 10, 25, 26, 27, 32, 33, 34] rfl ?_
              refine C_goto (GX_block (GX_then (GX_block (GX_block (GX_then (GX_block (GX_then (?_))))))))
              have hnx := flatNext_some hk10 hk12 hJ10 hJ12 (condF_t (by assumption) hz13 (beq_iff_eq.2 (by assumption)) hz18 (by assumption))
              obtain ⟨hs2, hlt⟩ := hs.snoc hk12 hnx (by assumption)
              refine GX_low [8, 5, 6, 7] ((_, _, _, _)) ?_ ⟨hle7, ?_⟩ rfl (sub_drop 3 rfl) rfl
              · simp only [List.length_append, List.length_singleton]; omega
              · exact ⟨hs2, hg22⟩
            · (try simp only [decide_eq_true_eq, decide_eq_false_iff_not, beq_iff_eq, beq_eq_false_iff_ne, bne_iff_ne, bne_eq_false_iff_eq, Bool.not_eq_true', Bool.not_eq_false', Bool.not_eq_true, Bool.not_eq_false, ne_eq, Decidable.not_not] at h20)
              refine C_skip ?_
              refine NX_block (?_)
              refine NX_rng [8, 5, 6, 7, 10, 25, 26, 27, 32] (()) ?_ rfl (sub_drop 1 rfl) rfl (Imm.le_refl _)
              exact lt_succ_all hJ12 (by first | exact condF_1 (by assumption) | exact condF_2 hz13 (beq_eq_false_iff_ne.2 (by assumption)) | exact condF_3 hz18 (by assumption))
          · (try simp only [decide_eq_true_eq, decide_eq_false_iff_not, beq_iff_eq, beq_eq_false_iff_ne, bne_iff_ne, bne_eq_false_iff_eq, Bool.not_eq_true', Bool.not_eq_false', Bool.not_eq_true, Bool.not_eq_false, ne_eq, Decidable.not_not] at h17)
            refine WL_pass rfl rfl rfl rfl ?_
            refine WL_pass rfl rfl rfl rfl ?_
            refine WL_pass rfl rfl rfl rfl ?_
            refine WL_pass rfl rfl rfl rfl ?_
            refine WL_pass rfl rfl rfl rfl ?_
            refine WL_pass rfl rfl rfl rfl ?_
            refine W_q (r_pick_f rfl rfl) rfl ?_
            refine W_nil ?_
            refine NX_as (L' := [(5, _), (6, _), (7, _), (8, _), (10, _), (11, _), (25, _), (26, _), (27, _), (32, _), (33, _), (34, _), (57, _)]) [5, 6, 7, 8, 10, 11, 25, 26, 27, 32, 33, 34, 57] rfl ?_
            refine CW_cond_f rfl ?_
            refine C_skip ?_
            refine NX_block (?_)
            refine NX_rng [8, 5, 6, 7, 10, 25, 26, 27, 32] (()) ?_ rfl (sub_drop 1 rfl) rfl (Imm.le_refl _)
            exact lt_succ_all hJ12 (by first | exact condF_1 (by assumption) | exact condF_2 hz13 (beq_eq_false_iff_ne.2 (by assumption)) | exact condF_3 hz13 (by assumption))
        · (try simp only [decide_eq_true_eq, decide_eq_false_iff_not, beq_iff_eq, beq_eq_false_iff_ne, bne_iff_ne, bne_eq_false_iff_eq, Bool.not_eq_true', Bool.not_eq_false', Bool.not_eq_true, Bool.not_eq_false, ne_eq, Decidable.not_not] at h16)
          refine WL_pass rfl rfl rfl rfl ?_
          refine WL_pass rfl rfl rfl rfl ?_
          refine WL_pass rfl rfl rfl rfl ?_
          refine WL_pass rfl rfl rfl rfl ?_
          refine WL_pass rfl rfl rfl rfl ?_
          refine W_q (r_pick_f rfl rfl) rfl ?_
          refine W_q (r_move rfl) rfl ?_
          refine WL_pass rfl rfl rfl rfl ?_
          refine WL_pass rfl rfl rfl rfl ?_
          refine WL_pass rfl rfl rfl rfl ?_
          refine WL_pass rfl rfl rfl rfl ?_
          refine WL_pass rfl rfl rfl rfl ?_
          refine WL_pass rfl rfl rfl rfl ?_
          refine W_q (r_pick_f rfl rfl) rfl ?_
          refine W_nil ?_
          refine NX_as (L' := [(5, _), (6, _), (7, _), (8, _), (10, _), (11, _), (25, _), (26, _), (27, _), (32, _), (33, _), (34, _), (57, _)]) [5, 6, 7, 8, 10, 11, 25, 26, 27, 32, 33, 34, 57] rfl ?_
          refine CW_cond_f rfl ?_
          refine C_skip ?_
          refine NX_block (?_)
          refine NX_rng [8, 5, 6, 7, 10, 25, 26, 27, 32] (()) ?_ rfl (sub_drop 1 rfl) rfl (Imm.le_refl _)
          exact lt_succ_all hJ12 (by first | exact condF_1 (by assumption) | exact condF_2 hz13 (beq_eq_false_iff_ne.2 (by assumption)) | exact condF_3 hz13 (by assumption))
      · refine NX_block (?_)
        refine NX_rng [8, 5, 6, 7, 25] (()) ?_ rfl (List.Sublist.refl _) rfl (Imm.le_refl _)
        exact lt_succ_all hJ10 hJ12
    · refine NX_as (L' := [(5, _), (6, _), (7, _), (8, _)]) [5, 6, 7, 8] rfl ?_
      refine CW_seq ?_
      refine CW_region ?_
      refine W_q (r_move rfl) rfl ?_
      refine W_q (r_assign rfl) rfl ?_
      refine W_nil ?_
      refine NX_as (L' := [(4, _), (5, _), (6, _), (7, _), (8, _)]) [4, 5, 6, 7, 8] rfl ?_
      refine C_ret (RX_jump (RX_know (k_rowI 2 rfl) (fun hr => ?_)))
      refine RX_freeze 2 rfl (fun _ h => h) (fun mf lef hf => ?_)
      have hfin : Ints mf _ _ _ := Ints_frz hf hr.1 hr.2.1 (by have := hs.len; omega) hr.2.2 (fun z hz => by have := hs.rng z hz; exact ⟨by omega, by omega⟩)
      exact RX_g1 rfl rfl (ints_is ((FlatP_t (by assumption) hz3).trans (hs.end_ (flatNext_none hJ10))) hfin)

end Go.Proofs.YtipmgkhjoekaaaaGreat

set_option linter.unusedVariables false
set_option linter.unusedSimpArgs false
namespace Go.Proofs.YtipmgkhjoekaaaaGreat
open Go Go.RowKit Go.Proofs Go.Proofs.YtipmgkhjoekaaaaGreat.Fw
attribute [local irreducible] Qt WL CW NX RX EX GX DL
namespace T
theorem bl25 : bls? Tryz.prog 25 = some ([(0, 1), (1, 1), (2, 1)], ([(.slice none 0 0), (.int .i64 0), (.slice none 0 0)] : List Value)) := by kernel_rfl
theorem by44 : byt? Tryz.prog 44 = some 88 := by kernel_rfl
theorem by51 : byt? Tryz.prog 51 = some 64 := by kernel_rfl
theorem hb19 : hasBody Tryz.prog 19 = true := by kernel_rfl
theorem hb47 : hasBody Tryz.prog 47 = true := by kernel_rfl
theorem sz23 : sz? Tryz.prog 23 = some 1 := by kernel_rfl
theorem sz40 : sz? Tryz.prog 40 = some 1 := by kernel_rfl
theorem ze25 : zero? Tryz.prog 25 = some (.agg #[(.slice none 0 0), (.int .i64 0), (.slice none 0 0)]) := by kernel_rfl
end T
set_option maxHeartbeats 4000000 in
/-- slices.Clone[[]api.Block,api.Block] -/
theorem CloneB_d {m : Imm} {A : Option Addr} {c : Nat} {l : List FBlk} (h : Sl rBlock 5 m A c l) (h0 : 0 < l.length) (hl : l.length ≤ 1000) : Does Tryz.prog 47 [.slice A l.length c] m ([]) (fun m' R' v => m' = m ∧ ∃ b cap xs, R' = [row (some b) l.length cap 44 5 xs] ∧ SRows rBlock 5 m xs l ∧ v = .slice (some ⟨b, 0, none⟩) l.length cap) := by
  obtain ⟨ad, rfl⟩ := h.ad (j := 0) (by omega)
  obtain ⟨ys, hy1, hy2, hy3⟩ := SRows.of_sl h rfl one_block
  refine does_of Tryz.func47 rfl Tryz.ntmps47 rfl (fun w => ?_)
  refine CW_seq ?_
  refine CW_region ?_
  refine W_q (r_assign rfl) rfl ?_
  refine W_nil ?_
  refine NX_as (L' := [(0, _), (2, _)]) [0, 2] rfl ?_
  refine CW_seq ?_
  refine CW_seq ?_
  refine CW_region ?_
  refine W_q (r_move rfl) rfl ?_
  refine W_q (r_sliceeq rfl rfl Tryz.underlying23) rfl ?_
  refine W_nil ?_
  refine NX_as (L' := [(0, _), (2, _), (4, _)]) [0, 2, 4] rfl ?_
  refine CW_condk rfl (fun h1 => ?_) (fun h1 => ?_)
  · (try simp only [decide_eq_true_eq, decide_eq_false_iff_not, beq_iff_eq, beq_eq_false_iff_ne, bne_iff_ne, bne_eq_false_iff_eq, Bool.not_eq_true', Bool.not_eq_false', Bool.not_eq_true, Bool.not_eq_false, ne_eq, Decidable.not_not] at h1)
    refine CW_seq ?_
    refine CW_region ?_
    refine W_q (r_assign rfl) rfl ?_
    refine W_nil ?_
    refine NX_as (L' := [(0, _), (2, _)]) [0, 2] rfl ?_
    exact absurd h1 (by simp)
  · (try simp only [decide_eq_true_eq, decide_eq_false_iff_not, beq_iff_eq, beq_eq_false_iff_ne, bne_iff_ne, bne_eq_false_iff_eq, Bool.not_eq_true', Bool.not_eq_false', Bool.not_eq_true, Bool.not_eq_false, ne_eq, Decidable.not_not] at h1)
    refine C_skip ?_
    refine NX_as (L' := [(0, _), (2, _)]) [0, 2] rfl ?_
    refine CW_seq ?_
    refine CW_region ?_
    refine S_litr (vs := []) (cs := []) Tryz.underlying23 T.sz44 T.ze44 rfl rfl rfl rfl rfl rfl rfl (fun b2 => ?_)
    refine W_q (r_move rfl) rfl ?_
    refine S_appendG ys 0 rfl rfl rfl Tryz.underlying23 T.sz44 T.ze44 T.by44 rfl rfl hy1.len (Src.of_cells hy3) hy2 (by omega) (by unfold maxLen; omega) rfl (fun g3 c3 hg3 => ?_)
    refine W_q (r_assign rfl) rfl ?_
    refine W_nil ?_
    refine NX_as (L' := [(2, _)]) [2] rfl ?_
    obtain ⟨b, rfl⟩ : ∃ b, g3 = some b := hg3 (by omega)
    refine C_ret (RX_d1 rfl rfl (sub_one 0 rfl) ⟨rfl, b, c3, _, ?_, hy1, ?_⟩) <;> simp [rowA]

set_option maxHeartbeats 40000000 in
/-- sched.Put -/
theorem Put_g {m : Imm} {es : List Value} {f : FFun} (hF : rFunc m es f) (block : Int) {A : Option Addr} {c : Nat} {order : List Int} (h : Ints m A c order) : Gives Tryz.prog 16 [.agg es.toArray, .int .i64 block, .slice A order.length c] m (PutΦ f block order) := by
  have hF_0 := hF
  obtain ⟨A90, c90, B90, d90, rfl, hq90, hb90, i90a⟩ := hF_0
  have hbl := hb90.len
  refine gives_of Tryz.func16 rfl Tryz.ntmps16 rfl (fun w => ?_)
  refine CW_seq ?_
  refine CW_region ?_
  refine S_box (l := [_, _, _]) rfl rfl rfl (fun b1 => ?_)
  refine S_alloc (l := [_, _, _]) T.ze25 rfl rfl (fun b2 => ?_)
  refine W_q (r_assign rfl) rfl ?_
  refine W_nil ?_
  refine NX_as (L' := [(1, _), (2, _), (3, _), (6, _), (7, _)]) [1, 2, 3, 6, 7] rfl ?_
  refine CW_seq ?_
  refine CW_seq ?_
  refine CW_region ?_
  refine W_q (r_loadbk 1 (vs := [_, _, _]) rfl T.ag25 T.sz25 rfl rfl rfl) rfl ?_
  refine W_q (r_move rfl) rfl ?_
  refine W_q (r_move rfl) rfl ?_
  refine W_quiet (Legal_q hF _ h) T.hb19 rfl rfl ?_
  refine W_q (r_not rfl) rfl ?_
  refine W_nil ?_
  refine NX_as (L' := [(1, _), (2, _), (3, _), (6, _), (7, _), (16, _)]) [1, 2, 3, 6, 7, 16] rfl ?_
  refine CW_condk rfl (fun h3 => ?_) (fun h3 => ?_)
  · (try simp only [decide_eq_true_eq, decide_eq_false_iff_not, beq_iff_eq, beq_eq_false_iff_ne, bne_iff_ne, bne_eq_false_iff_eq, Bool.not_eq_true', Bool.not_eq_false', Bool.not_eq_true, Bool.not_eq_false, ne_eq, Decidable.not_not] at h3)
    refine CW_seq ?_
    refine CW_region ?_
    refine W_q (r_builds (cs := [_, _, _]) T.bl25 rfl rfl) rfl ?_
    refine S_storeb 0 (l' := [_, _, _]) rfl rfl rfl T.sz25 rfl rfl rfl rfl ?_
    refine W_q (r_assign rfl) rfl ?_
    refine W_nil ?_
    refine NX_as (L' := [(1, _), (2, _), (3, _), (6, _), (7, _)]) [1, 2, 3, 6, 7] rfl ?_
    exact C_ret (RX_then (RX_gR (res_ct 0 rfl rfl rfl T.ag25 T.sz25 rfl) (.inr ⟨by assumption, rfl⟩)))
  · (try simp only [decide_eq_true_eq, decide_eq_false_iff_not, beq_iff_eq, beq_eq_false_iff_ne, bne_iff_ne, bne_eq_false_iff_eq, Bool.not_eq_true', Bool.not_eq_false', Bool.not_eq_true, Bool.not_eq_false, ne_eq, Decidable.not_not] at h3)
    refine C_skip ?_
    refine NX_as (L' := [(1, _), (2, _), (3, _), (6, _), (7, _)]) [1, 2, 3, 6, 7] rfl ?_
    refine CW_seq ?_
    refine CW_region ?_
    obtain ⟨hrt, bo, hbo, hlg⟩ := LegalP_ex (f := f) (block := block) (order := order) (by assumption)
    have hrb := right_block hrt
    obtain ⟨hol, hal, _⟩ := may_small (right_small hrt) (List.mem_of_getElem? hbo)
    have holen := legalP_len hlg
    have horg := legalP_rng hlg
    have hbl64 : f.blocks.length ≤ 64 := by have h := right_small hrt; simp only [mayF, Bool.and_eq_true, Bool.not_eq_true', Bool.or_eq_false_iff, decide_eq_false_iff_not] at h; omega
    refine W_q (r_assign rfl) rfl ?_
    refine W_nil ?_
    refine NX_as (L' := [(1, _), (2, _), (3, _), (6, _), (7, _), (8, _)]) [1, 2, 3, 6, 7, 8] rfl ?_
    refine CW_seq ?_
    refine CW_seq ?_
    refine CW_region ?_
    refine W_q (r_move rfl) rfl ?_
    refine W_q (r_len Tryz.underlying22 rfl) rfl ?_
    refine W_q (r_move rfl) rfl ?_
    refine W_nil ?_
    refine NX_as (L' := [(1, _), (3, _), (6, _), (7, _), (8, _), (18, _), (19, _), (20, _)]) [1, 3, 6, 7, 8, 18, 19, 20] rfl ?_
    refine CW_nilRow 51 6 ?_
    refine C_range (Option Nat × Nat × List Value) (order.length) (fun k4 x4 => SRows rOp 6 m x4.2.2 (ordOps bo (order.take k4)) ∧ (0 < k4 → ∃ b, x4.1 = some b)) (fun k4 x4 => [(8, .slice (rowA x4.1) k4 x4.2.1)]) (fun k4 x4 => [row x4.1 k4 x4.2.1 51 6 x4.2.2]) [8] [1, 3, 6, 7, 18] (F := [(1, _), (3, _), (6, _), (7, _), (18, _)]) ((none, 0, [])) rfl rfl (by omega) ⟨SRows.nil, by omega⟩ rfl rfl rfl rfl rfl rfl rfl (fun _ _ => rfl) (fun _ _ => rfl) (fun k4 x4 hk4 hJ4 => ?_) (fun x4 hJ4 => ?_)
    · obtain ⟨hro, hgo⟩ := hJ4
      refine CW_as (L' := [(1, _), (3, _), (6, _), (7, _), (8, _), (18, _), (19, _), (20, _)]) [1, 3, 6, 7, 8, 18, 19, 20] rfl ?_
      refine CW_seq ?_
      refine CW_region ?_
      obtain ⟨ad6, hA6⟩ := h.ad (j := k4) (by omega)
      obtain ⟨z6, hz6⟩ := h.getz (j := k4) (by omega)
      refine W_q (r_index hA6 Tryz.underlying22 T.sz3 rfl rfl ⟨by omega, by omega⟩) rfl ?_
      obtain ⟨l7, r7⟩ := Sl.getI h hA6 hz6
      refine W_q (r_load_imm rfl T.ag3 l7) rfl ?_
      refine W_q (r_assign rfl) rfl ?_
      refine W_nil ?_
      refine NX_as (L' := [(1, _), (3, _), (6, _), (7, _), (8, _), (10, _), (18, _), (19, _), (20, _)]) [1, 3, 6, 7, 8, 10, 18, 19, 20] rfl ?_
      refine CW_region ?_
      refine W_q (r_move rfl) rfl ?_
      refine W_q (r_fieldb (o' := 2) rfl T.fo25_2 rfl) rfl ?_
      refine W_q (r_loadb 2 rfl T.ag23 rfl rfl) rfl ?_
      refine W_q (r_move rfl) rfl ?_
      obtain ⟨ad8, hA8⟩ := hb90.ad (j := block.toNat) (by omega)
      refine W_q (r_index hA8 Tryz.underlying23 T.sz44 rfl rfl ⟨by omega, by omega⟩) rfl ?_
      refine W_q (r_field rfl T.fo44_1) rfl ?_
      obtain ⟨es9, f9, _, l9⟩ := Sl.get hb90 hA8 hbo
      obtain ⟨A9, c9, B9, d9, C9, e9, rfl, hp9, ho9, ht9, i9a, i9b⟩ := f9
      refine W_q (r_load_imm rfl T.ag40 (l9 1 _ rfl)) rfl ?_
      have hzr := horg z6 (List.mem_of_getElem? hz6)
      refine W_q (r_move rfl) rfl ?_
      obtain ⟨ad10, hA10⟩ := ho9.ad (j := z6.toNat) (by omega)
      obtain ⟨z10, hz10⟩ := ho9.getz (j := z6.toNat) (by omega)
      refine W_q (r_index hA10 Tryz.underlying40 T.sz51 rfl rfl ⟨by omega, by omega⟩) rfl ?_
      obtain ⟨es11, f11, _, l11⟩ := Sl.get ho9 hA10 hz10
      have F11 := f11
      obtain ⟨A11, c11, rfl, h11, i11a, i11b, i11c, i11d, i11e⟩ := f11
      refine W_q (r_load_immk (vs := [_, _, _, _, _, _]) rfl T.ag51 T.sz51 l11) rfl ?_
      refine S_litr (vs := [_]) (cs := [_, _, _, _, _, _]) Tryz.underlying40 T.sz51 T.ze51 rfl rfl rfl rfl rfl rfl rfl (fun b12 => ?_)
      refine S_appendG [_, _, _, _, _, _] 1 rfl rfl rfl Tryz.underlying40 T.sz51 T.ze51 T.by51 rfl rfl rfl (.row 0 rfl) rfl (by omega) (by unfold maxLen; omega) rfl (fun g13 c13 hg13 => ?_)
      refine W_q (r_assign rfl) rfl ?_
      refine W_nil ?_
      refine NX_block (?_)
      refine NX_rng [8, 1, 3, 6, 7, 18] ((_, _, _)) ?_ rfl (sub_drop 1 rfl) rfl (Imm.le_refl _)
      refine ⟨?_, hg13⟩
      rw [ordOps_succ hz6 hz10]
      exact hro.snoc rfl F11
    · obtain ⟨hro, hgo⟩ := hJ4
      rw [List.take_of_length_le (Nat.le_refl _)] at hro
      refine NX_know (k_rowG 0 rfl) (fun hr => ?_)
      refine NX_freeze 0 rfl (fun _ h => h) (fun m14 le14 hf14 => ?_)
      replace hF := rFunc_mono _ _ _ _ le14 hF
      replace hq90 := hq90.mono rI_mono le14
      replace hb90 := hb90.mono rBlock_mono le14
      replace h := h.mono rI_mono le14
      have hoo : (ordOps bo order).length = order.length := by simp [ordOps]
      have hops := (hro.mono rOp_mono le14).sl hf14 (by rw [hoo]; exact hr.2.1) hr.2.2.1 (by rw [hoo]; omega) (by rw [hoo]; exact hgo)
      skip
      refine NX_as (L' := [(1, _), (3, _), (6, _), (7, _), (8, _)]) [1, 3, 6, 7, 8] rfl ?_
      refine CW_seq ?_
      refine CW_region ?_
      refine W_q (r_loadbk 1 (vs := [_, _, _]) rfl T.ag25 T.sz25 rfl rfl rfl) rfl ?_
      refine S_alloc (l := [_, _, _]) T.ze25 rfl rfl (fun b15 => ?_)
      refine S_storeb 0 (l' := [_, _, _]) rfl rfl rfl T.sz25 rfl rfl rfl rfl ?_
      refine W_nil ?_
      refine NX_as (L' := [(1, _), (3, _), (6, _), (7, _), (8, _), (11, _)]) [1, 3, 6, 7, 8, 11] rfl ?_
      refine CW_seq ?_
      refine CW_region ?_
      refine W_q (r_fieldb (o' := 2) rfl T.fo25_2 rfl) rfl ?_
      refine W_q (r_loadb 2 rfl T.ag23 rfl rfl) rfl ?_
      refine S_does (R0 := []) rfl (CloneB_d hb90 (by omega) (by omega)) T.hb47 rfl rfl (fun m16 R16 v16 le16 hR16 => ?_)
      obtain ⟨rfl, bb, capb, xb, rfl, hrows, rfl⟩ := hR16
      refine W_q (r_fieldb (o' := 2) rfl T.fo25_2 rfl) rfl ?_
      refine S_storeb 1 (l' := [_, _, _]) rfl rfl rfl T.sz23 rfl rfl rfl rfl ?_
      refine W_nil ?_
      refine NX_as (L' := [(1, _), (6, _), (7, _), (8, _), (11, _)]) [1, 6, 7, 8, 11] rfl ?_
      refine CW_seq ?_
      refine CW_region ?_
      refine W_q (r_fieldb (o' := 2) rfl T.fo25_2 rfl) rfl ?_
      refine W_q (r_loadb 1 rfl T.ag23 rfl rfl) rfl ?_
      refine W_q (r_move rfl) rfl ?_
      refine W_q (r_move rfl) rfl ?_
      refine W_q (r_indexr (o := (block.toNat * 5)) Tryz.underlying23 T.sz44 rfl rfl ⟨by omega, by omega⟩ (by omega)) rfl ?_
      refine W_q (r_fieldb (o' := (block.toNat * 5) + 1) rfl T.fo44_1 rfl) rfl ?_
      refine S_storerk 0 rfl rfl rfl rfl T.sz40 rfl (by rw [hrows.len]; omega) ?_
      have hrows2 := hrows.set (k := 1) hbo (by omega) (fun es _ => block_ops hops es)
      rw [hoo] at hrows2
      refine W_nil ?_
      refine NX_as (L' := [(6, _), (7, _), (11, _)]) [6, 7, 11] rfl ?_
      refine CW_seq ?_
      refine CW_region ?_
      refine W_q (r_loadbk 1 (vs := [_, _, _]) rfl T.ag25 T.sz25 rfl rfl rfl) rfl ?_
      refine S_storeb 2 (l' := [_, _, _]) rfl rfl rfl T.sz25 rfl rfl rfl rfl ?_
      refine W_q (r_assign rfl) rfl ?_
      refine W_nil ?_
      refine NX_as (L' := [(6, _), (7, _)]) [6, 7] rfl ?_
      refine C_ret (RX_know (k_rowG 0 rfl) (fun hq => ?_))
      refine RX_freeze 0 rfl (fun _ h => h) (fun m18 le18 hf18 => ?_)
      replace hF := rFunc_mono _ _ _ _ le18 hF
      replace hq90 := hq90.mono rI_mono le18
      replace hb90 := hb90.mono rBlock_mono le18
      replace h := h.mono rI_mono le18
      replace hops := hops.mono rOp_mono le18
      have hres := (hrows2.mono rBlock_mono le18).sl hf18 (by rw [List.length_set]; exact hq.2.1) hq.2.2.1 (by rw [List.length_set]; omega) (by rw [List.length_set]; exact hq.2.2.2)
      refine RX_gR (res_ct 1 rfl rfl rfl T.ag25 T.sz25 rfl) (.inl ⟨by assumption, _, rfl, ?_⟩)
      rw [putOps_set hbo]
      exact ⟨_, _, _, _, by simp only [List.length_set]; rfl, hq90, hres, i90a⟩

end Go.Proofs.YtipmgkhjoekaaaaGreat

set_option linter.unusedVariables false
namespace Go.Proofs.YtipmgkhjoekaaaaGreat
open Go Go.Proofs.YtipmgkhjoekaaaaGreat.Fw
/-! One block of operations that hang on nothing. -/
def freeO (i : Nat) : FOp := ⟨0, 8, 1, 2 + (i : Int), [], (i : Int)⟩
def freeL (n : Nat) : List FOp := (List.range n).map freeO
def freeB (n : Nat) : FBlk := ⟨[], freeL n, ⟨0, 1, []⟩⟩
def freeF (n : Nat) : FFun := ⟨[8], 8, [freeB n]⟩
def iota (n : Nat) : List Int := (List.range n).map fun (i : Nat) => (i : Int)
theorem iota_succ (n : Nat) : iota (n + 1) = iota n ++ [(n : Int)] := by simp [iota, List.range_succ]
theorem iota_len (n : Nat) : (iota n).length = n := by simp [iota]
theorem freeL_succ (n : Nat) : freeL (n + 1) = freeL n ++ [freeO n] := by simp [freeL, List.range_succ]
theorem freeL_len (n : Nat) : (freeL n).length = n := by simp [freeL]
theorem freeL_get {n k : Nat} (h : k < n) : (freeL n)[k]? = some (freeO k) := by simp [freeL, h]
theorem mem_freeL {n : Nat} {o : FOp} (h : o ∈ freeL n) : ∃ i, i < n ∧ o = freeO i := by
  simp only [freeL, List.mem_map, List.mem_range] at h
  obtain ⟨i, hi, rfl⟩ := h; exact ⟨i, hi, rfl⟩
section
variable {n : Nat}
theorem free_may (h : n ≤ 60) : mayF (freeF n) = true := by
  have hops : (freeL n).all mayOpC = true := List.all_eq_true.2 fun o ho => by
    obtain ⟨i, hi, rfl⟩ := mem_freeL ho
    have e1 : outN (2 + (i : Int)) = false := by simp only [outN, Bool.or_eq_false_iff, decide_eq_false_iff_not]; omega
    have e2 : inB [(0 : Int), 8, 1, 2 + (i : Int)] = true := by
      simp only [inB, List.any_cons, List.any_nil, e1]; rfl
    simp only [mayOpC, freeO, e2]; rfl
  have hb : mayBlock (freeB n) = true := by simp only [mayBlock, freeB, hops]; rfl
  have hs : sizeF (freeF n) = 1 + (n : Int) := by simp [sizeF, freeF, freeB, freeL_len]
  have h1 : decide (512 < sizeF (freeF n)) = false := by rw [decide_eq_false_iff_not, hs]; omega
  have h2 : ((freeF n).blocks.any fun b => !(mayBlock b)) = false := by simp [freeF, hb]
  simp only [mayF, h1, h2]; rfl
def g1 : FGraph := ⟨[[]], [[]]⟩
theorem free_of : ofP (freeF n) = some g1 := by
  have e : sortC [] = [] := by rw [sortC]; simp; exact compact_nil
  have e2 : badB 1 (freeB n) = false := rfl
  rw [ofP_ok (by simp [freeF]) (fun j b hj hb => by
    simp only [freeF, List.length_cons, List.length_nil] at hj
    obtain rfl : j = 0 := by omega
    cases hb; exact e2)]
  show makeP [sortC []] = some g1
  rw [e]; rfl
theorem g1_tree : treeP g1 0 = [-1] := by
  refine treeP_eq (Int.le_refl 0) ⟨rfl, rfl, fun y h0 h1 hn => ?_, fun y h0 h1 _ hne => ?_⟩
  · have : y = 0 := by simp only [g1, List.length_cons, List.length_nil] at h1; omega
    subst this; exact absurd (.refl trivial) hn
  · have : y = 0 := by simp only [g1, List.length_cons, List.length_nil] at h1; omega
    exact absurd this hne
theorem free_shape : shapeP (freeF n) = 0 := by
  refine shapeP_ok free_of fun i b hi => ?_
  obtain ⟨hlt, rfl⟩ := List.getElem?_eq_some_iff.1 hi
  simp only [freeF, List.length_cons, List.length_nil] at hlt
  obtain rfl : i = 0 := by omega
  rw [g1_tree]
  have : overP [-1] 0 0 = true := by decide
  show okShape g1 [-1] 0 (freeB n) = true
  rw [okShape, show ((0 : Nat) : Int) = 0 from rfl, this]; rfl
theorem free_opK {i : Nat} (h : i < 60) : mayOpK (freeO i) = true := by
  have e1 : cutV (i : Int) 8 = (i : Int) := by
    rw [cutV, if_pos (by decide)]
    show (i : Int) % 256 = i
    omega
  have e2 : valueB (2 + (i : Int)) = true := by simp only [valueB, Bool.and_eq_true, decide_eq_true_eq]; omega
  have e3 : takesP (freeO i) = ([], true) := by
    show (if (0 : Int) == 0 then ([], cutV (i : Int) 8 == (i : Int)) else _) = _
    rw [if_pos (by decide), e1]; simp
  simp only [mayOpK, e3]
  show (shapeB 8 1 && (true && ((if storesK 0 then (2 + (i : Int)) == 0 else valueB (2 + (i : Int))) && _))) = true
  rw [show storesK 0 = false from rfl, if_neg (by decide), e2]; rfl
theorem free_typed (h : n ≤ 60) : typedP (freeF n) 2 = 0 := by
  have hops : (freeL n).all (ofK 2) = true := List.all_eq_true.2 fun o ho => by
    obtain ⟨i, hi, rfl⟩ := mem_freeL ho
    simp only [ofK, free_opK (show i < 60 by omega)]; rfl
  have hb : okTyped 2 (freeB n) = true := by simp only [okTyped, freeB, hops]; rfl
  have : (mayW (freeF n).ret && ((freeF n).params.all mayW && (freeF n).blocks.all (okTyped 2))) = true := by
    simp only [freeF, List.all_cons, List.all_nil, hb]; rfl
  rw [typedP, if_pos this]
theorem free_gives {i : Nat} (h : i < 60) : givesP (freeO i) = (8, 1) := by
  rw [givesP, free_opK h]; rfl
theorem free_takes {i : Nat} (h : i < 60) : takesK (freeO i) = [] := by
  rw [takesK, if_pos (free_opK h)]; rfl
theorem zipIdx_snoc {α : Type _} (l : List α) (x : α) : (l ++ [x]).zipIdx = l.zipIdx ++ [(x, l.length)] := by
  rw [List.zipIdx_append]; simp
theorem free_zip (n : Nat) : (freeL n).zipIdx = (List.range n).map fun i => (freeO i, i) := by
  induction n with
  | zero => rfl
  | succ n ih => rw [freeL_succ, zipIdx_snoc, ih, freeL_len, List.range_succ, List.map_append]; rfl
theorem flatten_ones {α β : Type _} (f : α → β) (l : List α) : (l.map fun x => [f x]).flatten = l.map f := by
  induction l with
  | nil => rfl
  | cons x r ih => simp [ih]
theorem free_opDs (h : n ≤ 60) : (freeL n).zipIdx.flatMap (opD 0) = (List.range n).map fun (i : Nat) => (2 + (i : Int), ((0 : Int), (i : Int), (8 : Int), (1 : Int))) := by
  rw [free_zip, List.flatMap_map]
  have : ∀ i ∈ List.range n, opD 0 (freeO i, i) = [(2 + (i : Int), ((0 : Int), (i : Int), (8 : Int), (1 : Int)))] := fun i hi => by
    have hi' := List.mem_range.1 hi
    have e := free_gives (show i < 60 by omega)
    simp only [opD, e]; rfl
  rw [List.flatMap_def, List.map_congr_left this]
  exact flatten_ones _ _
theorem free_defs (h : n ≤ 60) : defsL (freeF n) = (1, (-1, 0, 8, 1)) :: (List.range n).map fun (i : Nat) => (2 + (i : Int), ((0 : Int), (i : Int), (8 : Int), (1 : Int))) := by
  have e := free_opDs h
  show [8].zipIdx.map paramD ++ [freeB n].zipIdx.flatMap blockD = _
  simp only [List.zipIdx_cons, List.zipIdx_nil, List.map_cons, List.map_nil, List.flatMap_cons, List.flatMap_nil, List.append_nil, paramD, blockD, freeB, List.nil_append]
  rw [e]; rfl
theorem free_usesL (h : n ≤ 60) : usesL (freeF n) = [(1, (8, 1), 0, 1048576)] := by
  have e : (freeL n).zipIdx.flatMap (opU 0) = [] := by
    rw [free_zip, List.flatMap_eq_nil_iff]
    intro x hx
    simp only [List.mem_map, List.mem_range] at hx
    obtain ⟨i, hi, rfl⟩ := hx
    rw [opU, free_takes (by omega)]; rfl
  show [freeB n].zipIdx.flatMap (blockU (freeF n)) = _
  simp only [List.zipIdx_cons, List.zipIdx_nil, List.flatMap_cons, List.flatMap_nil, List.append_nil, blockU, freeB, List.nil_append]
  rw [e]; rfl
theorem free_get (h : n ≤ 60) : getL (defsL (freeF n)) 1 = some (-1, 0, 8, 1) := by rw [free_defs h]; rfl
theorem free_uses (h : n ≤ 60) (ask : Use → Int) (h1 : ask (1, (8, 1), 0, 1048576) = 0) : usesP (freeF n) ask = 0 := by
  rw [usesP, free_usesL h, firstN_one, h1]
theorem free_defined (h : n ≤ 60) : definedP (freeF n) = 0 := by
  have hd : defOK (freeF n) := by
    refine ⟨fun b hb p hp => ?_, ?_⟩
    · simp only [freeF, List.mem_singleton] at hb; subst hb; simp [freeB] at hp
    · rw [free_defs h, List.map_cons, List.map_map, List.nodup_cons]
      refine ⟨fun hc => ?_, ?_⟩
      · simp only [List.mem_map, List.mem_range, Function.comp] at hc
        obtain ⟨i, _, hi⟩ := hc; omega
      · rw [List.nodup_iff_pairwise_ne, List.pairwise_map]
        refine List.Pairwise.imp ?_ List.pairwise_lt_range
        intro a b hab; simp only [Function.comp]; omega
  rw [definedP, if_pos hd]
  exact free_uses h _ (by simp only [askD, free_get h]; rfl)
theorem free_check (h : n ≤ 60) : checkP (freeF n) 2 = 0 := by
  rw [checkP, if_neg (by omega), lookP, if_neg (by simp [free_may h]), if_neg (by simp [free_shape]), if_neg (by simp [free_typed h]), if_neg (by simp [free_defined h]), if_neg (by
    have := free_uses h (askS (freeF n)) (by simp only [askS, free_get h]; rfl)
    simp [this])]
  exact free_uses h _ (by simp only [askP, free_get h]; rfl)
theorem free_right (h : n ≤ 60) : rightP (freeF n) 0 = true := by
  simp only [rightP, free_check h]; rfl
theorem free_hangs (n : Nat) : hangsP (freeL n) = List.replicate n [] := by
  refine List.ext_getElem? fun j => ?_
  by_cases hj : j < n
  · rw [hangsP_get (freeL_get hj), List.getElem?_replicate, if_pos hj]
    have : rawH (freeL n) (freeO j, j) = [] := rfl
    rw [this, sortC]; simp; exact compact_nil
  · rw [List.getElem?_eq_none (by rw [hangsP_len, freeL_len]; omega), List.getElem?_replicate, if_neg hj]
theorem free_hang {k : Nat} : (hangsP (freeL n)).getD k [] = [] := by
  rw [free_hangs]; simp only [List.getD_eq_getElem?_getD, List.getElem?_replicate]; split <;> rfl
theorem free_legal {l : List Int} (hl : l.length = n) (hn : l.Nodup) (hr : ∀ z ∈ l, 0 ≤ z ∧ z < (n : Int)) : legalP (freeB n) l = true := by
  refine legalP_t (by simp [freeB, freeL_len, hl]) fun j hj => ?_
  have hz : l[j]? = some l[j] := List.getElem?_eq_getElem hj
  have hzr := hr _ (List.getElem_mem hj)
  have hnot : inM (putM l j) l[j] = false := by
    rw [inM_putM, decide_eq_false_iff_not]
    intro hc
    obtain ⟨i, hi⟩ := List.mem_iff_getElem?.1 hc
    have hij : i < j := by have := (List.getElem?_eq_some_iff.1 hi).1; rw [List.length_take] at this; omega
    rw [List.getElem?_take, if_pos hij] at hi
    have := nodup_idx hn hi hz
    omega
  refine okO_t (l := []) hz hzr.1 (by simp only [freeB, freeL_len]; exact hzr.2) hnot ?_ rfl
  simp only [freeB]; rw [free_hangs, List.getElem?_replicate, if_pos (by omega)]
theorem free_next {k : Nat} (hk : k < n) : flatNext (freeL n) (putL1 (iota k)) = some k := by
  refine flatNext_some (k0 := 0) (by omega) (by rw [freeL_len]; exact hk) (fun j hj => absurd hj (by omega)) (fun a ha => ?_) ?_
  · exact condF_1 (by rw [putL1_in, decide_eq_true_eq]; simp only [iota, List.mem_map, List.mem_range]; exact ⟨a, ha, rfl⟩)
  · refine condF_t (l := []) ?_ (freeL_get hk) rfl ?_ rfl
    · rw [putL1_in, decide_eq_false_iff_not]; simp only [iota, List.mem_map, List.mem_range]; rintro ⟨a, ha, e⟩; omega
    · rw [free_hangs, List.getElem?_replicate, if_pos hk]
theorem free_run : ∀ t k : Nat, k + t = n → flatRun (freeL n) t (iota k) = iota n
  | 0, k, h => by obtain rfl : k = n := by omega
                  rfl
  | t + 1, k, h => by
    rw [flatRun, free_next (by omega)]
    show flatRun (freeL n) t (iota k ++ [(k : Int)]) = _
    rw [← iota_succ]; exact free_run t (k + 1) (by omega)
theorem free_flat (h : n ≤ 60) : FlatP (freeF n) 0 = iota n := by
  rw [FlatP_t (free_right h) (b := freeB n) rfl, flatP]
  simp only [freeB, freeL_len]
  exact free_run n 0 (Nat.zero_add n)
theorem dep_free : ∀ k : Nat, k ≤ n → depK (List.replicate n []) k = List.replicate k 0
  | 0, _ => rfl
  | k + 1, h => by
    rw [depK_succ (l := []) (by rw [List.getElem?_replicate, if_pos (by omega)]), dep_free k (by omega), List.replicate_succ']
    rfl
theorem free_depth (h : n ≤ 60) : DepthP (freeF n) 0 = List.replicate n 0 := by
  rw [DepthP_t (free_right h) (b := freeB n) rfl, depP]
  simp only [freeB, free_hangs, List.length_replicate]
  exact dep_free n (Nat.le_refl _)
theorem free_hangsAt (h : n ≤ 60) (k : Int) : HangsP (freeF n) 0 k = [] := by
  by_cases h0 : 0 ≤ k
  · rw [HangsP, if_pos (free_right h), if_pos h0]
    show (hangsP (freeL n)).getD k.toNat [] = []
    exact free_hang
  · exact HangsP_f1 (by omega)
theorem free_Legal (h : n ≤ 60) {l : List Int} (hl : l.length = n) (hn : l.Nodup) (hr : ∀ z ∈ l, 0 ≤ z ∧ z < (n : Int)) : LegalP (freeF n) 0 l = true := by
  rw [LegalP_t (free_right h) (b := freeB n) rfl]; exact free_legal hl hn hr
theorem free_put {l : List Int} : putOps (freeF n) 0 l = ⟨[8], 8, [⟨[], ordOps (freeB n) l, ⟨0, 1, []⟩⟩]⟩ := rfl
theorem free_ord {l : List Int} {k : Nat} {z : Int} (hz : l[k]? = some z) (hr : 0 ≤ z ∧ z < (n : Int)) : (ordOps (freeB n) l)[k]? = some (freeO z.toNat) := by
  rw [ordOps, List.getElem?_map, hz]
  have : (freeB n).ops[z.toNat]? = some (freeO z.toNat) := freeL_get (by omega)
  simp [this]
end
end Go.Proofs.YtipmgkhjoekaaaaGreat

set_option linter.unusedVariables false
namespace Go.Proofs.YtipmgkhjoekaaaaGreat
open Go Go.Proofs.YtipmgkhjoekaaaaGreat.Fw
/-! The function that the laws of orders begin with. -/
theorem sortC_rise {l : List Int} (h : l.Pairwise (· < ·)) : sortC l = l := by
  rw [sortC, List.mergeSort_of_pairwise (h.imp (by intro a b hab; simp; omega))]
  refine Lib.compact_all l fun j hj => ?_
  simp only [Lib.keeps, decide_eq_true_eq]
  rcases Nat.eq_zero_or_pos j with h0 | h0
  · exact .inl h0
  · right
    have e1 : l.toArray[j]! = l[j] := by rw [getElem!_pos _ j (by simpa using hj)]; simp
    have e2 : l.toArray[j - 1]! = l[j - 1] := by rw [getElem!_pos _ (j - 1) (by simp; omega)]; simp
    rw [e1, e2]
    have := List.pairwise_iff_getElem.1 h (j - 1) j (by omega) hj (by omega)
    omega
def awO1 : FOp := ⟨0, 8, 1, 1, [], 7⟩
def awO2 : FOp := ⟨0, 8, 1, 2, [], 8⟩
def awO3 : FOp := ⟨1, 8, 1, 3, [1, 2], 0⟩
def awB : FBlk := ⟨[], [awO1, awO2, awO3], ⟨0, 3, []⟩⟩
def awF : FFun := ⟨[], 8, [awB]⟩
theorem aw_may : mayF awF = true := by decide
theorem aw_of : ofP awF = some g1 := by
  have e : sortC [] = [] := sortC_rise List.Pairwise.nil
  rw [ofP_ok (by simp [awF]) (fun j b hj hb => by
    simp only [awF, List.length_cons, List.length_nil] at hj
    obtain rfl : j = 0 := by omega
    cases hb; rfl)]
  show makeP [sortC []] = some g1
  rw [e]; rfl
theorem aw_shape : shapeP awF = 0 := by
  refine shapeP_ok aw_of fun i b hi => ?_
  obtain ⟨hlt, rfl⟩ := List.getElem?_eq_some_iff.1 hi
  simp only [awF, List.length_cons, List.length_nil] at hlt
  obtain rfl : i = 0 := by omega
  rw [g1_tree]; show okShape g1 [-1] 0 awB = true; decide
theorem aw_typed : typedP awF 2 = 0 := by decide
theorem aw_defined : definedP awF = 0 := by
  have hd : defOK awF := by
    refine ⟨fun b hb p hp => ?_, by decide⟩
    simp only [awF, List.mem_singleton] at hb; subst hb; simp [awB] at hp
  rw [definedP, if_pos hd]; decide
theorem aw_check : checkP awF 2 = 0 := by
  rw [checkP, if_neg (by omega), lookP, if_neg (by simp [aw_may]), if_neg (by simp [aw_shape]), if_neg (by simp [aw_typed]), if_neg (by simp [aw_defined]), if_neg (by
    have : usesP awF (askS awF) = 0 := by decide
    simp [this]), aw_of]
  show usesP awF (askP awF (treeP g1 0)) = 0
  rw [g1_tree]; decide
theorem aw_right : rightP awF 0 = true := by
  simp only [rightP, aw_check]; rfl
theorem aw_hangs : hangsP [awO1, awO2, awO3] = [[], [], [0, 1]] := by
  have e0 : sortC [] = [] := sortC_rise List.Pairwise.nil
  have e1 : sortC [0, 1] = [0, 1] := sortC_rise (by decide)
  show [sortC [], sortC [], sortC [0, 1]] = _
  rw [e0, e1]
theorem aw_legal {order : List Int} {q : Bool} (h : (decide (order.length = 3) && (List.range order.length).all fun k => match order[k]? with
    | some a => !(decide (a < 0) || decide ((3 : Int) ≤ a)) && (!(inM (putM order k) a) && standsB (putM order k) ([[], [], [(0 : Int), 1]].getD a.toNat []))
    | none => true) = q) : LegalP awF 0 order = q := by
  rw [LegalP_t aw_right (b := awB) rfl, ← h]
  have : okO awB order = fun k => match order[k]? with
    | some a => !(decide (a < 0) || decide ((3 : Int) ≤ a)) && (!(inM (putM order k) a) && standsB (putM order k) ([[], [], [(0 : Int), 1]].getD a.toNat []))
    | none => true := by
    funext k; simp only [okO, awB, aw_hangs]; rfl
  rw [legalP, this]; rfl
theorem aw_legal1 : LegalP awF 0 [1, 0, 2] = true := aw_legal (by decide)
theorem aw_legal2 : LegalP awF 0 [2, 0, 1] = false := aw_legal (by decide)
theorem aw_hangs2 : HangsP awF 0 2 = [0, 1] := by
  rw [HangsP, if_pos aw_right, if_pos (by decide)]
  show (hangsP [awO1, awO2, awO3]).getD 2 [] = _
  rw [aw_hangs]; rfl
theorem aw_flat : FlatP awF 0 = [0, 1, 2] := by
  rw [FlatP_t aw_right (b := awB) rfl]
  have hc : ∀ L p a, condF [awO1, awO2, awO3] L p a = (!(inM L a) && ((pureK ([awO1, awO2, awO3].getD a default).kind == p) && standsB L ([[], [], [(0 : Int), 1]].getD a []))) := fun L p a => by rw [condF, aw_hangs]
  have h0 : flatNext [awO1, awO2, awO3] (putL1 []) = some 0 := flatNext_some (k0 := 0) (k1 := 0) (by omega) (by decide) (by intro j hj; omega) (by intro a ha; omega) (by rw [hc]; decide)
  have h1 : flatNext [awO1, awO2, awO3] (putL1 [0]) = some 1 := flatNext_some (k0 := 0) (k1 := 1) (by omega) (by decide) (by intro j hj; omega) (by intro a ha; rw [hc]; rcases (show a = 0 ∨ a = 0 by omega) with rfl | rfl <;> decide) (by rw [hc]; decide)
  have h2 : flatNext [awO1, awO2, awO3] (putL1 [0, 1]) = some 2 := flatNext_some (k0 := 0) (k1 := 2) (by omega) (by decide) (by intro j hj; omega) (by intro a ha; rw [hc]; rcases (show a = 0 ∨ a = 1 by omega) with rfl | rfl <;> decide) (by rw [hc]; decide)
  show flatRun [awO1, awO2, awO3] 3 [] = _
  rw [flatRun, h0]
  show flatRun [awO1, awO2, awO3] 2 [0] = _
  rw [flatRun, h1]
  show flatRun [awO1, awO2, awO3] 1 [0, 1] = _
  rw [flatRun, h2]; rfl
theorem aw_depth : DepthP awF 0 = [0, 0, 1] := by
  rw [DepthP_t aw_right (b := awB) rfl]
  show depP (hangsP [awO1, awO2, awO3]) = _
  rw [aw_hangs]; decide
/-! Building structs. -/
theorem Fw.SRows.lit {α : Type} {r : Rep α} {sz c : Nat} {m : Imm} {ad : Addr} {cs : List Value} {l : List α} (h : SRows r sz m cs l) (hl : ∀ j v, cs[j]? = some v → m.cell? (ad.add j) = some v) (hc : l.length = c := by rfl) (hle : Nat.ble c 1000 = true := by rfl) : Sl r sz m (some ad) c l := by
  have hle := Nat.le_of_ble_eq_true hle
  subst hc
  refine ⟨Nat.le_refl _, by simp only [maxLen]; omega, by omega, fun j x hj => ?_⟩
  obtain ⟨es, h1, h2, h3⟩ := h.at_ j x hj
  exact ⟨ad, rfl, es, h1, h2, fun k v hk => hl _ _ (h3 k v hk)⟩
theorem Fw.SRows.add {α : Type} {r : Rep α} {sz : Nat} {m : Imm} {xs es : List Value} {l : List α} {z : α} (h : SRows r sz m xs l) (hz : r m es z) (hes : es.length = sz := by rfl) : SRows r sz m (xs ++ es) (l ++ [z]) := h.snoc hes hz
theorem rOp_none {m : Imm} {k b l d i : Int} (hk : I64 k := by exact ⟨by omega, by omega⟩) (hb : I64 b := by exact ⟨by omega, by omega⟩) (hl : I64 l := by exact ⟨by omega, by omega⟩) (hd : I64 d := by exact ⟨by omega, by omega⟩) (hi : U64 i := by exact ⟨by omega, by omega⟩) :
    rOp m [.int .i64 k, .int .i64 b, .int .i64 l, .int .i64 d, .slice none 0 0, .int .u64 i] ⟨k, b, l, d, [], i⟩ := ⟨none, 0, rfl, Sl.nil _ _ _, hk, hb, hl, hd, hi⟩
theorem rOp_some {m : Imm} {k b l d i : Int} {A : Option Addr} {c n : Nat} {as : List Int} (h : Ints m A c as) (hn : as.length = n := by rfl) (hk : I64 k := by exact ⟨by omega, by omega⟩) (hb : I64 b := by exact ⟨by omega, by omega⟩) (hl : I64 l := by exact ⟨by omega, by omega⟩) (hd : I64 d := by exact ⟨by omega, by omega⟩) (hi : U64 i := by exact ⟨by omega, by omega⟩) :
    rOp m [.int .i64 k, .int .i64 b, .int .i64 l, .int .i64 d, .slice A n c, .int .u64 i] ⟨k, b, l, d, as, i⟩ := by subst hn; exact ⟨A, c, rfl, h, hk, hb, hl, hd, hi⟩
theorem rBlock_of {m : Imm} {B : Option Addr} {d n : Nat} {ops : List FOp} {k a : Int} (h : Sl rOp 6 m B d ops) (hn : ops.length = n := by rfl) (hk : I64 k := by exact ⟨by omega, by omega⟩) (ha : I64 a := by exact ⟨by omega, by omega⟩) :
    rBlock m [.slice none 0 0, .slice B n d, .int .i64 k, .int .i64 a, .slice none 0 0] ⟨[], ops, ⟨k, a, []⟩⟩ := by subst hn; exact ⟨none, 0, B, d, none, 0, rfl, Sl.nil _ _ _, h, Sl.nil _ _ _, hk, ha⟩
end Go.Proofs.YtipmgkhjoekaaaaGreat

set_option linter.unusedVariables false
set_option linter.unusedSimpArgs false
namespace Go.Proofs.YtipmgkhjoekaaaaGreat
open Go Go.RowKit Go.Proofs Go.Proofs.YtipmgkhjoekaaaaGreat.Fw
attribute [local irreducible] Qt WL CW NX RX EX GX DL
namespace T
theorem bl42 : bls? Tryz.prog 42 = some ([(0, 1), (1, 1), (2, 1)], ([(.int .i64 0), (.int .i64 0), (.slice none 0 0)] : List Value)) := by kernel_rfl
theorem bl44 : bls? Tryz.prog 44 = some ([(0, 1), (1, 1), (2, 3)], ([(.slice none 0 0), (.slice none 0 0), (.int .i64 0), (.int .i64 0), (.slice none 0 0)] : List Value)) := by kernel_rfl
theorem bl51 : bls? Tryz.prog 51 = some ([(0, 1), (1, 1), (2, 1), (3, 1), (4, 1), (5, 1)], ([(.int .i64 0), (.int .i64 0), (.int .i64 0), (.int .i64 0), (.slice none 0 0), (.int .u64 0)] : List Value)) := by kernel_rfl
theorem hb16 : hasBody Tryz.prog 16 = true := by kernel_rfl
theorem hb21 : hasBody Tryz.prog 21 = true := by kernel_rfl
theorem hb22 : hasBody Tryz.prog 22 = true := by kernel_rfl
theorem hb24 : hasBody Tryz.prog 24 = true := by kernel_rfl
theorem hb26 : hasBody Tryz.prog 26 = true := by kernel_rfl
end T
theorem known_q {P : Program} {f : FuncId} {vs : List Value} {m : Imm} {x y : Bool} (h : Quiet P f vs m (.bool x)) (e : x = y) : Quiet P f vs m (.bool y) := e ▸ h
set_option maxHeartbeats 40000000 in
/-- locksteplaw19.awake -/
theorem awake19_q {m : Imm}  : Quiet Tryz.prog 14 [] m (.bool true) := by
  refine quiet_of Tryz.func14 rfl Tryz.ntmps14 rfl (fun w => ?_)
  refine CW_seq ?_
  refine CW_region ?_
  refine W_q (r_assign rfl) rfl ?_
  refine W_nil ?_
  refine NX_as (L' := [(0, _)]) [0] rfl ?_
  refine CW_seq ?_
  refine CW_region ?_
  refine W_q (r_builds (cs := [_, _, _, _, _, _]) T.bl51 rfl rfl) rfl ?_
  refine W_q (r_builds (cs := [_, _, _, _, _, _]) T.bl51 rfl rfl) rfl ?_
  refine S_lit (vs := [_, _]) (cs := [_, _]) Tryz.underlying22 T.sz3 T.ze3 rfl rfl rfl rfl rfl rfl (fun m1 ad1 le1 l1 => ?_)
  have h1 : Ints m1 (some ad1) 2 _ := Ints_lit [_, _] l1 (i64s_cons (by first | assumption | exact ⟨by omega, by omega⟩) (i64s_cons (by first | assumption | exact ⟨by omega, by omega⟩) i64s_nil))
  refine W_q (r_builds (cs := [_, _, _, _, _, _]) T.bl51 rfl rfl) rfl ?_
  refine S_lit (vs := [_, _, _]) (cs := [_, _, _, _, _, _, _, _, _, _, _, _, _, _, _, _, _, _]) Tryz.underlying40 T.sz51 T.ze51 rfl rfl rfl rfl rfl rfl (fun m2 ad2 le2 l2 => ?_)
  replace h1 := h1.mono rI_mono le2
  have s1 : rOp m2 [.int .i64 0, .int .i64 8, .int .i64 1, .int .i64 1, .slice none 0 0, .int .u64 7] awO1 := rOp_none
  have s2 : rOp m2 [.int .i64 0, .int .i64 8, .int .i64 1, .int .i64 2, .slice none 0 0, .int .u64 8] awO2 := rOp_none
  have s3 : rOp m2 [.int .i64 1, .int .i64 8, .int .i64 1, .int .i64 3, .slice _ 2 _, .int .u64 0] awO3 := rOp_some h1
  have s0 : SRows rOp 6 m2 [] [] := SRows.nil
  have s4 := ((s0.add s1).add s2).add s3
  have hO : Sl rOp 6 m2 (some ad2) 3 [awO1, awO2, awO3] := SRows.lit s4 l2
  refine W_q (r_builds (cs := [_, _, _]) T.bl42 rfl rfl) rfl ?_
  refine W_q (r_builds (cs := [_, _, _, _, _]) T.bl44 rfl rfl) rfl ?_
  refine S_lit (vs := [_]) (cs := [_, _, _, _, _]) Tryz.underlying23 T.sz44 T.ze44 rfl rfl rfl rfl rfl rfl (fun m3 ad3 le3 l3 => ?_)
  replace h1 := h1.mono rI_mono le3
  replace hO := hO.mono rOp_mono le3
  have hBs : Sl rBlock 5 m3 (some ad3) 1 [awB] := SRows.lit (SRows.nil.add (rBlock_of hO)) l3
  refine W_q (r_builds (cs := [_, _, _]) T.bl25 rfl rfl) rfl ?_
  refine S_alloc (l := [_, _, _]) T.ze25 rfl rfl (fun b4 => ?_)
  refine S_storeb 0 (l' := [_, _, _]) rfl rfl rfl T.sz25 rfl rfl rfl rfl ?_
  refine W_nil ?_
  refine NX_as (L' := [(0, _), (1, _)]) [0, 1] rfl ?_
  refine CW_seq ?_
  refine CW_region ?_
  have hF : rFunc _ [.slice none 0 0, .int .i64 8, .slice _ 1 _] awF := ⟨_, _, _, _, rfl, Sl.nil _ _ _, hBs, ⟨by decide, by decide⟩⟩
  refine W_q (r_loadbk 0 (vs := [_, _, _]) rfl T.ag25 T.sz25 rfl rfl rfl) rfl ?_
  refine S_lit (vs := [_, _, _]) (cs := [_, _, _]) Tryz.underlying22 T.sz3 T.ze3 rfl rfl rfl rfl rfl rfl (fun m5 ad5 le5 l5 => ?_)
  replace h1 := h1.mono rI_mono le5
  replace hO := hO.mono rOp_mono le5
  replace hBs := hBs.mono rBlock_mono le5
  replace hF := rFunc_mono _ _ _ _ le5 hF
  have h5 : Ints m5 (some ad5) 3 _ := Ints_lit [_, _, _] l5 (i64s_cons (by first | assumption | exact ⟨by omega, by omega⟩) (i64s_cons (by first | assumption | exact ⟨by omega, by omega⟩) (i64s_cons (by first | assumption | exact ⟨by omega, by omega⟩) i64s_nil)))
  refine S_gives (Put_g hF _ h5) T.hb16 rfl rfl (fun m6 v6 le6 hv6 => ?_)
  replace h1 := h1.mono rI_mono le6
  replace hO := hO.mono rOp_mono le6
  replace hBs := hBs.mono rBlock_mono le6
  replace hF := rFunc_mono _ _ _ _ le6 hF
  replace h5 := h5.mono rI_mono le6
  obtain ⟨_, esG6, rfl, hG6⟩ := hv6.resolve_right (fun h => absurd (Eq.trans (Eq.symm aw_legal1) h.1) (by decide))
  rw [show putOps awF 0 [1, 0, 2] = ⟨[], 8, [⟨[], [awO2, awO1, awO3], ⟨0, 3, []⟩⟩]⟩ from rfl] at hG6
  have hG6_0 := hG6
  obtain ⟨A106, c106, B106, d106, rfl, hq106, hb106, i106a⟩ := hG6_0
  refine W_q (r_move rfl) rfl ?_
  refine W_q (r_extract rfl rfl) rfl ?_
  refine W_q (r_extract rfl rfl) rfl ?_
  refine S_alloc (l := [_, _, _]) T.ze25 rfl rfl (fun b7 => ?_)
  refine S_storeb 0 (l' := [_, _, _]) rfl rfl rfl T.sz25 rfl rfl rfl rfl ?_
  refine W_q (r_assign rfl) rfl ?_
  refine W_nil ?_
  refine NX_as (L' := [(0, _), (1, _), (2, _), (3, _)]) [0, 1, 2, 3] rfl ?_
  refine CW_seq ?_
  refine CW_region ?_
  refine W_q (r_loadbk 1 (vs := [_, _, _]) rfl T.ag25 T.sz25 rfl rfl rfl) rfl ?_
  refine S_lit (vs := [_, _, _]) (cs := [_, _, _]) Tryz.underlying22 T.sz3 T.ze3 rfl rfl rfl rfl rfl rfl (fun m8 ad8 le8 l8 => ?_)
  replace h1 := h1.mono rI_mono le8
  replace hO := hO.mono rOp_mono le8
  replace hBs := hBs.mono rBlock_mono le8
  replace hF := rFunc_mono _ _ _ _ le8 hF
  replace h5 := h5.mono rI_mono le8
  replace hG6 := rFunc_mono _ _ _ _ le8 hG6
  replace hq106 := hq106.mono rI_mono le8
  replace hb106 := hb106.mono rBlock_mono le8
  have h8 : Ints m8 (some ad8) 3 _ := Ints_lit [_, _, _] l8 (i64s_cons (by first | assumption | exact ⟨by omega, by omega⟩) (i64s_cons (by first | assumption | exact ⟨by omega, by omega⟩) (i64s_cons (by first | assumption | exact ⟨by omega, by omega⟩) i64s_nil)))
  refine S_gives (Put_g hF _ h8) T.hb16 rfl rfl (fun m9 v9 le9 hv9 => ?_)
  replace h1 := h1.mono rI_mono le9
  replace hO := hO.mono rOp_mono le9
  replace hBs := hBs.mono rBlock_mono le9
  replace hF := rFunc_mono _ _ _ _ le9 hF
  replace h5 := h5.mono rI_mono le9
  replace hG6 := rFunc_mono _ _ _ _ le9 hG6
  replace hq106 := hq106.mono rI_mono le9
  replace hb106 := hb106.mono rBlock_mono le9
  replace h8 := h8.mono rI_mono le9
  obtain ⟨_, rfl⟩ := hv9.resolve_left (fun h => absurd (Eq.trans (Eq.symm aw_legal2) h.1) (by decide))
  refine W_q (r_move rfl) rfl ?_
  refine W_q (r_extract rfl rfl) rfl ?_
  refine W_q (r_extract rfl rfl) rfl ?_
  refine S_alloc (l := [_, _, _]) T.ze25 rfl rfl (fun b10 => ?_)
  refine S_storeb 0 (l' := [_, _, _]) rfl rfl rfl T.sz25 rfl rfl rfl rfl ?_
  refine W_q (r_assign rfl) rfl ?_
  refine W_nil ?_
  refine NX_as (L' := [(0, _), (1, _), (2, _), (3, _), (5, _)]) [0, 1, 2, 3, 5] rfl ?_
  refine CW_seq ?_
  refine CW_region ?_
  refine W_q (r_move rfl) rfl ?_
  refine W_q (r_bin rfl rfl (bin_eql _ _ _ _)) rfl ?_
  refine W_q (r_move rfl) rfl ?_
  refine WL_take rfl rfl ?_
  refine W_q (r_fieldb (o' := 2) rfl T.fo25_2 rfl) rfl ?_
  refine WL_take rfl rfl ?_
  refine W_q (r_loadb 1 rfl T.ag23 rfl rfl) rfl ?_
  refine WL_take rfl rfl ?_
  refine W_q (r_len Tryz.underlying23 rfl) rfl ?_
  refine WL_take rfl rfl ?_
  refine W_q (r_bin rfl rfl (bin_eql _ _ _ _)) rfl ?_
  refine W_q (r_pick_t rfl rfl) rfl ?_
  refine W_q (r_move rfl) rfl ?_
  refine WL_take rfl rfl ?_
  refine W_q (r_fieldb (o' := 2) rfl T.fo25_2 rfl) rfl ?_
  refine WL_take rfl rfl ?_
  refine W_q (r_loadb 1 rfl T.ag23 rfl rfl) rfl ?_
  refine WL_take rfl rfl ?_
  have hzb0 : ([⟨[], [awO2, awO1, awO3], ⟨0, 3, []⟩⟩])[0]? = some (⟨[], [awO2, awO1, awO3], ⟨0, 3, []⟩⟩ : FBlk) := rfl
  obtain ⟨ad11, hA11⟩ := hb106.ad (j := 0) (by decide)
  refine W_q (r_index hA11 Tryz.underlying23 T.sz44 rfl rfl ⟨by decide, by decide⟩) rfl ?_
  refine WL_take rfl rfl ?_
  refine W_q (r_field rfl T.fo44_1) rfl ?_
  refine WL_take rfl rfl ?_
  obtain ⟨es12, f12, _, l12⟩ := Sl.get hb106 hA11 hzb0
  obtain ⟨A12, c12, B12, d12, C12, e12, rfl, hp12, ho12, ht12, i12a, i12b⟩ := f12
  refine W_q (r_load_imm rfl T.ag40 (l12 1 _ rfl)) rfl ?_
  refine WL_take rfl rfl ?_
  refine W_q (r_len Tryz.underlying40 rfl) rfl ?_
  refine WL_take rfl rfl ?_
  refine W_q (r_bin rfl rfl (bin_eql _ _ _ _)) rfl ?_
  refine W_q (r_pick_t rfl rfl) rfl ?_
  refine W_q (r_move rfl) rfl ?_
  refine WL_take rfl rfl ?_
  refine W_q (r_fieldb (o' := 2) rfl T.fo25_2 rfl) rfl ?_
  refine WL_take rfl rfl ?_
  refine W_q (r_loadb 1 rfl T.ag23 rfl rfl) rfl ?_
  refine WL_take rfl rfl ?_
  have hzb1 : ([⟨[], [awO2, awO1, awO3], ⟨0, 3, []⟩⟩])[0]? = some (⟨[], [awO2, awO1, awO3], ⟨0, 3, []⟩⟩ : FBlk) := rfl
  obtain ⟨ad13, hA13⟩ := hb106.ad (j := 0) (by decide)
  refine W_q (r_index hA13 Tryz.underlying23 T.sz44 rfl rfl ⟨by decide, by decide⟩) rfl ?_
  refine WL_take rfl rfl ?_
  refine W_q (r_field rfl T.fo44_1) rfl ?_
  refine WL_take rfl rfl ?_
  obtain ⟨es14, f14, _, l14⟩ := Sl.get hb106 hA13 hzb1
  obtain ⟨A14, c14, B14, d14, C14, e14, rfl, hp14, ho14, ht14, i14a, i14b⟩ := f14
  refine W_q (r_load_imm rfl T.ag40 (l14 1 _ rfl)) rfl ?_
  refine WL_take rfl rfl ?_
  have hzo0 : ([awO2, awO1, awO3])[0]? = some awO2 := rfl
  obtain ⟨ad15, hA15⟩ := ho14.ad (j := 0) (by decide)
  refine W_q (r_index hA15 Tryz.underlying40 T.sz51 rfl rfl ⟨by decide, by decide⟩) rfl ?_
  refine WL_take rfl rfl ?_
  refine W_q (r_field rfl T.fo51_3) rfl ?_
  refine WL_take rfl rfl ?_
  obtain ⟨es16, f16, _, l16⟩ := Sl.get ho14 hA15 hzo0
  obtain ⟨A16, c16, rfl, h16, i16a, i16b, i16c, i16d, i16e⟩ := f16
  refine W_q (r_load_imm rfl T.ag3 (l16 3 _ rfl)) rfl ?_
  refine WL_take rfl rfl ?_
  refine W_q (r_bin rfl rfl (bin_eql _ _ _ _)) rfl ?_
  refine W_q (r_pick_t rfl rfl) rfl ?_
  refine W_q (r_move rfl) rfl ?_
  refine WL_take rfl rfl ?_
  refine W_q (r_move rfl) rfl ?_
  refine WL_take rfl rfl ?_
  refine W_q (r_bin rfl rfl (bin_eql _ _ _ _)) rfl ?_
  refine W_q (r_pick_t rfl rfl) rfl ?_
  refine W_q (r_move rfl) rfl ?_
  refine WL_take rfl rfl ?_
  refine W_q (r_loadbk 2 (vs := [_, _, _]) rfl T.ag25 T.sz25 rfl rfl rfl) rfl ?_
  refine WL_take rfl rfl ?_
  refine S_gives (Hangs_g hF _ _) T.hb22 rfl rfl (fun m17 v17 le17 hv17 => ?_)
  replace h1 := h1.mono rI_mono le17
  replace hO := hO.mono rOp_mono le17
  replace hBs := hBs.mono rBlock_mono le17
  replace hF := rFunc_mono _ _ _ _ le17 hF
  replace h5 := h5.mono rI_mono le17
  replace hG6 := rFunc_mono _ _ _ _ le17 hG6
  replace hq106 := hq106.mono rI_mono le17
  replace hb106 := hb106.mono rBlock_mono le17
  replace h8 := h8.mono rI_mono le17
  replace hp12 := hp12.mono rPhi_mono le17
  replace ho12 := ho12.mono rOp_mono le17
  replace ht12 := ht12.mono rI_mono le17
  replace hp14 := hp14.mono rPhi_mono le17
  replace ho14 := ho14.mono rOp_mono le17
  replace ht14 := ht14.mono rI_mono le17
  replace h16 := h16.mono rI_mono le17
  obtain ⟨Ah17, ch17, rfl, hh17⟩ := hv17
  refine WL_take rfl rfl ?_
  refine S_lit (vs := [_, _]) (cs := [_, _]) Tryz.underlying22 T.sz3 T.ze3 rfl rfl rfl rfl rfl rfl (fun m18 ad18 le18 l18 => ?_)
  replace h1 := h1.mono rI_mono le18
  replace hO := hO.mono rOp_mono le18
  replace hBs := hBs.mono rBlock_mono le18
  replace hF := rFunc_mono _ _ _ _ le18 hF
  replace h5 := h5.mono rI_mono le18
  replace hG6 := rFunc_mono _ _ _ _ le18 hG6
  replace hq106 := hq106.mono rI_mono le18
  replace hb106 := hb106.mono rBlock_mono le18
  replace h8 := h8.mono rI_mono le18
  replace hp12 := hp12.mono rPhi_mono le18
  replace ho12 := ho12.mono rOp_mono le18
  replace ht12 := ht12.mono rI_mono le18
  replace hp14 := hp14.mono rPhi_mono le18
  replace ho14 := ho14.mono rOp_mono le18
  replace ht14 := ht14.mono rI_mono le18
  replace h16 := h16.mono rI_mono le18
  replace hh17 := hh17.mono rI_mono le18
  have h18 : Ints m18 (some ad18) 2 _ := Ints_lit [_, _] l18 (i64s_cons (by first | assumption | exact ⟨by omega, by omega⟩) (i64s_cons (by first | assumption | exact ⟨by omega, by omega⟩) i64s_nil))
  refine WL_take rfl rfl ?_
  refine W_quiet (known_q (Ints_q hh17 h18) (by rw [aw_hangs2])) T.hb21 rfl rfl ?_
  refine W_q (r_pick_t rfl rfl) rfl ?_
  refine W_q (r_move rfl) rfl ?_
  refine WL_take rfl rfl ?_
  refine W_q (r_loadbk 2 (vs := [_, _, _]) rfl T.ag25 T.sz25 rfl rfl rfl) rfl ?_
  refine WL_take rfl rfl ?_
  refine S_gives (Flat_g hF _) T.hb24 rfl rfl (fun m19 v19 le19 hv19 => ?_)
  replace h1 := h1.mono rI_mono le19
  replace hO := hO.mono rOp_mono le19
  replace hBs := hBs.mono rBlock_mono le19
  replace hF := rFunc_mono _ _ _ _ le19 hF
  replace h5 := h5.mono rI_mono le19
  replace hG6 := rFunc_mono _ _ _ _ le19 hG6
  replace hq106 := hq106.mono rI_mono le19
  replace hb106 := hb106.mono rBlock_mono le19
  replace h8 := h8.mono rI_mono le19
  replace hp12 := hp12.mono rPhi_mono le19
  replace ho12 := ho12.mono rOp_mono le19
  replace ht12 := ht12.mono rI_mono le19
  replace hp14 := hp14.mono rPhi_mono le19
  replace ho14 := ho14.mono rOp_mono le19
  replace ht14 := ht14.mono rI_mono le19
  replace h16 := h16.mono rI_mono le19
  replace hh17 := hh17.mono rI_mono le19
  replace h18 := h18.mono rI_mono le19
  obtain ⟨Ah19, ch19, rfl, hh19⟩ := hv19
  refine WL_take rfl rfl ?_
  refine S_lit (vs := [_, _, _]) (cs := [_, _, _]) Tryz.underlying22 T.sz3 T.ze3 rfl rfl rfl rfl rfl rfl (fun m20 ad20 le20 l20 => ?_)
  replace h1 := h1.mono rI_mono le20
  replace hO := hO.mono rOp_mono le20
  replace hBs := hBs.mono rBlock_mono le20
  replace hF := rFunc_mono _ _ _ _ le20 hF
  replace h5 := h5.mono rI_mono le20
  replace hG6 := rFunc_mono _ _ _ _ le20 hG6
  replace hq106 := hq106.mono rI_mono le20
  replace hb106 := hb106.mono rBlock_mono le20
  replace h8 := h8.mono rI_mono le20
  replace hp12 := hp12.mono rPhi_mono le20
  replace ho12 := ho12.mono rOp_mono le20
  replace ht12 := ht12.mono rI_mono le20
  replace hp14 := hp14.mono rPhi_mono le20
  replace ho14 := ho14.mono rOp_mono le20
  replace ht14 := ht14.mono rI_mono le20
  replace h16 := h16.mono rI_mono le20
  replace hh17 := hh17.mono rI_mono le20
  replace h18 := h18.mono rI_mono le20
  replace hh19 := hh19.mono rI_mono le20
  have h20 : Ints m20 (some ad20) 3 _ := Ints_lit [_, _, _] l20 (i64s_cons (by first | assumption | exact ⟨by omega, by omega⟩) (i64s_cons (by first | assumption | exact ⟨by omega, by omega⟩) (i64s_cons (by first | assumption | exact ⟨by omega, by omega⟩) i64s_nil)))
  refine WL_take rfl rfl ?_
  refine W_quiet (known_q (Ints_q hh19 h20) (by rw [aw_flat])) T.hb21 rfl rfl ?_
  refine W_q (r_pick_t rfl rfl) rfl ?_
  refine W_q (r_move rfl) rfl ?_
  refine WL_take rfl rfl ?_
  refine W_q (r_loadbk 2 (vs := [_, _, _]) rfl T.ag25 T.sz25 rfl rfl rfl) rfl ?_
  refine WL_take rfl rfl ?_
  refine S_gives (Depth_g hF _) T.hb26 rfl rfl (fun m21 v21 le21 hv21 => ?_)
  replace h1 := h1.mono rI_mono le21
  replace hO := hO.mono rOp_mono le21
  replace hBs := hBs.mono rBlock_mono le21
  replace hF := rFunc_mono _ _ _ _ le21 hF
  replace h5 := h5.mono rI_mono le21
  replace hG6 := rFunc_mono _ _ _ _ le21 hG6
  replace hq106 := hq106.mono rI_mono le21
  replace hb106 := hb106.mono rBlock_mono le21
  replace h8 := h8.mono rI_mono le21
  replace hp12 := hp12.mono rPhi_mono le21
  replace ho12 := ho12.mono rOp_mono le21
  replace ht12 := ht12.mono rI_mono le21
  replace hp14 := hp14.mono rPhi_mono le21
  replace ho14 := ho14.mono rOp_mono le21
  replace ht14 := ht14.mono rI_mono le21
  replace h16 := h16.mono rI_mono le21
  replace hh17 := hh17.mono rI_mono le21
  replace h18 := h18.mono rI_mono le21
  replace hh19 := hh19.mono rI_mono le21
  replace h20 := h20.mono rI_mono le21
  obtain ⟨Ah21, ch21, rfl, hh21⟩ := hv21
  refine WL_take rfl rfl ?_
  refine S_lit (vs := [_, _, _]) (cs := [_, _, _]) Tryz.underlying22 T.sz3 T.ze3 rfl rfl rfl rfl rfl rfl (fun m22 ad22 le22 l22 => ?_)
  replace h1 := h1.mono rI_mono le22
  replace hO := hO.mono rOp_mono le22
  replace hBs := hBs.mono rBlock_mono le22
  replace hF := rFunc_mono _ _ _ _ le22 hF
  replace h5 := h5.mono rI_mono le22
  replace hG6 := rFunc_mono _ _ _ _ le22 hG6
  replace hq106 := hq106.mono rI_mono le22
  replace hb106 := hb106.mono rBlock_mono le22
  replace h8 := h8.mono rI_mono le22
  replace hp12 := hp12.mono rPhi_mono le22
  replace ho12 := ho12.mono rOp_mono le22
  replace ht12 := ht12.mono rI_mono le22
  replace hp14 := hp14.mono rPhi_mono le22
  replace ho14 := ho14.mono rOp_mono le22
  replace ht14 := ht14.mono rI_mono le22
  replace h16 := h16.mono rI_mono le22
  replace hh17 := hh17.mono rI_mono le22
  replace h18 := h18.mono rI_mono le22
  replace hh19 := hh19.mono rI_mono le22
  replace h20 := h20.mono rI_mono le22
  replace hh21 := hh21.mono rI_mono le22
  have h22 : Ints m22 (some ad22) 3 _ := Ints_lit [_, _, _] l22 (i64s_cons (by first | assumption | exact ⟨by omega, by omega⟩) (i64s_cons (by first | assumption | exact ⟨by omega, by omega⟩) (i64s_cons (by first | assumption | exact ⟨by omega, by omega⟩) i64s_nil)))
  refine WL_take rfl rfl ?_
  refine W_quiet (known_q (Ints_q hh21 h22) (by rw [aw_depth])) T.hb21 rfl rfl ?_
  refine W_q (r_pick_t rfl rfl) rfl ?_
  refine W_q (r_assign rfl) rfl ?_
  refine W_nil ?_
  refine NX_as (L' := [(0, _)]) [0] rfl ?_
  refine C_ret (RX_q1 rfl rfl ?_)
  rfl

end Go.Proofs.YtipmgkhjoekaaaaGreat

set_option linter.unusedVariables false
namespace Go.Proofs.YtipmgkhjoekaaaaGreat.Fw
open Go
/-! Bytes. -/
def rY : Rep Int := fun _ es z => es = [.int .u8 z] ∧ 0 ≤ z ∧ z < 256
theorem rY_mono : Mono rY := fun _ _ _ _ _ h => h
theorem Sl.getY {m : Imm} {A : Option Addr} {ad : Addr} {c j : Nat} {xs : List Int} {z : Int} (h : Sl rY 1 m A c xs) (hA : A = some ad) (hj : xs[j]? = some z) : m.cell? (ad.add (j * 1)) = some (.int .u8 z) ∧ 0 ≤ z ∧ z < 256 := by
  obtain ⟨es, ⟨rfl, h2⟩, h3, h4⟩ := h.get hA hj
  exact ⟨by simpa [add_add] using h4 0 _ rfl, h2⟩
end Go.Proofs.YtipmgkhjoekaaaaGreat.Fw
namespace Go.Proofs.YtipmgkhjoekaaaaGreat
open Go Go.Proofs.YtipmgkhjoekaaaaGreat.Fw
/-! An order that is made out of any numbers. -/
structure PermSt (n k : Nat) (l : List Int) (us : List Bool) : Prop where
  len : l.length = k
  nd : l.Nodup
  rng : ∀ z ∈ l, 0 ≤ z ∧ z < (n : Int)
  ul : us.length = n
  us_iff : ∀ j : Nat, us[j]? = some true ↔ (j : Int) ∈ l
theorem permSt_init (n : Nat) : PermSt n 0 [] (List.replicate n false) := ⟨rfl, List.nodup_nil, by simp, by simp, fun j => by rw [List.getElem?_replicate]; split <;> simp⟩
section
variable {n k : Nat} {l : List Int} {us : List Bool}
theorem PermSt.step (h : PermSt n k l us) {z : Int} (h0 : 0 ≤ z) (hz : z < (n : Int)) (hu : us[z.toNat]? = some false) : PermSt n (k + 1) (l ++ [z]) (us.set z.toNat true) := by
  have hnot : z ∉ l := fun hc => by
    have := (h.us_iff z.toNat).2 (by rwa [Int.toNat_of_nonneg h0])
    rw [hu] at this; cases this
  refine ⟨by rw [List.length_append, h.len]; rfl, ?_, fun y hy => ?_, by simp [h.ul], fun j => ?_⟩
  · rw [List.nodup_append]
    exact ⟨h.nd, by simp, fun a ha b hb => by simp at hb; subst hb; rintro rfl; exact hnot ha⟩
  · rcases List.mem_append.1 hy with hy | hy
    · exact h.rng y hy
    · simp at hy; subst hy; exact ⟨h0, hz⟩
  · rw [List.mem_append, List.mem_singleton]
    by_cases e : z.toNat = j
    · subst e
      rw [List.getElem?_set_self (by rw [h.ul]; omega), Int.toNat_of_nonneg h0]; simp
    · rw [List.getElem?_set_ne e, h.us_iff j]
      constructor
      · exact .inl
      · rintro (hc | hc)
        · exact hc
        · exact absurd (by omega) e
/-- A free place is found in time. -/
theorem PermSt.free (h : PermSt n k l us) (hk : k < n) {s : Nat} (hs : s < n) {i : Nat} (hi : i ≤ n) (ht : ∀ j, j < i → us[(s + j) % n]? = some true) : i < n := by
  by_cases e : i < n
  · exact e
  · exfalso
    obtain rfl : i = n := by omega
    have hall : ∀ z ∈ iota i, z ∈ l := by
      intro z hz
      simp only [iota, List.mem_map, List.mem_range] at hz
      obtain ⟨a, ha, rfl⟩ := hz
      have := ht ((a + i - s) % i) (Nat.mod_lt _ (by omega))
      have e1 : (s + (a + i - s) % i) % i = a := by
        rw [Nat.add_mod, Nat.mod_mod, ← Nat.add_mod, show s + (a + i - s) = a + i by omega, Nat.add_mod_right, Nat.mod_eq_of_lt ha]
      rw [e1] at this
      exact (h.us_iff a).1 this
    have hnd : (iota i).Nodup := by
      rw [iota, List.nodup_iff_pairwise_ne, List.pairwise_map]
      refine List.Pairwise.imp ?_ List.pairwise_lt_range
      intro a b hab; omega
    have := List.Nodup.length_le_of_subset hnd hall
    rw [iota_len, h.len] at this
    omega
theorem next_mod {n s i : Nat} (hn : 0 < n) : ((((s + i) % n : Nat) : Int) + 1).tmod (n : Int) = (((s + (i + 1)) % n : Nat) : Int) := by
  have : ((((s + i) % n : Nat) : Int) + 1) = (((s + i) % n + 1 : Nat) : Int) := by omega
  rw [this, ← Int.ofNat_tmod]
  congr 1
  rw [Nat.mod_add_mod]; rfl
theorem first_mod {n : Nat} {z : Int} (hz : 0 ≤ z) (hn : 0 < n) : z.tmod (n : Int) = ((z.toNat % n : Nat) : Int) := by
  conv => lhs; rw [← Int.toNat_of_nonneg hz]
  rw [← Int.ofNat_tmod]
end
end Go.Proofs.YtipmgkhjoekaaaaGreat

set_option linter.unusedVariables false
set_option linter.unusedSimpArgs false
namespace Go.Proofs.YtipmgkhjoekaaaaGreat
open Go Go.RowKit Go.Proofs Go.Proofs.YtipmgkhjoekaaaaGreat.Fw
attribute [local irreducible] Qt WL CW NX RX EX GX DL
namespace T
theorem ag5 : agg? Tryz.prog 5 = some false := by kernel_rfl
theorem by4 : byt? Tryz.prog 4 = some 1 := by kernel_rfl
theorem hb14 : hasBody Tryz.prog 14 = true := by kernel_rfl
theorem sz42 : sz? Tryz.prog 42 = some 3 := by kernel_rfl
theorem sz5 : sz? Tryz.prog 5 = some 1 := by kernel_rfl
end T
set_option maxHeartbeats 80000000 in
/-- locksteplaw19.SchedFree -/
theorem SchedFree_q {m : Imm} {A : Option Addr} {c : Nat} {od : List Int} (h : Sl rY 1 m A c od) : Quiet Tryz.prog 7 [.slice A od.length c] m (.bool true) := by
  have hlen := h.len
  refine quiet_of Tryz.func7 rfl Tryz.ntmps7 rfl (fun w => ?_)
  refine CW_seq ?_
  refine CW_region ?_
  refine W_q (r_assign rfl) rfl ?_
  refine W_nil ?_
  refine NX_as (L' := [(0, _), (2, _)]) [0, 2] rfl ?_
  refine CW_seq ?_
  refine CW_seq ?_
  refine CW_region ?_
  refine W_quiet (awake19_q) T.hb14 rfl rfl ?_
  refine W_q (r_not rfl) rfl ?_
  refine W_nil ?_
  refine NX_as (L' := [(0, _), (2, _), (16, _)]) [0, 2, 16] rfl ?_
  refine CW_cond_f rfl ?_
  refine C_skip ?_
  refine NX_as (L' := [(0, _), (2, _)]) [0, 2] rfl ?_
  refine CW_seq ?_
  refine CW_region ?_
  refine W_q (r_move rfl) rfl ?_
  refine W_q (r_len Tryz.underlying53 rfl) rfl ?_
  refine W_q (r_assign rfl) rfl ?_
  refine W_nil ?_
  refine NX_as (L' := [(0, _), (2, _), (3, _)]) [0, 2, 3] rfl ?_
  refine CW_seq ?_
  refine CW_seq ?_
  refine CW_region ?_
  refine W_q (r_move rfl) rfl ?_
  refine W_q (r_bin rfl rfl (bin_gtr _ _ _ _)) rfl ?_
  refine W_nil ?_
  refine NX_as (L' := [(0, _), (2, _), (3, _), (20, _)]) [0, 2, 3, 20] rfl ?_
  refine CW_condk rfl (fun h1 => ?_) (fun h1 => ?_)
  · (try simp only [decide_eq_true_eq, decide_eq_false_iff_not, beq_iff_eq, beq_eq_false_iff_ne, bne_iff_ne, bne_eq_false_iff_eq, Bool.not_eq_true', Bool.not_eq_false', Bool.not_eq_true, Bool.not_eq_false, ne_eq, Decidable.not_not] at h1)
    refine CW_seq ?_
    refine CW_region ?_
    refine W_q (r_assign rfl) rfl ?_
    refine W_nil ?_
    refine NX_as (L' := [(0, _), (2, _), (3, _)]) [0, 2, 3] rfl ?_
    refine C_ret (RX_then (RX_q1 rfl rfl ?_))
    rfl
  · (try simp only [decide_eq_true_eq, decide_eq_false_iff_not, beq_iff_eq, beq_eq_false_iff_ne, bne_iff_ne, bne_eq_false_iff_eq, Bool.not_eq_true', Bool.not_eq_false', Bool.not_eq_true, Bool.not_eq_false, ne_eq, Decidable.not_not] at h1)
    refine C_skip ?_
    refine NX_as (L' := [(0, _), (2, _), (3, _)]) [0, 2, 3] rfl ?_
    refine CW_seq ?_
    refine CW_region ?_
    refine S_lit (vs := [_]) (cs := [_]) Tryz.underlying22 T.sz3 T.ze3 rfl rfl rfl rfl rfl rfl (fun m2 ad2 le2 l2 => ?_)
    replace h := h.mono rY_mono le2
    have h2 : Ints m2 (some ad2) 1 _ := Ints_lit [_] l2 (i64s_cons (by first | assumption | exact ⟨by omega, by omega⟩) i64s_nil)
    refine W_q (r_builds (cs := [_, _, _]) T.bl25 rfl rfl) rfl ?_
    refine S_alloc (l := [_, _, _]) T.ze25 rfl rfl (fun b3 => ?_)
    refine S_storeb 0 (l' := [_, _, _]) rfl rfl rfl T.sz25 rfl rfl rfl rfl ?_
    refine W_nil ?_
    refine NX_as (L' := [(0, _), (2, _), (3, _), (4, _)]) [0, 2, 3, 4] rfl ?_
    refine CW_seq ?_
    refine CW_region ?_
    refine S_alloc (l := [_, _, _, _, _]) T.ze44 rfl rfl (fun b4 => ?_)
    refine W_nil ?_
    refine NX_as (L' := [(0, _), (2, _), (3, _), (4, _), (5, _)]) [0, 2, 3, 4, 5] rfl ?_
    refine CW_seq ?_
    refine CW_seq ?_
    refine CW_region ?_
    refine W_q (r_assign rfl) rfl ?_
    refine W_nil ?_
    refine NX_as (L' := [(0, _), (2, _), (3, _), (4, _), (5, _), (6, _)]) [0, 2, 3, 4, 5, 6] rfl ?_
    refine CW_block ?_
    refine CW_nilRow 51 6 ?_
    refine CW_front 0 rfl rfl ?_
    refine CW_front 1 rfl rfl ?_
    refine C_loop (Option Nat × Nat × List Value) (od.length) (fun k5 x5 => SRows rOp 6 m2 x5.2.2 (freeL k5) ∧ (0 < k5 → ∃ b, x5.1 = some b)) (fun k5 x5 => [(6, .int .i64 (k5 : Int))]) (fun k5 x5 => [bx b4 44 [.slice none 0 0, .slice (rowA x5.1) k5 x5.2.1, .int .i64 0, .int .i64 0, .slice none 0 0], row x5.1 k5 x5.2.1 51 6 x5.2.2]) [6] [0, 2, 3, 4, 5] (F := [(0, _), (2, _), (3, _), (4, _), (5, _)]) ((none, 0, [])) ⟨SRows.nil, by omega⟩ rfl rfl rfl (fun k5 x5 hk5 hJ5 => ?_)
    obtain ⟨hro, hgo⟩ := hJ5
    refine CW_as (L' := [(0, _), (2, _), (3, _), (4, _), (5, _), (6, _)]) [0, 2, 3, 4, 5, 6] rfl ?_
    refine CW_seq ?_
    refine CW_seq ?_
    refine CW_region ?_
    refine W_q (r_move rfl) rfl ?_
    refine W_q (r_move rfl) rfl ?_
    refine W_q (r_bin rfl rfl (bin_lss _ _ _ _)) rfl ?_
    refine W_nil ?_
    refine NX_as (L' := [(0, _), (2, _), (3, _), (4, _), (5, _), (6, _), (25, _)]) [0, 2, 3, 4, 5, 6, 25] rfl ?_
    refine CW_condk rfl (fun h6 => ?_) (fun h6 => ?_)
    · (try simp only [decide_eq_true_eq, decide_eq_false_iff_not, beq_iff_eq, beq_eq_false_iff_ne, bne_iff_ne, bne_eq_false_iff_eq, Bool.not_eq_true', Bool.not_eq_false', Bool.not_eq_true, Bool.not_eq_false, ne_eq, Decidable.not_not] at h6)
      refine C_skip ?_
      refine NX_as (L' := [(0, _), (2, _), (3, _), (4, _), (5, _), (6, _)]) [0, 2, 3, 4, 5, 6] rfl ?_
      refine CW_seq ?_
      refine CW_block ?_
      refine CW_region ?_
      refine W_q (r_fieldb (o' := 1) rfl T.fo44_1 rfl) rfl ?_
      refine W_q (r_loadb 0 rfl T.ag40 rfl rfl) rfl ?_
      refine W_q (r_move rfl) rfl ?_
      refine W_q (r_add rfl rfl (by unfold I64 at *; omega)) rfl ?_
      refine W_q (r_move rfl) rfl ?_
      refine W_q (r_convi Tryz.underlying3 Tryz.underlying49 rfl (u64_of _ ⟨by omega, by omega⟩)) rfl ?_
      refine W_q (r_builds (cs := [_, _, _, _, _, _]) T.bl51 rfl rfl) rfl ?_
      refine S_litr (vs := [_]) (cs := [_, _, _, _, _, _]) Tryz.underlying40 T.sz51 T.ze51 rfl rfl rfl rfl rfl rfl rfl (fun b7 => ?_)
      refine S_appendG [_, _, _, _, _, _] 2 rfl rfl rfl Tryz.underlying40 T.sz51 T.ze51 T.by51 rfl rfl rfl (.row 0 rfl) rfl (by omega) (by unfold maxLen; omega) rfl (fun g8 c8 hg8 => ?_)
      refine W_q (r_fieldb (o' := 1) rfl T.fo44_1 rfl) rfl ?_
      refine S_storeb 1 (l' := [_, _, _, _, _]) rfl rfl rfl T.sz40 rfl rfl rfl rfl ?_
      refine W_nil ?_
      refine NX_block (NX_as (L' := [(0, _), (2, _), (3, _), (4, _), (5, _), (6, _)]) [0, 2, 3, 4, 5, 6] rfl ?_)
      refine CW_region ?_
      refine W_q (r_move rfl) rfl ?_
      refine W_q (r_add rfl rfl (by unfold I64 at *; omega)) rfl ?_
      refine W_q (r_assign rfl) rfl ?_
      refine W_nil ?_
      refine NX_rnd [6, 0, 2, 3, 4, 5] (by omega) ((_, _, _)) ?_ rfl (sub_drop 1 rfl) rfl (Imm.le_refl _)
      refine ⟨?_, hg8⟩
      rw [freeL_succ]
      exact hro.add rOp_none
    · (try simp only [decide_eq_true_eq, decide_eq_false_iff_not, beq_iff_eq, beq_eq_false_iff_ne, bne_iff_ne, bne_eq_false_iff_eq, Bool.not_eq_true', Bool.not_eq_false', Bool.not_eq_true, Bool.not_eq_false, ne_eq, Decidable.not_not] at h6)
      refine C_exit (EX_then (EX_then (EX_hit (?_))))
      refine NX_as (L' := [(0, _), (2, _), (3, _), (4, _), (5, _)]) [0, 2, 3, 4, 5] rfl ?_
      refine CW_seq ?_
      refine CW_region ?_
      have hkn : k5 = od.length := by omega
      subst hkn
      refine W_q (r_builds (cs := [_, _, _]) T.bl42 rfl rfl) rfl ?_
      refine W_q (r_fieldb (o' := 2) rfl T.fo44_2 rfl) rfl ?_
      refine S_storeb 0 (l' := [_, _, _, _, _]) rfl rfl rfl T.sz42 rfl rfl rfl rfl ?_
      refine W_nil ?_
      refine NX_as (L' := [(0, _), (2, _), (3, _), (4, _), (5, _)]) [0, 2, 3, 4, 5] rfl ?_
      refine CW_seq ?_
      refine CW_region ?_
      refine W_q (r_loadbk 0 (vs := [_, _, _, _, _]) rfl T.ag44 T.sz44 rfl rfl rfl) rfl ?_
      refine WL_know (k_rowG 1 rfl) (fun hr => ?_)
      refine WL_freeze 1 rfl (fun _ h => h) (fun mf lef hf => ?_)
      replace h := h.mono rY_mono lef
      replace h2 := h2.mono rI_mono lef
      have hops := (hro.mono rOp_mono lef).sl hf (by rw [freeL_len]; exact hr.2.1) hr.2.2.1 (by rw [freeL_len]; omega) (by rw [freeL_len]; exact hgo)
      refine S_lit (vs := [_]) (cs := [_, _, _, _, _]) Tryz.underlying23 T.sz44 T.ze44 rfl rfl rfl rfl rfl rfl (fun m9 ad9 le9 l9 => ?_)
      replace h := h.mono rY_mono le9
      replace h2 := h2.mono rI_mono le9
      replace hops := hops.mono rOp_mono le9
      have hbk : Sl rBlock 5 m9 (some ad9) 1 [freeB od.length] := SRows.lit (SRows.nil.add (rBlock_of hops (freeL_len _))) l9
      refine W_q (r_fieldb (o' := 2) rfl T.fo25_2 rfl) rfl ?_
      refine S_storeb 1 (l' := [_, _, _]) rfl rfl rfl T.sz23 rfl rfl rfl rfl ?_
      refine W_nil ?_
      refine NX_as (L' := [(0, _), (2, _), (3, _), (4, _)]) [0, 2, 3, 4] rfl ?_
      refine CW_seq ?_
      refine CW_region ?_
      refine W_q (r_assign rfl) rfl ?_
      refine W_nil ?_
      refine NX_as (L' := [(0, _), (2, _), (3, _), (4, _), (7, _)]) [0, 2, 3, 4, 7] rfl ?_
      refine CW_seq ?_
      refine CW_region ?_
      refine W_q (r_assign rfl) rfl ?_
      refine W_nil ?_
      refine NX_as (L' := [(0, _), (2, _), (3, _), (4, _), (7, _), (8, _)]) [0, 2, 3, 4, 7, 8] rfl ?_
      refine CW_seq ?_
      refine CW_region ?_
      refine W_q (r_move rfl) rfl ?_
      refine S_make1 od.length Tryz.underlying54 T.sz4 T.ze4 T.by4 rfl rfl rfl rfl rfl (by omega) (by unfold maxLen; omega) rfl (fun b10 => ?_)
      refine W_q (r_assign rfl) rfl ?_
      refine W_nil ?_
      refine NX_as (L' := [(0, _), (2, _), (3, _), (4, _), (7, _), (8, _), (9, _)]) [0, 2, 3, 4, 7, 8, 9] rfl ?_
      refine CW_seq ?_
      refine CW_seq ?_
      refine CW_region ?_
      refine W_q (r_assign rfl) rfl ?_
      refine W_nil ?_
      refine NX_as (L' := [(0, _), (2, _), (3, _), (4, _), (7, _), (8, _), (9, _), (10, _)]) [0, 2, 3, 4, 7, 8, 9, 10] rfl ?_
      refine CW_block ?_
      refine CW_nilRow 3 1 ?_
      refine CW_nilRow 3 1 ?_
      refine CW_front 2 rfl rfl ?_
      refine CW_front 2 rfl rfl ?_
      refine CW_front 2 rfl rfl ?_
      refine C_loop ((Option Nat × Nat × List Int) × (Option Nat × Nat × List Int) × List Value) (od.length) (fun k11 x11 => ∃ us, x11.2.2 = us.map Value.bool ∧ x11.1.2.2 = iota k11 ∧ PermSt od.length k11 x11.2.1.2.2 us ∧ (0 < x11.1.2.2.length → ∃ b, x11.1.1 = some b) ∧ (0 < x11.2.1.2.2.length → ∃ b, x11.2.1.1 = some b)) (fun k11 x11 => [(7, .slice (rowA x11.1.1) x11.1.2.2.length x11.1.2.1), (8, .slice (rowA x11.2.1.1) x11.2.1.2.2.length x11.2.1.2.1), (10, .int .i64 (k11 : Int))]) (fun k11 x11 => [rowI 3 x11.1.1 x11.1.2.1 x11.1.2.2, rowI 3 x11.2.1.1 x11.2.1.2.1 x11.2.1.2.2, row (some b10) od.length od.length 4 1 x11.2.2]) [7, 8, 10] [0, 2, 3, 4, 9] (F := [(0, _), (2, _), (3, _), (4, _), (9, _)]) (((none, 0, []), (none, 0, []), List.replicate od.length (.bool false))) ⟨List.replicate od.length false, by simp, rfl, permSt_init _, by simp, by simp⟩ rfl rfl rfl (fun k11 x11 hk11 hJ11 => ?_)
      obtain ⟨us, hus, hl7, hp, hg7, hg8⟩ := hJ11
      have hpl := hp.len
      have hl7l : x11.1.2.2.length = k11 := by rw [hl7, iota_len]
      refine CW_as (L' := [(0, _), (2, _), (3, _), (4, _), (7, _), (8, _), (9, _), (10, _)]) [0, 2, 3, 4, 7, 8, 9, 10] rfl ?_
      refine CW_seq ?_
      refine CW_seq ?_
      refine CW_region ?_
      refine W_q (r_move rfl) rfl ?_
      refine W_q (r_move rfl) rfl ?_
      refine W_q (r_bin rfl rfl (bin_lss _ _ _ _)) rfl ?_
      refine W_nil ?_
      refine NX_as (L' := [(0, _), (2, _), (3, _), (4, _), (7, _), (8, _), (9, _), (10, _), (47, _)]) [0, 2, 3, 4, 7, 8, 9, 10, 47] rfl ?_
      refine CW_condk rfl (fun h14 => ?_) (fun h14 => ?_)
      · (try simp only [decide_eq_true_eq, decide_eq_false_iff_not, beq_iff_eq, beq_eq_false_iff_ne, bne_iff_ne, bne_eq_false_iff_eq, Bool.not_eq_true', Bool.not_eq_false', Bool.not_eq_true, Bool.not_eq_false, ne_eq, Decidable.not_not] at h14)
        refine C_skip ?_
        refine NX_as (L' := [(0, _), (2, _), (3, _), (4, _), (7, _), (8, _), (9, _), (10, _)]) [0, 2, 3, 4, 7, 8, 9, 10] rfl ?_
        refine CW_seq ?_
        refine CW_block ?_
        refine CW_seq ?_
        refine CW_region ?_
        refine W_q (r_move rfl) rfl ?_
        refine W_q (r_move rfl) rfl ?_
        refine S_litr (vs := [_]) (cs := [_]) Tryz.underlying22 T.sz3 T.ze3 rfl rfl rfl rfl rfl rfl rfl (fun b15 => ?_)
        refine S_appendI (l := x11.1.2.2) (g1 := x11.1.1) [_] 1 rfl rfl rfl Tryz.underlying22 T.sz3 T.ze3 T.by3 rfl rfl (.row 0 rfl) (by simp only [List.length_cons, List.length_nil]; omega) rfl (fun g16 c16 hg16 => ?_)
        refine W_q (r_assign rfl) rfl ?_
        refine W_nil ?_
        refine NX_as (L' := [(0, _), (2, _), (3, _), (4, _), (7, _), (8, _), (9, _), (10, _)]) [0, 2, 3, 4, 7, 8, 9, 10] rfl ?_
        refine CW_seq ?_
        refine CW_region ?_
        refine W_q (r_move rfl) rfl ?_
        refine W_q (r_move rfl) rfl ?_
        obtain ⟨ad17, hA17⟩ := h.ad (j := k11) (by omega)
        obtain ⟨z17, hz17⟩ := h.getz (j := k11) (by omega)
        refine W_q (r_index hA17 Tryz.underlying53 T.sz5 rfl rfl ⟨by omega, by omega⟩) rfl ?_
        obtain ⟨l18, r18⟩ := Sl.getY h hA17 hz17
        refine W_q (r_load_imm rfl T.ag5 l18) rfl ?_
        refine W_q (r_convi Tryz.underlying5 Tryz.underlying3 rfl (i64_of _ ⟨by omega, by omega⟩)) rfl ?_
        refine W_q (r_move rfl) rfl ?_
        refine W_q (r_rem rfl rfl (by omega) rfl) rfl ?_
        refine W_q (r_assign rfl) rfl ?_
        refine W_nil ?_
        refine NX_as (L' := [(0, _), (2, _), (3, _), (4, _), (7, _), (8, _), (9, _), (10, _), (11, _)]) [0, 2, 3, 4, 7, 8, 9, 10, 11] rfl ?_
        refine CW_seq ?_
        refine CW_block ?_
        refine C_loop (Int) (od.length) (fun k19 x19 => x19 = ((((z17.toNat % od.length) + k19) % od.length : Nat) : Int) ∧ ∀ j, j < k19 → us[((z17.toNat % od.length) + j) % od.length]? = some true) (fun k19 x19 => [(11, .int .i64 x19)]) (fun _ _ => []) [11] [0, 2, 3, 4, 7, 8, 9, 10] (F := [(0, _), (2, _), (3, _), (4, _), (7, _), (8, _), (9, _), (10, _)]) ((z17.tmod (od.length : Int))) ⟨by rw [first_mod (by omega) (by omega), Nat.add_zero, Nat.mod_mod], by omega⟩ rfl rfl rfl (fun k19 x19 hk19 hJ19 => ?_)
        obtain ⟨hx2, hu2⟩ := hJ19
        have hx2r : 0 ≤ x19 ∧ x19 < (od.length : Int) := by
          rw [hx2]; have := Nat.mod_lt ((z17.toNat % od.length) + k19) (show 0 < od.length by omega); omega
        obtain ⟨ub, hub⟩ : ∃ b, us[x19.toNat]? = some b := ⟨_, List.getElem?_eq_getElem (by rw [hp.ul]; omega)⟩
        refine CW_as (L' := [(0, _), (2, _), (3, _), (4, _), (7, _), (8, _), (9, _), (10, _), (11, _)]) [0, 2, 3, 4, 7, 8, 9, 10, 11] rfl ?_
        refine CW_seq ?_
        refine CW_seq ?_
        refine CW_region ?_
        refine W_q (r_move rfl) rfl ?_
        refine W_q (r_move rfl) rfl ?_
        refine W_q (r_indexr (o := x19.toNat) Tryz.underlying54 T.sz4 rfl rfl ⟨by omega, by omega⟩ (by omega)) rfl ?_
        refine W_q (r_loadr 3 rfl T.ag4 rfl (by rw [hus, List.getElem?_map, hub]; rfl)) rfl ?_
        refine W_nil ?_
        refine NX_as (L' := [(0, _), (2, _), (3, _), (4, _), (7, _), (8, _), (9, _), (10, _), (11, _), (64, _)]) [0, 2, 3, 4, 7, 8, 9, 10, 11, 64] rfl ?_
        refine CW_condk rfl (fun h21 => ?_) (fun h21 => ?_)
        · (try simp only [decide_eq_true_eq, decide_eq_false_iff_not, beq_iff_eq, beq_eq_false_iff_ne, bne_iff_ne, bne_eq_false_iff_eq, Bool.not_eq_true', Bool.not_eq_false', Bool.not_eq_true, Bool.not_eq_false, ne_eq, Decidable.not_not] at h21)
          refine C_skip ?_
          refine NX_as (L' := [(0, _), (2, _), (3, _), (4, _), (7, _), (8, _), (9, _), (10, _), (11, _)]) [0, 2, 3, 4, 7, 8, 9, 10, 11] rfl ?_
          refine CW_block ?_
          refine CW_region ?_
          refine W_q (r_move rfl) rfl ?_
          refine W_q (r_add rfl rfl (by unfold I64 at *; omega)) rfl ?_
          refine W_q (r_move rfl) rfl ?_
          refine W_q (r_rem rfl rfl (by omega) rfl) rfl ?_
          refine W_q (r_assign rfl) rfl ?_
          refine W_nil ?_
          refine NX_block (?_)
          refine NX_rnd [11, 0, 2, 3, 4, 7, 8, 9, 10] (hp.free (by omega) (Nat.mod_lt _ (by omega)) hk19 hu2) (_) ?_ rfl (List.Sublist.refl _) rfl (Imm.le_refl _)
          refine ⟨by rw [hx2]; exact next_mod (by omega), lt_succ_all hu2 ?_⟩
          rw [show ((z17.toNat % od.length) + k19) % od.length = x19.toNat by rw [hx2]; rfl, hub, h21]
        · (try simp only [decide_eq_true_eq, decide_eq_false_iff_not, beq_iff_eq, beq_eq_false_iff_ne, bne_iff_ne, bne_eq_false_iff_eq, Bool.not_eq_true', Bool.not_eq_false', Bool.not_eq_true, Bool.not_eq_false, ne_eq, Decidable.not_not] at h21)
          refine C_exit (EX_then (EX_then (EX_hit (?_))))
          refine NX_as (L' := [(0, _), (2, _), (3, _), (4, _), (7, _), (8, _), (9, _), (10, _), (11, _)]) [0, 2, 3, 4, 7, 8, 9, 10, 11] rfl ?_
          refine CW_seq ?_
          refine CW_region ?_
          have hubf := h21
          refine W_q (r_move rfl) rfl ?_
          refine W_q (r_move rfl) rfl ?_
          refine W_q (r_indexr (o := x19.toNat) Tryz.underlying54 T.sz4 rfl rfl ⟨by omega, by omega⟩ (by omega)) rfl ?_
          refine S_storer1 3 rfl rfl rfl rfl T.sz4 rfl (by rw [hus, List.length_map, hp.ul]; omega) ?_
          refine W_nil ?_
          refine NX_as (L' := [(0, _), (2, _), (3, _), (4, _), (7, _), (8, _), (9, _), (10, _), (11, _)]) [0, 2, 3, 4, 7, 8, 9, 10, 11] rfl ?_
          refine CW_region ?_
          refine W_q (r_move rfl) rfl ?_
          refine W_q (r_move rfl) rfl ?_
          refine S_litr (vs := [_]) (cs := [_]) Tryz.underlying22 T.sz3 T.ze3 rfl rfl rfl rfl rfl rfl rfl (fun b23 => ?_)
          refine S_appendI (l := x11.2.1.2.2) (g1 := x11.2.1.1) [_] 3 rfl rfl rfl Tryz.underlying22 T.sz3 T.ze3 T.by3 rfl rfl (.row 0 rfl) (by simp only [List.length_cons, List.length_nil]; omega) rfl (fun g24 c24 hg24 => ?_)
          refine W_q (r_assign rfl) rfl ?_
          refine W_nil ?_
          refine NX_block (NX_as (L' := [(0, _), (2, _), (3, _), (4, _), (7, _), (8, _), (9, _), (10, _)]) [0, 2, 3, 4, 7, 8, 9, 10] rfl ?_)
          refine CW_region ?_
          refine W_q (r_move rfl) rfl ?_
          refine W_q (r_add rfl rfl (by unfold I64 at *; omega)) rfl ?_
          refine W_q (r_assign rfl) rfl ?_
          refine W_nil ?_
          refine NX_rnd [7, 8, 10, 0, 2, 3, 4, 9] (by omega) (((_, _, _), (_, _, _), _)) ?_ rfl (sub_drop 2 rfl) rfl (Imm.le_refl _)
          refine ⟨us.set x19.toNat true, by rw [hus, List.map_set], by rw [hl7, iota_succ], hp.step hx2r.1 hx2r.2 (by rw [hub, hubf]), hg16, hg24⟩
      · (try simp only [decide_eq_true_eq, decide_eq_false_iff_not, beq_iff_eq, beq_eq_false_iff_ne, bne_iff_ne, bne_eq_false_iff_eq, Bool.not_eq_true', Bool.not_eq_false', Bool.not_eq_true, Bool.not_eq_false, ne_eq, Decidable.not_not] at h14)
        refine C_exit (EX_then (EX_then (EX_hit (?_))))
        refine NX_as (L' := [(2, _), (3, _), (4, _), (7, _), (8, _)]) [2, 3, 4, 7, 8] rfl ?_
        refine CW_seq ?_
        refine CW_region ?_
        have hkn : k11 = od.length := by omega
        subst hkn
        have hl7n : x11.1.2.2.length = od.length := by rw [hl7, iota_len]
        have hpl := hp.len
        refine WL_know (k_rowI 0 rfl) (fun hr25 => ?_)
        refine WL_freeze 0 rfl (fun _ h => h) (fun mf25 le25 hf25 => ?_)
        replace h := h.mono rY_mono le25
        replace h2 := h2.mono rI_mono le25
        replace hops := hops.mono rOp_mono le25
        replace hbk := hbk.mono rBlock_mono le25
        have hs7 : Ints mf25 _ _ _ := Ints_frz hf25 hr25.1 hr25.2.1 (by omega) hr25.2.2 (fun z hz => by rw [hl7] at hz; simp only [iota, List.mem_map, List.mem_range] at hz; obtain ⟨a, ha, rfl⟩ := hz; exact ⟨by omega, by omega⟩)
        refine WL_know (k_rowI 0 rfl) (fun hr26 => ?_)
        refine WL_freeze 0 rfl (fun _ h => h) (fun mf26 le26 hf26 => ?_)
        replace h := h.mono rY_mono le26
        replace h2 := h2.mono rI_mono le26
        replace hops := hops.mono rOp_mono le26
        replace hbk := hbk.mono rBlock_mono le26
        replace hs7 := hs7.mono rI_mono le26
        have hs8 : Ints mf26 _ _ _ := Ints_frz hf26 hr26.1 hr26.2.1 (by omega) hr26.2.2 (fun z hz => by have := hp.rng z hz; exact ⟨by omega, by omega⟩)
        have hF : rFunc _ [.slice _ 1 _, .int .i64 8, .slice _ 1 _] (freeF od.length) := ⟨_, _, _, _, rfl, h2, hbk, ⟨by show (-9223372036854775808 : Int) ≤ 8; decide, by show (8 : Int) ≤ 9223372036854775807; decide⟩⟩
        have hleg : LegalP (freeF od.length) 0 x11.2.1.2.2 = true := free_Legal (by omega) hp.len hp.nd hp.rng
        have hol : (ordOps (freeB od.length) x11.2.1.2.2).length = od.length := by rw [ordOps, List.length_map, hp.len]
        refine W_q (r_loadbk 2 (vs := [_, _, _]) rfl T.ag25 T.sz25 rfl rfl rfl) rfl ?_
        refine W_q (r_move rfl) rfl ?_
        refine S_gives (Put_g hF _ hs8) T.hb16 rfl rfl (fun m27 v27 le27 hv27 => ?_)
        replace h := h.mono rY_mono le27
        replace h2 := h2.mono rI_mono le27
        replace hops := hops.mono rOp_mono le27
        replace hbk := hbk.mono rBlock_mono le27
        replace hs7 := hs7.mono rI_mono le27
        replace hs8 := hs8.mono rI_mono le27
        replace hF := rFunc_mono _ _ _ _ le27 hF
        obtain ⟨_, esG27, rfl, hG27⟩ := hv27.resolve_right (fun h => absurd (Eq.trans (Eq.symm hleg) h.1) (by decide))
        rw [show putOps (freeF od.length) 0 x11.2.1.2.2 = ⟨[8], 8, [⟨[], ordOps (freeB od.length) x11.2.1.2.2, ⟨0, 1, []⟩⟩]⟩ from rfl] at hG27
        have hG27_0 := hG27
        obtain ⟨A127, c127, B127, d127, rfl, hq127, hb127, i127a⟩ := hG27_0
        refine W_q (r_move rfl) rfl ?_
        refine W_q (r_extract rfl rfl) rfl ?_
        refine W_q (r_extract rfl rfl) rfl ?_
        refine S_alloc (l := [_, _, _]) T.ze25 rfl rfl (fun b28 => ?_)
        refine S_storeb 0 (l' := [_, _, _]) rfl rfl rfl T.sz25 rfl rfl rfl rfl ?_
        refine W_q (r_assign rfl) rfl ?_
        refine W_nil ?_
        refine NX_as (L' := [(2, _), (3, _), (4, _), (7, _), (8, _), (12, _), (13, _)]) [2, 3, 4, 7, 8, 12, 13] rfl ?_
        refine CW_seq ?_
        refine CW_seq ?_
        refine CW_region ?_
        refine W_q (r_move rfl) rfl ?_
        refine W_q (r_bin rfl rfl (bin_neq _ _ _ _)) rfl ?_
        refine W_q (r_move rfl) rfl ?_
        refine WL_take rfl rfl ?_
        refine W_q (r_loadbk 3 (vs := [_, _, _]) rfl T.ag25 T.sz25 rfl rfl rfl) rfl ?_
        refine WL_take rfl rfl ?_
        refine S_gives (Flat_g hF _) T.hb24 rfl rfl (fun m29 v29 le29 hv29 => ?_)
        replace h := h.mono rY_mono le29
        replace h2 := h2.mono rI_mono le29
        replace hops := hops.mono rOp_mono le29
        replace hbk := hbk.mono rBlock_mono le29
        replace hs7 := hs7.mono rI_mono le29
        replace hs8 := hs8.mono rI_mono le29
        replace hF := rFunc_mono _ _ _ _ le29 hF
        replace hG27 := rFunc_mono _ _ _ _ le29 hG27
        replace hq127 := hq127.mono rI_mono le29
        replace hb127 := hb127.mono rBlock_mono le29
        obtain ⟨Ah29, ch29, rfl, hh29⟩ := hv29
        refine WL_take rfl rfl ?_
        refine W_q (r_move rfl) rfl ?_
        refine WL_take rfl rfl ?_
        refine W_quiet (known_q (Ints_q hh29 hs7) (beq_iff_eq.2 (by rw [free_flat (by omega), hl7]))) T.hb21 rfl rfl ?_
        refine WL_take rfl rfl ?_
        refine W_q (r_not rfl) rfl ?_
        refine W_q (r_pick_f rfl rfl) rfl ?_
        refine W_q (r_move rfl) rfl ?_
        refine WL_take rfl rfl ?_
        refine W_q (r_fieldb (o' := 2) rfl T.fo25_2 rfl) rfl ?_
        refine WL_take rfl rfl ?_
        refine W_q (r_loadb 0 rfl T.ag23 rfl rfl) rfl ?_
        refine WL_take rfl rfl ?_
        refine W_q (r_len Tryz.underlying23 rfl) rfl ?_
        refine WL_take rfl rfl ?_
        refine W_q (r_bin rfl rfl (bin_neq _ _ _ _)) rfl ?_
        refine W_q (r_pick_f rfl rfl) rfl ?_
        refine W_q (r_move rfl) rfl ?_
        refine WL_take rfl rfl ?_
        refine W_q (r_fieldb (o' := 2) rfl T.fo25_2 rfl) rfl ?_
        refine WL_take rfl rfl ?_
        refine W_q (r_loadb 0 rfl T.ag23 rfl rfl) rfl ?_
        refine WL_take rfl rfl ?_
        have hzb0 : ([⟨[], ordOps (freeB od.length) x11.2.1.2.2, ⟨0, 1, []⟩⟩])[0]? = some (⟨[], ordOps (freeB od.length) x11.2.1.2.2, ⟨0, 1, []⟩⟩ : FBlk) := rfl
        obtain ⟨ad30, hA30⟩ := hb127.ad (j := 0) (by show 0 < 1; omega)
        refine W_q (r_index hA30 Tryz.underlying23 T.sz44 rfl rfl ⟨by omega, by show (0 : Int) < ((1 : Nat) : Int); omega⟩) rfl ?_
        refine WL_take rfl rfl ?_
        refine W_q (r_field rfl T.fo44_1) rfl ?_
        refine WL_take rfl rfl ?_
        obtain ⟨es31, f31, _, l31⟩ := Sl.get hb127 hA30 hzb0
        obtain ⟨A31, c31, B31, d31, C31, e31, rfl, hp31, ho31, ht31, i31a, i31b⟩ := f31
        refine W_q (r_load_imm rfl T.ag40 (l31 1 _ rfl)) rfl ?_
        refine WL_take rfl rfl ?_
        refine W_q (r_len Tryz.underlying40 rfl) rfl ?_
        refine WL_take rfl rfl ?_
        refine W_q (r_move rfl) rfl ?_
        refine WL_take rfl rfl ?_
        refine W_q (r_bin rfl rfl (bin_neq _ _ _ _)) rfl ?_
        refine W_q (r_pick_f rfl rfl) rfl ?_
        refine W_q (r_move rfl) rfl ?_
        refine WL_split (t := 107) rfl (fun h32 => ?_) (fun h32 => ?_)
        · (try simp only [decide_eq_true_eq, decide_eq_false_iff_not, beq_iff_eq, beq_eq_false_iff_ne, bne_iff_ne, bne_eq_false_iff_eq, Bool.not_eq_true', Bool.not_eq_false', Bool.not_eq_true, Bool.not_eq_false, ne_eq, Decidable.not_not] at h32)
          refine WL_pass rfl rfl rfl rfl ?_
          refine WL_pass rfl rfl rfl rfl ?_
          refine WL_pass rfl rfl rfl rfl ?_
          refine WL_pass rfl rfl rfl rfl ?_
          refine WL_pass rfl rfl rfl rfl ?_
          refine W_q (r_pick_t rfl rfl) rfl ?_
          refine W_nil ?_
          refine NX_as (L' := [(2, _), (3, _), (4, _), (8, _), (12, _), (113, _)]) [2, 3, 4, 8, 12, 113] rfl ?_
          refine CW_cond_t rfl ?_
          refine CW_seq ?_
          refine CW_region ?_
          refine W_q (r_assign rfl) rfl ?_
          refine W_nil ?_
          refine NX_as (L' := [(2, _), (3, _), (4, _), (8, _), (12, _)]) [2, 3, 4, 8, 12] rfl ?_
          refine C_ret (RX_then (RX_q1 rfl rfl ?_))
          exfalso
          exact h32 (by rw [hol])
        · (try simp only [decide_eq_true_eq, decide_eq_false_iff_not, beq_iff_eq, beq_eq_false_iff_ne, bne_iff_ne, bne_eq_false_iff_eq, Bool.not_eq_true', Bool.not_eq_false', Bool.not_eq_true, Bool.not_eq_false, ne_eq, Decidable.not_not] at h32)
          refine WL_take rfl rfl ?_
          refine W_q (r_loadbk 3 (vs := [_, _, _]) rfl T.ag25 T.sz25 rfl rfl rfl) rfl ?_
          refine WL_take rfl rfl ?_
          refine S_gives (Depth_g hF _) T.hb26 rfl rfl (fun m33 v33 le33 hv33 => ?_)
          replace h := h.mono rY_mono le33
          replace h2 := h2.mono rI_mono le33
          replace hops := hops.mono rOp_mono le33
          replace hbk := hbk.mono rBlock_mono le33
          replace hs7 := hs7.mono rI_mono le33
          replace hs8 := hs8.mono rI_mono le33
          replace hF := rFunc_mono _ _ _ _ le33 hF
          replace hG27 := rFunc_mono _ _ _ _ le33 hG27
          replace hq127 := hq127.mono rI_mono le33
          replace hb127 := hb127.mono rBlock_mono le33
          replace hh29 := hh29.mono rI_mono le33
          replace hp31 := hp31.mono rPhi_mono le33
          replace ho31 := ho31.mono rOp_mono le33
          replace ht31 := ht31.mono rI_mono le33
          obtain ⟨Ah33, ch33, rfl, hh33⟩ := hv33
          refine WL_take rfl rfl ?_
          refine W_q (r_len Tryz.underlying22 rfl) rfl ?_
          refine WL_take rfl rfl ?_
          refine W_q (r_move rfl) rfl ?_
          refine WL_take rfl rfl ?_
          refine W_q (r_bin rfl rfl (bin_neq _ _ _ _)) rfl ?_
          refine W_q (r_pick_f rfl rfl) rfl ?_
          refine W_nil ?_
          refine NX_as (L' := [(2, _), (3, _), (4, _), (8, _), (12, _), (113, _)]) [2, 3, 4, 8, 12, 113] rfl ?_
          refine CW_condk rfl (fun h34 => ?_) (fun h34 => ?_)
          · (try simp only [decide_eq_true_eq, decide_eq_false_iff_not, beq_iff_eq, beq_eq_false_iff_ne, bne_iff_ne, bne_eq_false_iff_eq, Bool.not_eq_true', Bool.not_eq_false', Bool.not_eq_true, Bool.not_eq_false, ne_eq, Decidable.not_not] at h34)
            refine CW_seq ?_
            refine CW_region ?_
            refine W_q (r_assign rfl) rfl ?_
            refine W_nil ?_
            refine NX_as (L' := [(2, _), (3, _), (4, _), (8, _), (12, _)]) [2, 3, 4, 8, 12] rfl ?_
            refine C_ret (RX_then (RX_q1 rfl rfl ?_))
            exfalso
            exact h34 (by rw [free_depth (by omega), List.length_replicate])
          · (try simp only [decide_eq_true_eq, decide_eq_false_iff_not, beq_iff_eq, beq_eq_false_iff_ne, bne_iff_ne, bne_eq_false_iff_eq, Bool.not_eq_true', Bool.not_eq_false', Bool.not_eq_true, Bool.not_eq_false, ne_eq, Decidable.not_not] at h34)
            refine C_skip ?_
            refine NX_as (L' := [(2, _), (3, _), (4, _), (8, _), (12, _)]) [2, 3, 4, 8, 12] rfl ?_
            refine CW_seq ?_
            refine CW_seq ?_
            refine CW_region ?_
            refine W_q (r_assign rfl) rfl ?_
            refine W_nil ?_
            refine NX_as (L' := [(2, _), (3, _), (4, _), (8, _), (12, _), (14, _)]) [2, 3, 4, 8, 12, 14] rfl ?_
            refine CW_block ?_
            refine C_loop (Unit) (od.length) (fun k35 x35 => True) (fun k35 x35 => [(14, .int .i64 (k35 : Int))]) (fun _ _ => []) [14] [3, 4, 8, 12] (F := [(3, _), (4, _), (8, _), (12, _)]) (()) trivial rfl rfl rfl (fun k35 x35 hk35 hJ35 => ?_)
            refine CW_as (L' := [(3, _), (4, _), (8, _), (12, _), (14, _)]) [3, 4, 8, 12, 14] rfl ?_
            refine CW_seq ?_
            refine CW_seq ?_
            refine CW_region ?_
            refine W_q (r_move rfl) rfl ?_
            refine W_q (r_move rfl) rfl ?_
            refine W_q (r_bin rfl rfl (bin_lss _ _ _ _)) rfl ?_
            refine W_nil ?_
            refine NX_as (L' := [(3, _), (4, _), (8, _), (12, _), (14, _), (116, _)]) [3, 4, 8, 12, 14, 116] rfl ?_
            refine CW_condk rfl (fun h36 => ?_) (fun h36 => ?_)
            · (try simp only [decide_eq_true_eq, decide_eq_false_iff_not, beq_iff_eq, beq_eq_false_iff_ne, bne_iff_ne, bne_eq_false_iff_eq, Bool.not_eq_true', Bool.not_eq_false', Bool.not_eq_true, Bool.not_eq_false, ne_eq, Decidable.not_not] at h36)
              refine C_skip ?_
              refine NX_as (L' := [(3, _), (4, _), (8, _), (12, _), (14, _)]) [3, 4, 8, 12, 14] rfl ?_
              refine CW_seq ?_
              refine CW_block ?_
              refine CW_seq ?_
              refine C_drawn [(0, true), (1, true), (2, true), (3, true), (4, true), (5, true), (6, true), (7, true), (8, true), (9, true), (10, true), (11, true), (12, true), (13, true), (14, true), (15, true), (16, true), (17, true), (18, false), (19, true), (20, true), (21, true), (22, true), (23, true), (25, true), (24, false), (26, true), (27, false), (28, true), (29, true)] (by kernel_rfl) rfl (by kernel_rfl) (by kernel_rfl) ?_
              refine D_q rfl (r_fieldb (o' := 2) rfl T.fo25_2 rfl) rfl ?_
              refine D_q rfl (r_loadb 0 rfl T.ag23 rfl rfl) rfl ?_
              have hzb1 : ([⟨[], ordOps (freeB od.length) x11.2.1.2.2, ⟨0, 1, []⟩⟩])[0]? = some (⟨[], ordOps (freeB od.length) x11.2.1.2.2, ⟨0, 1, []⟩⟩ : FBlk) := rfl
              obtain ⟨ad37, hA37⟩ := hb127.ad (j := 0) (by show 0 < 1; omega)
              refine D_q rfl (r_index hA37 Tryz.underlying23 T.sz44 rfl rfl ⟨by omega, by show (0 : Int) < ((1 : Nat) : Int); omega⟩) rfl ?_
              refine D_q rfl (r_field rfl T.fo44_1) rfl ?_
              obtain ⟨es38, f38, _, l38⟩ := Sl.get hb127 hA37 hzb1
              obtain ⟨A38, c38, B38, d38, C38, e38, rfl, hp38, ho38, ht38, i38a, i38b⟩ := f38
              refine D_q rfl (r_load_imm rfl T.ag40 (l38 1 _ rfl)) rfl ?_
              refine D_q rfl (r_move rfl) rfl ?_
              obtain ⟨ad39, hA39⟩ := ho38.ad (j := k35) (by rw [hol]; omega)
              obtain ⟨z39, hz39⟩ := ho38.getz (j := k35) (by rw [hol]; omega)
              refine D_q rfl (r_index hA39 Tryz.underlying40 T.sz51 rfl rfl ⟨by omega, by rw [hol]; omega⟩) rfl ?_
              refine D_q rfl (r_field rfl T.fo51_3) rfl ?_
              obtain ⟨es40, f40, _, l40⟩ := Sl.get ho38 hA39 hz39
              obtain ⟨A40, c40, rfl, h40, i40a, i40b, i40c, i40d, i40e⟩ := f40
              refine D_q rfl (r_load_imm rfl T.ag3 (l40 3 _ rfl)) rfl ?_
              refine D_q rfl (r_move rfl) rfl ?_
              refine D_q rfl (r_move rfl) rfl ?_
              obtain ⟨ad41, hA41⟩ := hs8.ad (j := k35) (by omega)
              obtain ⟨z41, hz41⟩ := hs8.getz (j := k35) (by omega)
              refine D_q rfl (r_index hA41 Tryz.underlying22 T.sz3 rfl rfl ⟨by omega, by omega⟩) rfl ?_
              obtain ⟨l42, r42⟩ := Sl.getI hs8 hA41 hz41
              refine D_q rfl (r_load_imm rfl T.ag3 l42) rfl ?_
              refine D_q rfl (r_add rfl rfl (by have := hp.rng _ (List.mem_of_getElem? hz41); constructor <;> omega)) rfl ?_
              refine D_q rfl (r_bin rfl rfl (bin_neq _ _ _ _)) rfl ?_
              refine D_q rfl (r_move rfl) rfl ?_
              refine D_split (t := 134) rfl (fun h43 => ?_) (fun h43 => ?_)
              · (try simp only [decide_eq_true_eq, decide_eq_false_iff_not, beq_iff_eq, beq_eq_false_iff_ne, bne_iff_ne, bne_eq_false_iff_eq, Bool.not_eq_true', Bool.not_eq_false', Bool.not_eq_true, Bool.not_eq_false, ne_eq, Decidable.not_not] at h43)
                refine D_pass rfl rfl rfl rfl rfl ?_
                refine D_pass rfl rfl rfl rfl rfl ?_
                refine D_f rfl (fun hs44 hc44 => ?_)
                refine WL_pass rfl rfl rfl rfl ?_
                refine W_left hs44 hc44 (fun _ hw => hw.toPre.weak (Imm.le_refl _) (List.Sublist.refl _)) ?_
                refine D_pass rfl rfl rfl rfl rfl ?_
                refine D_pass rfl rfl rfl rfl rfl ?_
                refine D_q rfl (r_pick_t rfl rfl) rfl ?_
                refine D_q rfl (r_move rfl) rfl ?_
                refine D_pass rfl rfl rfl rfl rfl ?_
                refine D_pass rfl rfl rfl rfl rfl ?_
                refine D_f rfl (fun hs45 hc45 => ?_)
                refine WL_pass rfl rfl rfl rfl ?_
                refine W_left hs45 hc45 (fun _ hw => hw.toPre.weak (Imm.le_refl _) (List.Sublist.refl _)) ?_
                refine D_pass rfl rfl rfl rfl rfl ?_
                refine D_f rfl (fun hs46 hc46 => ?_)
                refine WL_pass rfl rfl rfl rfl ?_
                refine W_left hs46 hc46 (fun _ hw => hw.toPre.weak (Imm.le_refl _) (List.Sublist.refl _)) ?_
                refine D_pass rfl rfl rfl rfl rfl ?_
                refine D_q rfl (r_pick_t rfl rfl) rfl ?_
                refine D_end ?_
                refine NX_as (L' := [(3, _), (4, _), (8, _), (12, _), (14, _), (148, _)]) [3, 4, 8, 12, 14, 148] rfl ?_
                refine CW_cond_t rfl ?_
                refine CW_seq ?_
                refine CW_region ?_
                refine W_q (r_assign rfl) rfl ?_
                refine W_nil ?_
                refine NX_as (L' := [(2, _), (3, _), (4, _), (8, _), (12, _), (14, _)]) [2, 3, 4, 8, 12, 14] rfl ?_
                refine C_ret (RX_block (RX_then (RX_then (RX_block (RX_then (RX_q1 rfl rfl ?_))))))
                exfalso
                have hzr := hp.rng _ (List.mem_of_getElem? hz41)
                have e := free_ord (n := od.length) hz41 hzr
                rw [hz39] at e
                cases e
                refine h43 ?_
                show 2 + ((_ : Nat) : Int) = 2 + _
                rw [Int.toNat_of_nonneg hzr.1]
              · (try simp only [decide_eq_true_eq, decide_eq_false_iff_not, beq_iff_eq, beq_eq_false_iff_ne, bne_iff_ne, bne_eq_false_iff_eq, Bool.not_eq_true', Bool.not_eq_false', Bool.not_eq_true, Bool.not_eq_false, ne_eq, Decidable.not_not] at h43)
                refine D_qt rfl rfl rfl (r_loadbk 3 (vs := [_, _, _]) rfl T.ag25 T.sz25 rfl rfl rfl) rfl ?_
                refine D_qt rfl rfl rfl (r_move rfl) rfl ?_
                refine D_f rfl (fun hs47 hc47 => ?_)
                refine WL_take rfl rfl ?_
                refine S_gives (Hangs_g hF _ _) T.hb22 rfl rfl (fun m48 v48 le48 hv48 => ?_)
                replace h := h.mono rY_mono le48
                replace h2 := h2.mono rI_mono le48
                replace hops := hops.mono rOp_mono le48
                replace hbk := hbk.mono rBlock_mono le48
                replace hs7 := hs7.mono rI_mono le48
                replace hs8 := hs8.mono rI_mono le48
                replace hF := rFunc_mono _ _ _ _ le48 hF
                replace hG27 := rFunc_mono _ _ _ _ le48 hG27
                replace hq127 := hq127.mono rI_mono le48
                replace hb127 := hb127.mono rBlock_mono le48
                replace hh29 := hh29.mono rI_mono le48
                replace hp31 := hp31.mono rPhi_mono le48
                replace ho31 := ho31.mono rOp_mono le48
                replace ht31 := ht31.mono rI_mono le48
                replace hh33 := hh33.mono rI_mono le48
                replace hp38 := hp38.mono rPhi_mono le48
                replace ho38 := ho38.mono rOp_mono le48
                replace ht38 := ht38.mono rI_mono le48
                replace h40 := h40.mono rI_mono le48
                obtain ⟨Ah48, ch48, rfl, hh48⟩ := hv48
                refine W_left hs47 hc47 (fun _ hw => hw.toPre.weak (le48) (List.Sublist.refl _)) ?_
                refine D_qt rfl rfl rfl (r_len Tryz.underlying22 rfl) rfl ?_
                refine D_qt rfl rfl rfl (r_bin rfl rfl (bin_neq _ _ _ _)) rfl ?_
                refine D_q rfl (r_pick_f rfl rfl) rfl ?_
                refine D_q rfl (r_move rfl) rfl ?_
                refine D_split (t := 141) rfl (fun h49 => ?_) (fun h49 => ?_)
                · (try simp only [decide_eq_true_eq, decide_eq_false_iff_not, beq_iff_eq, beq_eq_false_iff_ne, bne_iff_ne, bne_eq_false_iff_eq, Bool.not_eq_true', Bool.not_eq_false', Bool.not_eq_true, Bool.not_eq_false, ne_eq, Decidable.not_not] at h49)
                  refine D_pass rfl rfl rfl rfl rfl ?_
                  refine D_pass rfl rfl rfl rfl rfl ?_
                  refine D_f rfl (fun hs50 hc50 => ?_)
                  refine WL_pass rfl rfl rfl rfl ?_
                  refine W_left hs50 hc50 (fun _ hw => hw.toPre.weak (le48) (List.Sublist.refl _)) ?_
                  refine D_pass rfl rfl rfl rfl rfl ?_
                  refine D_f rfl (fun hs51 hc51 => ?_)
                  refine WL_pass rfl rfl rfl rfl ?_
                  refine W_left hs51 hc51 (fun _ hw => hw.toPre.weak (le48) (List.Sublist.refl _)) ?_
                  refine D_pass rfl rfl rfl rfl rfl ?_
                  refine D_q rfl (r_pick_t rfl rfl) rfl ?_
                  refine D_end ?_
                  refine NX_as (L' := [(3, _), (4, _), (8, _), (12, _), (14, _), (148, _)]) [3, 4, 8, 12, 14, 148] rfl ?_
                  refine CW_cond_t rfl ?_
                  refine CW_seq ?_
                  refine CW_region ?_
                  refine W_q (r_assign rfl) rfl ?_
                  refine W_nil ?_
                  refine NX_as (L' := [(2, _), (3, _), (4, _), (8, _), (12, _), (14, _)]) [2, 3, 4, 8, 12, 14] rfl ?_
                  refine C_ret (RX_block (RX_then (RX_then (RX_block (RX_then (RX_q1 rfl rfl ?_))))))
                  exfalso
                  exact h49 (by rw [free_hangsAt (by omega)]; rfl)
                · (try simp only [decide_eq_true_eq, decide_eq_false_iff_not, beq_iff_eq, beq_eq_false_iff_ne, bne_iff_ne, bne_eq_false_iff_eq, Bool.not_eq_true', Bool.not_eq_false', Bool.not_eq_true, Bool.not_eq_false, ne_eq, Decidable.not_not] at h49)
                  refine D_qt rfl rfl rfl (r_loadbk 3 (vs := [_, _, _]) rfl T.ag25 T.sz25 rfl rfl rfl) rfl ?_
                  refine D_qt rfl rfl rfl (r_move rfl) rfl ?_
                  refine D_f rfl (fun hs52 hc52 => ?_)
                  refine WL_take rfl rfl ?_
                  refine S_gives (Depth_g hF _) T.hb26 rfl rfl (fun m53 v53 le53 hv53 => ?_)
                  replace h := h.mono rY_mono le53
                  replace h2 := h2.mono rI_mono le53
                  replace hops := hops.mono rOp_mono le53
                  replace hbk := hbk.mono rBlock_mono le53
                  replace hs7 := hs7.mono rI_mono le53
                  replace hs8 := hs8.mono rI_mono le53
                  replace hF := rFunc_mono _ _ _ _ le53 hF
                  replace hG27 := rFunc_mono _ _ _ _ le53 hG27
                  replace hq127 := hq127.mono rI_mono le53
                  replace hb127 := hb127.mono rBlock_mono le53
                  replace hh29 := hh29.mono rI_mono le53
                  replace hp31 := hp31.mono rPhi_mono le53
                  replace ho31 := ho31.mono rOp_mono le53
                  replace ht31 := ht31.mono rI_mono le53
                  replace hh33 := hh33.mono rI_mono le53
                  replace hp38 := hp38.mono rPhi_mono le53
                  replace ho38 := ho38.mono rOp_mono le53
                  replace ht38 := ht38.mono rI_mono le53
                  replace h40 := h40.mono rI_mono le53
                  replace hh48 := hh48.mono rI_mono le53
                  obtain ⟨Ah53, ch53, rfl, hh53⟩ := hv53
                  refine W_left hs52 hc52 (fun _ hw => hw.toPre.weak (Imm.le_trans (le48) le53) (List.Sublist.refl _)) ?_
                  obtain ⟨ad54, hA54⟩ := hh53.ad (j := k35) (by rw [free_depth (by omega), List.length_replicate]; omega)
                  obtain ⟨z54, hz54⟩ := hh53.getz (j := k35) (by rw [free_depth (by omega), List.length_replicate]; omega)
                  refine D_qt rfl rfl rfl (r_index hA54 Tryz.underlying22 T.sz3 rfl rfl ⟨by omega, by rw [free_depth (by omega), List.length_replicate]; omega⟩) rfl ?_
                  refine D_f rfl (fun hs55 hc55 => ?_)
                  refine WL_take rfl rfl ?_
                  obtain ⟨l56, r56⟩ := Sl.getI hh53 hA54 hz54
                  refine W_q (r_load_imm rfl T.ag3 l56) rfl ?_
                  refine W_left hs55 hc55 (fun _ hw => hw.toPre.weak (Imm.le_trans (le48) le53) (List.Sublist.refl _)) ?_
                  refine D_qt rfl rfl rfl (r_bin rfl rfl (bin_neq _ _ _ _)) rfl ?_
                  refine D_q rfl (r_pick_f rfl rfl) rfl ?_
                  refine D_end ?_
                  refine NX_as (L' := [(3, _), (4, _), (8, _), (12, _), (14, _), (148, _)]) [3, 4, 8, 12, 14, 148] rfl ?_
                  refine CW_condk rfl (fun h57 => ?_) (fun h57 => ?_)
                  · (try simp only [decide_eq_true_eq, decide_eq_false_iff_not, beq_iff_eq, beq_eq_false_iff_ne, bne_iff_ne, bne_eq_false_iff_eq, Bool.not_eq_true', Bool.not_eq_false', Bool.not_eq_true, Bool.not_eq_false, ne_eq, Decidable.not_not] at h57)
                    refine CW_seq ?_
                    refine CW_region ?_
                    refine W_q (r_assign rfl) rfl ?_
                    refine W_nil ?_
                    refine NX_as (L' := [(2, _), (3, _), (4, _), (8, _), (12, _), (14, _)]) [2, 3, 4, 8, 12, 14] rfl ?_
                    refine C_ret (RX_block (RX_then (RX_then (RX_block (RX_then (RX_q1 rfl rfl ?_))))))
                    exfalso
                    have e := hz54
                    rw [free_depth (by omega), List.getElem?_replicate, if_pos (by omega)] at e
                    cases e
                    exact h57 rfl
                  · (try simp only [decide_eq_true_eq, decide_eq_false_iff_not, beq_iff_eq, beq_eq_false_iff_ne, bne_iff_ne, bne_eq_false_iff_eq, Bool.not_eq_true', Bool.not_eq_false', Bool.not_eq_true, Bool.not_eq_false, ne_eq, Decidable.not_not] at h57)
                    refine C_skip ?_
                    refine NX_block (NX_as (L' := [(3, _), (4, _), (8, _), (12, _), (14, _)]) [3, 4, 8, 12, 14] rfl ?_)
                    refine CW_region ?_
                    refine W_q (r_move rfl) rfl ?_
                    refine W_q (r_add rfl rfl (by unfold I64 at *; omega)) rfl ?_
                    refine W_q (r_assign rfl) rfl ?_
                    refine W_nil ?_
                    refine NX_rnd [14, 3, 4, 8, 12] (by omega) (()) ?_ rfl (List.Sublist.refl _) rfl (Imm.le_trans (le48) le53)
                    trivial
            · (try simp only [decide_eq_true_eq, decide_eq_false_iff_not, beq_iff_eq, beq_eq_false_iff_ne, bne_iff_ne, bne_eq_false_iff_eq, Bool.not_eq_true', Bool.not_eq_false', Bool.not_eq_true, Bool.not_eq_false, ne_eq, Decidable.not_not] at h36)
              refine C_exit (EX_then (EX_then (EX_hit (?_))))
              refine NX_as (L' := []) [] rfl ?_
              refine CW_seq ?_
              refine CW_region ?_
              refine W_q (r_assign rfl) rfl ?_
              refine W_nil ?_
              refine NX_as (L' := [(2, _)]) [2] rfl ?_
              refine C_ret (RX_q1 rfl rfl ?_)
              rfl

end Go.Proofs.YtipmgkhjoekaaaaGreat

set_option linter.unusedVariables false
namespace Go.Proofs.YtipmgkhjoekaaaaGreat.Fw
open Go Go.RowKit Go.ChangeShapes Go.WideShapes Go.Deep
/-! What the call is handed, as memory that stays. -/
def memOf (W : World) : Imm := fun b => W.heap[b]?
theorem memOf_cell (W : World) (a : Addr) : (memOf W).cell? a = W.cell? a := rfl
theorem memOf_in (W : World) : In (memOf W) W := fun _ _ h => h
def Wt {H : Type} (P : Program) (t : TypeId) (d : DataW H) : Prop := (d.weights P t).all (· ≤ reachBytes) = true
def Rd (P : Program) (W : World) (t : TypeId) {α : Type} (r : Rep α) (sz : Nat) : Prop :=
  ∀ (H : Type) (enc : TypeId × Value → H) (fuel : Nat) (cs : List Value) (d : DataW H) (ps : List MemPlace), DataW.trod enc P W 0 (fun _ => true) true fuel t cs = some (d, ps) → Wt P t d → cs.length = sz ∧ ∃ z, r (memOf W) cs z
section
variable {P : Program} {W : World} {t e : TypeId}
theorem Rd.i64 (ht : P.underlying t = some (.int .i64)) : Rd P W t rI 1 := fun H enc fuel cs d ps h _ => by
  obtain ⟨n, rfl, _, hw⟩ := DataW.trod_int ht h
  simp only [Lit.wf, Bool.and_eq_true, decide_eq_true_eq] at hw
  exact ⟨rfl, n, rfl, hw.1, hw.2⟩
theorem Rd.u64 (ht : P.underlying t = some (.int .u64)) : Rd P W t rU 1 := fun H enc fuel cs d ps h _ => by
  obtain ⟨n, rfl, _, hw⟩ := DataW.trod_int ht h
  simp only [Lit.wf, Bool.and_eq_true, decide_eq_true_eq] at hw
  have h1 : IntKind.u64.min = 0 := rfl
  have h2 : IntKind.u64.max = 18446744073709551615 := rfl
  exact ⟨rfl, n, rfl, by rw [h1] at hw; exact hw.1, by rw [h2] at hw; omega⟩
theorem Rd.u8 (ht : P.underlying t = some (.int .u8)) : Rd P W t rY 1 := fun H enc fuel cs d ps h _ => by
  obtain ⟨n, rfl, _, hw⟩ := DataW.trod_int ht h
  simp only [Lit.wf, Bool.and_eq_true, decide_eq_true_eq] at hw
  have h1 : IntKind.u8.min = 0 := rfl
  have h2 : IntKind.u8.max = 255 := rfl
  rw [h1, h2] at hw
  exact ⟨rfl, n, rfl, hw.1, by omega⟩
theorem weightsAll_mem {H : Type} {l : List (DataW H)} {d : DataW H} (hd : d ∈ l) {x : Nat} (hx : x ∈ d.weights P e) : x ∈ DataW.weightsAll P e l := by
  induction l with
  | nil => cases hd
  | cons y r ih =>
    rw [DataW.weightsAll, List.mem_append]
    rcases List.mem_cons.1 hd with rfl | hd
    · exact .inl hx
    · exact .inr (ih hd)
theorem cells_get {a : Addr} {n : Nat} {cs : List Value} (h : W.cells? 0 a n = some cs) : cs.length = n ∧ ∀ k v, cs[k]? = some v → W.cell? (a.add k) = some v := by
  rw [World.cells?, if_pos (Nat.zero_le _)] at h
  have hl := mapM_some_length h
  rw [List.length_range] at hl
  refine ⟨hl, fun k v hk => ?_⟩
  have hkn : k < n := by rw [← hl]; exact (List.getElem?_eq_some_iff.1 hk).1
  have := mapM_some_get h k k (by rw [List.getElem?_range hkn])
  rw [this]; exact hk
theorem Rd.slice {α : Type} {r : Rep α} {sz : Nat} (ht : P.underlying t = some (.slice e)) (hc : P.cellsOf e = sz) (hb : Nat.ble 1 (P.bytesOf e) = true) (h : Rd P W e r sz) : Rd P W t (rS r sz) 1 := fun H enc fuel cs d ps hd hw => by
  rcases open_slice ht hd with ⟨rfl, hx⟩ | ⟨a, len, cap, m, n, D, Pl, rfl, _, hl, hm, hmc, hx, hel⟩
  · exact ⟨rfl, [], none, 0, rfl, Sl.nil _ _ _⟩
  · simp only [if_true] at hmc
    subst hmc
    obtain ⟨rfl, _⟩ := Prod.mk.inj hx
    refine ⟨rfl, ?_⟩
    have hw' := List.all_eq_true.1 hw
    have hwD : ∀ i, i < len → Wt P e (D i) := fun i hi => List.all_eq_true.2 fun x hx => hw' x (by
      rw [DataW.weights, ht]
      refine List.mem_cons_of_mem _ (List.mem_append.2 (.inl (weightsAll_mem (d := D i) ?_ hx)))
      exact List.mem_map.2 ⟨i, List.mem_range.2 hi, rfl⟩)
    have hlen : len ≤ 140737488355328 := by
      have := hw' (((List.range len).map D).length + ((List.range (m - len)).map fun j => D (len + j)).length |>.mul (P.bytesOf e)) (by rw [DataW.weights, ht]; exact List.mem_cons_self)
      simp only [List.length_map, List.length_range, decide_eq_true_eq] at this
      have h1 : 1 ≤ P.bytesOf e := Nat.le_of_ble_eq_true hb
      have h2 : len + (m - len) ≤ (len + (m - len)) * P.bytesOf e := Nat.le_mul_of_pos_right _ h1
      have h3 : (len + (m - len)).mul (P.bytesOf e) = (len + (m - len)) * P.bytesOf e := rfl
      rw [h3] at this
      have h4 : reachBytes = 140737488351232 := rfl
      omega
    have hall : ∀ k, k ≤ len → ∃ l : List α, l.length = k ∧ ∀ i z, l[i]? = some z → ∃ cs', W.cells? 0 (a.add (i * P.cellsOf e)) (P.cellsOf e) = some cs' ∧ r (memOf W) cs' z := by
      intro k
      induction k with
      | zero => intro _; exact ⟨[], rfl, by simp⟩
      | succ k ih =>
        intro hk
        obtain ⟨l, h1, h2⟩ := ih (by omega)
        obtain ⟨cs', h3, h4⟩ := hel k (by omega)
        obtain ⟨_, z, hz⟩ := h H enc n cs' (D k) (Pl k) h4 (hwD k (by omega))
        refine ⟨l ++ [z], by simp [h1], fun i y hy => ?_⟩
        by_cases hi : i < l.length
        · rw [List.getElem?_append_left hi] at hy; exact h2 i y hy
        · have hlt := (List.getElem?_eq_some_iff.1 hy).1
          rw [List.length_append, List.length_singleton] at hlt
          obtain rfl : i = l.length := by omega
          rw [List.getElem?_append_right (Nat.le_refl _), Nat.sub_self] at hy
          simp only [List.getElem?_cons_zero, Option.some.injEq] at hy
          subst hy
          rw [h1]; exact ⟨cs', h3, hz⟩
    obtain ⟨l, h1, h2⟩ := hall len (Nat.le_refl _)
    refine ⟨l, some a, m, by rw [h1], ⟨by omega, hm, by omega, fun j x hj => ?_⟩⟩
    obtain ⟨cs', h3, h4⟩ := h2 j x hj
    rw [hc] at h3
    obtain ⟨h5, h6⟩ := cells_get h3
    exact ⟨a, rfl, cs', h5, h4, fun k v hk => by rw [memOf_cell, ← Fw.add_add]; exact h6 k v hk⟩
theorem Rd.parts {fs : Array Field} (ht : P.underlying t = some (.struct fs)) {H : Type} {enc : TypeId × Value → H} {fuel : Nat} {cs : List Value} {d : DataW H} {ps : List MemPlace} (h : DataW.trod enc P W 0 (fun _ => true) true fuel t cs = some (d, ps)) (hw : Wt P t d) :
    cs.length = P.cellsOf t ∧ ∀ (i : Nat) (f : Field), fs[i]? = some f → ∃ n d' ps', DataW.trod enc P W 0 (fun _ => true) true n f.type ((cs.drop f.offset).take (P.cellsOf f.type)) = some (d', ps') ∧ Wt P f.type d' := by
  obtain ⟨xs, n, rfl, hx, hl, hxl, hp⟩ := DataW.trod_struct ht h
  obtain ⟨rfl, _⟩ := Prod.mk.inj hx
  refine ⟨hl, fun i f hf => ?_⟩
  have hi : i < xs.length := by rw [hxl]; exact (Array.getElem?_eq_some_iff.1 hf).1
  have h1 := hp i f hf
  rw [List.getElem?_eq_getElem hi] at h1
  refine ⟨n, xs[i].1, xs[i].2, h1, List.all_eq_true.2 fun x hx => List.all_eq_true.1 hw x ?_⟩
  rw [DataW.weights, ht]
  refine DataW.weights_mem_each (j := i) (t := f.type) (d := xs[i].1) ?_ ?_ x hx
  · rw [List.getElem?_map, Array.getElem?_toList, hf]; rfl
  · rw [List.getElem?_map, List.getElem?_eq_getElem hi]; rfl
/-- One field's cells. -/
theorem Rd.field {fs : Array Field} {α : Type} {r : Rep α} {sz : Nat} (ht : P.underlying t = some (.struct fs)) {H : Type} {enc : TypeId × Value → H} {fuel : Nat} {cs : List Value} {d : DataW H} {ps : List MemPlace} (h : DataW.trod enc P W 0 (fun _ => true) true fuel t cs = some (d, ps)) (hw : Wt P t d)
    (i : Nat) {f : Field} (hf : fs[i]? = some f) (hc : P.cellsOf f.type = sz) (hr : Rd P W f.type r sz) : ∃ z, r (memOf W) ((cs.drop f.offset).take sz) z := by
  obtain ⟨n, d', ps', h1, h2⟩ := (Rd.parts ht h hw).2 i f hf
  rw [hc] at h1
  exact (hr H enc n _ d' ps' h1 h2).2
end
end Go.Proofs.YtipmgkhjoekaaaaGreat.Fw

