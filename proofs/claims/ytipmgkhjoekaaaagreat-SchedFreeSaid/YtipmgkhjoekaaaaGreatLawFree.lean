/- SchedFree, for every input: operations that hang on nothing may stand in any order; the flat one is as they stand. No condition of its own. -/
import Derived.Test.YtipmgkhjoekaaaaGreatRows
import Derived.ProofKit
import Derived.SizedLaws
import Derived.Below
import Derived.Carry
import Derived.Test.YtipmgkhjoekaaaaGreatXf
namespace Go.Proofs.YtipmgkhjoekaaaaGreat
open Go Go.ChangeShapes Go.WideShapes Go.ChangeAt Go.RowKit Go.Proofs.YtipmgkhjoekaaaaGreat.Fw
set_option maxRecDepth 100000 in
theorem schedFree_lifted (os : Os) (started : os.Started) (H : Type) (enc : TypeId × Value → H) :
    ReturnsInHanded {} Tryz.checked os 7 .any (Rows.schedFreeSpec.pre6 enc Tryz.prog Tryz.f7 Rows.schedFreeRow.domain false) (Rows.schedFreeSpec.post enc Tryz.prog Tryz.f7 false true false false) := by
  refine returnsInHanded_of_change_sized (C := Tryz.checked) lawOwn started (by kernel_rfl) Tryz.func7
    (ChangeSpec.witness6 (enc := enc) (C := Tryz.checked) false ⟨#[], #[.slice none 0 0], []⟩ 8 (by kernel_rfl) (by kernel_rfl) (by kernel_rfl) (by kernel_rfl)) ?_
  intro W base args ds gs before hval0 hW hcnd hsz0 _
  have hsz : (DataW.weightsEach Tryz.prog (Tryz.f7.params.toList ++ Rows.schedFreeSpec.plain.varTypes Tryz.prog) (ds ++ gs)).all (· ≤ reachBytes) = true := hsz0
  have hval : ∀ (j : Nat) t v, Tryz.f7.params[j]? = some t → args[j]? = some v → Value.okWide Tryz.prog W .any base t v := hval0
  have hW' := hW
  obtain ⟨p, q, hA0, hV, rfl, hfz, hnd⟩ := hW
  have hA : DataW.TrodAll enc Tryz.prog W 0 (fun _ => true) true Tryz.f7.params.toList args.toList ds p := hA0
  rw [Tryz.params7] at hA hval hsz
  obtain ⟨v0, vs0, d0, ds0, p0, q0, hargs, rfl, rfl, h0, r0⟩ := trodAll_cons hA
  obtain ⟨rfl, rfl, rfl⟩ := trodAll_nil r0
  obtain rfl : args = #[v0] := by cases args; simp_all
  obtain ⟨rfl, rfl⟩ := trodVars_none hV
  obtain ⟨a0, len0, cap0, rfl⟩ := okWide_slice Tryz.underlying53 (hval 0 53 v0 rfl rfl)
  have k0 := h0
  have lt0 : ∀ x ∈ p0, x.block < W.heap.size := by obtain ⟨m, hm⟩ := k0; exact DataW.trod_lt m _ _ _ hm
  obtain ⟨fuel, hf⟩ := h0
  have hw0 : Wt Tryz.prog 53 d0 := List.all_eq_true.2 fun x hx => List.all_eq_true.1 hsz x (DataW.weights_mem_each (j := 0) rfl rfl x hx)
  obtain ⟨_, od, A, c, hcs, hsl⟩ := (Rd.slice Tryz.underlying53 (sz := 1) (by kernel_rfl) (by kernel_rfl) (Rd.u8 Tryz.underlying5)) H enc fuel _ d0 p0 hf hw0
  obtain ⟨rfl, rfl, rfl⟩ : a0 = A ∧ len0 = od.length ∧ cap0 = c := by simpa [Value.cells] using hcs
  refine (SchedFree_q hsl W (memOf_in W)).mono fun e W' ⟨he, hev⟩ => ?_
  subst he
  have bel := hev.below
  exact ⟨_, rfl, _, _, _, [], _, [], hW', trodAll_mk1 (shut_bool Tryz.underlying4 _), trodAll_mk1 (Below.trod lawLaidOut (by kernel_rfl) (of_decide_eq_true (by kernel_rfl)) k0 bel lt0), rfl, bel.frame _, fun h => by cases h⟩
theorem schedFree_holds : Rows.SchedFreeSaid :=
  OpenClaim.holds_of_wide 7 Tryz.f7 rfl rfl rfl rfl rfl rfl rfl ⟨rfl, rfl, rfl, rfl, rfl⟩ rfl rfl rfl rfl rfl (by kernel_rfl) Tryz.func7 (by kernel_rfl)
    (of_decide_eq_true (by kernel_rfl)) (by unfold Func.isWrapper; first | (rw [if_pos (by decide +kernel)]; kernel_rfl) | (rw [if_neg (by decide +kernel)]; exact ⟨rfl, rfl⟩))
    (fun os started H enc _ => schedFree_lifted os started H enc)
#print axioms schedFree_holds
end Go.Proofs.YtipmgkhjoekaaaaGreat
