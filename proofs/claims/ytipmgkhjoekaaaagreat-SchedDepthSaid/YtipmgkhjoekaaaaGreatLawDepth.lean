/- SchedDepth, for every input: what hangs on something lies deeper than that; what lies deep hangs on something that lies one less deep. No condition of its own. -/
import Derived.Test.YtipmgkhjoekaaaaGreatRows
import Derived.ProofKit
import Derived.SizedLaws
import Derived.Below
import Derived.Carry
import Derived.Test.YtipmgkhjoekaaaaGreatYe
namespace Go.Proofs.YtipmgkhjoekaaaaGreat
open Go Go.ChangeShapes Go.WideShapes Go.ChangeAt Go.RowKit Go.Proofs.YtipmgkhjoekaaaaGreat.Fw
set_option maxRecDepth 100000 in
theorem schedDepth_lifted (os : Os) (started : os.Started) (H : Type) (enc : TypeId × Value → H) :
    ReturnsInHanded {} Tryz.checked os 5 .any (Rows.schedDepthSpec.pre6 enc Tryz.prog Tryz.f5 Rows.schedDepthRow.domain false) (Rows.schedDepthSpec.post enc Tryz.prog Tryz.f5 false true false false) := by
  refine returnsInHanded_of_change_sized (C := Tryz.checked) lawOwn started (by kernel_rfl) Tryz.func5
    (ChangeSpec.witness6 (enc := enc) (C := Tryz.checked) false ⟨#[], #[.agg #[.slice none 0 0, .int .i64 0, .slice none 0 0], .int .u8 0], []⟩ 8 (by kernel_rfl) (by kernel_rfl) (by kernel_rfl) (by kernel_rfl)) ?_
  intro W base args ds gs before hval0 hW hcnd hsz0 _
  have hsz : (DataW.weightsEach Tryz.prog (Tryz.f5.params.toList ++ Rows.schedDepthSpec.plain.varTypes Tryz.prog) (ds ++ gs)).all (· ≤ reachBytes) = true := hsz0
  have hval : ∀ (j : Nat) t v, Tryz.f5.params[j]? = some t → args[j]? = some v → Value.okWide Tryz.prog W .any base t v := hval0
  have hW' := hW
  obtain ⟨p, q, hA0, hV, rfl, hfz, hnd⟩ := hW
  have hA : DataW.TrodAll enc Tryz.prog W 0 (fun _ => true) true Tryz.f5.params.toList args.toList ds p := hA0
  rw [Tryz.params5] at hA hval hsz
  obtain ⟨v0, vs0, d0, ds0, p0, q0, hargs, rfl, rfl, h0, r0⟩ := trodAll_cons hA
  obtain ⟨v1, vs1, d1, ds1, p1, q1, rfl, rfl, rfl, h1, r1⟩ := trodAll_cons r0
  obtain ⟨rfl, rfl, rfl⟩ := trodAll_nil r1
  obtain rfl : args = #[v0, v1] := by cases args; simp_all
  obtain ⟨rfl, rfl⟩ := trodVars_none hV
  have hw0 : Wt Tryz.prog 25 d0 := List.all_eq_true.2 fun x hx => List.all_eq_true.1 hsz x (DataW.weights_mem_each (j := 0) rfl rfl x hx)
  have hw1 : Wt Tryz.prog 5 d1 := List.all_eq_true.2 fun x hx => List.all_eq_true.1 hsz x (DataW.weights_mem_each (j := 1) rfl rfl x hx)
  obtain ⟨es, f, rfl, hF⟩ := arg_struct Tryz.underlying25 (hval 0 25 v0 rfl rfl) h0 hw0 rd_func
  obtain ⟨n, rfl⟩ := okWide_int Tryz.underlying5 (hval 1 5 v1 rfl rfl)
  have k1 := h1
  obtain ⟨fuel, hf⟩ := h1
  obtain ⟨_, z, hcs, hz⟩ := (Rd.u8 Tryz.underlying5) H enc fuel _ d1 p1 hf hw1
  obtain rfl : n = z := by simpa [Value.cells] using hcs
  refine (SchedDepth_q hF n hz W (memOf_in W)).mono fun e W' ⟨he, hev⟩ => ?_
  subst he
  have bel := hev.below
  exact ⟨_, rfl, _, _, _, [], _, [], hW', trodAll_mk1 (shut_bool Tryz.underlying4 _), trodAll_mk2 (Below.trod lawLaidOut (by kernel_rfl) (of_decide_eq_true (by kernel_rfl)) h0 bel (trod_places h0)) (Below.trod lawLaidOut (by kernel_rfl) (of_decide_eq_true (by kernel_rfl)) k1 bel (trod_places k1)), rfl, bel.frame _, fun h => by cases h⟩
theorem schedDepth_holds : Rows.SchedDepthSaid :=
  OpenClaim.holds_of_wide 5 Tryz.f5 rfl rfl rfl rfl rfl rfl rfl ⟨rfl, rfl, rfl, rfl, rfl⟩ rfl rfl rfl rfl rfl (by kernel_rfl) Tryz.func5 (by kernel_rfl)
    (of_decide_eq_true (by kernel_rfl)) (by unfold Func.isWrapper; first | (rw [if_pos (by decide +kernel)]; kernel_rfl) | (rw [if_neg (by decide +kernel)]; exact ⟨rfl, rfl⟩))
    (fun os started H enc _ => schedDepth_lifted os started H enc)
#print axioms schedDepth_holds
end Go.Proofs.YtipmgkhjoekaaaaGreat
