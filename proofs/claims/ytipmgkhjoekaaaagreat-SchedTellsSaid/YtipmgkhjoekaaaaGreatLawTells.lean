/- SchedTells, for every input: what hangs on what, which orders are legal, what is made by one, the flat order and the depths are what the document says. No condition of its own. -/
import Derived.Test.YtipmgkhjoekaaaaGreatRows
import Derived.ProofKit
import Derived.SizedLaws
import Derived.Below
import Derived.Carry
import Derived.Test.YtipmgkhjoekaaaaGreatYf
namespace Go.Proofs.YtipmgkhjoekaaaaGreat
open Go Go.ChangeShapes Go.WideShapes Go.ChangeAt Go.RowKit Go.Proofs.YtipmgkhjoekaaaaGreat.Fw
theorem schedTells_quiet {m : Imm} {es : List Value} {f : FFun} (hF : rFunc m es f) {xs : List Value} {x : FAsk} (hx : rAsk m xs x) : Quiet Tryz.prog 3 [.agg es.toArray, .agg xs.toArray] m (.bool true) := by
  obtain ⟨A, c, rfl, h, hb, _⟩ := hx
  exact SchedTells_q hF x.block x.at_ hb h
set_option maxRecDepth 100000 in
theorem schedTells_lifted (os : Os) (started : os.Started) (H : Type) (enc : TypeId × Value → H) :
    ReturnsInHanded {} Tryz.checked os 3 .any (Rows.schedTellsSpec.pre6 enc Tryz.prog Tryz.f3 Rows.schedTellsRow.domain false) (Rows.schedTellsSpec.post enc Tryz.prog Tryz.f3 false true false false) := by
  refine returnsInHanded_of_change_sized (C := Tryz.checked) lawOwn started (by kernel_rfl) Tryz.func3
    (ChangeSpec.witness6 (enc := enc) (C := Tryz.checked) false ⟨#[], #[.agg #[.slice none 0 0, .int .i64 0, .slice none 0 0], .agg #[.int .i64 0, .int .i64 0, .slice none 0 0]], []⟩ 8 (by kernel_rfl) (by kernel_rfl) (by kernel_rfl) (by kernel_rfl)) ?_
  intro W base args ds gs before hval0 hW hcnd hsz0 _
  have hsz : (DataW.weightsEach Tryz.prog (Tryz.f3.params.toList ++ Rows.schedTellsSpec.plain.varTypes Tryz.prog) (ds ++ gs)).all (· ≤ reachBytes) = true := hsz0
  have hval : ∀ (j : Nat) t v, Tryz.f3.params[j]? = some t → args[j]? = some v → Value.okWide Tryz.prog W .any base t v := hval0
  have hW' := hW
  obtain ⟨p, q, hA0, hV, rfl, hfz, hnd⟩ := hW
  have hA : DataW.TrodAll enc Tryz.prog W 0 (fun _ => true) true Tryz.f3.params.toList args.toList ds p := hA0
  rw [Tryz.params3] at hA hval hsz
  obtain ⟨v0, vs0, d0, ds0, p0, q0, hargs, rfl, rfl, h0, r0⟩ := trodAll_cons hA
  obtain ⟨v1, vs1, d1, ds1, p1, q1, rfl, rfl, rfl, h1, r1⟩ := trodAll_cons r0
  obtain ⟨rfl, rfl, rfl⟩ := trodAll_nil r1
  obtain rfl : args = #[v0, v1] := by cases args; simp_all
  obtain ⟨rfl, rfl⟩ := trodVars_none hV
  have hw0 : Wt Tryz.prog 25 d0 := List.all_eq_true.2 fun x hx => List.all_eq_true.1 hsz x (DataW.weights_mem_each (j := 0) rfl rfl x hx)
  have hw1 : Wt Tryz.prog 27 d1 := List.all_eq_true.2 fun x hx => List.all_eq_true.1 hsz x (DataW.weights_mem_each (j := 1) rfl rfl x hx)
  obtain ⟨es, f, rfl, hF⟩ := arg_struct Tryz.underlying25 (hval 0 25 v0 rfl rfl) h0 hw0 rd_func
  obtain ⟨xs, x, rfl, hx⟩ := arg_struct Tryz.underlying27 (hval 1 27 v1 rfl rfl) h1 hw1 rd_ask
  refine (schedTells_quiet hF hx W (memOf_in W)).mono fun e W' ⟨he, hev⟩ => ?_
  subst he
  have bel := hev.below
  exact ⟨_, rfl, _, _, _, [], _, [], hW', trodAll_mk1 (shut_bool Tryz.underlying4 _), trodAll_mk2 (Below.trod lawLaidOut (by kernel_rfl) (of_decide_eq_true (by kernel_rfl)) h0 bel (trod_places h0)) (Below.trod lawLaidOut (by kernel_rfl) (of_decide_eq_true (by kernel_rfl)) h1 bel (trod_places h1)), rfl, bel.frame _, fun h => by cases h⟩
theorem schedTells_holds : Rows.SchedTellsSaid :=
  OpenClaim.holds_of_wide 3 Tryz.f3 rfl rfl rfl rfl rfl rfl rfl ⟨rfl, rfl, rfl, rfl, rfl⟩ rfl rfl rfl rfl rfl (by kernel_rfl) Tryz.func3 (by kernel_rfl)
    (of_decide_eq_true (by kernel_rfl)) (by unfold Func.isWrapper; first | (rw [if_pos (by decide +kernel)]; kernel_rfl) | (rw [if_neg (by decide +kernel)]; exact ⟨rfl, rfl⟩))
    (fun os started H enc _ => schedTells_lifted os started H enc)
#print axioms schedTells_holds
end Go.Proofs.YtipmgkhjoekaaaaGreat
