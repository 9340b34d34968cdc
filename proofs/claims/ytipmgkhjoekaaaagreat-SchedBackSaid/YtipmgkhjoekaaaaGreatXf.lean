/- A part of a proof about a given program: rules, plain functions and walks. -/
import Derived.Test.YtipmgkhjoekaaaaGreatProg
import Derived.Test.YtipmgkhjoekaaaaGreatXe
set_option linter.unusedVariables false
namespace Go.Proofs.YtipmgkhjoekaaaaGreat
open Go Go.RowKit Go.Proofs Go.ChangeShapes Go.WideShapes Go.Proofs.YtipmgkhjoekaaaaGreat.Fw
/-! A function of the program's language, as the call is handed it. -/
section
variable {W : World}
theorem rd_ints : Rd Tryz.prog W 22 (rS rI 1) 1 := Rd.slice Tryz.underlying22 (by kernel_rfl) (by kernel_rfl) (Rd.i64 Tryz.underlying3)
theorem rd_op : Rd Tryz.prog W 51 rOp 6 := fun H enc fuel cs d ps h hw => by
  have hl := (Rd.parts Tryz.underlying51 h hw).1
  rw [show Tryz.prog.cellsOf 51 = 6 by kernel_rfl] at hl
  obtain ⟨k, h0, i0⟩ := Rd.field Tryz.underlying51 h hw 0 rfl (sz := 1) (by kernel_rfl) (Rd.i64 Tryz.underlying3)
  obtain ⟨b, h1, i1⟩ := Rd.field Tryz.underlying51 h hw 1 rfl (sz := 1) (by kernel_rfl) (Rd.i64 Tryz.underlying3)
  obtain ⟨l, h2, i2⟩ := Rd.field Tryz.underlying51 h hw 2 rfl (sz := 1) (by kernel_rfl) (Rd.i64 Tryz.underlying3)
  obtain ⟨dst, h3, i3⟩ := Rd.field Tryz.underlying51 h hw 3 rfl (sz := 1) (by kernel_rfl) (Rd.i64 Tryz.underlying3)
  obtain ⟨as', A, c, h4, i4⟩ := Rd.field Tryz.underlying51 h hw 4 rfl (sz := 1) (by kernel_rfl) rd_ints
  obtain ⟨im, h5, i5⟩ := Rd.field Tryz.underlying51 h hw 5 rfl (sz := 1) (by kernel_rfl) (Rd.u64 Tryz.underlying49)
  refine ⟨hl, ⟨k, b, l, dst, as', im⟩, A, c, ?_, i4, i0, i1, i2, i3, i5⟩
  match cs, hl with
  | [c0, c1, c2, c3, c4, c5], _ =>
    simp at h0 h1 h2 h3 h4 h5
    rw [h0, h1, h2, h3, h4, h5]
theorem rd_phi : Rd Tryz.prog W 61 rPhi 4 := fun H enc fuel cs d ps h hw => by
  have hl := (Rd.parts Tryz.underlying61 h hw).1
  rw [show Tryz.prog.cellsOf 61 = 4 by kernel_rfl] at hl
  obtain ⟨k, h0, i0⟩ := Rd.field Tryz.underlying61 h hw 0 rfl (sz := 1) (by kernel_rfl) (Rd.i64 Tryz.underlying3)
  obtain ⟨b, h1, i1⟩ := Rd.field Tryz.underlying61 h hw 1 rfl (sz := 1) (by kernel_rfl) (Rd.i64 Tryz.underlying3)
  obtain ⟨fr, A, c, h2, i2⟩ := Rd.field Tryz.underlying61 h hw 2 rfl (sz := 1) (by kernel_rfl) rd_ints
  obtain ⟨ar, A', c', h3, i3⟩ := Rd.field Tryz.underlying61 h hw 3 rfl (sz := 1) (by kernel_rfl) rd_ints
  refine ⟨hl, ⟨k, b, fr, ar⟩, A, c, A', c', ?_, i2, i3, i0, i1⟩
  match cs, hl with
  | [c0, c1, c2, c3], _ =>
    simp at h0 h1 h2 h3
    rw [h0, h1, h2, h3]
def rEnd : Rep FEnd := fun m es e => ∃ A c, es = [.int .i64 e.kind, .int .i64 e.arg, .slice A e.to.length c] ∧ Ints m A c e.to ∧ I64 e.kind ∧ I64 e.arg
theorem rd_end : Rd Tryz.prog W 42 rEnd 3 := fun H enc fuel cs d ps h hw => by
  have hl := (Rd.parts Tryz.underlying42 h hw).1
  rw [show Tryz.prog.cellsOf 42 = 3 by kernel_rfl] at hl
  obtain ⟨k, h0, i0⟩ := Rd.field Tryz.underlying42 h hw 0 rfl (sz := 1) (by kernel_rfl) (Rd.i64 Tryz.underlying3)
  obtain ⟨b, h1, i1⟩ := Rd.field Tryz.underlying42 h hw 1 rfl (sz := 1) (by kernel_rfl) (Rd.i64 Tryz.underlying3)
  obtain ⟨to, A, c, h2, i2⟩ := Rd.field Tryz.underlying42 h hw 2 rfl (sz := 1) (by kernel_rfl) rd_ints
  refine ⟨hl, ⟨k, b, to⟩, A, c, ?_, i2, i0, i1⟩
  match cs, hl with
  | [c0, c1, c2], _ =>
    simp at h0 h1 h2
    rw [h0, h1, h2]
theorem rd_block : Rd Tryz.prog W 44 rBlock 5 := fun H enc fuel cs d ps h hw => by
  have hl := (Rd.parts Tryz.underlying44 h hw).1
  rw [show Tryz.prog.cellsOf 44 = 5 by kernel_rfl] at hl
  obtain ⟨ph, A, c, h0, i0⟩ := Rd.field Tryz.underlying44 h hw 0 rfl (sz := 1) (by kernel_rfl) (Rd.slice Tryz.underlying39 (sz := 4) (by kernel_rfl) (by kernel_rfl) rd_phi)
  obtain ⟨os, A', c', h1, i1⟩ := Rd.field Tryz.underlying44 h hw 1 rfl (sz := 1) (by kernel_rfl) (Rd.slice Tryz.underlying40 (sz := 6) (by kernel_rfl) (by kernel_rfl) rd_op)
  obtain ⟨e, A'', c'', h2, i2, i3, i4⟩ := Rd.field Tryz.underlying44 h hw 2 rfl (sz := 3) (by kernel_rfl) rd_end
  refine ⟨hl, ⟨ph, os, e⟩, A, c, A', c', A'', c'', ?_, i0, i1, i2, i3, i4⟩
  match cs, hl with
  | [c0, c1, c2, c3, c4], _ =>
    simp at h0 h1 h2
    rw [h0, h1, h2.1, h2.2.1, h2.2.2]
theorem rd_func : Rd Tryz.prog W 25 rFunc 3 := fun H enc fuel cs d ps h hw => by
  have hl := (Rd.parts Tryz.underlying25 h hw).1
  rw [show Tryz.prog.cellsOf 25 = 3 by kernel_rfl] at hl
  obtain ⟨ps', A, c, h0, i0⟩ := Rd.field Tryz.underlying25 h hw 0 rfl (sz := 1) (by kernel_rfl) rd_ints
  obtain ⟨r, h1, i1⟩ := Rd.field Tryz.underlying25 h hw 1 rfl (sz := 1) (by kernel_rfl) (Rd.i64 Tryz.underlying3)
  obtain ⟨bs, A', c', h2, i2⟩ := Rd.field Tryz.underlying25 h hw 2 rfl (sz := 1) (by kernel_rfl) (Rd.slice Tryz.underlying23 (sz := 5) (by kernel_rfl) (by kernel_rfl) rd_block)
  refine ⟨hl, ⟨ps', r, bs⟩, A, c, A', c', ?_, i0, i2, i1⟩
  match cs, hl with
  | [c0, c1, c2], _ =>
    simp at h0 h1 h2
    rw [h0, h1, h2]
structure FAsk where
  block : Int
  at_ : Int
  order : List Int
def rAsk : Rep FAsk := fun m es a => ∃ A c, es = [.int .i64 a.block, .int .i64 a.at_, .slice A a.order.length c] ∧ Ints m A c a.order ∧ I64 a.block ∧ I64 a.at_
theorem rd_ask : Rd Tryz.prog W 27 rAsk 3 := fun H enc fuel cs d ps h hw => by
  have hl := (Rd.parts Tryz.underlying27 h hw).1
  rw [show Tryz.prog.cellsOf 27 = 3 by kernel_rfl] at hl
  obtain ⟨k, h0, i0⟩ := Rd.field Tryz.underlying27 h hw 0 rfl (sz := 1) (by kernel_rfl) (Rd.i64 Tryz.underlying3)
  obtain ⟨b, h1, i1⟩ := Rd.field Tryz.underlying27 h hw 1 rfl (sz := 1) (by kernel_rfl) (Rd.i64 Tryz.underlying3)
  obtain ⟨to, A, c, h2, i2⟩ := Rd.field Tryz.underlying27 h hw 2 rfl (sz := 1) (by kernel_rfl) rd_ints
  refine ⟨hl, ⟨k, b, to⟩, A, c, ?_, i2, i0, i1⟩
  match cs, hl with
  | [c0, c1, c2], _ =>
    simp at h0 h1 h2
    rw [h0, h1, h2]
theorem arg_struct {P : Program} {t : TypeId} {fs : Array Field} {α : Type} {r : Rep α} {sz : Nat} {H : Type} {enc : TypeId × Value → H} {v : Value} {d : DataW H} {ps : List MemPlace} {rr : Reach} {b0 : Nat} (ht : P.underlying t = some (.struct fs)) (hv : Value.okWide P W rr b0 t v) (hd : DataW.Trod enc P W 0 (fun _ => true) true t v d ps) (hw : Wt P t d) (hR : Rd P W t r sz) :
    ∃ es z, v = .agg es.toArray ∧ r (memOf W) es z := by
  obtain ⟨cs, rfl, _⟩ := okWide_struct ht hv
  obtain ⟨fuel, hf⟩ := hd
  obtain ⟨_, z, hz⟩ := hR H enc fuel _ d ps hf hw
  exact ⟨_, z, by simp [Value.cells], hz⟩
theorem trod_places {P : Program} {t : TypeId} {H : Type} {enc : TypeId × Value → H} {v : Value} {d : DataW H} {ps : List MemPlace} (hd : DataW.Trod enc P W 0 (fun _ => true) true t v d ps) : ∀ x ∈ ps, x.block < W.heap.size := by
  obtain ⟨m, hm⟩ := hd; exact DataW.trod_lt m _ _ _ hm
theorem lawOwn : ownKnob Tryz.prog.godebug = none := by kernel_rfl
theorem lawLaidOut : laidOutB Tryz.prog = true := by kernel_rfl
end
end Go.Proofs.YtipmgkhjoekaaaaGreat

