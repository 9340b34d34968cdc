/- A part of a proof about a given program: rules, plain functions and walks. -/
import Derived.Shelf.SlIterI.Sorted
import Derived.RangeFuncBox
import Derived.RangeFuncLeaves
import Derived.Shelf.Abstract
import Derived.WalkKit
import Derived.OwnWalkIn
import Derived.TacticsInMore
import Derived.LoopNIn
import Derived.LoopIn
import Derived.Test.YtipmgkhjoekaaaaGreatYc
set_option linter.unusedVariables false
set_option linter.unusedSimpArgs false
namespace Go.Proofs
open Go.RowKit Go.Maps Go.Sort Go.Shelf
attribute [local go_sem] Oper.semAt_some
def Tryz.zi6_ren : Go.Shelf.Ren := ⟨fun | 6 => 102 | 8 => 131 | 9 => 84 | 11 => 180 | n => n, fun | 26 => 3 | 28 => 121 | 24 => 22 | 0 => 0 | 3 => 3 | 4 => 4 | 33 => 48 | n => n, fun | n => n⟩
theorem Tryz.zi6 : SlLaysZI.n6 Tryz.prog Tryz.zi6_ren := {
  mixed := by kernel_rfl
  f6 := ⟨Tryz.f102.name, by decide, Tryz.func102.trans (congrArg some (by kernel_rfl))⟩
  f8 := ⟨Tryz.f131.name, by decide, Tryz.func131.trans (congrArg some (by kernel_rfl))⟩
  f11 := ⟨Tryz.f180.name, by decide, Tryz.func180.trans (congrArg some (by kernel_rfl))⟩
  t0 := Tryz.underlying0
  a0 := Tryz.isAgg0
  z0 := Tryz.sizeOf0
  v0 := Tryz.zeroValue0
  t24 := Tryz.underlying22
  a24 := Tryz.isAgg22
  z24 := Tryz.sizeOf22
  v24 := Tryz.zeroValue22
  t26 := Tryz.underlying3
  a26 := Tryz.isAgg3
  z26 := Tryz.sizeOf3
  v26 := Tryz.zeroValue3
  t28 := Tryz.underlying121
  a28 := Tryz.isAgg121
  z28 := Tryz.sizeOf121
  v28 := Tryz.zeroValue121
  i26 := by kernel_rfl }
set_option maxRecDepth 100000 in
set_option maxHeartbeats 2000000 in
theorem Tryz.values1_in (F : Fence) (n : Nat) (hf : F.fn 132) (hro : F.round = none) (hn : 1 ≤ n) (l Bs n₀ b off len cap : Nat) (zs : List Int) (hz : zs.length = len) (hr : len ≤ 1000000) (hb : b < n₀) (hBn : Bs < n₀) (W0 : World) (J : List Int → World → Prop)
    (hJB : ∀ s W', J s W' → Below n₀ W0 W')
    (hY : ∀ pre x W, J pre W → pre.length < len → YieldAt F (n - 1) Tryz.prog l #[.int .i64 x] W fun e W' => e = .returned (.bool true) ∧ J (pre ++ [x]) W' ∧ KeepsWalks W W')
    (W : World) (hBs : W0.cell? ⟨Bs, 0, none⟩ = some (.slice (some ⟨b, off, none⟩) len cap)) (hc : ∀ j, j < len → W0.cell? ⟨b, off + j, none⟩ = some (.int .i64 (zs[j]?.getD 0))) (h0 : J [] W) :
    CallsIn F n Tryz.prog 132 #[.func (.yield l) #[] #[], .pointer (some ⟨Bs, 0, none⟩)] W fun e W' => (∃ v, e = .returned v) ∧ J zs W' := by
  have hBs' : W.cell? ⟨Bs, 0, none⟩ = some (.slice (some ⟨b, off, none⟩) len cap) := ((hJB _ _ h0).cell (p := ⟨Bs, 0, none⟩) hBn).trans hBs
  refine callsIn_of_wp Tryz.func132 rfl hf ?_ hro
  simp only [Tryz.ntmps132, List.size_toArray, List.length_cons, List.length_nil, Nat.reduceAdd, Nat.reduceSub, Array.replicate_succ, Array.replicate_zero, List.push_toArray, List.append_toArray, List.nil_append, List.cons_append]
  gi_wp2
  gi_loopw [7] (fun i wr => ∃ k : Nat, k ≤ len ∧ i = .int .i64 k ∧ J (zs.take k) wr)
    (fun i _ => len - (intOf i).toNat)
  case atStart => exact ⟨0, Nat.zero_le _, rfl, by simpa using h0⟩
  case round =>
    obtain ⟨k, hk, rfl, hJs⟩ := hrel
    have hnx := hJB _ _ hJs
    have hcx : k < len → wr.cell? ⟨b, off + k, none⟩ = some (.int .i64 (zs[k]?.getD 0)) := fun h => (hnx.cell (p := ⟨b, off + k, none⟩) hb).trans (hc k h)
    by_cases hlt : k < len
    · obtain ⟨z, hzk⟩ : ∃ z, zs[k]?.getD 0 = z := ⟨_, rfl⟩
      have hcx' := hcx hlt
      rw [hzk] at hcx'
      obtain ⟨fn, tmps, assign, body, hy, hR⟩ := hY _ z wr hJs (by rw [List.length_take]; omega)
      have hnext : zs.take (k + 1) = zs.take k ++ [z] := by
        rw [List.take_add_one, List.getElem?_eq_getElem (by omega)]
        rw [List.getElem?_eq_getElem (by omega)] at hzk
        simp only [Option.getD_some] at hzk
        simp [hzk]
      clear hzk hcx
      gi_wp2
      refine hR.mono ?_
      rintro e W3 ⟨rfl, hJ3, hk3⟩
      gi_wp2
      go_roundw
      case rel =>
        exact ⟨k + 1, by omega, by simp, by rw [hnext]; exact hJ3⟩
      case measure => simp [intOf]; omega
    · obtain rfl : k = len := by omega
      gi_wp2
      go_end0
      exact ⟨⟨_, rfl⟩, by rwa [← hz, List.take_length] at hJs⟩
set_option maxRecDepth 100000 in
set_option maxHeartbeats 1000000 in
theorem Tryz.values0_in (F : Fence) (n : Nat) (hf : F.fn 132) (hro : F.round = none) (l Bs : Nat) (a : Option Addr) (cap : Nat) (J : List Int → World → Prop) (W : World) (hBs : W.cell? ⟨Bs, 0, none⟩ = some (.slice a 0 cap)) (h0 : J [] W) :
    CallsIn F n Tryz.prog 132 #[.func (.yield l) #[] #[], .pointer (some ⟨Bs, 0, none⟩)] W fun e W' => (∃ v, e = .returned v) ∧ J [] W' := by
  refine callsIn_of_wp Tryz.func132 rfl hf ?_ hro
  simp only [Tryz.ntmps132, List.size_toArray, List.length_cons, List.length_nil, Nat.reduceAdd, Nat.reduceSub, Array.replicate_succ, Array.replicate_zero, List.push_toArray, List.append_toArray, List.nil_append, List.cons_append]
  gi_wp2
  gi_loopw [7] (fun i wr => i = .int .i64 0 ∧ J [] wr) (fun _ _ => 0)
  case atStart => exact ⟨rfl, h0⟩
  case round =>
    obtain ⟨rfl, hJs⟩ := hrel
    gi_wp2
    go_end0
    exact ⟨⟨_, rfl⟩, hJs⟩
structure Tryz.Boxed (w : World) (Bs : Nat) (a : Option Addr) (cap : Nat) (zs : List Int) : Prop where
  lt : Bs < w.heap.size
  box : w.cell? ⟨Bs, 0, none⟩ = some (.slice a zs.length cap)
  elems : zs = [] ∨ ∃ b off, a = some ⟨b, off, none⟩ ∧ b < w.heap.size ∧ ∀ j, j < zs.length → w.cell? ⟨b, off + j, none⟩ = some (.int .i64 (zs[j]?.getD 0))
theorem Tryz.values_in (F : Fence) (n : Nat) (hf : F.fn 132) (hro : F.round = none) (hn : 1 ≤ n) (l Bs : Nat) (a : Option Addr) (cap : Nat) (zs : List Int) (hr : zs.length ≤ 1000000) (w : World) (hB : Tryz.Boxed w Bs a cap zs) (J : List Int → World → Prop)
    (hJB : ∀ s W', J s W' → Below w.heap.size w W')
    (hY : ∀ pre x W, J pre W → pre.length < zs.length → YieldAt F (n - 1) Tryz.prog l #[.int .i64 x] W fun e W' => e = .returned (.bool true) ∧ J (pre ++ [x]) W' ∧ KeepsWalks W W')
    (W : World) (h0 : J [] W) : CallsIn F n Tryz.prog 132 #[.func (.yield l) #[] #[], .pointer (some ⟨Bs, 0, none⟩)] W fun e W' => (∃ v, e = .returned v) ∧ J zs W' := by
  rcases hB.elems with rfl | ⟨b, off, rfl, hb, hc⟩
  · exact Tryz.values0_in F n hf hro l Bs a cap J W (((hJB _ _ h0).cell (p := ⟨Bs, 0, none⟩) hB.lt).trans hB.box) h0
  · exact Tryz.values1_in F n hf hro hn l Bs w.heap.size b off zs.length cap zs rfl hr hb hB.lt w J hJB hY W hB.box hc h0
set_option maxRecDepth 100000 in
set_option maxHeartbeats 2000000 in
theorem Tryz.appendValues_in (F : Fence) (n : Nat) (h11 : F.fn 180) (hf : F.fn 132) (hro : F.round = none) (hn : 3 ≤ n) (Bs : Nat) (a : Option Addr) (cap : Nat) (zs : List Int) (hr : zs.length ≤ 1000000) (w : World) (hB : Tryz.Boxed w Bs a cap zs) :
    CallsIn F n Tryz.prog 180 #[.slice none 0 0, .func (.func 132) #[] #[.pointer (some ⟨Bs, 0, none⟩)]] w fun e w' => ∃ (v : Value), e = .returned v ∧ w'.ownsRow w.heap.size 3 1 v zs.length (zs.map encZ) ∧ (v = .slice none 0 0 ↔ zs = []) ∧ Below w.heap.size w w' := by
  have h1 : 1 ≤ n := by omega
  have hne : (22 : Nat) ≠ 3 := by decide
  have L := Tryz.zi6
  have mixed := L.mixed; have t0 := L.t0; have a0 := L.a0; have z0 := L.z0; have v0 := L.v0; have t24 := L.t24; have a24 := L.a24; have z24 := L.z24; have v24 := L.v24; have t26 := L.t26; have a26 := L.a26; have z26 := L.z26; have v26 := L.v26; have t28 := L.t28; have a28 := L.a28; have z28 := L.z28; have v28 := L.v28
  have eg : ∀ args w, (callFunc 132 args).run Tryz.prog w = .ok (.enter 132 args) w := enters_of Tryz.func132 (by kernel_rfl) rfl
  generalize hlb : (#[.pointer (some ⟨Bs, 0, none⟩)] : Array Value) = lb
  refine callsIn_of_wp_marks Tryz.func180 rfl h11 ?_ hro
  simp only [Tryz.ntmps180, List.size_toArray, List.length_cons, List.length_nil, Nat.reduceAdd, Nat.reduceSub, Array.replicate_succ, Array.replicate_zero, List.push_toArray, List.append_toArray, List.nil_append, List.cons_append]
  gi_wp2
  refine wpIn_rangeFunc ?_
  intro fn hfn
  rw [hro]
  obtain ⟨W0, hW0⟩ : ∃ W0, w.alloc (.cells #[.slice none 0 0] 22) = W0 := ⟨_, rfl⟩
  have hs0 : W0.heap.size = w.heap.size + 1 := by rw [← hW0]; simp
  have hv0 : W0.heap[w.heap.size]? = some (.cells #[.slice none 0 0] 22 (0, 0)) := by rw [← hW0]; exact World.alloc_heap_new w _
  have hb0 : Below w.heap.size w W0 := by rw [← hW0]; exact (Below.refl _ w).alloc (Nat.le_refl _) _
  rw [hW0]
  obtain ⟨W1, hW1⟩ : ∃ W1, (W0.alloc (.deferred (some []))).alloc (.loop (AnyZI.apRec Tryz.zi6_ren fn (.func (.func 132) #[] lb) w.heap.size W0.heap.size .ready none)) = W1 := ⟨_, rfl⟩
  have hold : ∀ k, k < W0.heap.size → W1.heap[k]? = W0.heap[k]? := fun k hk => by
    rw [← hW1]; exact (Below.heap_alloc _ _ k (by simp; omega)).trans (Below.heap_alloc _ _ k hk)
  have hb1 : Below w.heap.size w W1 := by rw [← hW1]; exact (hb0.alloc hb0.size _).alloc (by have := hb0.size; simp; omega) _
  have hs1 : W1.heap.size = W0.heap.size + 2 := by rw [← hW1]; simp
  have hM : AnyZI.ApAt Tryz.zi6_ren w fn (.func (.func 132) #[] lb) w.heap.size (W0.heap.size + 1) W0.heap.size [] W1 :=
    ⟨⟨_, (hold w.heap.size (by omega)).trans hv0, ⟨rfl, .inl ⟨rfl, rfl⟩⟩, by simp⟩,
     by rw [← hW1]; have := World.alloc_heap_new (W0.alloc (.deferred (some []))) (.loop (AnyZI.apRec Tryz.zi6_ren fn (.func (.func 132) #[] lb) w.heap.size W0.heap.size .ready none)); rwa [World.size_alloc] at this,
     by rw [← hW1]; exact (Below.heap_alloc _ _ _ (by simp)).trans (World.alloc_heap_new W0 _), hb1⟩
  refine ⟨W0.heap.size + 1, [{ target := .collected W0.heap.size, args := #[] }], W1, { target := .fn (.func 132) lb, args := #[.func (.yield (W0.heap.size + 1)) #[] #[]] }, W1, 132,
    #[.func (.yield (W0.heap.size + 1)) #[] #[]] ++ lb, W1, ?_, ?_, ?_, ?_, fun _ => h1, ?_⟩
  · rw [← hW1]; exact run_enterLoop_outer _ _ _ _ _
  · simp [resolve, go_sem]
  · intro f' hf'; simp [Target.leads] at hf'; subst hf'; exact hf
  · simp [invoke, go_sem, eg]
  · subst hlb
    refine (Tryz.values_in F (n - 1) hf hro (by omega) (W0.heap.size + 1) Bs a cap zs hr w hB (AnyZI.ApAt Tryz.zi6_ren w fn (.func (.func 132) #[] #[.pointer (some ⟨Bs, 0, none⟩)]) w.heap.size (W0.heap.size + 1) W0.heap.size) (fun s W' h => h.below)
      (fun pre x W hJ hl => AnyZI.apYield { L with } F (n - 1 - 1) w fn hfn _ w.heap.size (W0.heap.size + 1) W0.heap.size (by omega) (by omega) (by omega) (Nat.le_refl _) (by omega) zs.length (by unfold maxLen; omega) (by omega) pre x W hJ hl) W1 hM).mono ?_
    rintro e W2 ⟨⟨v0, rfl⟩, h2⟩
    obtain ⟨v, hv, hrow, hnil⟩ := h2.box
    have hend := run_endLoop (P := Tryz.prog) h2.L (by simp [AnyZI.apRec])
    obtain ⟨W3, hW3⟩ : ∃ W3, W2.putObj (W0.heap.size + 1) (.loop { AnyZI.apRec Tryz.zi6_ren fn (.func (.func 132) #[] #[.pointer (some ⟨Bs, 0, none⟩)]) w.heap.size W0.heap.size .ready none with state := .exhausted }) = W3 := ⟨_, rfl⟩
    rw [hW3] at hend
    have hg3 : W2.grownBy W3 (some (W0.heap.size + 1)) := by rw [← hW3]; exact grownBy_putObj_a _ _ _
    have hv3 : W3.heap[w.heap.size]? = some (.cells #[v] 22 (0, 0)) := by rw [← hW3]; exact (World.putObj_heap_other (by omega)).trans hv
    have hK3 : W3.heap[W0.heap.size]? = some (.deferred (some [])) := by rw [← hW3]; exact (World.putObj_heap_other (by omega)).trans h2.K
    have hrow3 := hrow.kept hg3 (ownsRow_ne_a hrow h2.L (fun cur e => by first | cases e | exact hne (Obj.cells.inj e).2.1))
    have hb3 : Below w.heap.size w W3 := h2.below.grown hg3 h2.below.size (fun k e => by cases e; omega)
    obtain ⟨hc3, hf3⟩ := cell_of_box_a hv3
    clear hW3
    refine ⟨none, W3, hend, ?_⟩
    gi_wp2
    rw [← hs0]
    refine ⟨by simp, .inl ⟨_, _, rfl, run_takeDeferred hK3, ?_⟩⟩
    exact ⟨_, results_tmp rfl _ _ _, v, rfl, hrow3.kept (grownBy_putObj_a _ _ _) (ownsRow_ne_a hrow3 hK3 (fun cur e => by first | cases e | exact hne (Obj.cells.inj e).2.1)), hnil, hb3.grown (grownBy_putObj_a _ _ _) hb3.size (fun k e => by cases e; omega)⟩
set_option maxHeartbeats 1000000 in
theorem Tryz.collectValues_in (Bs : Nat) (a : Option Addr) (cap : Nat) (zs : List Int) (hr : zs.length ≤ 1000000) (w : World) (hB : Tryz.Boxed w Bs a cap zs) :
    CallsIn Fence.wide 4 Tryz.prog 131 #[.func (.func 132) #[] #[.pointer (some ⟨Bs, 0, none⟩)]] w fun e w' => ∃ (v : Value), e = .returned v ∧ w'.ownsRow w.heap.size 3 1 v zs.length (zs.map encZ) ∧ (v = .slice none 0 0 ↔ zs = []) ∧ Below w.heap.size w w' := by
  have h1 : 1 ≤ 4 := by omega
  have e180 : ∀ args w, (callFunc 180 args).run Tryz.prog w = .ok (.enter 180 args) w := enters_of Tryz.func180 (by kernel_rfl) rfl
  have hf180 : Fence.wide.fn 180 := trivial
  have cA := Tryz.appendValues_in Fence.wide 3 trivial trivial rfl (by omega) Bs a cap zs hr w hB
  refine callsIn_of_wp Tryz.func131 rfl trivial ?_ rfl
  simp only [Tryz.ntmps131, List.size_toArray, List.length_cons, List.length_nil, Nat.reduceAdd, Nat.reduceSub, Array.replicate_succ, Array.replicate_zero, List.push_toArray, List.append_toArray, List.nil_append, List.cons_append]
  gi_wp2_with (gi_at_call 180; refine cA.mono ?_; rintro e w' ⟨v, rfl, hrow, hnil, hb⟩)
  go_ret
  exact ⟨v, rfl, hrow, hnil, hb⟩
set_option maxHeartbeats 1000000 in
theorem Tryz.sortedValues (Bs : Nat) (a : Option Addr) (cap : Nat) (zs : List Int) (hr : zs.length ≤ 1000000) (w : World) (hB : Tryz.Boxed w Bs a cap zs) :
    Calls Tryz.prog 102 #[.func (.func 132) #[] #[.pointer (some ⟨Bs, 0, none⟩)]] w fun e w' => ∃ (v : Value), e = .returned v ∧ w'.ownsRow w.heap.size 3 1 v zs.length ((zs.mergeSort fun x y => decide (x ≤ y)).map encZ) ∧ Below w.heap.size w w' := by
  refine (callsIn_wide (n := 5)).1 ?_
  have h1 : 1 ≤ 5 := by omega
  have e131 : ∀ args w, (callFunc 131 args).run Tryz.prog w = .ok (.enter 131 args) w := enters_of Tryz.func131 (by kernel_rfl) rfl
  have e84 : ∀ args w, (callFunc 84 args).run Tryz.prog w = .ok (.enter 84 args) w := enters_of Tryz.func84 (by kernel_rfl) rfl
  have hf131 : Fence.wide.fn 131 := trivial
  have hf84 : Fence.wide.fn 84 := trivial
  have cC := Tryz.collectValues_in Bs a cap zs hr w hB
  refine callsIn_of_wp Tryz.func102 rfl trivial ?_ rfl
  simp only [Tryz.ntmps102, List.size_toArray, List.length_cons, List.length_nil, Nat.reduceAdd, Nat.reduceSub, Array.replicate_succ, Array.replicate_zero, List.push_toArray, List.append_toArray, List.nil_append, List.cons_append]
  gi_wp2_with (gi_at_call 131; refine cC.mono ?_; rintro e W ⟨v, rfl, hrow, hnil, hb⟩)
  rcases hrow.2 with ⟨rfl, hz⟩ | ⟨gb, cap, cur, rfl, hbase, hgb, r1, r2, r3, r4⟩
  · have hss : zs = [] := List.eq_nil_of_length_eq_zero hz
    subst hss
    have cS : CallsIn Fence.wide 4 Tryz.prog 84 #[.slice none 0 0] W fun e w' => e = .returned (.tuple #[]) ∧ w' = W := callsIn_wide.2 (Tryz.slices_Sort_int_none none 0 W)
    gi_wp2_with (gi_at_call 84; refine cS.mono ?_; rintro e w' ⟨rfl, rfl⟩)
    go_ret
    exact ⟨.slice none 0 0, rfl, by simpa using hrow, hb⟩
  · have hH : Holds encZ W gb 0 zs.toArray := holds_of_block_i hgb (by simpa using r4)
    have hgl : gb < W.heap.size := (Array.getElem?_eq_some_iff.1 hgb).1
    have cS : CallsIn Fence.wide 4 Tryz.prog 84 #[.slice (some ⟨gb, 0, none⟩) zs.length cap] W fun e w' => e = .returned (.tuple #[]) ∧ ∃ n os, w' = grow (putRow encZ (Sort.ahead W n) gb 0 (zs.mergeSort fun x y => decide (x ≤ y)).toArray) os := callsIn_wide.2 (Tryz.slices_Sort_int gb 0 cap zs W hH hgl (by omega))
    gi_wp2_with (gi_at_call 84; refine cS.mono ?_; rintro e w' ⟨rfl, nn, os, rfl⟩)
    go_ret
    exact ⟨_, rfl, ownsRow_sorted_i (by simp) hbase hgb r1 r2 r3, hb.grown (grownBy_sorted_i _) hb.size (fun j hj => by cases hj; exact hbase)⟩
end Go.Proofs
set_option maxHeartbeats 200000000
namespace Go.Proofs.YtipmgkhjoekaaaaGreat
open Go Go.RowKit Go.Proofs Go.Proofs.YtipmgkhjoekaaaaGreat.Fw
attribute [local irreducible] Qt WL CW NX RX EX GX DL
namespace T
theorem hb100 : hasBody Tryz.prog 100 = true := by kernel_rfl
theorem hb101 : hasBody Tryz.prog 101 = true := by kernel_rfl
theorem hb102 : hasBody Tryz.prog 102 = true := by kernel_rfl
theorem hb103 : hasBody Tryz.prog 103 = true := by kernel_rfl
theorem hb85 : hasBody Tryz.prog 85 = true := by kernel_rfl
end T
theorem Compact_d {m : Imm} {g : Option Nat} {cap : Nat} {l : List Int} (hg : 0 < l.length → ∃ b, g = some b) (hl : l.length ≤ 1000000) : Does Tryz.prog 85 [slI g cap l] m [rowI 3 g cap l] (fun m' R' v => m' = m ∧ R' = [rowI 3 g cap (Lib.compact l)] ∧ v = slI g cap (Lib.compact l)) :=
  does_compact hg (fun b w hH _ hc => Tryz.slices_Compact_int b 0 cap l w hH (by omega) hc) (fun a w => Tryz.slices_Compact_int_empty a cap w)
theorem Sorted_d {m : Imm} {A : Option Addr} {c b : Nat} {l : List Int} (h : Ints m A c l) (hl : l.length ≤ 1000000) : Does Tryz.prog 102 [.func (.func 132) #[] #[.pointer (some ⟨b, 0, none⟩)]] m [bx b 22 [.slice A l.length c]] (fun m' R' v => m' = m ∧ ∃ g cap, (0 < (l.mergeSort fun x y => decide (x ≤ y)).length → ∃ b, g = some b) ∧ R' = [rowI 3 g cap (l.mergeSort fun x y => decide (x ≤ y))] ∧ v = slI g cap (l.mergeSort fun x y => decide (x ≤ y))) :=
  does_new fun w hp => by
    obtain ⟨h1, h2, h3⟩ := boxed_of hp h
    have := Tryz.sortedValues b A c l hl w ⟨h1, h2, h3⟩
    rw [List.length_mergeSort]
    exact this
theorem Values_d {m : Imm} {A : Option Addr} {n c : Nat} : Does Tryz.prog 103 [.slice A n c] m ([]) (fun m' R' v => m' = m ∧ ∃ b, R' = [bx b 22 [.slice A n c]] ∧ v = .func (.func 132) #[] #[.pointer (some ⟨b, 0, none⟩)]) := by
 refine does_of Tryz.func103 rfl Tryz.ntmps103 rfl (fun w => ?_)
 refine sq (rg ?_)
 refine S_box (l := [_]) rfl rfl rfl (fun b1 => ?_)
 refine as_ ?_
 refine wn (kk2 [1,2] (sq (rg ?_)))
 refine W_q (r_makeFunc (first := []) (cap := [_]) rfl rfl) rfl ?_
 refine as_ ?_
 refine wn (kk1 [2] ?_)
 exact C_ret (RX_d1 rfl rfl (List.Sublist.refl _) ⟨rfl, b1, rfl, rfl⟩)
theorem Of_g {m : Imm} {es : List Value} {f : FFun} (hF : rFunc m es f) : Gives Tryz.prog 65 [.agg es.toArray] m (GraphΦ (ofP f)) := by
 have hF_0 := hF
 obtain ⟨A90, c90, B90, d90, rfl, hq90, hb90, i90a⟩ := hF_0
 have hbl := hb90.len
 refine gives_of Tryz.func65 rfl Tryz.ntmps65 rfl (fun w => ?_)
 refine sq (rg ?_)
 refine S_box (l := [_, _, _]) rfl rfl rfl (fun b1 => ?_)
 refine sa2 T.ze79 (fun b2 => ?_)
 refine as_ ?_
 refine wn (kk3 [1,2,3] (sq (rg ?_)))
 refine fb 2 T.fo25_2 (lb 1 T.ag23 (ln Tryz.underlying23 ?_))
 refine sa1 T.ze3 (fun b3 => ?_)
 refine sb1 0 T.sz3 ?_
 refine wn (kk4 [1,2,3,4] (sq (sq (rg ?_))))
 refine lb 0 T.ag3 (bg ?_)
 refine wn (kk5 [1,2,3,4,12] ?_)
 refine cd ?_ ?_ <;> intro h4 <;> try simp only [tt] at h4
 refine sq (rg ?_)
 refine W_q (r_builds (cs := [_, _]) T.bl79 rfl rfl) rfl ?_
 refine sb2 1 T.sz79 ?_
 refine as_ ?_
 refine wn (kk4 [1,2,3,4] ?_)
 refine C_ret (RX_then (RX_gR (res_ct 1 rfl rfl rfl T.ag79 T.sz79 rfl) ?_))
 rw [ofP_big (by omega)]
 exact ⟨_, rfl, _, _, _, _, rfl, Sl.nil _ _ _, Sl.nil _ _ _⟩
 refine sk (kk4 [1,2,3,4] (sq (rg ?_)))
 refine as_ ?_
 refine wn (kk5 [1,2,3,4,5] (sq (sq (rg ?_))))
 refine fb 2 T.fo25_2 (lb 2 T.ag23 (ln Tryz.underlying23 (mv ?_)))
 refine wn (kk7 [2,3,4,5,15,16,17] ?_)
 refine CW_nilRow 22 1 ?_
 refine CW_front 0 rfl rfl ?_
 refine C_rangeM (Option Nat × Nat × List Value) (f.blocks.length) (fun k5 mk5 x5 => m.le mk5 ∧ ((∀ j b, j < k5 → f.blocks[j]? = some b → badB f.blocks.length b = false) ∧ SlCells mk5 x5.2.2 ((f.blocks.take k5).map fun b => sortC b.fin.to))) (fun k5 x5 => [(5, .slice (rowA x5.1) k5 x5.2.1)]) (fun k5 x5 => [row x5.1 k5 x5.2.1 22 1 x5.2.2]) [5] [2, 4, 15] (F := [(2, _), (4, _), (15, _)]) ((none, 0, [])) rfl rfl (by omega) ⟨Imm.le_refl _, ⟨fun j b h => by omega, SlCells.nil _⟩⟩ rfl rfl rfl rfl rfl rfl rfl (fun _ _ => rfl) (fun _ _ => rfl) (fun k5 mk5 x5 hk5 hJ5 => ?_) (fun mk5 x5 hJ5 => ?_)
 obtain ⟨hle5, hJ5⟩ := hJ5
 replace hF := rFunc_mono _ _ _ _ hle5 hF
 replace hq90 := hq90.mono rI_mono hle5
 replace hb90 := hb90.mono rBlock_mono hle5
 obtain ⟨hJ1, hJ2⟩ := hJ5
 refine jj6 [2,4,5,15,16,17] (sq (rg ?_))
 obtain ⟨ad7, hA7⟩ := hb90.ad (j := k5) (by omega)
 obtain ⟨z7, hz7⟩ := hb90.getz (j := k5) (by omega)
 refine ixz hA7 Tryz.underlying23 T.sz44 ?_
 obtain ⟨es8, f8, _, l8⟩ := Sl.get hb90 hA7 hz7
 have F8 := f8
 obtain ⟨A8, c8, B8, d8, C8, e8, rfl, hp8, ho8, ht8, i8a, i8b⟩ := f8
 refine W_q (r_load_immk (vs := [_, _, _, _, _]) rfl T.ag44 T.sz44 l8) rfl ?_
 refine sa5 T.ze44 (fun b9 => ?_)
 refine sb5 0 T.sz44 ?_
 refine wn (kk7 [2,4,5,7,15,16,17] (sq (sq ?_)))
 refine C_drawn [(0, true), (1, true), (2, true), (3, true), (4, true), (5, true), (6, true), (7, true), (8, true), (9, true), (10, true), (11, true), (12, true), (13, true), (14, true), (15, true)] (by kernel_rfl) rfl (by kernel_rfl) (by kernel_rfl) ?_
 refine dfb 2 T.fo44_2 ?_
 refine dfb 2 T.fo42_0 ?_
 refine dlb 0 T.ag3 ?_
 refine D_quiet rfl (goes_q _) T.hb100 rfl rfl ?_
 refine dfb 2 T.fo44_2 ?_
 refine dfb 4 T.fo42_2 ?_
 refine dlb 0 T.ag22 ?_
 refine D_q rfl (r_len Tryz.underlying22 rfl) rfl ?_
 refine D_q rfl (r_bin rfl rfl (bin_neq _ _ _ _)) rfl ?_
 refine dmv ?_
 refine D_split (t := 30) rfl (fun h10 => ?_) (fun h10 => ?_)
 (try simp only [tt] at h10)
 refine dps ?_
 refine dps ?_
 refine dps ?_
 refine dps ?_
 refine dps ?_
 refine D_q rfl (r_pick_t rfl rfl) rfl ?_
 refine D_end ?_
 refine kk8 [2,4,5,7,15,16,17,36] ?_
 refine ctz (sq (rg ?_))
 refine W_q (r_builds (cs := [_, _]) T.bl79 rfl rfl) rfl ?_
 refine sb2 3 T.sz79 ?_
 refine as_ ?_
 refine wn (kk8 [2,3,4,5,7,15,16,17] ?_)
 refine C_ret (RX_then (RX_block (RX_then (RX_block (RX_then (RX_gR (res_ct 3 rfl rfl rfl T.ag79 T.sz79 rfl) ?_))))))
 rw [ofP_bad hz7 (by simp only [badB]; simp_all)]
 exact ⟨_, rfl, _, _, _, _, rfl, Sl.nil _ _ _, Sl.nil _ _ _⟩
 (try simp only [tt] at h10)
 refine D_qt rfl rfl rfl (r_fieldb (o' := 2) rfl T.fo44_2 rfl) rfl ?_
 refine D_qt rfl rfl rfl (r_fieldb (o' := 4) rfl T.fo42_2 rfl) rfl ?_
 refine D_qt rfl rfl rfl (r_loadb 0 rfl T.ag22 rfl rfl) rfl ?_
 refine D_qt rfl rfl rfl (r_makeFunc (first := []) (cap := [_]) rfl rfl) rfl ?_
 refine D_qt rfl rfl rfl (r_quietb 2 rfl (fun m' le hc => ContainsFuncI_q (ht8.mono rI_mono le) (p := fun k => decide (k < 1) || decide ((f.blocks.length : Int) ≤ k)) (K := 101) T.hb101 (fun z hz => Of1_q z (hc 0 _ rfl))) T.hb86 rfl) rfl ?_
 refine D_q rfl (r_pick_f rfl rfl) rfl ?_
 refine D_end ?_
 refine kk8 [2,4,5,7,15,16,17,36] ?_
 refine cd ?_ ?_ <;> intro h11 <;> try simp only [tt] at h11
 refine sq (rg ?_)
 refine W_q (r_builds (cs := [_, _]) T.bl79 rfl rfl) rfl ?_
 refine sb2 3 T.sz79 ?_
 refine as_ ?_
 refine wn (kk8 [2,3,4,5,7,15,16,17] ?_)
 refine C_ret (RX_then (RX_block (RX_then (RX_block (RX_then (RX_gR (res_ct 3 rfl rfl rfl T.ag79 T.sz79 rfl) ?_))))))
 rw [ofP_bad hz7 (by simp only [badB]; simp_all)]
 exact ⟨_, rfl, _, _, _, _, rfl, Sl.nil _ _ _, Sl.nil _ _ _⟩
 refine sk (kk7 [2,4,5,7,15,16,17] (rg ?_))
 refine mv (fb 2 T.fo44_2 (fb 4 T.fo42_2 ?_))
 have hgl := goes_len (n := f.blocks.length) (b := z7) (by simp only [badB]; simp_all)
 refine lb 0 T.ag22 ?_
 refine S_does (R0 := []) rfl Values_d T.hb103 rfl rfl (fun m12 R12 v12 le12 hR12 => ?_)
 obtain ⟨rfl, vb12, rfl, rfl⟩ := hR12
 refine S_does (R0 := [_]) rfl (Sorted_d ht8 (by have := ht8.len; omega)) T.hb102 rfl rfl (fun m13 R13 v13 le13 hR13 => ?_)
 obtain ⟨rfl, g13, c13, hg13, rfl, rfl⟩ := hR13
 refine S_does (R0 := [_]) rfl (Compact_d hg13 (by simp only [List.length_mergeSort]; omega)) T.hb85 rfl rfl (fun m14 R14 v14 le14 hR14 => ?_)
 obtain ⟨rfl, rfl, rfl⟩ := hR14
 refine WL_know (k_rowI 0 rfl) (fun hr14 => ?_)
 refine WL_freeze 0 rfl (fun _ h => h) (fun mf14 lef14 hf14 => ?_)
 replace hF := rFunc_mono _ _ _ _ lef14 hF
 replace hq90 := hq90.mono rI_mono lef14
 replace hb90 := hb90.mono rBlock_mono lef14
 replace F8 := rBlock_mono _ _ _ _ lef14 F8
 replace hp8 := hp8.mono rPhi_mono lef14
 replace ho8 := ho8.mono rOp_mono lef14
 replace ht8 := ht8.mono rI_mono lef14
 have h14 := Ints_frz hf14 hr14.1 hr14.2.1 (by have := sortC_len z7.fin.to; simp only [sortC] at this; omega) hr14.2.2 (sortC_i64 (Ints_all ht8))
 refine S_litr (vs := [_]) (cs := [_]) Tryz.underlying65 T.sz22 T.ze22 rfl rfl rfl rfl rfl rfl rfl (fun b15 => ?_)
 refine S_appendG [_] 2 rfl rfl rfl Tryz.underlying65 T.sz22 T.ze22 T.by22 rfl rfl rfl (.row 0 rfl) rfl (by omega) (by unfold maxLen; omega) rfl (fun g16 c16 hg16 => ?_)
 refine as_ ?_
 refine wn (nb (?_))
 refine NX_rngM [5, 2, 4, 15] ((_, _, _)) ⟨Imm.le_trans (hle5) lef14, ?_⟩ rfl (sub_drop 2 rfl) rfl
 refine ⟨fun j b h1 h2 => ?_, ?_⟩
 · by_cases e : j = k5
   · subst e; rw [hz7] at h2; cases h2; simp only [badB]; simp_all
   · exact hJ1 j b (by omega) h2
 · rw [take_map_succ hz7]
   exact (hJ2.mono (lef14)).snoc h14
 obtain ⟨hle5, hJ5⟩ := hJ5
 replace hF := rFunc_mono _ _ _ _ hle5 hF
 replace hq90 := hq90.mono rI_mono hle5
 replace hb90 := hb90.mono rBlock_mono hle5
 obtain ⟨hJa, hJb⟩ := hJ5
 refine NX_know (k_rowG 0 rfl) (fun hr17 => ?_)
 refine NX_freeze 0 rfl (fun _ h => h) (fun m17 le17 hf17 => ?_)
 replace hF := rFunc_mono _ _ _ _ le17 hF
 replace hq90 := hq90.mono rI_mono le17
 replace hb90 := hb90.mono rBlock_mono le17
 rw [List.take_of_length_le (Nat.le_refl _)] at hJb
 have h17 := (hJb.mono le17).sl hf17 (by rw [List.length_map]; exact hr17.2.1) hr17.2.2.1 (by rw [List.length_map]; omega) (by rw [List.length_map]; exact hr17.2.2.2)
 refine kk2 [2,5] (sq (rg ?_))
 refine mv ?_
 have hmk := Make_g h17
 rw [List.length_map] at hmk
 refine S_gives hmk T.hb104 rfl rfl (fun m18 v18 le18 hv18 => ?_)
 replace hF := rFunc_mono _ _ _ _ le18 hF
 replace hq90 := hq90.mono rI_mono le18
 replace hb90 := hb90.mono rBlock_mono le18
 replace h17 := h17.mono (rS_mono rI_mono) le18
 obtain ⟨_, rfl, A18, c18, B18, d18, rfl, h18, g18⟩ := hv18
 refine W_q (r_extract rfl rfl) rfl ?_
 refine W_q (r_extract rfl rfl) rfl ?_
 refine sb2 1 T.sz79 ?_
 refine as_ ?_
 refine wn (kk2 [2,3] ?_)
 refine C_ret (RX_gR (res_ct 1 rfl rfl rfl T.ag79 T.sz79 rfl) ?_)
 rw [ofP_ok (by omega) hJa]
 exact ⟨_, rfl, _, _, _, _, rfl, h18, g18⟩
namespace T
theorem ag99 : agg? Tryz.prog 99 = some false := by kernel_rfl
theorem fo139_0 : fld? Tryz.prog 139 0 = some (0, 3) := by kernel_rfl
theorem fo139_1 : fld? Tryz.prog 139 1 = some (3, 1) := by kernel_rfl
theorem hb153 : hasBody Tryz.prog 153 = true := by kernel_rfl
theorem hb154 : hasBody Tryz.prog 154 = true := by kernel_rfl
theorem hb155 : hasBody Tryz.prog 155 = true := by kernel_rfl
theorem hb156 : hasBody Tryz.prog 156 = true := by kernel_rfl
theorem hb157 : hasBody Tryz.prog 157 = true := by kernel_rfl
theorem hb158 : hasBody Tryz.prog 158 = true := by kernel_rfl
end T
theorem ofK_f1 {lev : Int} {o : FOp} (h : lev < 2) (h2 : 1 < o.lanes ∨ 20 < o.kind) : ofK lev o = false := by
  have : (decide (lev < 2) && (decide (1 < o.lanes) || decide (20 < o.kind))) = true := by simp [h, h2]
  simp only [ofK, this]; rfl
theorem ofK_f2 {lev : Int} {o : FOp} (h : lev < 1) (h2 : 17 < o.kind) : ofK lev o = false := by
  have : (decide (lev < 1) && decide (17 < o.kind)) = true := by simp [h, h2]
  simp only [ofK, this]; simp
theorem ofK_t {lev : Int} {o : FOp} (h : 2 ≤ lev ∨ (o.lanes ≤ 1 ∧ o.kind ≤ 20)) (h2 : 1 ≤ lev ∨ o.kind ≤ 17) : ofK lev o = mayOpK o := by
  have e1 : (decide (lev < 2) && (decide (1 < o.lanes) || decide (20 < o.kind))) = false := by
    rw [Bool.and_eq_false_iff, Bool.or_eq_false_iff, decide_eq_false_iff_not, decide_eq_false_iff_not, decide_eq_false_iff_not]; omega
  have e2 : (decide (lev < 1) && decide (17 < o.kind)) = false := by
    rw [Bool.and_eq_false_iff, decide_eq_false_iff_not, decide_eq_false_iff_not]; omega
  simp only [ofK, e1, e2]; simp
theorem any_all {α : Type _} {p : α → Bool} {l : List α} (h : (l.any fun x => !(p x)) = false) : l.all p = true :=
  List.all_eq_true.2 fun b hb => by simpa using List.any_eq_false.1 h b hb
theorem any_all' {α : Type _} {p : α → Bool} {l : List α} (h : (l.any fun x => !(p x)) = true) : l.all p = false := by
  obtain ⟨b, h1, h2⟩ := List.any_eq_true.1 h
  exact List.all_eq_false.2 ⟨b, h1, by simpa using h2⟩
theorem okTyped_t {lev : Int} {b : FBlk} (h1 : (b.phis.any fun p => !(mayW p.bits)) = false) (h2 : (b.ops.any fun o => !(ofK lev o)) = false) : okTyped lev b = true := by
  rw [okTyped, any_all (p := fun p : FPhi => mayW p.bits) h1, any_all h2]; rfl
theorem okTyped_f1 {lev : Int} {b : FBlk} (h : (b.phis.any fun p => !(mayW p.bits)) = true) : okTyped lev b = false := by
  rw [okTyped, any_all' (p := fun p : FPhi => mayW p.bits) h]; rfl
theorem okTyped_f2 {lev : Int} {b : FBlk} (h : (b.ops.any fun o => !(ofK lev o)) = true) : okTyped lev b = false := by
  rw [okTyped, any_all' h]; simp
theorem typedP_1 {f : FFun} {lev : Int} (h : mayW f.ret = false) : 6 = typedP f lev := by simp [typedP, h]
theorem typedP_2 {f : FFun} {lev : Int} (h : (f.params.any fun b => !(mayW b)) = true) : 6 = typedP f lev := by
  have : f.params.all mayW = false := by
    obtain ⟨b, h1, h2⟩ := List.any_eq_true.1 h
    exact List.all_eq_false.2 ⟨b, h1, by simpa using h2⟩
  simp [typedP, this]
theorem typedP_3 {f : FFun} {lev : Int} {k : Nat} {b : FBlk} (hk : f.blocks[k]? = some b) (h : okTyped lev b = false) : 6 = typedP f lev := by
  have : f.blocks.all (okTyped lev) = false := List.all_eq_false.2 ⟨b, List.mem_of_getElem? hk, by simp [h]⟩
  simp [typedP, this]
theorem typedP_0 {f : FFun} {lev : Int} (h1 : mayW f.ret = true) (h2 : (f.params.any fun b => !(mayW b)) = false) (h3 : ∀ j b, j < f.blocks.length → f.blocks[j]? = some b → okTyped lev b = true) : 0 = typedP f lev := by
  have e2 : f.params.all mayW = true := List.all_eq_true.2 fun b hb => by simpa using List.any_eq_false.1 h2 b hb
  have e3 : f.blocks.all (okTyped lev) = true := List.all_eq_true.2 fun b hb => by
    obtain ⟨j, hj⟩ := List.mem_iff_getElem?.1 hb
    exact h3 j b (List.getElem?_eq_some_iff.1 hj).1 hj
  simp [typedP, h1, e2, e3]
theorem scalar_q {m : Imm} (b : Int) : Quiet Tryz.prog 160 [.int .i64 b] m (.agg #[.int .i64 b, .int .i64 1]) := by
 refine quiet_of Tryz.func160 rfl Tryz.ntmps160 rfl (fun w => ?_)
 refine sq (rg ?_)
 refine sa2 T.ze71 (fun b1 => ?_)
 refine wn (kk2 [0,2] (sq (rg ?_)))
 refine mv ?_
 refine W_q (r_builda (zs := [_, _]) (cs := [_, _]) Tryz.underlying71 T.sz3 T.ze71 rfl rfl rfl) rfl ?_
 refine sb2 0 T.sz71 ?_
 refine wn (kk1 [2] ?_)
 exact C_ret (RX_qR (res_c 0 rfl rfl rfl T.ag71 T.sz71) rfl)
theorem of_q {m : Imm} {bc : Nat} {A : Option Addr} {c : Nat} {B : Option Addr} {d : Nat} {f : FFun} {lev : Int} {X4 X5 X6 X7 : Value} (hC : Lies m bc [.slice A f.params.length c, .int .i64 f.ret, .slice B f.blocks.length d, .int .i64 lev, X4, X5, X6, X7]) {es : List Value} {o : FOp} (hO : rOp m es o) : Quiet Tryz.prog 158 [.pointer (some ⟨bc, 0, none⟩), .agg es.toArray] m (.bool (ofK lev o)) := by
 have hO_0 := hO
 obtain ⟨A91, c91, rfl, h91, i91a, i91b, i91c, i91d, i91e⟩ := hO_0
 refine quiet_of Tryz.func158 rfl Tryz.ntmps158 rfl (fun w => ?_)
 refine sq (rg ?_)
 refine S_box (l := [_, _, _, _, _, _]) rfl rfl rfl (fun b1 => ?_)
 refine as_ ?_
 refine wn (kk3 [0,3,4] (sq (bk (sq (rg ?_)))))
 refine mv ?_
 refine W_q (r_nilCheck rfl) rfl ?_
 refine fb 3 T.fo139_1 ?_
 refine liz T.ag3 (hC 3 _ rfl) ?_
 refine bl (mv ?_)
 refine sp 11 ?_ ?_ <;> intro h2 <;> try simp only [tt] at h2
 refine tk (fb 2 T.fo51_2 ?_)
 refine tk (lb 0 T.ag3 ?_)
 refine tk (bg ?_)
 refine tk (mv ?_)
 refine sp 15 ?_ ?_ <;> intro h3 <;> try simp only [tt] at h3
 refine ps (ps (ps (tk (pt (pt (as_ ?_))))))
 refine wn (kk4 [0,3,4,5] ?_)
 refine ctz (sq (rg ?_))
 refine as_ ?_
 refine wn (kk2 [3,4] ?_)
 refine C_ret (RX_block (RX_then (RX_q1 rfl rfl ?_)))
 exact congrArg _ (ofK_f1 (by omega) (by omega)).symm
 refine tk (fb 0 T.fo51_0 ?_)
 refine tk (lb 0 T.ag3 ?_)
 refine tk (bg ?_)
 refine tk (pf (pt (as_ ?_)))
 refine wn (kk4 [0,3,4,5] ?_)
 refine cd ?_ ?_ <;> intro h4 <;> try simp only [tt] at h4
 refine sq (rg ?_)
 refine as_ ?_
 refine wn (kk2 [3,4] ?_)
 refine C_ret (RX_block (RX_then (RX_q1 rfl rfl ?_)))
 exact congrArg _ (ofK_f1 (by omega) (by omega)).symm
 refine sq (rg ?_)
 refine mv ?_
 refine W_q (r_nilCheck rfl) rfl ?_
 refine fb 3 T.fo139_1 ?_
 refine liz T.ag3 (hC 3 _ rfl) ?_
 refine bl (mv ?_)
 refine sp 27 ?_ ?_ <;> intro h5 <;> try simp only [tt] at h5
 refine tk (fb 0 T.fo51_0 ?_)
 refine tk (lb 0 T.ag3 ?_)
 refine tk (bg (pt (as_ ?_)))
 refine wn (kk3 [3,4,21] ?_)
 refine cd ?_ ?_ <;> intro h6 <;> try simp only [tt] at h6
 refine sq (rg ?_)
 refine as_ ?_
 refine wn (kk2 [3,4] ?_)
 refine C_ret (RX_block (RX_then (RX_q1 rfl rfl ?_)))
 exact congrArg _ (ofK_f2 (by omega) (by omega)).symm
 refine sk (nb (kk2 [3,4] (sq (rg ?_))))
 refine W_q (r_loadbk 0 (vs := [_, _, _, _, _, _]) rfl T.ag51 T.sz51 rfl rfl rfl) rfl ?_
 refine W_quiet (KMay_q hO) T.hb190 rfl rfl ?_
 refine as_ ?_
 refine wn (kk1 [4] ?_)
 refine C_ret (RX_q1 rfl rfl ?_)
 exact congrArg _ (ofK_t (by omega) (by omega)).symm
 refine ps (ps (ps ?_))
 refine pf (as_ ?_)
 refine wn (kk3 [3,4,21] ?_)
 refine cfz (sk (nb (kk2 [3,4] (sq (rg ?_)))))
 refine W_q (r_loadbk 0 (vs := [_, _, _, _, _, _]) rfl T.ag51 T.sz51 rfl rfl rfl) rfl ?_
 refine W_quiet (KMay_q hO) T.hb190 rfl rfl ?_
 refine as_ ?_
 refine wn (kk1 [4] ?_)
 refine C_ret (RX_q1 rfl rfl ?_)
 exact congrArg _ (ofK_t (by omega) (by omega)).symm
 refine ps (ps (ps (ps (puz (puz (puz (ps ?_)))))))
 refine pf (as_ ?_)
 refine wn (kk4 [0,3,4,5] ?_)
 refine cfz (sq (rg ?_))
 refine mv ?_
 refine W_q (r_nilCheck rfl) rfl ?_
 refine fb 3 T.fo139_1 ?_
 refine liz T.ag3 (hC 3 _ rfl) ?_
 refine bl (mv ?_)
 refine sp 27 ?_ ?_ <;> intro h7 <;> try simp only [tt] at h7
 refine tk (fb 0 T.fo51_0 ?_)
 refine tk (lb 0 T.ag3 ?_)
 refine tk (bg (pt (as_ ?_)))
 refine wn (kk3 [3,4,21] ?_)
 refine cd ?_ ?_ <;> intro h8 <;> try simp only [tt] at h8
 refine sq (rg ?_)
 refine as_ ?_
 refine wn (kk2 [3,4] ?_)
 refine C_ret (RX_block (RX_then (RX_q1 rfl rfl ?_)))
 exact congrArg _ (ofK_f1 (by omega) (by omega)).symm
 refine sk (nb (kk2 [3,4] (sq (rg ?_))))
 refine W_q (r_loadbk 0 (vs := [_, _, _, _, _, _]) rfl T.ag51 T.sz51 rfl rfl rfl) rfl ?_
 refine W_quiet (KMay_q hO) T.hb190 rfl rfl ?_
 refine as_ ?_
 refine wn (kk1 [4] ?_)
 refine C_ret (RX_q1 rfl rfl ?_)
 exact congrArg _ (ofK_t (by omega) (by omega)).symm
 refine ps (ps (ps ?_))
 refine pf (as_ ?_)
 refine wn (kk3 [3,4,21] ?_)
 refine cfz (sk (nb (kk2 [3,4] (sq (rg ?_)))))
 refine W_q (r_loadbk 0 (vs := [_, _, _, _, _, _]) rfl T.ag51 T.sz51 rfl rfl rfl) rfl ?_
 refine W_quiet (KMay_q hO) T.hb190 rfl rfl ?_
 refine as_ ?_
 refine wn (kk1 [4] ?_)
 refine C_ret (RX_q1 rfl rfl ?_)
 exact congrArg _ (ofK_t (by omega) (by omega)).symm
theorem typed1_q {m : Imm} (b : Int) : Quiet Tryz.prog 153 [.int .i64 b] m (.bool (!(mayW b))) := by
 refine quiet_of Tryz.func153 rfl Tryz.ntmps153 rfl (fun w => ?_)
 refine sq (rg ?_)
 refine as_ ?_
 refine wn (kk2 [0,2] (sq (rg ?_)))
 refine mv ?_
 refine W_quiet (May_q _) T.hb152 rfl rfl ?_
 refine nt (as_ ?_)
 refine wn (kk1 [2] ?_)
 refine C_ret (RX_q1 rfl rfl ?_)
 rfl
theorem typed2_q {m : Imm} {es : List Value} {p : FPhi} (hP : rPhi m es p) : Quiet Tryz.prog 155 [.agg es.toArray] m (.bool (!(mayW p.bits))) := by
 have hP_0 := hP
 obtain ⟨A92, c92, B92, d92, rfl, h92, g92, i92a, i92b⟩ := hP_0
 refine quiet_of Tryz.func155 rfl Tryz.ntmps155 rfl (fun w => ?_)
 refine sq (rg ?_)
 refine S_box (l := [_, _, _, _]) rfl rfl rfl (fun b1 => ?_)
 refine as_ ?_
 refine wn (kk2 [1,2] (sq (rg ?_)))
 refine fb 0 T.fo61_0 (lb 0 T.ag3 ?_)
 refine W_quiet (May_q _) T.hb152 rfl rfl ?_
 refine nt (as_ ?_)
 refine wn (kk1 [2] ?_)
 refine C_ret (RX_q1 rfl rfl ?_)
 rfl
theorem typed3_q {m : Imm} {bc : Nat} {A : Option Addr} {c : Nat} {B : Option Addr} {d : Nat} {f : FFun} {lev : Int} {X4 X5 X6 X7 : Value} (hC : Lies m bc [.slice A f.params.length c, .int .i64 f.ret, .slice B f.blocks.length d, .int .i64 lev, X4, X5, X6, X7]) {b1 : Nat} (hp : m.cell? ⟨b1, 0, none⟩ = some (.pointer (some ⟨bc, 0, none⟩))) {es : List Value} {o : FOp} (hO : rOp m es o) : Quiet Tryz.prog 157 [.agg es.toArray, .pointer (some ⟨b1, 0, none⟩)] m (.bool (!(ofK lev o))) := by
 have hO_0 := hO
 obtain ⟨A91, c91, rfl, h91, i91a, i91b, i91c, i91d, i91e⟩ := hO_0
 refine quiet_of Tryz.func157 rfl Tryz.ntmps157 rfl (fun w => ?_)
 refine sq (rg ?_)
 refine S_box (l := [_, _, _, _, _, _]) rfl rfl rfl (fun b1 => ?_)
 refine as_ ?_
 refine wn (kk3 [1,2,3] (sq (rg ?_)))
 refine liz T.ag99 hp ?_
 refine W_q (r_loadbk 0 (vs := [_, _, _, _, _, _]) rfl T.ag51 T.sz51 rfl rfl rfl) rfl ?_
 refine W_quiet (of_q hC hO) T.hb158 rfl rfl ?_
 refine nt (as_ ?_)
 refine wn (kk1 [3] ?_)
 refine C_ret (RX_q1 rfl rfl ?_)
 rfl
theorem typed_q {m : Imm} {bc : Nat} {A : Option Addr} {c : Nat} {B : Option Addr} {d : Nat} {f : FFun} {lev : Int} {X4 X5 X6 X7 : Value} (hC : Lies m bc [.slice A f.params.length c, .int .i64 f.ret, .slice B f.blocks.length d, .int .i64 lev, X4, X5, X6, X7]) (hq : Ints m A c f.params) (hb : Sl rBlock 5 m B d f.blocks) : Quiet Tryz.prog 117 [.pointer (some ⟨bc, 0, none⟩)] m (.int .i64 (typedP f lev)) := by
 have hbl := hb.len
 refine quiet_of Tryz.func117 rfl Tryz.ntmps117 rfl (fun w => ?_)
 refine sq (rg ?_)
 refine S_box (l := [_]) rfl rfl rfl (fun b1 => ?_)
 refine as_ ?_
 refine wn (kk2 [1,2] (sq (sq (rg ?_))))
 refine lb 0 T.ag99 ?_
 refine W_q (r_nilCheck rfl) rfl ?_
 refine fb 0 T.fo139_0 (fb 1 T.fo25_1 ?_)
 refine liz T.ag3 (hC 1 _ rfl) ?_
 refine W_quiet (May_q _) T.hb152 rfl rfl ?_
 refine nt (mv ?_)
 refine sp 13 ?_ ?_ <;> intro h2 <;> try simp only [tt] at h2
 refine ps (ps (ps (ps (ps (ps ?_)))))
 refine pt ?_
 refine wn (kk3 [1,2,20] ?_)
 refine ctz (sq (rg ?_))
 refine as_ ?_
 refine wn (kk2 [1,2] ?_)
 refine C_ret (RX_then (RX_q1 rfl rfl ?_))
 exact congrArg _ (typedP_1 (by assumption))
 refine tk (lb 0 T.ag99 ?_)
 refine tk ?_
 refine W_q (r_nilCheck rfl) rfl ?_
 refine tk (fb 0 T.fo139_0 ?_)
 refine tk (fb 0 T.fo25_0 ?_)
 refine tk ?_
 refine liz T.ag22 (hC 0 _ rfl) ?_
 refine tk ?_
 refine W_quiet (ContainsFuncI_q hq (p := fun b => !(mayW b)) (K := 153) T.hb153 (fun z _ => typed1_q z)) T.hb86 rfl rfl ?_
 refine pf ?_
 refine wn (kk3 [1,2,20] ?_)
 refine cd ?_ ?_ <;> intro h3 <;> try simp only [tt] at h3
 refine sq (rg ?_)
 refine as_ ?_
 refine wn (kk2 [1,2] ?_)
 refine C_ret (RX_then (RX_q1 rfl rfl ?_))
 exact congrArg _ (typedP_2 (by assumption))
 refine sk (kk2 [1,2] (sq (sq (rg ?_))))
 refine lb 0 T.ag99 ?_
 refine W_q (r_nilCheck rfl) rfl ?_
 refine fb 0 T.fo139_0 (fb 2 T.fo25_2 ?_)
 refine liz T.ag23 (hC 2 _ rfl) ?_
 refine ln Tryz.underlying23 (mv ?_)
 refine wn (kk5 [1,2,25,26,27] ?_)
 refine C_range (Unit) (f.blocks.length) (fun k4 x4 => ∀ j b, j < k4 → f.blocks[j]? = some b → okTyped lev b = true) (fun k4 x4 => []) (fun _ _ => []) [] [1, 25] (F := [(1, _), (25, _)]) (()) rfl rfl (by omega) (fun j b h => by omega) rfl rfl rfl rfl rfl rfl rfl (fun _ _ => rfl) (fun _ _ => rfl) (fun k4 x4 hk4 hJ4 => ?_) (fun x4 hJ4 => ?_)
 refine jj4 [1,25,26,27] (sq (rg ?_))
 obtain ⟨ad5, hA5⟩ := hb.ad (j := k4) (by omega)
 obtain ⟨z5, hz5⟩ := hb.getz (j := k4) (by omega)
 refine ixz hA5 Tryz.underlying23 T.sz44 ?_
 obtain ⟨es6, f6, _, l6⟩ := Sl.get hb hA5 hz5
 have F6 := f6
 obtain ⟨A6, c6, B6, d6, C6, e6, rfl, hp6, ho6, ht6, i6a, i6b⟩ := f6
 refine W_q (r_load_immk (vs := [_, _, _, _, _]) rfl T.ag44 T.sz44 l6) rfl ?_
 refine sa5 T.ze44 (fun b7 => ?_)
 refine sb5 0 T.sz44 ?_
 refine wn (kk5 [1,4,25,26,27] (sq (rg ?_)))
 refine fb 0 T.fo44_0 (lb 0 T.ag39 ?_)
 refine W_quiet (ContainsFuncP_q hp6 (p := fun p => !(mayW p.bits)) (K := 155) T.hb155 (fun z _ es hz => typed2_q hz)) T.hb154 rfl rfl ?_
 refine as_ ?_
 refine wn (kk6 [1,4,5,25,26,27] (sq (rg ?_)))
 refine mv (mv ?_)
 refine sp 35 ?_ ?_ <;> intro h8 <;> try simp only [tt] at h8
 refine ps (ps (ps (ps ?_)))
 refine pt ?_
 refine wn (kk5 [1,25,26,27,40] ?_)
 refine ctz (sq (rg ?_))
 refine as_ ?_
 refine wn (kk5 [1,2,25,26,27] ?_)
 refine C_ret (RX_block (RX_then (RX_block (RX_then (RX_q1 rfl rfl ?_)))))
 exact congrArg _ (typedP_3 hz5 (okTyped_f1 (by assumption)))
 refine tk (fb 1 T.fo44_1 ?_)
 refine tk (lb 0 T.ag40 ?_)
 refine tk ?_
 refine W_q (r_makeFunc (first := []) (cap := [_]) rfl rfl) rfl ?_
 refine tk ?_
 refine W_q (r_quietb 1 rfl (fun m' le hc => ContainsFuncO_q (ho6.mono rOp_mono le) (p := fun o => !(ofK lev o)) (K := 157) T.hb157 (fun z _ es hz => typed3_q (hC.mono le) (hc 0 _ rfl) hz)) T.hb156 rfl) rfl ?_
 refine pf ?_
 refine wn (kk5 [1,25,26,27,40] ?_)
 refine cd ?_ ?_ <;> intro h9 <;> try simp only [tt] at h9
 refine sq (rg ?_)
 refine as_ ?_
 refine wn (kk5 [1,2,25,26,27] ?_)
 refine C_ret (RX_block (RX_then (RX_block (RX_then (RX_q1 rfl rfl ?_)))))
 exact congrArg _ (typedP_3 hz5 (okTyped_f2 (by assumption)))
 refine sk (nb (?_))
 refine NX_rng [1, 25] (()) ?_ rfl (sub_drop 1 rfl) rfl (Imm.le_refl _)
 intro j b h1 h2
 by_cases e : j = k4
 · subst e; rw [hz5] at h2; cases h2; exact okTyped_t (by assumption) (by assumption)
 · exact hJ4 j b (by omega) h2
 refine kk0 [] (sq (rg ?_))
 refine as_ ?_
 refine wn (kk1 [2] ?_)
 refine C_ret (RX_q1 rfl rfl ?_)
 exact congrArg _ (typedP_0 (by assumption) (by assumption) hJ4)
namespace T
theorem ag137 : agg? Tryz.prog 137 = some false := by kernel_rfl
theorem fo139_3 : fld? Tryz.prog 139 3 = some (6, 1) := by kernel_rfl
theorem fo139_4 : fld? Tryz.prog 139 4 = some (7, 1) := by kernel_rfl
theorem fo164_0 : fld? Tryz.prog 164 0 = some (0, 1) := by kernel_rfl
theorem fo164_1 : fld? Tryz.prog 164 1 = some (1, 1) := by kernel_rfl
theorem fo164_2 : fld? Tryz.prog 164 2 = some (2, 2) := by kernel_rfl
theorem hb151 : hasBody Tryz.prog 151 = true := by kernel_rfl
theorem hb160 : hasBody Tryz.prog 160 = true := by kernel_rfl
theorem hb192 : hasBody Tryz.prog 192 = true := by kernel_rfl
theorem sz164 : sz? Tryz.prog 164 = some 4 := by kernel_rfl
theorem ze164 : zero? Tryz.prog 164 = some (.agg #[(.int .i64 0), (.int .i64 0), (.int .i64 0), (.int .i64 0)]) := by kernel_rfl
end T
theorem pair_ne {dd : Int × Int} {a b : Int} (h : (dd.1 == a && dd.2 == b) = false) : ¬ dd = (a, b) := by rintro rfl; simp at h
theorem pair_eq {dd : Int × Int} {a b : Int} (h : (dd.1 == a && dd.2 == b) = true) : dd = (a, b) := by
  simp only [Bool.and_eq_true, beq_iff_eq] at h
  exact Prod.ext h.1 h.2
theorem defined1_q {m : Imm} {bc mb : Nat} {A : Option Addr} {c : Nat} {B : Option Addr} {d : Nat} {f : FFun} {lev : Int} {X4 X5 : Value} {At : Option Addr} {ct : Nat} {t : List Int} {ds : List (Int × Def)} (hC : Lies m bc [.slice A f.params.length c, .int .i64 f.ret, .slice B f.blocks.length d, .int .i64 lev, X4, X5, .slice At t.length ct, .map (some mb)]) (ht : Ints m At ct t) (hM : MapIn m mb (valL defV ds)) {b1 : Nat} (hp : m.cell? ⟨b1, 0, none⟩ = some (.pointer (some ⟨bc, 0, none⟩))) (v s1 s2 b a : Int) (hb : I64 b) : Quiet Tryz.prog 163 [.int .i64 v, .agg #[.int .i64 s1, .int .i64 s2], .int .i64 b, .int .i64 a, .pointer (some ⟨b1, 0, none⟩)] m (.int .i64 (if (getL ds v).isSome then 0 else 7)) := by
 refine quiet_of Tryz.func163 rfl Tryz.ntmps163 rfl (fun w => ?_)
 refine sq (rg ?_)
 refine S_box (l := [_, _]) rfl rfl rfl (fun b1 => ?_)
 refine as_ ?_
 refine wn (kk3 [0,4,9] (sq (sq (rg ?_))))
 refine liz T.ag99 hp ?_
 refine W_q (r_nilCheck rfl) rfl ?_
 refine fb 7 T.fo139_4 ?_
 refine liz T.ag137 (hC 7 _ rfl) ?_
 refine mv ?_
 refine W_q (r_lookup2F hM Tryz.underlying137 Tryz.underlying3 T.ze164 rfl rfl (defs_get _ _) (defs_is _ _)) rfl ?_
 refine mv ?_
 refine W_q (r_extract rfl rfl) rfl ?_
 refine W_q (r_extract rfl rfl) rfl ?_
 refine sa4 T.ze164 (fun b2 => ?_)
 refine sb4 0 T.sz164 ?_
 refine as_ ?_
 refine wn (kk2 [9,11] (sq (rg ?_)))
 refine mv (nt ?_)
 refine wn (kk2 [9,22] ?_)
 refine cd ?_ ?_ <;> intro h3 <;> try simp only [tt] at h3
 refine sq (rg ?_)
 refine as_ ?_
 refine wn (kk1 [9] ?_)
 refine C_ret (RX_then (RX_q1 rfl rfl ?_))
 simp_all
 refine sk (kk1 [9] (sq (rg ?_)))
 refine as_ ?_
 refine wn (kk1 [9] ?_)
 refine C_ret (RX_q1 rfl rfl ?_)
 simp_all
theorem shapes1_q {m : Imm} {bc mb : Nat} {A : Option Addr} {c : Nat} {B : Option Addr} {d : Nat} {f : FFun} {lev : Int} {X4 X5 : Value} {At : Option Addr} {ct : Nat} {t : List Int} {ds : List (Int × Def)} (hC : Lies m bc [.slice A f.params.length c, .int .i64 f.ret, .slice B f.blocks.length d, .int .i64 lev, X4, X5, .slice At t.length ct, .map (some mb)]) (ht : Ints m At ct t) (hM : MapIn m mb (valL defV ds)) {b1 : Nat} (hp : m.cell? ⟨b1, 0, none⟩ = some (.pointer (some ⟨bc, 0, none⟩))) (v s1 s2 b a : Int) (hb : I64 b) : Quiet Tryz.prog 164 [.int .i64 v, .agg #[.int .i64 s1, .int .i64 s2], .int .i64 b, .int .i64 a, .pointer (some ⟨b1, 0, none⟩)] m (.int .i64 (if ((getL ds v).getD (0, 0, 0, 0)).2.2 = (s1, s2) then 0 else 6)) := by
 refine quiet_of Tryz.func164 rfl Tryz.ntmps164 rfl (fun w => ?_)
 refine sq (rg ?_)
 refine S_box (l := [_, _]) rfl rfl rfl (fun b1 => ?_)
 refine as_ ?_
 refine wn (kk4 [0,4,6,9] (sq (sq ?_)))
 refine C_drawn [(0, true), (1, true), (2, true), (3, true), (4, true), (5, true), (6, true), (7, true), (8, true)] (by kernel_rfl) rfl (by kernel_rfl) (by kernel_rfl) ?_
 refine D_q rfl (r_load_imm rfl T.ag99 hp) rfl ?_
 refine D_q rfl (r_nilCheck rfl) rfl ?_
 refine dfb 7 T.fo139_4 ?_
 refine D_q rfl (r_load_imm rfl T.ag137 (hC 7 _ rfl)) rfl ?_
 refine dmv ?_
 refine D_q rfl (r_lookupF hM Tryz.underlying137 Tryz.underlying3 T.ze164 rfl rfl (defs_get _ _)) rfl ?_
 refine D_q rfl (r_fieldk (vs := [_, _]) rfl T.fo164_2 (fun fs y h1 h2 => by rw [Tryz.underlying164] at h1; cases h1; cases h2; exact T.ag71) rfl rfl (by decide)) rfl ?_
 refine D_q rfl (r_loadbk 0 (vs := [_, _]) rfl T.ag71 T.sz71 rfl rfl rfl) rfl ?_
 refine D_q rfl (r_arrneq2 rfl rfl Tryz.underlying71 Tryz.underlying3 T.sz3 (by kernel_rfl)) rfl ?_
 refine D_end ?_
 refine kk2 [9,18] ?_
 refine cd ?_ ?_ <;> intro h2 <;> try simp only [tt] at h2
 refine sq (rg ?_)
 refine as_ ?_
 refine wn (kk1 [9] ?_)
 refine C_ret (RX_then (RX_q1 rfl rfl ?_))
 rw [if_neg (pair_ne h2)]
 refine sk (kk1 [9] (sq (rg ?_)))
 refine as_ ?_
 refine wn (kk1 [9] ?_)
 refine C_ret (RX_q1 rfl rfl ?_)
 rw [if_pos (pair_eq h2)]
theorem places1_q {m : Imm} {bc mb : Nat} {A : Option Addr} {c : Nat} {B : Option Addr} {d : Nat} {f : FFun} {lev : Int} {X4 X5 : Value} {At : Option Addr} {ct : Nat} {t : List Int} {ds : List (Int × Def)} (hC : Lies m bc [.slice A f.params.length c, .int .i64 f.ret, .slice B f.blocks.length d, .int .i64 lev, X4, X5, .slice At t.length ct, .map (some mb)]) (ht : Ints m At ct t) (hM : MapIn m mb (valL defV ds)) (hds : ∀ p ∈ ds, I64 p.2.1) {b1 : Nat} (hp : m.cell? ⟨b1, 0, none⟩ = some (.pointer (some ⟨bc, 0, none⟩))) (v s1 s2 b a : Int) (hb : I64 b) : Quiet Tryz.prog 165 [.int .i64 v, .agg #[.int .i64 s1, .int .i64 s2], .int .i64 b, .int .i64 a, .pointer (some ⟨b1, 0, none⟩)] m (.int .i64 (if ((getL ds v).getD (0, 0, 0, 0)).1 < 0 then 0 else if (((getL ds v).getD (0, 0, 0, 0)).1 = b ∧ ((getL ds v).getD (0, 0, 0, 0)).2.1 < a) ∨ (((getL ds v).getD (0, 0, 0, 0)).1 ≠ b ∧ overP t ((getL ds v).getD (0, 0, 0, 0)).1 b = true) then 0 else 7)) := by
 have hdi := getL_i64 hds v
 generalize hdd : (getL ds v).getD (0, 0, 0, 0) = dd at hdi ⊢
 refine quiet_of Tryz.func165 rfl Tryz.ntmps165 rfl (fun w => ?_)
 refine sq (rg ?_)
 refine S_box (l := [_, _]) rfl rfl rfl (fun b1 => ?_)
 refine as_ ?_
 refine wn (kk5 [0,2,3,4,9] (sq (rg ?_)))
 refine liz T.ag99 hp ?_
 refine W_q (r_nilCheck rfl) rfl ?_
 refine fb 7 T.fo139_4 ?_
 refine liz T.ag137 (hC 7 _ rfl) ?_
 refine mv ?_
 refine W_q (r_lookupF hM Tryz.underlying137 Tryz.underlying3 T.ze164 rfl rfl ((by rw [← hdd]; exact defs_get _ _ : defV dd = _))) rfl ?_
 refine sa4 T.ze164 (fun b2 => ?_)
 refine sb4 0 T.sz164 ?_
 refine wn (kk5 [2,3,4,9,10] (sq (bk (sq (rg ?_)))))
 refine fb 0 T.fo164_0 (lb 0 T.ag3 (bl (as_ ?_)))
 refine wn (kk6 [2,3,4,9,10,17] ?_)
 refine cd ?_ ?_ <;> intro h3 <;> try simp only [tt] at h3
 refine sq (rg ?_)
 refine as_ ?_
 refine wn (kk1 [9] ?_)
 refine C_ret (RX_block (RX_then (RX_q1 rfl rfl ?_)))
 rw [if_pos (by omega)]
 refine sq (sq (rg ?_))
 refine fb 0 T.fo164_0 (lb 0 T.ag3 (mv (be (mv ?_))))
 refine sp 26 ?_ ?_ <;> intro h4 <;> try simp only [tt] at h4
 refine tk (fb 1 T.fo164_1 ?_)
 refine tk (lb 0 T.ag3 ?_)
 refine tk (mv ?_)
 refine tk (bl (pt (as_ ?_)))
 refine wn (kk5 [2,4,9,10,21] ?_)
 refine cd ?_ ?_ <;> intro h5 <;> try simp only [tt] at h5
 refine sk (kk2 [9,21] ?_)
 refine ctz (sq (rg ?_))
 refine as_ ?_
 refine wn (kk1 [9] ?_)
 refine C_ret (RX_block (RX_then (RX_q1 rfl rfl ?_)))
 rw [if_neg (by omega), if_pos (.inl ⟨by omega, by omega⟩)]
 refine C_drawn [(0, true), (1, true), (2, true), (3, true), (4, true), (5, true), (6, true), (7, true), (8, true), (9, true), (10, true), (11, true), (12, true), (13, true), (14, true)] (by kernel_rfl) rfl (by kernel_rfl) (by kernel_rfl) ?_
 refine dfb 0 T.fo164_0 ?_
 refine dlb 0 T.ag3 ?_
 refine dmv ?_
 refine D_q rfl (r_bin rfl rfl (bin_neq _ _ _ _)) rfl ?_
 refine dmv ?_
 refine D_split (t := 36) rfl (fun h6 => ?_) (fun h6 => ?_)
 (try simp only [tt] at h6)
 refine D_qt rfl rfl rfl (r_load_imm rfl T.ag99 hp) rfl ?_
 refine D_qt rfl rfl rfl (r_nilCheck rfl) rfl ?_
 refine D_qt rfl rfl rfl (r_fieldb (o' := 6) rfl T.fo139_3 rfl) rfl ?_
 refine D_qt rfl rfl rfl (r_load_imm rfl T.ag22 (hC 6 _ rfl)) rfl ?_
 refine D_qt rfl rfl rfl (r_fieldb (o' := 0) rfl T.fo164_0 rfl) rfl ?_
 refine D_qt rfl rfl rfl (r_loadb 0 rfl T.ag3 rfl rfl) rfl ?_
 refine D_qt rfl rfl rfl (r_move rfl) rfl ?_
 refine D_quiett rfl rfl rfl (Over_q ht _ _ (by assumption) (by assumption)) T.hb151 rfl rfl ?_
 refine D_q rfl (r_pick_t rfl rfl) rfl ?_
 refine das ?_
 refine D_end ?_
 refine kk2 [9,21] ?_
 refine cd ?_ ?_ <;> intro h7 <;> try simp only [tt] at h7
 refine sq (rg ?_)
 refine as_ ?_
 refine wn (kk1 [9] ?_)
 refine C_ret (RX_block (RX_then (RX_q1 rfl rfl ?_)))
 rw [if_pos (by omega)]
 refine sk (nb (kk1 [9] (sq (rg ?_))))
 refine as_ ?_
 refine wn (kk1 [9] ?_)
 refine C_ret (RX_q1 rfl rfl ?_)
 rw [if_neg (by omega), if_neg (by rintro (⟨e1, e2⟩ | ⟨e1, e2⟩) <;> first | omega | simp_all)]
 (try simp only [tt] at h6)
 refine dps ?_
 refine dps ?_
 refine dps ?_
 refine dps ?_
 refine dps ?_
 refine dps ?_
 refine dps ?_
 refine dps ?_
 refine D_q rfl (r_pick_f rfl rfl) rfl ?_
 refine das ?_
 refine D_end ?_
 refine kk2 [9,21] ?_
 refine cfz (sk (nb (kk1 [9] (sq (rg ?_)))))
 refine as_ ?_
 refine wn (kk1 [9] ?_)
 refine C_ret (RX_q1 rfl rfl ?_)
 rw [if_neg (by omega), if_neg (by rintro (⟨e1, e2⟩ | ⟨e1, e2⟩) <;> first | omega | simp_all)]
 refine ps (ps (ps (ps ?_)))
 refine pf (as_ ?_)
 refine wn (kk5 [2,4,9,10,21] ?_)
 refine cfz ?_
 refine C_drawn [(0, true), (1, true), (2, true), (3, true), (4, true), (5, true), (6, true), (7, true), (8, true), (9, true), (10, true), (11, true), (12, true), (13, true), (14, true)] (by kernel_rfl) rfl (by kernel_rfl) (by kernel_rfl) ?_
 refine dfb 0 T.fo164_0 ?_
 refine dlb 0 T.ag3 ?_
 refine dmv ?_
 refine D_q rfl (r_bin rfl rfl (bin_neq _ _ _ _)) rfl ?_
 refine dmv ?_
 refine D_split (t := 36) rfl (fun h8 => ?_) (fun h8 => ?_)
 (try simp only [tt] at h8)
 refine D_qt rfl rfl rfl (r_load_imm rfl T.ag99 hp) rfl ?_
 refine D_qt rfl rfl rfl (r_nilCheck rfl) rfl ?_
 refine D_qt rfl rfl rfl (r_fieldb (o' := 6) rfl T.fo139_3 rfl) rfl ?_
 refine D_qt rfl rfl rfl (r_load_imm rfl T.ag22 (hC 6 _ rfl)) rfl ?_
 refine D_qt rfl rfl rfl (r_fieldb (o' := 0) rfl T.fo164_0 rfl) rfl ?_
 refine D_qt rfl rfl rfl (r_loadb 0 rfl T.ag3 rfl rfl) rfl ?_
 refine D_qt rfl rfl rfl (r_move rfl) rfl ?_
 refine D_quiett rfl rfl rfl (Over_q ht _ _ (by assumption) (by assumption)) T.hb151 rfl rfl ?_
 refine D_q rfl (r_pick_t rfl rfl) rfl ?_
 refine das ?_
 refine D_end ?_
 refine kk2 [9,21] ?_
 refine cd ?_ ?_ <;> intro h9 <;> try simp only [tt] at h9
 refine sq (rg ?_)
 refine as_ ?_
 refine wn (kk1 [9] ?_)
 refine C_ret (RX_block (RX_then (RX_q1 rfl rfl ?_)))
 rw [if_neg (by omega), if_pos (.inr ⟨by omega, by assumption⟩)]
 refine sk (nb (kk1 [9] (sq (rg ?_))))
 refine as_ ?_
 refine wn (kk1 [9] ?_)
 refine C_ret (RX_q1 rfl rfl ?_)
 rw [if_neg (by omega), if_neg (by rintro (⟨e1, e2⟩ | ⟨e1, e2⟩) <;> first | omega | simp_all)]
 (try simp only [tt] at h8)
 refine dps ?_
 refine dps ?_
 refine dps ?_
 refine dps ?_
 refine dps ?_
 refine dps ?_
 refine dps ?_
 refine dps ?_
 refine D_q rfl (r_pick_f rfl rfl) rfl ?_
 refine das ?_
 refine D_end ?_
 refine kk2 [9,21] ?_
 refine cfz (sk (nb (kk1 [9] (sq (rg ?_)))))
 refine as_ ?_
 refine wn (kk1 [9] ?_)
 refine C_ret (RX_q1 rfl rfl ?_)
 rw [if_neg (by omega), if_neg (by rintro (⟨e1, e2⟩ | ⟨e1, e2⟩) <;> first | omega | simp_all)]
theorem uses_q {m : Imm} {bc : Nat} {A : Option Addr} {c : Nat} {B : Option Addr} {d : Nat} {f : FFun} {lev : Int} {X4 X5 X6 X7 : Value} (hC : Lies m bc [.slice A f.params.length c, .int .i64 f.ret, .slice B f.blocks.length d, .int .i64 lev, X4, X5, X6, X7]) (hq : Ints m A c f.params) (hb : Sl rBlock 5 m B d f.blocks) {K : FuncId} {cap : Array Value} {ask : Use → Int} (hK : hasBody Tryz.prog K = true) (hA : AskQ Tryz.prog K cap ask m) (hphi : ∀ b ∈ f.blocks, ∀ p ∈ b.phis, p.args.length ≤ p.fr.length) : Quiet Tryz.prog 162 [.pointer (some ⟨bc, 0, none⟩), .func (.func K) #[] cap] m (.int .i64 (usesP f ask)) := by
 have hbl := hb.len
 refine quiet_of Tryz.func162 rfl Tryz.ntmps162 rfl (fun w => ?_)
 refine sq (rg ?_)
 refine as_ ?_
 refine wn (kk3 [0,1,4] ?_)
 refine C_ahead 0 rfl (Int) (fun mk1 x1 => m.le mk1 ∧ (usesP f ask = x1)) (fun x1 => [(5, .int .i64 x1)]) (fun _ => []) [] (F := []) rfl rfl ?_ (fun mk1 x1 hJ1 => ?_)
 refine sq (rg ?_)
 refine as_ ?_
 refine wn (kk4 [0,1,4,5] (sq (sq (rg ?_))))
 refine mv ?_
 refine W_q (r_nilCheck rfl) rfl ?_
 refine fb 0 T.fo139_0 (fb 2 T.fo25_2 ?_)
 refine liz T.ag23 (hC 2 _ rfl) ?_
 refine ln Tryz.underlying23 (mv ?_)
 refine wn (kk7 [0,1,4,5,21,22,23] ?_)
 refine C_rangeM (Unit) (f.blocks.length) (fun k2 mk2 x2 => m.le mk2 ∧ (firstN ask ((f.blocks.zipIdx.take k2).flatMap (blockU f)) = 0)) (fun k2 x2 => [(5, .int .i64 0)]) (fun _ _ => []) [5] [0, 1, 4, 21] (F := [(0, _), (1, _), (4, _), (21, _)]) (()) rfl rfl (by omega) ⟨Imm.le_refl _, rfl⟩ rfl rfl rfl rfl rfl rfl rfl (fun _ _ => rfl) (fun _ _ => rfl) (fun k2 mk2 x2 hk2 hJ2 => ?_) (fun mk2 x2 hJ2 => ?_)
 obtain ⟨hle2, hJ2⟩ := hJ2
 replace hC := hC.mono (hle2)
 replace hq := hq.mono rI_mono hle2
 replace hb := hb.mono rBlock_mono hle2
 replace hA := hA.mono (hle2)
 refine jj7 [0,1,4,5,21,22,23] (sq (rg ?_))
 refine mv ?_
 obtain ⟨ad3, hA3⟩ := hb.ad (j := k2) (by omega)
 obtain ⟨z3, hz3⟩ := hb.getz (j := k2) (by omega)
 refine ixz hA3 Tryz.underlying23 T.sz44 ?_
 obtain ⟨es4, f4, _, l4⟩ := Sl.get hb hA3 hz3
 have F4 := f4
 obtain ⟨A4, c4, B4, d4, C4, e4, rfl, hp4, ho4, ht4, i4a, i4b⟩ := f4
 refine W_q (r_load_immk (vs := [_, _, _, _, _]) rfl T.ag44 T.sz44 l4) rfl ?_
 refine sa5 T.ze44 (fun b5 => ?_)
 refine as_ ?_
 refine sb5 0 T.sz44 ?_
 refine wn (kk9 [0,1,4,5,6,7,21,22,23] (sq (sq (rg ?_))))
 refine fb 0 T.fo44_0 (lb 0 T.ag39 (ln Tryz.underlying39 (mv ?_)))
 refine wn (kk12 [0,1,4,5,6,7,21,22,23,29,30,31] ?_)
 refine C_range (Unit) (z3.phis.length) (fun k6 x6 => firstN ask ((z3.phis.take k6).flatMap phiU) = 0) (fun k6 x6 => [(5, .int .i64 0)]) (fun _ _ => []) [5] [0, 1, 4, 6, 7, 21, 22, 23, 29] (F := [(0, _), (1, _), (4, _), (6, _), (7, _), (21, _), (22, _), (23, _), (29, _)]) (()) rfl rfl (by have := hp4.len; omega) rfl rfl rfl rfl rfl rfl rfl rfl (fun _ _ => rfl) (fun _ _ => rfl) (fun k6 x6 hk6 hJ6 => ?_) (fun x6 hJ6 => ?_)
 refine jj12 [0,1,4,5,6,7,21,22,23,29,30,31] (sq (rg ?_))
 obtain ⟨ad7, hA7⟩ := hp4.ad (j := k6) (by omega)
 obtain ⟨z7, hz7⟩ := hp4.getz (j := k6) (by omega)
 refine ixz hA7 Tryz.underlying39 T.sz61 ?_
 obtain ⟨es8, f8, _, l8⟩ := Sl.get hp4 hA7 hz7
 have F8 := f8
 obtain ⟨A8, c8, B8, d8, rfl, h8, g8, i8a, i8b⟩ := f8
 refine W_q (r_load_immk (vs := [_, _, _, _]) rfl T.ag61 T.sz61 l8) rfl ?_
 refine sa4 T.ze61 (fun b9 => ?_)
 refine sb4 0 T.sz61 ?_
 refine wn (kk13 [0,1,4,5,6,7,9,21,22,23,29,30,31] (sq (rg ?_)))
 refine fb 3 T.fo61_3 (lb 0 T.ag22 (ln Tryz.underlying22 (mv ?_)))
 refine wn (kk16 [0,1,4,5,6,7,9,21,22,23,29,30,31,36,37,38] ?_)
 refine C_range (Unit) (z7.args.length) (fun k10 x10 => firstN ask ((phiU z7).take k10) = 0) (fun k10 x10 => [(5, .int .i64 0)]) (fun _ _ => []) [5] [0, 1, 4, 6, 7, 9, 21, 22, 23, 29, 30, 31, 36] (F := [(0, _), (1, _), (4, _), (6, _), (7, _), (9, _), (21, _), (22, _), (23, _), (29, _), (30, _), (31, _), (36, _)]) (()) rfl rfl (by have := g8.len; omega) rfl rfl rfl rfl rfl rfl rfl rfl (fun _ _ => rfl) (fun _ _ => rfl) (fun k10 x10 hk10 hJ10 => ?_) (fun x10 hJ10 => ?_)
 have hpl := hphi _ (List.mem_of_getElem? hz3) _ (List.mem_of_getElem? hz7)
 refine jj16 [0,1,4,5,6,7,9,21,22,23,29,30,31,36,37,38] (sq (rg ?_))
 refine mv ?_
 obtain ⟨ad11, hA11⟩ := g8.ad (j := k10) (by omega)
 obtain ⟨z11, hz11⟩ := g8.getz (j := k10) (by omega)
 refine ixz hA11 Tryz.underlying22 T.sz3 ?_
 obtain ⟨l12, r12⟩ := Sl.getI g8 hA11 hz11
 refine liz T.ag3 l12 ?_
 refine as_ (as_ ?_)
 refine wn (kk18 [0,1,4,5,6,7,9,10,11,21,22,23,29,30,31,36,37,38] (sq ?_))
 refine C_drawn [(0, true), (1, true), (2, true), (3, true), (4, true), (5, true), (6, true), (7, true), (8, true), (9, true), (10, true), (11, true)] (by kernel_rfl) rfl (by kernel_rfl) (by kernel_rfl) ?_
 refine dmv ?_
 refine dmv ?_
 refine dfb 0 T.fo61_0 ?_
 refine dlb 0 T.ag3 ?_
 refine D_quiet rfl (scalar_q _) T.hb160 rfl rfl ?_
 refine dfb 2 T.fo61_2 ?_
 refine dlb 0 T.ag22 ?_
 refine dmv ?_
 obtain ⟨ad13, hA13⟩ := h8.ad (j := k10) (by omega)
 obtain ⟨z13, hz13⟩ := h8.getz (j := k10) (by omega)
 refine D_q rfl (r_index hA13 Tryz.underlying22 T.sz3 rfl rfl ⟨by omega, by omega⟩) rfl ?_
 obtain ⟨l14, r14⟩ := Sl.getI h8 hA13 hz13
 refine D_q rfl (r_load_imm rfl T.ag3 l14) rfl ?_
 refine D_q rfl (r_callv rfl hK rfl (hA _ (Imm.le_refl _) _ _ _ _ _ (by first | assumption | exact ⟨by omega, by omega⟩))) rfl ?_
 refine das ?_
 refine D_end ?_
 refine kk16 [0,1,4,5,6,7,9,21,22,23,29,30,31,36,37,38] (sq (rg ?_))
 refine mv (bn ?_)
 refine wn (kk17 [0,1,4,5,6,7,9,21,22,23,29,30,31,36,37,38,55] ?_)
 refine cd ?_ ?_ <;> intro h15 <;> try simp only [tt] at h15
 refine C_goto (GX_block (GX_then (GX_block (GX_block (GX_then (GX_block (GX_then (GX_block (GX_then (GX_block (GX_then (?_))))))))))))
 refine GX_ahead [5] (_) ⟨hle2, ?_⟩ rfl (sub_drop 2 rfl) rfl
 exact uses_phi hz3 hz7 hz11 hz13 hJ2 hJ6 hJ10 (by assumption)
 refine sk (nb (?_))
 rw [h15]
 refine NX_rng [5, 0, 1, 4, 6, 7, 9, 21, 22, 23, 29, 30, 31, 36] (()) ?_ rfl (List.Sublist.refl _) rfl (Imm.le_refl _)
 exact firstN_snoc (phiU_get hz11 hz13) hJ10 (by assumption)
 refine nb (?_)
 refine NX_rng [5, 0, 1, 4, 6, 7, 21, 22, 23, 29] (()) ?_ rfl (sub_drop 1 rfl) rfl (Imm.le_refl _)
 exact firstN_step hz7 hJ6 (by have e := hJ10; rwa [take_all (phiU_len _).symm] at e)
 have hP1 : firstN ask (z3.phis.flatMap phiU) = 0 := by rw [List.take_length] at hJ6; exact hJ6
 refine kk9 [0,1,4,5,6,7,21,22,23] (sq (sq (rg ?_)))
 refine fb 1 T.fo44_1 (lb 0 T.ag40 (ln Tryz.underlying40 (mv ?_)))
 refine wn (kk12 [0,1,4,5,6,7,21,22,23,59,60,61] ?_)
 refine C_rangeM (Unit) (z3.ops.length) (fun k16 mk16 x16 => mk2.le mk16 ∧ (firstN ask ((z3.ops.zipIdx.take k16).flatMap (opU k2)) = 0)) (fun k16 x16 => [(5, .int .i64 0)]) (fun _ _ => []) [5] [0, 1, 4, 6, 7, 21, 22, 23, 59] (F := [(0, _), (1, _), (4, _), (6, _), (7, _), (21, _), (22, _), (23, _), (59, _)]) (()) rfl rfl (by have := ho4.len; omega) ⟨Imm.le_refl _, rfl⟩ rfl rfl rfl rfl rfl rfl rfl (fun _ _ => rfl) (fun _ _ => rfl) (fun k16 mk16 x16 hk16 hJ16 => ?_) (fun mk16 x16 hJ16 => ?_)
 obtain ⟨hle16, hJ16⟩ := hJ16
 replace hC := hC.mono (hle16)
 replace hq := hq.mono rI_mono hle16
 replace hb := hb.mono rBlock_mono hle16
 replace hA := hA.mono (hle16)
 replace F4 := rBlock_mono _ _ _ _ hle16 F4
 replace hp4 := hp4.mono rPhi_mono hle16
 replace ho4 := ho4.mono rOp_mono hle16
 replace ht4 := ht4.mono rI_mono hle16
 refine jj12 [0,1,4,5,6,7,21,22,23,59,60,61] (sq (rg ?_))
 refine mv ?_
 obtain ⟨ad17, hA17⟩ := ho4.ad (j := k16) (by omega)
 obtain ⟨z17, hz17⟩ := ho4.getz (j := k16) (by omega)
 refine ixz hA17 Tryz.underlying40 T.sz51 ?_
 obtain ⟨es18, f18, _, l18⟩ := Sl.get ho4 hA17 hz17
 have F18 := f18
 obtain ⟨A18, c18, rfl, h18, i18a, i18b, i18c, i18d, i18e⟩ := f18
 refine W_q (r_load_immk (vs := [_, _, _, _, _, _]) rfl T.ag51 T.sz51 l18) rfl ?_
 refine sa6 T.ze51 (fun b19 => ?_)
 refine as_ ?_
 refine sb6 0 T.sz51 ?_
 refine wn (kk14 [0,1,4,5,6,7,12,13,21,22,23,59,60,61] (sq (rg ?_)))
 refine W_q (r_loadbk 0 (vs := [_, _, _, _, _, _]) rfl T.ag51 T.sz51 rfl rfl rfl) rfl ?_
 refine S_gives (Takes_g F18) T.hb192 rfl rfl (fun m20 v20 le20 hv20 => ?_)
 replace hC := hC.mono (le20)
 replace hq := hq.mono rI_mono le20
 replace hb := hb.mono rBlock_mono le20
 replace hA := hA.mono (le20)
 replace F4 := rBlock_mono _ _ _ _ le20 F4
 replace hp4 := hp4.mono rPhi_mono le20
 replace ho4 := ho4.mono rOp_mono le20
 replace ht4 := ht4.mono rI_mono le20
 replace F18 := rOp_mono _ _ _ _ le20 F18
 replace h18 := h18.mono rI_mono le20
 obtain ⟨A20, c20, rfl, h20⟩ := hv20
 refine ln Tryz.underlying113 (mv ?_)
 refine wn (kk17 [0,1,4,5,6,7,12,13,21,22,23,59,60,61,67,68,69] ?_)
 refine C_range (Unit) ((takesK z17).length) (fun k21 x21 => firstN ask ((opU k2 (z17, k16)).take k21) = 0) (fun k21 x21 => [(5, .int .i64 0)]) (fun _ _ => []) [5] [0, 1, 4, 6, 7, 12, 13, 21, 22, 23, 59, 60, 61, 67] (F := [(0, _), (1, _), (4, _), (6, _), (7, _), (12, _), (13, _), (21, _), (22, _), (23, _), (59, _), (60, _), (61, _), (67, _)]) (()) rfl rfl (by have := h20.len; omega) rfl rfl rfl rfl rfl rfl rfl rfl (fun _ _ => rfl) (fun _ _ => rfl) (fun k21 x21 hk21 hJ21 => ?_) (fun x21 hJ21 => ?_)
 have hkl := takesK_len z17
 refine jj17 [0,1,4,5,6,7,12,13,21,22,23,59,60,61,67,68,69] (sq (rg ?_))
 refine mv ?_
 obtain ⟨ad22, hA22⟩ := h20.ad (j := k21) (by omega)
 obtain ⟨z22, hz22⟩ := h20.getz (j := k21) (by omega)
 refine ixz hA22 Tryz.underlying113 T.sz71 ?_
 obtain ⟨es23, f23, _, l23⟩ := Sl.get h20 hA22 hz22
 have F23 := f23
 obtain ⟨rfl, i23a, i23b⟩ := f23
 refine W_q (r_load_immk (vs := [_, _]) rfl T.ag71 T.sz71 l23) rfl ?_
 refine sa2 T.ze71 (fun b24 => ?_)
 refine as_ ?_
 refine sb2 0 T.sz71 ?_
 refine wn (kk19 [0,1,4,5,6,7,12,13,14,15,21,22,23,59,60,61,67,68,69] (sq ?_))
 refine C_drawn [(0, true), (1, true), (2, true), (3, true), (4, true), (5, true), (6, true), (7, true), (8, true), (9, true), (10, true)] (by kernel_rfl) rfl (by kernel_rfl) (by kernel_rfl) ?_
 refine dmv ?_
 refine dfb 4 T.fo51_4 ?_
 refine dlb 1 T.ag22 ?_
 refine dmv ?_
 obtain ⟨ad25, hA25⟩ := h18.ad (j := k21) (by omega)
 obtain ⟨z25, hz25⟩ := h18.getz (j := k21) (by omega)
 refine D_q rfl (r_index hA25 Tryz.underlying22 T.sz3 rfl rfl ⟨by omega, by omega⟩) rfl ?_
 obtain ⟨l26, r26⟩ := Sl.getI h18 hA25 hz25
 refine D_q rfl (r_load_imm rfl T.ag3 l26) rfl ?_
 refine D_q rfl (r_loadbk 0 (vs := [_, _]) rfl T.ag71 T.sz71 rfl rfl rfl) rfl ?_
 refine dmv ?_
 refine dmv ?_
 refine D_q rfl (r_callv rfl hK rfl (hA _ (Imm.le_refl _) _ _ _ _ _ (by first | assumption | exact ⟨by omega, by omega⟩))) rfl ?_
 refine das ?_
 refine D_end ?_
 refine kk17 [0,1,4,5,6,7,12,13,21,22,23,59,60,61,67,68,69] (sq (rg ?_))
 refine mv (bn ?_)
 refine wn (kk18 [0,1,4,5,6,7,12,13,21,22,23,59,60,61,67,68,69,85] ?_)
 refine cd ?_ ?_ <;> intro h27 <;> try simp only [tt] at h27
 refine C_goto (GX_block (GX_then (GX_block (GX_block (GX_then (GX_block (GX_then (GX_block (GX_then (GX_block (GX_then (?_))))))))))))
 refine GX_ahead [5] (_) ⟨Imm.le_trans (Imm.le_trans (hle2) hle16) le20, ?_⟩ rfl (sub_drop 3 rfl) rfl
 exact uses_op hz3 hz17 hz25 hz22 hJ2 hP1 hJ16 hJ21 (by assumption)
 refine sk (nb (?_))
 rw [h27]
 refine NX_rng [5, 0, 1, 4, 6, 7, 12, 13, 21, 22, 23, 59, 60, 61, 67] (()) ?_ rfl (sub_drop 1 rfl) rfl (Imm.le_refl _)
 exact firstN_snoc (opU_get hz25 hz22) hJ21 (by assumption)
 refine nb (?_)
 refine NX_rngM [5, 0, 1, 4, 6, 7, 21, 22, 23, 59] (()) ⟨Imm.le_trans (hle16) le20, ?_⟩ rfl (sub_drop 1 rfl) rfl
 exact firstN_step (zip_get hz17) hJ16 (by have e := hJ21; rwa [take_all (show (takesK z17).length = (opU k2 (z17, k16)).length from (opU_len k2 (z17, k16)).symm)] at e)
 obtain ⟨hle16, hJ16⟩ := hJ16
 replace hC := hC.mono (hle16)
 replace hq := hq.mono rI_mono hle16
 replace hb := hb.mono rBlock_mono hle16
 replace hA := hA.mono (hle16)
 replace F4 := rBlock_mono _ _ _ _ hle16 F4
 replace hp4 := hp4.mono rPhi_mono hle16
 replace ho4 := ho4.mono rOp_mono hle16
 replace ht4 := ht4.mono rI_mono hle16
 have hO1 : firstN ask (z3.ops.zipIdx.flatMap (opU k2)) = 0 := by rw [take_all (by simp)] at hJ16; exact hJ16
 refine kk9 [0,1,4,5,6,7,21,22,23] (sq ?_)
 refine C_drawnA 0 14 rfl (by kernel_rfl) (by kernel_rfl) ?_
 refine A_q (i := 1) (by kernel_rfl) rfl (r_move rfl) rfl ?_
 refine A_q (i := 2) (by kernel_rfl) rfl (r_nilCheck rfl) rfl ?_
 refine A_q (i := 3) (by kernel_rfl) rfl (r_fieldb (o' := 0) rfl T.fo139_0 rfl) rfl ?_
 refine A_q (i := 4) (by kernel_rfl) rfl (r_fieldb (o' := 1) rfl T.fo25_1 rfl) rfl ?_
 refine A_q (i := 5) (by kernel_rfl) rfl (r_load_imm rfl T.ag3 (hC 1 _ rfl)) rfl ?_
 refine A_q (i := 9) (by kernel_rfl) rfl (r_fieldb (o' := 2) rfl T.fo44_2 rfl) rfl ?_
 refine A_q (i := 10) (by kernel_rfl) rfl (r_fieldb (o' := 2) rfl T.fo42_0 rfl) rfl ?_
 refine A_q (i := 11) (by kernel_rfl) rfl (r_loadb 0 rfl T.ag3 rfl rfl) rfl ?_
 refine aoz 0 (fun hs28 => ?_)
 refine S_makeMap rfl (fun b29 => ?_)
 refine alz hs28 1 ?_
 refine A_two (i := 6) (j := 7) (by kernel_rfl) rfl rfl (fun hs30 => ?_) (fun hs30 => ?_)
 refine S_insert 0 Tryz.underlying86 Tryz.underlying3 rfl rfl rfl rfl ?_
 refine alz hs30 1 ?_
 refine aoz 7 (fun hs31 => ?_)
 refine S_insert 0 Tryz.underlying86 Tryz.underlying3 rfl rfl rfl rfl ?_
 refine alz hs31 1 ?_
 refine A_q (i := 8) (by kernel_rfl) rfl (r_move rfl) rfl ?_
 refine aoz 12 (fun hs32 => ?_)
 refine W_q (r_lookup 0 Tryz.underlying86 Tryz.underlying3 T.ze3 rfl rfl rfl ((by first | exact bits_get1 f z3 | exact bits_get2 f z3))) rfl ?_
 refine alz hs32 1 ?_
 refine A_q (i := 13) (by kernel_rfl) rfl (r_assign rfl) rfl ?_
 refine A_end (by kernel_rfl) ?_
 refine kk10 [0,1,4,5,6,7,16,21,22,23] (sq (sq (rg ?_)))
 refine mv (be ?_)
 refine wn (kk11 [0,1,4,5,6,7,16,21,22,23,100] ?_)
 refine cd ?_ ?_ <;> intro h33 <;> try simp only [tt] at h33
 refine C_exit (EX_then (EX_hit (?_)))
 refine NX_rngM [5, 0, 1, 4, 21] (()) ⟨Imm.le_trans (hle2) hle16, ?_⟩ rfl (sub_drop 2 rfl) rfl
 exact uses_step hz3 hJ2 hP1 hO1 (.inl (by assumption))
 refine sk (kk10 [0,1,4,5,6,7,16,21,22,23] (sq ?_))
 refine C_drawn [(0, true), (1, true), (2, true), (3, true), (4, true), (5, true), (6, true), (7, true), (8, true)] (by kernel_rfl) rfl (by kernel_rfl) (by kernel_rfl) ?_
 refine dmv ?_
 refine dfb 2 T.fo44_2 ?_
 refine dfb 3 T.fo42_1 ?_
 refine dlb 1 T.ag3 ?_
 refine dmv ?_
 refine D_quiet rfl (scalar_q _) T.hb160 rfl rfl ?_
 refine dmv ?_
 refine D_q rfl (r_callv rfl hK rfl (hA _ (Imm.le_refl _) _ _ _ _ _ (by first | assumption | exact ⟨by omega, by omega⟩))) rfl ?_
 refine das ?_
 refine D_end ?_
 refine kk7 [0,1,4,5,21,22,23] (sq (rg ?_))
 refine mv (bn ?_)
 refine wn (kk8 [0,1,4,5,21,22,23,110] ?_)
 refine cd ?_ ?_ <;> intro h34 <;> try simp only [tt] at h34
 refine C_goto (GX_block (GX_then (GX_block (GX_then (?_)))))
 refine GX_ahead [5] (_) ⟨Imm.le_trans (hle2) hle16, ?_⟩ rfl (sub_drop 2 rfl) rfl
 exact uses_end hz3 hJ2 hP1 hO1 (by assumption) (by assumption)
 refine sk (nb (?_))
 rw [h34]
 refine NX_rngM [5, 0, 1, 4, 21] (()) ⟨Imm.le_trans (hle2) hle16, ?_⟩ rfl (sub_drop 2 rfl) rfl
 exact uses_step hz3 hJ2 hP1 hO1 (.inr (by assumption))
 refine S_insert 0 Tryz.underlying86 Tryz.underlying3 rfl rfl rfl rfl ?_
 refine alz hs30 1 ?_
 refine aoz 6 (fun hs35 => ?_)
 refine S_insert 0 Tryz.underlying86 Tryz.underlying3 rfl rfl rfl rfl ?_
 refine alz hs35 1 ?_
 refine A_q (i := 8) (by kernel_rfl) rfl (r_move rfl) rfl ?_
 refine aoz 12 (fun hs36 => ?_)
 refine W_q (r_lookup 0 Tryz.underlying86 Tryz.underlying3 T.ze3 rfl rfl rfl ((by first | exact bits_get1 f z3 | exact bits_get2 f z3))) rfl ?_
 refine alz hs36 1 ?_
 refine A_q (i := 13) (by kernel_rfl) rfl (r_assign rfl) rfl ?_
 refine A_end (by kernel_rfl) ?_
 refine kk10 [0,1,4,5,6,7,16,21,22,23] (sq (sq (rg ?_)))
 refine mv (be ?_)
 refine wn (kk11 [0,1,4,5,6,7,16,21,22,23,100] ?_)
 refine cd ?_ ?_ <;> intro h37 <;> try simp only [tt] at h37
 refine C_exit (EX_then (EX_hit (?_)))
 refine NX_rngM [5, 0, 1, 4, 21] (()) ⟨Imm.le_trans (hle2) hle16, ?_⟩ rfl (sub_drop 2 rfl) rfl
 exact uses_step hz3 hJ2 hP1 hO1 (.inl (by assumption))
 refine sk (kk10 [0,1,4,5,6,7,16,21,22,23] (sq ?_))
 refine C_drawn [(0, true), (1, true), (2, true), (3, true), (4, true), (5, true), (6, true), (7, true), (8, true)] (by kernel_rfl) rfl (by kernel_rfl) (by kernel_rfl) ?_
 refine dmv ?_
 refine dfb 2 T.fo44_2 ?_
 refine dfb 3 T.fo42_1 ?_
 refine dlb 1 T.ag3 ?_
 refine dmv ?_
 refine D_quiet rfl (scalar_q _) T.hb160 rfl rfl ?_
 refine dmv ?_
 refine D_q rfl (r_callv rfl hK rfl (hA _ (Imm.le_refl _) _ _ _ _ _ (by first | assumption | exact ⟨by omega, by omega⟩))) rfl ?_
 refine das ?_
 refine D_end ?_
 refine kk7 [0,1,4,5,21,22,23] (sq (rg ?_))
 refine mv (bn ?_)
 refine wn (kk8 [0,1,4,5,21,22,23,110] ?_)
 refine cd ?_ ?_ <;> intro h38 <;> try simp only [tt] at h38
 refine C_goto (GX_block (GX_then (GX_block (GX_then (?_)))))
 refine GX_ahead [5] (_) ⟨Imm.le_trans (hle2) hle16, ?_⟩ rfl (sub_drop 2 rfl) rfl
 exact uses_end hz3 hJ2 hP1 hO1 (by assumption) (by assumption)
 refine sk (nb (?_))
 rw [h38]
 refine NX_rngM [5, 0, 1, 4, 21] (()) ⟨Imm.le_trans (hle2) hle16, ?_⟩ rfl (sub_drop 2 rfl) rfl
 exact uses_step hz3 hJ2 hP1 hO1 (.inr (by assumption))
 obtain ⟨hle2, hJ2⟩ := hJ2
 replace hC := hC.mono (hle2)
 replace hq := hq.mono rI_mono hle2
 replace hb := hb.mono rBlock_mono hle2
 replace hA := hA.mono (hle2)
 refine kk2 [4,5] (sq ?_)
 refine C_label ?_
 refine kk2 [4,5] (sq (rg ?_))
 refine mv (as_ ?_)
 refine wn (kk2 [4,5] ?_)
 refine C_ret (RX_jump (RX_q1 rfl rfl ?_))
 exact congrArg _ (uses_none hJ2).symm
 obtain ⟨hle1, hJ1⟩ := hJ1
 replace hC := hC.mono (hle1)
 replace hq := hq.mono rI_mono hle1
 replace hb := hb.mono rBlock_mono hle1
 replace hA := hA.mono (hle1)
 refine CW_seq (C_skip (kk1 [5] ?_))
 refine sq (rg ?_)
 refine mv (as_ ?_)
 refine wn (kk1 [4] ?_)
 refine C_ret (RX_jump (RX_q1 rfl rfl ?_))
 exact congrArg _ hJ1.symm
namespace T
theorem ag164 : agg? Tryz.prog 164 = some true := by kernel_rfl
theorem fo139_2 : fld? Tryz.prog 139 2 = some (4, 2) := by kernel_rfl
theorem hb150 : hasBody Tryz.prog 150 = true := by kernel_rfl
theorem hb65 : hasBody Tryz.prog 65 = true := by kernel_rfl
end T
theorem put_d {m : Imm} {bc mb : Nat} {P0 P1 P2 P3 P4 P5 P6 : Value} {l : List (Int × Def)} (v : Int) (dd : Def) : Does Tryz.prog 159 [.pointer (some ⟨bc, 0, none⟩), .int .i64 v, defV dd] m ([bx bc 139 [P0, P1, P2, P3, P4, P5, P6, .map (some mb)], imap mb (valL defV l)]) (fun m' R' u => m' = m ∧ R' = [bx bc 139 [P0, P1, P2, P3, P4, P5, P6, .map (some mb)], imap mb (valL defV (putL l v dd))] ∧ u = .bool (!(getL l v).isSome)) := by
 refine does_of Tryz.func159 rfl Tryz.ntmps159 rfl (fun w => ?_)
 refine sq (rg ?_)
 refine S_box (l := [_, _, _, _]) rfl rfl rfl (fun b1 => ?_)
 refine as_ ?_
 refine wn (kk4 [0,1,5,6] (sq (rg ?_)))
 refine mv ?_
 refine W_q (r_nilCheck rfl) rfl ?_
 refine fb 7 T.fo139_4 (lb 1 T.ag137 (mv ?_))
 refine W_q (r_lookup2 2 Tryz.underlying137 Tryz.underlying3 T.ze164 rfl rfl rfl (defs_get _ _) (defs_is _ _)) rfl ?_
 refine mv ?_
 refine W_q (r_extract rfl rfl) rfl ?_
 refine W_q (r_extract rfl rfl) rfl ?_
 refine sa4 T.ze164 (fun b2 => ?_)
 refine sb4 0 T.sz164 ?_
 refine as_ ?_
 refine wn (kk5 [0,1,5,6,8] (sq ?_))
 refine CW_front 3 rfl rfl ?_
 refine C_drawnk 1 [(0, true), (1, true), (2, true), (3, true), (4, true), (5, true), (6, false)] (by kernel_rfl) rfl (by kernel_rfl) (by kernel_rfl) ?_
 refine dmv ?_
 refine D_q rfl (r_nilCheck rfl) rfl ?_
 refine dfb 7 T.fo139_4 ?_
 refine dlb 2 T.ag137 ?_
 refine dmv ?_
 refine D_q rfl (r_loadbk 1 (vs := [_, _, _, _]) rfl T.ag164 T.sz164 rfl rfl rfl) rfl ?_
 refine D_f rfl (fun hs3 hc3 => ?_)
 refine S_mapUpdate 0 Tryz.underlying137 Tryz.underlying3 rfl rfl rfl rfl ?_
 refine W_leftw hs3 hc3 (Imm.le_refl _) (sub_drop 1 rfl) ?_
 refine D_end ?_
 refine kk2 [6,8] (sq (rg ?_))
 refine mv (nt (as_ ?_))
 refine wn (kk1 [6] ?_)
 refine C_ret (RX_front 3 rfl rfl ?_)
 exact RX_d1 rfl rfl (sub_two 0 0 rfl rfl) ⟨rfl, by show [_, imap mb (putA (valL defV l) v (defV dd))] = _; rw [putA_val], rfl⟩
theorem shape_d {m : Imm} {bc : Nat} {A : Option Addr} {c : Nat} {B : Option Addr} {d : Nat} {f : FFun} {lev : Int} {X4 X5 X6 : Value} (hF : rFunc m [.slice A f.params.length c, .int .i64 f.ret, .slice B f.blocks.length d] f) (hb : Sl rBlock 5 m B d f.blocks) : Does Tryz.prog 116 [.pointer (some ⟨bc, 0, none⟩)] m ([bx bc 139 [.slice A f.params.length c, .int .i64 f.ret, .slice B f.blocks.length d, .int .i64 lev, X4, X5, X6, .map none]]) (fun m' R' v => v = .int .i64 (shapeP f) ∧ (shapeP f = 0 → ∃ g A1 A2 A3 c1 c2 c3, ofP f = some g ∧ R' = [bx bc 139 (CheckC f A B c d lev g A1 A2 A3 c1 c2 c3 (.map none))] ∧ Ints m' A3 c3 (treeP g 0))) := by
 have hbl := hb.len
 refine does_of Tryz.func116 rfl Tryz.ntmps116 rfl (fun w => ?_)
 refine sq (rg ?_)
 refine as_ ?_
 refine wn (kk2 [0,2] (sq (rg ?_)))
 refine mv ?_
 refine W_q (r_nilCheck rfl) rfl ?_
 refine fb 0 T.fo139_0 ?_
 refine W_q (r_loadbk 0 (vs := [_, _, _]) rfl T.ag25 T.sz25 rfl rfl rfl) rfl ?_
 refine S_gives (Of_g hF) T.hb65 rfl rfl (fun m1 v1 le1 hv1 => ?_)
 replace hF := rFunc_mono _ _ _ _ le1 hF
 replace hb := hb.mono rBlock_mono le1
 obtain ⟨_, rfl, A1, c1, B1, d1, rfl, h1, g1⟩ := hv1
 generalize hgq : graphQ (ofP f) = gq at *
 have hGr : rGraph _ [_, _] gq.1 := ⟨_, _, _, _, rfl, h1, g1⟩
 refine mv ?_
 refine W_q (r_extract rfl rfl) rfl ?_
 refine W_q (r_extract rfl rfl) rfl ?_
 refine sa2 T.ze79 (fun b2 => ?_)
 refine sb2 0 T.sz79 ?_
 refine as_ ?_
 refine wn (kk4 [0,2,3,4] (sq (sq (rg ?_))))
 refine mv (bn ?_)
 refine wn (kk4 [0,2,3,18] ?_)
 refine cd ?_ ?_ <;> intro h3 <;> try simp only [tt] at h3
 refine sq (rg ?_)
 refine as_ ?_
 refine wn (kk3 [0,2,3] ?_)
 have hcode := shapeP_none (graphQ_non hgq (by assumption))
 exact C_ret (RX_then (RX_d1 rfl rfl (List.nil_sublist _) ⟨by rw [hcode], fun h => by rw [hcode] at h; cases h⟩))
 refine sk (kk3 [0,2,3] (sq ?_))
 refine CW_front 1 rfl rfl ?_
 refine C_drawnk 1 [(0, true), (1, true), (2, true), (3, true), (4, false), (5, true), (6, true), (7, false), (8, true), (9, true), (10, false)] (by kernel_rfl) rfl (by kernel_rfl) (by kernel_rfl) ?_
 refine dmv ?_
 refine dmv ?_
 refine D_q rfl (r_loadbk 0 (vs := [_, _]) rfl T.ag79 T.sz79 rfl rfl rfl) rfl ?_
 refine D_q rfl (r_loadbk 0 (vs := [_, _]) rfl T.ag79 T.sz79 rfl rfl rfl) rfl ?_
 refine D_f rfl (fun hs4 hc4 => ?_)
 refine S_gives (Tree_g hGr _) T.hb150 rfl rfl (fun m5 v5 le5 hv5 => ?_)
 replace hF := rFunc_mono _ _ _ _ le5 hF
 replace hb := hb.mono rBlock_mono le5
 replace h1 := h1.mono (rS_mono rI_mono) le5
 replace g1 := g1.mono (rS_mono rI_mono) le5
 replace hGr := rGraph_mono _ _ _ _ le5 hGr
 obtain ⟨A5, c5, l5, rfl, h5, ht5, hn5⟩ := hv5
 refine W_leftw hs4 hc4 (le5) (sub_drop 1 rfl) ?_
 refine D_q rfl (r_nilCheck rfl) rfl ?_
 refine dfb 4 T.fo139_2 ?_
 refine D_f rfl (fun hs6 hc6 => ?_)
 refine sb8 0 T.sz79 ?_
 refine W_leftw hs6 hc6 (le5) (sub_drop 1 rfl) ?_
 refine D_q rfl (r_nilCheck rfl) rfl ?_
 refine dfb 6 T.fo139_3 ?_
 refine D_f rfl (fun hs7 hc7 => ?_)
 refine sb8 0 T.sz22 ?_
 refine W_leftw hs7 hc7 (le5) (sub_drop 1 rfl) ?_
 refine D_end ?_
 refine kk3 [0,2,3] (sq (sq (rg ?_)))
 have hg := graphQ_zero hgq (by assumption)
 obtain ⟨hmg, hsu, hsl, hn1, hn2⟩ := ofP_some hg
 have htr := (ht5 ⟨hmg, by omega, by omega⟩).2
 subst htr
 have hpl : gq.1.pred.length = f.blocks.length := by rw [(mayG_ok hmg).pred, predsP_length, hsl]
 refine mv ?_
 refine W_q (r_nilCheck rfl) rfl ?_
 refine fb 0 T.fo139_0 (fb 2 T.fo25_2 (lb 0 T.ag23 (ln Tryz.underlying23 (mv ?_))))
 refine wn (kk6 [0,2,3,32,33,34] ?_)
 refine C_range (Unit) (f.blocks.length) (fun k8 x8 => ∀ (j : Nat) b, j < k8 → f.blocks[j]? = some b → okShape gq.1 (treeP gq.1 0) j b = true) (fun k8 x8 => []) (fun _ _ => []) [] [0, 3, 32] (F := [(0, _), (3, _), (32, _)]) (()) rfl rfl (by omega) (fun j b h => by omega) rfl rfl rfl rfl rfl rfl rfl (fun _ _ => rfl) (fun _ _ => rfl) (fun k8 x8 hk8 hJ8 => ?_) (fun x8 hJ8 => ?_)
 obtain ⟨pr, hpr⟩ : ∃ pr, gq.1.pred[k8]? = some pr := ⟨_, List.getElem?_eq_getElem (by omega)⟩
 refine jj5 [0,3,32,33,34] (sq (rg ?_))
 refine mv ?_
 obtain ⟨ad9, hA9⟩ := hb.ad (j := k8) (by omega)
 obtain ⟨z9, hz9⟩ := hb.getz (j := k8) (by omega)
 refine ixz hA9 Tryz.underlying23 T.sz44 ?_
 obtain ⟨es10, f10, _, l10⟩ := Sl.get hb hA9 hz9
 have F10 := f10
 obtain ⟨A10, c10, B10, d10, C10, e10, rfl, hp10, ho10, ht10, i10a, i10b⟩ := f10
 refine W_q (r_load_immk (vs := [_, _, _, _, _]) rfl T.ag44 T.sz44 l10) rfl ?_
 refine sa5 T.ze44 (fun b11 => ?_)
 refine as_ ?_
 refine sb5 0 T.sz44 ?_
 refine wn (kk7 [0,3,5,6,32,33,34] (sq (sq (rg ?_))))
 refine mv ?_
 refine W_q (r_nilCheck rfl) rfl ?_
 refine fb 6 T.fo139_3 (lb 1 T.ag22 (mv (mv ?_)))
 refine W_quiet (Over_q h5 _ _ ⟨by omega, by omega⟩ ⟨by omega, by omega⟩) T.hb151 rfl rfl ?_
 refine nt ?_
 refine wn (kk8 [0,3,5,6,32,33,34,46] ?_)
 refine cd ?_ ?_ <;> intro h12 <;> try simp only [tt] at h12
 refine sq (rg ?_)
 refine as_ ?_
 refine wn (kk8 [0,2,3,5,6,32,33,34] ?_)
 have hcode : shapeP f = 5 := by
   exact shapeP_bad hg hz9 (okShape_f1 (by assumption))
 exact C_ret (RX_then (RX_block (RX_then (RX_block (RX_then (RX_d1 rfl rfl (List.nil_sublist _) ⟨by rw [hcode], fun h => by rw [hcode] at h; cases h⟩))))))
 refine sk (kk7 [0,3,5,6,32,33,34] (sq (sq (rg ?_))))
 refine fb 0 T.fo44_0 (lb 0 T.ag39 (ln Tryz.underlying39 (mv ?_)))
 refine wn (kk10 [0,3,5,6,32,33,34,48,49,50] ?_)
 refine C_range (Unit) (z9.phis.length) (fun k13 x13 => ∀ (j : Nat) p, j < k13 → z9.phis[j]? = some p → okPhi pr p = true) (fun k13 x13 => []) (fun _ _ => []) [] [0, 3, 5, 6, 32, 33, 34, 48] (F := [(0, _), (3, _), (5, _), (6, _), (32, _), (33, _), (34, _), (48, _)]) (()) rfl rfl (by have := hp10.len; omega) (fun j p h => by omega) rfl rfl rfl rfl rfl rfl rfl (fun _ _ => rfl) (fun _ _ => rfl) (fun k13 x13 hk13 hJ13 => ?_) (fun x13 hJ13 => ?_)
 refine jj10 [0,3,5,6,32,33,34,48,49,50] (sq (rg ?_))
 obtain ⟨ad14, hA14⟩ := hp10.ad (j := k13) (by omega)
 obtain ⟨z14, hz14⟩ := hp10.getz (j := k13) (by omega)
 refine ixz hA14 Tryz.underlying39 T.sz61 ?_
 obtain ⟨es15, f15, _, l15⟩ := Sl.get hp10 hA14 hz14
 have F15 := f15
 obtain ⟨A15, c15, B15, d15, rfl, h15, g15, i15a, i15b⟩ := f15
 refine W_q (r_load_immk (vs := [_, _, _, _]) rfl T.ag61 T.sz61 l15) rfl ?_
 refine sa4 T.ze61 (fun b16 => ?_)
 refine sb4 0 T.sz61 ?_
 refine wn (kk11 [0,3,5,6,8,32,33,34,48,49,50] (sq ?_))
 refine C_drawn [(0, true), (1, true), (2, true), (3, true), (4, true), (5, true), (6, true), (7, true), (8, true), (9, true), (10, true), (11, true), (12, true), (13, true), (14, true), (15, true), (16, true), (17, true), (18, true), (19, true), (20, true), (21, true), (22, true), (23, true)] (by kernel_rfl) rfl (by kernel_rfl) (by kernel_rfl) ?_
 refine dfb 2 T.fo61_2 ?_
 refine dlb 0 T.ag22 ?_
 refine D_q rfl (r_len Tryz.underlying22 rfl) rfl ?_
 refine D_q rfl (r_bin rfl rfl (bin_eql _ _ _ _)) rfl ?_
 refine dmv ?_
 refine D_split (t := 58) rfl (fun h17 => ?_) (fun h17 => ?_)
 (try simp only [tt] at h17)
 refine dps ?_
 refine dps ?_
 refine dps ?_
 refine dps ?_
 refine dps ?_
 refine dps ?_
 refine dps ?_
 refine dps ?_
 refine dps ?_
 refine D_q rfl (r_pick_t rfl rfl) rfl ?_
 refine dmv ?_
 refine dps ?_
 refine dps ?_
 refine dps ?_
 refine dps ?_
 refine dps ?_
 refine dps ?_
 refine dps ?_
 refine D_q rfl (r_pick_t rfl rfl) rfl ?_
 refine D_end ?_
 refine kk11 [0,3,5,6,32,33,34,48,49,50,77] ?_
 refine ctz (sq (rg ?_))
 refine as_ ?_
 refine wn (kk11 [0,2,3,5,6,32,33,34,48,49,50] ?_)
 have hcode : shapeP f = 5 := by
   exact shapeP_bad hg hz9 (okShape_f2 (by assumption) (by assumption) (okPhi_f1 (by omega)))
 exact C_ret (RX_block (RX_then (RX_block (RX_then (RX_block (RX_then (RX_block (RX_then (RX_d1 rfl rfl (List.nil_sublist _) ⟨by rw [hcode], fun h => by rw [hcode] at h; cases h⟩)))))))))
 (try simp only [tt] at h17)
 refine D_qt rfl rfl rfl (r_fieldb (o' := 2) rfl T.fo61_2 rfl) rfl ?_
 refine D_qt rfl rfl rfl (r_loadb 0 rfl T.ag22 rfl rfl) rfl ?_
 refine D_qt rfl rfl rfl (r_fieldb (o' := 1) rfl T.fo79_1 rfl) rfl ?_
 refine D_qt rfl rfl rfl (r_loadb 3 rfl T.ag65 rfl rfl) rfl ?_
 refine D_qt rfl rfl rfl (r_move rfl) rfl ?_
 obtain ⟨ad18, hA18⟩ := g1.ad (j := k8) (by omega)
 obtain ⟨z18, hz18⟩ := g1.getz (j := k8) (by omega)
 refine D_qt rfl rfl rfl (r_index hA18 Tryz.underlying65 T.sz22 rfl rfl ⟨by omega, by omega⟩) rfl ?_
 obtain ⟨A19, c19, l19, h19⟩ := Sl.getS g1 hA18 hz18
 refine D_qt rfl rfl rfl (r_load_imm rfl T.ag22 l19) rfl ?_
 refine D_quiett rfl rfl rfl (EqualI_q h15 h19) T.hb139 rfl rfl ?_
 refine D_qt rfl rfl rfl (r_not rfl) rfl ?_
 refine D_q rfl (r_pick_f rfl rfl) rfl ?_
 refine dmv ?_
 refine D_split (t := 69) rfl (fun h20 => ?_) (fun h20 => ?_)
 (try simp only [tt] at h20)
 refine dps ?_
 refine dps ?_
 refine dps ?_
 refine dps ?_
 refine dps ?_
 refine dps ?_
 refine dps ?_
 refine D_q rfl (r_pick_t rfl rfl) rfl ?_
 refine D_end ?_
 refine kk11 [0,3,5,6,32,33,34,48,49,50,77] ?_
 refine ctz (sq (rg ?_))
 refine as_ ?_
 refine wn (kk11 [0,2,3,5,6,32,33,34,48,49,50] ?_)
 have hcode : shapeP f = 5 := by
   exact shapeP_bad hg hz9 (okShape_f2 (by assumption) (by assumption) (okPhi_f2 (by assumption)))
 exact C_ret (RX_block (RX_then (RX_block (RX_then (RX_block (RX_then (RX_block (RX_then (RX_d1 rfl rfl (List.nil_sublist _) ⟨by rw [hcode], fun h => by rw [hcode] at h; cases h⟩)))))))))
 (try simp only [tt] at h20)
 refine D_qt rfl rfl rfl (r_fieldb (o' := 3) rfl T.fo61_3 rfl) rfl ?_
 refine D_qt rfl rfl rfl (r_loadb 0 rfl T.ag22 rfl rfl) rfl ?_
 refine D_qt rfl rfl rfl (r_len Tryz.underlying22 rfl) rfl ?_
 refine D_qt rfl rfl rfl (r_fieldb (o' := 2) rfl T.fo61_2 rfl) rfl ?_
 refine D_qt rfl rfl rfl (r_loadb 0 rfl T.ag22 rfl rfl) rfl ?_
 refine D_qt rfl rfl rfl (r_len Tryz.underlying22 rfl) rfl ?_
 refine D_qt rfl rfl rfl (r_bin rfl rfl (bin_neq _ _ _ _)) rfl ?_
 refine D_q rfl (r_pick_f rfl rfl) rfl ?_
 refine D_end ?_
 refine kk11 [0,3,5,6,32,33,34,48,49,50,77] ?_
 refine cd ?_ ?_ <;> intro h21 <;> try simp only [tt] at h21
 refine sq (rg ?_)
 refine as_ ?_
 refine wn (kk11 [0,2,3,5,6,32,33,34,48,49,50] ?_)
 have hcode : shapeP f = 5 := by
   exact shapeP_bad hg hz9 (okShape_f2 (by assumption) (by assumption) (okPhi_f3 (by omega)))
 exact C_ret (RX_block (RX_then (RX_block (RX_then (RX_block (RX_then (RX_block (RX_then (RX_d1 rfl rfl (List.nil_sublist _) ⟨by rw [hcode], fun h => by rw [hcode] at h; cases h⟩)))))))))
 refine sk (nb (?_))
 refine NX_rng [0, 3, 5, 6, 32, 33, 34, 48] (()) ?_ rfl (sub_drop 1 rfl) rfl (Imm.le_refl _)
 intro j p h1 h2
 by_cases e : j = k13
 · subst e; rw [hz14] at h2; cases h2; refine okPhi_t (by omega) ?_ (by omega); rw [hpr] at hz18; cases hz18; assumption
 · exact hJ13 j p (by omega) h2
 refine kk6 [0,3,6,32,33,34] (sq (rg ?_))
 refine fb 2 T.fo44_2 (fb 2 T.fo42_0 (lb 0 T.ag3 (be (mv ?_))))
 refine sp 83 ?_ ?_ <;> intro h22 <;> try simp only [tt] at h22
 refine ps (ps (ps (ps ?_)))
 refine pt (mv ?_)
 refine tk (fb 2 T.fo44_2 ?_)
 refine tk (fb 3 T.fo42_1 ?_)
 refine tk (lb 0 T.ag3 ?_)
 refine tk (bn (pt ?_))
 refine wn (kk6 [0,3,32,33,34,94] ?_)
 refine cd ?_ ?_ <;> intro h23 <;> try simp only [tt] at h23
 refine sq (rg ?_)
 refine as_ ?_
 refine wn (kk6 [0,2,3,32,33,34] ?_)
 have hcode : shapeP f = 5 := by
   exact shapeP_bad hg hz9 (okShape_f3 (by omega) (by omega))
 exact C_ret (RX_block (RX_then (RX_block (RX_then (RX_d1 rfl rfl (List.nil_sublist _) ⟨by rw [hcode], fun h => by rw [hcode] at h; cases h⟩)))))
 refine sk (nb (?_))
 refine NX_rng [0, 3, 32] (()) ?_ rfl (sub_drop 1 rfl) rfl (Imm.le_refl _)
 intro j b h1 h2
 by_cases e : j = k8
 · subst e; rw [hz9] at h2; cases h2; exact okShape_t hpr (by assumption) hJ13 (by omega)
 · exact hJ8 j b (by omega) h2
 refine tk (fb 2 T.fo44_2 ?_)
 refine tk (fb 2 T.fo42_0 ?_)
 refine tk (lb 0 T.ag3 ?_)
 refine tk (be (pf (mv ?_)))
 refine sp 89 ?_ ?_ <;> intro h24 <;> try simp only [tt] at h24
 refine tk (fb 2 T.fo44_2 ?_)
 refine tk (fb 3 T.fo42_1 ?_)
 refine tk (lb 0 T.ag3 ?_)
 refine tk (bn (pt ?_))
 refine wn (kk6 [0,3,32,33,34,94] ?_)
 refine cd ?_ ?_ <;> intro h25 <;> try simp only [tt] at h25
 refine sq (rg ?_)
 refine as_ ?_
 refine wn (kk6 [0,2,3,32,33,34] ?_)
 have hcode : shapeP f = 5 := by
   exact shapeP_bad hg hz9 (okShape_f3 (by omega) (by omega))
 exact C_ret (RX_block (RX_then (RX_block (RX_then (RX_d1 rfl rfl (List.nil_sublist _) ⟨by rw [hcode], fun h => by rw [hcode] at h; cases h⟩)))))
 refine sk (nb (?_))
 refine NX_rng [0, 3, 32] (()) ?_ rfl (sub_drop 1 rfl) rfl (Imm.le_refl _)
 intro j b h1 h2
 by_cases e : j = k8
 · subst e; rw [hz9] at h2; cases h2; exact okShape_t hpr (by assumption) hJ13 (by omega)
 · exact hJ8 j b (by omega) h2
 refine ps (ps (ps (ps ?_)))
 refine pf ?_
 refine wn (kk6 [0,3,32,33,34,94] ?_)
 refine cfz (sk (nb (?_)))
 refine NX_rng [0, 3, 32] (()) ?_ rfl (sub_drop 1 rfl) rfl (Imm.le_refl _)
 intro j b h1 h2
 by_cases e : j = k8
 · subst e; rw [hz9] at h2; cases h2; exact okShape_t hpr (by assumption) hJ13 (by omega)
 · exact hJ8 j b (by omega) h2
 refine kk0 [] (sq (rg ?_))
 refine as_ ?_
 refine wn (kk1 [2] ?_)
 have hcode := shapeP_ok hg (fun i b hi => hJ8 i b (List.getElem?_eq_some_iff.1 hi).1 hi)
 exact C_ret (RX_d1 rfl rfl (sub_one 0 rfl) ⟨by rw [hcode], fun _ => ⟨gq.1, _, _, _, _, _, _, hg, rfl, h5⟩⟩)
namespace T
theorem bl164 : bls? Tryz.prog 164 = some ([(0, 1), (1, 1), (2, 2)], ([(.int .i64 0), (.int .i64 0), (.int .i64 0), (.int .i64 0)] : List Value)) := by kernel_rfl
theorem hb159 : hasBody Tryz.prog 159 = true := by kernel_rfl
theorem hb161 : hasBody Tryz.prog 161 = true := by kernel_rfl
theorem hb162 : hasBody Tryz.prog 162 = true := by kernel_rfl
theorem hb163 : hasBody Tryz.prog 163 = true := by kernel_rfl
theorem sz137 : sz? Tryz.prog 137 = some 1 := by kernel_rfl
end T
theorem askD_ok {m : Imm} {bc mb : Nat} {A : Option Addr} {c : Nat} {B : Option Addr} {d : Nat} {f : FFun} {lev : Int} {X4 X5 : Value} {At : Option Addr} {ct : Nat} {t : List Int} (hC : Lies m bc [.slice A f.params.length c, .int .i64 f.ret, .slice B f.blocks.length d, .int .i64 lev, X4, X5, .slice At t.length ct, .map (some mb)]) (ht : Ints m At ct t) (hM : MapIn m mb (valL defV (defsL f))) {b1 : Nat} (hp : m.cell? ⟨b1, 0, none⟩ = some (.pointer (some ⟨bc, 0, none⟩))) : AskQ Tryz.prog 163 #[.pointer (some ⟨b1, 0, none⟩)] (askD f) m := fun m' le v s1 s2 b a hb => defined1_q (hC.mono le) (ht.mono rI_mono le) (hM.mono le) (le.cell hp) v s1 s2 b a hb
theorem askS_ok {m : Imm} {bc mb : Nat} {A : Option Addr} {c : Nat} {B : Option Addr} {d : Nat} {f : FFun} {lev : Int} {X4 X5 : Value} {At : Option Addr} {ct : Nat} {t : List Int} (hC : Lies m bc [.slice A f.params.length c, .int .i64 f.ret, .slice B f.blocks.length d, .int .i64 lev, X4, X5, .slice At t.length ct, .map (some mb)]) (ht : Ints m At ct t) (hM : MapIn m mb (valL defV (defsL f))) {b1 : Nat} (hp : m.cell? ⟨b1, 0, none⟩ = some (.pointer (some ⟨bc, 0, none⟩))) : AskQ Tryz.prog 164 #[.pointer (some ⟨b1, 0, none⟩)] (askS f) m := fun m' le v s1 s2 b a hb => shapes1_q (hC.mono le) (ht.mono rI_mono le) (hM.mono le) (le.cell hp) v s1 s2 b a hb
theorem askP_ok {m : Imm} {bc mb : Nat} {A : Option Addr} {c : Nat} {B : Option Addr} {d : Nat} {f : FFun} {lev : Int} {X4 X5 : Value} {At : Option Addr} {ct : Nat} {t : List Int} (hC : Lies m bc [.slice A f.params.length c, .int .i64 f.ret, .slice B f.blocks.length d, .int .i64 lev, X4, X5, .slice At t.length ct, .map (some mb)]) (ht : Ints m At ct t) (hM : MapIn m mb (valL defV (defsL f))) (hbl : f.blocks.length ≤ 140737488355328) {b1 : Nat} (hp : m.cell? ⟨b1, 0, none⟩ = some (.pointer (some ⟨bc, 0, none⟩))) : AskQ Tryz.prog 165 #[.pointer (some ⟨b1, 0, none⟩)] (askP f t) m := fun m' le v s1 s2 b a hb => places1_q (hC.mono le) (ht.mono rI_mono le) (hM.mono le) (defs_i64 hbl) (le.cell hp) v s1 s2 b a hb
theorem okDst_t {p : FPhi} (h : 1 ≤ p.dst ∧ p.dst ≤ 1023) : okDst p = true := by simp [okDst, h]
theorem okDst_f {p : FPhi} (h : p.dst < 1 ∨ 1023 < p.dst) : okDst p = false := by
  rw [okDst, Bool.and_eq_false_iff, decide_eq_false_iff_not, decide_eq_false_iff_not]; omega
theorem defined_d {m : Imm} {bc : Nat} {A : Option Addr} {c : Nat} {B : Option Addr} {d : Nat} {f : FFun} {lev : Int} {g : FGraph} {A1 A2 A3 : Option Addr} {c1 c2 c3 : Nat} (hq : Ints m A c f.params) (hb : Sl rBlock 5 m B d f.blocks) (ht : Ints m A3 c3 (treeP g 0)) (hphi : ∀ b ∈ f.blocks, ∀ p ∈ b.phis, p.args.length ≤ p.fr.length) : Does Tryz.prog 118 [.pointer (some ⟨bc, 0, none⟩)] m ([bx bc 139 (CheckC f A B c d lev g A1 A2 A3 c1 c2 c3 (.map none))]) (fun m' R' v => v = .int .i64 (definedP f) ∧ (definedP f = 0 → ∃ mb, R' = [bx bc 139 (CheckC f A B c d lev g A1 A2 A3 c1 c2 c3 (.map (some mb))), imap mb (valL defV (defsL f))])) := by
 have hbl := hb.len
 have hql := hq.len
 refine does_of Tryz.func118 rfl Tryz.ntmps118 rfl (fun w => ?_)
 refine sq (rg ?_)
 refine S_box (l := [_]) rfl rfl rfl (fun b1 => ?_)
 refine as_ ?_
 refine wn (kk2 [1,2] (sq (rg ?_)))
 refine lb 0 T.ag99 ?_
 refine S_makeMap rfl (fun rm => ?_)
 refine W_q (r_nilCheck rfl) rfl ?_
 refine fb 7 T.fo139_4 ?_
 refine sb8 2 T.sz137 ?_
 refine wn (kk2 [1,2] (sq (sq (rg ?_))))
 refine lb 1 T.ag99 ?_
 refine W_q (r_nilCheck rfl) rfl ?_
 refine fb 0 T.fo139_0 (fb 0 T.fo25_0 (lb 2 T.ag22 (ln Tryz.underlying22 (mv ?_))))
 refine wn (kk5 [1,2,21,22,23] ?_)
 refine CW_front 0 rfl rfl ?_
 refine CW_front 2 rfl rfl ?_
 refine C_range (List (Int × Def)) (f.params.length) (fun k2 x2 => x2 = (f.params.zipIdx.take k2).map paramD) (fun k2 x2 => []) (fun k2 x2 => [bx bc 139 (CheckC f A B c d lev g A1 A2 A3 c1 c2 c3 (.map (some rm))), imap rm (valL defV x2)]) [] [1, 2, 21] (F := [(1, _), (2, _), (21, _)]) ([]) rfl rfl (by omega) rfl rfl rfl rfl rfl rfl rfl rfl (fun _ _ => rfl) (fun _ _ => rfl) (fun k2 x2 hk2 hJ2 => ?_) (fun x2 hJ2 => ?_)
 refine jj5 [1,2,21,22,23] (sq (rg ?_))
 refine mv ?_
 obtain ⟨ad3, hA3⟩ := hq.ad (j := k2) (by omega)
 obtain ⟨z3, hz3⟩ := hq.getz (j := k2) (by omega)
 refine ixz hA3 Tryz.underlying22 T.sz3 ?_
 obtain ⟨l4, r4⟩ := Sl.getI hq hA3 hz3
 refine liz T.ag3 l4 ?_
 refine as_ (as_ ?_)
 refine wn (kk7 [1,2,3,4,21,22,23] ?_)
 refine CW_front 1 rfl rfl ?_
 refine CW_front 1 rfl rfl ?_
 refine C_drawnk 2 [(0, true), (1, true), (2, true), (3, true), (4, true), (5, true), (6, false)] (by kernel_rfl) rfl (by kernel_rfl) (by kernel_rfl) ?_
 refine dlb 0 T.ag99 ?_
 refine dmv ?_
 refine D_q rfl (r_add rfl rfl (by unfold I64 at *; omega)) rfl ?_
 refine dmv ?_
 refine D_quiet rfl (scalar_q _) T.hb160 rfl rfl ?_
 refine D_q rfl (r_builds (cs := [_, _, _, _]) T.bl164 rfl rfl) rfl ?_
 refine D_f rfl (fun hs5 hc5 => ?_)
 refine S_does (R0 := [_, _]) rfl (put_d ((k2 : Int) + 1) (-1, 0, z3, 1)) T.hb159 rfl rfl (fun m6 R6 v6 le6 hR6 => ?_)
 obtain ⟨rfl, rfl, rfl⟩ := hR6
 refine W_leftw hs5 hc5 (Imm.le_refl _) (sub_drop 2 rfl) ?_
 refine D_end ?_
 refine nb (?_)
 refine NX_rng [1, 2, 21] (_) ?_ rfl (List.Sublist.refl _) rfl (Imm.le_refl _)
 rw [hJ2]; exact params_step hz3
 obtain rfl : x2 = PD f := by rw [hJ2, List.take_of_length_le (by simp)]; rfl
 refine kk2 [1,2] (sq (sq (rg ?_)))
 refine lb 2 T.ag99 ?_
 refine W_q (r_nilCheck rfl) rfl ?_
 refine fb 0 T.fo139_0 (fb 2 T.fo25_2 (lb 0 T.ag23 (ln Tryz.underlying23 (mv ?_))))
 refine wn (kk5 [1,2,40,41,42] ?_)
 refine CW_front 1 rfl rfl ?_
 refine CW_front 1 rfl rfl ?_
 refine C_range (List (Int × Def)) (f.blocks.length) (fun k7 x7 => x7 = PD f ++ (f.blocks.zipIdx.take k7).flatMap blockD ∧ (x7.map (·.1)).Nodup ∧ ∀ (j : Nat) b, j < k7 → f.blocks[j]? = some b → ∀ p ∈ b.phis, okDst p = true) (fun k7 x7 => []) (fun k7 x7 => [bx bc 139 (CheckC f A B c d lev g A1 A2 A3 c1 c2 c3 (.map (some rm))), imap rm (valL defV x7)]) [] [1, 40] (F := [(1, _), (40, _)]) ((PD f)) rfl rfl (by omega) ⟨by simp, by have := params_nodup f f.params.length (Nat.le_refl _); rwa [List.take_of_length_le (by simp)] at this, fun j b h => by omega⟩ rfl rfl rfl rfl rfl rfl rfl (fun _ _ => rfl) (fun _ _ => rfl) (fun k7 x7 hk7 hJ7 => ?_) (fun x7 hJ7 => ?_)
 obtain ⟨hx1, hn1, ho1⟩ := hJ7
 refine jj4 [1,40,41,42] (sq (rg ?_))
 refine mv ?_
 obtain ⟨ad8, hA8⟩ := hb.ad (j := k7) (by omega)
 obtain ⟨z8, hz8⟩ := hb.getz (j := k7) (by omega)
 refine ixz hA8 Tryz.underlying23 T.sz44 ?_
 obtain ⟨es9, f9, _, l9⟩ := Sl.get hb hA8 hz8
 have F9 := f9
 obtain ⟨A9, c9, B9, d9, C9, e9, rfl, hp9, ho9, ht9, i9a, i9b⟩ := f9
 refine W_q (r_load_immk (vs := [_, _, _, _, _]) rfl T.ag44 T.sz44 l9) rfl ?_
 refine sa5 T.ze44 (fun b10 => ?_)
 refine as_ ?_
 refine sb5 0 T.sz44 ?_
 refine wn (kk6 [1,5,6,40,41,42] (sq (sq (rg ?_))))
 refine fb 0 T.fo44_0 (lb 0 T.ag39 (ln Tryz.underlying39 (mv ?_)))
 refine wn (kk9 [1,5,6,40,41,42,48,49,50] ?_)
 refine CW_front 2 rfl rfl ?_
 refine CW_front 2 rfl rfl ?_
 refine C_range (List (Int × Def)) (z8.phis.length) (fun k11 x11 => x11 = x7 ++ (z8.phis.take k11).map (phiD k7) ∧ (x11.map (·.1)).Nodup ∧ ∀ (j : Nat) p, j < k11 → z8.phis[j]? = some p → okDst p = true) (fun k11 x11 => []) (fun k11 x11 => [bx bc 139 (CheckC f A B c d lev g A1 A2 A3 c1 c2 c3 (.map (some rm))), imap rm (valL defV x11)]) [] [1, 5, 6, 40, 41, 42, 48] (F := [(1, _), (5, _), (6, _), (40, _), (41, _), (42, _), (48, _)]) (x7) rfl rfl (by have := hp9.len; omega) ⟨by simp, hn1, fun j p h => by omega⟩ rfl rfl rfl rfl rfl rfl rfl (fun _ _ => rfl) (fun _ _ => rfl) (fun k11 x11 hk11 hJ11 => ?_) (fun x11 hJ11 => ?_)
 obtain ⟨hx2, hn2, ho2⟩ := hJ11
 refine jj9 [1,5,6,40,41,42,48,49,50] (sq (rg ?_))
 obtain ⟨ad12, hA12⟩ := hp9.ad (j := k11) (by omega)
 obtain ⟨z12, hz12⟩ := hp9.getz (j := k11) (by omega)
 refine ixz hA12 Tryz.underlying39 T.sz61 ?_
 obtain ⟨es13, f13, _, l13⟩ := Sl.get hp9 hA12 hz12
 have F13 := f13
 obtain ⟨A13, c13, B13, d13, rfl, h13, g13, i13a, i13b⟩ := f13
 refine W_q (r_load_immk (vs := [_, _, _, _]) rfl T.ag61 T.sz61 l13) rfl ?_
 refine sa4 T.ze61 (fun b14 => ?_)
 refine sb4 0 T.sz61 ?_
 refine wn (kk10 [1,5,6,8,40,41,42,48,49,50] (sq ?_))
 refine CW_front 2 rfl rfl ?_
 refine CW_front 2 rfl rfl ?_
 refine C_drawnk 2 [(0, true), (1, true), (2, true), (3, true), (4, true), (5, true), (6, true), (7, true), (8, true), (9, true), (10, true), (11, true), (12, true), (13, true), (14, true), (15, true), (16, true), (17, false), (18, true), (19, true)] (by kernel_rfl) rfl (by kernel_rfl) (by kernel_rfl) ?_
 refine dfb 1 T.fo61_1 ?_
 refine dlb 0 T.ag3 ?_
 refine D_q rfl (r_bin rfl rfl (bin_lss _ _ _ _)) rfl ?_
 refine dmv ?_
 refine D_split (t := 57) rfl (fun h15 => ?_) (fun h15 => ?_)
 (try simp only [tt] at h15)
 refine dps ?_
 refine dps ?_
 refine dps ?_
 refine D_q rfl (r_pick_t rfl rfl) rfl ?_
 refine dmv ?_
 refine dps ?_
 refine dps ?_
 refine dps ?_
 refine dps ?_
 refine dps ?_
 refine dps ?_
 refine dps ?_
 refine dps ?_
 refine D_f rfl (fun hs16 hc16 => ?_)
 refine ps ?_
 refine W_leftw hs16 hc16 (Imm.le_refl _) (sub_drop 2 rfl) ?_
 refine dps ?_
 refine D_q rfl (r_pick_t rfl rfl) rfl ?_
 refine D_end ?_
 refine kk10 [1,5,6,40,41,42,48,49,50,73] ?_
 refine ctz (sq (rg ?_))
 refine as_ ?_
 refine wn (kk10 [1,2,5,6,40,41,42,48,49,50] ?_)
 have hcode : definedP f = 7 := by
   exact definedP_bad1 hz8 (by assumption) (okDst_f (by omega))
 exact C_ret (RX_block (RX_then (RX_block (RX_then (RX_block (RX_then (RX_block (RX_then (RX_d1 rfl rfl (List.nil_sublist _) ⟨by rw [hcode], fun h => by rw [hcode] at h; cases h⟩)))))))))
 (try simp only [tt] at h15)
 refine D_qt rfl rfl rfl (r_fieldb (o' := 1) rfl T.fo61_1 rfl) rfl ?_
 refine D_qt rfl rfl rfl (r_loadb 0 rfl T.ag3 rfl rfl) rfl ?_
 refine D_qt rfl rfl rfl (r_bin rfl rfl (bin_gtr _ _ _ _)) rfl ?_
 refine D_q rfl (r_pick_f rfl rfl) rfl ?_
 refine dmv ?_
 refine D_split (t := 62) rfl (fun h17 => ?_) (fun h17 => ?_)
 (try simp only [tt] at h17)
 refine dps ?_
 refine dps ?_
 refine dps ?_
 refine dps ?_
 refine dps ?_
 refine dps ?_
 refine dps ?_
 refine dps ?_
 refine D_f rfl (fun hs18 hc18 => ?_)
 refine ps ?_
 refine W_leftw hs18 hc18 (Imm.le_refl _) (sub_drop 2 rfl) ?_
 refine dps ?_
 refine D_q rfl (r_pick_t rfl rfl) rfl ?_
 refine D_end ?_
 refine kk10 [1,5,6,40,41,42,48,49,50,73] ?_
 refine ctz (sq (rg ?_))
 refine as_ ?_
 refine wn (kk10 [1,2,5,6,40,41,42,48,49,50] ?_)
 have hcode : definedP f = 7 := by
   exact definedP_bad1 hz8 (by assumption) (okDst_f (by omega))
 exact C_ret (RX_block (RX_then (RX_block (RX_then (RX_block (RX_then (RX_block (RX_then (RX_d1 rfl rfl (List.nil_sublist _) ⟨by rw [hcode], fun h => by rw [hcode] at h; cases h⟩)))))))))
 (try simp only [tt] at h17)
 refine D_qt rfl rfl rfl (r_loadb 2 rfl T.ag99 rfl rfl) rfl ?_
 refine D_qt rfl rfl rfl (r_fieldb (o' := 1) rfl T.fo61_1 rfl) rfl ?_
 refine D_qt rfl rfl rfl (r_loadb 0 rfl T.ag3 rfl rfl) rfl ?_
 refine D_qt rfl rfl rfl (r_move rfl) rfl ?_
 refine D_qt rfl rfl rfl (r_fieldb (o' := 0) rfl T.fo61_0 rfl) rfl ?_
 refine D_qt rfl rfl rfl (r_loadb 0 rfl T.ag3 rfl rfl) rfl ?_
 refine D_quiett rfl rfl rfl (scalar_q _) T.hb160 rfl rfl ?_
 refine D_qt rfl rfl rfl (r_builds (cs := [_, _, _, _]) T.bl164 rfl rfl) rfl ?_
 refine D_f rfl (fun hs19 hc19 => ?_)
 refine tk ?_
 refine S_does (R0 := [_, _]) rfl (put_d z12.dst ((k7 : Int), -1, z12.bits, 1)) T.hb159 rfl rfl (fun m20 R20 v20 le20 hR20 => ?_)
 obtain ⟨rfl, rfl, rfl⟩ := hR20
 refine W_leftw hs19 hc19 (Imm.le_refl _) (sub_drop 2 rfl) ?_
 refine D_qt rfl rfl rfl (r_not rfl) rfl ?_
 refine D_q rfl (r_pick_f rfl rfl) rfl ?_
 refine D_end ?_
 refine kk10 [1,5,6,40,41,42,48,49,50,73] ?_
 refine cd ?_ ?_ <;> intro h21 <;> try simp only [tt] at h21
 refine sq (rg ?_)
 refine as_ ?_
 refine wn (kk10 [1,2,5,6,40,41,42,48,49,50] ?_)
 have hcode : definedP f = 7 := by
   exact definedP_bad2 (x := x11) (v := z12.dst) (d := ((k7 : Int), -1, z12.bits, 1)) (by rw [hx2, hx1]; exact pre_phi hz8 hz12) (by simpa using h21)
 exact C_ret (RX_block (RX_then (RX_block (RX_then (RX_block (RX_then (RX_block (RX_then (RX_d1 rfl rfl (List.nil_sublist _) ⟨by rw [hcode], fun h => by rw [hcode] at h; cases h⟩)))))))))
 refine sk (nb (?_))
 refine NX_rng [1, 5, 6, 40, 41, 42, 48] (_) ?_ rfl (List.Sublist.cons_cons _ (List.Sublist.cons_cons _ (sub_drop 1 rfl))) rfl (Imm.le_refl _)
 have hnew : getL x11 z12.dst = none := by simpa using h21
 rw [putL_new hnew]
 refine ⟨by rw [hx2, take_map_succ hz12]; simp [phiD], nodup_snoc hn2 hnew, fun j p h1 h2 => ?_⟩
 by_cases e : j = k11
 · subst e; rw [hz12] at h2; cases h2; exact okDst_t (by omega)
 · exact ho2 j p (by omega) h2
 obtain ⟨hx2, hn2, ho2'⟩ := hJ11
 have ho2 : ∀ p ∈ z8.phis, okDst p = true := fun p hp => by
   obtain ⟨j, hj⟩ := List.mem_iff_getElem?.1 hp
   exact ho2' j p (List.getElem?_eq_some_iff.1 hj).1 hj
 rw [List.take_length] at hx2
 refine kk6 [1,5,6,40,41,42] (sq (rg ?_))
 refine fb 1 T.fo44_1 (lb 2 T.ag40 (ln Tryz.underlying40 (mv ?_)))
 refine wn (kk8 [1,5,40,41,42,76,77,78] ?_)
 refine CW_front 1 rfl rfl ?_
 refine CW_front 1 rfl rfl ?_
 refine C_range (List (Int × Def)) (z8.ops.length) (fun k22 x22 => x22 = x11 ++ (z8.ops.zipIdx.take k22).flatMap (opD k7) ∧ (x22.map (·.1)).Nodup) (fun k22 x22 => []) (fun k22 x22 => [bx bc 139 (CheckC f A B c d lev g A1 A2 A3 c1 c2 c3 (.map (some rm))), imap rm (valL defV x22)]) [] [1, 5, 40, 41, 42, 76] (F := [(1, _), (5, _), (40, _), (41, _), (42, _), (76, _)]) (x11) rfl rfl (by have := ho9.len; omega) ⟨by simp, hn2⟩ rfl rfl rfl rfl rfl rfl rfl (fun _ _ => rfl) (fun _ _ => rfl) (fun k22 x22 hk22 hJ22 => ?_) (fun x22 hJ22 => ?_)
 obtain ⟨hx3, hn3⟩ := hJ22
 refine jj8 [1,5,40,41,42,76,77,78] (sq (rg ?_))
 refine mv ?_
 obtain ⟨ad23, hA23⟩ := ho9.ad (j := k22) (by omega)
 obtain ⟨z23, hz23⟩ := ho9.getz (j := k22) (by omega)
 refine ixz hA23 Tryz.underlying40 T.sz51 ?_
 obtain ⟨es24, f24, _, l24⟩ := Sl.get ho9 hA23 hz23
 have F24 := f24
 obtain ⟨A24, c24, rfl, h24, i24a, i24b, i24c, i24d, i24e⟩ := f24
 refine W_q (r_load_immk (vs := [_, _, _, _, _, _]) rfl T.ag51 T.sz51 l24) rfl ?_
 refine sa6 T.ze51 (fun b25 => ?_)
 refine as_ ?_
 refine sb6 0 T.sz51 ?_
 refine wn (kk10 [1,5,9,10,40,41,42,76,77,78] (sq (rg ?_)))
 refine W_q (r_loadbk 0 (vs := [_, _, _, _, _, _]) rfl T.ag51 T.sz51 rfl rfl rfl) rfl ?_
 refine W_quiet (Gives_q F24) T.hb161 rfl rfl ?_
 refine mv ?_
 refine W_q (r_extract rfl rfl) rfl ?_
 refine W_q (r_extract rfl rfl) rfl ?_
 refine as_ (as_ ?_)
 refine wn (kk12 [1,5,9,10,11,12,40,41,42,76,77,78] (sq (rg ?_)))
 refine mv (bg (mv ?_))
 refine sp 90 ?_ ?_ <;> intro h26 <;> try simp only [tt] at h26
 refine tk (lb 4 T.ag99 ?_)
 refine tk (fb 3 T.fo51_3 ?_)
 refine tk (lb 0 T.ag3 ?_)
 refine tk (mv ?_)
 refine tk (mv ?_)
 refine tk (mv ?_)
 refine tk (mv ?_)
 refine tk ?_
 refine W_q (r_builda (zs := [_, _]) (cs := [_, _]) Tryz.underlying71 T.sz3 T.ze71 rfl rfl rfl) rfl ?_
 refine tk ?_
 refine W_q (r_builds (cs := [_, _, _, _]) T.bl164 rfl rfl) rfl ?_
 refine tk ?_
 refine WL_front 2 rfl rfl ?_
 refine WL_front 2 rfl rfl ?_
 refine S_does (R0 := [_, _]) rfl (put_d z23.dst ((k7 : Int), (k22 : Int), (givesP z23).1, (givesP z23).2)) T.hb159 rfl rfl (fun m27 R27 v27 le27 hR27 => ?_)
 obtain ⟨rfl, rfl, rfl⟩ := hR27
 refine tk (nt (pt ?_))
 refine wn (kk9 [1,5,40,41,42,76,77,78,102] ?_)
 refine cd ?_ ?_ <;> intro h28 <;> try simp only [tt] at h28
 refine sq (rg ?_)
 refine as_ ?_
 refine wn (kk9 [1,2,5,40,41,42,76,77,78] ?_)
 have hcode : definedP f = 7 := by
   exact definedP_bad2 (x := x22) (v := z23.dst) (d := ((k7 : Int), (k22 : Int), (givesP z23).1, (givesP z23).2)) (by rw [hx3, hx2, hx1]; have h := pre_op hz8 hz23; rwa [opD, if_pos (by omega)] at h) (by simpa using h28)
 exact C_ret (RX_block (RX_then (RX_block (RX_block (RX_then (RX_block (RX_then (RX_d1 rfl rfl (List.nil_sublist _) ⟨by rw [hcode], fun h => by rw [hcode] at h; cases h⟩))))))))
 refine sk (nb (?_))
 refine NX_rng [1, 5, 40, 41, 42, 76] (_) ?_ rfl (List.Sublist.cons_cons _ (List.Sublist.cons_cons _ (sub_drop 1 rfl))) rfl (Imm.le_refl _)
 have hnew : getL x22 z23.dst = none := by simpa using h28
 rw [putL_new hnew]
 refine ⟨by rw [hx3, flatD_take (zip_get hz23), opD, if_pos (by omega)]; simp, nodup_snoc hn3 hnew⟩
 refine ps (ps (ps (ps (ps (ps (ps (ps (ps (ps (ps ?_))))))))))
 refine pf ?_
 refine wn (kk9 [1,5,40,41,42,76,77,78,102] ?_)
 refine cfz (sk (nb (?_)))
 refine NX_rng [1, 5, 40, 41, 42, 76] (_) ?_ rfl (sub_drop 1 rfl) rfl (Imm.le_refl _)
 refine ⟨by rw [hx3, flatD_take (zip_get hz23), opD, if_neg (by omega)]; simp, hn3⟩
 obtain ⟨hx3, hn3⟩ := hJ22
 rw [take_all (by simp)] at hx3
 refine nb (?_)
 refine NX_rng [1, 40] (_) ?_ rfl (List.Sublist.cons_cons _ (List.Sublist.cons_cons _ (sub_drop 1 rfl))) rfl (Imm.le_refl _)
 refine ⟨by rw [hx3, hx2, hx1]; exact blockD_step hz8 _, hn3, fun j b h1 h2 => ?_⟩
 by_cases e : j = k7
 · subst e; rw [hz8] at h2; cases h2; exact ho2
 · exact ho1 j b (by omega) h2
 obtain ⟨hx1, hnd, hok⟩ := hJ7
 obtain rfl : x7 = defsL f := by rw [hx1, defsL_eq]
 refine kk1 [1] (sq (rg ?_))
 refine lb 2 T.ag99 ?_
 refine W_q (r_makeFunc (first := []) (cap := [_]) rfl rfl) rfl ?_
 refine W_q (r_quietx (fun w hp => by
 obtain ⟨m1, p1, le1, L1⟩ := hp.putB (i := 2) rfl
 obtain ⟨m2, p2, le2, L2⟩ := p1.putB (i := 0) rfl
 obtain ⟨m3, p3, le3, L3⟩ := p2.putM (i := 0) rfl
 have le := Imm.le_trans le1 (Imm.le_trans le2 le3)
 exact ⟨m3, p3.inW, uses_q (L2.mono le3) (hq.mono rI_mono le) (hb.mono rBlock_mono le) T.hb163 (askD_ok (L2.mono le3) (ht.mono rI_mono le) L3 ((L1.mono (Imm.le_trans le2 le3)) 0 _ rfl)) hphi⟩) T.hb162 rfl) rfl ?_
 refine as_ ?_
 refine wn (kk1 [2] ?_)
 exact C_ret (RX_d1 rfl rfl (sub_two 0 0 rfl rfl) ⟨by rw [definedP_ok hok hnd], fun _ => ⟨rm, rfl⟩⟩)
namespace T
theorem ag140 : agg? Tryz.prog 140 = some false := by kernel_rfl
theorem bl139 : bls? Tryz.prog 139 = some ([(0, 3), (3, 1), (4, 2), (6, 1), (7, 1)], ([(.slice none 0 0), (.int .i64 0), (.slice none 0 0), (.int .i64 0), (.slice none 0 0), (.slice none 0 0), (.slice none 0 0), (.map none)] : List Value)) := by kernel_rfl
theorem hb116 : hasBody Tryz.prog 116 = true := by kernel_rfl
theorem hb117 : hasBody Tryz.prog 117 = true := by kernel_rfl
theorem hb118 : hasBody Tryz.prog 118 = true := by kernel_rfl
theorem hb119 : hasBody Tryz.prog 119 = true := by kernel_rfl
theorem hb120 : hasBody Tryz.prog 120 = true := by kernel_rfl
theorem hb164 : hasBody Tryz.prog 164 = true := by kernel_rfl
theorem hb165 : hasBody Tryz.prog 165 = true := by kernel_rfl
theorem hb72 : hasBody Tryz.prog 72 = true := by kernel_rfl
theorem hb77 : hasBody Tryz.prog 77 = true := by kernel_rfl
theorem sz140 : sz? Tryz.prog 140 = some 1 := by kernel_rfl
theorem ze140 : zero? Tryz.prog 140 = some .nilFunc := by kernel_rfl
end T
def Lit5 (m : Imm) (ad : Addr) (vs : List Value) : Prop := ∀ j v, vs[j]? = some v → m.cell? (ad.add j) = some v
theorem Lit5.mono {m m' : Imm} {ad : Addr} {vs : List Value} (h : Lit5 m ad vs) (hm : m.le m') : Lit5 m' ad vs := fun j v hv => hm.cell (h j v hv)
def LookΦ (f : FFun) (lev : Int) (m : Imm) (v : Value) : Prop := ∃ bc, v = .tuple #[.pointer (some ⟨bc, 0, none⟩), .int .i64 (lookP f lev)] ∧ (lookP f lev = 0 → ∃ mb X0 X1 X2 X3 X4 X5 X6, Lies m bc [X0, X1, X2, X3, X4, X5, X6, .map (some mb)] ∧ MapIn m mb (valL defV (defsL f)))
section
variable {f : FFun} {lev : Int} {g : FGraph}
theorem look_4 (h : mayF f = false) : 4 = lookP f lev ∧ lookP f lev ≠ 0 := by
  have e : lookP f lev = 4 := if_pos h
  rw [e]; exact ⟨rfl, by decide⟩
theorem check_in (h : ¬ (lev < 0 ∨ 2 < lev)) : lookP f lev = checkP f lev := (if_neg h).symm
theorem look_s (h : mayF f = true) (h1 : ¬ shapeP f = 0) : shapeP f = lookP f lev ∧ lookP f lev ≠ 0 := by
  have e : lookP f lev = shapeP f := by simp [lookP, h, h1]
  rw [e]; exact ⟨rfl, h1⟩
theorem look_t (h : mayF f = true) (h1 : shapeP f = 0) (h2 : ¬ typedP f lev = 0) : typedP f lev = lookP f lev ∧ lookP f lev ≠ 0 := by
  have e : lookP f lev = typedP f lev := by simp [lookP, h, h1, h2]
  rw [e]; exact ⟨rfl, h2⟩
theorem look_d (h : mayF f = true) (h1 : shapeP f = 0) (h2 : typedP f lev = 0) (h3 : ¬ definedP f = 0) : definedP f = lookP f lev ∧ lookP f lev ≠ 0 := by
  have e : lookP f lev = definedP f := by simp [lookP, h, h1, h2, h3]
  rw [e]; exact ⟨rfl, h3⟩
theorem look_h (h : mayF f = true) (h1 : shapeP f = 0) (h2 : typedP f lev = 0) (h3 : definedP f = 0) (h4 : ¬ usesP f (askS f) = 0) : usesP f (askS f) = lookP f lev ∧ lookP f lev ≠ 0 := by
  have e : lookP f lev = usesP f (askS f) := by simp [lookP, h, h1, h2, h3, h4]
  rw [e]; exact ⟨rfl, h4⟩
theorem look_p (h : mayF f = true) (hg : ofP f = some g) (h1 : shapeP f = 0) (h2 : typedP f lev = 0) (h3 : definedP f = 0) (h4 : usesP f (askS f) = 0) (h5 : ¬ usesP f (askP f (treeP g 0)) = 0) : usesP f (askP f (treeP g 0)) = lookP f lev ∧ lookP f lev ≠ 0 := by
  have e : lookP f lev = usesP f (askP f (treeP g 0)) := by simp [lookP, h, h1, h2, h3, h4, hg]
  rw [e]; exact ⟨rfl, h5⟩
theorem look_0 (h : mayF f = true) (hg : ofP f = some g) (h1 : shapeP f = 0) (h2 : typedP f lev = 0) (h3 : definedP f = 0) (h4 : usesP f (askS f) = 0) (h5 : usesP f (askP f (treeP g 0)) = 0) : lookP f lev = 0 := by
  simp [lookP, h, h1, h2, h3, h4, h5, hg]
end
theorem shapes_q {m : Imm} {bc mb : Nat} {A : Option Addr} {c : Nat} {B : Option Addr} {d : Nat} {f : FFun} {lev : Int} {X4 X5 : Value} {At : Option Addr} {ct : Nat} {t : List Int} (hC : Lies m bc [.slice A f.params.length c, .int .i64 f.ret, .slice B f.blocks.length d, .int .i64 lev, X4, X5, .slice At t.length ct, .map (some mb)]) (ht : Ints m At ct t) (hM : MapIn m mb (valL defV (defsL f))) (hq : Ints m A c f.params) (hb : Sl rBlock 5 m B d f.blocks) (hphi : ∀ b ∈ f.blocks, ∀ p ∈ b.phis, p.args.length ≤ p.fr.length) : Quiet Tryz.prog 119 [.pointer (some ⟨bc, 0, none⟩)] m (.int .i64 (usesP f (askS f))) := by
 refine quiet_of Tryz.func119 rfl Tryz.ntmps119 rfl (fun w => ?_)
 refine sq (rg ?_)
 refine S_box (l := [_]) rfl rfl rfl (fun b1 => ?_)
 refine as_ ?_
 refine wn (kk2 [1,2] (sq (rg ?_)))
 refine lb 0 T.ag99 ?_
 refine W_q (r_makeFunc (first := []) (cap := [_]) rfl rfl) rfl ?_
 refine W_q (r_quietb 0 rfl (fun m' le hc => uses_q (hC.mono le) (hq.mono rI_mono le) (hb.mono rBlock_mono le) T.hb164 (askS_ok (hC.mono le) (ht.mono rI_mono le) (hM.mono le) (hc 0 _ rfl)) hphi) T.hb162 rfl) rfl ?_
 refine as_ ?_
 refine wn (kk1 [2] ?_)
 refine C_ret (RX_q1 rfl rfl ?_)
 rfl
theorem places_q {m : Imm} {bc mb : Nat} {A : Option Addr} {c : Nat} {B : Option Addr} {d : Nat} {f : FFun} {lev : Int} {X4 X5 : Value} {At : Option Addr} {ct : Nat} {t : List Int} (hC : Lies m bc [.slice A f.params.length c, .int .i64 f.ret, .slice B f.blocks.length d, .int .i64 lev, X4, X5, .slice At t.length ct, .map (some mb)]) (ht : Ints m At ct t) (hM : MapIn m mb (valL defV (defsL f))) (hq : Ints m A c f.params) (hb : Sl rBlock 5 m B d f.blocks) (hphi : ∀ b ∈ f.blocks, ∀ p ∈ b.phis, p.args.length ≤ p.fr.length) : Quiet Tryz.prog 120 [.pointer (some ⟨bc, 0, none⟩)] m (.int .i64 (usesP f (askP f t))) := by
 have hbl := hb.len
 refine quiet_of Tryz.func120 rfl Tryz.ntmps120 rfl (fun w => ?_)
 refine sq (rg ?_)
 refine S_box (l := [_]) rfl rfl rfl (fun b1 => ?_)
 refine as_ ?_
 refine wn (kk2 [1,2] (sq (rg ?_)))
 refine lb 0 T.ag99 ?_
 refine W_q (r_makeFunc (first := []) (cap := [_]) rfl rfl) rfl ?_
 refine W_q (r_quietb 0 rfl (fun m' le hc => uses_q (hC.mono le) (hq.mono rI_mono le) (hb.mono rBlock_mono le) T.hb165 (askP_ok (hC.mono le) (ht.mono rI_mono le) (hM.mono le) hbl (hc 0 _ rfl)) hphi) T.hb162 rfl) rfl ?_
 refine as_ ?_
 refine wn (kk1 [2] ?_)
 refine C_ret (RX_q1 rfl rfl ?_)
 rfl
theorem look_g {m : Imm} {es : List Value} {f : FFun} (hF : rFunc m es f) (lev : Int) : Gives Tryz.prog 77 [.agg es.toArray, .int .i64 lev] m (LookΦ f lev) := by
 have hF_0 := hF
 obtain ⟨A90, c90, B90, d90, rfl, hq90, hb90, i90a⟩ := hF_0
 refine gives_of Tryz.func77 rfl Tryz.ntmps77 rfl (fun w => ?_)
 refine sq (rg ?_)
 refine S_box (l := [_, _, _]) rfl rfl rfl (fun b1 => ?_)
 refine as_ (as_ ?_)
 refine wn (kk4 [1,2,4,5] (sq (rg ?_)))
 refine W_q (r_loadbk 0 (vs := [_, _, _]) rfl T.ag25 T.sz25 rfl rfl rfl) rfl ?_
 refine mv ?_
 refine W_q (r_builds (cs := [_, _, _, _, _, _, _, _]) T.bl139 rfl rfl) rfl ?_
 refine S_box (l := [_, _, _, _, _, _, _, _]) rfl rfl rfl (fun rc => ?_)
 refine as_ ?_
 refine wn (kk4 [2,4,5,6] (sq (sq (rg ?_))))
 refine W_q (r_loadbk 1 (vs := [_, _, _]) rfl T.ag25 T.sz25 rfl rfl rfl) rfl ?_
 refine W_quiet (MayF_q hF) T.hb72 rfl rfl ?_
 refine nt ?_
 refine wn (kk4 [4,5,6,16] ?_)
 refine cd ?_ ?_ <;> intro h2 <;> try simp only [tt] at h2
 refine sq (rg ?_)
 refine mv (as_ (as_ ?_))
 refine wn (kk3 [4,5,6] ?_)
 have hcode := look_4 (lev := lev) (by assumption)
 exact C_ret (RX_then (RX_g2 rfl rfl rfl ⟨_, by rw [← hcode.1], fun h => absurd h hcode.2⟩))
 refine sk (kk3 [4,5,6] (sq (sq (rg ?_))))
 refine mv ?_
 refine W_q (r_makeFunc (first := [_]) (cap := []) rfl rfl) rfl ?_
 refine mv ?_
 refine W_q (r_makeFunc (first := [_]) (cap := []) rfl rfl) rfl ?_
 refine mv ?_
 refine W_q (r_makeFunc (first := [_]) (cap := []) rfl rfl) rfl ?_
 refine mv ?_
 refine W_q (r_makeFunc (first := [_]) (cap := []) rfl rfl) rfl ?_
 refine mv ?_
 refine W_q (r_makeFunc (first := [_]) (cap := []) rfl rfl) rfl ?_
 refine S_lit (vs := [_, _, _, _, _]) (cs := [_, _, _, _, _]) Tryz.underlying141 T.sz140 T.ze140 rfl rfl rfl rfl rfl rfl (fun m3 ad3 le3 l3 => ?_)
 replace hF := rFunc_mono _ _ _ _ le3 hF
 replace hq90 := hq90.mono rI_mono le3
 replace hb90 := hb90.mono rBlock_mono le3
 have hl5 : Lit5 m3 ad3 [_, _, _, _, _] := l3
 refine ln Tryz.underlying141 (mv ?_)
 refine wn (kk6 [4,5,6,28,29,30] (bk ?_))
 refine C_unroll 5 ?_
 refine sq (rg ?_)
 refine bl ?_
 refine wn (kk7 [4,5,6,28,29,30,31] (sq ?_))
 refine ctz (sk (kk7 [4,5,6,28,29,30,31] (sq (bk (sq (rg ?_))))))
 refine W_q (r_index (ad := ad3) rfl Tryz.underlying141 T.sz140 rfl rfl ⟨by decide, by decide⟩) rfl ?_
 refine liz T.ag140 (hl5 0 _ rfl) ?_
 refine as_ ?_
 refine wn (kk10 [4,5,6,8,28,29,30,31,32,33] (sq (rg ?_)))
 refine mv ?_
 refine S_doesf (R0 := [_]) rfl rfl rfl rfl (shape_d hF hb90) T.hb116 rfl (fun m4 R4 v4 le4 hR4 => ?_)
 obtain ⟨rfl, hR4⟩ := hR4
 replace hF := rFunc_mono _ _ _ _ le4 hF
 replace hq90 := hq90.mono rI_mono le4
 replace hb90 := hb90.mono rBlock_mono le4
 replace hl5 := hl5.mono (le4)
 refine as_ ?_
 refine wn (kk13 [4,5,6,8,9,28,29,30,31,32,33,34,35] (sq (rg ?_)))
 refine mv (bn ?_)
 refine wn (kk15 [4,5,6,8,9,28,29,30,31,32,33,34,35,36,37] ?_)
 refine cd ?_ ?_ <;> intro h5 <;> try simp only [tt] at h5
 refine sq (rg ?_)
 refine mv (mv (as_ (as_ ?_)))
 refine wn (kk17 [4,5,6,8,9,28,29,30,31,32,33,34,35,36,37,38,39] ?_)
 have hcode := look_s (lev := lev) (by assumption) h5
 exact C_ret (RX_block (RX_then (RX_then (RX_block (RX_then (RX_g2 rfl rfl rfl ⟨_, by rw [← hcode.1], fun h => absurd h hcode.2⟩))))))
 refine sk (nb (kk15 [4,5,6,8,9,28,29,30,31,32,33,34,35,36,37] (rg ?_)))
 have hs0 : shapeP f = 0 := by simpa using h5
 obtain ⟨g, A1, A2, A3, c1, c2, c3, hg, rfl, ht⟩ := hR4 hs0
 have hphi := shapeP_phis hs0
 refine W_q (r_add rfl rfl ⟨by decide, by decide⟩) rfl ?_
 refine mv ?_
 refine wn ?_
 refine NX_unroll 4 (L' := [(4, _), (5, _), (6, _), (8, _), (9, _), (28, _), (29, _), (30, _), (31, _), (32, _), (33, _), (34, _), (35, _), (36, _), (37, _), (40, _)]) [4, 5, 6, 8, 9, 28, 29, 30, 31, 32, 33, 34, 35, 36, 37, 40] rfl ?_
 refine sq (rg ?_)
 refine bl ?_
 refine wn (kk16 [4,5,6,8,9,28,29,30,31,32,33,34,35,36,37,40] (sq ?_))
 refine ctz (sk (kk16 [4,5,6,8,9,28,29,30,31,32,33,34,35,36,37,40] (sq (bk (sq (rg ?_))))))
 refine W_q (r_index (ad := ad3) rfl Tryz.underlying141 T.sz140 rfl rfl ⟨by decide, by decide⟩) rfl ?_
 refine liz T.ag140 (hl5 1 _ rfl) ?_
 refine as_ ?_
 refine wn (kk16 [4,5,6,8,9,28,29,30,31,32,33,34,35,36,37,40] (sq (rg ?_)))
 refine mv ?_
 refine W_q (r_callf rfl T.hb117 rfl rfl (fun w hp => by
 obtain ⟨m1, p1, le1, L1⟩ := hp.putB (i := 0) rfl
 exact ⟨m1, p1.inW, typed_q L1 (hq90.mono rI_mono le1) (hb90.mono rBlock_mono le1)⟩)) rfl ?_
 refine as_ ?_
 refine wn (kk16 [4,5,6,8,9,28,29,30,31,32,33,34,35,36,37,40] (sq (rg ?_)))
 refine mv (bn ?_)
 refine wn (kk16 [4,5,6,8,9,28,29,30,31,32,33,34,35,36,37,40] ?_)
 refine cd ?_ ?_ <;> intro h7 <;> try simp only [tt] at h7
 refine sq (rg ?_)
 refine mv (mv (as_ (as_ ?_)))
 refine wn (kk18 [4,5,6,8,9,28,29,30,31,32,33,34,35,36,37,38,39,40] ?_)
 have hcode := look_t (lev := lev) (by assumption) hs0 h7
 exact C_ret (RX_block (RX_then (RX_then (RX_block (RX_then (RX_g2 rfl rfl rfl ⟨_, by rw [← hcode.1], fun h => absurd h hcode.2⟩))))))
 refine sk (nb (kk16 [4,5,6,8,9,28,29,30,31,32,33,34,35,36,37,40] (rg ?_)))
 have hs1 : typedP f lev = 0 := by simpa using h7
 refine W_q (r_add rfl rfl ⟨by decide, by decide⟩) rfl ?_
 refine mv ?_
 refine wn ?_
 refine NX_unroll 3 (L' := [(4, _), (5, _), (6, _), (8, _), (9, _), (28, _), (29, _), (30, _), (31, _), (32, _), (33, _), (34, _), (35, _), (36, _), (37, _), (40, _)]) [4, 5, 6, 8, 9, 28, 29, 30, 31, 32, 33, 34, 35, 36, 37, 40] rfl ?_
 refine sq (rg ?_)
 refine bl ?_
 refine wn (kk16 [4,5,6,8,9,28,29,30,31,32,33,34,35,36,37,40] (sq ?_))
 refine ctz (sk (kk16 [4,5,6,8,9,28,29,30,31,32,33,34,35,36,37,40] (sq (bk (sq (rg ?_))))))
 refine W_q (r_index (ad := ad3) rfl Tryz.underlying141 T.sz140 rfl rfl ⟨by decide, by decide⟩) rfl ?_
 refine liz T.ag140 (hl5 2 _ rfl) ?_
 refine as_ ?_
 refine wn (kk16 [4,5,6,8,9,28,29,30,31,32,33,34,35,36,37,40] (sq (rg ?_)))
 refine mv ?_
 refine S_doesf (R0 := [_]) rfl rfl rfl rfl (defined_d hq90 hb90 ht hphi) T.hb118 rfl (fun m8 R8 v8 le8 hR8 => ?_)
 obtain ⟨rfl, hR8⟩ := hR8
 replace hF := rFunc_mono _ _ _ _ le8 hF
 replace hq90 := hq90.mono rI_mono le8
 replace hb90 := hb90.mono rBlock_mono le8
 replace hl5 := hl5.mono (le8)
 replace ht := ht.mono rI_mono le8
 refine as_ ?_
 refine wn (kk16 [4,5,6,8,9,28,29,30,31,32,33,34,35,36,37,40] (sq (rg ?_)))
 refine mv (bn ?_)
 refine wn (kk16 [4,5,6,8,9,28,29,30,31,32,33,34,35,36,37,40] ?_)
 refine cd ?_ ?_ <;> intro h9 <;> try simp only [tt] at h9
 refine sq (rg ?_)
 refine mv (mv (as_ (as_ ?_)))
 refine wn (kk18 [4,5,6,8,9,28,29,30,31,32,33,34,35,36,37,38,39,40] ?_)
 have hcode := look_d (lev := lev) (by assumption) hs0 hs1 h9
 exact C_ret (RX_block (RX_then (RX_then (RX_block (RX_then (RX_g2 rfl rfl rfl ⟨_, by rw [← hcode.1], fun h => absurd h hcode.2⟩))))))
 refine sk (nb (kk16 [4,5,6,8,9,28,29,30,31,32,33,34,35,36,37,40] (rg ?_)))
 have hs2 : definedP f = 0 := by simpa using h9
 obtain ⟨mb, rfl⟩ := hR8 hs2
 refine WL_freezeB 0 rfl (fun _ h => h) (fun m10 le10 hC => ?_)
 replace hF := rFunc_mono _ _ _ _ le10 hF
 replace hq90 := hq90.mono rI_mono le10
 replace hb90 := hb90.mono rBlock_mono le10
 replace hl5 := hl5.mono (le10)
 replace ht := ht.mono rI_mono le10
 refine WL_freezeM 0 rfl (fun _ h => h) (fun m11 le11 hM => ?_)
 replace hF := rFunc_mono _ _ _ _ le11 hF
 replace hq90 := hq90.mono rI_mono le11
 replace hb90 := hb90.mono rBlock_mono le11
 replace hl5 := hl5.mono (le11)
 replace ht := ht.mono rI_mono le11
 replace hC := hC.mono (le11)
 refine W_q (r_add rfl rfl ⟨by decide, by decide⟩) rfl ?_
 refine mv ?_
 refine wn ?_
 refine NX_unroll 2 (L' := [(4, _), (5, _), (6, _), (8, _), (9, _), (28, _), (29, _), (30, _), (31, _), (32, _), (33, _), (34, _), (35, _), (36, _), (37, _), (40, _)]) [4, 5, 6, 8, 9, 28, 29, 30, 31, 32, 33, 34, 35, 36, 37, 40] rfl ?_
 refine sq (rg ?_)
 refine bl ?_
 refine wn (kk16 [4,5,6,8,9,28,29,30,31,32,33,34,35,36,37,40] (sq ?_))
 refine ctz (sk (kk16 [4,5,6,8,9,28,29,30,31,32,33,34,35,36,37,40] (sq (bk (sq (rg ?_))))))
 refine W_q (r_index (ad := ad3) rfl Tryz.underlying141 T.sz140 rfl rfl ⟨by decide, by decide⟩) rfl ?_
 refine liz T.ag140 (hl5 3 _ rfl) ?_
 refine as_ ?_
 refine wn (kk16 [4,5,6,8,9,28,29,30,31,32,33,34,35,36,37,40] (sq (rg ?_)))
 refine mv ?_
 refine W_q (r_callf rfl T.hb119 rfl rfl (fun w hp => ⟨_, hp.inW, shapes_q hC ht hM hq90 hb90 hphi⟩)) rfl ?_
 refine as_ ?_
 refine wn (kk16 [4,5,6,8,9,28,29,30,31,32,33,34,35,36,37,40] (sq (rg ?_)))
 refine mv (bn ?_)
 refine wn (kk16 [4,5,6,8,9,28,29,30,31,32,33,34,35,36,37,40] ?_)
 refine cd ?_ ?_ <;> intro h13 <;> try simp only [tt] at h13
 refine sq (rg ?_)
 refine mv (mv (as_ (as_ ?_)))
 refine wn (kk18 [4,5,6,8,9,28,29,30,31,32,33,34,35,36,37,38,39,40] ?_)
 have hcode := look_h (lev := lev) (by assumption) hs0 hs1 hs2 h13
 exact C_ret (RX_block (RX_then (RX_then (RX_block (RX_then (RX_g2 rfl rfl rfl ⟨_, by rw [← hcode.1], fun h => absurd h hcode.2⟩))))))
 refine sk (nb (kk16 [4,5,6,8,9,28,29,30,31,32,33,34,35,36,37,40] (rg ?_)))
 have hs3 : usesP f (askS f) = 0 := by simpa using h13
 refine W_q (r_add rfl rfl ⟨by decide, by decide⟩) rfl ?_
 refine mv ?_
 refine wn ?_
 refine NX_unroll 1 (L' := [(4, _), (5, _), (6, _), (8, _), (9, _), (28, _), (29, _), (30, _), (31, _), (32, _), (33, _), (34, _), (35, _), (36, _), (37, _), (40, _)]) [4, 5, 6, 8, 9, 28, 29, 30, 31, 32, 33, 34, 35, 36, 37, 40] rfl ?_
 refine sq (rg ?_)
 refine bl ?_
 refine wn (kk16 [4,5,6,8,9,28,29,30,31,32,33,34,35,36,37,40] (sq ?_))
 refine ctz (sk (kk16 [4,5,6,8,9,28,29,30,31,32,33,34,35,36,37,40] (sq (bk (sq (rg ?_))))))
 refine W_q (r_index (ad := ad3) rfl Tryz.underlying141 T.sz140 rfl rfl ⟨by decide, by decide⟩) rfl ?_
 refine liz T.ag140 (hl5 4 _ rfl) ?_
 refine as_ ?_
 refine wn (kk16 [4,5,6,8,9,28,29,30,31,32,33,34,35,36,37,40] (sq (rg ?_)))
 refine mv ?_
 refine W_q (r_callf rfl T.hb120 rfl rfl (fun w hp => ⟨_, hp.inW, places_q hC ht hM hq90 hb90 hphi⟩)) rfl ?_
 refine as_ ?_
 refine wn (kk16 [4,5,6,8,9,28,29,30,31,32,33,34,35,36,37,40] (sq (rg ?_)))
 refine mv (bn ?_)
 refine wn (kk16 [4,5,6,8,9,28,29,30,31,32,33,34,35,36,37,40] ?_)
 refine cd ?_ ?_ <;> intro h15 <;> try simp only [tt] at h15
 refine sq (rg ?_)
 refine mv (mv (as_ (as_ ?_)))
 refine wn (kk18 [4,5,6,8,9,28,29,30,31,32,33,34,35,36,37,38,39,40] ?_)
 have hcode := look_p (lev := lev) (by assumption) hg hs0 hs1 hs2 hs3 h15
 exact C_ret (RX_block (RX_then (RX_then (RX_block (RX_then (RX_g2 rfl rfl rfl ⟨_, by rw [← hcode.1], fun h => absurd h hcode.2⟩))))))
 refine sk (nb (kk16 [4,5,6,8,9,28,29,30,31,32,33,34,35,36,37,40] (rg ?_)))
 have hs4 : usesP f (askP f (treeP g 0)) = 0 := by simpa using h15
 refine W_q (r_add rfl rfl ⟨by decide, by decide⟩) rfl ?_
 refine mv ?_
 refine wn ?_
 refine NX_unroll 0 (L' := [(4, _), (5, _), (6, _), (8, _), (9, _), (28, _), (29, _), (30, _), (31, _), (32, _), (33, _), (34, _), (35, _), (36, _), (37, _), (40, _)]) [4, 5, 6, 8, 9, 28, 29, 30, 31, 32, 33, 34, 35, 36, 37, 40] rfl ?_
 refine sq (rg ?_)
 refine bl ?_
 refine wn (kk16 [4,5,6,8,9,28,29,30,31,32,33,34,35,36,37,40] (sq ?_))
 refine cfz ?_
 refine C_exit (EX_then (EX_then (EX_hit (?_))))
 refine kk3 [4,5,6] (sq (rg ?_))
 refine mv (as_ (as_ ?_))
 refine wn (kk2 [4,5] ?_)
 have hcode := look_0 (lev := lev) (by assumption) hg hs0 hs1 hs2 hs3 hs4
 exact C_ret (RX_g2 rfl rfl rfl ⟨_, by rw [hcode], fun _ => ⟨_, _, _, _, _, _, _, _, hC, hM⟩⟩)
theorem Check_q {m : Imm} {es : List Value} {f : FFun} (hF : rFunc m es f) (lev : Int) : Quiet Tryz.prog 36 [.agg es.toArray, .int .i64 lev] m (.int .i64 (checkP f lev)) := by
 have hF_0 := hF
 obtain ⟨A90, c90, B90, d90, rfl, hq90, hb90, i90a⟩ := hF_0
 refine quiet_of Tryz.func36 rfl Tryz.ntmps36 rfl (fun w => ?_)
 refine sq (rg ?_)
 refine S_box (l := [_, _, _]) rfl rfl rfl (fun b1 => ?_)
 refine as_ ?_
 refine wn (kk3 [1,2,4] (sq (sq (rg ?_))))
 refine mv (bl (mv ?_))
 refine sp 9 ?_ ?_ <;> intro h2 <;> try simp only [tt] at h2
 refine ps (ps ?_)
 refine pt ?_
 refine wn (kk4 [1,2,4,12] ?_)
 refine ctz (sq (rg ?_))
 refine as_ ?_
 refine wn (kk3 [1,2,4] ?_)
 refine C_ret (RX_then (RX_q1 rfl rfl ?_))
 rw [checkP, if_pos (by omega)]
 refine tk (mv ?_)
 refine tk (bg (pf ?_))
 refine wn (kk4 [1,2,4,12] ?_)
 refine cd ?_ ?_ <;> intro h3 <;> try simp only [tt] at h3
 refine sq (rg ?_)
 refine as_ ?_
 refine wn (kk3 [1,2,4] ?_)
 refine C_ret (RX_then (RX_q1 rfl rfl ?_))
 rw [checkP, if_pos (by omega)]
 refine sk (kk3 [1,2,4] (sq (rg ?_)))
 refine W_q (r_loadbk 0 (vs := [_, _, _]) rfl T.ag25 T.sz25 rfl rfl rfl) rfl ?_
 refine mv ?_
 refine S_gives (look_g hF _) T.hb77 rfl rfl (fun m4 v4 le4 hv4 => ?_)
 replace hF := rFunc_mono _ _ _ _ le4 hF
 replace hq90 := hq90.mono rI_mono le4
 replace hb90 := hb90.mono rBlock_mono le4
 obtain ⟨bc4, rfl, hl4⟩ := hv4
 refine mv ?_
 refine W_q (r_extract rfl rfl) rfl ?_
 refine W_q (r_extract rfl rfl) rfl ?_
 refine as_ (as_ ?_)
 refine wn (kk2 [4,6] (sq (rg ?_)))
 refine mv (as_ ?_)
 refine wn (kk1 [4] ?_)
 refine C_ret (RX_q1 rfl rfl ?_)
 exact congrArg (Value.int .i64) (check_in (by omega))
namespace T
theorem hb53 : hasBody Tryz.prog 53 = true := by kernel_rfl
theorem hb84 : hasBody Tryz.prog 84 = true := by kernel_rfl
end T
theorem SortG_d {m : Imm} {g : Option Nat} {cap : Nat} {l : List Int} (hg : 0 < l.length → ∃ b, g = some b) (hl : l.length ≤ 1000000) : Does Tryz.prog 84 [slI g cap l] m [rowI 3 g cap l] (fun m' R' v => m' = m ∧ R' = [rowI 3 g cap (l.mergeSort fun x y => decide (x ≤ y))] ∧ v = .tuple #[]) :=
  does_putO (fun l => l.mergeSort fun x y => decide (x ≤ y)) (by simp) (by simp) hg (fun b w hH hb => Tryz.slices_Sort_int b 0 cap l w hH hb (by omega)) (fun a w => Tryz.slices_Sort_int_none a cap w)
theorem getD_some {l : List (Int × Int)} {x : Int} (h : (getL l x).isSome = true) : getL l x = some ((getL l x).getD 0) := by
  cases hx : getL l x with
  | none => rw [hx] at h; cases h
  | some v => rfl
theorem isSome_f {l : List (Int × Int)} {x : Int} (h : (getL l x).isSome = false) : getL l x = none := by
  cases hx : getL l x with
  | none => rfl
  | some v => rw [hx] at h; cases h
theorem take_map_one {α : Type _} {l : List α} {k : Nat} {z : α} (h : l[k]? = some z) : l.take (k + 1) = l.take k ++ [z] := by
  rw [List.take_add_one, h]; rfl
theorem hangs_g {m : Imm} {es : List Value} {b : FBlk} (hB : rBlock m es b) (hol : b.ops.length ≤ 512) (hal : ∀ o ∈ b.ops, o.args.length ≤ 64) : Gives Tryz.prog 52 [.agg es.toArray] m (fun m' v => ∃ A' c', v = .slice A' (hangsP b.ops).length c' ∧ Sl (rS rI 1) 1 m' A' c' (hangsP b.ops)) := by
 have hB_0 := hB
 obtain ⟨A93, c93, B93, d93, C93, e93, rfl, hp93, ho93, ht93, i93a, i93b⟩ := hB_0
 refine gives_of Tryz.func52 rfl Tryz.ntmps52 rfl (fun w => ?_)
 refine sq (rg ?_)
 refine S_box (l := [_, _, _, _, _]) rfl rfl rfl (fun b1 => ?_)
 refine as_ ?_
 refine wn (kk2 [1,2] (sq (rg ?_)))
 refine fb 1 T.fo44_1 (lb 0 T.ag40 (ln Tryz.underlying40 ?_))
 refine S_make1 b.ops.length Tryz.underlying65 T.sz22 T.ze22 T.by22 rfl rfl rfl rfl rfl (by omega) (by unfold maxLen; omega) rfl (fun bo => ?_)
 refine as_ ?_
 refine wn (kk3 [1,2,3] (sq (rg ?_)))
 refine S_makeMap rfl (fun rm => ?_)
 refine as_ ?_
 refine wn (kk4 [1,2,3,4] (sq (rg ?_)))
 refine as_ ?_
 refine wn (kk5 [1,2,3,4,5] (sq (sq (rg ?_))))
 refine fb 1 T.fo44_1 (lb 2 T.ag40 (ln Tryz.underlying40 (mv ?_)))
 refine wn (kk7 [2,3,4,5,18,19,20] ?_)
 refine CW_nilRow 3 1 ?_
 refine CW_front 0 rfl rfl ?_
 refine CW_front 1 rfl rfl ?_
 refine CW_front 2 rfl rfl ?_
 refine C_rangeM (List Value × (Option Nat × Nat × List Int) × List (Int × Int)) (b.ops.length) (fun k2 mk2 x2 => m.le mk2 ∧ (x2.1.length = b.ops.length ∧ SlCells mk2 (x2.1.take k2) ((hangsP b.ops).take k2) ∧ (∀ j, k2 ≤ j → j < b.ops.length → x2.1[j]? = some (.slice none 0 0)) ∧ x2.2.1.2.2 = impH b.ops k2 ∧ (0 < x2.2.1.2.2.length → ∃ b, x2.2.1.1 = some b) ∧ x2.2.2 = defsH b.ops k2)) (fun k2 x2 => [(5, .slice (rowA x2.2.1.1) x2.2.1.2.2.length x2.2.1.2.1)]) (fun k2 x2 => [row (some bo) b.ops.length b.ops.length 22 1 x2.1, imap rm (valL idV x2.2.2), rowI 3 x2.2.1.1 x2.2.1.2.1 x2.2.1.2.2]) [5] [2, 3, 4, 18] (F := [(2, _), (3, _), (4, _), (18, _)]) ((List.replicate b.ops.length (.slice none 0 0), (none, 0, []), [])) rfl rfl (by omega) ⟨Imm.le_refl _, ⟨by simp, SlCells.nil _, fun j h1 h2 => by rw [List.getElem?_replicate, if_pos h2], rfl, by simp, rfl⟩⟩ rfl rfl rfl rfl rfl rfl rfl (fun _ _ => rfl) (fun _ _ => rfl) (fun k2 mk2 x2 hk2 hJ2 => ?_) (fun mk2 x2 hJ2 => ?_)
 obtain ⟨hle2, hJ2⟩ := hJ2
 replace hB := rBlock_mono _ _ _ _ hle2 hB
 replace hp93 := hp93.mono rPhi_mono hle2
 replace ho93 := ho93.mono rOp_mono hle2
 replace ht93 := ht93.mono rI_mono hle2
 obtain ⟨hc1, hc2, hc3, hc4, hgi, hc6⟩ := hJ2
 have hc4e := congrArg List.length hc4
 have him := impH_len b.ops k2
 refine jj7 [2,3,4,5,18,19,20] (sq (rg ?_))
 refine mv ?_
 obtain ⟨ad4, hA4⟩ := ho93.ad (j := k2) (by omega)
 obtain ⟨z4, hz4⟩ := ho93.getz (j := k2) (by omega)
 refine ixz hA4 Tryz.underlying40 T.sz51 ?_
 obtain ⟨es5, f5, _, l5⟩ := Sl.get ho93 hA4 hz4
 have F5 := f5
 obtain ⟨A5, c5, rfl, h5, i5a, i5b, i5c, i5d, i5e⟩ := f5
 refine W_q (r_load_immk (vs := [_, _, _, _, _, _]) rfl T.ag51 T.sz51 l5) rfl ?_
 refine sa6 T.ze51 (fun b6 => ?_)
 refine as_ ?_
 refine sb6 0 T.sz51 ?_
 refine wn (kk9 [2,3,4,5,6,7,18,19,20] (sq (sq (rg ?_))))
 refine fb 4 T.fo51_4 (lb 0 T.ag22 (ln Tryz.underlying22 (mv ?_)))
 refine wn (kk12 [2,3,4,5,6,7,18,19,20,26,27,28] ?_)
 refine CW_nilRow 3 1 ?_
 refine CW_front 2 rfl rfl ?_
 refine CW_front 1 rfl rfl ?_
 refine C_range ((Option Nat × Nat × List Int) × List Value) (z4.args.length) (fun k7 x7 => x7.2 = x2.1.set k2 (slI x7.1.1 x7.1.2.1 x7.1.2.2) ∧ x7.1.2.2 = argsH b.ops k2 (z4.args.take k7) ∧ (0 < x7.1.2.2.length → ∃ b, x7.1.1 = some b)) (fun k7 x7 => []) (fun k7 x7 => [rowI 3 x7.1.1 x7.1.2.1 x7.1.2.2, row (some bo) b.ops.length b.ops.length 22 1 x7.2]) [] [2, 3, 4, 5, 6, 7, 18, 19, 20, 26] (F := [(2, _), (3, _), (4, _), (5, _), (6, _), (7, _), (18, _), (19, _), (20, _), (26, _)]) (((none, 0, []), x2.1)) rfl rfl (by have := hal _ (List.mem_of_getElem? hz4); omega) ⟨(set_same (hc3 k2 (Nat.le_refl _) (by omega))).symm, rfl, by simp⟩ rfl rfl rfl rfl rfl rfl rfl (fun _ _ => rfl) (fun _ _ => rfl) (fun k7 x7 hk7 hJ7 => ?_) (fun x7 hJ7 => ?_)
 obtain ⟨hcx, hl1, hgc⟩ := hJ7
 have hkl : (z4.args.take k7).length ≤ k7 := by rw [List.length_take]; omega
 have hl1l := argsH_len b.ops k2 (z4.args.take k7)
 have hl1e := congrArg List.length hl1
 have hal1 := hal _ (List.mem_of_getElem? hz4)
 have hc1x : x7.2.length = b.ops.length := by rw [hcx, List.length_set]; exact hc1
 refine jj12 [2,3,4,5,6,7,18,19,20,26,27,28] (sq (rg ?_))
 obtain ⟨ad9, hA9⟩ := h5.ad (j := k7) (by omega)
 obtain ⟨z9, hz9⟩ := h5.getz (j := k7) (by omega)
 refine ixz hA9 Tryz.underlying22 T.sz3 ?_
 obtain ⟨l10, r10⟩ := Sl.getI h5 hA9 hz9
 refine liz T.ag3 l10 ?_
 refine as_ ?_
 refine wn (kk13 [2,3,4,5,6,7,9,18,19,20,26,27,28] (sq (rg ?_)))
 refine mv (mv ?_)
 refine W_q (r_lookup2 3 Tryz.underlying86 Tryz.underlying3 T.ze3 rfl rfl rfl (val_getD idV _ _ 0) (val_is idV _ _)) rfl ?_
 refine mv ?_
 refine W_q (r_extract rfl rfl) rfl ?_
 refine W_q (r_extract rfl rfl) rfl ?_
 refine as_ (as_ ?_)
 refine wn (kk14 [2,3,4,5,6,7,10,11,18,19,20,26,27,28] (sq (rg ?_)))
 refine mv ?_
 refine wn (kk14 [2,3,4,5,6,7,10,18,19,20,26,27,28,38] ?_)
 refine cd ?_ ?_ <;> intro h11 <;> try simp only [tt] at h11
 refine rg ?_
 refine mv (mv (mv (mv ?_)))
 refine W_q (r_indexr (o := k2) Tryz.underlying65 T.sz22 rfl rfl ⟨by omega, by omega⟩ (by omega)) rfl ?_
 refine W_q (r_loadr 1 rfl T.ag22 rfl (by rw [hcx]; exact List.getElem?_set_self (by first | omega | (simp only [List.length_set]; omega)))) rfl ?_
 refine mv ?_
 refine S_litr (vs := [_]) (cs := [_]) Tryz.underlying22 T.sz3 T.ze3 rfl rfl rfl rfl rfl rfl rfl (fun b13 => ?_)
 refine S_appendI (l := x7.1.2.2) (g1 := x7.1.1) [_] 1 rfl rfl rfl Tryz.underlying22 T.sz3 T.ze3 T.by3 rfl rfl (.row 0 rfl) (by simp only [List.length_cons, List.length_nil]; omega) rfl (fun g14 c14 hg14 => ?_)
 refine W_q (r_indexr (o := k2) Tryz.underlying65 T.sz22 rfl rfl ⟨by omega, by omega⟩ (by omega)) rfl ?_
 refine S_storer1 2 rfl rfl rfl rfl T.sz22 rfl (by first | omega | (simp only [List.length_set]; omega)) ?_
 refine wn (nb (?_))
 refine NX_rng [2, 3, 4, 5, 6, 7, 18, 19, 20, 26] (((_, _, _), _)) ?_ rfl (sub_drop 1 rfl) rfl (Imm.le_refl _)
 refine ⟨by rw [hcx, List.set_set], ?_, hg14⟩
 rw [argsH_step1 hz9 (v := (getL x2.2.2 z9).getD 0) (by rw [← hc6]; exact getD_some (h11)), hl1]
 refine sk (nb (?_))
 refine NX_rng [2, 3, 4, 5, 6, 7, 18, 19, 20, 26] (((_, _, _), _)) ?_ rfl (List.Sublist.refl _) rfl (Imm.le_refl _)
 refine ⟨hcx, ?_, hgc⟩
 rw [argsH_step0 hz9 (by rw [← hc6]; exact isSome_f h11), hl1]
 obtain ⟨hcx, hl1, hgc⟩ := hJ7
 rw [List.take_length] at hl1
 have hal1 := hal _ (List.mem_of_getElem? hz4)
 have hl1l := argsH_len b.ops k2 z4.args
 have hl1e := congrArg List.length hl1
 have hc1x : x7.2.length = b.ops.length := by rw [hcx, List.length_set]; exact hc1
 refine kk9 [2,3,4,5,6,7,18,19,20] (sq (sq (rg ?_)))
 refine fb 0 T.fo51_0 (lb 2 T.ag3 ?_)
 refine W_quiet (Pure_q _) T.hb53 rfl rfl ?_
 refine nt ?_
 refine wn (kk10 [2,3,4,5,6,7,18,19,20,53] ?_)
 refine cd ?_ ?_ <;> intro h16 <;> try simp only [tt] at h16
 refine sq (rg ?_)
 refine mv (mv (mv (mv ?_)))
 refine W_q (r_indexr (o := k2) Tryz.underlying65 T.sz22 rfl rfl ⟨by omega, by omega⟩ (by omega)) rfl ?_
 refine W_q (r_loadr 1 rfl T.ag22 rfl (by rw [hcx]; exact List.getElem?_set_self (by first | omega | (simp only [List.length_set]; omega)))) rfl ?_
 refine mv ?_
 refine WL_know (k_row0 4 rfl) (fun hcap18 => ?_)
 refine S_appendI (l := x7.1.2.2) (g1 := x7.1.1) _ 0 rfl rfl rfl Tryz.underlying22 T.sz3 T.ze3 T.by3 rfl rfl (.own 4 rfl hcap18) (by omega) rfl (fun g19 c19 hg19 => ?_)
 refine W_q (r_indexr (o := k2) Tryz.underlying65 T.sz22 rfl rfl ⟨by omega, by omega⟩ (by omega)) rfl ?_
 refine S_storer1 1 rfl rfl rfl rfl T.sz22 rfl (by first | omega | (simp only [List.length_set]; omega)) ?_
 refine wn (kk9 [2,3,4,5,6,7,18,19,20] (rg ?_))
 refine mv (mv ?_)
 refine S_litr (vs := [_]) (cs := [_]) Tryz.underlying22 T.sz3 T.ze3 rfl rfl rfl rfl rfl rfl rfl (fun b21 => ?_)
 refine S_appendI (l := x2.2.1.2.2) (g1 := x2.2.1.1) [_] 5 rfl rfl rfl Tryz.underlying22 T.sz3 T.ze3 T.by3 rfl rfl (.row 0 rfl) (by simp only [List.length_cons, List.length_nil]; omega) rfl (fun g22 c22 hg22 => ?_)
 have hgimp := hg22
 refine as_ ?_
 refine wn (kk9 [2,3,4,5,6,7,18,19,20] (sq (sq (rg ?_))))
 have hraw : (x7.1.2.2 ++ x2.2.1.2.2) = rawH b.ops (z4, k2) := by
   rw [hl1, rawH]; simp only [show pureK z4.kind = false by assumption, Bool.false_eq_true, if_false]; rw [hc4]
 have hi64 : ∀ z ∈ (x7.1.2.2 ++ x2.2.1.2.2), I64 z := fun z hz => by rw [hraw] at hz; have h := rawH_rng (ops := b.ops) (z4, k2) z hz; exact ⟨by omega, by dsimp only at h; omega⟩
 have hlraw : ((x7.1.2.2 ++ x2.2.1.2.2)).length ≤ 64 + 512 := by
   rw [hl1]; have h1 := argsH_len b.ops k2 z4.args; have h2 := impH_len b.ops k2; rw [hc4]; simp only [List.length_append]; omega
 refine fb 3 T.fo51_3 (lb 3 T.ag3 (bg ?_))
 refine wn (kk10 [2,3,4,5,6,7,18,19,20,69] ?_)
 refine cd ?_ ?_ <;> intro h23 <;> try simp only [tt] at h23
 refine rg ?_
 refine mv (fb 3 T.fo51_3 (lb 3 T.ag3 (mv ?_)))
 refine S_mapUpdateV (f := idV) (k2 : Int) 4 Tryz.underlying86 Tryz.underlying3 rfl rfl rfl rfl ?_
 refine wn (kk8 [2,3,4,5,6,18,19,20] (sq (rg ?_)))
 refine mv (mv ?_)
 refine W_q (r_indexr (o := k2) Tryz.underlying65 T.sz22 rfl rfl ⟨by omega, by omega⟩ (by omega)) rfl ?_
 refine W_q (r_loadr 2 rfl T.ag22 rfl (by rw [hcx]; exact List.getElem?_set_self (by first | omega | (simp only [List.length_set]; omega)))) rfl ?_
 refine WL_front 1 rfl rfl ?_
 refine S_does (R0 := [_]) rfl (SortG_d (l := (x7.1.2.2 ++ x2.2.1.2.2)) hg19 (by omega)) T.hb84 rfl rfl (fun m25 R25 v25 le25 hR25 => ?_)
 obtain ⟨rfl, rfl, rfl⟩ := hR25
 have hgs : 0 < ((x7.1.2.2 ++ x2.2.1.2.2).mergeSort fun x y => decide (x ≤ y)).length → ∃ b, g19 = some b := by rw [List.length_mergeSort]; exact hg19
 refine wn (kk8 [2,3,4,5,6,18,19,20] (rg ?_))
 refine mv (mv (mv (mv ?_)))
 refine W_q (r_indexr (o := k2) Tryz.underlying65 T.sz22 rfl rfl ⟨by omega, by omega⟩ (by omega)) rfl ?_
 refine W_q (r_loadr 2 rfl T.ag22 rfl (by rw [hcx]; exact List.getElem?_set_self (by first | omega | (simp only [List.length_set]; omega)))) rfl ?_
 refine S_does (R0 := [_]) rfl (Compact_d hgs (by simp only [List.length_mergeSort]; omega)) T.hb85 (by simp only [slI, List.length_mergeSort]; rfl) rfl (fun m27 R27 v27 le27 hR27 => ?_)
 obtain ⟨rfl, rfl, rfl⟩ := hR27
 have hcs := sortC_len ((x7.1.2.2 ++ x2.2.1.2.2))
 rw [sortC] at hcs
 refine WL_know (k_rowI 0 rfl) (fun hr27 => ?_)
 refine WL_freeze 0 rfl (fun _ h => h) (fun mf27 lef27 hf27 => ?_)
 replace hB := rBlock_mono _ _ _ _ lef27 hB
 replace hp93 := hp93.mono rPhi_mono lef27
 replace ho93 := ho93.mono rOp_mono lef27
 replace ht93 := ht93.mono rI_mono lef27
 replace F5 := rOp_mono _ _ _ _ lef27 F5
 replace h5 := h5.mono rI_mono lef27
 have hfz := Ints_frz hf27 hr27.1 hr27.2.1 (by omega) hr27.2.2 (fun z hz => hi64 z (sortC_sub _ z hz))
 refine W_q (r_indexr (o := k2) Tryz.underlying65 T.sz22 rfl rfl ⟨by omega, by omega⟩ (by omega)) rfl ?_
 refine S_storer1 1 rfl rfl rfl rfl T.sz22 rfl (by first | omega | (simp only [List.length_set]; omega)) ?_
 refine wn (nb (?_))
 refine NX_rngM [5, 2, 3, 4, 18] ((_, (_, _, _), _)) ⟨Imm.le_trans (hle2) lef27, ?_⟩ (by rfl) (List.Sublist.cons _ (List.Sublist.cons_cons _ (sub_drop 1 rfl))) rfl
 refine ⟨by simp only [List.length_set]; exact hc1x, ?_, fun j h1 h2 => ?_, ?_, ?_, ?_⟩
 · simp only [hcx, List.set_set]; rw [take_set_end (by omega), take_map_one (hangsP_get hz4)]
   have hfz' := hfz
   rw [hraw] at hfz' ⊢
   exact (hc2.mono (lef27)).snoc hfz'
 · simp only [hcx, List.set_set]; rw [List.getElem?_set_ne (by omega)]; exact hc3 j (by omega) h2
 · rw [hc4]; exact (impH_step1 hz4 (by assumption)).symm
 · exact hgimp
 · rw [hc6]; exact (defsH_step1 hz4 (by omega)).symm
 refine sk (kk8 [2,3,4,5,6,18,19,20] (sq (rg ?_)))
 refine mv (mv ?_)
 refine W_q (r_indexr (o := k2) Tryz.underlying65 T.sz22 rfl rfl ⟨by omega, by omega⟩ (by omega)) rfl ?_
 refine W_q (r_loadr 2 rfl T.ag22 rfl (by rw [hcx]; exact List.getElem?_set_self (by first | omega | (simp only [List.length_set]; omega)))) rfl ?_
 refine WL_front 1 rfl rfl ?_
 refine S_does (R0 := [_]) rfl (SortG_d (l := (x7.1.2.2 ++ x2.2.1.2.2)) hg19 (by omega)) T.hb84 rfl rfl (fun m30 R30 v30 le30 hR30 => ?_)
 obtain ⟨rfl, rfl, rfl⟩ := hR30
 have hgs : 0 < ((x7.1.2.2 ++ x2.2.1.2.2).mergeSort fun x y => decide (x ≤ y)).length → ∃ b, g19 = some b := by rw [List.length_mergeSort]; exact hg19
 refine wn (kk8 [2,3,4,5,6,18,19,20] (rg ?_))
 refine mv (mv (mv (mv ?_)))
 refine W_q (r_indexr (o := k2) Tryz.underlying65 T.sz22 rfl rfl ⟨by omega, by omega⟩ (by omega)) rfl ?_
 refine W_q (r_loadr 2 rfl T.ag22 rfl (by rw [hcx]; exact List.getElem?_set_self (by first | omega | (simp only [List.length_set]; omega)))) rfl ?_
 refine S_does (R0 := [_]) rfl (Compact_d hgs (by simp only [List.length_mergeSort]; omega)) T.hb85 (by simp only [slI, List.length_mergeSort]; rfl) rfl (fun m32 R32 v32 le32 hR32 => ?_)
 obtain ⟨rfl, rfl, rfl⟩ := hR32
 have hcs := sortC_len ((x7.1.2.2 ++ x2.2.1.2.2))
 rw [sortC] at hcs
 refine WL_know (k_rowI 0 rfl) (fun hr32 => ?_)
 refine WL_freeze 0 rfl (fun _ h => h) (fun mf32 lef32 hf32 => ?_)
 replace hB := rBlock_mono _ _ _ _ lef32 hB
 replace hp93 := hp93.mono rPhi_mono lef32
 replace ho93 := ho93.mono rOp_mono lef32
 replace ht93 := ht93.mono rI_mono lef32
 replace F5 := rOp_mono _ _ _ _ lef32 F5
 replace h5 := h5.mono rI_mono lef32
 have hfz := Ints_frz hf32 hr32.1 hr32.2.1 (by omega) hr32.2.2 (fun z hz => hi64 z (sortC_sub _ z hz))
 refine W_q (r_indexr (o := k2) Tryz.underlying65 T.sz22 rfl rfl ⟨by omega, by omega⟩ (by omega)) rfl ?_
 refine S_storer1 1 rfl rfl rfl rfl T.sz22 rfl (by first | omega | (simp only [List.length_set]; omega)) ?_
 refine wn (nb (?_))
 refine NX_rngM [5, 2, 3, 4, 18] ((_, (_, _, _), _)) ⟨Imm.le_trans (hle2) lef32, ?_⟩ (by rfl) (List.Sublist.cons _ (List.Sublist.cons_cons _ (sub_drop 1 rfl))) rfl
 refine ⟨by simp only [List.length_set]; exact hc1x, ?_, fun j h1 h2 => ?_, ?_, ?_, ?_⟩
 · simp only [hcx, List.set_set]; rw [take_set_end (by omega), take_map_one (hangsP_get hz4)]
   have hfz' := hfz
   rw [hraw] at hfz' ⊢
   exact (hc2.mono (lef32)).snoc hfz'
 · simp only [hcx, List.set_set]; rw [List.getElem?_set_ne (by omega)]; exact hc3 j (by omega) h2
 · rw [hc4]; exact (impH_step1 hz4 (by assumption)).symm
 · exact hgimp
 · rw [hc6]; exact (defsH_step0 hz4 (by omega)).symm
 refine sk (kk9 [2,3,4,5,6,7,18,19,20] (sq (sq (rg ?_))))
 have hraw : x7.1.2.2 = rawH b.ops (z4, k2) := by
   rw [hl1, rawH]; simp only [show pureK z4.kind = true by assumption, if_true, List.append_nil]
 have hi64 : ∀ z ∈ x7.1.2.2, I64 z := fun z hz => by rw [hraw] at hz; have h := rawH_rng (ops := b.ops) (z4, k2) z hz; exact ⟨by omega, by dsimp only at h; omega⟩
 have hlraw : (x7.1.2.2).length ≤ 64 + 512 := by
   rw [hl1]; have h1 := argsH_len b.ops k2 z4.args; have h2 := impH_len b.ops k2; omega
 refine fb 3 T.fo51_3 (lb 2 T.ag3 (bg ?_))
 refine wn (kk10 [2,3,4,5,6,7,18,19,20,69] ?_)
 refine cd ?_ ?_ <;> intro h34 <;> try simp only [tt] at h34
 refine rg ?_
 refine mv (fb 3 T.fo51_3 (lb 2 T.ag3 (mv ?_)))
 refine S_mapUpdateV (f := idV) (k2 : Int) 3 Tryz.underlying86 Tryz.underlying3 rfl rfl rfl rfl ?_
 refine wn (kk8 [2,3,4,5,6,18,19,20] (sq (rg ?_)))
 refine mv (mv ?_)
 refine W_q (r_indexr (o := k2) Tryz.underlying65 T.sz22 rfl rfl ⟨by omega, by omega⟩ (by omega)) rfl ?_
 refine W_q (r_loadr 1 rfl T.ag22 rfl (by rw [hcx]; exact List.getElem?_set_self (by first | omega | (simp only [List.length_set]; omega)))) rfl ?_
 refine S_does (R0 := [_]) rfl (SortG_d (l := x7.1.2.2) hgc (by omega)) T.hb84 rfl rfl (fun m36 R36 v36 le36 hR36 => ?_)
 obtain ⟨rfl, rfl, rfl⟩ := hR36
 have hgs : 0 < (x7.1.2.2.mergeSort fun x y => decide (x ≤ y)).length → ∃ b, x7.1.1 = some b := by rw [List.length_mergeSort]; exact hgc
 refine wn (kk8 [2,3,4,5,6,18,19,20] (rg ?_))
 refine mv (mv (mv (mv ?_)))
 refine W_q (r_indexr (o := k2) Tryz.underlying65 T.sz22 rfl rfl ⟨by omega, by omega⟩ (by omega)) rfl ?_
 refine W_q (r_loadr 1 rfl T.ag22 rfl (by rw [hcx]; exact List.getElem?_set_self (by first | omega | (simp only [List.length_set]; omega)))) rfl ?_
 refine S_does (R0 := [_]) rfl (Compact_d hgs (by simp only [List.length_mergeSort]; omega)) T.hb85 (by simp only [slI, List.length_mergeSort]; rfl) rfl (fun m38 R38 v38 le38 hR38 => ?_)
 obtain ⟨rfl, rfl, rfl⟩ := hR38
 have hcs := sortC_len (x7.1.2.2)
 rw [sortC] at hcs
 refine WL_know (k_rowI 0 rfl) (fun hr38 => ?_)
 refine WL_freeze 0 rfl (fun _ h => h) (fun mf38 lef38 hf38 => ?_)
 replace hB := rBlock_mono _ _ _ _ lef38 hB
 replace hp93 := hp93.mono rPhi_mono lef38
 replace ho93 := ho93.mono rOp_mono lef38
 replace ht93 := ht93.mono rI_mono lef38
 replace F5 := rOp_mono _ _ _ _ lef38 F5
 replace h5 := h5.mono rI_mono lef38
 have hfz := Ints_frz hf38 hr38.1 hr38.2.1 (by omega) hr38.2.2 (fun z hz => hi64 z (sortC_sub _ z hz))
 refine W_q (r_indexr (o := k2) Tryz.underlying65 T.sz22 rfl rfl ⟨by omega, by omega⟩ (by omega)) rfl ?_
 refine S_storer1 0 rfl rfl rfl rfl T.sz22 rfl (by first | omega | (simp only [List.length_set]; omega)) ?_
 refine wn (nb (?_))
 refine NX_rngM [5, 2, 3, 4, 18] ((_, (_, _, _), _)) ⟨Imm.le_trans (hle2) lef38, ?_⟩ (by rfl) (List.Sublist.cons_cons _ (sub_drop 1 rfl)) rfl
 refine ⟨by simp only [List.length_set]; exact hc1x, ?_, fun j h1 h2 => ?_, ?_, ?_, ?_⟩
 · simp only [hcx, List.set_set]; rw [take_set_end (by omega), take_map_one (hangsP_get hz4)]
   have hfz' := hfz
   rw [hraw] at hfz' ⊢
   exact (hc2.mono (lef38)).snoc hfz'
 · simp only [hcx, List.set_set]; rw [List.getElem?_set_ne (by omega)]; exact hc3 j (by omega) h2
 · rw [hc4]; exact (impH_step0 hz4 (by assumption)).symm
 · exact hgi
 · rw [hc6]; exact (defsH_step1 hz4 (by omega)).symm
 refine sk (kk8 [2,3,4,5,6,18,19,20] (sq (rg ?_)))
 refine mv (mv ?_)
 refine W_q (r_indexr (o := k2) Tryz.underlying65 T.sz22 rfl rfl ⟨by omega, by omega⟩ (by omega)) rfl ?_
 refine W_q (r_loadr 1 rfl T.ag22 rfl (by rw [hcx]; exact List.getElem?_set_self (by first | omega | (simp only [List.length_set]; omega)))) rfl ?_
 refine S_does (R0 := [_]) rfl (SortG_d (l := x7.1.2.2) hgc (by omega)) T.hb84 rfl rfl (fun m41 R41 v41 le41 hR41 => ?_)
 obtain ⟨rfl, rfl, rfl⟩ := hR41
 have hgs : 0 < (x7.1.2.2.mergeSort fun x y => decide (x ≤ y)).length → ∃ b, x7.1.1 = some b := by rw [List.length_mergeSort]; exact hgc
 refine wn (kk8 [2,3,4,5,6,18,19,20] (rg ?_))
 refine mv (mv (mv (mv ?_)))
 refine W_q (r_indexr (o := k2) Tryz.underlying65 T.sz22 rfl rfl ⟨by omega, by omega⟩ (by omega)) rfl ?_
 refine W_q (r_loadr 1 rfl T.ag22 rfl (by rw [hcx]; exact List.getElem?_set_self (by first | omega | (simp only [List.length_set]; omega)))) rfl ?_
 refine S_does (R0 := [_]) rfl (Compact_d hgs (by simp only [List.length_mergeSort]; omega)) T.hb85 (by simp only [slI, List.length_mergeSort]; rfl) rfl (fun m43 R43 v43 le43 hR43 => ?_)
 obtain ⟨rfl, rfl, rfl⟩ := hR43
 have hcs := sortC_len (x7.1.2.2)
 rw [sortC] at hcs
 refine WL_know (k_rowI 0 rfl) (fun hr43 => ?_)
 refine WL_freeze 0 rfl (fun _ h => h) (fun mf43 lef43 hf43 => ?_)
 replace hB := rBlock_mono _ _ _ _ lef43 hB
 replace hp93 := hp93.mono rPhi_mono lef43
 replace ho93 := ho93.mono rOp_mono lef43
 replace ht93 := ht93.mono rI_mono lef43
 replace F5 := rOp_mono _ _ _ _ lef43 F5
 replace h5 := h5.mono rI_mono lef43
 have hfz := Ints_frz hf43 hr43.1 hr43.2.1 (by omega) hr43.2.2 (fun z hz => hi64 z (sortC_sub _ z hz))
 refine W_q (r_indexr (o := k2) Tryz.underlying65 T.sz22 rfl rfl ⟨by omega, by omega⟩ (by omega)) rfl ?_
 refine S_storer1 0 rfl rfl rfl rfl T.sz22 rfl (by first | omega | (simp only [List.length_set]; omega)) ?_
 refine wn (nb (?_))
 refine NX_rngM [5, 2, 3, 4, 18] ((_, (_, _, _), _)) ⟨Imm.le_trans (hle2) lef43, ?_⟩ (by rfl) (List.Sublist.cons_cons _ (sub_drop 1 rfl)) rfl
 refine ⟨by simp only [List.length_set]; exact hc1x, ?_, fun j h1 h2 => ?_, ?_, ?_, ?_⟩
 · simp only [hcx, List.set_set]; rw [take_set_end (by omega), take_map_one (hangsP_get hz4)]
   have hfz' := hfz
   rw [hraw] at hfz' ⊢
   exact (hc2.mono (lef43)).snoc hfz'
 · simp only [hcx, List.set_set]; rw [List.getElem?_set_ne (by omega)]; exact hc3 j (by omega) h2
 · rw [hc4]; exact (impH_step0 hz4 (by assumption)).symm
 · exact hgi
 · rw [hc6]; exact (defsH_step0 hz4 (by omega)).symm
 obtain ⟨hle2, hJ2⟩ := hJ2
 replace hB := rBlock_mono _ _ _ _ hle2 hB
 replace hp93 := hp93.mono rPhi_mono hle2
 replace ho93 := ho93.mono rOp_mono hle2
 replace ht93 := ht93.mono rI_mono hle2
 obtain ⟨hc1, hc2, hc3, hc4, hgi, hc6⟩ := hJ2
 rw [List.take_of_length_le (by omega), List.take_of_length_le (by rw [hangsP_len]; omega)] at hc2
 refine NX_know (k_rowG 0 rfl) (fun hr45 => ?_)
 refine NX_freeze 0 rfl (fun _ h => h) (fun m45 le45 hf45 => ?_)
 replace hB := rBlock_mono _ _ _ _ le45 hB
 replace hp93 := hp93.mono rPhi_mono le45
 replace ho93 := ho93.mono rOp_mono le45
 replace ht93 := ht93.mono rI_mono le45
 have hfin := (hc2.mono le45).sl hf45 (by rw [hangsP_len]; exact hr45.2.1) hr45.2.2.1 (by rw [hangsP_len]; omega) (by rw [hangsP_len]; exact hr45.2.2.2)
 refine kk2 [2,3] (sq (rg ?_))
 refine mv (as_ ?_)
 refine wn (kk1 [2] ?_)
 exact C_ret (RX_g1 rfl rfl ⟨_, _, by rw [hangsP_len]; rfl, hfin⟩)
namespace T
theorem ag67 : agg? Tryz.prog 67 = some false := by kernel_rfl
theorem hb36 : hasBody Tryz.prog 36 = true := by kernel_rfl
theorem hb49 : hasBody Tryz.prog 49 = true := by kernel_rfl
theorem hb50 : hasBody Tryz.prog 50 = true := by kernel_rfl
theorem hb52 : hasBody Tryz.prog 52 = true := by kernel_rfl
theorem hb54 : hasBody Tryz.prog 54 = true := by kernel_rfl
theorem hb87 : hasBody Tryz.prog 87 = true := by kernel_rfl
theorem ze4 : zero? Tryz.prog 4 = some (.bool false) := by kernel_rfl
end T
theorem ints_nil {m : Imm} {l : List Int} (h : l = []) : ∃ A' c', Value.slice none 0 0 = .slice A' l.length c' ∧ Ints m A' c' l := by subst h; exact ⟨none, 0, rfl, Sl.nil _ _ _⟩
theorem ints_is {m : Imm} {l z : List Int} {A : Option Addr} {c : Nat} (e : l = z) (h : Ints m A c z) : ∃ A' c', Value.slice A z.length c = .slice A' l.length c' ∧ Ints m A' c' l := by subst e; exact ⟨A, c, rfl, h⟩
theorem stands1_q {m : Imm} {mb : Nat} {ll : List (Int × Bool)} (hM : MapIn m mb (valL Value.bool ll)) (a : Int) {ad : Addr} (hp : m.cell? ad = some (.map (some mb))) : Quiet Tryz.prog 87 [.int .i64 a, .pointer (some ad)] m (.bool (!(inM ll a))) := by
 refine quiet_of Tryz.func87 rfl Tryz.ntmps87 rfl (fun w => ?_)
 refine sq (rg ?_)
 refine as_ ?_
 refine wn (kk3 [0,1,3] (sq (rg ?_)))
 refine liz T.ag67 hp ?_
 refine mv ?_
 refine W_q (r_lookupF hM Tryz.underlying67 Tryz.underlying3 T.ze4 rfl rfl (val_getD Value.bool _ _ false)) rfl ?_
 refine nt (as_ ?_)
 refine wn (kk1 [3] ?_)
 refine C_ret (RX_q1 rfl rfl ?_)
 rfl
theorem stands_q {m : Imm} {mb : Nat} {ll : List (Int × Bool)} (hM : MapIn m mb (valL Value.bool ll)) {A : Option Addr} {c : Nat} {l : List Int} (h : Ints m A c l) : Quiet Tryz.prog 54 [.map (some mb), .slice A l.length c] m (.bool (standsB ll l)) := by
 refine quiet_of Tryz.func54 rfl Tryz.ntmps54 rfl (fun w => ?_)
 refine sq (rg ?_)
 refine S_box (l := [_]) rfl rfl rfl (fun b1 => ?_)
 refine as_ ?_
 refine wn (kk3 [1,2,4] (sq (rg ?_)))
 refine mv ?_
 refine W_q (r_makeFunc (first := []) (cap := [_]) rfl rfl) rfl ?_
 refine W_q (r_quietb 0 rfl (fun m' le hc => ContainsFuncI_q (h.mono rI_mono le) (p := fun a => !(inM ll a)) (K := 87) T.hb87 (fun z hz => stands1_q (hM.mono le) z (hc 0 _ rfl))) T.hb86 rfl) rfl ?_
 refine nt (as_ ?_)
 refine wn (kk1 [4] ?_)
 refine C_ret (RX_q1 rfl rfl ?_)
 simp_all [standsB]
theorem sright_q {m : Imm} {es : List Value} {f : FFun} (hF : rFunc m es f) (block : Int) : Quiet Tryz.prog 49 [.agg es.toArray, .int .i64 block] m (.bool (rightP f block)) := by
 have hF_0 := hF
 obtain ⟨A90, c90, B90, d90, rfl, hq90, hb90, i90a⟩ := hF_0
 refine quiet_of Tryz.func49 rfl Tryz.ntmps49 rfl (fun w => ?_)
 refine sq (rg ?_)
 refine S_box (l := [_, _, _]) rfl rfl rfl (fun b1 => ?_)
 refine as_ ?_
 refine wn (kk3 [1,2,4] (sq (rg ?_)))
 refine mv (bh (mv ?_))
 refine sp 7 ?_ ?_ <;> intro h2 <;> try simp only [tt] at h2
 refine tk (mv ?_)
 refine tk (fb 2 T.fo25_2 ?_)
 refine tk (lb 0 T.ag23 ?_)
 refine tk (ln Tryz.underlying23 ?_)
 refine tk (bl (pt (mv ?_)))
 refine sp 14 ?_ ?_ <;> intro h3 <;> try simp only [tt] at h3
 refine tk ?_
 refine W_q (r_loadbk 0 (vs := [_, _, _]) rfl T.ag25 T.sz25 rfl rfl rfl) rfl ?_
 refine tk ?_
 refine W_quiet (Check_q hF _) T.hb36 rfl rfl ?_
 refine tk (be (pt (as_ ?_)))
 refine wn (kk1 [4] ?_)
 refine C_ret (RX_q1 rfl rfl ?_)
 simp_all [rightP]
 try omega
 refine ps (ps (ps ?_))
 refine pf (as_ ?_)
 refine wn (kk1 [4] ?_)
 refine C_ret (RX_q1 rfl rfl ?_)
 simp_all [rightP]
 try omega
 refine ps (ps (ps (ps (ps ?_))))
 refine pf (mv ?_)
 refine ps (ps (ps ?_))
 refine pf (as_ ?_)
 refine wn (kk1 [4] ?_)
 refine C_ret (RX_q1 rfl rfl ?_)
 simp_all [rightP]
 try omega
theorem legal_q {m : Imm} {es : List Value} {b : FBlk} (hB : rBlock m es b) (hol : b.ops.length ≤ 512) (hal : ∀ o ∈ b.ops, o.args.length ≤ 64) {A : Option Addr} {c : Nat} {order : List Int} (h : Ints m A c order) : Quiet Tryz.prog 50 [.agg es.toArray, .slice A order.length c] m (.bool (legalP b order)) := by
 have hB_0 := hB
 obtain ⟨A93, c93, B93, d93, C93, e93, rfl, hp93, ho93, ht93, i93a, i93b⟩ := hB_0
 have hlen := h.len
 have hhl := hangsP_len b.ops
 refine quiet_of Tryz.func50 rfl Tryz.ntmps50 rfl (fun w => ?_)
 refine sq (rg ?_)
 refine S_box (l := [_, _, _, _, _]) rfl rfl rfl (fun b1 => ?_)
 refine as_ ?_
 refine wn (kk3 [1,2,4] (sq (sq (rg ?_))))
 refine mv (ln Tryz.underlying22 (fb 1 T.fo44_1 (lb 0 T.ag40 (ln Tryz.underlying40 (bn ?_)))))
 refine wn (kk4 [1,2,4,14] ?_)
 refine cd ?_ ?_ <;> intro h2 <;> try simp only [tt] at h2
 refine sq (rg ?_)
 refine as_ ?_
 refine wn (kk3 [1,2,4] ?_)
 refine C_ret (RX_then (RX_q1 rfl rfl ?_))
 exact congrArg Value.bool (legalP_f0 (by omega)).symm
 refine sk (kk3 [1,2,4] (sq (rg ?_)))
 refine S_makeMap rfl (fun rm => ?_)
 refine as_ ?_
 refine wn (kk4 [1,2,4,5] (sq (rg ?_)))
 refine W_q (r_loadbk 1 (vs := [_, _, _, _, _]) rfl T.ag44 T.sz44 rfl rfl rfl) rfl ?_
 refine S_gives (hangs_g hB hol hal) T.hb52 rfl rfl (fun m3 v3 le3 hv3 => ?_)
 replace hB := rBlock_mono _ _ _ _ le3 hB
 replace hp93 := hp93.mono rPhi_mono le3
 replace ho93 := ho93.mono rOp_mono le3
 replace ht93 := ht93.mono rI_mono le3
 replace h := h.mono rI_mono le3
 obtain ⟨Ah3, ch3, rfl, hh3⟩ := hv3
 refine as_ ?_
 refine wn (kk5 [1,2,4,5,6] (sq (sq (rg ?_))))
 refine mv (ln Tryz.underlying22 (mv ?_))
 refine wn (kk7 [2,4,5,6,18,19,20] ?_)
 refine CW_front 0 rfl rfl ?_
 refine C_range (List (Int × Bool)) (order.length) (fun k4 x4 => x4 = putM order k4 ∧ ∀ j, j < k4 → okO b order j = true) (fun k4 x4 => []) (fun k4 x4 => [imap rm (valL Value.bool x4)]) [] [2, 5, 6, 18] (F := [(2, _), (5, _), (6, _), (18, _)]) ([]) rfl rfl (by omega) ⟨rfl, fun j hj => absurd hj (by omega)⟩ rfl rfl rfl rfl rfl rfl rfl (fun _ _ => rfl) (fun _ _ => rfl) (fun k4 x4 hk4 hJ4 => ?_) (fun x4 hJ4 => ?_)
 obtain ⟨hx, hJ⟩ := hJ4
 refine jj6 [2,5,6,18,19,20] (sq (rg ?_))
 obtain ⟨ad5, hA5⟩ := h.ad (j := k4) (by omega)
 obtain ⟨z5, hz5⟩ := h.getz (j := k4) (by omega)
 refine ixz hA5 Tryz.underlying22 T.sz3 ?_
 obtain ⟨l6, r6⟩ := Sl.getI h hA5 hz5
 refine liz T.ag3 l6 ?_
 refine as_ ?_
 refine wn (kk7 [2,5,6,8,18,19,20] (sq (sq (rg ?_))))
 refine mv (bl (mv ?_))
 refine sp 26 ?_ ?_ <;> intro h7 <;> try simp only [tt] at h7
 refine ps (ps (ps (ps (ps ?_))))
 refine pt (mv ?_)
 refine ps (ps (ps ?_))
 refine pt (mv ?_)
 refine ps (ps (ps (ps (ps (ps (ps ?_))))))
 refine pt ?_
 refine wn (kk8 [2,5,6,8,18,19,20,46] ?_)
 refine ctz (sq (rg ?_))
 refine as_ ?_
 refine wn (kk8 [2,4,5,6,8,18,19,20] ?_)
 refine C_ret (RX_then (RX_block (RX_then (RX_block (RX_then (RX_q1 rfl rfl ?_))))))
 exact congrArg Value.bool (legalP_f hz5 (okO_f1 hz5 (by omega))).symm
 refine tk (mv ?_)
 refine tk (fb 1 T.fo44_1 ?_)
 refine tk (lb 1 T.ag40 ?_)
 refine tk (ln Tryz.underlying40 ?_)
 refine tk (bh (pf (mv ?_)))
 refine sp 33 ?_ ?_ <;> intro h8 <;> try simp only [tt] at h8
 refine ps (ps (ps ?_))
 refine pt (mv ?_)
 refine ps (ps (ps (ps (ps (ps (ps ?_))))))
 refine pt ?_
 refine wn (kk8 [2,5,6,8,18,19,20,46] ?_)
 refine ctz (sq (rg ?_))
 refine as_ ?_
 refine wn (kk8 [2,4,5,6,8,18,19,20] ?_)
 refine C_ret (RX_then (RX_block (RX_then (RX_block (RX_then (RX_q1 rfl rfl ?_))))))
 exact congrArg Value.bool (legalP_f hz5 (okO_f1 hz5 (by omega))).symm
 refine tk (mv ?_)
 refine tk (mv ?_)
 refine tk ?_
 refine W_q (r_lookup 0 Tryz.underlying67 Tryz.underlying3 T.ze4 rfl rfl rfl (val_getD Value.bool _ _ false)) rfl ?_
 refine pf (mv ?_)
 refine sp 38 ?_ ?_ <;> intro h9 <;> try simp only [tt] at h9
 refine ps (ps (ps (ps (ps (ps (ps ?_))))))
 refine pt ?_
 refine wn (kk8 [2,5,6,8,18,19,20,46] ?_)
 refine ctz (sq (rg ?_))
 refine as_ ?_
 refine wn (kk8 [2,4,5,6,8,18,19,20] ?_)
 refine C_ret (RX_then (RX_block (RX_then (RX_block (RX_then (RX_q1 rfl rfl ?_))))))
 exact congrArg Value.bool (legalP_f hz5 (okO_f2 hz5 (by rw [← hx]; assumption))).symm
 refine tk (mv ?_)
 refine tk (mv ?_)
 refine tk (mv ?_)
 refine tk ?_
 obtain ⟨ad10, hA10⟩ := hh3.ad (j := z5.toNat) (by omega)
 obtain ⟨z10, hz10⟩ := hh3.getz (j := z5.toNat) (by omega)
 refine ixz hA10 Tryz.underlying65 T.sz22 ?_
 refine tk ?_
 obtain ⟨A11, c11, l11, h11⟩ := Sl.getS hh3 hA10 hz10
 refine liz T.ag22 l11 ?_
 refine tk ?_
 refine W_q (r_quietM 0 rfl (fun m' le hc => stands_q (ll := x4) hc (h11.mono rI_mono le)) T.hb54 rfl) rfl ?_
 refine tk (nt (pf ?_))
 refine wn (kk8 [2,5,6,8,18,19,20,46] ?_)
 refine cd ?_ ?_ <;> intro h12 <;> try simp only [tt] at h12
 refine sq (rg ?_)
 refine as_ ?_
 refine wn (kk8 [2,4,5,6,8,18,19,20] ?_)
 refine C_ret (RX_then (RX_block (RX_then (RX_block (RX_then (RX_q1 rfl rfl ?_))))))
 exact congrArg Value.bool (legalP_f hz5 (okO_f3 hz5 hz10 (by rw [← hx]; assumption))).symm
 refine sk (kk7 [2,5,6,8,18,19,20] (rg ?_))
 refine mv (mv ?_)
 refine S_mapUpdateV (f := Value.bool) (l := x4) true 0 Tryz.underlying67 Tryz.underlying3 rfl rfl rfl rfl ?_
 refine wn (nb (?_))
 refine NX_rng [2, 5, 6, 18] (_) ?_ rfl (List.Sublist.refl _) rfl (Imm.le_refl _)
 refine ⟨by rw [hx, ← putM_succ hz5], lt_succ_all hJ ?_⟩
 rw [hx] at *
 exact okO_t hz5 (by omega) (by omega) (by assumption) hz10 (by assumption)
 refine kk0 [] (sq (rg ?_))
 refine as_ ?_
 refine wn (kk1 [4] ?_)
 refine C_ret (RX_q1 rfl rfl ?_)
 exact congrArg Value.bool (legalP_t (by omega) hJ4.2).symm
theorem Legal_q {m : Imm} {es : List Value} {f : FFun} (hF : rFunc m es f) (block : Int) {A : Option Addr} {c : Nat} {order : List Int} (h : Ints m A c order) : Quiet Tryz.prog 19 [.agg es.toArray, .int .i64 block, .slice A order.length c] m (.bool (LegalP f block order)) := by
 have hF_0 := hF
 obtain ⟨A90, c90, B90, d90, rfl, hq90, hb90, i90a⟩ := hF_0
 have hbl := hb90.len
 refine quiet_of Tryz.func19 rfl Tryz.ntmps19 rfl (fun w => ?_)
 refine sq (rg ?_)
 refine S_box (l := [_, _, _]) rfl rfl rfl (fun b1 => ?_)
 refine as_ ?_
 refine wn (kk4 [1,2,3,6] (sq (rg ?_)))
 refine W_q (r_loadbk 0 (vs := [_, _, _]) rfl T.ag25 T.sz25 rfl rfl rfl) rfl ?_
 refine mv ?_
 refine W_quiet (sright_q hF _) T.hb49 rfl rfl ?_
 refine mv ?_
 refine sp 10 ?_ ?_ <;> intro h2 <;> try simp only [tt] at h2
 refine tk (fb 2 T.fo25_2 ?_)
 refine tk (lb 0 T.ag23 ?_)
 refine tk (mv ?_)
 refine tk ?_
 obtain ⟨ad3, hA3⟩ := hb90.ad (j := block.toNat) (by have := right_block (f := f) (block := block) (by assumption); omega)
 obtain ⟨z3, hz3⟩ := hb90.getz (j := block.toNat) (by have := right_block (f := f) (block := block) (by assumption); omega)
 refine W_q (r_index hA3 Tryz.underlying23 T.sz44 rfl rfl ⟨by have := right_block (f := f) (block := block) (by assumption); omega, by have := right_block (f := f) (block := block) (by assumption); omega⟩) rfl ?_
 refine tk ?_
 obtain ⟨es4, f4, _, l4⟩ := Sl.get hb90 hA3 hz3
 have F4 := f4
 obtain ⟨A4, c4, B4, d4, C4, e4, rfl, hp4, ho4, ht4, i4a, i4b⟩ := f4
 refine W_q (r_load_immk (vs := [_, _, _, _, _]) rfl T.ag44 T.sz44 l4) rfl ?_
 refine tk (mv ?_)
 refine tk ?_
 refine W_quiet (legal_q F4 (may_small (right_small (f := f) (block := block) (by assumption)) (List.mem_of_getElem? (by assumption))).1 (may_small (right_small (f := f) (block := block) (by assumption)) (List.mem_of_getElem? (by assumption))).2.1 h) T.hb50 rfl rfl ?_
 refine pt (as_ ?_)
 refine wn (kk1 [6] ?_)
 refine C_ret (RX_q1 rfl rfl ?_)
 exact congrArg Value.bool (LegalP_t (by assumption) (by assumption)).symm
 refine ps (ps (ps (ps (ps (ps (ps ?_))))))
 refine pf (as_ ?_)
 refine wn (kk1 [6] ?_)
 refine C_ret (RX_q1 rfl rfl ?_)
 exact congrArg Value.bool (LegalP_f (by assumption)).symm
theorem Hangs_g {m : Imm} {es : List Value} {f : FFun} (hF : rFunc m es f) (block : Int) (at_ : Int) : Gives Tryz.prog 22 [.agg es.toArray, .int .i64 block, .int .i64 at_] m (fun m' v => ∃ A' c', v = .slice A' (HangsP f block at_).length c' ∧ Ints m' A' c' (HangsP f block at_)) := by
 have hF_0 := hF
 obtain ⟨A90, c90, B90, d90, rfl, hq90, hb90, i90a⟩ := hF_0
 have hbl := hb90.len
 refine gives_of Tryz.func22 rfl Tryz.ntmps22 rfl (fun w => ?_)
 refine sq (rg ?_)
 refine S_box (l := [_, _, _]) rfl rfl rfl (fun b1 => ?_)
 refine as_ ?_
 refine wn (kk4 [1,2,3,6] (sq (sq (rg ?_))))
 refine W_q (r_loadbk 0 (vs := [_, _, _]) rfl T.ag25 T.sz25 rfl rfl rfl) rfl ?_
 refine mv ?_
 refine W_quiet (sright_q hF _) T.hb49 rfl rfl ?_
 refine nt (mv ?_)
 refine sp 11 ?_ ?_ <;> intro h2 <;> try simp only [tt] at h2
 refine ps (ps ?_)
 refine pt (mv ?_)
 refine ps (ps (ps (ps (ps (ps (ps (ps (ps ?_))))))))
 refine pt ?_
 refine wn (kk5 [1,2,3,6,25] ?_)
 refine ctz (sq (rg ?_))
 refine as_ ?_
 refine wn (kk4 [1,2,3,6] ?_)
 exact C_ret (RX_then (RX_g1 rfl rfl (ints_nil (HangsP_f (by assumption)))))
 refine tk (mv ?_)
 refine tk (bl (pf (mv ?_)))
 refine sp 15 ?_ ?_ <;> intro h3 <;> try simp only [tt] at h3
 refine ps (ps (ps (ps (ps (ps (ps (ps (ps ?_))))))))
 refine pt ?_
 refine wn (kk5 [1,2,3,6,25] ?_)
 refine ctz (sq (rg ?_))
 refine as_ ?_
 refine wn (kk4 [1,2,3,6] ?_)
 exact C_ret (RX_then (RX_g1 rfl rfl (ints_nil (HangsP_f1 (by assumption)))))
 refine tk (mv ?_)
 refine tk (fb 2 T.fo25_2 ?_)
 refine tk (lb 0 T.ag23 ?_)
 refine tk (mv ?_)
 refine tk ?_
 obtain ⟨ad4, hA4⟩ := hb90.ad (j := block.toNat) (by have := right_block (f := f) (block := block) (by assumption); omega)
 obtain ⟨z4, hz4⟩ := hb90.getz (j := block.toNat) (by have := right_block (f := f) (block := block) (by assumption); omega)
 refine W_q (r_index hA4 Tryz.underlying23 T.sz44 rfl rfl ⟨by have := right_block (f := f) (block := block) (by assumption); omega, by have := right_block (f := f) (block := block) (by assumption); omega⟩) rfl ?_
 refine tk ?_
 refine W_q (r_field rfl T.fo44_1) rfl ?_
 refine tk ?_
 obtain ⟨es5, f5, _, l5⟩ := Sl.get hb90 hA4 hz4
 obtain ⟨A5, c5, B5, d5, C5, e5, rfl, hp5, ho5, ht5, i5a, i5b⟩ := f5
 refine liz T.ag40 (l5 1 _ rfl) ?_
 refine tk (ln Tryz.underlying40 ?_)
 refine tk (bh (pf ?_))
 refine wn (kk5 [1,2,3,6,25] ?_)
 refine cd ?_ ?_ <;> intro h6 <;> try simp only [tt] at h6
 refine sq (rg ?_)
 refine as_ ?_
 refine wn (kk4 [1,2,3,6] ?_)
 exact C_ret (RX_then (RX_g1 rfl rfl (ints_nil (HangsP_f2 (by assumption) (by omega)))))
 refine sk (kk4 [1,2,3,6] (sq (rg ?_)))
 refine fb 2 T.fo25_2 (lb 0 T.ag23 (mv ?_))
 obtain ⟨ad7, hA7⟩ := hb90.ad (j := block.toNat) (by have := right_block (f := f) (block := block) (by assumption); omega)
 refine W_q (r_index hA7 Tryz.underlying23 T.sz44 rfl rfl ⟨by have := right_block (f := f) (block := block) (by assumption); omega, by have := right_block (f := f) (block := block) (by assumption); omega⟩) rfl ?_
 obtain ⟨es8, f8, _, l8⟩ := Sl.get hb90 hA7 hz4
 have F8 := f8
 obtain ⟨A8, c8, B8, d8, C8, e8, rfl, hp8, ho8, ht8, i8a, i8b⟩ := f8
 refine W_q (r_load_immk (vs := [_, _, _, _, _]) rfl T.ag44 T.sz44 l8) rfl ?_
 refine S_gives (hangs_g F8 (may_small (right_small (f := f) (block := block) (by assumption)) (List.mem_of_getElem? (by assumption))).1 (may_small (right_small (f := f) (block := block) (by assumption)) (List.mem_of_getElem? (by assumption))).2.1) T.hb52 rfl rfl (fun m9 v9 le9 hv9 => ?_)
 replace hF := rFunc_mono _ _ _ _ le9 hF
 replace hq90 := hq90.mono rI_mono le9
 replace hb90 := hb90.mono rBlock_mono le9
 replace hp5 := hp5.mono rPhi_mono le9
 replace ho5 := ho5.mono rOp_mono le9
 replace ht5 := ht5.mono rI_mono le9
 replace F8 := rBlock_mono _ _ _ _ le9 F8
 replace hp8 := hp8.mono rPhi_mono le9
 replace ho8 := ho8.mono rOp_mono le9
 replace ht8 := ht8.mono rI_mono le9
 obtain ⟨Ah9, ch9, rfl, hh9⟩ := hv9
 refine mv ?_
 obtain ⟨ad10, hA10⟩ := hh9.ad (j := at_.toNat) (by rw [hangsP_len]; omega)
 obtain ⟨z10, hz10⟩ := hh9.getz (j := at_.toNat) (by rw [hangsP_len]; omega)
 refine W_q (r_index hA10 Tryz.underlying65 T.sz22 rfl rfl ⟨by omega, by rw [hangsP_len]; omega⟩) rfl ?_
 obtain ⟨A11, c11, l11, h11⟩ := Sl.getS hh9 hA10 hz10
 refine liz T.ag22 l11 ?_
 refine as_ ?_
 refine wn (kk1 [6] ?_)
 exact C_ret (RX_g1 rfl rfl (ints_is (HangsP_t (by assumption) (by omega) hz4 hz10) h11))
theorem Depth_g {m : Imm} {es : List Value} {f : FFun} (hF : rFunc m es f) (block : Int)  : Gives Tryz.prog 26 [.agg es.toArray, .int .i64 block] m (fun m' v => ∃ A' c', v = .slice A' (DepthP f block).length c' ∧ Ints m' A' c' (DepthP f block)) := by
 have hF_0 := hF
 obtain ⟨A90, c90, B90, d90, rfl, hq90, hb90, i90a⟩ := hF_0
 have hbl := hb90.len
 refine gives_of Tryz.func26 rfl Tryz.ntmps26 rfl (fun w => ?_)
 refine sq (rg ?_)
 refine S_box (l := [_, _, _]) rfl rfl rfl (fun b1 => ?_)
 refine as_ ?_
 refine wn (kk3 [1,2,4] (sq (sq (rg ?_))))
 refine W_q (r_loadbk 0 (vs := [_, _, _]) rfl T.ag25 T.sz25 rfl rfl rfl) rfl ?_
 refine mv ?_
 refine W_quiet (sright_q hF _) T.hb49 rfl rfl ?_
 refine nt ?_
 refine wn (kk4 [1,2,4,14] ?_)
 refine cd ?_ ?_ <;> intro h2 <;> try simp only [tt] at h2
 refine sq (rg ?_)
 refine as_ ?_
 refine wn (kk3 [1,2,4] ?_)
 exact C_ret (RX_then (RX_g1 rfl rfl (ints_nil (DepthP_f (by assumption)))))
 refine sk (kk3 [1,2,4] (sq (rg ?_)))
 refine as_ ?_
 refine wn (kk4 [1,2,4,5] (sq (sq (rg ?_))))
 refine fb 2 T.fo25_2 (lb 0 T.ag23 (mv ?_))
 obtain ⟨ad3, hA3⟩ := hb90.ad (j := block.toNat) (by have := right_block (f := f) (block := block) (by assumption); omega)
 obtain ⟨z3, hz3⟩ := hb90.getz (j := block.toNat) (by have := right_block (f := f) (block := block) (by assumption); omega)
 refine W_q (r_index hA3 Tryz.underlying23 T.sz44 rfl rfl ⟨by have := right_block (f := f) (block := block) (by assumption); omega, by have := right_block (f := f) (block := block) (by assumption); omega⟩) rfl ?_
 obtain ⟨es4, f4, _, l4⟩ := Sl.get hb90 hA3 hz3
 have F4 := f4
 obtain ⟨A4, c4, B4, d4, C4, e4, rfl, hp4, ho4, ht4, i4a, i4b⟩ := f4
 refine W_q (r_load_immk (vs := [_, _, _, _, _]) rfl T.ag44 T.sz44 l4) rfl ?_
 obtain ⟨hol, hal, _⟩ := may_small (right_small (f := f) (block := block) (by assumption)) (List.mem_of_getElem? hz3)
 have hhl := hangsP_len z3.ops
 refine S_gives (hangs_g F4 (may_small (right_small (f := f) (block := block) (by assumption)) (List.mem_of_getElem? (by assumption))).1 (may_small (right_small (f := f) (block := block) (by assumption)) (List.mem_of_getElem? (by assumption))).2.1) T.hb52 rfl rfl (fun m5 v5 le5 hv5 => ?_)
 replace hF := rFunc_mono _ _ _ _ le5 hF
 replace hq90 := hq90.mono rI_mono le5
 replace hb90 := hb90.mono rBlock_mono le5
 replace F4 := rBlock_mono _ _ _ _ le5 F4
 replace hp4 := hp4.mono rPhi_mono le5
 replace ho4 := ho4.mono rOp_mono le5
 replace ht4 := ht4.mono rI_mono le5
 obtain ⟨Ah5, ch5, rfl, hh5⟩ := hv5
 refine ln Tryz.underlying65 (mv ?_)
 refine wn (kk5 [4,5,20,21,22] ?_)
 refine CW_nilRow 3 1 ?_
 refine C_range (Option Nat × Nat × List Int) ((hangsP z3.ops).length) (fun k6 x6 => x6.2.2 = depK (hangsP z3.ops) k6 ∧ (0 < x6.2.2.length → ∃ b, x6.1 = some b)) (fun k6 x6 => [(5, .slice (rowA x6.1) x6.2.2.length x6.2.1)]) (fun k6 x6 => [rowI 3 x6.1 x6.2.1 x6.2.2]) [5] [4, 20] (F := [(4, _), (20, _)]) ((none, 0, [])) rfl rfl (by rw [hangsP_len]; omega) ⟨rfl, by simp⟩ rfl rfl rfl rfl rfl rfl rfl (fun _ _ => rfl) (fun _ _ => rfl) (fun k6 x6 hk6 hJ6 => ?_) (fun x6 hJ6 => ?_)
 obtain ⟨go, co, lo⟩ := x6
 obtain ⟨hlo, hgo⟩ := hJ6
 have hlo' := congrArg List.length hlo
 rw [depK_len _ _ (by omega)] at hlo'
 dsimp only at hlo hgo hlo'
 refine jj5 [4,5,20,21,22] (sq (rg ?_))
 obtain ⟨ad8, hA8⟩ := hh5.ad (j := k6) (by omega)
 obtain ⟨z8, hz8⟩ := hh5.getz (j := k6) (by omega)
 refine ixz hA8 Tryz.underlying65 T.sz22 ?_
 obtain ⟨A9, c9, l9, h9⟩ := Sl.getS hh5 hA8 hz8
 refine liz T.ag22 l9 ?_
 have hll := h9.len
 refine as_ ?_
 refine wn (kk6 [4,5,7,20,21,22] (sq (rg ?_)))
 refine as_ ?_
 refine wn (kk7 [4,5,7,8,20,21,22] (sq (sq (rg ?_))))
 refine mv (ln Tryz.underlying22 (mv ?_))
 refine wn (kk9 [4,5,8,20,21,22,26,27,28] ?_)
 refine C_range (Int) (z8.length) (fun k10 x10 => x10 = depS (hangsP z3.ops) lo (z8.take k10)) (fun k10 x10 => [(8, .int .i64 x10)]) (fun _ _ => []) [8] [4, 5, 20, 21, 22, 26] (F := [(4, _), (5, _), (20, _), (21, _), (22, _), (26, _)]) (0) rfl rfl (by omega) (by simp [depS]) rfl rfl rfl rfl rfl rfl rfl (fun _ _ => rfl) (fun _ _ => rfl) (fun k10 x10 hk10 hJ10 => ?_) (fun x10 hJ10 => ?_)
 refine jj9 [4,5,8,20,21,22,26,27,28] (sq (rg ?_))
 obtain ⟨ad11, hA11⟩ := h9.ad (j := k10) (by omega)
 obtain ⟨z11, hz11⟩ := h9.getz (j := k10) (by omega)
 refine ixz hA11 Tryz.underlying22 T.sz3 ?_
 obtain ⟨l12, r12⟩ := Sl.getI h9 hA11 hz11
 refine liz T.ag3 l12 ?_
 have hrg := hangsP_rng hz8 _ (List.mem_of_getElem? hz11)
 refine as_ ?_
 refine wn (kk10 [4,5,8,10,20,21,22,26,27,28] (rg ?_))
 refine mv (mv (mv ?_))
 obtain ⟨b13, rfl⟩ : ∃ b, go = some b := hgo (by omega)
 refine W_q (r_indexr (o := z11.toNat) Tryz.underlying22 T.sz3 rfl rfl ⟨by omega, by dsimp only; omega⟩ (by omega)) rfl ?_
 refine W_q (r_loadrI 0 rfl T.ag3 rfl (List.getElem?_eq_getElem (show z11.toNat < lo.length by omega))) rfl ?_
 refine W_q (r_add rfl rfl (by have hv := depK_rng (ops := z3.ops) k6 (by omega) _ (by rw [← hlo]; exact List.getElem_mem (show z11.toNat < lo.length by omega)); constructor <;> omega)) rfl ?_
 refine W_q (r_max rfl rfl) rfl ?_
 refine as_ ?_
 refine wn (nb (?_))
 refine NX_rng [8, 4, 5, 20, 21, 22, 26] (_) ?_ rfl (List.Sublist.refl _) rfl (Imm.le_refl _)
 rw [depS_take hz11, hJ10, getD_of (List.getElem?_eq_getElem (show z11.toNat < lo.length by omega))]
 have hd := hJ10
 rw [List.take_length] at hd
 refine kk6 [4,5,8,20,21,22] (rg ?_)
 refine mv (mv ?_)
 refine S_litr (vs := [_]) (cs := [_]) Tryz.underlying22 T.sz3 T.ze3 rfl rfl rfl rfl rfl rfl rfl (fun b14 => ?_)
 refine S_appendI (l := lo) (g1 := go) [_] 1 rfl rfl rfl Tryz.underlying22 T.sz3 T.ze3 T.by3 rfl rfl (.row 0 rfl) (by simp only [List.length_cons, List.length_nil]; omega) rfl (fun g15 c15 hg15 => ?_)
 refine as_ ?_
 refine wn (nb (?_))
 refine NX_rng [5, 4, 20] ((_, _, _)) ?_ rfl (sub_drop 1 rfl) rfl (Imm.le_refl _)
 refine ⟨?_, hg15⟩
 rw [depK_succ hz8, ← hlo, hd]
 obtain ⟨go, co, lo⟩ := x6
 obtain ⟨hlo, hgo⟩ := hJ6
 have hlo' := congrArg List.length hlo
 rw [depK_len _ _ (by omega)] at hlo'
 dsimp only at hlo hgo hlo'
 refine kk2 [4,5] (sq (rg ?_))
 refine mv (as_ ?_)
 refine wn (kk1 [4] ?_)
 refine C_ret (RX_know (k_rowI 0 rfl) (fun hr => ?_))
 try dsimp only at hr
 refine RX_freeze 0 rfl (fun _ h => h) (fun mf lef hf => ?_)
 have hfin : Ints mf _ _ _ := Ints_frz hf hr.1 hr.2.1 (by dsimp only; omega) hr.2.2 (fun z hz => by rw [hlo] at hz; have := depK_rng (ops := z3.ops) (z3.ops.length) (Nat.le_refl _) z (by rw [← hangsP_len]; exact hz); exact ⟨by omega, by omega⟩)
 exact RX_g1 rfl rfl (ints_is ((DepthP_t (by assumption) hz3).trans hlo.symm) hfin)
theorem Flat_g {m : Imm} {es : List Value} {f : FFun} (hF : rFunc m es f) (block : Int)  : Gives Tryz.prog 24 [.agg es.toArray, .int .i64 block] m (fun m' v => ∃ A' c', v = .slice A' (FlatP f block).length c' ∧ Ints m' A' c' (FlatP f block)) := by
 have hF_0 := hF
 obtain ⟨A90, c90, B90, d90, rfl, hq90, hb90, i90a⟩ := hF_0
 have hbl := hb90.len
 refine gives_of Tryz.func24 rfl Tryz.ntmps24 rfl (fun w => ?_)
 refine sq (rg ?_)
 refine S_box (l := [_, _, _]) rfl rfl rfl (fun b1 => ?_)
 refine as_ ?_
 refine wn (kk3 [1,2,4] ?_)
 refine C_scope 0 rfl ?_
 refine sq (sq (rg ?_))
 refine W_q (r_loadbk 0 (vs := [_, _, _]) rfl T.ag25 T.sz25 rfl rfl rfl) rfl ?_
 refine mv ?_
 refine W_quiet (sright_q hF _) T.hb49 rfl rfl ?_
 refine nt ?_
 refine wn (kk4 [1,2,4,16] ?_)
 refine cd ?_ ?_ <;> intro h2 <;> try simp only [tt] at h2
 refine sq (rg ?_)
 refine as_ ?_
 refine wn (kk3 [1,2,4] ?_)
 exact C_ret (RX_then (RX_jump (RX_g1 rfl rfl (ints_nil (FlatP_f (by assumption))))))
 refine sk (kk3 [1,2,4] (sq (rg ?_)))
 refine fb 2 T.fo25_2 (lb 0 T.ag23 (mv ?_))
 obtain ⟨ad3, hA3⟩ := hb90.ad (j := block.toNat) (by have := right_block (f := f) (block := block) (by assumption); omega)
 obtain ⟨z3, hz3⟩ := hb90.getz (j := block.toNat) (by have := right_block (f := f) (block := block) (by assumption); omega)
 refine W_q (r_index hA3 Tryz.underlying23 T.sz44 rfl rfl ⟨by have := right_block (f := f) (block := block) (by assumption); omega, by have := right_block (f := f) (block := block) (by assumption); omega⟩) rfl ?_
 obtain ⟨es4, f4, _, l4⟩ := Sl.get hb90 hA3 hz3
 have F4 := f4
 obtain ⟨A4, c4, B4, d4, C4, e4, rfl, hp4, ho4, ht4, i4a, i4b⟩ := f4
 refine W_q (r_load_immk (vs := [_, _, _, _, _]) rfl T.ag44 T.sz44 l4) rfl ?_
 obtain ⟨hol, hal, _⟩ := may_small (right_small (f := f) (block := block) (by assumption)) (List.mem_of_getElem? hz3)
 have hhl := hangsP_len z3.ops
 refine sa5 T.ze44 (fun b5 => ?_)
 refine sb5 0 T.sz44 ?_
 refine wn (kk2 [4,5] (sq (rg ?_)))
 refine W_q (r_loadbk 0 (vs := [_, _, _, _, _]) rfl T.ag44 T.sz44 rfl rfl rfl) rfl ?_
 refine S_gives (hangs_g F4 (may_small (right_small (f := f) (block := block) (by assumption)) (List.mem_of_getElem? (by assumption))).1 (may_small (right_small (f := f) (block := block) (by assumption)) (List.mem_of_getElem? (by assumption))).2.1) T.hb52 rfl rfl (fun m6 v6 le6 hv6 => ?_)
 replace hF := rFunc_mono _ _ _ _ le6 hF
 replace hq90 := hq90.mono rI_mono le6
 replace hb90 := hb90.mono rBlock_mono le6
 replace F4 := rBlock_mono _ _ _ _ le6 F4
 replace hp4 := hp4.mono rPhi_mono le6
 replace ho4 := ho4.mono rOp_mono le6
 replace ht4 := ht4.mono rI_mono le6
 obtain ⟨Ah6, ch6, rfl, hh6⟩ := hv6
 refine as_ ?_
 refine wn (kk3 [4,5,6] (sq (rg ?_)))
 refine S_makeMap rfl (fun rm => ?_)
 refine as_ ?_
 refine wn (kk4 [4,5,6,7] (sq (rg ?_)))
 refine as_ ?_
 refine wn (kk5 [4,5,6,7,8] ?_)
 refine CW_nilRow 3 1 ?_
 refine CW_front 0 rfl rfl ?_
 refine CW_front 1 rfl rfl ?_
 refine C_again (List (Int × Bool) × Option Nat × Nat × List Int) (fun mk7 x7 => m6.le mk7 ∧ (FlatSt z3.ops x7.1 x7.2.2.2 ∧ (0 < x7.2.2.2.length → ∃ b, x7.2.1 = some b))) (fun x7 => z3.ops.length - x7.2.2.2.length) (fun x7 => [(8, .slice (rowA x7.2.1) x7.2.2.2.length x7.2.2.1)]) (fun x7 => [imap rm (valL Value.bool x7.1), rowI 3 x7.2.1 x7.2.2.1 x7.2.2.2]) [8] [5, 6, 7] (F := [(5, _), (6, _), (7, _)]) (([], none, 0, [])) ⟨Imm.le_refl _, ⟨flatSt_init _, by simp⟩⟩ rfl rfl rfl (fun mk7 x7 hJ7 => ?_)
 obtain ⟨hle7, hJ7⟩ := hJ7
 replace hF := rFunc_mono _ _ _ _ hle7 hF
 replace hq90 := hq90.mono rI_mono hle7
 replace hb90 := hb90.mono rBlock_mono hle7
 replace F4 := rBlock_mono _ _ _ _ hle7 F4
 replace hp4 := hp4.mono rPhi_mono hle7
 replace ho4 := ho4.mono rOp_mono hle7
 replace ht4 := ht4.mono rI_mono hle7
 replace hh6 := hh6.mono (rS_mono rI_mono) hle7
 obtain ⟨hs, hgo⟩ := hJ7
 have hsl := hs.len
 refine jj4 [5,6,7,8] (sq (sq (rg ?_)))
 refine S_litr (vs := [_, _]) (cs := [_, _]) Tryz.underlying54 T.sz4 T.ze4 rfl rfl rfl rfl rfl rfl rfl (fun b9 => ?_)
 refine ln Tryz.underlying54 (mv ?_)
 refine wn (kk7 [5,6,7,8,25,26,27] ?_)
 refine C_range (Unit) (2) (fun k10 x10 => ∀ j, j < k10 → ∀ a, a < z3.ops.length → condF z3.ops x7.1 (j == 0) a = false) (fun k10 x10 => [(8, .slice (rowA x7.2.1) x7.2.2.2.length x7.2.2.1)]) (fun _ _ => []) [8] [5, 6, 7, 25] (F := [(5, _), (6, _), (7, _), (25, _)]) (()) rfl rfl (by omega) (by simp) rfl rfl rfl rfl rfl rfl rfl (fun _ _ => rfl) (fun _ _ => rfl) (fun k10 x10 hk10 hJ10 => ?_) (fun x10 hJ10 => ?_)
 refine jj7 [5,6,7,8,25,26,27] (sq (rg ?_))
 refine W_q (r_indexr (o := k10) Tryz.underlying54 T.sz4 rfl rfl ⟨by omega, by omega⟩ (by omega)) rfl ?_
 refine W_q (r_loadr 0 rfl T.ag4 rfl (pass_lit hk10)) rfl ?_
 refine as_ ?_
 refine wn (kk8 [5,6,7,8,10,25,26,27] (sq (rg ?_)))
 refine fb 1 T.fo44_1 (lb 3 T.ag40 (ln Tryz.underlying40 (mv ?_)))
 refine wn (kk11 [5,6,7,8,10,25,26,27,32,33,34] ?_)
 refine C_range (Unit) (z3.ops.length) (fun k12 x12 => ∀ a, a < k12 → condF z3.ops x7.1 (k10 == 0) a = false) (fun k12 x12 => [(8, .slice (rowA x7.2.1) x7.2.2.2.length x7.2.2.1)]) (fun _ _ => []) [8] [5, 6, 7, 10, 25, 26, 27, 32] (F := [(5, _), (6, _), (7, _), (10, _), (25, _), (26, _), (27, _), (32, _)]) (()) rfl rfl (by omega) (by simp) rfl rfl rfl rfl rfl rfl rfl (fun _ _ => rfl) (fun _ _ => rfl) (fun k12 x12 hk12 hJ12 => ?_) (fun x12 hJ12 => ?_)
 refine jj11 [5,6,7,8,10,25,26,27,32,33,34] (sq (rg ?_))
 refine mv ?_
 obtain ⟨ad13, hA13⟩ := ho4.ad (j := k12) (by omega)
 obtain ⟨z13, hz13⟩ := ho4.getz (j := k12) (by omega)
 refine ixz hA13 Tryz.underlying40 T.sz51 ?_
 obtain ⟨es14, f14, _, l14⟩ := Sl.get ho4 hA13 hz13
 have F14 := f14
 obtain ⟨A14, c14, rfl, h14, i14a, i14b, i14c, i14d, i14e⟩ := f14
 refine W_q (r_load_immk (vs := [_, _, _, _, _, _]) rfl T.ag51 T.sz51 l14) rfl ?_
 refine sa6 T.ze51 (fun b15 => ?_)
 refine as_ ?_
 refine sb6 0 T.sz51 ?_
 refine wn (kk13 [5,6,7,8,10,11,12,25,26,27,32,33,34] (sq (rg ?_)))
 refine mv (mv ?_)
 refine W_q (r_lookup 2 Tryz.underlying67 Tryz.underlying3 T.ze4 rfl rfl rfl (val_getD Value.bool _ _ false)) rfl ?_
 refine nt (mv ?_)
 refine sp 43 ?_ ?_ <;> intro h16 <;> try simp only [tt] at h16
 refine tk (fb 0 T.fo51_0 ?_)
 refine tk (lb 0 T.ag3 ?_)
 refine tk ?_
 refine W_quiet (Pure_q _) T.hb53 rfl rfl ?_
 refine tk (mv ?_)
 refine tk ?_
 refine W_q (r_booleql rfl rfl Tryz.underlying4) rfl ?_
 refine pt (mv ?_)
 refine sp 50 ?_ ?_ <;> intro h17 <;> try simp only [tt] at h17
 refine tk (mv ?_)
 refine tk (mv ?_)
 refine tk (mv ?_)
 refine tk ?_
 obtain ⟨ad18, hA18⟩ := hh6.ad (j := k12) (by omega)
 obtain ⟨z18, hz18⟩ := hh6.getz (j := k12) (by omega)
 refine ixz hA18 Tryz.underlying65 T.sz22 ?_
 refine tk ?_
 obtain ⟨A19, c19, l19, h19⟩ := Sl.getS hh6 hA18 hz18
 refine liz T.ag22 l19 ?_
 refine tk ?_
 refine W_q (r_quietM 2 rfl (fun m' le hc => stands_q (ll := x7.1) hc (h19.mono rI_mono le)) T.hb54 rfl) rfl ?_
 refine pt ?_
 refine wn (kk13 [5,6,7,8,10,11,25,26,27,32,33,34,57] ?_)
 refine cd ?_ ?_ <;> intro h20 <;> try simp only [tt] at h20
 refine sq (rg ?_)
 refine mv (mv ?_)
 refine S_mapUpdateV (f := Value.bool) (l := x7.1) true 2 Tryz.underlying67 Tryz.underlying3 rfl rfl rfl rfl ?_
 refine wn (kk12 [5,6,7,8,10,11,25,26,27,32,33,34] (sq (rg ?_)))
 refine mv (mv ?_)
 refine S_litr (vs := [_]) (cs := [_]) Tryz.underlying22 T.sz3 T.ze3 rfl rfl rfl rfl rfl rfl rfl (fun b21 => ?_)
 refine S_appendI (l := x7.2.2.2) (g1 := x7.2.1) [_] 4 rfl rfl rfl Tryz.underlying22 T.sz3 T.ze3 T.by3 rfl rfl (.row 0 rfl) (by simp only [List.length_cons, List.length_nil]; omega) rfl (fun g22 c22 hg22 => ?_)
 refine as_ ?_
 refine wn (kk11 [5,6,7,8,10,25,26,27,32,33,34] ?_)
 refine C_goto (GX_block (GX_then (GX_block (GX_block (GX_then (GX_block (GX_then (?_))))))))
 have hnx := flatNext_some hk10 hk12 hJ10 hJ12 (condF_t (by assumption) hz13 (beq_iff_eq.2 (by assumption)) hz18 (by assumption))
 obtain ⟨hs2, hlt⟩ := hs.snoc hk12 hnx (by assumption)
 refine GX_low [8, 5, 6, 7] ((_, _, _, _)) ?_ ⟨hle7, ?_⟩ rfl (sub_drop 3 rfl) rfl
 simp only [List.length_append, List.length_singleton]; omega
 exact ⟨hs2, hg22⟩
 refine sk (nb (?_))
 refine NX_rng [8, 5, 6, 7, 10, 25, 26, 27, 32] (()) ?_ rfl (sub_drop 1 rfl) rfl (Imm.le_refl _)
 exact lt_succ_all hJ12 (by first | exact condF_1 (by assumption) | exact condF_2 hz13 (beq_eq_false_iff_ne.2 (by assumption)) | exact condF_3 hz18 (by assumption))
 refine ps (ps (ps (ps (ps (ps ?_)))))
 refine pf ?_
 refine wn (kk13 [5,6,7,8,10,11,25,26,27,32,33,34,57] ?_)
 refine cfz (sk (nb (?_)))
 refine NX_rng [8, 5, 6, 7, 10, 25, 26, 27, 32] (()) ?_ rfl (sub_drop 1 rfl) rfl (Imm.le_refl _)
 exact lt_succ_all hJ12 (by first | exact condF_1 (by assumption) | exact condF_2 hz13 (beq_eq_false_iff_ne.2 (by assumption)) | exact condF_3 hz13 (by assumption))
 refine ps (ps (ps (ps (ps ?_))))
 refine pf (mv ?_)
 refine ps (ps (ps (ps (ps (ps ?_)))))
 refine pf ?_
 refine wn (kk13 [5,6,7,8,10,11,25,26,27,32,33,34,57] ?_)
 refine cfz (sk (nb (?_)))
 refine NX_rng [8, 5, 6, 7, 10, 25, 26, 27, 32] (()) ?_ rfl (sub_drop 1 rfl) rfl (Imm.le_refl _)
 exact lt_succ_all hJ12 (by first | exact condF_1 (by assumption) | exact condF_2 hz13 (beq_eq_false_iff_ne.2 (by assumption)) | exact condF_3 hz13 (by assumption))
 refine nb (?_)
 refine NX_rng [8, 5, 6, 7, 25] (()) ?_ rfl (List.Sublist.refl _) rfl (Imm.le_refl _)
 exact lt_succ_all hJ10 hJ12
 refine kk4 [5,6,7,8] (sq (rg ?_))
 refine mv (as_ ?_)
 refine wn (kk5 [4,5,6,7,8] ?_)
 refine C_ret (RX_jump (RX_know (k_rowI 2 rfl) (fun hr => ?_)))
 refine RX_freeze 2 rfl (fun _ h => h) (fun mf lef hf => ?_)
 have hfin : Ints mf _ _ _ := Ints_frz hf hr.1 hr.2.1 (by have := hs.len; omega) hr.2.2 (fun z hz => by have := hs.rng z hz; exact ⟨by omega, by omega⟩)
 exact RX_g1 rfl rfl (ints_is ((FlatP_t (by assumption) hz3).trans (hs.end_ (flatNext_none hJ10))) hfin)
namespace T
theorem bl25 : bls? Tryz.prog 25 = some ([(0, 1), (1, 1), (2, 1)], ([(.slice none 0 0), (.int .i64 0), (.slice none 0 0)] : List Value)) := by kernel_rfl
theorem by44 : byt? Tryz.prog 44 = some 88 := by kernel_rfl
theorem by51 : byt? Tryz.prog 51 = some 64 := by kernel_rfl
theorem hb19 : hasBody Tryz.prog 19 = true := by kernel_rfl
theorem hb47 : hasBody Tryz.prog 47 = true := by kernel_rfl
theorem sz23 : sz? Tryz.prog 23 = some 1 := by kernel_rfl
theorem sz40 : sz? Tryz.prog 40 = some 1 := by kernel_rfl
theorem ze25 : zero? Tryz.prog 25 = some (.agg #[(.slice none 0 0), (.int .i64 0), (.slice none 0 0)]) := by kernel_rfl
end T
theorem CloneB_d {m : Imm} {A : Option Addr} {c : Nat} {l : List FBlk} (h : Sl rBlock 5 m A c l) (h0 : 0 < l.length) (hl : l.length ≤ 1000) : Does Tryz.prog 47 [.slice A l.length c] m ([]) (fun m' R' v => m' = m ∧ ∃ b cap xs, R' = [row (some b) l.length cap 44 5 xs] ∧ SRows rBlock 5 m xs l ∧ v = .slice (some ⟨b, 0, none⟩) l.length cap) := by
 obtain ⟨ad, rfl⟩ := h.ad (j := 0) (by omega)
 obtain ⟨ys, hy1, hy2, hy3⟩ := SRows.of_sl h rfl one_block
 refine does_of Tryz.func47 rfl Tryz.ntmps47 rfl (fun w => ?_)
 refine sq (rg ?_)
 refine as_ ?_
 refine wn (kk2 [0,2] (sq (sq (rg ?_))))
 refine mv ?_
 refine W_q (r_sliceeq rfl rfl Tryz.underlying23) rfl ?_
 refine wn (kk3 [0,2,4] ?_)
 refine cd ?_ ?_ <;> intro h1 <;> try simp only [tt] at h1
 refine sq (rg ?_)
 refine as_ ?_
 refine wn (kk2 [0,2] ?_)
 exact absurd h1 (by simp)
 refine sk (kk2 [0,2] (sq (rg ?_)))
 refine S_litr (vs := []) (cs := []) Tryz.underlying23 T.sz44 T.ze44 rfl rfl rfl rfl rfl rfl rfl (fun b2 => ?_)
 refine mv ?_
 refine S_appendG (g1 := (some b2)) ys 0 rfl rfl rfl Tryz.underlying23 T.sz44 T.ze44 T.by44 rfl rfl hy1.len (Src.of_cells hy3) hy2 (by omega) (by unfold maxLen; omega) rfl (fun g3 c3 hg3 => ?_)
 refine as_ ?_
 refine wn (kk1 [2] ?_)
 obtain ⟨b, rfl⟩ : ∃ b, g3 = some b := hg3 (by omega)
 refine C_ret (RX_d1 rfl rfl (sub_one 0 rfl) ⟨rfl, b, c3, _, ?_, hy1, ?_⟩) <;> simp [rowA]
theorem Put_g {m : Imm} {es : List Value} {f : FFun} (hF : rFunc m es f) (block : Int) {A : Option Addr} {c : Nat} {order : List Int} (h : Ints m A c order) : Gives Tryz.prog 16 [.agg es.toArray, .int .i64 block, .slice A order.length c] m (PutΦ f block order) := by
 have hF_0 := hF
 obtain ⟨A90, c90, B90, d90, rfl, hq90, hb90, i90a⟩ := hF_0
 have hbl := hb90.len
 refine gives_of Tryz.func16 rfl Tryz.ntmps16 rfl (fun w => ?_)
 refine sq (rg ?_)
 refine S_box (l := [_, _, _]) rfl rfl rfl (fun b1 => ?_)
 refine sa3 T.ze25 (fun b2 => ?_)
 refine as_ ?_
 refine wn (kk5 [1,2,3,6,7] (sq (sq (rg ?_))))
 refine W_q (r_loadbk 1 (vs := [_, _, _]) rfl T.ag25 T.sz25 rfl rfl rfl) rfl ?_
 refine mv (mv ?_)
 refine W_quiet (Legal_q hF _ h) T.hb19 rfl rfl ?_
 refine nt ?_
 refine wn (kk6 [1,2,3,6,7,16] ?_)
 refine cd ?_ ?_ <;> intro h3 <;> try simp only [tt] at h3
 refine sq (rg ?_)
 refine W_q (r_builds (cs := [_, _, _]) T.bl25 rfl rfl) rfl ?_
 refine sb3 0 T.sz25 ?_
 refine as_ ?_
 refine wn (kk5 [1,2,3,6,7] ?_)
 exact C_ret (RX_then (RX_gR (res_ct 0 rfl rfl rfl T.ag25 T.sz25 rfl) (.inr ⟨by assumption, rfl⟩)))
 refine sk (kk5 [1,2,3,6,7] (sq (rg ?_)))
 obtain ⟨hrt, bo, hbo, hlg⟩ := LegalP_ex (f := f) (block := block) (order := order) (by assumption)
 have hrb := right_block hrt
 obtain ⟨hol, hal, _⟩ := may_small (right_small hrt) (List.mem_of_getElem? hbo)
 have holen := legalP_len hlg
 have horg := legalP_rng hlg
 have hbl64 : f.blocks.length ≤ 64 := by have h := right_small hrt; simp only [mayF, Bool.and_eq_true, Bool.not_eq_true', Bool.or_eq_false_iff, decide_eq_false_iff_not] at h; omega
 refine as_ ?_
 refine wn (kk6 [1,2,3,6,7,8] (sq (sq (rg ?_))))
 refine mv (ln Tryz.underlying22 (mv ?_))
 refine wn (kk8 [1,3,6,7,8,18,19,20] ?_)
 refine CW_nilRow 51 6 ?_
 refine C_range (Option Nat × Nat × List Value) (order.length) (fun k4 x4 => SRows rOp 6 m x4.2.2 (ordOps bo (order.take k4)) ∧ (0 < k4 → ∃ b, x4.1 = some b)) (fun k4 x4 => [(8, .slice (rowA x4.1) k4 x4.2.1)]) (fun k4 x4 => [row x4.1 k4 x4.2.1 51 6 x4.2.2]) [8] [1, 3, 6, 7, 18] (F := [(1, _), (3, _), (6, _), (7, _), (18, _)]) ((none, 0, [])) rfl rfl (by omega) ⟨SRows.nil, by omega⟩ rfl rfl rfl rfl rfl rfl rfl (fun _ _ => rfl) (fun _ _ => rfl) (fun k4 x4 hk4 hJ4 => ?_) (fun x4 hJ4 => ?_)
 obtain ⟨hro, hgo⟩ := hJ4
 refine jj8 [1,3,6,7,8,18,19,20] (sq (rg ?_))
 obtain ⟨ad6, hA6⟩ := h.ad (j := k4) (by omega)
 obtain ⟨z6, hz6⟩ := h.getz (j := k4) (by omega)
 refine ixz hA6 Tryz.underlying22 T.sz3 ?_
 obtain ⟨l7, r7⟩ := Sl.getI h hA6 hz6
 refine liz T.ag3 l7 ?_
 refine as_ ?_
 refine wn (kk9 [1,3,6,7,8,10,18,19,20] (rg ?_))
 refine mv (fb 2 T.fo25_2 (lb 2 T.ag23 (mv ?_)))
 obtain ⟨ad8, hA8⟩ := hb90.ad (j := block.toNat) (by omega)
 refine ixz hA8 Tryz.underlying23 T.sz44 ?_
 refine W_q (r_field rfl T.fo44_1) rfl ?_
 obtain ⟨es9, f9, _, l9⟩ := Sl.get hb90 hA8 hbo
 obtain ⟨A9, c9, B9, d9, C9, e9, rfl, hp9, ho9, ht9, i9a, i9b⟩ := f9
 refine liz T.ag40 (l9 1 _ rfl) ?_
 have hzr := horg z6 (List.mem_of_getElem? hz6)
 refine mv ?_
 obtain ⟨ad10, hA10⟩ := ho9.ad (j := z6.toNat) (by omega)
 obtain ⟨z10, hz10⟩ := ho9.getz (j := z6.toNat) (by omega)
 refine ixz hA10 Tryz.underlying40 T.sz51 ?_
 obtain ⟨es11, f11, _, l11⟩ := Sl.get ho9 hA10 hz10
 have F11 := f11
 obtain ⟨A11, c11, rfl, h11, i11a, i11b, i11c, i11d, i11e⟩ := f11
 refine W_q (r_load_immk (vs := [_, _, _, _, _, _]) rfl T.ag51 T.sz51 l11) rfl ?_
 refine S_litr (vs := [_]) (cs := [_, _, _, _, _, _]) Tryz.underlying40 T.sz51 T.ze51 rfl rfl rfl rfl rfl rfl rfl (fun b12 => ?_)
 refine S_appendG [_, _, _, _, _, _] 1 rfl rfl rfl Tryz.underlying40 T.sz51 T.ze51 T.by51 rfl rfl rfl (.row 0 rfl) rfl (by omega) (by unfold maxLen; omega) rfl (fun g13 c13 hg13 => ?_)
 refine as_ ?_
 refine wn (nb (?_))
 refine NX_rng [8, 1, 3, 6, 7, 18] ((_, _, _)) ?_ rfl (sub_drop 1 rfl) rfl (Imm.le_refl _)
 refine ⟨?_, hg13⟩
 rw [ordOps_succ hz6 hz10]
 exact hro.snoc rfl F11
 obtain ⟨hro, hgo⟩ := hJ4
 rw [List.take_of_length_le (Nat.le_refl _)] at hro
 refine NX_know (k_rowG 0 rfl) (fun hr => ?_)
 refine NX_freeze 0 rfl (fun _ h => h) (fun m14 le14 hf14 => ?_)
 replace hF := rFunc_mono _ _ _ _ le14 hF
 replace hq90 := hq90.mono rI_mono le14
 replace hb90 := hb90.mono rBlock_mono le14
 replace h := h.mono rI_mono le14
 have hoo : (ordOps bo order).length = order.length := by simp [ordOps]
 have hops := (hro.mono rOp_mono le14).sl hf14 (by rw [hoo]; exact hr.2.1) hr.2.2.1 (by rw [hoo]; omega) (by rw [hoo]; exact hgo)
 skip
 refine kk5 [1,3,6,7,8] (sq (rg ?_))
 refine W_q (r_loadbk 1 (vs := [_, _, _]) rfl T.ag25 T.sz25 rfl rfl rfl) rfl ?_
 refine sa3 T.ze25 (fun b15 => ?_)
 refine sb3 0 T.sz25 ?_
 refine wn (kk6 [1,3,6,7,8,11] (sq (rg ?_)))
 refine fb 2 T.fo25_2 (lb 2 T.ag23 ?_)
 refine S_does (R0 := []) rfl (CloneB_d hb90 (by omega) (by omega)) T.hb47 rfl rfl (fun m16 R16 v16 le16 hR16 => ?_)
 obtain ⟨rfl, bb, capb, xb, rfl, hrows, rfl⟩ := hR16
 refine fb 2 T.fo25_2 ?_
 refine sb3 1 T.sz23 ?_
 refine wn (kk5 [1,6,7,8,11] (sq (rg ?_)))
 refine fb 2 T.fo25_2 (lb 1 T.ag23 (mv (mv ?_)))
 refine W_q (r_indexr (o := (block.toNat * 5)) Tryz.underlying23 T.sz44 rfl rfl ⟨by omega, by omega⟩ (by omega)) rfl ?_
 refine W_q (r_fieldb (o' := (block.toNat * 5) + 1) rfl T.fo44_1 rfl) rfl ?_
 refine S_storerk 0 rfl rfl rfl rfl T.sz40 rfl (by rw [hrows.len]; omega) ?_
 have hrows2 := hrows.set (k := 1) hbo (by omega) (fun es _ => block_ops hops es)
 rw [hoo] at hrows2
 refine wn (kk3 [6,7,11] (sq (rg ?_)))
 refine W_q (r_loadbk 1 (vs := [_, _, _]) rfl T.ag25 T.sz25 rfl rfl rfl) rfl ?_
 refine sb3 2 T.sz25 ?_
 refine as_ ?_
 refine wn (kk2 [6,7] ?_)
 refine C_ret (RX_know (k_rowG 0 rfl) (fun hq => ?_))
 refine RX_freeze 0 rfl (fun _ h => h) (fun m18 le18 hf18 => ?_)
 replace hF := rFunc_mono _ _ _ _ le18 hF
 replace hq90 := hq90.mono rI_mono le18
 replace hb90 := hb90.mono rBlock_mono le18
 replace h := h.mono rI_mono le18
 replace hops := hops.mono rOp_mono le18
 have hres := (hrows2.mono rBlock_mono le18).sl hf18 (by rw [List.length_set]; exact hq.2.1) hq.2.2.1 (by rw [List.length_set]; omega) (by rw [List.length_set]; exact hq.2.2.2)
 refine RX_gR (res_ct 1 rfl rfl rfl T.ag25 T.sz25 rfl) (.inl ⟨by assumption, _, rfl, ?_⟩)
 rw [putOps_set hbo]
 exact ⟨_, _, _, _, by simp only [List.length_set]; rfl, hq90, hres, i90a⟩
namespace T
theorem bl42 : bls? Tryz.prog 42 = some ([(0, 1), (1, 1), (2, 1)], ([(.int .i64 0), (.int .i64 0), (.slice none 0 0)] : List Value)) := by kernel_rfl
theorem bl44 : bls? Tryz.prog 44 = some ([(0, 1), (1, 1), (2, 3)], ([(.slice none 0 0), (.slice none 0 0), (.int .i64 0), (.int .i64 0), (.slice none 0 0)] : List Value)) := by kernel_rfl
theorem bl51 : bls? Tryz.prog 51 = some ([(0, 1), (1, 1), (2, 1), (3, 1), (4, 1), (5, 1)], ([(.int .i64 0), (.int .i64 0), (.int .i64 0), (.int .i64 0), (.slice none 0 0), (.int .u64 0)] : List Value)) := by kernel_rfl
theorem hb16 : hasBody Tryz.prog 16 = true := by kernel_rfl
theorem hb21 : hasBody Tryz.prog 21 = true := by kernel_rfl
theorem hb22 : hasBody Tryz.prog 22 = true := by kernel_rfl
theorem hb24 : hasBody Tryz.prog 24 = true := by kernel_rfl
theorem hb26 : hasBody Tryz.prog 26 = true := by kernel_rfl
end T
theorem known_q {P : Program} {f : FuncId} {vs : List Value} {m : Imm} {x y : Bool} (h : Quiet P f vs m (.bool x)) (e : x = y) : Quiet P f vs m (.bool y) := e ▸ h
theorem awake19_q {m : Imm}  : Quiet Tryz.prog 14 [] m (.bool true) := by
 refine quiet_of Tryz.func14 rfl Tryz.ntmps14 rfl (fun w => ?_)
 refine sq (rg ?_)
 refine as_ ?_
 refine wn (kk1 [0] (sq (rg ?_)))
 refine W_q (r_builds (cs := [_, _, _, _, _, _]) T.bl51 rfl rfl) rfl ?_
 refine W_q (r_builds (cs := [_, _, _, _, _, _]) T.bl51 rfl rfl) rfl ?_
 refine S_lit (vs := [_, _]) (cs := [_, _]) Tryz.underlying22 T.sz3 T.ze3 rfl rfl rfl rfl rfl rfl (fun m1 ad1 le1 l1 => ?_)
 have h1 : Ints m1 (some ad1) 2 _ := Ints_lit [_, _] l1 (i64s_cons (by first | assumption | exact ⟨by omega, by omega⟩) (i64s_cons (by first | assumption | exact ⟨by omega, by omega⟩) i64s_nil))
 refine W_q (r_builds (cs := [_, _, _, _, _, _]) T.bl51 rfl rfl) rfl ?_
 refine S_lit (vs := [_, _, _]) (cs := [_, _, _, _, _, _, _, _, _, _, _, _, _, _, _, _, _, _]) Tryz.underlying40 T.sz51 T.ze51 rfl rfl rfl rfl rfl rfl (fun m2 ad2 le2 l2 => ?_)
 replace h1 := h1.mono rI_mono le2
 have s1 : rOp m2 [.int .i64 0, .int .i64 8, .int .i64 1, .int .i64 1, .slice none 0 0, .int .u64 7] awO1 := rOp_none
 have s2 : rOp m2 [.int .i64 0, .int .i64 8, .int .i64 1, .int .i64 2, .slice none 0 0, .int .u64 8] awO2 := rOp_none
 have s3 : rOp m2 [.int .i64 1, .int .i64 8, .int .i64 1, .int .i64 3, .slice _ 2 _, .int .u64 0] awO3 := rOp_some h1
 have s0 : SRows rOp 6 m2 [] [] := SRows.nil
 have s4 := ((s0.add s1).add s2).add s3
 have hO : Sl rOp 6 m2 (some ad2) 3 [awO1, awO2, awO3] := SRows.lit s4 l2
 refine W_q (r_builds (cs := [_, _, _]) T.bl42 rfl rfl) rfl ?_
 refine W_q (r_builds (cs := [_, _, _, _, _]) T.bl44 rfl rfl) rfl ?_
 refine S_lit (vs := [_]) (cs := [_, _, _, _, _]) Tryz.underlying23 T.sz44 T.ze44 rfl rfl rfl rfl rfl rfl (fun m3 ad3 le3 l3 => ?_)
 replace h1 := h1.mono rI_mono le3
 replace hO := hO.mono rOp_mono le3
 have hBs : Sl rBlock 5 m3 (some ad3) 1 [awB] := SRows.lit (SRows.nil.add (rBlock_of hO)) l3
 refine W_q (r_builds (cs := [_, _, _]) T.bl25 rfl rfl) rfl ?_
 refine sa3 T.ze25 (fun b4 => ?_)
 refine sb3 0 T.sz25 ?_
 refine wn (kk2 [0,1] (sq (rg ?_)))
 have hF : rFunc _ [.slice none 0 0, .int .i64 8, .slice _ 1 _] awF := ⟨_, _, _, _, rfl, Sl.nil _ _ _, hBs, ⟨by decide, by decide⟩⟩
 refine W_q (r_loadbk 0 (vs := [_, _, _]) rfl T.ag25 T.sz25 rfl rfl rfl) rfl ?_
 refine S_lit (vs := [_, _, _]) (cs := [_, _, _]) Tryz.underlying22 T.sz3 T.ze3 rfl rfl rfl rfl rfl rfl (fun m5 ad5 le5 l5 => ?_)
 replace h1 := h1.mono rI_mono le5
 replace hO := hO.mono rOp_mono le5
 replace hBs := hBs.mono rBlock_mono le5
 replace hF := rFunc_mono _ _ _ _ le5 hF
 have h5 : Ints m5 (some ad5) 3 _ := Ints_lit [_, _, _] l5 (i64s_cons (by first | assumption | exact ⟨by omega, by omega⟩) (i64s_cons (by first | assumption | exact ⟨by omega, by omega⟩) (i64s_cons (by first | assumption | exact ⟨by omega, by omega⟩) i64s_nil)))
 refine S_gives (Put_g hF _ h5) T.hb16 rfl rfl (fun m6 v6 le6 hv6 => ?_)
 replace h1 := h1.mono rI_mono le6
 replace hO := hO.mono rOp_mono le6
 replace hBs := hBs.mono rBlock_mono le6
 replace hF := rFunc_mono _ _ _ _ le6 hF
 replace h5 := h5.mono rI_mono le6
 obtain ⟨_, esG6, rfl, hG6⟩ := hv6.resolve_right (fun h => absurd (Eq.trans (Eq.symm aw_legal1) h.1) (by decide))
 rw [show putOps awF 0 [1, 0, 2] = ⟨[], 8, [⟨[], [awO2, awO1, awO3], ⟨0, 3, []⟩⟩]⟩ from rfl] at hG6
 have hG6_0 := hG6
 obtain ⟨A106, c106, B106, d106, rfl, hq106, hb106, i106a⟩ := hG6_0
 refine mv ?_
 refine W_q (r_extract rfl rfl) rfl ?_
 refine W_q (r_extract rfl rfl) rfl ?_
 refine sa3 T.ze25 (fun b7 => ?_)
 refine sb3 0 T.sz25 ?_
 refine as_ ?_
 refine wn (kk4 [0,1,2,3] (sq (rg ?_)))
 refine W_q (r_loadbk 1 (vs := [_, _, _]) rfl T.ag25 T.sz25 rfl rfl rfl) rfl ?_
 refine S_lit (vs := [_, _, _]) (cs := [_, _, _]) Tryz.underlying22 T.sz3 T.ze3 rfl rfl rfl rfl rfl rfl (fun m8 ad8 le8 l8 => ?_)
 replace h1 := h1.mono rI_mono le8
 replace hO := hO.mono rOp_mono le8
 replace hBs := hBs.mono rBlock_mono le8
 replace hF := rFunc_mono _ _ _ _ le8 hF
 replace h5 := h5.mono rI_mono le8
 replace hG6 := rFunc_mono _ _ _ _ le8 hG6
 replace hq106 := hq106.mono rI_mono le8
 replace hb106 := hb106.mono rBlock_mono le8
 have h8 : Ints m8 (some ad8) 3 _ := Ints_lit [_, _, _] l8 (i64s_cons (by first | assumption | exact ⟨by omega, by omega⟩) (i64s_cons (by first | assumption | exact ⟨by omega, by omega⟩) (i64s_cons (by first | assumption | exact ⟨by omega, by omega⟩) i64s_nil)))
 refine S_gives (Put_g hF _ h8) T.hb16 rfl rfl (fun m9 v9 le9 hv9 => ?_)
 replace h1 := h1.mono rI_mono le9
 replace hO := hO.mono rOp_mono le9
 replace hBs := hBs.mono rBlock_mono le9
 replace hF := rFunc_mono _ _ _ _ le9 hF
 replace h5 := h5.mono rI_mono le9
 replace hG6 := rFunc_mono _ _ _ _ le9 hG6
 replace hq106 := hq106.mono rI_mono le9
 replace hb106 := hb106.mono rBlock_mono le9
 replace h8 := h8.mono rI_mono le9
 obtain ⟨_, rfl⟩ := hv9.resolve_left (fun h => absurd (Eq.trans (Eq.symm aw_legal2) h.1) (by decide))
 refine mv ?_
 refine W_q (r_extract rfl rfl) rfl ?_
 refine W_q (r_extract rfl rfl) rfl ?_
 refine sa3 T.ze25 (fun b10 => ?_)
 refine sb3 0 T.sz25 ?_
 refine as_ ?_
 refine wn (kk5 [0,1,2,3,5] (sq (rg ?_)))
 refine mv (be (mv ?_))
 refine tk (fb 2 T.fo25_2 ?_)
 refine tk (lb 1 T.ag23 ?_)
 refine tk (ln Tryz.underlying23 ?_)
 refine tk (be (pt (mv ?_)))
 refine tk (fb 2 T.fo25_2 ?_)
 refine tk (lb 1 T.ag23 ?_)
 refine tk ?_
 have hzb0 : ([⟨[], [awO2, awO1, awO3], ⟨0, 3, []⟩⟩])[0]? = some (⟨[], [awO2, awO1, awO3], ⟨0, 3, []⟩⟩ : FBlk) := rfl
 obtain ⟨ad11, hA11⟩ := hb106.ad (j := 0) (by decide)
 refine W_q (r_index hA11 Tryz.underlying23 T.sz44 rfl rfl ⟨by decide, by decide⟩) rfl ?_
 refine tk ?_
 refine W_q (r_field rfl T.fo44_1) rfl ?_
 refine tk ?_
 obtain ⟨es12, f12, _, l12⟩ := Sl.get hb106 hA11 hzb0
 obtain ⟨A12, c12, B12, d12, C12, e12, rfl, hp12, ho12, ht12, i12a, i12b⟩ := f12
 refine liz T.ag40 (l12 1 _ rfl) ?_
 refine tk (ln Tryz.underlying40 ?_)
 refine tk (be (pt (mv ?_)))
 refine tk (fb 2 T.fo25_2 ?_)
 refine tk (lb 1 T.ag23 ?_)
 refine tk ?_
 have hzb1 : ([⟨[], [awO2, awO1, awO3], ⟨0, 3, []⟩⟩])[0]? = some (⟨[], [awO2, awO1, awO3], ⟨0, 3, []⟩⟩ : FBlk) := rfl
 obtain ⟨ad13, hA13⟩ := hb106.ad (j := 0) (by decide)
 refine W_q (r_index hA13 Tryz.underlying23 T.sz44 rfl rfl ⟨by decide, by decide⟩) rfl ?_
 refine tk ?_
 refine W_q (r_field rfl T.fo44_1) rfl ?_
 refine tk ?_
 obtain ⟨es14, f14, _, l14⟩ := Sl.get hb106 hA13 hzb1
 obtain ⟨A14, c14, B14, d14, C14, e14, rfl, hp14, ho14, ht14, i14a, i14b⟩ := f14
 refine liz T.ag40 (l14 1 _ rfl) ?_
 refine tk ?_
 have hzo0 : ([awO2, awO1, awO3])[0]? = some awO2 := rfl
 obtain ⟨ad15, hA15⟩ := ho14.ad (j := 0) (by decide)
 refine W_q (r_index hA15 Tryz.underlying40 T.sz51 rfl rfl ⟨by decide, by decide⟩) rfl ?_
 refine tk ?_
 refine W_q (r_field rfl T.fo51_3) rfl ?_
 refine tk ?_
 obtain ⟨es16, f16, _, l16⟩ := Sl.get ho14 hA15 hzo0
 obtain ⟨A16, c16, rfl, h16, i16a, i16b, i16c, i16d, i16e⟩ := f16
 refine liz T.ag3 (l16 3 _ rfl) ?_
 refine tk (be (pt (mv ?_)))
 refine tk (mv ?_)
 refine tk (be (pt (mv ?_)))
 refine tk ?_
 refine W_q (r_loadbk 2 (vs := [_, _, _]) rfl T.ag25 T.sz25 rfl rfl rfl) rfl ?_
 refine tk ?_
 refine S_gives (Hangs_g hF _ _) T.hb22 rfl rfl (fun m17 v17 le17 hv17 => ?_)
 replace h1 := h1.mono rI_mono le17
 replace hO := hO.mono rOp_mono le17
 replace hBs := hBs.mono rBlock_mono le17
 replace hF := rFunc_mono _ _ _ _ le17 hF
 replace h5 := h5.mono rI_mono le17
 replace hG6 := rFunc_mono _ _ _ _ le17 hG6
 replace hq106 := hq106.mono rI_mono le17
 replace hb106 := hb106.mono rBlock_mono le17
 replace h8 := h8.mono rI_mono le17
 replace hp12 := hp12.mono rPhi_mono le17
 replace ho12 := ho12.mono rOp_mono le17
 replace ht12 := ht12.mono rI_mono le17
 replace hp14 := hp14.mono rPhi_mono le17
 replace ho14 := ho14.mono rOp_mono le17
 replace ht14 := ht14.mono rI_mono le17
 replace h16 := h16.mono rI_mono le17
 obtain ⟨Ah17, ch17, rfl, hh17⟩ := hv17
 refine tk ?_
 refine S_lit (vs := [_, _]) (cs := [_, _]) Tryz.underlying22 T.sz3 T.ze3 rfl rfl rfl rfl rfl rfl (fun m18 ad18 le18 l18 => ?_)
 replace h1 := h1.mono rI_mono le18
 replace hO := hO.mono rOp_mono le18
 replace hBs := hBs.mono rBlock_mono le18
 replace hF := rFunc_mono _ _ _ _ le18 hF
 replace h5 := h5.mono rI_mono le18
 replace hG6 := rFunc_mono _ _ _ _ le18 hG6
 replace hq106 := hq106.mono rI_mono le18
 replace hb106 := hb106.mono rBlock_mono le18
 replace h8 := h8.mono rI_mono le18
 replace hp12 := hp12.mono rPhi_mono le18
 replace ho12 := ho12.mono rOp_mono le18
 replace ht12 := ht12.mono rI_mono le18
 replace hp14 := hp14.mono rPhi_mono le18
 replace ho14 := ho14.mono rOp_mono le18
 replace ht14 := ht14.mono rI_mono le18
 replace h16 := h16.mono rI_mono le18
 replace hh17 := hh17.mono rI_mono le18
 have h18 : Ints m18 (some ad18) 2 _ := Ints_lit [_, _] l18 (i64s_cons (by first | assumption | exact ⟨by omega, by omega⟩) (i64s_cons (by first | assumption | exact ⟨by omega, by omega⟩) i64s_nil))
 refine tk ?_
 refine W_quiet (known_q (Ints_q hh17 h18) (by rw [aw_hangs2])) T.hb21 rfl rfl ?_
 refine pt (mv ?_)
 refine tk ?_
 refine W_q (r_loadbk 2 (vs := [_, _, _]) rfl T.ag25 T.sz25 rfl rfl rfl) rfl ?_
 refine tk ?_
 refine S_gives (Flat_g hF _) T.hb24 rfl rfl (fun m19 v19 le19 hv19 => ?_)
 replace h1 := h1.mono rI_mono le19
 replace hO := hO.mono rOp_mono le19
 replace hBs := hBs.mono rBlock_mono le19
 replace hF := rFunc_mono _ _ _ _ le19 hF
 replace h5 := h5.mono rI_mono le19
 replace hG6 := rFunc_mono _ _ _ _ le19 hG6
 replace hq106 := hq106.mono rI_mono le19
 replace hb106 := hb106.mono rBlock_mono le19
 replace h8 := h8.mono rI_mono le19
 replace hp12 := hp12.mono rPhi_mono le19
 replace ho12 := ho12.mono rOp_mono le19
 replace ht12 := ht12.mono rI_mono le19
 replace hp14 := hp14.mono rPhi_mono le19
 replace ho14 := ho14.mono rOp_mono le19
 replace ht14 := ht14.mono rI_mono le19
 replace h16 := h16.mono rI_mono le19
 replace hh17 := hh17.mono rI_mono le19
 replace h18 := h18.mono rI_mono le19
 obtain ⟨Ah19, ch19, rfl, hh19⟩ := hv19
 refine tk ?_
 refine S_lit (vs := [_, _, _]) (cs := [_, _, _]) Tryz.underlying22 T.sz3 T.ze3 rfl rfl rfl rfl rfl rfl (fun m20 ad20 le20 l20 => ?_)
 replace h1 := h1.mono rI_mono le20
 replace hO := hO.mono rOp_mono le20
 replace hBs := hBs.mono rBlock_mono le20
 replace hF := rFunc_mono _ _ _ _ le20 hF
 replace h5 := h5.mono rI_mono le20
 replace hG6 := rFunc_mono _ _ _ _ le20 hG6
 replace hq106 := hq106.mono rI_mono le20
 replace hb106 := hb106.mono rBlock_mono le20
 replace h8 := h8.mono rI_mono le20
 replace hp12 := hp12.mono rPhi_mono le20
 replace ho12 := ho12.mono rOp_mono le20
 replace ht12 := ht12.mono rI_mono le20
 replace hp14 := hp14.mono rPhi_mono le20
 replace ho14 := ho14.mono rOp_mono le20
 replace ht14 := ht14.mono rI_mono le20
 replace h16 := h16.mono rI_mono le20
 replace hh17 := hh17.mono rI_mono le20
 replace h18 := h18.mono rI_mono le20
 replace hh19 := hh19.mono rI_mono le20
 have h20 : Ints m20 (some ad20) 3 _ := Ints_lit [_, _, _] l20 (i64s_cons (by first | assumption | exact ⟨by omega, by omega⟩) (i64s_cons (by first | assumption | exact ⟨by omega, by omega⟩) (i64s_cons (by first | assumption | exact ⟨by omega, by omega⟩) i64s_nil)))
 refine tk ?_
 refine W_quiet (known_q (Ints_q hh19 h20) (by rw [aw_flat])) T.hb21 rfl rfl ?_
 refine pt (mv ?_)
 refine tk ?_
 refine W_q (r_loadbk 2 (vs := [_, _, _]) rfl T.ag25 T.sz25 rfl rfl rfl) rfl ?_
 refine tk ?_
 refine S_gives (Depth_g hF _) T.hb26 rfl rfl (fun m21 v21 le21 hv21 => ?_)
 replace h1 := h1.mono rI_mono le21
 replace hO := hO.mono rOp_mono le21
 replace hBs := hBs.mono rBlock_mono le21
 replace hF := rFunc_mono _ _ _ _ le21 hF
 replace h5 := h5.mono rI_mono le21
 replace hG6 := rFunc_mono _ _ _ _ le21 hG6
 replace hq106 := hq106.mono rI_mono le21
 replace hb106 := hb106.mono rBlock_mono le21
 replace h8 := h8.mono rI_mono le21
 replace hp12 := hp12.mono rPhi_mono le21
 replace ho12 := ho12.mono rOp_mono le21
 replace ht12 := ht12.mono rI_mono le21
 replace hp14 := hp14.mono rPhi_mono le21
 replace ho14 := ho14.mono rOp_mono le21
 replace ht14 := ht14.mono rI_mono le21
 replace h16 := h16.mono rI_mono le21
 replace hh17 := hh17.mono rI_mono le21
 replace h18 := h18.mono rI_mono le21
 replace hh19 := hh19.mono rI_mono le21
 replace h20 := h20.mono rI_mono le21
 obtain ⟨Ah21, ch21, rfl, hh21⟩ := hv21
 refine tk ?_
 refine S_lit (vs := [_, _, _]) (cs := [_, _, _]) Tryz.underlying22 T.sz3 T.ze3 rfl rfl rfl rfl rfl rfl (fun m22 ad22 le22 l22 => ?_)
 replace h1 := h1.mono rI_mono le22
 replace hO := hO.mono rOp_mono le22
 replace hBs := hBs.mono rBlock_mono le22
 replace hF := rFunc_mono _ _ _ _ le22 hF
 replace h5 := h5.mono rI_mono le22
 replace hG6 := rFunc_mono _ _ _ _ le22 hG6
 replace hq106 := hq106.mono rI_mono le22
 replace hb106 := hb106.mono rBlock_mono le22
 replace h8 := h8.mono rI_mono le22
 replace hp12 := hp12.mono rPhi_mono le22
 replace ho12 := ho12.mono rOp_mono le22
 replace ht12 := ht12.mono rI_mono le22
 replace hp14 := hp14.mono rPhi_mono le22
 replace ho14 := ho14.mono rOp_mono le22
 replace ht14 := ht14.mono rI_mono le22
 replace h16 := h16.mono rI_mono le22
 replace hh17 := hh17.mono rI_mono le22
 replace h18 := h18.mono rI_mono le22
 replace hh19 := hh19.mono rI_mono le22
 replace h20 := h20.mono rI_mono le22
 replace hh21 := hh21.mono rI_mono le22
 have h22 : Ints m22 (some ad22) 3 _ := Ints_lit [_, _, _] l22 (i64s_cons (by first | assumption | exact ⟨by omega, by omega⟩) (i64s_cons (by first | assumption | exact ⟨by omega, by omega⟩) (i64s_cons (by first | assumption | exact ⟨by omega, by omega⟩) i64s_nil)))
 refine tk ?_
 refine W_quiet (known_q (Ints_q hh21 h22) (by rw [aw_depth])) T.hb21 rfl rfl ?_
 refine pt (as_ ?_)
 refine wn (kk1 [0] ?_)
 refine C_ret (RX_q1 rfl rfl ?_)
 rfl
namespace T
theorem by4 : byt? Tryz.prog 4 = some 1 := by kernel_rfl
theorem hb14 : hasBody Tryz.prog 14 = true := by kernel_rfl
theorem sz42 : sz? Tryz.prog 42 = some 3 := by kernel_rfl
end T
namespace T
theorem hb46 : hasBody Tryz.prog 46 = true := by kernel_rfl
theorem hb48 : hasBody Tryz.prog 48 = true := by kernel_rfl
end T
theorem Small4_g {m : Imm} {es : List Value} {f : FFun} (hF : rFunc m es f) : Gives Tryz.prog 46 [.agg es.toArray] m (fun _ v => ∃ q, v = .bool q) := by
 have hF_0 := hF
 obtain ⟨A90, c90, B90, d90, rfl, hq90, hb90, i90a⟩ := hF_0
 have hbl := hb90.len
 refine gives_of Tryz.func46 rfl Tryz.ntmps46 rfl (fun w => ?_)
 refine sq (rg ?_)
 refine S_box (l := [_, _, _]) rfl rfl rfl (fun b1 => ?_)
 refine as_ ?_
 refine wn (kk2 [1,2] (sq (rg ?_)))
 refine fb 0 T.fo25_0 (lb 0 T.ag22 (ln Tryz.underlying22 (as_ ?_)))
 refine wn (kk3 [1,2,3] (sq (sq (rg ?_))))
 refine as_ ?_
 refine wn (kk4 [1,2,3,4] (bk ?_))
 refine C_loop (Int) (f.blocks.length) (fun k2 x2 => True) (fun k2 x2 => [(3, .int .i64 x2), (4, .int .i64 (k2 : Int))]) (fun _ _ => []) [3, 4] [1, 2] (F := [(1, _), (2, _)]) (_) trivial rfl rfl rfl (fun k2 x2 hk2 hJ2 => ?_)
 refine jj4 [1,2,3,4] (sq (sq (rg ?_)))
 refine mv (fb 2 T.fo25_2 (lb 0 T.ag23 (ln Tryz.underlying23 (bl (mv ?_)))))
 refine sp 15 ?_ ?_ <;> intro h3 <;> try simp only [tt] at h3
 refine tk (mv ?_)
 refine tk (bq (pt ?_))
 refine wn (kk5 [1,2,3,4,18] ?_)
 refine cd ?_ ?_ <;> intro h4 <;> try simp only [tt] at h4
 refine sk (kk4 [1,2,3,4] (sq (bk (sq (rg ?_)))))
 refine mv ?_
 refine W_q (r_bin rfl rfl (bin_add _ _ _ _)) rfl ?_
 refine fb 2 T.fo25_2 (lb 0 T.ag23 (mv ?_))
 obtain ⟨ad5, hA5⟩ := hb90.ad (j := k2) (by omega)
 obtain ⟨z5, hz5⟩ := hb90.getz (j := k2) (by omega)
 refine ixz hA5 Tryz.underlying23 T.sz44 ?_
 refine W_q (r_field rfl T.fo44_2) rfl ?_
 refine W_q (r_field rfl T.fo42_2) rfl ?_
 obtain ⟨es6, f6, _, l6⟩ := Sl.get hb90 hA5 hz5
 obtain ⟨A6, c6, B6, d6, C6, e6, rfl, hp6, ho6, ht6, i6a, i6b⟩ := f6
 refine W_q (r_load_imm rfl T.ag22 (by rw [add_add]; exact l6 4 _ rfl)) rfl ?_
 refine ln Tryz.underlying22 ?_
 refine W_q (r_bin rfl rfl (bin_add _ _ _ _)) rfl ?_
 refine as_ ?_
 refine wn (kk4 [1,2,3,4] (sq (sq (rg ?_))))
 refine as_ ?_
 refine wn (kk5 [1,2,3,4,5] (bk ?_))
 refine C_loop (Int) (z5.phis.length) (fun k7 x7 => True) (fun k7 x7 => [(3, .int .i64 x7), (5, .int .i64 (k7 : Int))]) (fun _ _ => []) [3, 5] [1, 2, 4] (F := [(1, _), (2, _), (4, _)]) (_) trivial rfl rfl rfl (fun k7 x7 hk7 hJ7 => ?_)
 refine jj5 [1,2,3,4,5] (sq (sq (rg ?_)))
 refine mv (fb 2 T.fo25_2 (lb 0 T.ag23 (mv ?_)))
 obtain ⟨ad8, hA8⟩ := hb90.ad (j := k2) (by omega)
 refine ixz hA8 Tryz.underlying23 T.sz44 ?_
 refine W_q (r_field rfl T.fo44_0) rfl ?_
 obtain ⟨es9, f9, _, l9⟩ := Sl.get hb90 hA8 hz5
 obtain ⟨A9, c9, B9, d9, C9, e9, rfl, hp9, ho9, ht9, i9a, i9b⟩ := f9
 refine liz T.ag39 (l9 0 _ rfl) ?_
 refine ln Tryz.underlying39 (bl (mv ?_))
 refine sp 41 ?_ ?_ <;> intro h10 <;> try simp only [tt] at h10
 refine tk (mv ?_)
 refine tk (bq (pt ?_))
 refine wn (kk6 [1,2,3,4,5,44] ?_)
 refine cd ?_ ?_ <;> intro h11 <;> try simp only [tt] at h11
 refine sk (kk5 [1,2,3,4,5] (sq (bk ?_)))
 refine C_drawn [(0, true), (1, true), (2, true), (3, true), (4, true), (5, true), (6, true), (7, true), (8, true), (9, true), (10, true), (11, true), (12, true), (13, true), (14, true), (15, true), (16, true), (17, true), (18, true), (19, true), (20, true), (21, true), (22, true), (23, true), (24, true), (25, true), (26, true)] (by kernel_rfl) rfl (by kernel_rfl) (by kernel_rfl) ?_
 refine dmv ?_
 refine D_q rfl (r_bin rfl rfl (bin_add _ _ _ _)) rfl ?_
 refine dfb 2 T.fo25_2 ?_
 refine dlb 0 T.ag23 ?_
 refine dmv ?_
 obtain ⟨ad12, hA12⟩ := hb90.ad (j := k2) (by omega)
 refine D_q rfl (r_index hA12 Tryz.underlying23 T.sz44 rfl rfl ⟨by omega, by omega⟩) rfl ?_
 refine D_q rfl (r_field rfl T.fo44_0) rfl ?_
 obtain ⟨es13, f13, _, l13⟩ := Sl.get hb90 hA12 hz5
 obtain ⟨A13, c13, B13, d13, C13, e13, rfl, hp13, ho13, ht13, i13a, i13b⟩ := f13
 refine D_q rfl (r_load_imm rfl T.ag39 (l13 0 _ rfl)) rfl ?_
 refine dmv ?_
 obtain ⟨ad14, hA14⟩ := hp13.ad (j := k7) (by omega)
 obtain ⟨z14, hz14⟩ := hp13.getz (j := k7) (by omega)
 refine D_q rfl (r_index hA14 Tryz.underlying39 T.sz61 rfl rfl ⟨by omega, by omega⟩) rfl ?_
 refine D_q rfl (r_field rfl T.fo61_2) rfl ?_
 obtain ⟨es15, f15, _, l15⟩ := Sl.get hp13 hA14 hz14
 obtain ⟨A15, c15, B15, d15, rfl, h15, g15, i15a, i15b⟩ := f15
 refine D_q rfl (r_load_imm rfl T.ag22 (l15 2 _ rfl)) rfl ?_
 refine D_q rfl (r_len Tryz.underlying22 rfl) rfl ?_
 refine D_q rfl (r_bin rfl rfl (bin_add _ _ _ _)) rfl ?_
 refine dfb 2 T.fo25_2 ?_
 refine dlb 0 T.ag23 ?_
 refine dmv ?_
 obtain ⟨ad16, hA16⟩ := hb90.ad (j := k2) (by omega)
 refine D_q rfl (r_index hA16 Tryz.underlying23 T.sz44 rfl rfl ⟨by omega, by omega⟩) rfl ?_
 refine D_q rfl (r_field rfl T.fo44_0) rfl ?_
 obtain ⟨es17, f17, _, l17⟩ := Sl.get hb90 hA16 hz5
 obtain ⟨A17, c17, B17, d17, C17, e17, rfl, hp17, ho17, ht17, i17a, i17b⟩ := f17
 refine D_q rfl (r_load_imm rfl T.ag39 (l17 0 _ rfl)) rfl ?_
 refine dmv ?_
 obtain ⟨ad18, hA18⟩ := hp17.ad (j := k7) (by omega)
 obtain ⟨z18, hz18⟩ := hp17.getz (j := k7) (by omega)
 refine D_q rfl (r_index hA18 Tryz.underlying39 T.sz61 rfl rfl ⟨by omega, by omega⟩) rfl ?_
 refine D_q rfl (r_field rfl T.fo61_3) rfl ?_
 obtain ⟨es19, f19, _, l19⟩ := Sl.get hp17 hA18 hz18
 obtain ⟨A19, c19, B19, d19, rfl, h19, g19, i19a, i19b⟩ := f19
 refine D_q rfl (r_load_imm rfl T.ag22 (l19 3 _ rfl)) rfl ?_
 refine D_q rfl (r_len Tryz.underlying22 rfl) rfl ?_
 refine D_q rfl (r_bin rfl rfl (bin_add _ _ _ _)) rfl ?_
 refine das ?_
 refine D_end ?_
 refine nb (kk5 [1,2,3,4,5] (rg ?_))
 refine mv ?_
 refine W_q (r_add rfl rfl (by have := Sl.len (r := rPhi) (sz := 4) (xs := z5.phis) (by assumption); constructor <;> omega)) rfl ?_
 refine as_ ?_
 refine wn ?_
 refine NX_rnd [3, 5, 1, 2, 4] (by omega) (_) ?_ rfl (List.Sublist.refl _) rfl (Imm.le_refl _)
 trivial
 refine C_exit (EX_then (EX_then (EX_hit (?_))))
 refine kk4 [1,2,3,4] (sq (rg ?_))
 refine as_ ?_
 refine wn (kk5 [1,2,3,4,6] (bk ?_))
 refine C_loop (Int) (z5.ops.length) (fun k20 x20 => True) (fun k20 x20 => [(3, .int .i64 x20), (6, .int .i64 (k20 : Int))]) (fun _ _ => []) [3, 6] [1, 2, 4] (F := [(1, _), (2, _), (4, _)]) (_) trivial rfl rfl rfl (fun k20 x20 hk20 hJ20 => ?_)
 refine jj5 [1,2,3,4,6] (sq (sq (rg ?_)))
 refine mv (fb 2 T.fo25_2 (lb 0 T.ag23 (mv ?_)))
 obtain ⟨ad21, hA21⟩ := hb90.ad (j := k2) (by omega)
 refine ixz hA21 Tryz.underlying23 T.sz44 ?_
 refine W_q (r_field rfl T.fo44_1) rfl ?_
 obtain ⟨es22, f22, _, l22⟩ := Sl.get hb90 hA21 hz5
 obtain ⟨A22, c22, B22, d22, C22, e22, rfl, hp22, ho22, ht22, i22a, i22b⟩ := f22
 refine liz T.ag40 (l22 1 _ rfl) ?_
 refine ln Tryz.underlying40 (bl (mv ?_))
 refine sp 82 ?_ ?_ <;> intro h23 <;> try simp only [tt] at h23
 refine tk (mv ?_)
 refine tk (bq (pt ?_))
 refine wn (kk6 [1,2,3,4,6,85] ?_)
 refine cd ?_ ?_ <;> intro h24 <;> try simp only [tt] at h24
 refine sk (kk5 [1,2,3,4,6] (sq (bk (rg ?_))))
 refine mv ?_
 refine W_q (r_bin rfl rfl (bin_add _ _ _ _)) rfl ?_
 refine fb 2 T.fo25_2 (lb 0 T.ag23 (mv ?_))
 obtain ⟨ad25, hA25⟩ := hb90.ad (j := k2) (by omega)
 refine ixz hA25 Tryz.underlying23 T.sz44 ?_
 refine W_q (r_field rfl T.fo44_1) rfl ?_
 obtain ⟨es26, f26, _, l26⟩ := Sl.get hb90 hA25 hz5
 obtain ⟨A26, c26, B26, d26, C26, e26, rfl, hp26, ho26, ht26, i26a, i26b⟩ := f26
 refine liz T.ag40 (l26 1 _ rfl) ?_
 refine mv ?_
 obtain ⟨ad27, hA27⟩ := ho26.ad (j := k20) (by omega)
 obtain ⟨z27, hz27⟩ := ho26.getz (j := k20) (by omega)
 refine ixz hA27 Tryz.underlying40 T.sz51 ?_
 refine W_q (r_field rfl T.fo51_4) rfl ?_
 obtain ⟨es28, f28, _, l28⟩ := Sl.get ho26 hA27 hz27
 obtain ⟨A28, c28, rfl, h28, i28a, i28b, i28c, i28d, i28e⟩ := f28
 refine liz T.ag22 (l28 4 _ rfl) ?_
 refine ln Tryz.underlying22 ?_
 refine W_q (r_bin rfl rfl (bin_add _ _ _ _)) rfl ?_
 refine as_ ?_
 refine wn (nb (kk5 [1,2,3,4,6] (rg ?_)))
 refine mv ?_
 refine W_q (r_add rfl rfl (by have := Sl.len (r := rOp) (sz := 6) (xs := z5.ops) (by assumption); constructor <;> omega)) rfl ?_
 refine as_ ?_
 refine wn ?_
 refine NX_rnd [3, 6, 1, 2, 4] (by omega) (_) ?_ rfl (List.Sublist.refl _) rfl (Imm.le_refl _)
 trivial
 refine C_exit (EX_then (EX_then (EX_hit (?_))))
 refine nb (kk4 [1,2,3,4] (rg ?_))
 refine mv ?_
 refine ad ?_
 refine as_ ?_
 refine wn ?_
 refine NX_rnd [3, 4, 1, 2] (by omega) (_) ?_ rfl (List.Sublist.refl _) rfl (Imm.le_refl _)
 trivial
 refine ps (ps ?_)
 refine pf ?_
 refine wn (kk6 [1,2,3,4,6,85] ?_)
 refine cfz ?_
 refine C_exit (EX_then (EX_then (EX_hit (?_))))
 refine nb (kk4 [1,2,3,4] (rg ?_))
 refine mv ?_
 refine ad ?_
 refine as_ ?_
 refine wn ?_
 refine NX_rnd [3, 4, 1, 2] (by omega) (_) ?_ rfl (List.Sublist.refl _) rfl (Imm.le_refl _)
 trivial
 refine ps (ps ?_)
 refine pf ?_
 refine wn (kk6 [1,2,3,4,5,44] ?_)
 refine cfz ?_
 refine C_exit (EX_then (EX_then (EX_hit (?_))))
 refine kk4 [1,2,3,4] (sq (rg ?_))
 refine as_ ?_
 refine wn (kk5 [1,2,3,4,6] (bk ?_))
 refine C_loop (Int) (z5.ops.length) (fun k29 x29 => True) (fun k29 x29 => [(3, .int .i64 x29), (6, .int .i64 (k29 : Int))]) (fun _ _ => []) [3, 6] [1, 2, 4] (F := [(1, _), (2, _), (4, _)]) (_) trivial rfl rfl rfl (fun k29 x29 hk29 hJ29 => ?_)
 refine jj5 [1,2,3,4,6] (sq (sq (rg ?_)))
 refine mv (fb 2 T.fo25_2 (lb 0 T.ag23 (mv ?_)))
 obtain ⟨ad30, hA30⟩ := hb90.ad (j := k2) (by omega)
 refine ixz hA30 Tryz.underlying23 T.sz44 ?_
 refine W_q (r_field rfl T.fo44_1) rfl ?_
 obtain ⟨es31, f31, _, l31⟩ := Sl.get hb90 hA30 hz5
 obtain ⟨A31, c31, B31, d31, C31, e31, rfl, hp31, ho31, ht31, i31a, i31b⟩ := f31
 refine liz T.ag40 (l31 1 _ rfl) ?_
 refine ln Tryz.underlying40 (bl (mv ?_))
 refine sp 82 ?_ ?_ <;> intro h32 <;> try simp only [tt] at h32
 refine tk (mv ?_)
 refine tk (bq (pt ?_))
 refine wn (kk6 [1,2,3,4,6,85] ?_)
 refine cd ?_ ?_ <;> intro h33 <;> try simp only [tt] at h33
 refine sk (kk5 [1,2,3,4,6] (sq (bk (rg ?_))))
 refine mv ?_
 refine W_q (r_bin rfl rfl (bin_add _ _ _ _)) rfl ?_
 refine fb 2 T.fo25_2 (lb 0 T.ag23 (mv ?_))
 obtain ⟨ad34, hA34⟩ := hb90.ad (j := k2) (by omega)
 refine ixz hA34 Tryz.underlying23 T.sz44 ?_
 refine W_q (r_field rfl T.fo44_1) rfl ?_
 obtain ⟨es35, f35, _, l35⟩ := Sl.get hb90 hA34 hz5
 obtain ⟨A35, c35, B35, d35, C35, e35, rfl, hp35, ho35, ht35, i35a, i35b⟩ := f35
 refine liz T.ag40 (l35 1 _ rfl) ?_
 refine mv ?_
 obtain ⟨ad36, hA36⟩ := ho35.ad (j := k29) (by omega)
 obtain ⟨z36, hz36⟩ := ho35.getz (j := k29) (by omega)
 refine ixz hA36 Tryz.underlying40 T.sz51 ?_
 refine W_q (r_field rfl T.fo51_4) rfl ?_
 obtain ⟨es37, f37, _, l37⟩ := Sl.get ho35 hA36 hz36
 obtain ⟨A37, c37, rfl, h37, i37a, i37b, i37c, i37d, i37e⟩ := f37
 refine liz T.ag22 (l37 4 _ rfl) ?_
 refine ln Tryz.underlying22 ?_
 refine W_q (r_bin rfl rfl (bin_add _ _ _ _)) rfl ?_
 refine as_ ?_
 refine wn (nb (kk5 [1,2,3,4,6] (rg ?_)))
 refine mv ?_
 refine W_q (r_add rfl rfl (by have := Sl.len (r := rOp) (sz := 6) (xs := z5.ops) (by assumption); constructor <;> omega)) rfl ?_
 refine as_ ?_
 refine wn ?_
 refine NX_rnd [3, 6, 1, 2, 4] (by omega) (_) ?_ rfl (List.Sublist.refl _) rfl (Imm.le_refl _)
 trivial
 refine C_exit (EX_then (EX_then (EX_hit (?_))))
 refine nb (kk4 [1,2,3,4] (rg ?_))
 refine mv ?_
 refine ad ?_
 refine as_ ?_
 refine wn ?_
 refine NX_rnd [3, 4, 1, 2] (by omega) (_) ?_ rfl (List.Sublist.refl _) rfl (Imm.le_refl _)
 trivial
 refine ps (ps ?_)
 refine pf ?_
 refine wn (kk6 [1,2,3,4,6,85] ?_)
 refine cfz ?_
 refine C_exit (EX_then (EX_then (EX_hit (?_))))
 refine nb (kk4 [1,2,3,4] (rg ?_))
 refine mv ?_
 refine ad ?_
 refine as_ ?_
 refine wn ?_
 refine NX_rnd [3, 4, 1, 2] (by omega) (_) ?_ rfl (List.Sublist.refl _) rfl (Imm.le_refl _)
 trivial
 refine C_exit (EX_then (EX_then (EX_hit (?_))))
 refine kk2 [2,3] (sq (rg ?_))
 refine mv (bq (as_ ?_))
 refine wn (kk1 [2] ?_)
 exact C_ret (RX_g1 rfl rfl ⟨_, rfl⟩)
 refine ps (ps ?_)
 refine pf ?_
 refine wn (kk5 [1,2,3,4,18] ?_)
 refine cfz ?_
 refine C_exit (EX_then (EX_then (EX_hit (?_))))
 refine kk2 [2,3] (sq (rg ?_))
 refine mv (bq (as_ ?_))
 refine wn (kk1 [2] ?_)
 exact C_ret (RX_g1 rfl rfl ⟨_, rfl⟩)
theorem Small11_g {m : Imm} {es : List Value} {f : FFun} (hF : rFunc m es f) : Gives Tryz.prog 15 [.agg es.toArray] m (fun _ v => ∃ q, v = .bool q) := by
 have hF_0 := hF
 obtain ⟨A90, c90, B90, d90, rfl, hq90, hb90, i90a⟩ := hF_0
 have hbl := hb90.len
 refine gives_of Tryz.func15 rfl Tryz.ntmps15 rfl (fun w => ?_)
 refine sq (rg ?_)
 refine S_box (l := [_, _, _]) rfl rfl rfl (fun b1 => ?_)
 refine as_ ?_
 refine wn (kk2 [1,2] (sq (rg ?_)))
 refine as_ ?_
 refine wn (kk3 [1,2,3] (sq (sq (rg ?_))))
 refine as_ ?_
 refine wn (kk4 [1,2,3,4] (bk ?_))
 refine C_loop (Int) (f.blocks.length) (fun k2 x2 => True) (fun k2 x2 => [(3, .int .i64 x2), (4, .int .i64 (k2 : Int))]) (fun _ _ => []) [3, 4] [1, 2] (F := [(1, _), (2, _)]) (_) trivial rfl rfl rfl (fun k2 x2 hk2 hJ2 => ?_)
 refine jj4 [1,2,3,4] (sq (sq (rg ?_)))
 refine mv (fb 2 T.fo25_2 (lb 0 T.ag23 (ln Tryz.underlying23 (bl ?_))))
 refine wn (kk5 [1,2,3,4,9] ?_)
 refine cd ?_ ?_ <;> intro h3 <;> try simp only [tt] at h3
 refine sk (kk4 [1,2,3,4] (sq (bk ?_)))
 refine C_drawn [(0, true), (1, true), (2, true), (3, true), (4, true), (5, true), (6, true), (7, true), (8, true), (9, true), (10, true), (11, true), (12, true), (13, true), (14, true), (15, true), (16, true), (17, true), (18, true)] (by kernel_rfl) rfl (by kernel_rfl) (by kernel_rfl) ?_
 refine dmv ?_
 refine D_q rfl (r_bin rfl rfl (bin_add _ _ _ _)) rfl ?_
 refine dfb 2 T.fo25_2 ?_
 refine dlb 0 T.ag23 ?_
 refine dmv ?_
 obtain ⟨ad4, hA4⟩ := hb90.ad (j := k2) (by omega)
 obtain ⟨z4, hz4⟩ := hb90.getz (j := k2) (by omega)
 refine D_q rfl (r_index hA4 Tryz.underlying23 T.sz44 rfl rfl ⟨by omega, by omega⟩) rfl ?_
 refine D_q rfl (r_field rfl T.fo44_1) rfl ?_
 obtain ⟨es5, f5, _, l5⟩ := Sl.get hb90 hA4 hz4
 obtain ⟨A5, c5, B5, d5, C5, e5, rfl, hp5, ho5, ht5, i5a, i5b⟩ := f5
 refine D_q rfl (r_load_imm rfl T.ag40 (l5 1 _ rfl)) rfl ?_
 refine D_q rfl (r_len Tryz.underlying40 rfl) rfl ?_
 refine D_q rfl (r_bin rfl rfl (bin_add _ _ _ _)) rfl ?_
 refine dfb 2 T.fo25_2 ?_
 refine dlb 0 T.ag23 ?_
 refine dmv ?_
 obtain ⟨ad6, hA6⟩ := hb90.ad (j := k2) (by omega)
 refine D_q rfl (r_index hA6 Tryz.underlying23 T.sz44 rfl rfl ⟨by omega, by omega⟩) rfl ?_
 refine D_q rfl (r_field rfl T.fo44_0) rfl ?_
 obtain ⟨es7, f7, _, l7⟩ := Sl.get hb90 hA6 hz4
 obtain ⟨A7, c7, B7, d7, C7, e7, rfl, hp7, ho7, ht7, i7a, i7b⟩ := f7
 refine D_q rfl (r_load_imm rfl T.ag39 (l7 0 _ rfl)) rfl ?_
 refine D_q rfl (r_len Tryz.underlying39 rfl) rfl ?_
 refine D_q rfl (r_bin rfl rfl (bin_add _ _ _ _)) rfl ?_
 refine das ?_
 refine D_end ?_
 refine nb (kk4 [1,2,3,4] (rg ?_))
 refine mv ?_
 refine ad ?_
 refine as_ ?_
 refine wn ?_
 refine NX_rnd [3, 4, 1, 2] (by omega) (_) ?_ rfl (List.Sublist.refl _) rfl (Imm.le_refl _)
 trivial
 refine C_exit (EX_then (EX_then (EX_hit (?_))))
 refine kk3 [1,2,3] (sq (rg ?_))
 refine W_q (r_loadbk 0 (vs := [_, _, _]) rfl T.ag25 T.sz25 rfl rfl rfl) rfl ?_
 refine S_gives (Small4_g hF) T.hb46 rfl rfl (fun m8 v8 le8 hv8 => ?_)
 replace hF := rFunc_mono _ _ _ _ le8 hF
 replace hq90 := hq90.mono rI_mono le8
 replace hb90 := hb90.mono rBlock_mono le8
 obtain ⟨qs8, rfl⟩ := hv8
 refine mv ?_
 refine sp 32 ?_ ?_ <;> intro h9 <;> try simp only [tt] at h9
 refine tk (fb 2 T.fo25_2 ?_)
 refine tk (lb 0 T.ag23 ?_)
 refine tk (ln Tryz.underlying23 ?_)
 refine tk (bq ?_)
 refine tk (mv ?_)
 refine sp 37 ?_ ?_ <;> intro h10 <;> try simp only [tt] at h10
 refine tk (mv ?_)
 refine tk (bq ?_)
 refine tk (pt ?_)
 refine tk (mv ?_)
 refine sp 41 ?_ ?_ <;> intro h11 <;> try simp only [tt] at h11
 refine ps (ps (ps (ps (tk (pt ?_)))))
 refine tk (mv ?_)
 refine ps (ps (tk (pt (pt (as_ ?_)))))
 refine wn (kk1 [2] ?_)
 exact C_ret (RX_g1 rfl rfl ⟨_, rfl⟩)
 refine tk (fb 2 T.fo25_2 ?_)
 refine tk (lb 0 T.ag23 ?_)
 refine tk (ln Tryz.underlying23 ?_)
 refine tk (bg ?_)
 refine tk (pf ?_)
 refine tk (mv ?_)
 refine sp 47 ?_ ?_ <;> intro h12 <;> try simp only [tt] at h12
 refine ps (ps (tk (pt (pt (as_ ?_)))))
 refine wn (kk1 [2] ?_)
 exact C_ret (RX_g1 rfl rfl ⟨_, rfl⟩)
 refine tk (mv ?_)
 refine tk (bg ?_)
 refine tk (pf (pt (as_ ?_)))
 refine wn (kk1 [2] ?_)
 exact C_ret (RX_g1 rfl rfl ⟨_, rfl⟩)
 refine ps (ps (tk (pf ?_)))
 refine tk (mv ?_)
 refine tk (fb 2 T.fo25_2 ?_)
 refine tk (lb 0 T.ag23 ?_)
 refine tk (ln Tryz.underlying23 ?_)
 refine tk (bg ?_)
 refine tk (pf ?_)
 refine tk (mv ?_)
 refine sp 47 ?_ ?_ <;> intro h13 <;> try simp only [tt] at h13
 refine ps (ps (tk (pt (pt (as_ ?_)))))
 refine wn (kk1 [2] ?_)
 exact C_ret (RX_g1 rfl rfl ⟨_, rfl⟩)
 refine tk (mv ?_)
 refine tk (bg ?_)
 refine tk (pf (pt (as_ ?_)))
 refine wn (kk1 [2] ?_)
 exact C_ret (RX_g1 rfl rfl ⟨_, rfl⟩)
 refine ps (ps (ps (ps (ps (puz (puz (ps (ps (puz (puz (puz (puz (ps (ps (puz (puz (ps ?_)))))))))))))))))
 refine pf (as_ ?_)
 refine wn (kk1 [2] ?_)
 exact C_ret (RX_g1 rfl rfl ⟨_, rfl⟩)
theorem SameO_q {m : Imm} {es es2 : List Value} {o : FOp} (hO : rOp m es o) (hO2 : rOp m es2 o) : Quiet Tryz.prog 48 [.agg es.toArray, .agg es2.toArray] m (.bool true) := by
 have hO_0 := hO
 obtain ⟨A90, c90, rfl, h90, i90a, i90b, i90c, i90d, i90e⟩ := hO_0
 have hO2_0 := hO2
 obtain ⟨A91, c91, rfl, h91, i91a, i91b, i91c, i91d, i91e⟩ := hO2_0
 refine quiet_of Tryz.func48 rfl Tryz.ntmps48 rfl (fun w => ?_)
 refine sq (rg ?_)
 refine S_box (l := [_, _, _, _, _, _]) rfl rfl rfl (fun b1 => ?_)
 refine S_box (l := [_, _, _, _, _, _]) rfl rfl rfl (fun b2 => ?_)
 refine as_ ?_
 refine wn (kk3 [2,3,4] (sq (rg ?_)))
 refine fb 0 T.fo51_0 (lb 1 T.ag3 (fb 0 T.fo51_0 (lb 0 T.ag3 ?_)))
 refine W_q (r_eqt rfl rfl (rfl)) rfl ?_
 refine mv ?_
 refine tk (fb 1 T.fo51_1 ?_)
 refine tk (lb 1 T.ag3 ?_)
 refine tk (fb 1 T.fo51_1 ?_)
 refine tk (lb 0 T.ag3 ?_)
 refine tk ?_
 refine W_q (r_eqt rfl rfl (rfl)) rfl ?_
 refine pt (mv ?_)
 refine tk (fb 2 T.fo51_2 ?_)
 refine tk (lb 1 T.ag3 ?_)
 refine tk (fb 2 T.fo51_2 ?_)
 refine tk (lb 0 T.ag3 ?_)
 refine tk ?_
 refine W_q (r_eqt rfl rfl (rfl)) rfl ?_
 refine pt (mv ?_)
 refine tk (fb 3 T.fo51_3 ?_)
 refine tk (lb 1 T.ag3 ?_)
 refine tk (fb 3 T.fo51_3 ?_)
 refine tk (lb 0 T.ag3 ?_)
 refine tk ?_
 refine W_q (r_eqt rfl rfl (rfl)) rfl ?_
 refine pt (mv ?_)
 refine tk (fb 5 T.fo51_5 ?_)
 refine tk (lb 1 T.ag49 ?_)
 refine tk (fb 5 T.fo51_5 ?_)
 refine tk (lb 0 T.ag49 ?_)
 refine tk ?_
 refine W_q (r_eqt rfl rfl (rfl)) rfl ?_
 refine pt (mv ?_)
 refine tk (fb 4 T.fo51_4 ?_)
 refine tk (lb 1 T.ag22 ?_)
 refine tk (fb 4 T.fo51_4 ?_)
 refine tk (lb 0 T.ag22 ?_)
 refine tk ?_
 refine W_quiet (known_q (Ints_q h90 h91) (beq_self_eq_true _)) T.hb21 rfl rfl ?_
 refine pt (as_ ?_)
 refine wn (kk1 [4] ?_)
 refine C_ret (RX_q1 rfl rfl ?_)
 rfl
theorem Same_q {m : Imm} {es es2 : List Value} {f : FFun} (hF : rFunc m es f) (hF2 : rFunc m es2 f) : Quiet Tryz.prog 18 [.agg es.toArray, .agg es2.toArray] m (.bool true) := by
 have hF_0 := hF
 obtain ⟨A90, c90, B90, d90, rfl, hq90, hb90, i90a⟩ := hF_0
 have hF2_0 := hF2
 obtain ⟨A91, c91, B91, d91, rfl, hq91, hb91, i91a⟩ := hF2_0
 have hbl := hb90.len
 refine quiet_of Tryz.func18 rfl Tryz.ntmps18 rfl (fun w => ?_)
 refine sq (rg ?_)
 refine S_box (l := [_, _, _]) rfl rfl rfl (fun b1 => ?_)
 refine S_box (l := [_, _, _]) rfl rfl rfl (fun b2 => ?_)
 refine as_ ?_
 refine wn (kk3 [2,3,4] (sq (sq (rg ?_))))
 refine fb 1 T.fo25_1 (lb 1 T.ag3 (fb 1 T.fo25_1 (lb 0 T.ag3 ?_)))
 refine W_q (r_nef rfl rfl (rfl)) rfl ?_
 refine mv ?_
 refine tk (fb 0 T.fo25_0 ?_)
 refine tk (lb 1 T.ag22 ?_)
 refine tk (fb 0 T.fo25_0 ?_)
 refine tk (lb 0 T.ag22 ?_)
 refine tk ?_
 refine W_quiet (known_q (Ints_q hq90 hq91) (beq_self_eq_true _)) T.hb21 rfl rfl ?_
 refine tk (nt (pf (mv ?_)))
 refine tk (fb 2 T.fo25_2 ?_)
 refine tk (lb 1 T.ag23 ?_)
 refine tk (ln Tryz.underlying23 ?_)
 refine tk (fb 2 T.fo25_2 ?_)
 refine tk (lb 0 T.ag23 ?_)
 refine tk (ln Tryz.underlying23 ?_)
 refine tk ?_
 refine W_q (r_nef rfl rfl (rfl)) rfl ?_
 refine pf ?_
 refine wn (kk4 [2,3,4,33] ?_)
 refine cfz (sk (kk3 [2,3,4] (sq (sq (rg ?_)))))
 refine as_ ?_
 refine wn (kk4 [2,3,4,5] (bk ?_))
 refine C_loop (Unit) (f.blocks.length) (fun k3 x3 => True) (fun k3 x3 => [(5, .int .i64 (k3 : Int))]) (fun _ _ => []) [5] [2, 3] (F := [(2, _), (3, _)]) (()) trivial rfl rfl rfl (fun k3 x3 hk3 hJ3 => ?_)
 refine jj3 [2,3,5] (sq (sq (rg ?_)))
 refine mv (fb 2 T.fo25_2 (lb 1 T.ag23 (ln Tryz.underlying23 (bl ?_))))
 refine wn (kk4 [2,3,5,38] ?_)
 refine cd ?_ ?_ <;> intro h4 <;> try simp only [tt] at h4
 refine sk (kk3 [2,3,5] (sq (bk (sq (rg ?_)))))
 refine fb 2 T.fo25_2 (lb 1 T.ag23 (mv ?_))
 obtain ⟨ad5, hA5⟩ := hb90.ad (j := k3) (by omega)
 obtain ⟨z5, hz5⟩ := hb90.getz (j := k3) (by omega)
 refine ixz hA5 Tryz.underlying23 T.sz44 ?_
 obtain ⟨es6, f6, _, l6⟩ := Sl.get hb90 hA5 hz5
 have F6 := f6
 obtain ⟨A6, c6, B6, d6, C6, e6, rfl, hp6, ho6, ht6, i6a, i6b⟩ := f6
 refine W_q (r_load_immk (vs := [_, _, _, _, _]) rfl T.ag44 T.sz44 l6) rfl ?_
 refine sa5 T.ze44 (fun b7 => ?_)
 refine sb5 0 T.sz44 ?_
 refine wn (kk4 [2,3,5,6] (sq (rg ?_)))
 refine fb 2 T.fo25_2 (lb 1 T.ag23 (mv ?_))
 obtain ⟨ad8, hA8⟩ := hb91.ad (j := k3) (by omega)
 refine ixz hA8 Tryz.underlying23 T.sz44 ?_
 obtain ⟨es9, f9, _, l9⟩ := Sl.get hb91 hA8 hz5
 have F9 := f9
 obtain ⟨A9, c9, B9, d9, C9, e9, rfl, hp9, ho9, ht9, i9a, i9b⟩ := f9
 refine W_q (r_load_immk (vs := [_, _, _, _, _]) rfl T.ag44 T.sz44 l9) rfl ?_
 refine sa5 T.ze44 (fun b10 => ?_)
 refine sb5 0 T.sz44 ?_
 refine wn (kk5 [2,3,5,6,7] (sq (sq (rg ?_))))
 refine fb 0 T.fo44_0 (lb 1 T.ag39 (ln Tryz.underlying39 (fb 0 T.fo44_0 (lb 0 T.ag39 (ln Tryz.underlying39 ?_)))))
 refine W_q (r_nef rfl rfl (rfl)) rfl ?_
 refine mv ?_
 refine tk (fb 1 T.fo44_1 ?_)
 refine tk (lb 1 T.ag40 ?_)
 refine tk (ln Tryz.underlying40 ?_)
 refine tk (fb 1 T.fo44_1 ?_)
 refine tk (lb 0 T.ag40 ?_)
 refine tk (ln Tryz.underlying40 ?_)
 refine tk ?_
 refine W_q (r_nef rfl rfl (rfl)) rfl ?_
 refine pf (mv ?_)
 refine tk (fb 2 T.fo44_2 ?_)
 refine tk (fb 2 T.fo42_0 ?_)
 refine tk (lb 1 T.ag3 ?_)
 refine tk (fb 2 T.fo44_2 ?_)
 refine tk (fb 2 T.fo42_0 ?_)
 refine tk (lb 0 T.ag3 ?_)
 refine tk ?_
 refine W_q (r_nef rfl rfl (rfl)) rfl ?_
 refine pf (mv ?_)
 refine tk (fb 2 T.fo44_2 ?_)
 refine tk (fb 3 T.fo42_1 ?_)
 refine tk (lb 1 T.ag3 ?_)
 refine tk (fb 2 T.fo44_2 ?_)
 refine tk (fb 3 T.fo42_1 ?_)
 refine tk (lb 0 T.ag3 ?_)
 refine tk ?_
 refine W_q (r_nef rfl rfl (rfl)) rfl ?_
 refine pf (mv ?_)
 refine tk (fb 2 T.fo44_2 ?_)
 refine tk (fb 4 T.fo42_2 ?_)
 refine tk (lb 1 T.ag22 ?_)
 refine tk (fb 2 T.fo44_2 ?_)
 refine tk (fb 4 T.fo42_2 ?_)
 refine tk (lb 0 T.ag22 ?_)
 refine tk ?_
 refine W_quiet (known_q (Ints_q ht6 ht9) (beq_self_eq_true _)) T.hb21 rfl rfl ?_
 refine tk (nt (pf ?_))
 refine wn (kk6 [2,3,5,6,7,94] ?_)
 refine cfz (sk (kk5 [2,3,5,6,7] (sq (sq (rg ?_)))))
 refine as_ ?_
 refine wn (kk6 [2,3,5,6,7,8] (bk ?_))
 refine C_loop (Unit) (z5.phis.length) (fun k11 x11 => True) (fun k11 x11 => [(8, .int .i64 (k11 : Int))]) (fun _ _ => []) [8] [2, 3, 5, 6, 7] (F := [(2, _), (3, _), (5, _), (6, _), (7, _)]) (()) trivial rfl rfl rfl (fun k11 x11 hk11 hJ11 => ?_)
 refine jj6 [2,3,5,6,7,8] (sq (sq (rg ?_)))
 refine mv (fb 0 T.fo44_0 (lb 1 T.ag39 (ln Tryz.underlying39 (bl ?_))))
 refine wn (kk7 [2,3,5,6,7,8,99] ?_)
 refine cd ?_ ?_ <;> intro h12 <;> try simp only [tt] at h12
 refine sk (kk6 [2,3,5,6,7,8] (sq (bk (sq (rg ?_)))))
 refine fb 0 T.fo44_0 (lb 1 T.ag39 (mv ?_))
 obtain ⟨ad13, hA13⟩ := hp6.ad (j := k11) (by omega)
 obtain ⟨z13, hz13⟩ := hp6.getz (j := k11) (by omega)
 refine ixz hA13 Tryz.underlying39 T.sz61 ?_
 obtain ⟨es14, f14, _, l14⟩ := Sl.get hp6 hA13 hz13
 have F14 := f14
 obtain ⟨A14, c14, B14, d14, rfl, h14, g14, i14a, i14b⟩ := f14
 refine W_q (r_load_immk (vs := [_, _, _, _]) rfl T.ag61 T.sz61 l14) rfl ?_
 refine sa4 T.ze61 (fun b15 => ?_)
 refine sb4 0 T.sz61 ?_
 refine wn (kk7 [2,3,5,6,7,8,9] (sq (rg ?_)))
 refine fb 0 T.fo44_0 (lb 1 T.ag39 (mv ?_))
 obtain ⟨ad16, hA16⟩ := hp9.ad (j := k11) (by omega)
 refine ixz hA16 Tryz.underlying39 T.sz61 ?_
 obtain ⟨es17, f17, _, l17⟩ := Sl.get hp9 hA16 hz13
 have F17 := f17
 obtain ⟨A17, c17, B17, d17, rfl, h17, g17, i17a, i17b⟩ := f17
 refine W_q (r_load_immk (vs := [_, _, _, _]) rfl T.ag61 T.sz61 l17) rfl ?_
 refine sa4 T.ze61 (fun b18 => ?_)
 refine sb4 0 T.sz61 ?_
 refine wn (kk8 [2,3,5,6,7,8,9,10] (sq (rg ?_)))
 refine fb 0 T.fo61_0 (lb 1 T.ag3 (fb 0 T.fo61_0 (lb 0 T.ag3 ?_)))
 refine W_q (r_nef rfl rfl (rfl)) rfl ?_
 refine mv ?_
 refine tk (fb 1 T.fo61_1 ?_)
 refine tk (lb 1 T.ag3 ?_)
 refine tk (fb 1 T.fo61_1 ?_)
 refine tk (lb 0 T.ag3 ?_)
 refine tk ?_
 refine W_q (r_nef rfl rfl (rfl)) rfl ?_
 refine pf (mv ?_)
 refine tk (fb 2 T.fo61_2 ?_)
 refine tk (lb 1 T.ag22 ?_)
 refine tk (fb 2 T.fo61_2 ?_)
 refine tk (lb 0 T.ag22 ?_)
 refine tk ?_
 refine W_quiet (known_q (Ints_q h14 h17) (beq_self_eq_true _)) T.hb21 rfl rfl ?_
 refine tk (nt (pf (mv ?_)))
 refine tk (fb 3 T.fo61_3 ?_)
 refine tk (lb 1 T.ag22 ?_)
 refine tk (fb 3 T.fo61_3 ?_)
 refine tk (lb 0 T.ag22 ?_)
 refine tk ?_
 refine W_quiet (known_q (Ints_q g14 g17) (beq_self_eq_true _)) T.hb21 rfl rfl ?_
 refine tk (nt (pf ?_))
 refine wn (kk7 [2,3,5,6,7,8,139] ?_)
 refine cfz (sk (nb (kk6 [2,3,5,6,7,8] (rg ?_))))
 refine mv ?_
 refine W_q (r_add rfl rfl (by have := Sl.len (r := rPhi) (sz := 4) (xs := z5.phis) (by assumption); constructor <;> omega)) rfl ?_
 refine as_ ?_
 refine wn ?_
 refine NX_rnd [8, 2, 3, 5, 6, 7] (by omega) (()) ?_ rfl (sub_drop 2 rfl) rfl (Imm.le_refl _)
 trivial
 refine C_exit (EX_then (EX_then (EX_hit (?_))))
 refine kk5 [2,3,5,6,7] (sq (rg ?_))
 refine as_ ?_
 refine wn (kk6 [2,3,5,6,7,11] (bk ?_))
 refine C_loop (Unit) (z5.ops.length) (fun k19 x19 => True) (fun k19 x19 => [(11, .int .i64 (k19 : Int))]) (fun _ _ => []) [11] [2, 3, 5, 6, 7] (F := [(2, _), (3, _), (5, _), (6, _), (7, _)]) (()) trivial rfl rfl rfl (fun k19 x19 hk19 hJ19 => ?_)
 refine jj6 [2,3,5,6,7,11] (sq (sq (rg ?_)))
 refine mv (fb 1 T.fo44_1 (lb 1 T.ag40 (ln Tryz.underlying40 (bl ?_))))
 refine wn (kk7 [2,3,5,6,7,11,144] ?_)
 refine cd ?_ ?_ <;> intro h20 <;> try simp only [tt] at h20
 refine sk (kk6 [2,3,5,6,7,11] (sq (bk (sq ?_))))
 refine C_drawn [(0, true), (1, true), (2, true), (3, true), (4, true), (5, true), (6, true), (7, true), (8, true), (9, true), (10, true), (11, true)] (by kernel_rfl) rfl (by kernel_rfl) (by kernel_rfl) ?_
 refine dfb 1 T.fo44_1 ?_
 refine dlb 1 T.ag40 ?_
 refine dmv ?_
 obtain ⟨ad21, hA21⟩ := ho6.ad (j := k19) (by omega)
 obtain ⟨z21, hz21⟩ := ho6.getz (j := k19) (by omega)
 refine D_q rfl (r_index hA21 Tryz.underlying40 T.sz51 rfl rfl ⟨by omega, by omega⟩) rfl ?_
 obtain ⟨es22, f22, _, l22⟩ := Sl.get ho6 hA21 hz21
 have F22 := f22
 obtain ⟨A22, c22, rfl, h22, i22a, i22b, i22c, i22d, i22e⟩ := f22
 refine D_q rfl (r_load_immk (vs := [_, _, _, _, _, _]) rfl T.ag51 T.sz51 l22) rfl ?_
 refine dfb 1 T.fo44_1 ?_
 refine dlb 0 T.ag40 ?_
 refine dmv ?_
 obtain ⟨ad23, hA23⟩ := ho9.ad (j := k19) (by omega)
 refine D_q rfl (r_index hA23 Tryz.underlying40 T.sz51 rfl rfl ⟨by omega, by omega⟩) rfl ?_
 obtain ⟨es24, f24, _, l24⟩ := Sl.get ho9 hA23 hz21
 have F24 := f24
 obtain ⟨A24, c24, rfl, h24, i24a, i24b, i24c, i24d, i24e⟩ := f24
 refine D_q rfl (r_load_immk (vs := [_, _, _, _, _, _]) rfl T.ag51 T.sz51 l24) rfl ?_
 refine D_quiet rfl (SameO_q F22 F24) T.hb48 rfl rfl ?_
 refine D_q rfl (r_not rfl) rfl ?_
 refine D_end ?_
 refine kk7 [2,3,5,6,7,11,158] ?_
 refine cfz (sk (nb (kk6 [2,3,5,6,7,11] (rg ?_))))
 refine mv ?_
 refine W_q (r_add rfl rfl (by have := Sl.len (r := rOp) (sz := 6) (xs := z5.ops) (by assumption); constructor <;> omega)) rfl ?_
 refine as_ ?_
 refine wn ?_
 refine NX_rnd [11, 2, 3, 5, 6, 7] (by omega) (()) ?_ rfl (List.Sublist.refl _) rfl (Imm.le_refl _)
 trivial
 refine C_exit (EX_then (EX_then (EX_hit (?_))))
 refine nb (kk3 [2,3,5] (rg ?_))
 refine mv ?_
 refine ad ?_
 refine as_ ?_
 refine wn ?_
 refine NX_rnd [5, 2, 3] (by omega) (()) ?_ rfl (sub_drop 2 rfl) rfl (Imm.le_refl _)
 trivial
 refine C_exit (EX_then (EX_then (EX_hit (?_))))
 refine kk0 [] (sq (rg ?_))
 refine as_ ?_
 refine wn (kk1 [4] ?_)
 refine C_ret (RX_q1 rfl rfl ?_)
 rfl
namespace T
theorem fo27_0 : fld? Tryz.prog 27 0 = some (0, 1) := by kernel_rfl
theorem fo27_2 : fld? Tryz.prog 27 2 = some (2, 1) := by kernel_rfl
theorem hb15 : hasBody Tryz.prog 15 = true := by kernel_rfl
theorem hb18 : hasBody Tryz.prog 18 = true := by kernel_rfl
end T
namespace T
theorem hb92 : hasBody Tryz.prog 92 = true := by kernel_rfl
end T
theorem shl_val {b : Int} (h : mayW b = true) (h2 : ¬ b = 64) : IntKind.u64.wrap (1 * 2 ^ min b.toNat IntKind.u64.bits) = 2 ^ b.toNat := by
  have hbits : IntKind.u64.bits = 64 := rfl
  rw [hbits, IntKind.wrap_u64]
  rcases mayW_cases h with rfl | rfl | rfl | rfl | rfl
  · simp
  · simp
  · simp
  · simp
  · exact absurd rfl h2
theorem shl_ne {b : Int} (h : mayW b = true) (h2 : ¬ b = 64) : IntKind.u64.wrap (1 * 2 ^ min b.toNat IntKind.u64.bits) ≠ 0 := by
  rw [shl_val h h2]
  exact Int.ne_of_gt (Int.pow_pos (by decide))
theorem shl_rem {v b : Int} (h : mayW b = true) (h2 : ¬ b = 64) (hv : U64 v) : Value.int .u64 (v.tmod (IntKind.u64.wrap (1 * 2 ^ min b.toNat IntKind.u64.bits))) = .int .u64 (cutV v b) := by
  rw [shl_val h h2, cutV, if_pos h, Int.tmod_eq_emod_of_nonneg hv.1]
theorem rMayW_q {m : Imm} (b : Int) : Quiet Tryz.prog 92 [.int .i64 b] m (.bool (mayW b)) := by
 refine quiet_of Tryz.func92 rfl Tryz.ntmps92 rfl (fun w => ?_)
 refine sq (rg ?_)
 refine as_ ?_
 refine wn (kk2 [0,2] (sq (rg ?_)))
 refine mv (be (mv ?_))
 refine sp 5 ?_ ?_ <;> intro h1 <;> try simp only [tt] at h1
 refine ps (ps ?_)
 refine pt (mv ?_)
 refine ps (ps ?_)
 refine pt (mv ?_)
 refine ps (ps ?_)
 refine pt (mv ?_)
 refine ps (ps ?_)
 refine pt (as_ ?_)
 refine wn (kk1 [2] ?_)
 refine C_ret (RX_q1 rfl rfl ?_)
 simp [mayW, *]
 refine tk (mv ?_)
 refine tk (be (pf (mv ?_)))
 refine sp 9 ?_ ?_ <;> intro h2 <;> try simp only [tt] at h2
 refine ps (ps ?_)
 refine pt (mv ?_)
 refine ps (ps ?_)
 refine pt (mv ?_)
 refine ps (ps ?_)
 refine pt (as_ ?_)
 refine wn (kk1 [2] ?_)
 refine C_ret (RX_q1 rfl rfl ?_)
 simp [mayW, *]
 refine tk (mv ?_)
 refine tk (be (pf (mv ?_)))
 refine sp 13 ?_ ?_ <;> intro h3 <;> try simp only [tt] at h3
 refine ps (ps ?_)
 refine pt (mv ?_)
 refine ps (ps ?_)
 refine pt (as_ ?_)
 refine wn (kk1 [2] ?_)
 refine C_ret (RX_q1 rfl rfl ?_)
 simp [mayW, *]
 refine tk (mv ?_)
 refine tk (be (pf (mv ?_)))
 refine sp 17 ?_ ?_ <;> intro h4 <;> try simp only [tt] at h4
 refine ps (ps ?_)
 refine pt (as_ ?_)
 refine wn (kk1 [2] ?_)
 refine C_ret (RX_q1 rfl rfl ?_)
 simp [mayW, *]
 refine tk (mv ?_)
 refine tk (be (pf (as_ ?_)))
 refine wn (kk1 [2] ?_)
 refine C_ret (RX_q1 rfl rfl ?_)
 simp [mayW, *]
theorem rCut_q {m : Imm} (v b : Int) (hv : U64 v) : Quiet Tryz.prog 179 [.int .u64 v, .int .i64 b] m (.int .u64 (cutV v b)) := by
 refine quiet_of Tryz.func179 rfl Tryz.ntmps179 rfl (fun w => ?_)
 refine sq (rg ?_)
 refine as_ ?_
 refine wn (kk3 [0,1,4] (sq (sq (rg ?_))))
 refine mv ?_
 refine W_quiet (rMayW_q _) T.hb92 rfl rfl ?_
 refine nt ?_
 refine wn (kk4 [0,1,4,7] ?_)
 refine cd ?_ ?_ <;> intro h1 <;> try simp only [tt] at h1
 refine sq (rg ?_)
 refine as_ ?_
 refine wn (kk3 [0,1,4] ?_)
 refine C_ret (RX_then (RX_q1 rfl rfl ?_))
 simp [cutV, *]
 refine sk (kk3 [0,1,4] (sq (sq (rg ?_))))
 refine mv (be ?_)
 refine wn (kk4 [0,1,4,9] ?_)
 refine cd ?_ ?_ <;> intro h2 <;> try simp only [tt] at h2
 refine sq (rg ?_)
 refine mv (as_ ?_)
 refine wn (kk3 [0,1,4] ?_)
 refine C_ret (RX_then (RX_q1 rfl rfl ?_))
 simp only [cutV, h2]
 rw [if_pos (by decide)]
 unfold U64 at hv
 have : v % 2 ^ Int.toNat 64 = v := by simp; omega
 rw [this]
 refine sk (kk3 [0,1,4] (sq (rg ?_)))
 refine mv (mv ?_)
 refine W_q (r_convi Tryz.underlying3 Tryz.underlying147 rfl (u64_of _ ⟨by have := mayW_le (b := b) (by assumption); omega, by have := mayW_le (b := b) (by assumption); omega⟩)) rfl ?_
 refine W_q (r_shl rfl rfl (by have := mayW_le (b := b) (by assumption); omega) rfl) rfl ?_
 refine W_q (r_rem rfl rfl (by exact shl_ne (by assumption) (by assumption)) rfl) rfl ?_
 refine as_ ?_
 refine wn (kk1 [4] ?_)
 refine C_ret (RX_q1 rfl rfl ?_)
 rw [shl_rem (by assumption) (by assumption) hv]
theorem rShape_q {m : Imm} (b l : Int) : Quiet Tryz.prog 127 [.int .i64 b, .int .i64 l] m (.bool (shapeB b l)) := by
 refine quiet_of Tryz.func127 rfl Tryz.ntmps127 rfl (fun w => ?_)
 refine sq (rg ?_)
 refine as_ ?_
 refine wn (kk3 [0,1,4] (sq (sq (rg ?_))))
 refine mv ?_
 refine W_quiet (rMayW_q _) T.hb92 rfl rfl ?_
 refine nt ?_
 refine wn (kk4 [0,1,4,7] ?_)
 refine cd ?_ ?_ <;> intro h1 <;> try simp only [tt] at h1
 refine sq (rg ?_)
 refine as_ ?_
 refine wn (kk3 [0,1,4] ?_)
 refine C_ret (RX_then (RX_q1 rfl rfl ?_))
 simp_all [shapeB]
 refine sk (kk3 [0,1,4] (sq (sq (rg ?_))))
 refine mv (be ?_)
 refine wn (kk4 [0,1,4,9] ?_)
 refine cd ?_ ?_ <;> intro h2 <;> try simp only [tt] at h2
 refine sq (rg ?_)
 refine as_ ?_
 refine wn (kk3 [0,1,4] ?_)
 refine C_ret (RX_then (RX_q1 rfl rfl ?_))
 simp_all [shapeB]
 refine sk (kk3 [0,1,4] (sq (rg ?_)))
 refine mv (be (mv ?_))
 refine sp 12 ?_ ?_ <;> intro h3 <;> try simp only [tt] at h3
 refine ps (ps ?_)
 refine pt (mv ?_)
 refine ps (ps ?_)
 refine pt (mv ?_)
 refine ps (ps ?_)
 refine pt (mv ?_)
 refine tk (mv ?_)
 refine tk (bg (pt (mv ?_)))
 refine sp 28 ?_ ?_ <;> intro h4 <;> try simp only [tt] at h4
 refine tk (mv ?_)
 refine tk (mv ?_)
 refine tk ?_
 refine W_q (r_bin rfl rfl (bin_mul _ _ _ _)) rfl ?_
 refine tk (bq (pt (as_ ?_)))
 refine wn (kk1 [4] ?_)
 refine C_ret (RX_q1 rfl rfl ?_)
 · first
    | (simp_all [shapeB]; done)
    | (have := mayW_le (b := b) (by assumption); simp_all [shapeB]; omega)
    | (subst_vars; rcases mayW_cases (b := b) (by assumption) with rfl | rfl | rfl | rfl | rfl <;> first | omega | rfl | decide)
 refine ps (ps (ps (ps ?_)))
 refine pf (as_ ?_)
 refine wn (kk1 [4] ?_)
 refine C_ret (RX_q1 rfl rfl ?_)
 have := mayW_le (b := b) (by assumption); simp_all [shapeB]; omega
 refine tk (mv ?_)
 refine tk (be (pf (mv ?_)))
 refine sp 16 ?_ ?_ <;> intro h5 <;> try simp only [tt] at h5
 refine ps (ps ?_)
 refine pt (mv ?_)
 refine ps (ps ?_)
 refine pt (mv ?_)
 refine tk (mv ?_)
 refine tk (bg (pt (mv ?_)))
 refine sp 28 ?_ ?_ <;> intro h6 <;> try simp only [tt] at h6
 refine tk (mv ?_)
 refine tk (mv ?_)
 refine tk ?_
 refine W_q (r_bin rfl rfl (bin_mul _ _ _ _)) rfl ?_
 refine tk (bq (pt (as_ ?_)))
 refine wn (kk1 [4] ?_)
 refine C_ret (RX_q1 rfl rfl ?_)
 · first
    | (simp_all [shapeB]; done)
    | (have := mayW_le (b := b) (by assumption); simp_all [shapeB]; omega)
    | (subst_vars; rcases mayW_cases (b := b) (by assumption) with rfl | rfl | rfl | rfl | rfl <;> first | omega | rfl | decide)
 refine ps (ps (ps (ps ?_)))
 refine pf (as_ ?_)
 refine wn (kk1 [4] ?_)
 refine C_ret (RX_q1 rfl rfl ?_)
 have := mayW_le (b := b) (by assumption); simp_all [shapeB]; omega
 refine tk (mv ?_)
 refine tk (be (pf (mv ?_)))
 refine sp 20 ?_ ?_ <;> intro h7 <;> try simp only [tt] at h7
 refine ps (ps ?_)
 refine pt (mv ?_)
 refine tk (mv ?_)
 refine tk (bg (pt (mv ?_)))
 refine sp 28 ?_ ?_ <;> intro h8 <;> try simp only [tt] at h8
 refine tk (mv ?_)
 refine tk (mv ?_)
 refine tk ?_
 refine W_q (r_bin rfl rfl (bin_mul _ _ _ _)) rfl ?_
 refine tk (bq (pt (as_ ?_)))
 refine wn (kk1 [4] ?_)
 refine C_ret (RX_q1 rfl rfl ?_)
 · first
    | (simp_all [shapeB]; done)
    | (have := mayW_le (b := b) (by assumption); simp_all [shapeB]; omega)
    | (subst_vars; rcases mayW_cases (b := b) (by assumption) with rfl | rfl | rfl | rfl | rfl <;> first | omega | rfl | decide)
 refine ps (ps (ps (ps ?_)))
 refine pf (as_ ?_)
 refine wn (kk1 [4] ?_)
 refine C_ret (RX_q1 rfl rfl ?_)
 have := mayW_le (b := b) (by assumption); simp_all [shapeB]; omega
 refine tk (mv ?_)
 refine tk (be (pf (mv ?_)))
 refine sp 24 ?_ ?_ <;> intro h9 <;> try simp only [tt] at h9
 refine tk (mv ?_)
 refine tk (bg (pt (mv ?_)))
 refine sp 28 ?_ ?_ <;> intro h10 <;> try simp only [tt] at h10
 refine tk (mv ?_)
 refine tk (mv ?_)
 refine tk ?_
 refine W_q (r_bin rfl rfl (bin_mul _ _ _ _)) rfl ?_
 refine tk (bq (pt (as_ ?_)))
 refine wn (kk1 [4] ?_)
 refine C_ret (RX_q1 rfl rfl ?_)
 · first
    | (simp_all [shapeB]; done)
    | (have := mayW_le (b := b) (by assumption); simp_all [shapeB]; omega)
    | (subst_vars; rcases mayW_cases (b := b) (by assumption) with rfl | rfl | rfl | rfl | rfl <;> first | omega | rfl | decide)
 refine ps (ps (ps (ps ?_)))
 refine pf (as_ ?_)
 refine wn (kk1 [4] ?_)
 refine C_ret (RX_q1 rfl rfl ?_)
 have := mayW_le (b := b) (by assumption); simp_all [shapeB]; omega
 refine ps (ps ?_)
 refine pf (mv ?_)
 refine ps (ps (ps (ps ?_)))
 refine pf (as_ ?_)
 refine wn (kk1 [4] ?_)
 refine C_ret (RX_q1 rfl rfl ?_)
 simp_all [shapeB]
theorem rValue_q {m : Imm} (v : Int) : Quiet Tryz.prog 59 [.int .i64 v] m (.bool (valueB v)) := by
 refine quiet_of Tryz.func59 rfl Tryz.ntmps59 rfl (fun w => ?_)
 refine sq (rg ?_)
 refine as_ ?_
 refine wn (kk2 [0,2] (sq (rg ?_)))
 refine mv (bg (mv ?_))
 refine sp 5 ?_ ?_ <;> intro h1 <;> try simp only [tt] at h1
 refine tk (mv ?_)
 refine tk (bl (pt (as_ ?_)))
 refine wn (kk1 [2] ?_)
 refine C_ret (RX_q1 rfl rfl ?_)
 refine congrArg Value.bool (bool_ext ?_); simp [valueB]; omega
 refine ps (ps ?_)
 refine pf (as_ ?_)
 refine wn (kk1 [2] ?_)
 refine C_ret (RX_q1 rfl rfl ?_)
 refine congrArg Value.bool (bool_ext ?_); simp [valueB]; omega
theorem rPure_q {m : Imm} (k : Int) : Quiet Tryz.prog 30 [.int .i64 k] m (.bool (pureK k)) := by
 refine quiet_of Tryz.func30 rfl Tryz.ntmps30 rfl (fun w => ?_)
 refine sq (rg ?_)
 refine as_ ?_
 refine wn (kk2 [0,2] (sq (rg ?_)))
 refine mv (bh (mv ?_))
 refine sp 5 ?_ ?_ <;> intro h1 <;> try simp only [tt] at h1
 refine tk (mv ?_)
 refine tk (bq (pt (mv ?_)))
 refine sp 9 ?_ ?_ <;> intro h2 <;> try simp only [tt] at h2
 refine tk (mv ?_)
 refine tk (bn (pt (mv ?_)))
 refine sp 13 ?_ ?_ <;> intro h3 <;> try simp only [tt] at h3
 refine tk (mv ?_)
 refine tk (bl ?_)
 refine tk (mv ?_)
 refine sp 16 ?_ ?_ <;> intro h4 <;> try simp only [tt] at h4
 refine ps (ps (tk (pt (pt (as_ ?_)))))
 refine wn (kk1 [2] ?_)
 refine C_ret (RX_q1 rfl rfl ?_)
 refine congrArg Value.bool (bool_ext ?_); simp [pureK]; omega
 refine tk (mv ?_)
 refine tk (bg ?_)
 refine tk (pf (pt (as_ ?_)))
 refine wn (kk1 [2] ?_)
 refine C_ret (RX_q1 rfl rfl ?_)
 refine congrArg Value.bool (bool_ext ?_); simp [pureK]; omega
 refine ps (ps (ps (puz (puz (ps ?_)))))
 refine pf (as_ ?_)
 refine wn (kk1 [2] ?_)
 refine C_ret (RX_q1 rfl rfl ?_)
 simp [pureK, *]
 refine ps (ps ?_)
 refine pf (mv ?_)
 refine ps (ps (ps (puz (puz (ps ?_)))))
 refine pf (as_ ?_)
 refine wn (kk1 [2] ?_)
 refine C_ret (RX_q1 rfl rfl ?_)
 simp [pureK, *]
 refine ps (ps ?_)
 refine pf (mv ?_)
 refine ps (ps ?_)
 refine pf (mv ?_)
 refine ps (ps (ps (puz (puz (ps ?_)))))
 refine pf (as_ ?_)
 refine wn (kk1 [2] ?_)
 refine C_ret (RX_q1 rfl rfl ?_)
 simp [pureK, *]
end Go.Proofs.YtipmgkhjoekaaaaGreat
