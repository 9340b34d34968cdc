/- A part of a proof about a given program: rules, plain functions and walks. -/
import Derived.WalkKit
import Derived.Below
import Derived.Laws.AppendOwn
import Derived.Laws.World
import Derived.KernelRfl
import Derived.WalkLawsBesides
import Derived.Deep.LoopGhost
import Derived.ScopeJumps
import Derived.Orders
import Derived.Deep.Quiet
import Derived.Laws.Small
import Derived.Laws.CopyRow
import Derived.Laws.Cells
import Derived.Laws.Tables
import Derived.IntWalk
import Derived.Laws.OwnMore
import Derived.MapFrom
import Derived.Carry
import Derived.Maps.AppendAt
import Derived.Lib.SliceRun
import Derived.Laws.StructEq
set_option linter.unusedVariables false
set_option linter.unusedSimpArgs false
namespace Go.Proofs.YtipmgkhjoekaaaaGreat.Fw
open Go Go.RowKit
abbrev Loc := List (Nat × Value)
def lk : Loc → Nat → Option Value
  | [], _ => none
  | (k, v) :: r, t => match Nat.beq k t with
    | true => some v
    | false => lk r t
def ev (L : Loc) : Operand → Option Value
  | .tmp t => lk L t
  | .const v => some v
  | .global g => some (.pointer (some ⟨g, 0, none⟩))
  | .func f => some (.func (.func f) #[] #[])
def evs (L : Loc) : List Operand → Option (List Value)
  | [] => some []
  | x :: r => match ev L x with
    | some v => match evs L r with
      | some vs => some (v :: vs)
      | none => none
    | none => none
def sel (L : Loc) : List Nat → Loc
  | [] => []
  | t :: ts => match lk L t with
    | some v => (t, v) :: sel L ts
    | none => sel L ts
structure Fr (n : Nat) (L : Loc) (a : Act) : Prop where
  size : a.tmps.size = n
  defers : a.defers = []
  get : ∀ t v, lk L t = some v → a.tmps[t]? = some v
section
variable {n : Nat} {L : Loc} {a : Act}
theorem Fr.eval (h : Fr n L a) {x : Operand} {v : Value} (hx : ev L x = some v) : a.eval x = v := by
  cases x with
  | tmp t => simp only [ev] at hx; have := h.get t v hx; simp only [Act.eval, Array.getD_eq_getD_getElem?, this, Option.getD_some]
  | const c => simp only [ev, Option.some.injEq] at hx; exact hx
  | global g => simp only [ev, Option.some.injEq] at hx; exact hx
  | func f => simp only [ev, Option.some.injEq] at hx; exact hx
theorem Fr.evals (h : Fr n L a) : ∀ {xs : List Operand} {vs : List Value}, evs L xs = some vs → xs.map a.eval = vs
  | [], vs, hx => by simp only [evs, Option.some.injEq] at hx; simp [← hx]
  | x :: r, vs, hx => by
    simp only [evs] at hx
    split at hx
    · rename_i v hv
      split at hx
      · rename_i vs' hvs
        simp only [Option.some.injEq] at hx
        subst hx
        simp only [List.map_cons, h.eval hv, h.evals hvs]
      · cases hx
    · cases hx
theorem Fr.put (h : Fr n L a) {d : Nat} (hd : Nat.blt d n = true) (v : Value) : Fr n ((d, v) :: L) (a.put (some d) v) := by
  have hd' : d < n := by simpa [Nat.blt_eq] using hd
  refine ⟨by simp [Act.put, h.size], h.defers, fun t u ht => ?_⟩
  simp only [lk] at ht
  cases hb : Nat.beq d t with
  | true =>
    rw [hb] at ht
    obtain rfl : d = t := Nat.eq_of_beq_eq_true hb
    simp only [Option.some.injEq] at ht
    subst ht
    simp [Act.put, h.size, hd']
  | false =>
    rw [hb] at ht
    have hne : d ≠ t := Nat.ne_of_beq_eq_false hb
    simp only [Act.put, Array.getElem?_setIfInBounds, hne, if_false]
    exact h.get t u ht
theorem Fr.none (h : Fr n L a) (v : Value) : Fr n L (a.put none v) := h
theorem lk_sel : ∀ (ks : List Nat) (t : Nat) (v : Value), lk (sel L ks) t = some v → lk L t = some v
  | [], t, v, h => by simp [sel, lk] at h
  | k :: ks, t, v, h => by
    simp only [sel] at h
    split at h
    · rename_i u hu
      simp only [lk] at h
      cases hb : Nat.beq k t with
      | true =>
        rw [hb] at h
        obtain rfl : k = t := Nat.eq_of_beq_eq_true hb
        simp only [Option.some.injEq] at h
        rw [hu, h]
      | false => rw [hb] at h; exact lk_sel ks t v h
    · exact lk_sel ks t v h
theorem Fr.keep (h : Fr n L a) (ks : List Nat) : Fr n (sel L ks) a := ⟨h.size, h.defers, fun t v ht => h.get t v (lk_sel ks t v ht)⟩
end
def args0 : Nat → List Value → Loc
  | _, [] => []
  | i, v :: vs => (i, v) :: args0 (i + 1) vs
theorem lk_args0 : ∀ (vs : List Value) (i t : Nat) (v : Value), lk (args0 i vs) t = some v → i ≤ t ∧ vs[t - i]? = some v
  | [], i, t, v, h => by simp [args0, lk] at h
  | u :: us, i, t, v, h => by
    simp only [args0, lk] at h
    cases hb : Nat.beq i t with
    | true =>
      rw [hb] at h
      obtain rfl : i = t := Nat.eq_of_beq_eq_true hb
      simpa using h
    | false =>
      rw [hb] at h
      have := lk_args0 us (i + 1) t v h
      have hne : i ≠ t := Nat.ne_of_beq_eq_false hb
      refine ⟨by omega, ?_⟩
      obtain ⟨h1, h2⟩ := this
      have : t - i = (t - (i + 1)) + 1 := by omega
      rw [this]; simpa using h2
theorem Fr.enter (vs : List Value) (n : Nat) (h : vs.length ≤ n) : Fr n (args0 0 vs) { tmps := vs.toArray ++ Array.replicate (n - vs.toArray.size) undef, defers := [] } := by
  refine ⟨by simp; omega, rfl, fun t v ht => ?_⟩
  have := lk_args0 vs 0 t v ht
  simp only [Nat.sub_zero] at this
  have hlt : t < vs.length := (List.getElem?_eq_some_iff.1 this.2).1
  have h2 := this.2
  rw [List.getElem?_eq_getElem hlt] at h2
  simp only [Option.some.injEq] at h2
  simp [Array.getElem?_append, hlt, h2]
abbrev Imm := Nat → Option Obj
def Imm.cell? (m : Imm) (a : Addr) : Option Value :=
  match m a.block with
  | some (.cells c _ _) => if a.spot.isSome then none else c[a.off]?
  | _ => none
def In (m : Imm) (w : World) : Prop := ∀ b o, m b = some o → w.heap[b]? = some o
def Imm.le (m m' : Imm) : Prop := ∀ b o, m b = some o → m' b = some o
def Ext (B : Nat) (m m' : Imm) : Prop := ∀ b, b < B → m' b = m b
theorem Imm.le_refl (m : Imm) : m.le m := fun _ _ h => h
theorem Imm.le_trans {m m' m'' : Imm} (h : m.le m') (h' : m'.le m'') : m.le m'' := fun b o hb => h' b o (h b o hb)
theorem Imm.le.cell {m m' : Imm} (h : m.le m') {a : Addr} {v : Value} (hc : m.cell? a = some v) : m'.cell? a = some v := by
  unfold Imm.cell? at *
  split at hc
  · rename_i c e f hb; rw [h _ _ hb]; exact hc
  · cases hc
theorem In.cell {m : Imm} {w : World} (h : In m w) {a : Addr} {v : Value} (hc : m.cell? a = some v) : w.cell? a = some v := by
  unfold Imm.cell? at hc
  unfold World.cell?
  split at hc
  · rename_i c e f hb; rw [h _ _ hb]; exact hc
  · cases hc
theorem In.lt {m : Imm} {w : World} (h : In m w) {b : Nat} {o : Obj} (hb : m b = some o) : b < w.heap.size := (Array.getElem?_eq_some_iff.1 (h b o hb)).1
theorem Ext.le {m m' : Imm} {w : World} (h : In m w) (he : Ext w.heap.size m m') : m.le m' := fun b o hb => by rw [he b (h.lt hb)]; exact hb
structure Res where
  has : Nat → Prop
  holds : World → Prop
  loc : ∀ {w w' : World}, holds w → (∀ k, has k → w'.heap[k]? = w.heap[k]?) → holds w'
  lt : ∀ {w : World} {k : Nat}, holds w → has k → k < w.heap.size
structure Start where
  w : World
  m : Imm
  mods : Nat → Prop
structure Pre (m : Imm) (R : List Res) (w : World) : Prop where
  inW : In m w
  holds : ∀ r ∈ R, r.holds w
  apart : ∀ r ∈ R, ∀ k, r.has k → m k = none
  pair : R.Pairwise (fun r r' => ∀ k, r.has k → ¬ r'.has k)
structure St (s : Start) (m : Imm) (R : List Res) (w : World) : Prop extends Pre m R w where
  os : w.os = s.w.os
  tape : w.tape = s.w.tape
  output : w.output = s.w.output
  size : s.w.heap.size ≤ w.heap.size
  ext : Ext s.w.heap.size s.m m
  old : ∀ b, b < s.w.heap.size → ¬ s.mods b → w.heap[b]? = s.w.heap[b]?
  own : ∀ r ∈ R, ∀ k, r.has k → s.w.heap.size ≤ k ∨ s.mods k
def keys (R : List Res) (k : Nat) : Prop := ∃ r ∈ R, r.has k
theorem Pre.start {m : Imm} {R : List Res} {w : World} (h : Pre m R w) : St ⟨w, m, keys R⟩ m R w :=
  { h with os := rfl, tape := rfl, output := rfl, size := Nat.le_refl _, ext := fun _ _ => rfl, old := fun _ _ _ => rfl,
           own := fun r hr k hk => .inr ⟨r, hr, hk⟩ }
structure Evolve (w w' : World) : Prop where
  os : w'.os = w.os
  tape : w'.tape = w.tape
  output : w'.output = w.output
  size : w.heap.size ≤ w'.heap.size
  same : ∀ b, b < w.heap.size → w'.heap[b]? = w.heap[b]?
theorem Evolve.refl (w : World) : Evolve w w := ⟨rfl, rfl, rfl, Nat.le_refl _, fun _ _ => rfl⟩
theorem Evolve.trans {a b c : World} (h : Evolve a b) (k : Evolve b c) : Evolve a c :=
  ⟨k.os.trans h.os, k.tape.trans h.tape, k.output.trans h.output, Nat.le_trans h.size k.size, fun i hi => (k.same i (Nat.lt_of_lt_of_le hi h.size)).trans (h.same i hi)⟩
theorem Evolve.below {w w' : World} (h : Evolve w w') : Below w.heap.size w w' := ⟨h.os, h.tape, h.output, h.size, h.same⟩
theorem Evolve.of_below {w w' : World} (h : Below w.heap.size w w') : Evolve w w' := ⟨h.os, h.tape, h.output, h.size, h.block⟩
theorem Evolve.drew (w : World) : Evolve w w.drew := ⟨rfl, rfl, rfl, Nat.le_refl _, fun _ _ => rfl⟩
theorem Evolve.alloc (w : World) (o : Obj) : Evolve w (w.alloc o) := ⟨rfl, rfl, rfl, by simp, fun b hb => Below.heap_alloc w o b hb⟩
theorem In.evolve {m : Imm} {w w' : World} (h : In m w) (he : Evolve w w') : In m w' := fun b o hb => by rw [he.same b (h.lt hb)]; exact h b o hb
theorem Pre.evolve {m : Imm} {R : List Res} {w w' : World} (h : Pre m R w) (he : Evolve w w') : Pre m R w' :=
  ⟨h.inW.evolve he, fun r hr => r.loc (h.holds r hr) fun k hk => he.same k (r.lt (h.holds r hr) hk), h.apart, h.pair⟩
theorem St.evolve {s : Start} {m : Imm} {R : List Res} {w w' : World} (h : St s m R w) (he : Evolve w w') : St s m R w' :=
  { h.toPre.evolve he with
    os := he.os.trans h.os, tape := he.tape.trans h.tape, output := he.output.trans h.output, size := Nat.le_trans h.size he.size, ext := h.ext,
    old := fun b hb hm => (he.same b (Nat.lt_of_lt_of_le hb h.size)).trans (h.old b hb hm), own := h.own }
theorem Pre.sub {m : Imm} {R R' : List Res} {w : World} (h : Pre m R w) (hs : R'.Sublist R) : Pre m R' w :=
  ⟨h.inW, fun r hr => h.holds r (hs.subset hr), fun r hr => h.apart r (hs.subset hr), h.pair.sublist hs⟩
theorem St.sub {s : Start} {m : Imm} {R R' : List Res} {w : World} (h : St s m R w) (hs : R'.Sublist R) : St s m R' w :=
  { h.toPre.sub hs with os := h.os, tape := h.tape, output := h.output, size := h.size, ext := h.ext, old := h.old, own := fun r hr => h.own r (hs.subset hr) }
theorem St.evolved {w0 w : World} {m0 m : Imm} {R : List Res} {md : Nat → Prop} (h : St ⟨w0, m0, md⟩ m R w) (hm : ∀ k, ¬ md k) : Evolve w0 w := ⟨h.os, h.tape, h.output, h.size, fun b hb => h.old b hb (hm b)⟩
theorem St.allocR {s : Start} {m : Imm} {R : List Res} {w w' : World} (h : St s m R w) (he : Evolve w w') (r : Res) (hh : r.holds w') (hk : ∀ k, r.has k → w.heap.size ≤ k) : St s m (r :: R) w' := by
  have h' := h.evolve he
  refine { h' with holds := ?_, apart := ?_, pair := ?_, own := ?_ }
  · intro x hx
    rcases List.mem_cons.1 hx with rfl | hx
    · exact hh
    · exact h'.holds x hx
  · intro x hx k hk'
    rcases List.mem_cons.1 hx with rfl | hx
    · cases hm : m k with
      | none => rfl
      | some o' => exact absurd (h.inW.lt hm) (Nat.not_lt.2 (hk k hk'))
    · exact h.apart x hx k hk'
  · refine List.pairwise_cons.2 ⟨fun x hx k hk1 hk2 => ?_, h.pair⟩
    exact absurd (x.lt (h.holds x hx) hk2) (Nat.not_lt.2 (hk k hk1))
  · intro x hx k hk'
    rcases List.mem_cons.1 hx with rfl | hx
    · exact .inl (Nat.le_trans h.size (hk k hk'))
    · exact h.own x hx k hk'
theorem St.turn' {s : Start} {m : Imm} {R1 R2 : List Res} {r r' : Res} {w w' : World} (h : St s m (R1 ++ r :: R2) w)
    (ho : w'.os = w.os) (ht : w'.tape = w.tape) (hp : w'.output = w.output) (hsz : w.heap.size ≤ w'.heap.size)
    (hsame : ∀ b, b < w.heap.size → ¬ r.has b → w'.heap[b]? = w.heap[b]?) (hh : r'.holds w')
    (hk : ∀ k, r'.has k → r.has k ∨ w.heap.size ≤ k) : St s m (R1 ++ r' :: R2) w' := by
  have hrm : r ∈ R1 ++ r :: R2 := by simp
  have hin : ∀ x, x ∈ R1 ∨ x ∈ R2 → x ∈ R1 ++ r :: R2 := fun x hx => by rcases hx with hx | hx <;> simp [hx]
  have hother : ∀ x, x ∈ R1 ∨ x ∈ R2 → ∀ k, x.has k → ¬ r.has k := by
    intro x hx k hk' hr
    have hpw := List.pairwise_append.1 h.pair
    rcases hx with hx | hx
    · exact (hpw.2.2 x hx r (by simp)) k hk' hr
    · exact (List.pairwise_cons.1 hpw.2.1).1 x hx k hr hk'
  have hsplit : ∀ x, x ∈ R1 ++ r' :: R2 → x = r' ∨ (x ∈ R1 ∨ x ∈ R2) := by
    intro x hx
    rcases List.mem_append.1 hx with hx | hx
    · exact .inr (.inl hx)
    · rcases List.mem_cons.1 hx with hx | hx
      · exact .inl hx
      · exact .inr (.inr hx)
  have hnew : ∀ k, r'.has k → ∀ x, x ∈ R1 ∨ x ∈ R2 → ¬ x.has k := by
    intro k hk1 x hx hx2
    rcases hk k hk1 with hr | hr
    · exact hother x hx k hx2 hr
    · exact absurd (x.lt (h.holds x (hin x hx)) hx2) (by omega)
  refine { inW := ?_, holds := ?_, apart := ?_, pair := ?_, os := ho.trans h.os, tape := ht.trans h.tape, output := hp.trans h.output, size := Nat.le_trans h.size hsz, ext := h.ext, old := ?_, own := ?_ }
  · intro b o hb
    rw [hsame b (h.inW.lt hb) (fun hr => by have := h.apart r hrm b hr; rw [hb] at this; cases this)]
    exact h.inW b o hb
  · intro x hx
    rcases hsplit x hx with rfl | hx
    · exact hh
    · exact x.loc (h.holds x (hin x hx)) fun k hk1 => hsame k (x.lt (h.holds x (hin x hx)) hk1) (hother x hx k hk1)
  · intro x hx k hk1
    rcases hsplit x hx with rfl | hx
    · rcases hk k hk1 with hr | hr
      · exact h.apart r hrm k hr
      · cases hm : m k with
        | none => rfl
        | some o' => exact absurd (h.inW.lt hm) (by omega)
    · exact h.apart x (hin x hx) k hk1
  · have hpw := List.pairwise_append.1 h.pair
    refine List.pairwise_append.2 ⟨hpw.1, List.pairwise_cons.2 ⟨fun x hx k hk1 => hnew k hk1 x (.inr hx), (List.pairwise_cons.1 hpw.2.1).2⟩, fun x hx y hy k hk1 => ?_⟩
    rcases List.mem_cons.1 hy with rfl | hy
    · exact fun hk2 => hnew k hk2 x (.inl hx) hk1
    · exact hpw.2.2 x hx y (by simp [hy]) k hk1
  · intro b hb hm
    have : ¬ r.has b := fun hr => by
      rcases h.own r hrm b hr with h1 | h1
      · omega
      · exact hm h1
    rw [hsame b (Nat.lt_of_lt_of_le hb h.size) this]
    exact h.old b hb hm
  · intro x hx k hk1
    rcases hsplit x hx with rfl | hx
    · rcases hk k hk1 with hr | hr
      · exact h.own r hrm k hr
      · exact .inl (Nat.le_trans h.size hr)
    · exact h.own x (hin x hx) k hk1
theorem take_set_drop {α : Type _} : ∀ {l : List α} {i : Nat} {r : α}, l[i]? = some r → l = l.take i ++ r :: l.drop (i + 1) ∧ ∀ r', l.set i r' = l.take i ++ r' :: l.drop (i + 1)
  | [], i, r, h => by simp at h
  | x :: l, 0, r, h => by simp at h; subst h; simp
  | x :: l, i + 1, r, h => by
    have ⟨h1, h2⟩ := take_set_drop (l := l) (i := i) (r := r) (by simpa using h)
    refine ⟨?_, fun r' => ?_⟩
    · simp only [List.take_succ_cons, List.drop_succ_cons, List.cons_append]; rw [← h1]
    · simp only [List.take_succ_cons, List.drop_succ_cons, List.cons_append, List.set_cons_succ]; rw [h2 r']
theorem St.turn {s : Start} {m : Imm} {R : List Res} {i : Nat} {r r' : Res} {w w' : World} (h : St s m R w) (hi : R[i]? = some r)
    (ho : w'.os = w.os) (ht : w'.tape = w.tape) (hp : w'.output = w.output) (hsz : w.heap.size ≤ w'.heap.size)
    (hsame : ∀ b, b < w.heap.size → ¬ r.has b → w'.heap[b]? = w.heap[b]?) (hh : r'.holds w')
    (hk : ∀ k, r'.has k → r.has k ∨ w.heap.size ≤ k) : St s m (R.set i r') w' := by
  obtain ⟨h1, h2⟩ := take_set_drop hi
  rw [h2 r']
  rw [h1] at h
  exact St.turn' h ho ht hp hsz hsame hh hk
theorem St.at {s : Start} {m : Imm} {R : List Res} {i : Nat} {r : Res} {w : World} (h : St s m R w) (hi : R[i]? = some r) : r.holds w := h.holds r (List.mem_of_getElem? hi)
theorem St.perm {s : Start} {m : Imm} {R R' : List Res} {w : World} (h : St s m R w) (hp : R.Perm R') : St s m R' w :=
  { inW := h.inW, holds := fun r hr => h.holds r (hp.symm.subset hr), apart := fun r hr => h.apart r (hp.symm.subset hr),
    pair := (hp.pairwise_iff (fun {x y} hxy k hk hk' => hxy k hk' hk)).1 h.pair, os := h.os, tape := h.tape, output := h.output, size := h.size, ext := h.ext, old := h.old,
    own := fun r hr => h.own r (hp.symm.subset hr) }
theorem St.call {s : Start} {m m' : Imm} {R R' F : List Res} {w w' : World} (h : St s m (R ++ F) w) (h' : St ⟨w, m, keys R⟩ m' R' w') : St s m' (R' ++ F) w' := by
  have hF : ∀ r, r ∈ F → r ∈ R ++ F := fun r hr => by simp [hr]
  have hpw := List.pairwise_append.1 h.pair
  have hnk : ∀ r, r ∈ F → ∀ k, r.has k → ¬ keys R k := by
    intro r hr k hk hm
    obtain ⟨x, hx, hxk⟩ := hm
    exact hpw.2.2 x hx r hr k hxk hk
  have hlt : ∀ r, r ∈ F → ∀ k, r.has k → k < w.heap.size := fun r hr k hk => r.lt (h.holds r (hF r hr)) hk
  refine { inW := h'.inW, holds := ?_, apart := ?_, pair := ?_, os := h'.os.trans h.os, tape := h'.tape.trans h.tape, output := h'.output.trans h.output, size := Nat.le_trans h.size h'.size, ext := ?_, old := ?_, own := ?_ }
  · intro r hr
    rcases List.mem_append.1 hr with hr | hr
    · exact h'.holds r hr
    · exact r.loc (h.holds r (hF r hr)) fun k hk => h'.old k (hlt r hr k hk) (hnk r hr k hk)
  · intro r hr k hk
    rcases List.mem_append.1 hr with hr | hr
    · exact h'.apart r hr k hk
    · rw [h'.ext k (hlt r hr k hk)]; exact h.apart r (hF r hr) k hk
  · refine List.pairwise_append.2 ⟨h'.pair, hpw.2.1, fun x hx y hy k hk hk' => ?_⟩
    rcases h'.own x hx k hk with h1 | h1
    · exact absurd (hlt y hy k hk') (Nat.not_lt.2 h1)
    · exact hnk y hy k hk' h1
  · intro b hb
    rw [h'.ext b (Nat.lt_of_lt_of_le hb h.size)]; exact h.ext b hb
  · intro b hb hm
    have hk : ¬ keys R b := fun hk => by
      obtain ⟨x, hx, hxk⟩ := hk
      rcases h.own x (by simp [hx]) b hxk with h1 | h1
      · omega
      · exact hm h1
    rw [h'.old b (Nat.lt_of_lt_of_le hb h.size) hk]; exact h.old b hb hm
  · intro r hr k hk
    rcases List.mem_append.1 hr with hr | hr
    · rcases h'.own r hr k hk with h1 | h1
      · exact .inl (Nat.le_trans h.size h1)
      · obtain ⟨x, hx, hxk⟩ := h1
        exact h.own x (by simp [hx]) k hxk
    · exact h.own r (hF r hr) k hk
theorem St.grow {s : Start} {m m' : Imm} {R : List Res} {w w' : World} (h : St s m R w) (he : Evolve w w') (hx : Ext w.heap.size m m') (hi : In m' w') : St s m' R w' :=
  St.call (R := []) (R' := []) (F := R) (by simpa using h)
    { inW := hi, holds := by simp, apart := by simp, pair := .nil, os := he.os, tape := he.tape, output := he.output, size := he.size, ext := hx, old := fun b hb _ => he.same b hb, own := by simp }
theorem sub_drop {α : Type _} {A B : List α} (k : Nat) (h : List.drop k B = A) : A.Sublist B := h ▸ List.drop_sublist k B
def blk (b : Nat) (o : Obj) : Res where
  has k := k = b
  holds w := w.heap[b]? = some o
  loc h hs := by rw [hs b rfl]; exact h
  lt h hk := by subst hk; exact (Array.getElem?_eq_some_iff.1 h).1
def rowA (g : Option Nat) : Option Addr := g.map fun b => ⟨b, 0, none⟩
def row (g : Option Nat) (n cap : Nat) (e : TypeId) (size : Nat) (xs : List Value) : Res where
  has k := g = some k
  holds w := w.ownsRow 0 e size (.slice (rowA g) n cap) n xs
  loc h hs := by
    refine ⟨h.1, ?_⟩
    rcases h.2 with hn | ⟨b, cap', cur, hv, hb, hgg, rest⟩
    · exact .inl hn
    · refine .inr ⟨b, cap', cur, hv, hb, ?_, rest⟩
      rw [hs b (by cases g <;> simp_all [rowA])]; exact hgg
  lt h hk := (h.lt _ (by subst hk; rfl)).2
abbrev Post := Exit → Act → World → Prop
section
variable {P : Program} {ops : Array Oper} {Q : Post} {rest : List Oper} {n : Nat} {s : Start} {m : Imm} {R : List Res} {L : Loc}
def WL (P : Program) (ops : Array Oper) (Q : Post) (rest : List Oper) (n : Nat) (s : Start) (m : Imm) (R : List Res) (L : Loc) : Prop :=
  ∀ a w, Fr n L a → St s m R w → wpList P ops Q rest a w
def CW (P : Program) (c : Code) (Q : Post) (n : Nat) (s : Start) (m : Imm) (R : List Res) (L : Loc) : Prop :=
  ∀ a w, Fr n L a → St s m R w → c.wp P Q a w
theorem wpList_go {o : Oper} {a : Act} {w : World} (hg : Region.wanted o (yielded ops a.tmps) = true) (h : o.wp P a w (wpList P ops Q rest) Q) : wpList P ops Q (o :: rest) a w := by
  unfold wpList; rw [if_pos hg]; exact .inl h
theorem wanted_none {o : Oper} (hg : o.guard = none) (y : Nat → Option Bool) : Region.wanted o y = true := by simp [Region.wanted, hg]
theorem WL_runw {o : Oper} {d : Nat} (hdst : o.dst = some d) (hg : o.guard = none) (hd : Nat.blt d n = true)
    (hrun : ∀ a w, Fr n L a → St s m R w → ∃ v w' m' R', (execOp a.eval o).run P w = .ok (.value v) w' ∧ St s m' R' w' ∧ WL P ops Q rest n s m' R' ((d, v) :: L)) :
    WL P ops Q (o :: rest) n s m R L := fun a w hF hS =>
  wpList_go (wanted_none hg _) (by
    obtain ⟨v, w', m', R', hr, hS', next⟩ := hrun a w hF hS
    unfold Oper.wp
    rw [hr, Oper.upon_value, hdst]
    exact next _ _ (hF.put hd v) hS')
theorem WL_skipw {o : Oper} (hdst : o.dst = none) (hg : o.guard = none)
    (hrun : ∀ a w, Fr n L a → St s m R w → ∃ w' m' R', (execOp a.eval o).run P w = .ok .skip w' ∧ St s m' R' w' ∧ WL P ops Q rest n s m' R' L) :
    WL P ops Q (o :: rest) n s m R L := fun a w hF hS =>
  wpList_go (wanted_none hg _) (by
    obtain ⟨w', m', R', hr, hS', next⟩ := hrun a w hF hS
    unfold Oper.wp
    rw [hr, Oper.upon_skip, hdst]
    exact next _ _ (hF.none _) hS')
theorem CW_keep {c : Code} (ks : List Nat) (h : CW P c Q n s m R (sel L ks)) : CW P c Q n s m R L := fun a w hF hS => h a w (hF.keep ks) hS
theorem yielded_of {a : Act} {j d : Nat} {b : Bool} (hF : Fr n L a) (hj : (ops[j]?).bind (·.dst) = some d) (hl : lk L d = some (.bool b)) : yielded ops a.tmps j = some b := by
  unfold yielded
  rw [hj]
  simp only [Option.bind_some, hF.get d _ hl]
theorem WL_take {d? : Option Nat} {op : Op} {ty : TypeId} {pos : String} {af : Array Edge} {j d : Nat} {b : Bool} (hj : (ops[j]?).bind (·.dst) = some d) (hl : lk L d = some (.bool b))
    (h : WL P ops Q (⟨d?, op, ty, pos, af, none⟩ :: rest) n s m R L) : WL P ops Q (⟨d?, op, ty, pos, af, some (j, b)⟩ :: rest) n s m R L := fun a w hF hS => by
  have h1 := h a w hF hS
  unfold wpList at h1 ⊢
  rw [if_pos (wanted_none rfl _)] at h1
  rw [if_pos (by simp [Region.wanted, yielded_of hF hj hl])]
  exact h1
theorem WL_pass {d' : Nat} {op : Op} {ty : TypeId} {pos : String} {af : Array Edge} {j d : Nat} {b b' : Bool} (hj : (ops[j]?).bind (·.dst) = some d) (hl : lk L d = some (.bool b')) (hb : (b' == b) = false)
    (hd : Nat.blt d' n = true) (h : WL P ops Q rest n s m R ((d', undef) :: L)) : WL P ops Q (⟨some d', op, ty, pos, af, some (j, b)⟩ :: rest) n s m R L := fun a w hF hS => by
  unfold wpList
  rw [if_neg (by simp [Region.wanted, yielded_of hF hj hl]; simpa using hb)]
  exact h _ _ (hF.put hd undef) hS
theorem CW_seq {x y : Code} (h : CW P x (Exit.then (fun a w => y.wp P Q a w) Q) n s m R L) : CW P (.seq x y) Q n s m R L := fun a w hF hS => wp_seq (h a w hF hS)
theorem CW_region {id : Nat} {l : List Oper} (h : WL P l.toArray Q l n s m R L) : CW P (.region id l.toArray false) Q n s m R L := fun a w hF hS => wp_region_lit (h a w hF hS)
theorem WL_nil (h : ∀ a w, Fr n L a → St s m R w → Q .normal a w) : WL P ops Q [] n s m R L := fun a w hF hS => wpList_nil (h a w hF hS)
theorem CW_skip (h : ∀ a w, Fr n L a → St s m R w → Q .normal a w) : CW P .skip Q n s m R L := fun a w hF hS => wp_skip (h a w hF hS)
theorem CW_exit {id : Nat} (h : ∀ a w, Fr n L a → St s m R w → Q (.exit id) a w) : CW P (.exit id) Q n s m R L := fun a w hF hS => wp_exit (h a w hF hS)
theorem CW_block {id : Nat} {c : Code} (h : CW P c (Exit.inBlock id Q) n s m R L) : CW P (.block id c) Q n s m R L := fun a w hF hS => wp_block (h a w hF hS)
theorem CW_cond {c : Operand} {x y : Code} {t : Bool} (hc : ev L c = some (.bool t)) (ht : t = true → CW P x Q n s m R L) (hf : t = false → CW P y Q n s m R L) : CW P (.cond c x y) Q n s m R L := fun a w hF hS =>
  wp_cond_split (hF.eval hc) (fun h => ht h a w hF hS) (fun h => hf h a w hF hS)
theorem CW_ret (h : ∀ a w, Fr n L a → St s m R w → Q .ret a w) : CW P .ret Q n s m R L := fun a w hF hS => wp_ret (h a w hF hS)
theorem ret1 {fn : Func} {Rp : Ending → World → Prop} {a : Act} {w : World} {t : Nat} {v : Value} (hF : Fr n L a) (hr : fn.results = #[.tmp t]) (hl : lk L t = some v) (h : Rp (.returned v) w) : bodyPost P fn Rp .ret a w :=
  ⟨hF.defers, v, by rw [results_tmp hr]; rw [Array.getD_eq_getD_getElem?, hF.get t v hl]; rfl, h⟩
theorem ret2 {fn : Func} {Rp : Ending → World → Prop} {a : Act} {w : World} {t t' : Nat} {v v' : Value} (hF : Fr n L a) (hr : fn.results = #[.tmp t, .tmp t']) (hl : lk L t = some v) (hl' : lk L t' = some v') (h : Rp (.returned (.tuple #[v, v'])) w) : bodyPost P fn Rp .ret a w :=
  ⟨hF.defers, _, by rw [results_tmp2 hr]; rw [Array.getD_eq_getD_getElem?, Array.getD_eq_getD_getElem?, hF.get t v hl, hF.get t' v' hl']; rfl, h⟩
theorem enter {f : FuncId} {fn : Func} {c : Code} {vs : List Value} {w : World} {Rp : Ending → World → Prop} {N : Nat} (hf : P.funcs[f]? = some fn) (hb : fn.body = some c) (hn : fn.ntmps = N) (hl : Nat.ble vs.length N = true)
    (hpre : Pre m R w) (h : CW P c (bodyPost P fn Rp) N ⟨w, m, keys R⟩ m R (args0 0 vs)) : Calls P f vs.toArray w Rp :=
  calls_of_wp hf hb (by rw [hn]; exact h _ _ (Fr.enter vs N (Nat.le_of_ble_eq_true hl)) hpre.start)
theorem CW_label {l : Nat} (h : ∀ a w, Fr n L a → St s m R w → Q .normal a w) : CW P (.label l) Q n s m R L := fun a w hF hS => wp_label (h a w hF hS)
theorem CW_goto {l : Nat} (h : ∀ a w, Fr n L a → St s m R w → Q (.goto l) a w) : CW P (.goto l) Q n s m R L := fun a w hF hS => wp_goto (h a w hF hS)
end
def Qt (P : Program) (o : Oper) (n : Nat) (m : Imm) (R : List Res) (L : Loc) (v : Value) : Prop :=
  ∀ a w, Fr n L a → Pre m R w → o.quietAt P a (Evolve w) w v
section
variable {P : Program} {ops : Array Oper} {Q : Post} {rest : List Oper} {n : Nat} {s : Start} {m : Imm} {R : List Res} {L : Loc}
variable {dst : Option Nat} {ty : TypeId} {pos : String} {af : Array Edge} {g : Option (Nat × Bool)} {x y : Operand}
theorem Qt.of {o : Oper} {v : Value} (h : ∀ a w, Fr n L a → Pre m R w → (execOp a.eval o).run P w = .ok (.value v) w) : Qt P o n m R L v := fun a w hF hp => by
  unfold Oper.quietAt
  rw [h a w hF hp]
  exact ⟨rfl, rfl⟩
theorem W_q {d : Nat} {op : Op} {v : Value} (h : Qt P ⟨some d, op, ty, pos, af, none⟩ n m R L v) (hd : Nat.blt d n = true) (next : WL P ops Q rest n s m R ((d, v) :: L)) :
    WL P ops Q (⟨some d, op, ty, pos, af, none⟩ :: rest) n s m R L := fun a w hF hS =>
  wpList_go (wanted_none rfl _) (by
    have h1 := h a w hF hS.toPre
    unfold Oper.quietAt at h1
    unfold Oper.wp
    generalize (execOp a.eval ⟨some d, op, ty, pos, af, none⟩).run P w = r at *
    cases r with
    | ok n' w' =>
      cases n' <;> simp only [Oper.quietUpon] at h1 <;> simp only [Oper.upon]
      case value u => obtain ⟨e1, e2⟩ := h1; subst e1 e2; exact next _ _ (hF.put hd _) hS
      case skip => obtain ⟨e1, e2⟩ := h1; subst e1 e2; exact next _ _ (hF.put hd _) hS
      case enter f args =>
        obtain ⟨e1, hc⟩ := h1
        subst e1
        exact hc.mono fun e w'' ⟨he, hw''⟩ => by subst he; exact next _ _ (hF.put hd _) (hS.evolve hw'')
    | halt z w' => simp only [Oper.quietUpon] at h1)
theorem Fr.know {a : Act} {v : Value} (h : Fr n L a) {t : Nat} (hl : lk L t = some v) : Fr n ((t, v) :: L) a := ⟨h.size, h.defers, fun u z hu => by
  simp only [lk] at hu
  cases hb : Nat.beq t u with
  | true => rw [hb] at hu; obtain rfl : t = u := Nat.eq_of_beq_eq_true hb; simp only [Option.some.injEq] at hu; subst hu; exact h.get _ _ hl
  | false => rw [hb] at hu; exact h.get u z hu⟩
theorem WL_split {t : Nat} {c : Bool} (hl : lk L t = some (.bool c)) (ht : c = true → WL P ops Q rest n s m R ((t, .bool true) :: L)) (hf : c = false → WL P ops Q rest n s m R ((t, .bool false) :: L)) : WL P ops Q rest n s m R L := fun a w hF hS => by
  cases c with
  | true => exact ht rfl a w (hF.know hl) hS
  | false => exact hf rfl a w (hF.know hl) hS
theorem r_move {v : Value} (hx : ev L x = some v) : Qt P ⟨dst, .move x, ty, pos, af, g⟩ n m R L v := .of fun a w hF _ => by simp [execOp, hF.eval hx]
theorem r_assign {v : Value} (hx : ev L x = some v) : Qt P ⟨dst, .assign x, ty, pos, af, g⟩ n m R L v := .of fun a w hF _ => by simp [execOp, hF.eval hx]
theorem r_pick_t {c p q : Operand} {v : Value} (hc : ev L c = some (.bool true)) (hp : ev L p = some v) : Qt P ⟨dst, .pick c p q, ty, pos, af, g⟩ n m R L v :=
  .of fun a w hF _ => by simp [execOp, hF.eval hc, hF.eval hp, asBool]
theorem r_pick_f {c p q : Operand} {v : Value} (hc : ev L c = some (.bool false)) (hq : ev L q = some v) : Qt P ⟨dst, .pick c p q, ty, pos, af, g⟩ n m R L v :=
  .of fun a w hF _ => by simp [execOp, hF.eval hc, hF.eval hq, asBool]
theorem r_extract {vs : Array Value} {i : Nat} {v : Value} (hx : ev L x = some (.tuple vs)) (hi : vs[i]? = some v) : Qt P ⟨dst, .extract x i, ty, pos, af, g⟩ n m R L v :=
  .of fun a w hF _ => by simp [execOp, hF.eval hx, Instr.extract, hi]
theorem r_nilCheck {p : Addr} (hx : ev L x = some (.pointer (some p))) : Qt P ⟨dst, .nilCheck x, ty, pos, af, g⟩ n m R L (.pointer (some p)) := .of fun a w hF _ => by simp [execOp, hF.eval hx]
theorem r_not {b : Bool} {T : TypeId} (hx : ev L x = some (.bool b)) : Qt P ⟨dst, .unOp .not T x, ty, pos, af, g⟩ n m R L (.bool (!b)) := .of fun a w hF _ => by simp [execOp, hF.eval hx, Op.unary]
theorem r_bin {k : IntKind} {i j : Int} {op : BinOp} {T T' : TypeId} {v : Value} (hx : ev L x = some (.int k i)) (hy : ev L y = some (.int k j)) (h : ∀ w, (binOp op T (.int k i) (.int k j)).run P w = .ok v w) : Qt P ⟨dst, .binOp op T x y T', ty, pos, af, g⟩ n m R L v :=
  .of fun a w hF _ => by
    have hg : ∀ op, (eqGuard op T x y (.int k i) (.int k j)).run P w = .ok () w := by intro op; unfold eqGuard; split <;> simp
    simp [execOp, hF.eval hx, hF.eval hy, hg, h]
theorem bin_add (k : IntKind) (T : TypeId) (i j : Int) (w : World) : (binOp .add T (.int k i) (.int k j)).run P w = .ok (.int k (k.wrap (i + j))) w := by simp [binOp, Op.intArith]
theorem bin_sub (k : IntKind) (T : TypeId) (i j : Int) (w : World) : (binOp .sub T (.int k i) (.int k j)).run P w = .ok (.int k (k.wrap (i - j))) w := by simp [binOp, Op.intArith]
theorem bin_mul (k : IntKind) (T : TypeId) (i j : Int) (w : World) : (binOp .mul T (.int k i) (.int k j)).run P w = .ok (.int k (k.wrap (i * j))) w := by simp [binOp, Op.intArith]
theorem bin_lss (k : IntKind) (T : TypeId) (i j : Int) (w : World) : (binOp .lss T (.int k i) (.int k j)).run P w = .ok (.bool (decide (i < j))) w := by simp [binOp, Op.intCmp]
theorem bin_leq (k : IntKind) (T : TypeId) (i j : Int) (w : World) : (binOp .leq T (.int k i) (.int k j)).run P w = .ok (.bool (decide (i ≤ j))) w := by simp [binOp, Op.intCmp]
theorem bin_gtr (k : IntKind) (T : TypeId) (i j : Int) (w : World) : (binOp .gtr T (.int k i) (.int k j)).run P w = .ok (.bool (decide (j < i))) w := by simp [binOp, Op.intCmp]
theorem bin_geq (k : IntKind) (T : TypeId) (i j : Int) (w : World) : (binOp .geq T (.int k i) (.int k j)).run P w = .ok (.bool (decide (j ≤ i))) w := by simp [binOp, Op.intCmp]
theorem bin_eql (k : IntKind) (T : TypeId) (i j : Int) (w : World) : (binOp .eql T (.int k i) (.int k j)).run P w = .ok (.bool (i == j)) w := by simp [binOp, Op.intCmp]
theorem bin_neq (k : IntKind) (T : TypeId) (i j : Int) (w : World) : (binOp .neq T (.int k i) (.int k j)).run P w = .ok (.bool (i != j)) w := by simp [binOp, Op.intCmp]
theorem r_binv {op : BinOp} {T T' : TypeId} {v u z : Value} (hx : ev L x = some v) (hy : ev L y = some u) (hg : ∀ w, (eqGuard op T x y v u).run P w = .ok () w) (h : ∀ w, (binOp op T v u).run P w = .ok z w) : Qt P ⟨dst, .binOp op T x y T', ty, pos, af, g⟩ n m R L z :=
  .of fun a w hF _ => by simp only [execOp, hF.eval hx, hF.eval hy, Sem.run_bind, hg, h, Result.andThen_ok]; rfl
theorem guard_bool (op : BinOp) (T : TypeId) (p q : Bool) (w : World) : (eqGuard op T x y (.bool p) (.bool q)).run P w = .ok () w := by unfold eqGuard; split <;> simp
theorem r_booleql {T T' : TypeId} {p q : Bool} (hx : ev L x = some (.bool p)) (hy : ev L y = some (.bool q)) (hT : P.underlying T = some .bool) : Qt P ⟨dst, .binOp .eql T x y T', ty, pos, af, g⟩ n m R L (.bool (p == q)) :=
  r_binv hx hy (guard_bool _ _ _ _) (fun w => run_eql_bool w T p q hT)
theorem r_boolneq {T T' : TypeId} {p q : Bool} (hx : ev L x = some (.bool p)) (hy : ev L y = some (.bool q)) (hT : P.underlying T = some .bool) : Qt P ⟨dst, .binOp .neq T x y T', ty, pos, af, g⟩ n m R L (.bool (p != q)) :=
  r_binv hx hy (guard_bool _ _ _ _) (fun w => run_neq_bool w T p q hT)
theorem r_conv {S T : TypeId} {k k' : IntKind} {i : Int} {du : TypeDesc} (hs : P.underlying S = some du) (ht : P.underlying T = some (.int k')) (hx : ev L x = some (.int k i)) : Qt P ⟨dst, .convert S T x, ty, pos, af, g⟩ n m R L (.int k' (k'.wrap i)) :=
  .of fun a w hF _ => by simp [execOp, hF.eval hx, convert, run_underlying hs, run_underlying ht, Conv.intToInt]
theorem r_len {T E : TypeId} {A : Option Addr} {k c : Nat} (hT : P.underlying T = some (.slice E)) (hx : ev L x = some (.slice A k c)) : Qt P ⟨dst, .call ⟨.builtin .len, #[x], #[T]⟩, ty, pos, af, g⟩ n m R L (.int .i64 (k : Int)) :=
  .of fun a w hF _ => by simp [execOp, resolve, invoke, builtin, hF.eval hx, Builtin.len_, run_underlying hT, goInt]
theorem r_makeFunc {fn : Fn} {first cap : List Operand} {v1 v2 : List Value} (h1 : evs L first = some v1) (h2 : evs L cap = some v2) : Qt P ⟨dst, .makeFunc fn first.toArray cap.toArray, ty, pos, af, g⟩ n m R L (.func fn v1.toArray v2.toArray) :=
  .of fun a w hF _ => by simp [execOp, Instr.makeFunc, hF.evals h1, hF.evals h2]
end
section
variable {P : Program} {md : Region.Mode} {ops : Array Oper} {Q : Post} {D : World → Prop}
def AnyE (P : Program) (md : Region.Mode) (ops : Array Oper) (Q : Post) (D : World → Prop) : Nat → Array Bool → Act → World → Prop
  | 0, listed, a, w => ∀ w', Evolve w w' → Region.ready md ops listed = [] ∧ Q .normal a w'
  | fuel + 1, listed, a, w => ∀ w', Evolve w w' → (Region.ready md ops listed = [] → Q .normal a w') ∧
    ∀ i ∈ Region.ready md ops listed, wpOp P ops Q i (fun a1 w1 => D w1 ∧ AnyE P md ops Q D fuel (listed.setIfInBounds i true) a1 w1) a w'
theorem AnyE.any : ∀ {fuel : Nat} {listed : Array Bool} {a : Act} {w : World}, AnyE P md ops Q D fuel listed a w → wpAny P md ops Q fuel listed a w
  | 0, _, _, w, h => h w (Evolve.refl w)
  | fuel + 1, _, _, w, h => ⟨(h w (Evolve.refl w)).1, fun i hi => wpOp_mono (fun a' w' h' => AnyE.any h'.2) ((h w (Evolve.refl w)).2 i hi)⟩
theorem AnyE.evolve : ∀ {fuel : Nat} {listed : Array Bool} {a : Act} {w w' : World}, AnyE P md ops Q D fuel listed a w → Evolve w w' → AnyE P md ops Q D fuel listed a w'
  | 0, _, _, _, _, h, he => fun w'' he' => h w'' (he.trans he')
  | _ + 1, _, _, _, _, h, he => fun w'' he' => h w'' (he.trans he')
def YieldsE (P : Program) (ops : Array Oper) (D : World → Prop) (o : Oper) (v : Value) (a : Act) : Prop :=
  (Region.wanted o (yielded ops a.tmps) = true ∧ ∀ w, D w → o.quietAt P a (Evolve w) w v) ∨
  (Region.wanted o (yielded ops a.tmps) = false ∧ v = undef)
theorem YieldsE.wpOp {i : Nat} {o : Oper} {v : Value} {a : Act} (hi : ops[i]? = some o) (hy : YieldsE P ops D o v a) {K : Act → World → Prop} {w : World} (hD : D w) (h : ∀ w', Evolve w w' → K (a.put o.dst v) w') : wpOp P ops Q i K a w := by
  unfold Go.wpOp
  simp only [hi]
  rcases hy with ⟨hw, hv⟩ | ⟨hw, rfl⟩
  · simp only [hw, if_true]
    refine .inl ?_
    have h1 := hv w hD
    unfold Oper.quietAt at h1
    unfold Oper.wp
    generalize (execOp a.eval o).run P w = r at *
    cases r with
    | ok n' w' =>
      cases n' <;> simp only [Oper.quietUpon] at h1 <;> simp only [Oper.upon]
      case value u => obtain ⟨e1, e2⟩ := h1; subst e1 e2; exact h _ (Evolve.refl _)
      case skip => obtain ⟨e1, e2⟩ := h1; subst e1 e2; exact h _ (Evolve.refl _)
      case enter f args =>
        obtain ⟨e1, hc⟩ := h1
        subst e1
        exact hc.mono fun e w'' ⟨he, hw''⟩ => by subst he; exact h _ hw''
    | halt z w' => simp only [Oper.quietUpon] at h1
  · simp only [hw, Bool.false_eq_true, if_false]; exact h _ (Evolve.refl _)
theorem YieldsE.of_same {o : Oper} {v : Value} {a a' : Act} (hy : YieldsE P ops D o v a) (he : execOp a'.eval o = execOp a.eval o)
    (hw : Region.wanted o (yielded ops a'.tmps) = Region.wanted o (yielded ops a.tmps)) : YieldsE P ops D o v a' := by
  unfold YieldsE Oper.quietAt at *
  rw [he, hw]
  exact hy
theorem wpOp_putE {j : Nat} {oi oj : Oper} {v : Value} (hj : ops[j]? = some oj) (hap : oi.apart ops oj = true)
    (hsi : ∀ cs b, oi.op ≠ .select cs b) (hsj : ∀ cs b, oj.op ≠ .select cs b)
    (hQ : ∀ c a w, Q (.panic c) (a.put oi.dst v) w → Q (.panic c) a w) {K : Act → World → Prop} {a : Act} {w : World}
    (hy : YieldsE P ops D oi v a) (h : Go.wpOp P ops Q j K (a.put oi.dst v) w) :
    Go.wpOp P ops Q j (fun a' w' => YieldsE P ops D oi v a' ∧ K (a'.put oi.dst v) w') a w := by
  obtain ⟨h1, h2, h3⟩ := Oper.apart_spec hap
  have keep : ∀ (a : Act), YieldsE P ops D oi v a → ∀ u, YieldsE P ops D oi v (a.put oj.dst u) := fun a hy u =>
    hy.of_same (execOp_put oi hsi a oj.dst u h3) (wanted_put oi a oj.dst u h3)
  have keepD : ∀ d, YieldsE P ops D oi v { a with defers := d :: a.defers } := fun d => hy.of_same rfl rfl
  unfold Go.wpOp at *
  simp only [hj] at *
  rw [wanted_put oj a oi.dst v h1] at h
  split
  · rename_i hw
    simp only [hw, if_true] at h
    rcases h with h | ⟨hasks, hlets⟩
    case inr => exact .inr ⟨by unfold Oper.asks at *; rw [execOp_put oj hsj a oi.dst v h1] at hasks; exact hasks, hlets⟩
    refine .inl ?_
    unfold Oper.wp at *
    rw [execOp_put oj hsj a oi.dst v h1] at h
    generalize (execOp a.eval oj).run P w = r at *
    cases r with
    | ok n w' =>
      cases n <;> simp only [Oper.upon] at h ⊢
      case value u => exact ⟨keep a hy u, by rw [← Act.put_comm a v u h2]; exact h⟩
      case skip => exact ⟨keep a hy _, by rw [← Act.put_comm a v undef h2]; exact h⟩
      case defer d =>
        refine ⟨keep _ (keepD d) _, ?_⟩
        rw [← Act.put_comm _ v undef h2, ← Act.put_defers]
        exact h
      case enter f args =>
        refine Calls.mono h fun e w'' he => ?_
        cases e with
        | returned u => exact ⟨keep a hy u, by rw [← Act.put_comm a v u h2]; exact he⟩
        | panicked c => exact hQ _ _ _ he
        | outgrown => exact he
      case row row args => exact Rows.mono h fun u w'' he => ⟨keep a hy u, by rw [← Act.put_comm a v u h2]; exact he⟩
    | halt x w' =>
      cases x <;> simp only [Oper.upon] at h ⊢
      case panic u => exact hQ _ _ _ h
  · rename_i hw
    simp only [hw] at h
    exact ⟨keep a hy _, by rw [← Act.put_comm a v undef h2]; exact h⟩
theorem AnyE_first {i : Nat} {oi : Oper} {v : Value} (hD : ∀ w w', D w → Evolve w w' → D w') (hi : ops[i]? = some oi) (hsel : ∀ (j : Nat) (o : Oper) cs b, ops[j]? = some o → o.op ≠ .select cs b)
    (hQ : ∀ c a w, Q (.panic c) (a.put oi.dst v) w → Q (.panic c) a w) :
    ∀ (fuel : Nat) (listed : Array Bool) (a : Act) (w : World),
      (∀ j oj, ops[j]? = some oj → j ≠ i → listed.getD j true = false → (∀ e ∈ oj.after, Region.binds md e = true → e.on ≠ i) → oi.apart ops oj = true) →
      i ∈ Region.ready md ops listed → YieldsE P ops D oi v a → D w →
      AnyE P md ops Q D fuel (listed.setIfInBounds i true) (a.put oi.dst v) w → AnyE P md ops Q D (fuel + 1) listed a w := by
  intro fuel
  induction fuel with
  | zero =>
    intro listed a w _ hr hy hS H w' hev
    refine ⟨fun h => (by rw [h] at hr; cases hr), fun j hj => ?_⟩
    by_cases hji : j = i
    · subst hji; exact hy.wpOp hi (hD _ _ hS hev) (fun w'' he => ⟨hD _ _ hS (hev.trans he), H.evolve (hev.trans he)⟩)
    · have := ready_mono hj hji
      rw [(H w (Evolve.refl w)).1] at this
      cases this
  | succ fuel ih =>
    intro listed a w hfree hr hy hS H w' hev
    refine ⟨fun h => (by rw [h] at hr; cases hr), fun j hj => ?_⟩
    by_cases hji : j = i
    · subst hji; exact hy.wpOp hi (hD _ _ hS hev) (fun w'' he => ⟨hD _ _ hS (hev.trans he), H.evolve (hev.trans he)⟩)
    · have h1 := (H w' hev).2 j (ready_mono hj hji)
      obtain ⟨hjun, oj, hoj, hall⟩ := mem_ready.1 hj
      have hnot : ∀ e ∈ oj.after, Region.binds md e = true → e.on ≠ i := fun e he hb heq => by
        have h1 := hall e he hb
        have h0 := (mem_ready.1 hr).1
        rw [heq] at h1
        rcases Nat.lt_or_ge i listed.size with h' | h'
        · simp [h'] at h0 h1; rw [h0] at h1; cases h1
        · simp [Array.getElem?_eq_none h'] at h1
      have h2 := wpOp_putE hoj (hfree j oj hoj hji hjun hnot) (fun cs b => hsel i oi cs b hi) (fun cs b => hsel j oj cs b hoj) hQ hy h1
      have hfree' : ∀ k ok, ops[k]? = some ok → k ≠ i → (listed.setIfInBounds j true).getD k true = false →
          (∀ e ∈ ok.after, Region.binds md e = true → e.on ≠ i) → oi.apart ops ok = true := fun k ok hk hki hun hno => by
        refine hfree k ok hk hki ?_ hno
        by_cases hjk : j = k
        · subst hjk; exact hjun
        · rw [getD_set_ne true hjk] at hun; exact hun
      refine wpOp_mono (fun a1 w1 h3 => ⟨h3.2.1, ih (listed.setIfInBounds j true) a1 w1 hfree' (ready_mono hr (Ne.symm hji)) h3.1 h3.2.1 ?_⟩) h2
      rw [Array.setIfInBounds_comm _ _ hji]
      exact h3.2.2
end
def chkOrd (ops : Array Oper) : Array Bool → List (Nat × Bool) → Bool
  | listed, [] => (Region.ready .any ops listed).isEmpty
  | listed, (i, q) :: r => (if q then Region.free .any ops listed i && (Region.ready .any ops listed).contains i else Region.ready .any ops listed == [i]) && chkOrd ops (listed.setIfInBounds i true) r
def Nrm (Q : Post) : Post
  | .normal, a, w => Q .normal a w
  | _, _, _ => False
section
variable {P : Program} {ops : Array Oper} {Q : Post} {n : Nat} {s : Start} {m m0 : Imm} {R R0 : List Res} {L : Loc} {listed : Array Bool} {ord : List (Nat × Bool)}
def DL (P : Program) (ops : Array Oper) (Q : Post) (m0 : Imm) (R0 : List Res) (listed : Array Bool) (ord : List (Nat × Bool)) (n : Nat) (s : Start) (m : Imm) (R : List Res) (L : Loc) : Prop :=
  Region.noSelect ops = true → chkOrd ops listed ord = true → ∀ a w, Fr n L a → St s m R w → Pre m0 R0 w → AnyE P .any ops (Nrm Q) (Pre m0 R0) ord.length listed a w
theorem C_drawn {id : Nat} {l : List Oper} (ord : List (Nat × Bool)) (hm : P.follows .mixedOrders = true) (hl : ord.length = l.length) (hs : Region.noSelect l.toArray = true) (hc : chkOrd l.toArray (Array.replicate l.length false) ord = true)
    (h : DL P l.toArray Q m R (Array.replicate l.length false) ord n s m R L) : CW P (.region id l.toArray true) Q n s m R L := fun a w hF hS => by
  refine wp_mono (Q := Nrm Q) (wp_region_any hm ?_) (fun e a w q => by cases e <;> first | exact q | exact q.elim)
  have h1 := h hs hc a { w with drawn := w.drawn + 1 } hF (hS.evolve (Evolve.drew w)) (hS.evolve (Evolve.drew w)).toPre
  rw [hl] at h1
  simpa using h1.any
theorem C_drawnk {id : Nat} {l : List Oper} (k : Nat) (ord : List (Nat × Bool)) (hm : P.follows .mixedOrders = true) (hl : ord.length = l.length) (hs : Region.noSelect l.toArray = true) (hc : chkOrd l.toArray (Array.replicate l.length false) ord = true)
    (h : DL P l.toArray Q m (R.drop k) (Array.replicate l.length false) ord n s m R L) : CW P (.region id l.toArray true) Q n s m R L := fun a w hF hS => by
  refine wp_mono (Q := Nrm Q) (wp_region_any hm ?_) (fun e a w q => by cases e <;> first | exact q | exact q.elim)
  have h1 := h hs hc a { w with drawn := w.drawn + 1 } hF (hS.evolve (Evolve.drew w)) ((hS.evolve (Evolve.drew w)).toPre.sub (List.drop_sublist k R))
  rw [hl] at h1
  simpa using h1.any
theorem D_yields {i : Nat} {o : Oper} {v : Value} (hi : ops[i]? = some o) (hy : ∀ a w, Fr n L a → St s m R w → YieldsE P ops (Pre m0 R0) o v a) {L' : Loc} (hL : ∀ a, Fr n L a → Fr n L' (a.put o.dst v))
    (next : DL P ops Q m0 R0 (listed.setIfInBounds i true) ord n s m R L') : DL P ops Q m0 R0 listed ((i, true) :: ord) n s m R L := fun hs hc a w hF hS hp => by
  simp only [chkOrd, if_true, Bool.and_eq_true] at hc
  refine AnyE_first (fun w w' hw he => hw.evolve he) hi (Region.noSelect_spec hs) (fun c a w h => h.elim) ord.length listed a w (Region.free_spec hi hc.1.1) (by simpa using hc.1.2) (hy a w hF hS) hp ?_
  exact next hs hc.2 _ _ (hL a hF) hS hp
theorem D_q {i d : Nat} {op : Op} {ty : TypeId} {pos : String} {af : Array Edge} {v : Value} (hi : ops[i]? = some ⟨some d, op, ty, pos, af, none⟩) (h : Qt P ⟨some d, op, ty, pos, af, none⟩ n m0 R0 L v) (hd : Nat.blt d n = true)
    (next : DL P ops Q m0 R0 (listed.setIfInBounds i true) ord n s m R ((d, v) :: L)) : DL P ops Q m0 R0 listed ((i, true) :: ord) n s m R L :=
  D_yields hi (fun a w hF _ => .inl ⟨wanted_none rfl _, fun w' hp => h a w' hF hp⟩) (fun a hF => hF.put hd v) next
theorem D_qt {i d : Nat} {op : Op} {ty : TypeId} {pos : String} {af : Array Edge} {v : Value} {j t : Nat} {b : Bool} (hi : ops[i]? = some ⟨some d, op, ty, pos, af, some (j, b)⟩) (hj : (ops[j]?).bind (·.dst) = some t) (hl : lk L t = some (.bool b))
    (h : Qt P ⟨some d, op, ty, pos, af, some (j, b)⟩ n m0 R0 L v) (hd : Nat.blt d n = true)
    (next : DL P ops Q m0 R0 (listed.setIfInBounds i true) ord n s m R ((d, v) :: L)) : DL P ops Q m0 R0 listed ((i, true) :: ord) n s m R L :=
  D_yields hi (fun a w hF _ => .inl ⟨by simp [Region.wanted, yielded_of hF hj hl], fun w' hp => h a w' hF hp⟩) (fun a hF => hF.put hd v) next
theorem D_pass {i d : Nat} {op : Op} {ty : TypeId} {pos : String} {af : Array Edge} {j t : Nat} {b b' : Bool} (hi : ops[i]? = some ⟨some d, op, ty, pos, af, some (j, b)⟩) (hj : (ops[j]?).bind (·.dst) = some t) (hl : lk L t = some (.bool b')) (hb : (b' == b) = false) (hd : Nat.blt d n = true)
    (next : DL P ops Q m0 R0 (listed.setIfInBounds i true) ord n s m R ((d, undef) :: L)) : DL P ops Q m0 R0 listed ((i, true) :: ord) n s m R L :=
  D_yields hi (fun a w hF _ => .inr ⟨by simp [Region.wanted, yielded_of hF hj hl]; simpa using hb, rfl⟩) (fun a hF => hF.put hd undef) next
theorem D_split {t : Nat} {c : Bool} (hl : lk L t = some (.bool c)) (ht : c = true → DL P ops Q m0 R0 listed ord n s m R ((t, .bool true) :: L)) (hf : c = false → DL P ops Q m0 R0 listed ord n s m R ((t, .bool false) :: L)) : DL P ops Q m0 R0 listed ord n s m R L := fun hs hc a w hF hS hp => by
  cases c with
  | true => exact ht rfl hs hc a w (hF.know hl) hS hp
  | false => exact hf rfl hs hc a w (hF.know hl) hS hp
def Left (P : Program) (ops : Array Oper) (Q : Post) (m0 : Imm) (R0 : List Res) (listed : Array Bool) (ord : List (Nat × Bool)) : Post
  | .normal, a, w => ∀ w', Evolve w w' → Pre m0 R0 w' ∧ AnyE P .any ops (Nrm Q) (Pre m0 R0) ord.length listed a w'
  | _, _, _ => False
theorem D_f {i : Nat} {o : Oper} (hi : ops[i]? = some o) (h : Region.noSelect ops = true → chkOrd ops (listed.setIfInBounds i true) ord = true → WL P ops (Left P ops Q m0 R0 (listed.setIfInBounds i true) ord) [o] n s m R L) : DL P ops Q m0 R0 listed ((i, false) :: ord) n s m R L := fun hs hc a w hF hS hp => by
  simp only [chkOrd, Bool.false_eq_true, if_false, Bool.and_eq_true, beq_iff_eq] at hc
  intro w' hev
  refine ⟨fun h0 => (by rw [hc.1] at h0; cases h0), fun j hj => ?_⟩
  rw [hc.1] at hj
  obtain rfl : j = i := by simpa using hj
  have h1 := h hs hc.2 a w' hF (hS.evolve hev)
  unfold wpOp
  simp only [hi]
  unfold wpList at h1
  split
  · rename_i hw
    rw [if_pos hw] at h1
    rcases h1 with h1 | ⟨_, a0, w0, hf⟩
    · refine .inl ?_
      unfold Oper.wp at *
      generalize (execOp a.eval o).run P w' = r at *
      cases r with
      | ok n' w'' =>
        cases n' <;> simp only [Oper.upon] at h1 ⊢
        case value u => exact h1 _ (Evolve.refl _)
        case skip => exact h1 _ (Evolve.refl _)
        case defer d => exact h1 _ (Evolve.refl _)
        case enter f args =>
          refine Calls.mono h1 fun e w3 he => ?_
          cases e with
          | returned u => exact he _ (Evolve.refl _)
          | panicked c => exact he.elim
          | outgrown => obtain ⟨_, _, hf⟩ := he; exact hf.elim
        case row row args => exact Rows.mono h1 fun u w3 he => he _ (Evolve.refl _)
      | halt z w'' => cases z <;> simp only [Oper.upon] at h1 ⊢; exact h1.elim
    · exact hf.elim
  · rename_i hw
    rw [if_neg hw] at h1
    exact h1 _ (Evolve.refl _)
theorem W_left (hs : Region.noSelect ops = true) (hc : chkOrd ops listed ord = true) (hp : ∀ w, St s m R w → Pre m0 R0 w) (h : DL P ops Q m0 R0 listed ord n s m R L) : WL P ops (Left P ops Q m0 R0 listed ord) [] n s m R L :=
  WL_nil fun a w hF hS w' hev => ⟨hp _ (hS.evolve hev), h hs hc a w' hF (hS.evolve hev) (hp _ (hS.evolve hev))⟩
theorem Pre.weak {w : World} (h : Pre m R w) (hm : m0.le m) (hs : R0.Sublist R) : Pre m0 R0 w :=
  ⟨fun b o hb => h.inW b o (hm b o hb), fun r hr => h.holds r (hs.subset hr), fun r hr k hk => by
    have h1 := h.apart r (hs.subset hr) k hk
    cases h2 : m0 k with
    | none => rfl
    | some o => rw [hm k o h2] at h1; exact absurd h1 (by simp), h.pair.sublist hs⟩
theorem W_leftw (hs : Region.noSelect ops = true) (hc : chkOrd ops listed ord = true) (hm : m0.le m) (hR : R0.Sublist R) (h : DL P ops Q m0 R0 listed ord n s m R L) : WL P ops (Left P ops Q m0 R0 listed ord) [] n s m R L := W_left hs hc (fun _ hw => hw.toPre.weak hm hR) h
theorem D_nil (h : ∀ a w, Fr n L a → St s m R w → Q .normal a w) : DL P ops Q m0 R0 listed [] n s m R L := fun hs hc a w hF hS hp => by
  have hr : Region.ready .any ops listed = [] := by simpa [chkOrd] using hc
  exact fun w' hev => ⟨hr, h a w' hF (hS.evolve hev)⟩
end
def agg? (P : Program) (T : TypeId) : Option Bool :=
  match P.underlying T with
  | some (.struct _) | some (.array _ _) => some true
  | some _ => some false
  | none => none
def sz? (P : Program) (T : TypeId) : Option Nat := (P.info? T).map (·.size)
def byt? (P : Program) (T : TypeId) : Option Nat := (P.info? T).map (·.bytes)
def zero? (P : Program) (T : TypeId) : Option Value := (P.info? T).bind (·.zero)
def fld? (P : Program) (S f : Nat) : Option (Nat × Nat) :=
  match P.underlying S with
  | some (.struct fs) => (fs[f]?).bind fun x => (sz? P x.type).map fun k => (x.offset, k)
  | _ => none
section
variable {P : Program} {w : World}
theorem run_isAgg_of {T : TypeId} {b : Bool} (h : agg? P T = some b) (w : World) : (isAgg T).run P w = .ok b w := by
  unfold agg? at h
  split at h
  · rename_i fs hu; simp only [Option.some.injEq] at h; subst h; simp [isAgg, run_underlying hu]
  · rename_i k e hu; simp only [Option.some.injEq] at h; subst h; simp [isAgg, run_underlying hu]
  · rename_i d hd hs ha
    simp only [Option.some.injEq] at h; subst h
    simp only [isAgg, Sem.run_bind, run_underlying ha, Result.andThen_ok]
    cases d <;> first | rfl | exact absurd ha (hd _) | exact absurd ha (hs _ _)
  · cases h
theorem run_sizeOf_of {T k : Nat} (h : sz? P T = some k) (w : World) : (sizeOf T).run P w = .ok k w := by
  unfold sz? at h
  cases hi : P.info? T with
  | none => rw [hi] at h; cases h
  | some i => rw [hi] at h; simp only [Option.map_some, Option.some.injEq] at h; simp [sizeOf, typeInfo, hi, h]
theorem run_zero_of {T : Nat} {v : Value} (h : zero? P T = some v) (w : World) : (zeroValue T).run P w = .ok v w := by
  unfold zero? at h
  cases hi : P.info? T with
  | none => rw [hi] at h; cases h
  | some i => rw [hi] at h; simp only [Option.bind_some] at h; simp [zeroValue, typeInfo, hi, h]
theorem run_fieldAt_of {S f off k : Nat} {p : Addr} (h : fld? P S f = some (off, k + 1)) (w : World) : (Instr.fieldAt S (.pointer (some p)) f).run P w = .ok (.pointer (some (p.add off))) w := by
  unfold fld? at h
  split at h
  · rename_i fs hu
    cases hf : fs[f]? with
    | none => rw [hf] at h; cases h
    | some x =>
      rw [hf] at h
      simp only [Option.bind_some] at h
      cases hs : sz? P x.type with
      | none => rw [hs] at h; cases h
      | some k' =>
        rw [hs] at h
        simp only [Option.map_some, Option.some.injEq, Prod.mk.injEq] at h
        obtain ⟨h1, h2⟩ := h
        subst h1 h2
        simp [Instr.fieldAt, run_underlying hu, hf, Instr.sureAddr, fieldPlace, run_sizeOf_of hs]
  · cases h
theorem add_plain (b o k : Nat) : (⟨b, o, none⟩ : Addr).add k = ⟨b, o + k, none⟩ := by unfold Addr.add; split <;> simp_all
theorem add_add (a : Addr) (i j : Nat) : (a.add i).add j = a.add (i + j) := by
  unfold Addr.add
  by_cases hj : j = 0
  · simp [hj]
  · by_cases hi : i = 0
    · simp [hi, hj]
    · simp [hi, hj, Nat.add_assoc]
theorem run_load1 {T : TypeId} {p : Addr} {v : Value} (hT : agg? P T = some false) (hc : w.cell? p = some v) : (Instr.loadAt T (.pointer (some p))).run P w = .ok v w := by
  simp [Instr.loadAt, Instr.sureAddr, loadVar, run_isAgg_of hT, load, Sem.run, hc]
theorem run_loadk {T : TypeId} {p : Addr} {vs : List Value} (hT : agg? P T = some true) (hs : sz? P T = some vs.length) (hc : ∀ j v, vs[j]? = some v → w.cell? (p.add j) = some v) : (Instr.loadAt T (.pointer (some p))).run P w = .ok (.agg vs.toArray) w := by
  simp [Instr.loadAt, Instr.sureAddr, loadVar, run_isAgg_of hT, run_sizeOf_of hs, run_loadCells_list (P := P) w p vs hc]
end
def bx (b : Nat) (T : TypeId) (l : List Value) : Res := blk b (.cells l.toArray T (0, 0))
theorem bx_cell {w : World} {b T o : Nat} {l : List Value} (h : (bx b T l).holds w) : w.cell? ⟨b, o, none⟩ = l[o]? := by
  have h' : w.heap[b]? = some (.cells l.toArray T (0, 0)) := h
  simp [World.cell?, h']
section
variable {P : Program} {ops : Array Oper} {Q : Post} {rest : List Oper} {n : Nat} {s : Start} {m : Imm} {R : List Res} {L : Loc}
variable {d : Nat} {dst : Option Nat} {ty : TypeId} {pos : String} {af : Array Edge} {g : Option (Nat × Bool)} {x y : Operand}
theorem S_alloc {T : TypeId} {z : Value} {l : List Value} (hz : zero? P T = some z) (hl : z.cells.toList = l) (hd : Nat.blt d n = true)
    (next : ∀ b, WL P ops Q rest n s m (bx b T l :: R) ((d, .pointer (some ⟨b, 0, none⟩)) :: L)) : WL P ops Q (⟨some d, .alloc T, ty, pos, af, none⟩ :: rest) n s m R L :=
  WL_runw rfl rfl hd fun a w hF hS => ⟨_, w.alloc (.cells z.cells T), m, _, by
    simp [execOp, Instr.alloc, run_zero_of hz, newVar, newRow, newObj, Sem.run], hS.allocR (Evolve.alloc _ _) (bx w.heap.size T l) (by
      show (w.heap.push _)[w.heap.size]? = _
      subst hl; simp) (fun k hk => by cases hk; exact Nat.le_refl _), next _⟩
theorem S_box {T : TypeId} {v : Value} {l : List Value} (hx : ev L x = some v) (hl : v.cells.toList = l) (hd : Nat.blt d n = true)
    (next : ∀ b, WL P ops Q rest n s m (bx b T l :: R) ((d, .pointer (some ⟨b, 0, none⟩)) :: L)) : WL P ops Q (⟨some d, .box T x, ty, pos, af, none⟩ :: rest) n s m R L :=
  WL_runw rfl rfl hd fun a w hF hS => ⟨_, w.alloc (.cells v.cells T), m, _, by
    simp [execOp, Instr.box, hF.eval hx, newVar, newRow, newObj, Sem.run], hS.allocR (Evolve.alloc _ _) (bx w.heap.size T l) (by
      show (w.heap.push _)[w.heap.size]? = _
      subst hl; simp) (fun k hk => by cases hk; exact Nat.le_refl _), next _⟩
theorem r_field {S f off k : Nat} {p : Addr} (hx : ev L x = some (.pointer (some p))) (hf : fld? P S f = some (off, k)) (hk : Nat.blt 0 k = true := by rfl) : Qt P ⟨dst, .fieldAddr S x f, ty, pos, af, g⟩ n m R L (.pointer (some (p.add off))) :=
  .of fun a w hF _ => by obtain ⟨k', rfl⟩ : ∃ k', k = k' + 1 := ⟨k - 1, by simp only [Nat.blt_eq] at hk; omega⟩
                         simp [execOp, hF.eval hx, run_fieldAt_of hf]
theorem r_fieldb {S f off k b o o' : Nat} (hx : ev L x = some (.pointer (some ⟨b, o, none⟩))) (hf : fld? P S f = some (off, k)) (ho : o + off = o') (hk : Nat.blt 0 k = true := by rfl) : Qt P ⟨dst, .fieldAddr S x f, ty, pos, af, g⟩ n m R L (.pointer (some ⟨b, o', none⟩)) :=
  .of fun a w hF _ => by obtain ⟨k', rfl⟩ : ∃ k', k = k' + 1 := ⟨k - 1, by simp only [Nat.blt_eq] at hk; omega⟩
                         simp [execOp, hF.eval hx, run_fieldAt_of hf, add_plain, ho]
theorem Pre.at {w : World} {i : Nat} {r : Res} (h : Pre m R w) (hi : R[i]? = some r) : r.holds w := h.holds r (List.mem_of_getElem? hi)
theorem r_loadb {T E b o : Nat} {l : List Value} {v : Value} (i : Nat) (hx : ev L x = some (.pointer (some ⟨b, o, none⟩))) (hT : agg? P T = some false) (hi : R[i]? = some (bx b E l)) (hv : l[o]? = some v) : Qt P ⟨dst, .load T x, ty, pos, af, g⟩ n m R L v :=
  .of fun a w hF hp => by simp only [execOp, hF.eval hx, Sem.run_bind, run_load1 hT ((bx_cell (hp.at hi)).trans hv)]; rfl
theorem r_loadbk {T E b o k : Nat} {l vs : List Value} (i : Nat) (hx : ev L x = some (.pointer (some ⟨b, o, none⟩))) (hT : agg? P T = some true) (hs : sz? P T = some k) (hi : R[i]? = some (bx b E l)) (hv : (l.drop o).take k = vs) (hk : vs.length = k) : Qt P ⟨dst, .load T x, ty, pos, af, g⟩ n m R L (.agg vs.toArray) :=
  .of fun a w hF hp => by
    have hc : ∀ j v, vs[j]? = some v → w.cell? ((⟨b, o, none⟩ : Addr).add j) = some v := fun j v hj => by
      rw [add_plain, bx_cell (hp.at hi)]
      rw [← hv, List.getElem?_take] at hj
      split at hj
      · simpa [List.getElem?_drop] using hj
      · cases hj
    simp only [execOp, hF.eval hx, Sem.run_bind, run_loadk hT (hs.trans (congrArg some hk.symm)) hc]; rfl
theorem r_load_imm {T : TypeId} {p : Addr} {v : Value} (hx : ev L x = some (.pointer (some p))) (hT : agg? P T = some false) (hc : m.cell? p = some v) : Qt P ⟨dst, .load T x, ty, pos, af, g⟩ n m R L v :=
  .of fun a w hF hp => by simp only [execOp, hF.eval hx, Sem.run_bind, run_load1 hT (hp.inW.cell hc)]; rfl
theorem r_load_immk {T : TypeId} {p : Addr} {vs : List Value} (hx : ev L x = some (.pointer (some p))) (hT : agg? P T = some true) (hs : sz? P T = some vs.length) (hc : ∀ k v, vs[k]? = some v → m.cell? (p.add k) = some v) : Qt P ⟨dst, .load T x, ty, pos, af, g⟩ n m R L (.agg vs.toArray) :=
  .of fun a w hF hp => by simp only [execOp, hF.eval hx, Sem.run_bind, run_loadk hT hs (fun k v hk => hp.inW.cell (hc k v hk))]; rfl
theorem St.setRow {w : World} {i b E : Nat} {l l' : List Value} (hS : St s m R w) (hi : R[i]? = some (bx b E l)) : St s m (R.set i (bx b E l')) (w.setRow b l'.toArray) := by
  have h : w.heap[b]? = some (.cells l.toArray E (0, 0)) := hS.at hi
  refine hS.turn (r' := bx b E l') hi rfl rfl rfl (by simp [World.setRow]) (fun k hk hne => setRow_other w b k _ (fun e => hne e)) (setRow_heap w b _ _ E _ h) (fun k hk => .inl hk)
theorem S_storeb {T E b o : Nat} {l l' vs : List Value} {v : Value} (i : Nat) (hx : ev L x = some (.pointer (some ⟨b, o, none⟩))) (hy : ev L y = some v) (hc : v.cells.toList = vs) (hs : sz? P T = some vs.length) (hi : R[i]? = some (bx b E l))
    (h1 : vs.all (·.oneCell') = true) (hl : Nat.ble (o + vs.length) l.length = true) (hl' : l.take o ++ vs ++ l.drop (o + vs.length) = l')
    (next : WL P ops Q rest n s m (R.set i (bx b E l')) L) : WL P ops Q (⟨none, .store T x y, ty, pos, af, none⟩ :: rest) n s m R L :=
  WL_skipw rfl rfl fun a w hF hS => ⟨w.setRow b l'.toArray, m, _, by
    have h : w.heap[b]? = some (.cells l.toArray E (0, 0)) := hS.at hi
    have hst := run_storeCells_at P b o E vs 0 l.toArray w h (by simpa using Nat.le_of_ble_eq_true hl) (by simpa using h1)
    simp only [Nat.add_zero] at hst
    have hsz : v.cells.size = vs.length := by rw [← hc]; simp
    simp only [execOp, hF.eval hx, hF.eval hy, Instr.storeAt, Instr.sureAddr, storeVar, Sem.run_bind, Sem.run_pure, Result.andThen_ok, run_sizeOf_of hs, hsz, ne_eq, not_true_eq_false, if_false, hc]
    rw [hst]
    simp [hl'], hS.setRow hi, next⟩
end
def I64 (x : Int) : Prop := -9223372036854775808 ≤ x ∧ x ≤ 9223372036854775807
def U64 (x : Int) : Prop := 0 ≤ x ∧ x ≤ 18446744073709551615
abbrev Rep (α : Type _) := Imm → List Value → α → Prop
structure Sl {α : Type _} (r : Rep α) (sz : Nat) (m : Imm) (A : Option Addr) (c : Nat) (xs : List α) : Prop where
  le : xs.length ≤ c
  cap : c ≤ maxLen
  len : xs.length ≤ 140737488355328
  at_ : ∀ j x, xs[j]? = some x → ∃ ad, A = some ad ∧ ∃ es, es.length = sz ∧ r m es x ∧ ∀ k v, es[k]? = some v → m.cell? (ad.add (j * sz + k)) = some v
def Mono {α : Type _} (r : Rep α) : Prop := ∀ m m' es x, Imm.le m m' → r m es x → r m' es x
theorem Sl.mono {α : Type _} {r : Rep α} {sz : Nat} {m m' : Imm} {A : Option Addr} {c : Nat} {xs : List α} (hr : Mono r) (hm : m.le m') (h : Sl r sz m A c xs) : Sl r sz m' A c xs :=
  ⟨h.le, h.cap, h.len, fun j x hj => by
    obtain ⟨ad, hA, es, h1, h2, h3⟩ := h.at_ j x hj
    exact ⟨ad, hA, es, h1, hr _ _ _ _ hm h2, fun k v hk => hm.cell (h3 k v hk)⟩⟩
theorem Sl.nil {α : Type _} (r : Rep α) (sz : Nat) (m : Imm) : Sl r sz m none 0 [] := ⟨by simp, by simp [maxLen], by simp, fun j x h => by simp at h⟩
theorem Sl.ad {α : Type _} {r : Rep α} {sz : Nat} {m : Imm} {A : Option Addr} {c : Nat} {xs : List α} (h : Sl r sz m A c xs) {j : Nat} (hj : j < xs.length) : ∃ ad, A = some ad := by
  obtain ⟨ad, hA, _⟩ := h.at_ j _ (List.getElem?_eq_getElem hj)
  exact ⟨ad, hA⟩
def rI : Rep Int := fun _ es x => es = [.int .i64 x] ∧ I64 x
def rU : Rep Int := fun _ es x => es = [.int .u64 x] ∧ U64 x
def rB : Rep Bool := fun _ es x => es = [.bool x]
def rS {α : Type _} (r : Rep α) (sz : Nat) : Rep (List α) := fun m es xs => ∃ A c, es = [.slice A xs.length c] ∧ Sl r sz m A c xs
theorem rI_mono : Mono rI := fun _ _ _ _ _ h => h
theorem rB_mono : Mono rB := fun _ _ _ _ _ h => h
theorem rS_mono {α : Type _} {r : Rep α} {sz : Nat} (hr : Mono r) : Mono (rS r sz) := fun _ _ _ _ hm ⟨A, c, h1, h2⟩ => ⟨A, c, h1, h2.mono hr hm⟩
abbrev Ints := Sl rI 1
structure FOp where
  kind : Int
  bits : Int
  lanes : Int
  dst : Int
  args : List Int
  imm : Int
structure FPhi where
  bits : Int
  dst : Int
  fr : List Int
  args : List Int
structure FEnd where
  kind : Int
  arg : Int
  to : List Int
structure FBlk where
  phis : List FPhi
  ops : List FOp
  fin : FEnd
structure FFun where
  params : List Int
  ret : Int
  blocks : List FBlk
def rOp : Rep FOp := fun m es o => ∃ A c, es = [.int .i64 o.kind, .int .i64 o.bits, .int .i64 o.lanes, .int .i64 o.dst, .slice A o.args.length c, .int .u64 o.imm] ∧ Ints m A c o.args ∧ I64 o.kind ∧ I64 o.bits ∧ I64 o.lanes ∧ I64 o.dst ∧ U64 o.imm
def rPhi : Rep FPhi := fun m es p => ∃ A c A' c', es = [.int .i64 p.bits, .int .i64 p.dst, .slice A p.fr.length c, .slice A' p.args.length c'] ∧ Ints m A c p.fr ∧ Ints m A' c' p.args ∧ I64 p.bits ∧ I64 p.dst
def rBlock : Rep FBlk := fun m es b => ∃ A c A' c' A'' c'', es = [.slice A b.phis.length c, .slice A' b.ops.length c', .int .i64 b.fin.kind, .int .i64 b.fin.arg, .slice A'' b.fin.to.length c''] ∧
  Sl rPhi 4 m A c b.phis ∧ Sl rOp 6 m A' c' b.ops ∧ Ints m A'' c'' b.fin.to ∧ I64 b.fin.kind ∧ I64 b.fin.arg
def rFunc : Rep FFun := fun m es f => ∃ A c A' c', es = [.slice A f.params.length c, .int .i64 f.ret, .slice A' f.blocks.length c'] ∧ Ints m A c f.params ∧ Sl rBlock 5 m A' c' f.blocks ∧ I64 f.ret
theorem rOp_mono : Mono rOp := fun _ _ _ _ hm ⟨A, c, h1, h2, h3⟩ => ⟨A, c, h1, h2.mono rI_mono hm, h3⟩
theorem rPhi_mono : Mono rPhi := fun _ _ _ _ hm ⟨A, c, A', c', h1, h2, h3, h4⟩ => ⟨A, c, A', c', h1, h2.mono rI_mono hm, h3.mono rI_mono hm, h4⟩
theorem rBlock_mono : Mono rBlock := fun _ _ _ _ hm ⟨A, c, A', c', A'', c'', h1, h2, h3, h4, h5⟩ => ⟨A, c, A', c', A'', c'', h1, h2.mono rPhi_mono hm, h3.mono rOp_mono hm, h4.mono rI_mono hm, h5⟩
theorem rFunc_mono : Mono rFunc := fun _ _ _ _ hm ⟨A, c, A', c', h1, h2, h3, h4⟩ => ⟨A, c, A', c', h1, h2.mono rI_mono hm, h3.mono rBlock_mono hm, h4⟩
section
variable {P : Program} {ops : Array Oper} {Q : Post} {rest : List Oper} {n : Nat} {s : Start} {m : Imm} {R : List Res} {L : Loc}
variable {d : Nat} {dst : Option Nat} {ty : TypeId} {pos : String} {af : Array Edge} {g : Option (Nat × Bool)} {x y : Operand}
theorem i64_of (z : Int) (h : I64 z) : IntKind.i64.wrap z = z := IntWalk.i64_in _ h
theorem r_add {i j : Int} {T T' : TypeId} (hx : ev L x = some (.int .i64 i)) (hy : ev L y = some (.int .i64 j)) (hr : I64 (i + j)) : Qt P ⟨dst, .binOp .add T x y T', ty, pos, af, g⟩ n m R L (.int .i64 (i + j)) :=
  r_bin hx hy (fun w => by rw [bin_add, i64_of _ hr])
theorem r_sub {i j : Int} {T T' : TypeId} (hx : ev L x = some (.int .i64 i)) (hy : ev L y = some (.int .i64 j)) (hr : I64 (i - j)) : Qt P ⟨dst, .binOp .sub T x y T', ty, pos, af, g⟩ n m R L (.int .i64 (i - j)) :=
  r_bin hx hy (fun w => by rw [bin_sub, i64_of _ hr])
theorem r_index {T E : TypeId} {A : Option Addr} {ad : Addr} {k : IntKind} {i : Int} {len c sz : Nat} (hA : A = some ad) (hT : P.underlying T = some (.slice E)) (hs : sz? P E = some sz) (hx : ev L x = some (.slice A len c)) (hy : ev L y = some (.int k i)) (hi : 0 ≤ i ∧ i < len) : Qt P ⟨dst, .indexAddr T x y, ty, pos, af, g⟩ n m R L (.pointer (some (ad.add (i.toNat * sz)))) :=
  .of fun a w hF _ => by subst hA; simp [execOp, hF.eval hx, hF.eval hy, Instr.indexAt, run_underlying hT, run_sizeOf_of hs, asIntOf, hi]
theorem Sl.get {α : Type _} {r : Rep α} {sz : Nat} {A : Option Addr} {ad : Addr} {c j : Nat} {xs : List α} {z : α} (h : Sl r sz m A c xs) (hA : A = some ad) (hj : xs[j]? = some z) : ∃ es, r m es z ∧ es.length = sz ∧ ∀ k v, es[k]? = some v → m.cell? ((ad.add (j * sz)).add k) = some v := by
  obtain ⟨ad', hA', es, h1, h2, h3⟩ := h.at_ j z hj
  rw [hA] at hA'
  simp only [Option.some.injEq] at hA'
  subst hA'
  exact ⟨es, h2, h1, fun k v hk => by rw [add_add]; exact h3 k v hk⟩
theorem Sl.getI {A : Option Addr} {ad : Addr} {c j : Nat} {xs : List Int} {z : Int} (h : Ints m A c xs) (hA : A = some ad) (hj : xs[j]? = some z) : m.cell? (ad.add (j * 1)) = some (.int .i64 z) ∧ I64 z := by
  obtain ⟨es, ⟨h1, h2⟩, h3, h4⟩ := h.get hA hj
  subst h1
  exact ⟨by simpa [Addr.add] using h4 0 _ rfl, h2⟩
theorem Sl.getB {A : Option Addr} {ad : Addr} {c j : Nat} {xs : List Bool} {z : Bool} (h : Sl rB 1 m A c xs) (hA : A = some ad) (hj : xs[j]? = some z) : m.cell? (ad.add (j * 1)) = some (.bool z) := by
  obtain ⟨es, h1, h3, h4⟩ := h.get hA hj
  have h1' : es = [.bool z] := h1
  subst h1'
  simpa [Addr.add] using h4 0 _ rfl
theorem Sl.getS {α : Type _} {r : Rep α} {sz : Nat} {A : Option Addr} {ad : Addr} {c j : Nat} {xs : List (List α)} {z : List α} (h : Sl (rS r sz) 1 m A c xs) (hA : A = some ad) (hj : xs[j]? = some z) : ∃ A' c', m.cell? (ad.add (j * 1)) = some (.slice A' z.length c') ∧ Sl r sz m A' c' z := by
  obtain ⟨es, ⟨A', c', h1, h2⟩, h3, h4⟩ := h.get hA hj
  subst h1
  exact ⟨A', c', by simpa [Addr.add] using h4 0 _ rfl, h2⟩
def Quiet (P : Program) (f : FuncId) (args : List Value) (m : Imm) (v : Value) : Prop :=
  ∀ w, In m w → Calls P f args.toArray w fun e w' => e = .returned v ∧ Evolve w w'
def Gives (P : Program) (f : FuncId) (args : List Value) (m : Imm) (Φ : Imm → Value → Prop) : Prop :=
  ∀ w, In m w → Calls P f args.toArray w fun e w' => ∃ v m', e = .returned v ∧ Φ m' v ∧ Evolve w w' ∧ Ext w.heap.size m m' ∧ In m' w'
def Does (P : Program) (f : FuncId) (args : List Value) (m : Imm) (R : List Res) (Φ : Imm → List Res → Value → Prop) : Prop :=
  ∀ w, Pre m R w → Calls P f args.toArray w fun e w' => ∃ v m' R', e = .returned v ∧ Φ m' R' v ∧ St ⟨w, m, keys R⟩ m' R' w'
def hasBody (P : Program) (f : FuncId) : Bool := match P.funcs[f]? with
  | some fn => fn.body.isSome && !(fn.name == "runtime.NumGoroutine")
  | none => false
theorem run_callFunc {f : FuncId} (hf : hasBody P f = true) (args : Array Value) (w : World) : (callFunc f args).run P w = .ok (.enter f args) w := by
  unfold hasBody at hf
  split at hf
  · rename_i fn hfn
    simp only [Bool.and_eq_true, Bool.not_eq_true'] at hf
    have hb : fn.body ≠ none := by intro h; rw [h] at hf; simp at hf
    have hn : fn.name ≠ "runtime.NumGoroutine" := by simpa using hf.2
    simp [callFunc, program, Sem.run, hfn, hb, hn]
  · cases hf
theorem run_call {a : Act} {w : World} {f : FuncId} {xs : List Operand} {tys : Array TypeId} {vs : List Value} {dst : Option Nat} {g : Option (Nat × Bool)} (hF : Fr n L a) (hf : hasBody P f = true) (hxs : evs L xs = some vs) :
    (execOp a.eval ⟨dst, .call ⟨.value (.func f), xs.toArray, tys⟩, ty, pos, af, g⟩).run P w = .ok (.enter f vs.toArray) w := by
  have h1 : a.eval (.func f) = .func (.func f) #[] #[] := rfl
  have h2 := hF.evals hxs
  simp only [execOp, resolve, Sem.run_bind, Deferred.ofValue, h1, Sem.run_pure, Result.andThen_ok, invoke]
  simp [h2, run_callFunc hf]
theorem run_callv {a : Act} {w : World} {f : FuncId} {c : Operand} {cap : Array Value} {xs : List Operand} {tys : Array TypeId} {vs : List Value} {dst : Option Nat} {g : Option (Nat × Bool)} (hF : Fr n L a) (hc : ev L c = some (.func (.func f) #[] cap)) (hf : hasBody P f = true) (hxs : evs L xs = some vs) :
    (execOp a.eval ⟨dst, .call ⟨.value c, xs.toArray, tys⟩, ty, pos, af, g⟩).run P w = .ok (.enter f (vs ++ cap.toList).toArray) w := by
  have h2 := hF.evals hxs
  have h1 := hF.eval hc
  simp only [execOp, resolve, Sem.run_bind, h1, Deferred.ofValue, Sem.run_pure, Result.andThen_ok, invoke]
  simp [h2, run_callFunc hf]
theorem S_call {f : FuncId} {xs : List Operand} {tys : Array TypeId} {vs : List Value} (hf : hasBody P f = true) (hxs : evs L xs = some vs) (hd : Nat.blt d n = true)
    (hc : ∀ w, St s m R w → Calls P f vs.toArray w fun e w' => ∃ v m' R', e = .returned v ∧ St s m' R' w' ∧ WL P ops Q rest n s m' R' ((d, v) :: L)) :
    WL P ops Q (⟨some d, .call ⟨.value (.func f), xs.toArray, tys⟩, ty, pos, af, none⟩ :: rest) n s m R L := fun a w hF hS =>
  wpList_go (wanted_none rfl _) (by
    unfold Oper.wp
    rw [run_call hF hf hxs, Oper.upon_enter]
    refine (hc w hS).mono fun e w' h => ?_
    obtain ⟨v, m', R', he, hS', hn⟩ := h
    subst he
    exact hn _ _ (hF.put hd v) hS')
theorem r_quiet {f : FuncId} {xs : List Operand} {tys : Array TypeId} {vs : List Value} {v : Value} (hq : Quiet P f vs m v) (hf : hasBody P f = true) (hxs : evs L xs = some vs) : Qt P ⟨dst, .call ⟨.value (.func f), xs.toArray, tys⟩, ty, pos, af, g⟩ n m R L v := fun a w hF hp => by
  unfold Oper.quietAt
  rw [run_call hF hf hxs]
  exact ⟨rfl, hq w hp.inW⟩
theorem r_callv {f : FuncId} {c : Operand} {cap : Array Value} {xs : List Operand} {tys : Array TypeId} {vs : List Value} {v : Value} (hc : ev L c = some (.func (.func f) #[] cap)) (hf : hasBody P f = true) (hxs : evs L xs = some vs) (hq : Quiet P f (vs ++ cap.toList) m v) : Qt P ⟨dst, .call ⟨.value c, xs.toArray, tys⟩, ty, pos, af, g⟩ n m R L v := fun a w hF hp => by
  unfold Oper.quietAt
  rw [run_callv hF hc hf hxs]
  exact ⟨rfl, hq w hp.inW⟩
theorem W_quiet {f : FuncId} {xs : List Operand} {tys : Array TypeId} {vs : List Value} {v : Value} (hq : Quiet P f vs m v) (hf : hasBody P f = true) (hxs : evs L xs = some vs) (hd : Nat.blt d n = true) (next : WL P ops Q rest n s m R ((d, v) :: L)) :
    WL P ops Q (⟨some d, .call ⟨.value (.func f), xs.toArray, tys⟩, ty, pos, af, none⟩ :: rest) n s m R L := W_q (r_quiet hq hf hxs) hd next
theorem D_quiet {m0 : Imm} {R0 : List Res} {listed : Array Bool} {ord : List (Nat × Bool)} {i : Nat} {f : FuncId} {xs : List Operand} {tys : Array TypeId} {vs : List Value} {v : Value} (hi : ops[i]? = some ⟨some d, .call ⟨.value (.func f), xs.toArray, tys⟩, ty, pos, af, none⟩)
    (hq : Quiet P f vs m0 v) (hf : hasBody P f = true) (hxs : evs L xs = some vs) (hd : Nat.blt d n = true) (next : DL P ops Q m0 R0 (listed.setIfInBounds i true) ord n s m R ((d, v) :: L)) : DL P ops Q m0 R0 listed ((i, true) :: ord) n s m R L := D_q hi (r_quiet hq hf hxs) hd next
theorem D_quiett {m0 : Imm} {R0 : List Res} {listed : Array Bool} {ord : List (Nat × Bool)} {i : Nat} {f : FuncId} {xs : List Operand} {tys : Array TypeId} {vs : List Value} {v : Value} {j t : Nat} {b : Bool} (hi : ops[i]? = some ⟨some d, .call ⟨.value (.func f), xs.toArray, tys⟩, ty, pos, af, some (j, b)⟩)
    (hj : (ops[j]?).bind (·.dst) = some t) (hl : lk L t = some (.bool b))
    (hq : Quiet P f vs m0 v) (hf : hasBody P f = true) (hxs : evs L xs = some vs) (hd : Nat.blt d n = true) (next : DL P ops Q m0 R0 (listed.setIfInBounds i true) ord n s m R ((d, v) :: L)) : DL P ops Q m0 R0 listed ((i, true) :: ord) n s m R L := D_qt hi hj hl (r_quiet hq hf hxs) hd next
theorem W_callv {f : FuncId} {c : Operand} {cap : Array Value} {xs : List Operand} {tys : Array TypeId} {vs : List Value} {v : Value} (hc : ev L c = some (.func (.func f) #[] cap)) (hxs : evs L xs = some vs) (hq : Quiet P f (vs ++ cap.toList) m v) (hf : hasBody P f = true) (hd : Nat.blt d n = true) (next : WL P ops Q rest n s m R ((d, v) :: L)) :
    WL P ops Q (⟨some d, .call ⟨.value c, xs.toArray, tys⟩, ty, pos, af, none⟩ :: rest) n s m R L := W_q (r_callv hc hf hxs hq) hd next
theorem r_quietx {f : FuncId} {xs : List Operand} {tys : Array TypeId} {vs : List Value} {v : Value} (hq : ∀ w, Pre m R w → ∃ m', In m' w ∧ Quiet P f vs m' v) (hf : hasBody P f = true) (hxs : evs L xs = some vs) : Qt P ⟨dst, .call ⟨.value (.func f), xs.toArray, tys⟩, ty, pos, af, g⟩ n m R L v := fun a w hF hp => by
  unfold Oper.quietAt
  rw [run_call hF hf hxs]
  obtain ⟨m', hi, hq⟩ := hq w hp
  exact ⟨rfl, hq w hi⟩
theorem S_gives {f : FuncId} {xs : List Operand} {tys : Array TypeId} {vs : List Value} {Φ : Imm → Value → Prop} (hq : Gives P f vs m Φ) (hf : hasBody P f = true) (hxs : evs L xs = some vs) (hd : Nat.blt d n = true)
    (next : ∀ m' v, m.le m' → Φ m' v → WL P ops Q rest n s m' R ((d, v) :: L)) : WL P ops Q (⟨some d, .call ⟨.value (.func f), xs.toArray, tys⟩, ty, pos, af, none⟩ :: rest) n s m R L :=
  S_call hf hxs hd fun w hS => (hq w hS.inW).mono fun e w' h => by
    obtain ⟨v, m', he, hΦ, hev, hx, hi⟩ := h
    exact ⟨v, m', R, he, hS.grow hev hx hi, next m' v (hx.le hS.inW) hΦ⟩
theorem S_does {f : FuncId} {xs : List Operand} {tys : Array TypeId} {vs : List Value} {R0 F : List Res} {Φ : Imm → List Res → Value → Prop} (hR : R = R0 ++ F) (hq : Does P f vs m R0 Φ) (hf : hasBody P f = true) (hxs : evs L xs = some vs) (hd : Nat.blt d n = true)
    (next : ∀ m' R' v, m.le m' → Φ m' R' v → WL P ops Q rest n s m' (R' ++ F) ((d, v) :: L)) : WL P ops Q (⟨some d, .call ⟨.value (.func f), xs.toArray, tys⟩, ty, pos, af, none⟩ :: rest) n s m R L :=
  S_call hf hxs hd fun w hS => by
    subst hR
    refine (hq w (hS.toPre.sub (List.sublist_append_left _ _))).mono fun e w' h => ?_
    obtain ⟨v, m', R', he, hΦ, hS'⟩ := h
    exact ⟨v, m', R' ++ F, he, hS.call hS', next m' R' v (hS'.ext.le hS.inW) hΦ⟩
theorem quiet_of {f : FuncId} {fn : Go.Func} {c : Code} {vs : List Value} {v : Value} {N : Nat} (hf : P.funcs[f]? = some fn) (hb : fn.body = some c) (hn : fn.ntmps = N) (hl : Nat.ble vs.length N = true)
    (h : ∀ w, CW P c (bodyPost P fn fun e w' => e = .returned v ∧ Evolve w w') N ⟨w, m, fun _ => False⟩ m [] (args0 0 vs)) : Quiet P f vs m v := fun w hp =>
  enter hf hb hn hl (m := m) (R := []) ⟨hp, by simp, by simp, .nil⟩ (by
    have := h w
    have hk : keys [] = fun _ => False := by funext k; simp [keys]
    rw [hk]; exact this)
theorem gives_of {f : FuncId} {fn : Go.Func} {c : Code} {vs : List Value} {Φ : Imm → Value → Prop} {N : Nat} (hf : P.funcs[f]? = some fn) (hb : fn.body = some c) (hn : fn.ntmps = N) (hl : Nat.ble vs.length N = true)
    (h : ∀ w, CW P c (bodyPost P fn fun e w' => ∃ v m', e = .returned v ∧ Φ m' v ∧ Evolve w w' ∧ Ext w.heap.size m m' ∧ In m' w') N ⟨w, m, fun _ => False⟩ m [] (args0 0 vs)) : Gives P f vs m Φ := fun w hp =>
  enter hf hb hn hl (m := m) (R := []) ⟨hp, by simp, by simp, .nil⟩ (by
    have := h w
    have hk : keys [] = fun _ => False := by funext k; simp [keys]
    rw [hk]; exact this)
theorem does_of {f : FuncId} {fn : Go.Func} {c : Code} {vs : List Value} {R0 : List Res} {Φ : Imm → List Res → Value → Prop} {N : Nat} (hf : P.funcs[f]? = some fn) (hb : fn.body = some c) (hn : fn.ntmps = N) (hl : Nat.ble vs.length N = true)
    (h : ∀ w, CW P c (bodyPost P fn fun e w' => ∃ v m' R', e = .returned v ∧ Φ m' R' v ∧ St ⟨w, m, keys R0⟩ m' R' w') N ⟨w, m, keys R0⟩ m R0 (args0 0 vs)) : Does P f vs m R0 Φ := fun w hp =>
  enter hf hb hn hl (m := m) (R := R0) hp (h w)
theorem Sl.getz {α : Type _} {r : Rep α} {sz : Nat} {A : Option Addr} {c : Nat} {xs : List α} (h : Sl r sz m A c xs) {j : Nat} (hj : j < xs.length) : ∃ z, xs[j]? = some z := ⟨_, List.getElem?_eq_getElem hj⟩
end
theorem St.ev {w0 w : World} {m0 m : Imm} {R : List Res} (h : St ⟨w0, m0, fun _ => False⟩ m R w) : Evolve w0 w := h.evolved (fun _ h => h)
end Go.Proofs.YtipmgkhjoekaaaaGreat.Fw
namespace Go.Proofs.YtipmgkhjoekaaaaGreat
open Go Go.Proofs.YtipmgkhjoekaaaaGreat.Fw
theorem tA {p : Prop} [Decidable p] : (decide p = true) = p := decide_eq_true_eq
theorem tB {p : Prop} {x : Decidable p} : decide p = false ↔ ¬p := decide_eq_false_iff_not
theorem tC {α : Type _} [BEq α] [LawfulBEq α] {a b : α} : (a == b) = true ↔ a = b := beq_iff_eq
theorem tD {α : Type _} [BEq α] [LawfulBEq α] {a b : α} : (a == b) = false ↔ a ≠ b := beq_eq_false_iff_ne
theorem tE {α : Type _} [BEq α] [LawfulBEq α] {a b : α} : (a != b) = true ↔ a ≠ b := bne_iff_ne
theorem tF {α : Type _} [BEq α] [LawfulBEq α] {a b : α} : (a != b) = false ↔ a = b := bne_eq_false_iff_eq
theorem tG (b : Bool) : ((!b) = true) = (b = false) := Bool.not_eq_true' b
theorem tH (b : Bool) : ((!b) = false) = (b = true) := Bool.not_eq_false' b
theorem tI (b : Bool) : (¬b = true) = (b = false) := Bool.not_eq_true b
theorem tJ (b : Bool) : (¬b = false) = (b = true) := Bool.not_eq_false b
theorem tK {α : Sort _} (a b : α) : (a ≠ b) = ¬a = b := ne_eq a b
theorem tL {p : Prop} [Decidable p] : ¬¬p ↔ p := Decidable.not_not
theorem lt_succ_all {p : Nat → Prop} {k : Nat} (h : ∀ j, j < k → p j) (hk : p k) : ∀ j, j < k + 1 → p j := fun j hj => by
  by_cases e : j = k
  · subst e; exact hk
  · exact h j (by omega)
theorem contains_false_of {l : List Int} {x : Int} (h : ∀ j, j < l.length → l[j]? ≠ some x) : l.contains x = false := by
  cases hc : l.contains x with
  | false => rfl
  | true =>
    obtain ⟨j, hj, hx⟩ := List.getElem_of_mem (List.contains_iff_mem.1 hc)
    exact absurd (by rw [List.getElem?_eq_getElem hj, hx]) (h j hj)
def mayW (b : Int) : Bool := b == 1 || b == 8 || b == 16 || b == 32 || b == 64
theorem mayW_le {b : Int} (h : mayW b = true) : 1 ≤ b ∧ b ≤ 64 := by
  simp only [mayW, Bool.or_eq_true, beq_iff_eq] at h
  omega
def valueB (v : Int) : Bool := decide (1 ≤ v) && decide (v ≤ 1023)
def pureK (k : Int) : Bool := !(k == 4 || k == 16 || k == 17 || k == 18 || k == 19 || k == 20) && (decide (0 ≤ k) && decide (k ≤ 22))
def storesK (k : Int) : Bool := k == 17 || k == 19
def outN (n : Int) : Bool := decide (n < 0) || decide (2147483647 < n)
def shapeB (b l : Int) : Bool := mayW b && (l == 1 || ((l == 2 || l == 4 || l == 8 || l == 16) && (decide (8 ≤ b) && decide (b * l ≤ 128))))
def goesK (k : Int) : Int := if k == 0 || k == 3 then 0 else if k == 1 then 1 else if k == 2 then 2 else -1
def idxF {α : Type _} (p : α → Bool) (l : List α) : Int := match l.findIdx? p with
  | some i => (i : Int)
  | none => -1
theorem idxF_at {α : Type _} {p : α → Bool} {l : List α} {k : Nat} {z : α} (h : ∀ j, j < k → ∀ y, l[j]? = some y → p y = false) (hz : l[k]? = some z) (hp : p z = true) : idxF p l = (k : Int) := by
  have hk : k < l.length := (List.getElem?_eq_some_iff.1 hz).1
  have hzk : l[k] = z := (List.getElem?_eq_some_iff.1 hz).2
  have : l.findIdx? p = some k := by
    rw [List.findIdx?_eq_some_iff_getElem]
    refine ⟨hk, by rw [hzk]; exact hp, fun j hj => ?_⟩
    have := h j hj l[j] (List.getElem?_eq_getElem (by omega))
    simp [this]
  simp [idxF, this]
theorem idxF_none {α : Type _} {p : α → Bool} {l : List α} (h : ∀ j, j < l.length → ∀ y, l[j]? = some y → p y = false) : idxF p l = -1 := by
  have : l.findIdx? p = none := by
    rw [List.findIdx?_eq_none_iff]
    intro y hy
    obtain ⟨j, hj, rfl⟩ := List.getElem_of_mem hy
    exact h j hj _ (List.getElem?_eq_getElem hj)
  simp [idxF, this]
theorem idxF_any {α : Type _} (p : α → Bool) (l : List α) : decide (0 ≤ idxF p l) = l.any p := by
  cases h : l.findIdx? p with
  | none =>
    have h1 : l.any p = false := by
      rw [List.any_eq_false]
      intro y hy
      have := List.findIdx?_eq_none_iff.1 h y hy
      simpa using this
    simp [idxF, h, h1]
  | some i =>
    have h1 : l.any p = true := by
      rw [List.findIdx?_eq_some_iff_getElem] at h
      obtain ⟨hi, hp, _⟩ := h
      exact List.any_eq_true.2 ⟨l[i], List.getElem_mem hi, hp⟩
    rw [h1]
    simp only [idxF, h, decide_eq_true_eq]
    omega
def inB (l : List Int) : Bool := !(l.any outN)
def listsB (ll : List (List Int)) : Bool := ll.all fun l => !(decide (64 < (l.length : Int)) || !(inB l))
def mayPhi (p : FPhi) : Bool := !(!(inB [p.bits, p.dst]) || !(listsB [p.fr, p.args]))
def mayOpC (o : FOp) : Bool := !(!(inB [o.kind, o.bits, o.lanes, o.dst]) || !(listsB [o.args]))
def mayBlock (b : FBlk) : Bool := b.phis.all mayPhi && (b.ops.all mayOpC && (inB [b.fin.kind, b.fin.arg] && listsB [b.fin.to]))
def sizeF (f : FFun) : Int := (f.blocks.length : Int) + (f.blocks.map fun b => ((b.phis.length : Int) + (b.ops.length : Int))).sum
def mayF (f : FFun) : Bool :=
  !(decide ((f.blocks.length : Int) < 1) || decide (64 < (f.blocks.length : Int)) || decide (16 < (f.params.length : Int)) || decide (512 < sizeF f) || !(inB [f.ret]) || !(inB f.params)) && !(f.blocks.any fun b => !(mayBlock b))
def sizeK (f : FFun) (k : Nat) : Int := (f.blocks.length : Int) + ((f.blocks.take k).map fun b => ((b.phis.length : Int) + (b.ops.length : Int))).sum
theorem all_true_of {α : Type _} {p : α → Bool} {l : List α} (h : ∀ j, j < l.length → ∀ y, l[j]? = some y → p y = true) : l.all p = true := by
  rw [List.all_eq_true]
  intro y hy
  obtain ⟨j, hj, rfl⟩ := List.getElem_of_mem hy
  exact h j hj _ (List.getElem?_eq_getElem hj)
theorem all_false_of {α : Type _} {p : α → Bool} {l : List α} {k : Nat} {y : α} (h : l[k]? = some y) (hp : p y = false) : l.all p = false := by
  rw [List.all_eq_false]
  exact ⟨y, List.mem_of_getElem? h, by simp [hp]⟩
theorem eq_of_all {l l' : List Int} (hl : l.length = l'.length) (h : ∀ j, j < l.length → l[j]? = l'[j]?) : l = l' := by
  refine List.ext_getElem? fun j => ?_
  by_cases hj : j < l.length
  · exact h j hj
  · rw [List.getElem?_eq_none (by omega), List.getElem?_eq_none (by omega)]
theorem sum_take_succ {α : Type _} (f : α → Int) {l : List α} {k : Nat} {z : α} (h : l[k]? = some z) : ((l.take (k + 1)).map f).sum = ((l.take k).map f).sum + f z := by
  rw [List.take_add_one, h]; simp
theorem sizeK_zero (f : FFun) : sizeK f 0 = (f.blocks.length : Int) := by simp [sizeK]
theorem sizeK_succ {f : FFun} {k : Nat} {b : FBlk} (h : f.blocks[k]? = some b) : sizeK f (k + 1) = sizeK f k + ((b.phis.length : Int) + (b.ops.length : Int)) := by
  simp only [sizeK, sum_take_succ _ h]; omega
theorem sizeK_end (f : FFun) : sizeK f f.blocks.length = sizeF f := by simp [sizeK, sizeF]
end Go.Proofs.YtipmgkhjoekaaaaGreat
namespace Go.Proofs.YtipmgkhjoekaaaaGreat.Fw
open Go Go.RowKit
section
variable {P : Program} {ops : Array Oper} {Q : Post} {rest : List Oper} {n : Nat} {s : Start} {m : Imm} {R : List Res} {L : Loc}
def NX (Q : Post) (n : Nat) (s : Start) (m : Imm) (R : List Res) (L : Loc) : Prop := ∀ a w, Fr n L a → St s m R w → Q .normal a w
def RX (Q : Post) (n : Nat) (s : Start) (m : Imm) (R : List Res) (L : Loc) : Prop := ∀ a w, Fr n L a → St s m R w → Q .ret a w
def EX (id : Nat) (Q : Post) (n : Nat) (s : Start) (m : Imm) (R : List Res) (L : Loc) : Prop := ∀ a w, Fr n L a → St s m R w → Q (.exit id) a w
def GX (l : Nat) (Q : Post) (n : Nat) (s : Start) (m : Imm) (R : List Res) (L : Loc) : Prop := ∀ a w, Fr n L a → St s m R w → Q (.goto l) a w
theorem W_nil (h : NX Q n s m R L) : WL P ops Q [] n s m R L := WL_nil h
theorem D_end {m0 : Imm} {R0 : List Res} {listed : Array Bool} (h : NX Q n s m R L) : DL P ops Q m0 R0 listed [] n s m R L := D_nil h
theorem C_skip (h : NX Q n s m R L) : CW P .skip Q n s m R L := CW_skip h
theorem C_label {l : Nat} (h : NX Q n s m R L) : CW P (.label l) Q n s m R L := CW_label h
theorem C_ret (h : RX Q n s m R L) : CW P .ret Q n s m R L := CW_ret h
theorem C_exit {id : Nat} (h : EX id Q n s m R L) : CW P (.exit id) Q n s m R L := CW_exit h
theorem C_goto {l : Nat} (h : GX l Q n s m R L) : CW P (.goto l) Q n s m R L := CW_goto h
theorem NX_then {y : Code} (h : CW P y Q n s m R L) : NX (Exit.then (fun a w => y.wp P Q a w) Q) n s m R L := h
theorem NX_thenk {y : Code} (ks : List Nat) (h : CW P y Q n s m R (sel L ks)) : NX (Exit.then (fun a w => y.wp P Q a w) Q) n s m R L := CW_keep ks h
theorem NX_as {y : Code} {L' : Loc} (ks : List Nat) (e : sel L ks = L') (h : CW P y Q n s m R L') : NX (Exit.then (fun a w => y.wp P Q a w) Q) n s m R L := NX_thenk ks (e ▸ h)
theorem CW_as {y : Code} {L' : Loc} (ks : List Nat) (e : sel L ks = L') (h : CW P y Q n s m R L') : CW P y Q n s m R L := CW_keep ks (e ▸ h)
theorem NX_to {K : Act → World → Prop} (h : ∀ a w, Fr n L a → St s m R w → K a w) : NX (Exit.then K Q) n s m R L := h
theorem RX_then {K : Act → World → Prop} (h : RX Q n s m R L) : RX (Exit.then K Q) n s m R L := h
theorem RX_block {id : Nat} (h : RX Q n s m R L) : RX (Exit.inBlock id Q) n s m R L := h
theorem RX_jump {l : Nat} {J : Act → World → Prop} (h : RX Q n s m R L) : RX (Exit.jump l J Q) n s m R L := h
theorem EX_then {id : Nat} {K : Act → World → Prop} (h : EX id Q n s m R L) : EX id (Exit.then K Q) n s m R L := h
theorem EX_hit {id : Nat} (h : NX Q n s m R L) : EX id (Exit.inBlock id Q) n s m R L := fun a w hF hS => by
  show (if id = id then Q .normal a w else Q (.exit id) a w)
  rw [if_pos rfl]; exact h a w hF hS
theorem GX_then {l : Nat} {K : Act → World → Prop} (h : GX l Q n s m R L) : GX l (Exit.then K Q) n s m R L := h
theorem GX_block {l id : Nat} (h : GX l Q n s m R L) : GX l (Exit.inBlock id Q) n s m R L := h
theorem RX_q1 {fn : Go.Func} {t : Nat} {v v' : Value} {w0 : World} {m0 : Imm} (hr : fn.results = #[.tmp t]) (hl : lk L t = some v') (he : v' = v) :
    RX (bodyPost P fn fun e w' => e = .returned v ∧ Evolve w0 w') n ⟨w0, m0, fun _ => False⟩ m R L := fun a w hF hS => ret1 hF hr hl ⟨by rw [he], hS.ev⟩
theorem RX_q2 {fn : Go.Func} {t t' : Nat} {v v' u u' : Value} {w0 : World} {m0 : Imm} (hr : fn.results = #[.tmp t, .tmp t']) (hl : lk L t = some v') (hl' : lk L t' = some u') (he : v' = v) (he' : u' = u) :
    RX (bodyPost P fn fun e w' => e = .returned (.tuple #[v, u]) ∧ Evolve w0 w') n ⟨w0, m0, fun _ => False⟩ m R L := fun a w hF hS => ret2 hF hr hl hl' ⟨by rw [he, he'], hS.ev⟩
theorem CW_cond_t {c : Operand} {x y : Code} (hc : ev L c = some (.bool true)) (h : CW P x Q n s m R L) : CW P (.cond c x y) Q n s m R L := fun a w hF hS => wp_cond_true (hF.eval hc) (h a w hF hS)
theorem CW_cond_f {c : Operand} {x y : Code} (hc : ev L c = some (.bool false)) (h : CW P y Q n s m R L) : CW P (.cond c x y) Q n s m R L := fun a w hF hS => wp_cond_false (hF.eval hc) (h a w hF hS)
theorem CW_condk {t : Nat} {x y : Code} {c : Bool} (hc : lk L t = some (.bool c)) (ht : c = true → CW P x Q n s m R ((t, .bool true) :: L)) (hf : c = false → CW P y Q n s m R ((t, .bool false) :: L)) : CW P (.cond (.tmp t) x y) Q n s m R L := fun a w hF hS => by
  cases c with
  | true => exact wp_cond_true (hF.eval (x := .tmp t) hc) (ht rfl a w (hF.know hc) hS)
  | false => exact wp_cond_false (hF.eval (x := .tmp t) hc) (hf rfl a w (hF.know hc) hS)
def Rnd (X : Type) (n : Nat) (s : Start) (m : Imm) (N : Nat) (J : Nat → X → Prop) (Mf : Nat → X → Loc) (Rf : Nat → X → List Res) (RR : List Res) (F : Loc) (k : Nat) (a : Act) (w : World) : Prop :=
  k < N ∧ ∃ x m1, J (k + 1) x ∧ Fr n (Mf (k + 1) x ++ F) a ∧ m.le m1 ∧ St s m1 (Rf (k + 1) x ++ RR) w
theorem St.weak {m1 : Imm} {w : World} (h : St s m1 R w) (hm : m.le m1) (hx : Ext s.w.heap.size s.m m) : St s m R w :=
  { h with inW := fun b o hb => h.inW b o (hm b o hb), ext := hx, apart := fun r hr k hk => (h.toPre.weak hm (List.Sublist.refl R)).apart r hr k hk }
theorem C_loop {c : Code} (X : Type) (N : Nat) (J : Nat → X → Prop) (Mf : Nat → X → Loc) (Rf : Nat → X → List Res) (mks ks : List Nat) {F : Loc} {RR : List Res} (x0 : X) (h0 : J 0 x0) (hM : sel L mks = Mf 0 x0) (hks : sel L ks = F) (hR : R = Rf 0 x0 ++ RR)
    (round : ∀ k x, k ≤ N → J k x → CW P c (Exit.then (Rnd X n s m N J Mf Rf RR F k) Q) n s m (Rf k x ++ RR) (Mf k x ++ F)) : CW P (.loop c) Q n s m R L := fun a w hF hS => by
  subst hks
  exact
  wp_loop_ghost (fun q a w => ∃ k x, k ≤ N ∧ q = N - k ∧ J k x ∧ Fr n (Mf k x ++ sel L ks) a ∧ St s m (Rf k x ++ RR) w) N ⟨0, x0, Nat.zero_le _, rfl, h0, by
      have h1 := hF.keep (mks ++ ks)
      have h2 : ∀ (a b : List Nat), sel L (a ++ b) = sel L a ++ sel L b := by
        intro a b
        induction a with
        | nil => rfl
        | cons t ts ih => simp only [List.cons_append, sel]; split <;> simp [ih]
      rw [h2, hM] at h1; exact h1, hR ▸ hS⟩ (fun q a w h => by
    obtain ⟨k, x, hk, hq, hJ, hF, hS⟩ := h
    refine wp_mono (round k x hk hJ a w hF hS) ?_
    intro e a' w' hq'
    cases e with
    | normal =>
      obtain ⟨hlt, x', m1, hJ', hF', hm1, hS'⟩ := hq'
      exact ⟨N - (k + 1), by omega, k + 1, x', by omega, rfl, hJ', hF', hS'.weak hm1 hS.ext⟩
    | exit id => exact hq'
    | goto l => exact hq'
    | ret => exact hq'
    | panic ch => exact hq'
    | outgrown => exact hq')
theorem NX_rnd {X : Type} {N : Nat} {J : Nat → X → Prop} {Mf : Nat → X → Loc} {Rf : Nat → X → List Res} {RR : List Res} {F : Loc} {k : Nat} {R' : List Res} {m1 : Imm} (ks : List Nat) (hk : k < N) (x : X) (hJ : J (k + 1) x) (hL : sel L ks = Mf (k + 1) x ++ F) (hs : R'.Sublist R) (hR : R' = Rf (k + 1) x ++ RR) (hm : m.le m1) :
    NX (Exit.then (Rnd X n s m N J Mf Rf RR F k) Q) n s m1 R L := fun a w hF hS => ⟨hk, x, m1, hJ, hL ▸ hF.keep ks, hm, hR ▸ hS.sub hs⟩
def Rng (X : Type) (n : Nat) (s : Start) (m : Imm) (J : Nat → X → Prop) (Mf : Nat → X → Loc) (Rf : Nat → X → List Res) (RR : List Res) (F : Loc) (tI tN : Nat) (N k : Nat) (a : Act) (w : World) : Prop :=
  ∃ x m1, J (k + 1) x ∧ Fr n ((tI, .int .i64 (k : Int)) :: (tN, .int .i64 (N : Int)) :: (Mf (k + 1) x ++ F)) a ∧ m.le m1 ∧ St s m1 (Rf (k + 1) x ++ RR) w
theorem NX_rng {X : Type} {J : Nat → X → Prop} {Mf : Nat → X → Loc} {Rf : Nat → X → List Res} {RR : List Res} {F : Loc} {tI tN N k : Nat} {R' : List Res} {m1 : Imm} (ks : List Nat) (x : X) (hJ : J (k + 1) x) (hL : sel L (tI :: tN :: ks) = (tI, .int .i64 (k : Int)) :: (tN, .int .i64 (N : Int)) :: (Mf (k + 1) x ++ F)) (hs : R'.Sublist R) (hR : R' = Rf (k + 1) x ++ RR) (hm : m.le m1) :
    NX (Exit.then (Rng X n s m J Mf Rf RR F tI tN N k) Q) n s m1 R L := fun a w hF hS => ⟨x, m1, hJ, hL ▸ hF.keep _, hm, hR ▸ hS.sub hs⟩
theorem Fr.del {t : Nat} {v : Value} {a : Act} (hF : Fr n ((t, v) :: L) a) (h : (lk L t).isNone = true) : Fr n L a := by
  refine ⟨hF.size, hF.defers, fun u z hu => hF.get u z ?_⟩
  simp only [lk]
  cases hb : Nat.beq t u with
  | true => obtain rfl := Nat.eq_of_beq_eq_true hb; rw [hu] at h; simp at h
  | false => exact hu
theorem sel_append (a b : List Nat) : sel L (a ++ b) = sel L a ++ sel L b := by
  induction a with
  | nil => rfl
  | cons t ts ih => simp only [List.cons_append, sel]; split <;> simp [ih]
theorem C_range {B B' r1 r2 tC tI tN tA : Nat} {T T1 T2 T3 T4 T5 T6 : TypeId} {p1 p2 p3 : String} {f1 f2 f3 : Array Edge} {body : Code}
    (X : Type) (N : Nat) (J : Nat → X → Prop) (Mf : Nat → X → Loc) (Rf : Nat → X → List Res) (mks ks : List Nat) {F : Loc} {RR : List Res} (x0 : X)
    (hI : lk L tI = some (.int .i64 0)) (hN : lk L tN = some (.int .i64 (N : Int))) (hNle : N ≤ 140737488355328) (h0 : J 0 x0) (hM : sel L mks = Mf 0 x0) (hks : sel L ks = F) (hR : R = Rf 0 x0 ++ RR)
    (d1 : Nat.blt tC n = true) (d2 : Nat.blt tI n = true) (d3 : Nat.blt tA n = true) (q5 : Nat.beq tI tN = false)
    (q6 : ∀ (k : Nat) x, (lk ((tI, .int .i64 (k : Int)) :: (tN, .int .i64 (N : Int)) :: (Mf k x ++ F)) tC).isNone = true) (q8 : ∀ (k : Nat) x, (lk ((tN, .int .i64 (N : Int)) :: (Mf k x ++ F)) tA).isNone = true)
    (round : ∀ k x, k < N → J k x → CW P body (Exit.inBlock B' (Exit.then (Rng X n s m J Mf Rf RR F tI tN N k) (Exit.inBlock B Q))) n s m (Rf k x ++ RR) ((tI, .int .i64 (k : Int)) :: (tN, .int .i64 (N : Int)) :: (Mf k x ++ F)))
    (fin : ∀ x, J N x → NX Q n s m (Rf N x ++ RR) ((tI, .int .i64 (N : Int)) :: (tN, .int .i64 (N : Int)) :: (Mf N x ++ F))) :
    CW P (.block B (.loop (.seq (.region r1 #[⟨some tC, .binOp .lss T (.tmp tI) (.tmp tN) T1, T2, p1, f1, none⟩] false) (.seq (.cond (.tmp tC) .skip (.exit B)) (.seq (.block B' body)
      (.region r2 #[⟨some tA, .binOp .add T3 (.tmp tI) (.const (.int .i64 1)) T4, T5, p2, f2, none⟩, ⟨some tI, .move (.tmp tA), T6, p3, f3, none⟩] false)))))) Q n s m R L := by
  subst hks
  have hrf : ∀ t, Nat.beq t t = true := fun t => Nat.beq_refl t
  refine CW_block (fun a w hF hS => ?_)
  refine wp_loop_ghost (fun q a w => ∃ k x, k ≤ N ∧ q = N - k ∧ J k x ∧ Fr n ((tI, .int .i64 (k : Int)) :: (tN, .int .i64 (N : Int)) :: (Mf k x ++ sel L ks)) a ∧ St s m (Rf k x ++ RR) w) N ⟨0, x0, Nat.zero_le _, rfl, h0, ?_, hR ▸ hS⟩ (fun q a w h => ?_)
  · have h1 := hF.keep (tI :: tN :: (mks ++ ks))
    simp only [sel, hI, hN, sel_append, hM] at h1
    exact h1
  · obtain ⟨k, x, hk, hq, hJ, hF, hS⟩ := h
    refine (?_ : CW P _ _ n s m (Rf k x ++ RR) ((tI, .int .i64 (k : Int)) :: (tN, .int .i64 (N : Int)) :: (Mf k x ++ sel L ks))) a w hF hS
    have e1 : ev ((tI, Value.int .i64 (k : Int)) :: (tN, .int .i64 (N : Int)) :: (Mf k x ++ sel L ks)) (.tmp tI) = some (.int .i64 (k : Int)) := by simp only [ev, lk, hrf]
    have e2 : ev ((tI, Value.int .i64 (k : Int)) :: (tN, .int .i64 (N : Int)) :: (Mf k x ++ sel L ks)) (.tmp tN) = some (.int .i64 (N : Int)) := by simp only [ev, lk, q5, hrf]
    refine CW_seq (CW_region (W_q (r_bin e1 e2 (bin_lss _ _ _ _)) d1 (W_nil (NX_then (CW_seq ?_)))))
    refine CW_cond (t := decide ((k : Int) < (N : Int))) (by simp only [ev, lk, hrf]) (fun ht => C_skip (NX_then (CW_seq (CW_block ?_)))) (fun hf => C_exit (EX_then (EX_then (EX_hit ?_))))
    · have hlt : k < N := by simpa using ht
      intro a w hF hS
      refine wp_mono (round k x hlt hJ a w (hF.del (q6 k x)) hS) ?_
      intro e a' w' hq'
      have hnext : ∀ (Q' : Post), Rng X n s m J Mf Rf RR (sel L ks) tI tN N k a' w' → (Code.region r2 #[⟨some tA, .binOp .add T3 (.tmp tI) (.const (.int .i64 1)) T4, T5, p2, f2, none⟩, ⟨some tI, .move (.tmp tA), T6, p3, f3, none⟩] false).wp P
          (Exit.then (fun a' w' => ∃ n', n' < q ∧ ∃ k x, k ≤ N ∧ n' = N - k ∧ J k x ∧ Fr n ((tI, .int .i64 (k : Int)) :: (tN, .int .i64 (N : Int)) :: (Mf k x ++ sel L ks)) a' ∧ St s m (Rf k x ++ RR) w') Q') a' w' := by
        rintro Q' ⟨x', m1, hJ', hF', hm1, hS1⟩
        have hS' := hS1.weak hm1 hS.ext
        refine (?_ : CW P _ _ n s m (Rf (k + 1) x' ++ RR) ((tI, .int .i64 (k : Int)) :: (tN, .int .i64 (N : Int)) :: (Mf (k + 1) x' ++ sel L ks))) a' w' hF' hS'
        refine CW_region (W_q (r_add (x := .tmp tI) (y := .const (.int .i64 1)) (i := (k : Int)) (j := 1) (by simp only [ev, lk, hrf]) rfl ⟨by omega, by omega⟩) d3 ?_)
        refine W_q (r_move (x := .tmp tA) (v := .int .i64 ((k : Int) + 1)) (by simp only [ev, lk, hrf])) d2 ?_
        refine W_nil (NX_to fun a w hF hS => ⟨N - (k + 1), by omega, k + 1, x', by omega, rfl, hJ', ?_, hS⟩)
        refine ⟨hF.size, hF.defers, fun u z hu => hF.get u z ?_⟩
        simp only [lk] at hu ⊢
        cases hb : Nat.beq tI u with
        | true => rw [hb] at hu; exact hu
        | false =>
          rw [hb] at hu
          simp only at hu ⊢
          cases hb3 : Nat.beq tA u with
          | false => exact hu
          | true =>
            obtain rfl := Nat.eq_of_beq_eq_true hb3
            have h8 := q8 (k + 1) x'
            simp only [lk] at h8
            rw [hu] at h8; simp at h8
      cases e with
      | normal => exact hnext _ hq'
      | exit id =>
        by_cases hid : id = B'
        · subst hid
          simp only [Exit.inBlock, if_true] at hq' ⊢
          exact hnext _ hq'
        · simp only [Exit.inBlock, hid, if_false] at hq' ⊢
          exact hq'
      | goto l => exact hq'
      | ret => exact hq'
      | panic ch => exact hq'
      | outgrown => exact hq'
    · have hge : k = N := by
        have : ¬ (k : Int) < (N : Int) := by simpa using hf
        omega
      subst hge
      exact fun a w hF hS => fin x hJ a w (hF.del (q6 k x)) hS
theorem front_perm {R : List Res} {i : Nat} {r : Res} (hi : R[i]? = some r) : R.Perm (r :: R.eraseIdx i) := by
  induction R generalizing i with
  | nil => simp at hi
  | cons x l ih =>
    cases i with
    | zero => simp only [List.getElem?_cons_zero, Option.some.injEq] at hi; subst hi; exact List.Perm.refl _
    | succ i =>
      simp only [List.getElem?_cons_succ] at hi
      exact ((ih hi).cons x).trans (List.Perm.swap _ _ _)
theorem CW_front {c : Code} {r : Res} {R' : List Res} (i : Nat) (hi : R[i]? = some r) (hR : R.eraseIdx i = R') (next : CW P c Q n s m (r :: R') L) : CW P c Q n s m R L := fun a w hF hS => next a w hF (hS.perm (hR ▸ front_perm hi))
end
def evps (L : Loc) : List (Nat × Operand) → Option (List (Nat × Value))
  | [] => some []
  | (i, x) :: r => match ev L x with
    | some v => match evps L r with
      | some vs => some ((i, v) :: vs)
      | none => none
    | none => none
theorem Fr.evps {n : Nat} {L : Loc} {a : Act} (h : Fr n L a) : ∀ {xs : List (Nat × Operand)} {vs : List (Nat × Value)}, evps L xs = some vs → xs.map (fun p => (p.1, a.eval p.2)) = vs
  | [], vs, hx => by simp only [Fw.evps, Option.some.injEq] at hx; simp [← hx]
  | (i, x) :: r, vs, hx => by
    simp only [Fw.evps] at hx
    split at hx
    · rename_i v hv
      split at hx
      · rename_i vs' hvs
        simp only [Option.some.injEq] at hx
        subst hx
        simp only [List.map_cons, h.eval hv, h.evps hvs]
      · cases hx
    · cases hx
def Imm.put (m : Imm) (b : Nat) (o : Obj) : Imm := fun k => if k = b then some o else m k
theorem Imm.le_put {m : Imm} {b : Nat} {o : Obj} (h : m b = none) : m.le (m.put b o) := fun k u hk => by
  unfold Imm.put
  split
  · rename_i e; subst e; rw [h] at hk; cases hk
  · exact hk
theorem In.none {m : Imm} {w : World} (h : In m w) : m w.heap.size = none := by
  cases hm : m w.heap.size with
  | none => rfl
  | some o => exact absurd (h.lt hm) (Nat.lt_irrefl _)
theorem St.allocI {s : Start} {m : Imm} {R : List Res} {w : World} (h : St s m R w) (o : Obj) : St s (m.put w.heap.size o) R (w.alloc o) := by
  have h' := h.evolve (Evolve.alloc w o)
  refine { h' with inW := ?_, apart := ?_, ext := ?_ }
  · intro k u hk
    unfold Imm.put at hk
    split at hk
    · rename_i e; subst e; simp only [Option.some.injEq] at hk; subst hk; show (w.heap.push o)[w.heap.size]? = _; simp
    · exact h'.inW k u hk
  · intro r hr k hk
    unfold Imm.put
    split
    · rename_i e; subst e; exact absurd (r.lt (h.holds r hr) hk) (Nat.lt_irrefl _)
    · exact h'.apart r hr k hk
  · intro k hk
    unfold Imm.put
    split
    · rename_i e; subst e; exact absurd h.size (Nat.not_le.2 hk)
    · exact h.ext k hk
theorem put_cell {m : Imm} {b E : Nat} {cs : List Value} : ∀ j v, cs[j]? = some v → (m.put b (.cells cs.toArray E (0, 0))).cell? ((⟨b, 0, none⟩ : Addr).add j) = some v := fun j v hj => by
  rw [add_plain]
  simp [Imm.cell?, Imm.put, hj]
def enumV : Nat → List Value → List (Nat × Value)
  | _, [] => []
  | i, v :: r => (i, v) :: enumV (i + 1) r
def catV : List Value → List Value
  | [] => []
  | v :: r => v.cells.toList ++ catV r
def sizedV (sz : Nat) : List Value → Bool
  | [] => true
  | v :: r => Nat.beq v.cells.size sz && sizedV sz r
theorem fold_seg (l : List Value) (off : Nat) : ∀ (j : Nat) (cs : Array Value), off + j + l.length ≤ cs.size →
    (l.zipIdx j).foldl (fun cs p => cs.setIfInBounds (off + p.2) p.1) cs = (cs.toList.take (off + j) ++ l ++ cs.toList.drop (off + j + l.length)).toArray := by
  induction l with
  | nil => intro j cs h; simp
  | cons x l ih =>
    intro j cs h
    simp only [List.length_cons] at h
    simp only [List.zipIdx_cons, List.foldl_cons]
    rw [ih (j + 1) _ (by simp; omega)]
    apply congrArg List.toArray
    simp only [Array.toList_setIfInBounds, List.length_cons]
    have hlt : off + j < cs.toList.length := by simp; omega
    rw [List.drop_set_of_lt (by omega)]
    have e : (cs.toList.set (off + j) x).take (off + (j + 1)) = cs.toList.take (off + j) ++ [x] := by
      rw [show off + (j + 1) = (off + j) + 1 by omega, List.take_add_one, List.take_set_of_le (Nat.le_refl _)]
      simp [hlt]
      have : off + j < cs.size := by simpa using hlt
      simp [this]
    rw [e]
    simp only [List.append_assoc, List.cons_append, List.nil_append]
    congr 4
    omega
theorem fill_full (sz : Nat) : ∀ (vs : List Value) (i : Nat) (cs : Array Value), sizedV sz vs = true → (i + vs.length) * sz = cs.size →
    Instr.fill (fun i => some (i * sz, sz)) cs (enumV i vs) = some (cs.toList.take (i * sz) ++ catV vs).toArray
  | [], i, cs, _, h => by
    simp only [enumV, Instr.fill, catV, List.append_nil]
    rw [List.take_of_length_le (by simp only [Array.length_toList]; simp only [List.length_nil, Nat.add_zero] at h; omega)]
  | v :: r, i, cs, hs, h => by
    simp only [sizedV, Bool.and_eq_true] at hs
    have hv : v.cells.size = sz := Nat.eq_of_beq_eq_true hs.1
    simp only [List.length_cons] at h
    have h1 : (i + 1 + r.length) * sz = cs.size := by rw [← h]; congr 1; omega
    have h2 : i * sz + sz ≤ cs.size := by rw [← h, ← Nat.succ_mul]; exact Nat.mul_le_mul_right _ (by omega)
    have hseg := fold_seg v.cells.toList (i * sz) 0 cs (by simp only [Array.length_toList]; omega)
    have e : v.cells.zipIdx.foldl (fun cs (p : Value × Nat) => cs.setIfInBounds (i * sz + p.2) p.1) cs = (v.cells.toList.zipIdx 0).foldl (fun cs p => cs.setIfInBounds (i * sz + p.2) p.1) cs := by
      rw [← Array.foldl_toList, Array.toList_zipIdx]
    simp only [enumV, Instr.fill]
    rw [if_neg (by simp [hv]; omega)]
    have e2 : (v.cells.zipIdx.foldl (fun cs (x : Value × Nat) => match x with | (c, j) => cs.setIfInBounds (i * sz + j) c) cs) = (cs.toList.take (i * sz + 0) ++ v.cells.toList ++ cs.toList.drop (i * sz + 0 + v.cells.toList.length)).toArray := by
      rw [← hseg, ← e]
    rw [e2, fill_full sz r (i + 1) _ hs.2 (by simp only [List.size_toArray, List.length_append, List.length_take, List.length_drop, Array.length_toList]; omega)]
    congr 2
    simp only [catV, Nat.add_zero, Array.length_toList, hv]
    rw [Nat.succ_mul]
    rw [List.take_append_of_le_length (by simp only [List.length_append, List.length_take, Array.length_toList]; omega), List.take_of_length_le (by simp only [List.length_append, List.length_take, Array.length_toList]; omega), List.append_assoc]
section
variable {P : Program} {ops : Array Oper} {Q : Post} {rest : List Oper} {n : Nat} {s : Start} {m : Imm} {R : List Res} {L : Loc}
variable {d : Nat} {dst : Option Nat} {ty : TypeId} {pos : String} {af : Array Edge} {g : Option (Nat × Bool)} {x y : Operand}
theorem run_buildSlice {T E sz len : Nat} {z : Value} {vps : List (Nat × Value)} {cs : List Value} (hT : P.underlying T = some (.slice E)) (hs : sz? P E = some sz) (hz : zero? P E = some z)
    (hf : Instr.fill (fun i => some (i * sz, sz)) ((Array.range (len * sz)).map (z.cells[· % z.cells.size]!)) vps = some cs.toArray) (hle : Nat.ble (len * sz) 1000 = true) (w : World) :
    (Instr.buildSlice T len vps.toArray).run P w = .ok (.slice (some ⟨w.heap.size, 0, none⟩) len len) (w.alloc (.cells cs.toArray E)) := by
  have hle' := Nat.le_of_ble_eq_true hle
  have h1 : ¬ len * sz > 2 ^ 24 := by omega
  unfold Instr.buildSlice
  simp only [Sem.run_bind, run_underlying hT, run_sizeOf_of hs, Result.andThen_ok]
  rw [if_neg h1]
  by_cases h0 : len * sz = 0
  · simp only [h0, if_true, Sem.run_pure, Result.andThen_ok, Sem.run_bind]
    have hf' : Instr.fill (fun i => some (i * sz, sz)) ((Array.range 0).map ((#[] : Array Value)[· % (#[] : Array Value).size]!)) vps = some cs.toArray := by
      rw [h0] at hf; rw [show Array.range 0 = #[] from rfl] at hf ⊢; rw [Array.map_empty] at hf ⊢; exact hf
    simp only [hf', newRow, newObj, Sem.run_bind, Sem.run, Sem.run_pure, Result.andThen_ok]
    rfl
  · simp only [h0, if_false, Sem.run_pure, Result.andThen_ok, Sem.run_bind, run_zero_of hz, hf, newRow, newObj, Sem.run]
    rfl
theorem fill_lit {z : Value} {vs cs : List Value} {sz len : Nat} (hs : sizedV sz vs = true) (hl : vs.length = len) (hc : catV vs = cs) : Instr.fill (fun i => some (i * sz, sz)) ((Array.range (len * sz)).map (z.cells[· % z.cells.size]!)) (enumV 0 vs) = some cs.toArray := by
  rw [fill_full sz vs 0 _ hs (by simp [hl])]
  simp [hc]
theorem S_lit {T E sz len : Nat} {z : Value} {parts : List (Nat × Operand)} {vs : List Value} {cs : List Value} (hT : P.underlying T = some (.slice E)) (hs : sz? P E = some sz) (hz : zero? P E = some z) (hv : evps L parts = some (enumV 0 vs))
    (hsv : sizedV sz vs = true) (hl : vs.length = len) (hcs : catV vs = cs) (hle : Nat.ble (len * sz) 1000 = true) (hd : Nat.blt d n = true)
    (next : ∀ m' ad, m.le m' → (∀ j v, cs[j]? = some v → m'.cell? (ad.add j) = some v) → WL P ops Q rest n s m' R ((d, .slice (some ad) len len) :: L)) :
    WL P ops Q (⟨some d, .buildSlice T len parts.toArray, ty, pos, af, none⟩ :: rest) n s m R L :=
  WL_runw rfl rfl hd fun a w hF hS => ⟨_, _, m.put w.heap.size (.cells cs.toArray E), R, by
    have h1 := hF.evps hv
    have h2 := run_buildSlice (P := P) hT hs hz (fill_lit (z := z) hsv hl hcs) hle w
    simp only [execOp, Sem.run_bind, List.map_toArray, h1, h2, Result.andThen_ok]; rfl, hS.allocI _, next _ _ (Imm.le_put hS.inW.none) put_cell⟩
end
theorem i64s_nil : ∀ y ∈ ([] : List Int), I64 y := by simp
theorem i64s_cons {x : Int} {l : List Int} (hx : I64 x) (hl : ∀ y ∈ l, I64 y) : ∀ y ∈ x :: l, I64 y := by
  intro y hy
  rcases List.mem_cons.1 hy with rfl | hy
  · exact hx
  · exact hl y hy
theorem Ints_lit {m : Imm} {ad : Addr} {c : Nat} (xs : List Int) (hc : ∀ j v, (xs.map (Value.int .i64))[j]? = some v → m.cell? (ad.add j) = some v) (hr : ∀ y ∈ xs, I64 y) (hlen : Nat.ble xs.length 1000 = true := by rfl) (hcc : xs.length = c := by rfl) : Ints m (some ad) c xs := by
  have hl := Nat.le_of_ble_eq_true hlen
  subst hcc
  refine ⟨Nat.le_refl _, by simp only [maxLen]; omega, by omega, fun j x hj => ⟨ad, rfl, [.int .i64 x], rfl, ⟨rfl, hr x (List.mem_of_getElem? hj)⟩, fun k v hk => ?_⟩⟩
  cases k with
  | zero => simp only [List.getElem?_cons_zero, Option.some.injEq] at hk; subst hk; refine hc _ _ ?_; simp [hj]
  | succ k => simp at hk
theorem slS_lit1 {α : Type _} {r : Rep α} {sz : Nat} {m : Imm} {ad : Addr} {A1 : Option Addr} {c1 : Nat} {xs : List α} {cs : List Value} (h1 : Sl r sz m A1 c1 xs) (hc : ∀ j v, cs[j]? = some v → m.cell? (ad.add j) = some v) (hcs : cs = [.slice A1 xs.length c1] := by rfl) : Sl (rS r sz) 1 m (some ad) 1 [xs] := by
  subst hcs
  refine ⟨Nat.le_refl _, by simp [maxLen], by simp, fun j x hj => ?_⟩
  cases j with
  | zero =>
    simp only [List.getElem?_cons_zero, Option.some.injEq] at hj
    subst hj
    exact ⟨ad, rfl, _, rfl, ⟨A1, c1, rfl, h1⟩, fun k v hk => by simpa using hc k v hk⟩
  | succ j => simp at hj
theorem slS_lit2 {α : Type _} {r : Rep α} {sz : Nat} {m : Imm} {ad : Addr} {A1 A2 : Option Addr} {c1 c2 : Nat} {xs ys : List α} {cs : List Value} (h1 : Sl r sz m A1 c1 xs) (h2 : Sl r sz m A2 c2 ys) (hc : ∀ j v, cs[j]? = some v → m.cell? (ad.add j) = some v) (hcs : cs = [.slice A1 xs.length c1, .slice A2 ys.length c2] := by rfl) : Sl (rS r sz) 1 m (some ad) 2 [xs, ys] := by
  subst hcs
  refine ⟨Nat.le_refl _, by simp [maxLen], by simp, fun j x hj => ?_⟩
  rcases j with _ | _ | j
  · simp only [List.getElem?_cons_zero, Option.some.injEq] at hj
    subst hj
    refine ⟨ad, rfl, _, rfl, ⟨A1, c1, rfl, h1⟩, fun k v hk => ?_⟩
    rcases k with _ | k
    · simp only [List.getElem?_cons_zero, Option.some.injEq] at hk; subst hk; exact hc 0 _ rfl
    · simp at hk
  · simp only [Nat.zero_add, List.getElem?_cons_succ, List.getElem?_cons_zero, Option.some.injEq] at hj
    subst hj
    refine ⟨ad, rfl, _, rfl, ⟨A2, c2, rfl, h2⟩, fun k v hk => ?_⟩
    rcases k with _ | k
    · simp only [List.getElem?_cons_zero, Option.some.injEq] at hk; subst hk; exact hc 1 _ rfl
    · simp at hk
  · simp at hj
theorem row_g {g : Option Nat} {n cap e size : Nat} {xs : List Value} {w : World} (h : (row g n cap e size xs).holds w) : xs.length = n * size ∧ n ≤ cap ∧ cap ≤ maxLen ∧ (g = none → n = 0 ∧ cap = 0) ∧
    ∀ b, g = some b → ∃ cur : Array Value, w.heap[b]? = some (.cells cur e (0, 0)) ∧ cur.size = cap * size ∧ cur.toList.take (n * size) = xs := by
  have h' : w.ownsRow 0 e size (.slice (rowA g) n cap) n xs := h
  refine ⟨h'.1, ?_⟩
  rcases h'.2 with ⟨hv, hn⟩ | ⟨b, cap', cur, hv, hb, hg, h1, h2, h3, h4⟩
  · cases g with
    | none => simp [rowA] at hv; exact ⟨by omega, by simp only [maxLen]; omega, fun _ => ⟨hn, hv.2⟩, fun b hb => by cases hb⟩
    | some b => simp [rowA] at hv
  · cases g with
    | none => simp [rowA] at hv
    | some b' =>
      simp only [rowA, Option.map_some, Value.slice.injEq, Option.some.injEq, Addr.mk.injEq, and_true, true_and] at hv
      obtain ⟨rfl, rfl⟩ := hv
      exact ⟨h1, h2, fun e => by (cases e), fun b hb => by simp only [Option.some.injEq] at hb; subst hb; exact ⟨cur, hg, h3, h4⟩⟩
theorem row_mk {b n cap e size : Nat} {xs : List Value} {cur : Array Value} {w : World} (hl : xs.length = n * size) (hg : w.heap[b]? = some (.cells cur e (0, 0))) (h1 : n ≤ cap) (h2 : cap ≤ maxLen) (h3 : cur.size = cap * size) (h4 : cur.toList.take (n * size) = xs) : (row (some b) n cap e size xs).holds w :=
  ⟨hl, .inr ⟨b, cap, cur, rfl, Nat.zero_le _, hg, h1, h2, h3, h4⟩⟩
theorem row_nil (e size : Nat) (w : World) : (row none 0 0 e size []).holds w := ⟨by simp, .inl ⟨rfl, rfl⟩⟩
theorem row_cell {b n cap e size : Nat} {xs : List Value} {w : World} (h : (row (some b) n cap e size xs).holds w) {o : Nat} {v : Value} (hv : xs[o]? = some v) : w.cell? ⟨b, o, none⟩ = some v := by
  obtain ⟨hl, _, _, _, hb⟩ := row_g h
  obtain ⟨cur, hg, hs, ht⟩ := hb b rfl
  rw [cell_of_row w b o cur e (0, 0) hg]
  rw [← ht, List.getElem?_take] at hv
  split at hv
  · simpa using hv
  · cases hv
section
variable {P : Program} {ops : Array Oper} {Q : Post} {rest : List Oper} {n : Nat} {s : Start} {m : Imm} {R : List Res} {L : Loc}
variable {d : Nat} {dst : Option Nat} {ty : TypeId} {pos : String} {af : Array Edge} {g : Option (Nat × Bool)} {x y : Operand}
theorem WL_know {p : Prop} (h : ∀ w, St s m R w → p) (next : p → WL P ops Q rest n s m R L) : WL P ops Q rest n s m R L := fun a w hF hS => next (h w hS) a w hF hS
theorem NX_know {p : Prop} (h : ∀ w, St s m R w → p) (next : p → NX Q n s m R L) : NX Q n s m R L := fun a w hF hS => next (h w hS) a w hF hS
theorem RX_know {p : Prop} (h : ∀ w, St s m R w → p) (next : p → RX Q n s m R L) : RX Q n s m R L := fun a w hF hS => next (h w hS) a w hF hS
theorem k_row {g : Option Nat} {n' cap e size : Nat} {xs : List Value} (i : Nat) (hi : R[i]? = some (row g n' cap e size xs)) (hn : 0 < n') : ∀ w, St s m R w → ∃ b, g = some b := fun w hS => by
  cases g with
  | none => have := (row_g (hS.at hi)).2.2.2.1 rfl; omega
  | some b => exact ⟨b, rfl⟩
theorem St.nilRow {w : World} (hS : St s m R w) (e size : Nat) : St s m (row none 0 0 e size [] :: R) w :=
  hS.allocR (Evolve.refl w) _ (row_nil e size w) (fun k hk => by cases hk)
theorem CW_nilRow {c : Code} (e size : Nat) (next : CW P c Q n s m (row none 0 0 e size [] :: R) L) : CW P c Q n s m R L := fun a w hF hS => next a w hF (hS.nilRow e size)
theorem catV_len {sz : Nat} : ∀ {vs : List Value}, sizedV sz vs = true → (catV vs).length = vs.length * sz
  | [], _ => by simp [catV]
  | v :: r, h => by
    simp only [sizedV, Bool.and_eq_true] at h
    have := Nat.eq_of_beq_eq_true h.1
    simp only [catV, List.length_append, catV_len h.2, List.length_cons, Array.length_toList, Nat.succ_mul]; omega
theorem S_litr {T E sz len : Nat} {z : Value} {parts : List (Nat × Operand)} {vs : List Value} {cs : List Value} (hT : P.underlying T = some (.slice E)) (hs : sz? P E = some sz) (hz : zero? P E = some z) (hv : evps L parts = some (enumV 0 vs))
    (hsv : sizedV sz vs = true) (hl : vs.length = len) (hcs : catV vs = cs) (hle : Nat.ble (len * sz) 1000 = true) (hlen : Nat.ble len 1000 = true) (hd : Nat.blt d n = true)
    (next : ∀ b, WL P ops Q rest n s m (row (some b) len len E sz cs :: R) ((d, .slice (some ⟨b, 0, none⟩) len len) :: L)) :
    WL P ops Q (⟨some d, .buildSlice T len parts.toArray, ty, pos, af, none⟩ :: rest) n s m R L :=
  have hcl : cs.length = len * sz := by rw [← hcs, catV_len hsv, hl]
  WL_runw rfl rfl hd fun a w hF hS => ⟨_, w.alloc (.cells cs.toArray E), m, _, by
    have h1 := hF.evps hv
    have h2 := run_buildSlice (P := P) hT hs hz (fill_lit (z := z) hsv hl hcs) hle w
    simp only [execOp, Sem.run_bind, List.map_toArray, h1, h2, Result.andThen_ok]; rfl,
    hS.allocR (Evolve.alloc _ _) (row (some w.heap.size) len len E sz cs) (row_mk (cur := cs.toArray) hcl (by show (w.heap.push _)[w.heap.size]? = _; simp) (Nat.le_refl _) (by have := Nat.le_of_ble_eq_true hlen; simp only [maxLen]; omega) (by rw [List.size_toArray]; exact hcl) (by rw [List.take_of_length_le]; simp [hcl]))
      (fun k hk => by cases hk; exact Nat.le_refl _), next _⟩
theorem S_make {T E sz bytes len : Nat} {z : Value} {k k' : IntKind} (hT : P.underlying T = some (.slice E)) (hs : sz? P E = some sz) (hz : zero? P E = some z) (hby : byt? P E = some bytes) (hx : ev L x = some (.int k (len : Int))) (hy : ev L y = some (.int k' (len : Int)))
    (hsz : z.cells.size = sz) (hb : bytes * len ≤ 140737488355328) (hm : len ≤ maxLen) (hd : Nat.blt d n = true)
    (next : ∀ b, WL P ops Q rest n s m (row (some b) len len E sz (madeCells z.cells (len * sz)).toList :: R) ((d, .slice (some ⟨b, 0, none⟩) len len) :: L)) :
    WL P ops Q (⟨some d, .makeSlice T x y, ty, pos, af, none⟩ :: rest) n s m R L :=
  WL_runw rfl rfl hd fun a w hF hS => by
    unfold sz? at hs; unfold zero? at hz; unfold byt? at hby
    cases hi : P.info? E with
    | none => rw [hi] at hs; cases hs
    | some i =>
      rw [hi] at hs hz hby
      simp only [Option.map_some, Option.some.injEq, Option.bind_some] at hs hz hby
      obtain ⟨w', hr, ho, hg⟩ := run_make_full (P := P) w 0 T E i z sz hT hi hz hs k k' len (by rw [hby]; omega) hm (Nat.zero_le _)
      refine ⟨_, w', m, _, ?_, hS.allocR ⟨hg.os, hg.tape, hg.output, hg.size, fun b hb => hg.block b hb (by simp)⟩ (row (some w.heap.size) len len E sz _) ho (fun k hk => by cases hk; exact Nat.le_refl _), next _⟩
      simp only [execOp, hF.eval hx, hF.eval hy, Sem.run_bind, hr, Result.andThen_ok]; rfl
theorem grown_turn {w w' : World} {i : Nat} {gg : Option Nat} {n' cap e size : Nat} {xs : List Value} {r' : Res} (hS : St s m R w) (hi : R[i]? = some (row gg n' cap e size xs)) (hg : w.grownBy w' gg) (hh : r'.holds w') (hk : ∀ k, r'.has k → gg = some k ∨ w.heap.size ≤ k) : St s m (R.set i r') w' :=
  hS.turn hi hg.os hg.tape hg.output hg.size (fun b hb hn => hg.block b hb (fun e => hn e.symm)) hh hk
theorem S_append {T E sz bytes n1 c1 n2 c2 : Nat} {z : Value} {g1 : Option Nat} {A2 : Option Addr} {xs ys : List Value} (i : Nat) (hx : ev L x = some (.slice (rowA g1) n1 c1)) (hy : ev L y = some (.slice A2 n2 c2)) (hi : R[i]? = some (row g1 n1 c1 E sz xs))
    (hT : P.underlying T = some (.slice E)) (hs : sz? P E = some sz) (hz : zero? P E = some z) (hby : byt? P E = some bytes) (hzs : z.cells.size = sz) (hsz : Nat.blt 0 sz = true)
    (hl : ys.length = n2 * sz) (hc : ∀ w, St s m R w → ∀ j u, ys[j]? = some u → ∃ a2, A2 = some a2 ∧ w.cell? (a2.add j) = some u) (hn : A2 = none → c2 = 0) (h1 : ys.all (·.oneCell') = true)
    (hb : (n1 + n2) * bytes ≤ 140737488355328) (hm : n1 + n2 ≤ maxLen) (hd : Nat.blt d n = true)
    (next : ∀ g' c', (0 < n1 + n2 → ∃ b, g' = some b) → WL P ops Q rest n s m (R.set i (row g' (n1 + n2) c' E sz (xs ++ ys))) ((d, .slice (rowA g') (n1 + n2) c') :: L)) :
    WL P ops Q (⟨some d, .call ⟨.builtin .append, #[x, y], #[T, T]⟩, ty, pos, af, none⟩ :: rest) n s m R L :=
  WL_runw rfl rfl hd fun a w hF hS => by
    unfold sz? at hs; unfold zero? at hz; unfold byt? at hby
    cases hin : P.info? E with
    | none => rw [hin] at hs; cases hs
    | some inf =>
      rw [hin] at hs hz hby
      simp only [Option.map_some, Option.some.injEq, Option.bind_some] at hs hz hby
      have hown : w.ownsRow 0 E sz (.slice (rowA g1) n1 c1) n1 xs := hS.at hi
      have hob : (Value.slice (rowA g1) n1 c1).ownBlock = g1 := by cases g1 <;> simp [Value.ownBlock, rowA]
      have hsz' : 0 < sz := by simpa [Nat.blt_eq] using hsz
      cases A2 with
      | none =>
        have h0 : n2 = 0 := by
          rcases Nat.eq_zero_or_pos n2 with h | h
          · exact h
          · have hp : 0 < ys.length := by rw [hl]; exact Nat.mul_pos h hsz'
            obtain ⟨a2, h2, _⟩ := hc w hS 0 ys[0] (by rw [List.getElem?_eq_getElem hp])
            cases h2
        subst h0
        have hys : ys = [] := by rw [Nat.zero_mul] at hl; exact List.length_eq_zero_iff.1 hl
        subst hys
        have hr := run_append_owned_none (P := P) (w := w) 0 T ty E inf sz hT hin (.slice (rowA g1) n1 c1) n1 xs hown
        have hc2 := hn rfl
        subst hc2
        refine ⟨_, w, m, _, ?_, grown_turn hS hi ⟨rfl, rfl, rfl, Nat.le_refl _, fun _ _ _ => rfl⟩ (r' := row g1 (n1 + 0) c1 E sz (xs ++ [])) (by simpa using hS.at hi) (fun k hk => .inl hk), next g1 c1 (fun hp => ?_)⟩
        · simp only [execOp, resolve, invoke, builtin, Sem.run_bind, Sem.run_pure, Result.andThen_ok]
          simp [hF.eval hx, hF.eval hy, hr, Result.andThen]
        · cases g1 with
          | none => have := (row_g (hS.at hi)).2.2.2.1 rfl; omega
          | some b => exact ⟨b, rfl⟩
      | some a2 =>
        obtain ⟨v', w', hr, ho, hg, hnil, hwh⟩ := run_append_own_at (P := P) w 0 T ty E inf z sz bytes hT hin hz hs hby hzs hsz' (.slice (rowA g1) n1 c1) n1 xs hown a2 n2 c2 ys hl
          (fun j u hj => by obtain ⟨a2', h2, h3⟩ := hc w hS j u hj; cases h2; exact h3) (fun u hu => by rw [List.all_eq_true] at h1; exact h1 u hu) hm hb (Nat.zero_le _)
        have hv' : ∃ g' c', v' = .slice (rowA g') (n1 + n2) c' := by
          rcases ho.2 with ⟨h0, h1⟩ | ⟨b, cap, cur, h0, _⟩
          · exact ⟨none, 0, by rw [h0, h1]; rfl⟩
          · exact ⟨some b, cap, h0⟩
        obtain ⟨g', c', rfl⟩ := hv'
        rw [hob] at hg
        have hh : (row g' (n1 + n2) c' E sz (xs ++ ys)).holds w' := ho
        refine ⟨_, w', m, _, ?_, grown_turn hS hi hg hh (fun k hk => ?_), next g' c' (fun hp => ?_)⟩
        · simp only [execOp, resolve, invoke, builtin, Sem.run_bind, Sem.run_pure, Result.andThen_ok]
          simp [hF.eval hx, hF.eval hy, hr, Result.andThen]
        · rw [hob] at hwh
          have hob' : (Value.slice (rowA g') (n1 + n2) c').ownBlock = g' := by cases g' <;> simp [Value.ownBlock, rowA]
          rw [hob'] at hwh
          have hk' : g' = some k := hk
          rw [hk'] at hwh
          rcases hwh with h | h
          · exact .inl h.symm
          · right; simp only [Option.some.injEq] at h; omega
        · cases g' with
          | none => have := (row_g hh).2.2.2.1 rfl; omega
          | some b => exact ⟨b, rfl⟩
end
def bls? (P : Program) (T : TypeId) : Option (List (Nat × Nat) × List Value) :=
  match P.underlying T, zero? P T with
  | some (.struct fields), some z => (fields.toList.mapM (fun f => (P.info? f.type).map fun i => (f.offset, i.size))).map fun p => (p, z.cells.toList)
  | _, _ => none
section
variable {P : Program} {ops : Array Oper} {Q : Post} {rest : List Oper} {n : Nat} {s : Start} {m : Imm} {R : List Res} {L : Loc}
variable {d : Nat} {dst : Option Nat} {ty : TypeId} {pos : String} {af : Array Edge} {g : Option (Nat × Bool)} {x y : Operand}
theorem r_builds {T : TypeId} {pl : List (Nat × Nat)} {z : List Value} {parts : List (Nat × Operand)} {vps : List (Nat × Value)} {cs : List Value} (hT : bls? P T = some (pl, z)) (hv : evps L parts = some vps)
    (hf : Instr.fill (fun i => pl[i]?) z.toArray vps = some cs.toArray) : Qt P ⟨dst, .build T parts.toArray, ty, pos, af, g⟩ n m R L (.agg cs.toArray) := .of fun a w hF _ => by
  have h1 := hF.evps hv
  unfold bls? at hT
  split at hT
  · rename_i fields z' hu hz
    unfold zero? at hz
    cases hi : P.info? T with
    | none => rw [hi] at hz; cases hz
    | some it =>
      rw [hi] at hz
      simp only [Option.bind_some] at hz
      cases hp : fields.toList.mapM (fun f => (P.info? f.type).map fun i => (f.offset, i.size)) with
      | none => rw [hp] at hT; cases hT
      | some places =>
        rw [hp] at hT
        simp only [Option.map_some, Option.some.injEq, Prod.mk.injEq] at hT
        obtain ⟨rfl, rfl⟩ := hT
        have hb : P.built T vps = some cs.toArray := by
          unfold Program.built
          simp only [hi, hu, hz, hp]
          have e : ∀ i : Nat, places.toArray[i]? = places[i]? := fun i => by simp
          simp only [e]
          simpa using hf
        have := run_build (P := P) w T vps.toArray cs.toArray (by simpa using hb)
        simp only [execOp, Sem.run_bind, List.map_toArray, h1, this, Result.andThen_ok]; rfl
  · cases hT
theorem r_builda {T E N sz : Nat} {z : Value} {zs : List Value} {parts : List (Nat × Operand)} {vps : List (Nat × Value)} {cs : List Value} (hT : P.underlying T = some (.array N E)) (hs : sz? P E = some sz) (hz : zero? P T = some z) (hzs : z.cells.toList = zs) (hv : evps L parts = some vps)
    (hf : Instr.fill (fun i => some (i * sz, sz)) zs.toArray vps = some cs.toArray) : Qt P ⟨dst, .build T parts.toArray, ty, pos, af, g⟩ n m R L (.agg cs.toArray) := .of fun a w hF _ => by
  have h1 := hF.evps hv
  unfold zero? at hz; unfold sz? at hs
  cases hi : P.info? T with
  | none => rw [hi] at hz; cases hz
  | some it =>
    cases hie : P.info? E with
    | none => rw [hie] at hs; cases hs
    | some ie =>
      rw [hi] at hz; rw [hie] at hs
      simp only [Option.bind_some, Option.map_some, Option.some.injEq] at hz hs
      subst hzs hs
      have hb : P.built T vps = some cs.toArray := by
        unfold Program.built
        simp only [hi, hT, hz, hie]
        simpa using hf
      have := run_build (P := P) w T vps.toArray cs.toArray (by simpa using hb)
      simp only [execOp, Sem.run_bind, List.map_toArray, h1, this, Result.andThen_ok]; rfl
theorem r_indexr {T E b : Nat} {k : IntKind} {i : Int} {len c sz o : Nat} (hT : P.underlying T = some (.slice E)) (hs : sz? P E = some sz) (hx : ev L x = some (.slice (some ⟨b, 0, none⟩) len c)) (hy : ev L y = some (.int k i)) (hi : 0 ≤ i ∧ i < len) (ho : i.toNat * sz = o) : Qt P ⟨dst, .indexAddr T x y, ty, pos, af, g⟩ n m R L (.pointer (some ⟨b, o, none⟩)) :=
  .of fun a w hF _ => by simp [execOp, hF.eval hx, hF.eval hy, Instr.indexAt, run_underlying hT, run_sizeOf_of hs, asIntOf, hi, add_plain, ho]
theorem r_indexa {T E N b : Nat} {k : IntKind} {i : Int} {sz o o' : Nat} (hT : P.underlying T = some (.array N E)) (hs : sz? P E = some sz) (hx : ev L x = some (.pointer (some ⟨b, o, none⟩))) (hy : ev L y = some (.int k i)) (hi : 0 ≤ i ∧ i < N) (ho : o + i.toNat * sz = o') : Qt P ⟨dst, .indexAddr T x y, ty, pos, af, g⟩ n m R L (.pointer (some ⟨b, o', none⟩)) :=
  .of fun a w hF _ => by simp [execOp, hF.eval hx, hF.eval hy, Instr.indexAt, Instr.sureAddr, run_underlying hT, run_sizeOf_of hs, asIntOf, hi, add_plain, ho]
theorem r_loadr {T b n' cap e sz o : Nat} {xs : List Value} {v : Value} (i : Nat) (hx : ev L x = some (.pointer (some ⟨b, o, none⟩))) (hT : agg? P T = some false) (hi : R[i]? = some (row (some b) n' cap e sz xs)) (hv : xs[o]? = some v) : Qt P ⟨dst, .load T x, ty, pos, af, g⟩ n m R L v :=
  .of fun a w hF hp => by simp only [execOp, hF.eval hx, Sem.run_bind, run_load1 hT (row_cell (hp.at hi) hv)]; rfl
theorem St.setOwn {w : World} {i b n' cap e sz : Nat} {xs xs' : List Value} {cur : Array Value} (hS : St s m R w) (hi : R[i]? = some (row (some b) n' cap e sz xs)) (hg : w.heap[b]? = some (.cells cur e (0, 0))) (cur' : Array Value) (hsz : cur'.size = cur.size) (hx : xs' = cur'.toList.take (n' * sz)) :
    St s m (R.set i (row (some b) n' cap e sz xs')) (w.setRow b cur') := by
  obtain ⟨hl, h1, h2, _, hb⟩ := row_g (hS.at hi)
  obtain ⟨cur0, hg0, hs0, ht0⟩ := hb b rfl
  rw [hg] at hg0
  simp only [Option.some.injEq, Obj.cells.injEq, and_true] at hg0
  subst hg0
  have hlen : n' * sz ≤ cur.size := by rw [hs0]; exact Nat.mul_le_mul_right _ h1
  refine hS.turn (r' := row (some b) n' cap e sz xs') hi rfl rfl rfl (by simp [World.setRow]) (fun k hk hne => setRow_other w b k _ (fun e => hne (by show some b = some k; rw [e]))) (row_mk (cur := cur') ?_ (setRow_heap w b _ _ e _ hg) h1 h2 (by rw [hsz, hs0]) hx.symm) (fun k hk => .inl hk)
  rw [hx, List.length_take]
  simp only [Array.length_toList]
  omega
theorem S_storer {T b o n' cap e sz : Nat} {xs xs' vs : List Value} {v : Value} (i : Nat) (hx : ev L x = some (.pointer (some ⟨b, o, none⟩))) (hy : ev L y = some v) (hc : v.cells.toList = vs) (hs : sz? P T = some vs.length) (hi : R[i]? = some (row (some b) n' cap e sz xs))
    (h1 : vs.all (·.oneCell') = true) (hl : o + vs.length ≤ xs.length) (hl' : xs.take o ++ vs ++ xs.drop (o + vs.length) = xs')
    (next : WL P ops Q rest n s m (R.set i (row (some b) n' cap e sz xs')) L) : WL P ops Q (⟨none, .store T x y, ty, pos, af, none⟩ :: rest) n s m R L :=
  WL_skipw rfl rfl fun a w hF hS => by
    obtain ⟨hxl, hn, hcm, _, hb⟩ := row_g (hS.at hi)
    obtain ⟨cur, hg, hs0, ht0⟩ := hb b rfl
    have hlen : n' * sz ≤ cur.size := by rw [hs0]; exact Nat.mul_le_mul_right _ hn
    have hst := run_storeCells_at P b o e vs 0 cur w hg (by omega) (by simpa using h1)
    simp only [Nat.add_zero] at hst
    have hsz : v.cells.size = vs.length := by rw [← hc]; simp
    refine ⟨_, m, _, ?_, hS.setOwn hi hg (cur.toList.take o ++ vs ++ cur.toList.drop (o + vs.length)).toArray ?_ ?_, next⟩
    · simp only [execOp, hF.eval hx, hF.eval hy, Instr.storeAt, Instr.sureAddr, storeVar, Sem.run_bind, Sem.run_pure, Result.andThen_ok, run_sizeOf_of hs, hsz, ne_eq, not_true_eq_false, if_false, hc]
      rw [hst]
      simp
    · simp only [List.size_toArray, List.length_append, List.length_take, List.length_drop, Array.length_toList]; omega
    · subst hl'
      rw [← ht0] at hl ⊢
      simp only [List.length_take, Array.length_toList] at hl
      rw [List.take_append, List.take_append, List.take_take, List.take_take]
      simp only [List.length_take, Array.length_toList, List.length_append, List.drop_take]
      have e1 : min o (n' * sz) = min (n' * sz) o := Nat.min_comm _ _
      have e2 : min o cur.size = o := by omega
      have e3 : vs.take (n' * sz - o) = vs := List.take_of_length_le (by omega)
      rw [e1, e2, e3]
theorem set_one {xs : List Value} {o : Nat} {v : Value} (ho : o < xs.length) : xs.take o ++ [v] ++ xs.drop (o + [v].length) = xs.set o v := by
  rw [List.set_eq_take_append_cons_drop, if_pos ho]; simp
def putA (l : List (Int × Value)) (x : Int) (v : Value) : List (Int × Value) := match l with
  | [] => [(x, v)]
  | p :: r => if p.1 = x then (x, v) :: r else p :: putA r x v
def getA (l : List (Int × Value)) (x : Int) : Option Value := match l with
  | [] => none
  | p :: r => if p.1 = x then some p.2 else getA r x
theorem getA_put (l : List (Int × Value)) (x y : Int) (v : Value) : getA (putA l x v) y = if x = y then some v else getA l y := by
  induction l with
  | nil => simp [putA, getA]
  | cons p r ih =>
    simp only [putA]
    split
    · rename_i h
      simp only [getA, h]
      split <;> rfl
    · rename_i h
      simp only [getA, ih]
      split
      · rename_i h1
        rw [if_neg (by rw [← h1]; exact fun e => h e.symm)]
      · rfl
def imap (b : Nat) (l : List (Int × Value)) : Res where
  has k := k = b
  holds w := ∃ es clock, w.heap[b]? = some (.map es clock) ∧ es.toList.map (fun e => (e.key, e.val)) = l.map (fun p => (Value.int .i64 p.1, p.2))
  loc h hs := by rw [hs b rfl]; exact h
  lt h hk := by subst hk; obtain ⟨_, _, h, _⟩ := h; exact (Array.getElem?_eq_some_iff.1 h).1
theorem findNow_map (x : Int) : ∀ (es : List MapEntry) (l : List (Int × Value)) (i : Nat), es.map (fun e => (e.key, e.val)) = l.map (fun p => (Value.int .i64 p.1, p.2)) →
    (Instr.findNow (.int .i64) (.int .i64 x) es i = some none ∧ getA l x = none ∧ putA l x = fun v => l ++ [(x, v)]) ∨
    ∃ j v e, Instr.findNow (.int .i64) (.int .i64 x) es i = some (some (i + j, v)) ∧ getA l x = some v ∧ es[j]? = some e ∧ e.key = .int .i64 x ∧ (putA l x = fun u => l.set j (x, u))
  | [], [], i, _ => .inl ⟨rfl, rfl, rfl⟩
  | [], p :: l, i, h => by simp at h
  | e :: es, [], i, h => by simp at h
  | e :: es, p :: l, i, h => by
    simp only [List.map_cons, List.cons.injEq, Prod.mk.injEq] at h
    obtain ⟨⟨hk, hv⟩, hr⟩ := h
    by_cases hx : p.1 = x
    · refine .inr ⟨0, p.2, e, ?_, by simp [getA, hx], rfl, by rw [hk, hx], by funext u; simp [putA, hx]⟩
      unfold Instr.findNow
      rw [hk]
      simp [Instr.sameNow, hx, hv]
    · have hs : Instr.sameNow (.int .i64) (.int .i64 x) e.key = some false := by rw [hk]; simp [Instr.sameNow]; exact fun e => hx e.symm
      rcases findNow_map x es l (i + 1) hr with ⟨h1, h2, h3⟩ | ⟨j, v, e', h1, h2, h3, h4, h5⟩
      · exact .inl ⟨by unfold Instr.findNow; rw [hs]; exact h1, by simp [getA, hx, h2], by funext u; simp [putA, hx, h3]⟩
      · exact .inr ⟨j + 1, v, e', by unfold Instr.findNow; rw [hs]; rw [h1]; simp; omega, by simp [getA, hx, h2], by simpa using h3, h4, by funext u; simp [putA, hx, h5]⟩
theorem S_makeMap {T : TypeId} (hd : Nat.blt d n = true) (next : ∀ b, WL P ops Q rest n s m (imap b [] :: R) ((d, .map (some b)) :: L)) : WL P ops Q (⟨some d, .makeMap T none, ty, pos, af, none⟩ :: rest) n s m R L :=
  WL_runw rfl rfl hd fun a w hF hS => ⟨_, w.alloc (.map #[] 0), m, _, by simp [execOp, Instr.makeMap, newObj, Sem.run], hS.allocR (Evolve.alloc _ _) (imap w.heap.size []) ⟨#[], 0, by show (w.heap.push _)[w.heap.size]? = _; simp, rfl⟩ (fun k hk => by cases hk; exact Nat.le_refl _), next _⟩
theorem r_lookup {T K E b : Nat} {x' : Int} {l : List (Int × Value)} {v : Value} {z : Value} (i : Nat) (hT : P.underlying T = some (.map K E)) (hK : P.underlying K = some (.int .i64)) (hz : zero? P E = some z) (hx : ev L x = some (.map (some b))) (hy : ev L y = some (.int .i64 x')) (hi : R[i]? = some (imap b l)) (hv : v = (getA l x').getD z) :
    Qt P ⟨dst, .lookup T x y false, ty, pos, af, g⟩ n m R L v := .of fun a w hF hp => by
  obtain ⟨es, clock, hb, he⟩ := hp.at hi
  have hk : MapKept.IsKey (.int .i64) (.int .i64 x') := by simp [MapKept.IsKey]
  rcases findNow_map x' es.toList l 0 he with ⟨h1, h2, _⟩ | ⟨j, u, e, h1, h2, h3, _⟩
  · simp [execOp, hF.eval hx, hF.eval hy, Instr.lookup, run_underlying hT, MapKept.run_getObj_map hb, MapKept.run_checkKey hK hk, MapKept.run_findKey hK h1, run_zero_of hz, Result.andThen, hv, h2]
  · simp [execOp, hF.eval hx, hF.eval hy, Instr.lookup, run_underlying hT, MapKept.run_getObj_map hb, MapKept.run_checkKey hK hk, MapKept.run_findKey hK h1, Result.andThen, hv, h2]
theorem r_lookup2 {T K E b : Nat} {x' : Int} {l : List (Int × Value)} {v : Value} {q : Bool} {z : Value} (i : Nat) (hT : P.underlying T = some (.map K E)) (hK : P.underlying K = some (.int .i64)) (hz : zero? P E = some z) (hx : ev L x = some (.map (some b))) (hy : ev L y = some (.int .i64 x')) (hi : R[i]? = some (imap b l)) (hv : v = (getA l x').getD z) (hq : q = (getA l x').isSome) :
    Qt P ⟨dst, .lookup T x y true, ty, pos, af, g⟩ n m R L (.tuple #[v, .bool q]) := .of fun a w hF hp => by
  obtain ⟨es, clock, hb, he⟩ := hp.at hi
  have hk : MapKept.IsKey (.int .i64) (.int .i64 x') := by simp [MapKept.IsKey]
  rcases findNow_map x' es.toList l 0 he with ⟨h1, h2, _⟩ | ⟨j, u, e, h1, h2, h3, _⟩
  · simp [execOp, hF.eval hx, hF.eval hy, Instr.lookup, run_underlying hT, MapKept.run_getObj_map hb, MapKept.run_checkKey hK hk, MapKept.run_findKey hK h1, run_zero_of hz, Result.andThen, hv, hq, h2]
  · simp [execOp, hF.eval hx, hF.eval hy, Instr.lookup, run_underlying hT, MapKept.run_getObj_map hb, MapKept.run_checkKey hK hk, MapKept.run_findKey hK h1, Result.andThen, hv, hq, h2]
theorem S_mapUpdate {T K E b : Nat} {x' : Int} {l : List (Int × Value)} {v : Value} {z : Operand} (i : Nat) (hT : P.underlying T = some (.map K E)) (hK : P.underlying K = some (.int .i64)) (hx : ev L x = some (.map (some b))) (hy : ev L y = some (.int .i64 x')) (hz : ev L z = some v) (hi : R[i]? = some (imap b l))
    (next : WL P ops Q rest n s m (R.set i (imap b (putA l x' v))) L) : WL P ops Q (⟨none, .mapUpdate T x y z, ty, pos, af, none⟩ :: rest) n s m R L :=
  WL_skipw rfl rfl fun a w hF hS => by
    obtain ⟨es, clock, hb, he⟩ := hS.at hi
    have hk : MapKept.IsKey (.int .i64) (.int .i64 x') := by simp [MapKept.IsKey]
    have hbl : b < w.heap.size := (Array.getElem?_eq_some_iff.1 hb).1
    rcases findNow_map x' es.toList l 0 he with ⟨h1, h2, h3⟩ | ⟨j, u, e, h1, h2, h3, h4, h5⟩
    · refine ⟨{ w with heap := w.heap.setIfInBounds b (.map (es.push { key := .int .i64 x', val := v, born := clock }) (clock + 1)) }, m, _, ?_, hS.turn (r' := imap b (putA l x' v)) hi rfl rfl rfl (by simp) (fun k hk hne => ?_) ⟨_, _, (MapKept.heap_set hb).1, ?_⟩ (fun k hk => .inl hk), next⟩
      · simp [execOp, hF.eval hx, hF.eval hy, hF.eval hz, Instr.mapUpdate, run_underlying hT, MapKept.run_getObj_map hb, MapKept.run_checkKey hK hk, MapKept.run_findKey hK h1, MapKept.run_setObj_map _ hb, Result.andThen]
      · exact (MapKept.heap_set hb).2 k (fun e => hne e)
      · rw [h3]; simp [he]
    · have hj : es[j]? = some e := by simpa using h3
      refine ⟨{ w with heap := w.heap.setIfInBounds b (.map (es.modify j fun e => { e with key := .int .i64 x', val := v }) clock) }, m, _, ?_, hS.turn (r' := imap b (putA l x' v)) hi rfl rfl rfl (by simp) (fun k hk hne => ?_) ⟨_, _, (MapKept.heap_set hb).1, ?_⟩ (fun k hk => .inl hk), next⟩
      · simp [execOp, hF.eval hx, hF.eval hy, hF.eval hz, Instr.mapUpdate, run_underlying hT, MapKept.run_getObj_map hb, MapKept.run_checkKey hK hk, MapKept.run_findKey hK h1, hj, h4, MapKept.run_keyThatStays hk, MapKept.run_setObj_map _ hb, Result.andThen]
      · exact (MapKept.heap_set hb).2 k (fun e => hne e)
      · rw [h5]
        refine List.ext_getElem? fun i => ?_
        have hi' := congrArg (fun t => t[i]?) he
        simp only [List.getElem?_map, Array.getElem?_toList] at hi'
        simp only [List.getElem?_map, Array.getElem?_toList, Array.getElem?_modify, List.getElem?_set]
        split
        · rename_i hij
          subst hij
          have hlen : es.toList.length = l.length := by have := congrArg List.length he; simpa using this
          have hjl : j < l.length := by rw [← hlen]; exact (List.getElem?_eq_some_iff.1 h3).1
          simp [hj, hjl]
        · exact hi'
theorem r_max {k : IntKind} {i j : Int} {T1 T2 : TypeId} (hx : ev L x = some (.int k i)) (hy : ev L y = some (.int k j)) : Qt P ⟨dst, .call ⟨.builtin .max, #[x, y], #[T1, T2]⟩, ty, pos, af, g⟩ n m R L (.int k (max i j)) := .of fun a w hF _ => by
  have : (if j > i then j else i) = max i j := by split <;> omega
  simp [execOp, resolve, invoke, builtin, hF.eval hx, hF.eval hy, Builtin.max_, Builtin.max2, this]
theorem r_min {k : IntKind} {i j : Int} {T1 T2 : TypeId} (hx : ev L x = some (.int k i)) (hy : ev L y = some (.int k j)) : Qt P ⟨dst, .call ⟨.builtin .min, #[x, y], #[T1, T2]⟩, ty, pos, af, g⟩ n m R L (.int k (min i j)) := .of fun a w hF _ => by
  have : (if j < i then j else i) = min i j := by split <;> omega
  simp [execOp, resolve, invoke, builtin, hF.eval hx, hF.eval hy, Builtin.min_, Builtin.min2, this]
theorem guard_slice {A A' : Option Addr} {k c k' c' : Nat} (op : BinOp) (T : TypeId) (w : World) : (eqGuard op T x y (.slice A k c) (.slice A' k' c')).run P w = .ok () w := by
  unfold eqGuard; split <;> simp
theorem r_sliceeq {T E T' : TypeId} {A : Option Addr} {k c k' c' : Nat} (hx : ev L x = some (.slice A k c)) (hy : ev L y = some (.slice none k' c')) (hT : P.underlying T = some (.slice E)) : Qt P ⟨dst, .binOp .eql T x y T', ty, pos, af, g⟩ n m R L (.bool A.isNone) :=
  r_binv hx hy (fun w => guard_slice _ _ _) (fun w => Lib.run_eql_slice_nil w T E A k c k' c' hT)
end
abbrev slI {α : Type _} (g : Option Nat) (cap : Nat) (l : List α) : Value := .slice (rowA g) l.length cap
abbrev rowI (E : TypeId) (g : Option Nat) (cap : Nat) (l : List Int) : Res := row g l.length cap E 1 (l.map (Value.int .i64))
theorem eraseIdx_split {α : Type _} : ∀ {l : List α} {i : Nat} {r : α}, l[i]? = some r → l = l.take i ++ r :: l.drop (i + 1) ∧ l.eraseIdx i = l.take i ++ l.drop (i + 1)
  | [], i, r, h => by simp at h
  | x :: l, 0, r, h => by simp at h; subst h; simp
  | x :: l, i + 1, r, h => by
    have ⟨h1, h2⟩ := eraseIdx_split (l := l) (i := i) (r := r) (by simpa using h)
    refine ⟨?_, ?_⟩
    · simp only [List.take_succ_cons, List.drop_succ_cons, List.cons_append]; rw [← h1]
    · simp only [List.take_succ_cons, List.drop_succ_cons, List.cons_append, List.eraseIdx_cons_succ]; rw [h2]
section
variable {P : Program} {ops : Array Oper} {Q : Post} {rest : List Oper} {n : Nat} {s : Start} {m : Imm} {R : List Res} {L : Loc}
variable {d : Nat} {dst : Option Nat} {ty : TypeId} {pos : String} {af : Array Edge} {g : Option (Nat × Bool)} {x y : Operand}
theorem St.freezeG {w : World} {i : Nat} {r : Res} (h : St s m R w) (hi : R[i]? = some r) (hge : ∀ k, r.has k → s.w.heap.size ≤ k) : ∃ m', m.le m' ∧ St s m' (R.eraseIdx i) w ∧ ∀ k, r.has k → m' k = w.heap[k]? := by
  classical
  obtain ⟨h1, h2⟩ := eraseIdx_split hi
  rw [h2]
  rw [h1] at h
  have hmem : r ∈ R.take i ++ r :: R.drop (i + 1) := by simp
  let m' : Imm := fun k => if r.has k then w.heap[k]? else m k
  have hin : ∀ k, r.has k → m' k = w.heap[k]? := fun k hk => if_pos hk
  have hout : ∀ k, ¬ r.has k → m' k = m k := fun k hk => if_neg hk
  have hle : m.le m' := fun k u hk => by
    by_cases hr : r.has k
    · have := h.apart r hmem k hr; rw [hk] at this; cases this
    · rw [hout k hr]; exact hk
  refine ⟨m', hle, ?_, hin⟩
  have hsub : (R.take i ++ R.drop (i + 1)).Sublist (R.take i ++ r :: R.drop (i + 1)) := List.Sublist.append_left (List.sublist_cons_self _ _) _
  have h' := h.sub hsub
  have hother : ∀ x ∈ R.take i ++ R.drop (i + 1), ∀ k, r.has k → ¬ x.has k := by
    intro x hx k hk hxk
    have hpw := List.pairwise_append.1 h.pair
    rcases List.mem_append.1 hx with hx | hx
    · exact hpw.2.2 x hx r (by simp) k hxk hk
    · exact (List.pairwise_cons.1 hpw.2.1).1 x hx k hk hxk
  refine { h' with inW := ?_, apart := ?_, ext := ?_ }
  · intro k u hk
    by_cases hr : r.has k
    · rw [hin k hr] at hk; exact hk
    · rw [hout k hr] at hk; exact h.inW k u hk
  · intro x hx k hk
    by_cases hr : r.has k
    · exact absurd hk (hother x hx k hr)
    · rw [hout k hr]; exact h'.apart x hx k hk
  · intro k hk
    by_cases hr : r.has k
    · have := hge k hr; omega
    · rw [hout k hr]; exact h.ext k hk
theorem St.freezeAt {w : World} {i : Nat} {gg : Option Nat} {n' cap e sz : Nat} {xs : List Value} (h : St s m R w) (hi : R[i]? = some (row gg n' cap e sz xs)) (hm : ∀ k, ¬ s.mods k) :
    ∃ m', m.le m' ∧ St s m' (R.eraseIdx i) w ∧ ∀ b, gg = some b → ∀ o v, xs[o]? = some v → m'.cell? ⟨b, o, none⟩ = some v := by
  obtain ⟨m', h1, h2, h3⟩ := h.freezeG hi (fun k hk => (h.own _ (List.mem_of_getElem? hi) k hk).resolve_right (hm k))
  refine ⟨m', h1, h2, fun b hb o v hv => ?_⟩
  subst hb
  obtain ⟨hl, hn, hcm, _, hb⟩ := row_g (h.at hi)
  obtain ⟨cur, hg, hs0, ht0⟩ := hb b rfl
  have := h3 b rfl
  rw [hg] at this
  simp only [Imm.cell?, this, Option.isSome_none, Bool.false_eq_true, if_false]
  rw [← ht0, List.getElem?_take] at hv
  split at hv
  · simpa using hv
  · cases hv
def Frz (gg : Option Nat) (xs : List Value) (m' : Imm) : Prop := ∀ b, gg = some b → ∀ o v, xs[o]? = some v → m'.cell? ⟨b, o, none⟩ = some v
theorem WL_freeze {gg : Option Nat} {n' cap e sz : Nat} {xs : List Value} (i : Nat) (hi : R[i]? = some (row gg n' cap e sz xs)) (hm : ∀ k, ¬ s.mods k) (next : ∀ m', m.le m' → Frz gg xs m' → WL P ops Q rest n s m' (R.eraseIdx i) L) : WL P ops Q rest n s m R L := fun a w hF hS => by
  obtain ⟨m', h1, h2, h3⟩ := hS.freezeAt hi hm
  exact next m' h1 h3 a w hF h2
theorem NX_freeze {gg : Option Nat} {n' cap e sz : Nat} {xs : List Value} (i : Nat) (hi : R[i]? = some (row gg n' cap e sz xs)) (hm : ∀ k, ¬ s.mods k) (next : ∀ m', m.le m' → Frz gg xs m' → NX Q n s m' (R.eraseIdx i) L) : NX Q n s m R L := fun a w hF hS => by
  obtain ⟨m', h1, h2, h3⟩ := hS.freezeAt hi hm
  exact next m' h1 h3 a w hF h2
theorem RX_freeze {gg : Option Nat} {n' cap e sz : Nat} {xs : List Value} (i : Nat) (hi : R[i]? = some (row gg n' cap e sz xs)) (hm : ∀ k, ¬ s.mods k) (next : ∀ m', m.le m' → Frz gg xs m' → RX Q n s m' (R.eraseIdx i) L) : RX Q n s m R L := fun a w hF hS => by
  obtain ⟨m', h1, h2, h3⟩ := hS.freezeAt hi hm
  exact next m' h1 h3 a w hF h2
theorem Sl_frz {α : Type _} {r : Rep α} {sz cap : Nat} {gg : Option Nat} {xs : List Value} {l : List α} {m' : Imm} (hf : Frz gg xs m') (h1 : l.length ≤ cap) (h2 : cap ≤ maxLen) (hlen : l.length ≤ 140737488355328) (hg : 0 < l.length → ∃ b, gg = some b)
    (hc : ∀ j z, l[j]? = some z → ∃ es, es.length = sz ∧ r m' es z ∧ ∀ k v, es[k]? = some v → xs[j * sz + k]? = some v) : Sl r sz m' (rowA gg) cap l :=
  ⟨h1, h2, hlen, fun j z hj => by
    obtain ⟨es, h3, h4, h5⟩ := hc j z hj
    obtain ⟨b, rfl⟩ := hg (by have := (List.getElem?_eq_some_iff.1 hj).1; omega)
    exact ⟨⟨b, 0, none⟩, rfl, es, h3, h4, fun k v hk => by rw [add_plain, Nat.zero_add]; exact hf b rfl _ _ (h5 k v hk)⟩⟩
theorem Ints_frz {cap : Nat} {gg : Option Nat} {l : List Int} {m' : Imm} (hf : Frz gg (l.map (Value.int .i64)) m') (h1 : l.length ≤ cap) (h2 : cap ≤ maxLen) (hlen : l.length ≤ 140737488355328) (hg : 0 < l.length → ∃ b, gg = some b) (hr : ∀ z ∈ l, I64 z) : Ints m' (rowA gg) cap l :=
  Sl_frz hf h1 h2 hlen hg fun j z hj => ⟨[.int .i64 z], rfl, ⟨rfl, hr z (List.mem_of_getElem? hj)⟩, fun k v hk => by
    rcases k with _ | k
    · simp only [List.getElem?_cons_zero, Option.some.injEq] at hk; subst hk; simp [hj]
    · simp at hk⟩
theorem k_rowI {E : TypeId} {g' : Option Nat} {cap : Nat} {l : List Int} (i : Nat) (hi : R[i]? = some (rowI E g' cap l)) : ∀ w, St s m R w → l.length ≤ cap ∧ cap ≤ maxLen ∧ (0 < l.length → ∃ b, g' = some b) := fun w hS =>
  ⟨(row_g (hS.at hi)).2.1, (row_g (hS.at hi)).2.2.1, fun h => k_row i hi h w hS⟩
theorem k_rowG {g' : Option Nat} {n' cap e sz : Nat} {xs : List Value} (i : Nat) (hi : R[i]? = some (row g' n' cap e sz xs)) : ∀ w, St s m R w → xs.length = n' * sz ∧ n' ≤ cap ∧ cap ≤ maxLen ∧ (0 < n' → ∃ b, g' = some b) := fun w hS =>
  ⟨(row_g (hS.at hi)).1, (row_g (hS.at hi)).2.1, (row_g (hS.at hi)).2.2.1, fun h => k_row i hi h w hS⟩
theorem RX_g1 {fn : Go.Func} {t : Nat} {v' : Value} {w0 : World} {m0 : Imm} {Φ : Imm → Value → Prop} (hr : fn.results = #[.tmp t]) (hl : lk L t = some v') (he : Φ m v') :
    RX (bodyPost P fn fun e w' => ∃ v m', e = .returned v ∧ Φ m' v ∧ Evolve w0 w' ∧ Ext w0.heap.size m0 m' ∧ In m' w') n ⟨w0, m0, fun _ => False⟩ m R L := fun a w hF hS => ret1 hF hr hl ⟨v', m, rfl, he, hS.ev, hS.ext, hS.inW⟩
theorem RX_g2 {fn : Go.Func} {t t' : Nat} {v' u' : Value} {w0 : World} {m0 : Imm} {Φ : Imm → Value → Prop} (hr : fn.results = #[.tmp t, .tmp t']) (hl : lk L t = some v') (hl' : lk L t' = some u') (he : Φ m (.tuple #[v', u'])) :
    RX (bodyPost P fn fun e w' => ∃ v m', e = .returned v ∧ Φ m' v ∧ Evolve w0 w' ∧ Ext w0.heap.size m0 m' ∧ In m' w') n ⟨w0, m0, fun _ => False⟩ m R L := fun a w hF hS => ret2 hF hr hl hl' ⟨_, m, rfl, he, hS.ev, hS.ext, hS.inW⟩
theorem RX_d1 {fn : Go.Func} {t : Nat} {v' : Value} {w0 : World} {m0 : Imm} {md : Nat → Prop} {R' : List Res} {Φ : Imm → List Res → Value → Prop} (hr : fn.results = #[.tmp t]) (hl : lk L t = some v') (hs : R'.Sublist R) (he : Φ m R' v') :
    RX (bodyPost P fn fun e w' => ∃ v m' R', e = .returned v ∧ Φ m' R' v ∧ St ⟨w0, m0, md⟩ m' R' w') n ⟨w0, m0, md⟩ m R L := fun a w hF hS => ret1 hF hr hl ⟨v', m, R', rfl, he, hS.sub hs⟩
def eqG? (P : Program) (T : TypeId) : Bool := !(P.eqGuardType P.depth T)
theorem r_arrneq2 {T T' E : TypeId} {i j i' j' : Int} (hx : ev L x = some (.agg #[.int .i64 i, .int .i64 j])) (hy : ev L y = some (.agg #[.int .i64 i', .int .i64 j'])) (hT : P.underlying T = some (.array 2 E)) (hE : P.underlying E = some (.int .i64)) (hs : sz? P E = some 1) (hg : eqG? P T = true) :
    Qt P ⟨dst, .binOp .neq T x y T', ty, pos, af, g⟩ n m R L (.bool (!(i == i' && j == j'))) :=
  r_binv hx hy (fun w => by
    have : P.eqGuardType P.depth T = false := by simpa [eqG?] using hg
    unfold eqGuard
    simp [program, Sem.run, this]) (fun w => by
    have hsz : ∀ w, (sizeOf E).run P w = .ok 1 w := run_sizeOf_of hs
    have hag : ∀ w, (isAgg E).run P w = .ok false w := fun w => by simp [isAgg, run_underlying hE]
    have h1 : (Op.equalIn 10000 T (.agg #[.int .i64 i, .int .i64 j]) (.agg #[.int .i64 i', .int .i64 j'])).run P w = .ok (i == i' && j == j') w := by
      unfold Op.equalIn
      simp only [Sem.run_bind, run_underlying hT, Result.andThen_ok, hsz]
      simp only [Std.Legacy.Range.forIn_eq_forIn_range', Std.Legacy.Range.size, List.range', List.forIn_cons, List.forIn_nil]
      have he : ∀ (w : World) (a b : Int), (Op.equalIn 9999 E (.int .i64 a) (.int .i64 b)).run P w = .ok (a == b) w := fun w a b => run_equalIn_int w _ _ _ _ _ _ hE
      cases hi : i == i' <;> cases hj : j == j' <;> simp [part, hag, he, hi, hj, Result.andThen]
    rw [run_neq_struct, h1]; rfl)
end
end Go.Proofs.YtipmgkhjoekaaaaGreat.Fw
namespace Go.Proofs.YtipmgkhjoekaaaaGreat.Fw
open Go Go.RowKit
section
variable {P : Program} {ops : Array Oper} {Q : Post} {rest : List Oper} {n : Nat} {s : Start} {m : Imm} {R : List Res} {L : Loc}
variable {d : Nat} {dst : Option Nat} {ty : TypeId} {pos : String} {af : Array Edge} {g : Option (Nat × Bool)} {x y : Operand}
theorem r_binz {k k' : IntKind} {i j : Int} {op : BinOp} {T T' : TypeId} {v : Value} (hx : ev L x = some (.int k i)) (hy : ev L y = some (.int k' j)) (h : ∀ w, (binOp op T (.int k i) (.int k' j)).run P w = .ok v w) : Qt P ⟨dst, .binOp op T x y T', ty, pos, af, g⟩ n m R L v :=
  .of fun a w hF _ => by
    have hg : ∀ op, (eqGuard op T x y (.int k i) (.int k' j)).run P w = .ok () w := by intro op; unfold eqGuard; split <;> simp
    simp [execOp, hF.eval hx, hF.eval hy, hg, h]
theorem r_shl {k k' : IntKind} {i j z : Int} {T T' : TypeId} (hx : ev L x = some (.int k i)) (hy : ev L y = some (.int k' j)) (hj : 0 ≤ j) (hz : z = k.wrap (i * 2 ^ min j.toNat k.bits)) : Qt P ⟨dst, .binOp .shl T x y T', ty, pos, af, g⟩ n m R L (.int k z) :=
  r_binz hx hy fun w => by
    have : ¬ j < 0 := by omega
    simp [binOp, Op.shift, this, hz]
theorem r_shr {k k' : IntKind} {i j z : Int} {T T' : TypeId} (hx : ev L x = some (.int k i)) (hy : ev L y = some (.int k' j)) (hj : 0 ≤ j) (hz : z = i / (2 ^ min j.toNat k.bits)) : Qt P ⟨dst, .binOp .shr T x y T', ty, pos, af, g⟩ n m R L (.int k z) :=
  r_binz hx hy fun w => by
    have : ¬ j < 0 := by omega
    have e : i.fdiv (2 ^ min j.toNat k.bits) = i / (2 ^ min j.toNat k.bits) := Int.fdiv_eq_ediv_of_nonneg _ (by exact Int.le_of_lt (Int.pow_pos (by decide)))
    simp [binOp, Op.shift, this, hz, e]
theorem r_rem {k : IntKind} {i j z : Int} {T T' : TypeId} (hx : ev L x = some (.int k i)) (hy : ev L y = some (.int k j)) (hj : j ≠ 0) (hz : z = i.tmod j) : Qt P ⟨dst, .binOp .rem T x y T', ty, pos, af, g⟩ n m R L (.int k z) :=
  r_binz hx hy fun w => by simp [binOp, Op.intDiv, hj, hz]
def bandI (k : IntKind) (i j : Int) : Int := k.wrap (BitVec.ofInt k.bits i &&& BitVec.ofInt k.bits j).toNat
theorem r_and {k : IntKind} {i j z : Int} {T T' : TypeId} (hx : ev L x = some (.int k i)) (hy : ev L y = some (.int k j)) (hz : z = bandI k i j) : Qt P ⟨dst, .binOp .and T x y T', ty, pos, af, g⟩ n m R L (.int k z) :=
  r_binz hx hy fun w => by simp [binOp, Op.intBits, hz, bandI]
theorem r_convi {S T : TypeId} {k k' : IntKind} {i z : Int} {du : TypeDesc} (hs : P.underlying S = some du) (ht : P.underlying T = some (.int k')) (hx : ev L x = some (.int k i)) (hz : k'.wrap i = z) : Qt P ⟨dst, .convert S T x, ty, pos, af, g⟩ n m R L (.int k' z) :=
  hz ▸ r_conv hs ht hx
theorem r_slhi {T E : TypeId} {A : Option Addr} {len c : Nat} {k : IntKind} {h : Nat} (hT : P.underlying T = some (.slice E)) (hx : ev L x = some (.slice A len c)) (hy : ev L y = some (.int k (h : Int))) (hh : h ≤ c) {sz : Nat} (hs : sz? P E = some sz) : Qt P ⟨dst, .slice T x none (some y) none, ty, pos, af, g⟩ n m R L (.slice A h c) :=
  .of fun a w hF _ => by
    have h1 : (0 : Int) ≤ (h : Int) ∧ (h : Int) ≤ (c : Int) := by omega
    have e : (if c = 0 then A else A.map fun x => x.add 0) = A := by split <;> cases A <;> simp [Addr.add]
    simp [execOp, hF.eval hx, hF.eval hy, Instr.sliceAt, Instr.slice, run_underlying hT, Instr.sliceBounds, Instr.sliceBound, asIntOf, h1, hh, run_sizeOf_of hs]
    simpa using e
end
section
variable {P : Program} {ops : Array Oper} {Q : Post} {rest : List Oper} {n : Nat} {s : Start} {m : Imm} {R : List Res} {L : Loc}
variable {d : Nat} {dst : Option Nat} {ty : TypeId} {pos : String} {af : Array Edge} {g : Option (Nat × Bool)} {x y : Operand}
def Src (s : Start) (m : Imm) (R : List Res) (A : Option Addr) (c : Nat) (ys : List Value) : Prop := (∀ w, St s m R w → ∀ j u, ys[j]? = some u → ∃ a2, A = some a2 ∧ w.cell? (a2.add j) = some u) ∧ (A = none → c = 0)
theorem Src.row {b n' c e sz : Nat} {cs : List Value} (i : Nat) (hi : R[i]? = some (row (some b) n' c e sz cs)) {c' : Nat} : Src s m R (some ⟨b, 0, none⟩) c' cs :=
  ⟨fun w hS j u hj => ⟨_, rfl, by rw [add_plain, Nat.zero_add]; exact row_cell (hS.at hi) hj⟩, fun h => by cases h⟩
theorem Src.own {g' : Option Nat} {n' c e sz : Nat} {cs : List Value} (i : Nat) (hi : R[i]? = some (Fw.row g' n' c e sz cs)) (hc : g' = none → c = 0) : Src s m R (rowA g') c cs := by
  cases g' with
  | some b => exact Src.row i hi
  | none =>
    refine ⟨fun w hS j u hj => ?_, fun _ => hc rfl⟩
    obtain ⟨h1, _, _, h2, _⟩ := row_g (hS.at hi)
    have := (List.getElem?_eq_some_iff.1 hj).1
    rw [h1, (h2 rfl).1] at this
    omega
theorem S_appendG {T E sz bytes n1 c1 n2 c2 : Nat} {z : Value} {g1 : Option Nat} {A2 : Option Addr} {xs : List Value} (ys : List Value) (i : Nat) (hx : ev L x = some (.slice (rowA g1) n1 c1)) (hy : ev L y = some (.slice A2 n2 c2)) (hi : R[i]? = some (row g1 n1 c1 E sz xs))
    (hT : P.underlying T = some (.slice E)) (hs : sz? P E = some sz) (hz : zero? P E = some z) (hby : byt? P E = some bytes) (hzs : z.cells.size = sz) (hsz : Nat.blt 0 sz = true)
    (hl : ys.length = n2 * sz) (hc : Src s m R A2 c2 ys) (h1 : ys.all (·.oneCell') = true)
    (hb : (n1 + n2) * bytes ≤ 140737488355328) (hm : n1 + n2 ≤ maxLen) (hd : Nat.blt d n = true)
    (next : ∀ g' c', (0 < n1 + n2 → ∃ b, g' = some b) → WL P ops Q rest n s m (R.set i (row g' (n1 + n2) c' E sz (xs ++ ys))) ((d, .slice (rowA g') (n1 + n2) c') :: L)) :
    WL P ops Q (⟨some d, .call ⟨.builtin .append, #[x, y], #[T, T]⟩, ty, pos, af, none⟩ :: rest) n s m R L :=
  S_append i hx hy hi hT hs hz hby hzs hsz hl hc.1 hc.2 h1 hb hm hd next
theorem S_appendI {T E bytes c1 n2 c2 : Nat} {z : Value} {g1 : Option Nat} {A2 : Option Addr} {l : List Int} (zs : List Int) (i : Nat) (hx : ev L x = some (slI g1 c1 l)) (hy : ev L y = some (.slice A2 n2 c2)) (hi : R[i]? = some (rowI E g1 c1 l))
    (hT : P.underlying T = some (.slice E)) (hs : sz? P E = some 1) (hz : zero? P E = some z) (hby : byt? P E = some bytes) (hzs : z.cells.size = 1)
    (hl : zs.length = n2) (hc : Src s m R A2 c2 (zs.map (Value.int .i64)))
    (hb : (l.length + zs.length) * bytes ≤ 140737488355328) (hd : Nat.blt d n = true)
    (next : ∀ g' c', (0 < (l ++ zs).length → ∃ b, g' = some b) → WL P ops Q rest n s m (R.set i (rowI E g' c' (l ++ zs))) ((d, slI g' c' (l ++ zs)) :: L)) (hbz : Nat.blt 0 bytes = true := by rfl) :
    WL P ops Q (⟨some d, .call ⟨.builtin .append, #[x, y], #[T, T]⟩, ty, pos, af, none⟩ :: rest) n s m R L := by
  subst hl
  have hbz' : 0 < bytes := by simpa [Nat.blt_eq] using hbz
  have hle : l.length + zs.length ≤ (l.length + zs.length) * bytes := Nat.le_mul_of_pos_right _ hbz'
  refine S_append (sz := 1) (ys := zs.map (Value.int .i64)) i hx hy hi hT hs hz hby hzs rfl (by simp) hc.1 hc.2 (by simp [Value.oneCell']) hb (by simp only [maxLen]; omega) hd fun g' c' h => ?_
  have := next g' c' (by simpa using h)
  simpa [rowI, slI] using this
end
def rPair : Rep (Int × Int) := fun _ es p => es = [.int .i64 p.1, .int .i64 p.2] ∧ I64 p.1 ∧ I64 p.2
theorem rPair_mono : Mono rPair := fun _ _ _ _ _ h => h
def cellsP : List (Int × Int) → List Value
  | [] => []
  | p :: r => .int .i64 p.1 :: .int .i64 p.2 :: cellsP r
theorem cellsP_get : ∀ (xs : List (Int × Int)) (j : Nat) (p : Int × Int), xs[j]? = some p → (cellsP xs)[j * 2]? = some (.int .i64 p.1) ∧ (cellsP xs)[j * 2 + 1]? = some (.int .i64 p.2)
  | [], j, p, h => by simp at h
  | q :: r, 0, p, h => by simp only [List.getElem?_cons_zero, Option.some.injEq] at h; subst h; exact ⟨rfl, rfl⟩
  | q :: r, j + 1, p, h => by
    have := cellsP_get r j p (by simpa using h)
    rw [show (j + 1) * 2 = j * 2 + 2 by omega]
    exact this
theorem pairs_nil : ∀ y ∈ ([] : List (Int × Int)), I64 y.1 ∧ I64 y.2 := by simp
theorem pairs_cons {x : Int × Int} {l : List (Int × Int)} (hx : I64 x.1) (hx' : I64 x.2) (hl : ∀ y ∈ l, I64 y.1 ∧ I64 y.2) : ∀ y ∈ x :: l, I64 y.1 ∧ I64 y.2 := by
  intro y hy
  rcases List.mem_cons.1 hy with rfl | hy
  · exact ⟨hx, hx'⟩
  · exact hl y hy
theorem Pairs_lit {m : Imm} {ad : Addr} {c : Nat} (xs : List (Int × Int)) (hc : ∀ j v, (cellsP xs)[j]? = some v → m.cell? (ad.add j) = some v) (hr : ∀ y ∈ xs, I64 y.1 ∧ I64 y.2) (hlen : Nat.ble xs.length 1000 = true := by rfl) (hcc : xs.length = c := by rfl) : Sl rPair 2 m (some ad) c xs := by
  have hl := Nat.le_of_ble_eq_true hlen
  subst hcc
  refine ⟨Nat.le_refl _, by simp only [maxLen]; omega, by omega, fun j x hj => ⟨ad, rfl, [.int .i64 x.1, .int .i64 x.2], rfl, ⟨rfl, hr x (List.mem_of_getElem? hj)⟩, fun k v hk => ?_⟩⟩
  have := cellsP_get xs j x hj
  rcases k with _ | _ | k
  · simp only [List.getElem?_cons_zero, Option.some.injEq] at hk; subst hk; exact hc _ _ this.1
  · simp only [List.getElem?_cons_succ, List.getElem?_cons_zero, Option.some.injEq] at hk; subst hk; exact hc _ _ this.2
  · simp at hk
theorem u64_of (z : Int) (h : U64 z) : IntKind.u64.wrap z = z := by
  rw [IntKind.wrap_u64]; unfold U64 at h; omega
end Go.Proofs.YtipmgkhjoekaaaaGreat.Fw
namespace Go.Proofs.YtipmgkhjoekaaaaGreat.Fw
open Go Go.RowKit
section
variable {P : Program} {ops : Array Oper} {Q : Post} {rest : List Oper} {n : Nat} {s : Start} {m : Imm} {R : List Res} {L : Loc}
variable {d : Nat} {dst : Option Nat} {ty : TypeId} {pos : String} {af : Array Edge} {g : Option (Nat × Bool)} {x y : Operand}
theorem S_make1 {T E bytes : Nat} {z : Value} {i j : Int} {k k' : IntKind} (len : Nat) (hT : P.underlying T = some (.slice E)) (hs : sz? P E = some 1) (hz : zero? P E = some z) (hby : byt? P E = some bytes) (hx : ev L x = some (.int k i)) (hy : ev L y = some (.int k' j))
    (hi : i = (len : Int)) (hj : j = (len : Int)) (hsz : z.cells = #[z]) (hb : bytes * len ≤ 140737488355328) (hm : len ≤ maxLen) (hd : Nat.blt d n = true)
    (next : ∀ b, WL P ops Q rest n s m (row (some b) len len E 1 (List.replicate len z) :: R) ((d, .slice (some ⟨b, 0, none⟩) len len) :: L)) :
    WL P ops Q (⟨some d, .makeSlice T x y, ty, pos, af, none⟩ :: rest) n s m R L := by
  subst hi hj
  refine S_make hT hs hz hby hx hy (by rw [hsz]; rfl) hb hm hd fun b => ?_
  have := next b
  rw [hsz, Nat.mul_one, toList_madeCells_one]
  exact this
theorem S_makeI {T E bytes : Nat} {i j : Int} {k k' : IntKind} (len : Nat) (hT : P.underlying T = some (.slice E)) (hs : sz? P E = some 1) (hz : zero? P E = some (.int .i64 0)) (hby : byt? P E = some bytes) (hx : ev L x = some (.int k i)) (hy : ev L y = some (.int k' j))
    (hi : i = (len : Int)) (hj : j = (len : Int)) (hb : bytes * len ≤ 140737488355328) (hm : len ≤ maxLen) (hd : Nat.blt d n = true)
    (next : ∀ b, WL P ops Q rest n s m (rowI E (some b) len (List.replicate len 0) :: R) ((d, slI (some b) len (List.replicate len (0 : Int))) :: L)) :
    WL P ops Q (⟨some d, .makeSlice T x y, ty, pos, af, none⟩ :: rest) n s m R L :=
  S_make1 len hT hs hz hby hx hy hi hj rfl hb hm hd fun b => by
    have := next b
    simpa [rowI, slI, rowA] using this
theorem r_loadrI {T E b cap o : Nat} {l : List Int} {z : Int} (i : Nat) (hx : ev L x = some (.pointer (some ⟨b, o, none⟩))) (hT : agg? P T = some false) (hi : R[i]? = some (rowI E (some b) cap l)) (hv : l[o]? = some z) : Qt P ⟨dst, .load T x, ty, pos, af, g⟩ n m R L (.int .i64 z) :=
  r_loadr i hx hT hi (by rw [List.getElem?_map, hv]; rfl)
theorem S_storerI {T b o cap e : Nat} {l : List Int} {z : Int} (i : Nat) (hx : ev L x = some (.pointer (some ⟨b, o, none⟩))) (hy : ev L y = some (.int .i64 z)) (hs : sz? P T = some 1) (hi : R[i]? = some (rowI e (some b) cap l))
    (ho : o < l.length) (next : WL P ops Q rest n s m (R.set i (rowI e (some b) cap (l.set o z))) L) : WL P ops Q (⟨none, .store T x y, ty, pos, af, none⟩ :: rest) n s m R L :=
  S_storer (xs' := (l.map (Value.int .i64)).set o (.int .i64 z)) (vs := [.int .i64 z]) i hx hy rfl hs hi rfl (by simp only [List.length_map, List.length_cons, List.length_nil]; omega) (set_one (by simpa using ho)) (by
    have := next
    simpa [rowI, List.map_set] using this)
theorem S_storer1 {T b o n' cap e : Nat} {xs : List Value} {v : Value} (i : Nat) (hx : ev L x = some (.pointer (some ⟨b, o, none⟩))) (hy : ev L y = some v) (hc : v.cells = #[v]) (h1 : v.oneCell' = true) (hs : sz? P T = some 1) (hi : R[i]? = some (row (some b) n' cap e 1 xs))
    (ho : o < xs.length) (next : WL P ops Q rest n s m (R.set i (row (some b) n' cap e 1 (xs.set o v))) L) : WL P ops Q (⟨none, .store T x y, ty, pos, af, none⟩ :: rest) n s m R L :=
  S_storer (xs' := xs.set o v) (vs := [v]) i hx hy (by rw [hc]) hs hi (by simp [h1]) (by simp only [List.length_cons, List.length_nil]; omega) (set_one ho) next
theorem S_storeba {T E b o : Nat} {l : List Value} {v : Value} (i : Nat) (hx : ev L x = some (.pointer (some ⟨b, o, none⟩))) (hy : ev L y = some v) (hc : v.cells = #[v]) (h1 : v.oneCell' = true) (hs : sz? P T = some 1) (hi : R[i]? = some (bx b E l))
    (ho : o < l.length) (next : WL P ops Q rest n s m (R.set i (bx b E (l.set o v))) L) : WL P ops Q (⟨none, .store T x y, ty, pos, af, none⟩ :: rest) n s m R L :=
  S_storeb (l' := l.set o v) (vs := [v]) i hx hy (by rw [hc]) hs hi (by simp [h1]) (by simp [Nat.ble_eq]; omega) (set_one ho) next
end
end Go.Proofs.YtipmgkhjoekaaaaGreat.Fw
namespace Go.Proofs.YtipmgkhjoekaaaaGreat
open Go Go.Proofs.YtipmgkhjoekaaaaGreat.Fw
theorem mayW_cases {b : Int} (h : mayW b = true) : b = 1 ∨ b = 8 ∨ b = 16 ∨ b = 32 ∨ b = 64 := by
  simp only [mayW, Bool.or_eq_true, beq_iff_eq] at h; omega
def cutV (v b : Int) : Int := if mayW b then v % 2 ^ b.toNat else 0
theorem cut_eq {v b : Int} (hb : mayW b = true) (hv : U64 v) : IntKind.u64.wrap (v * 2 ^ min (64 - b).toNat IntKind.u64.bits) / 2 ^ min (64 - b).toNat IntKind.u64.bits = cutV v b := by
  unfold U64 at hv
  rw [IntKind.wrap_u64, cutV, if_pos hb]
  have hbits : IntKind.u64.bits = 64 := rfl
  rw [hbits]
  rcases mayW_cases hb with rfl | rfl | rfl | rfl | rfl
  · first | (simp; done) | (simp; omega)
  · first | (simp; done) | (simp; omega)
  · first | (simp; done) | (simp; omega)
  · first | (simp; done) | (simp; omega)
  · first | (simp; done) | (simp; omega)
def scalarKs (k : Int) : Bool := k == 1 || k == 2 || k == 3 || k == 5 || k == 6 || k == 7 || k == 8 || k == 9
def takesP (o : FOp) : List (Int × Int) × Bool :=
  if o.kind == 0 then ([], cutV o.imm o.bits == o.imm)
  else if scalarKs o.kind then ([(o.bits, o.lanes), (o.bits, o.lanes)], o.imm == 0)
  else if o.kind == 4 || o.kind == 10 || o.kind == 11 || o.kind == 12 then ([(o.bits, o.lanes), (o.bits, o.lanes)], o.imm == 0 && o.lanes == 1)
  else if o.kind == 13 then ([(1, 1), (o.bits, o.lanes), (o.bits, o.lanes)], o.imm == 0)
  else if o.kind == 14 then ([(min o.imm 128, 1)], o.lanes == 1 && (decide (o.imm < o.bits) && mayW o.imm))
  else if o.kind == 15 then ([(min o.imm 128, 1)], o.lanes == 1 && (decide (o.bits < o.imm) && (decide (o.imm ≤ 64) && mayW o.imm)))
  else if o.kind == 16 then ([(64, 1)], o.imm == 0 && decide (8 ≤ o.bits))
  else if o.kind == 17 then ([(64, 1), (o.bits, o.lanes)], o.imm == 0 && decide (8 ≤ o.bits))
  else if o.kind == 18 || o.kind == 19 then ([(1, 1), (64, 1), (o.bits, o.lanes)], o.imm == 0 && (o.lanes == 1 && decide (8 ≤ o.bits)))
  else if o.kind == 20 then ([(1, 1), (o.bits, o.lanes), (o.bits, o.lanes), (o.bits, o.lanes)], o.imm == 0 && o.lanes == 1)
  else if o.kind == 21 then (List.replicate o.lanes.toNat (o.bits, 1), o.imm == 0 && !(o.lanes == 1))
  else if o.kind == 22 then ([(o.bits, o.lanes)], !(o.lanes == 1) && decide (o.imm < o.lanes))
  else ([], false)
theorem shapeB_bits {b l : Int} (h : shapeB b l = true) : 1 ≤ b ∧ b ≤ 64 ∧ 1 ≤ l ∧ l ≤ 16 := by
  simp only [shapeB, Bool.and_eq_true, Bool.or_eq_true, beq_iff_eq, decide_eq_true_eq] at h
  have := mayW_le h.1
  omega
def TakesΦ (r : List (Int × Int) × Bool) (m : Imm) (v : Value) : Prop := ∃ A c, v = .tuple #[.slice A r.1.length c, .bool r.2] ∧ Sl rPair 2 m A c r.1
theorem takesΦ_mk {r : List (Int × Int) × Bool} {m : Imm} {A : Option Addr} {c : Nat} {l : List (Int × Int)} {ok : Bool} (h : Sl rPair 2 m A c l) (e : r = (l, ok)) : TakesΦ r m (.tuple #[.slice A l.length c, .bool ok]) := by subst e; exact ⟨A, c, rfl, h⟩
def mayOpK (o : FOp) : Bool :=
  shapeB o.bits o.lanes && ((takesP o).2 && ((if storesK o.kind then o.dst == 0 else valueB o.dst) && (decide (((takesP o).1.length : Int) = (o.args.length : Int)) && !(o.args.any fun v => !(valueB v)))))
def takesK (o : FOp) : List (Int × Int) := if mayOpK o then (takesP o).1 else []
def givesP (o : FOp) : Int × Int := if !(mayOpK o) || storesK o.kind then (0, 0) else if decide (10 ≤ o.kind) && decide (o.kind ≤ 12) then (1, 1) else if o.kind == 22 then (o.bits, 1) else (o.bits, o.lanes)
def mulHi (x y : Int) : Int :=
  let t := IntKind.u64.wrap (IntKind.u64.wrap (x / 2 ^ min (Int.toNat 32) IntKind.u64.bits * bandI .u64 y 4294967295) + IntKind.u64.wrap (bandI .u64 x 4294967295 * bandI .u64 y 4294967295) / 2 ^ min (Int.toNat 32) IntKind.u64.bits)
  let w1 := IntKind.u64.wrap (bandI .u64 t 4294967295 + IntKind.u64.wrap (bandI .u64 x 4294967295 * (y / 2 ^ min (Int.toNat 32) IntKind.u64.bits)))
  IntKind.u64.wrap (IntKind.u64.wrap (IntKind.u64.wrap (x / 2 ^ min (Int.toNat 32) IntKind.u64.bits * (y / 2 ^ min (Int.toNat 32) IntKind.u64.bits)) + t / 2 ^ min (Int.toNat 32) IntKind.u64.bits) + w1 / 2 ^ min (Int.toNat 32) IntKind.u64.bits)
theorem mulHi_one : ∀ k : Nat, k < 65 → mulHi 1 (k : Int) = 0 := by decide
theorem mayOpK_shape {o : FOp} (h : mayOpK o = true) : shapeB o.bits o.lanes = true := by simp only [mayOpK, Bool.and_eq_true] at h; exact h.1
def PairsΦ (l : List (Int × Int)) (m : Imm) (v : Value) : Prop := ∃ A c, v = .slice A l.length c ∧ Sl rPair 2 m A c l
theorem takesK_mk {l' : List (Int × Int)} {m : Imm} {A : Option Addr} {c : Nat} {l : List (Int × Int)} (h : Sl rPair 2 m A c l) (e : l' = l) : PairsΦ l' m (.slice A l.length c) := by subst e; exact ⟨A, c, rfl, h⟩
end Go.Proofs.YtipmgkhjoekaaaaGreat
namespace Go.Proofs.YtipmgkhjoekaaaaGreat.Fw
open Go Go.RowKit
section
variable {P : Program} {ops : Array Oper} {Q : Post} {rest : List Oper} {n : Nat} {s : Start} {m : Imm} {R : List Res} {L : Loc}
variable {d : Nat} {dst : Option Nat} {ty : TypeId} {pos : String} {af : Array Edge} {g : Option (Nat × Bool)} {x y : Operand}
theorem S_copy {T T2 E sz b o k c n2 c2 n' cap : Nat} {A2 : Option Addr} {xs : List Value} (ys : List Value) (i : Nat) (hx : ev L x = some (.slice (some ⟨b, o, none⟩) k c)) (hy : ev L y = some (.slice A2 n2 c2)) (hi : R[i]? = some (row (some b) n' cap E sz xs))
    (hT : P.underlying T = some (.slice E)) (hs : sz? P E = some sz) (hl : ys.length = min n2 k * sz) (hc : Src s m R A2 c2 ys) (h1 : ys.all (·.oneCell') = true) (ho : o + ys.length ≤ xs.length) (hd : Nat.blt d n = true)
    (next : WL P ops Q rest n s m (R.set i (row (some b) n' cap E sz (xs.take o ++ ys ++ xs.drop (o + ys.length)))) ((d, .int .i64 ((min n2 k : Nat) : Int)) :: L)) :
    WL P ops Q (⟨some d, .call ⟨.builtin .copy, #[x, y], #[T, T2]⟩, ty, pos, af, none⟩ :: rest) n s m R L :=
  WL_runw rfl rfl hd fun a w hF hS => by
    obtain ⟨hxl, hn, hcm, _, hb⟩ := row_g (hS.at hi)
    obtain ⟨cur, hg, hs0, ht0⟩ := hb b rfl
    have hlen : n' * sz ≤ cur.size := by rw [hs0]; exact Nat.mul_le_mul_right _ hn
    have hst := run_storeCells_at P b o E ys 0 cur w hg (by omega) (by simpa using h1)
    simp only [Nat.add_zero] at hst
    refine ⟨.int .i64 ((min n2 k : Nat) : Int), w.setRow b (cur.toList.take o ++ ys ++ cur.toList.drop (o + ys.length)).toArray, m, _, ?_, hS.setOwn hi hg _ ?_ ?_, next⟩
    · have hf : (Builtin.firstCells sz (min n2 k) (.slice A2 n2 c2)).run P w = .ok ys.toArray w := by
        cases A2 with
        | some a2 => exact run_firstCells_some (P := P) w sz (min n2 k) a2 n2 c2 ys hl (fun j u hj => by obtain ⟨a2', e, h⟩ := hc.1 w hS j u hj; cases e; exact h)
        | none =>
          have : ys = [] := by
            cases hys : ys with
            | nil => rfl
            | cons u r => obtain ⟨a2, e, _⟩ := hc.1 w hS 0 u (by rw [hys]; rfl); cases e
          subst this; simp [Builtin.firstCells]
      have hmin : Nat.min n2 k = min n2 k := rfl
      simp only [execOp, resolve, invoke, builtin, Sem.run_bind, Sem.run_pure, Result.andThen_ok, List.map_toArray, List.map_cons, List.map_nil, hF.eval hx, hF.eval hy]
      simp only [Builtin.copy_, List.getElem?_toArray, List.getElem?_cons_zero, List.getElem?_cons_succ, run_underlying hT, Sem.run_bind, Result.andThen_ok, Builtin.lenOf, Sem.run_pure, run_sizeOf_of hs, hmin, hf, hst]
      simp [hst, goInt, Result.andThen]
    · simp only [List.size_toArray, List.length_append, List.length_take, List.length_drop, Array.length_toList]; omega
    · rw [← ht0] at ho ⊢
      simp only [List.length_take, Array.length_toList] at ho
      rw [List.take_append, List.take_append, List.take_take, List.take_take]
      simp only [List.length_take, Array.length_toList, List.length_append, List.drop_take]
      have e1 : min o (n' * sz) = min (n' * sz) o := Nat.min_comm _ _
      have e2 : min o cur.size = o := by omega
      have e3 : ys.take (n' * sz - o) = ys := List.take_of_length_le (by omega)
      rw [e1, e2, e3]
theorem r_sllo {T E b o : Nat} {len c : Nat} {k : IntKind} {h sz o' : Nat} (hT : P.underlying T = some (.slice E)) (hx : ev L x = some (.slice (some ⟨b, o, none⟩) len c)) (hy : ev L y = some (.int k (h : Int))) (hh : h ≤ len) (hlc : len < c ∨ h < c) (hs : sz? P E = some sz) (ho : o + h * sz = o') : Qt P ⟨dst, .slice T x (some y) none none, ty, pos, af, g⟩ n m R L (.slice (some ⟨b, o', none⟩) (len - h) (c - h)) :=
  .of fun a w hF _ => by
    have h1 : (0 : Int) ≤ (h : Int) ∧ (h : Int) ≤ (len : Int) := by omega
    have hne : c ≠ h := by omega
    simp [execOp, hF.eval hx, hF.eval hy, Instr.sliceAt, Instr.slice, run_underlying hT, Instr.sliceBounds, Instr.sliceBound, asIntOf, h1, hh, hne, run_sizeOf_of hs, add_plain, ho]
theorem r_slhi' {T E : TypeId} {A : Option Addr} {len c : Nat} {k : IntKind} {i : Int} (h : Nat) {sz : Nat} (hT : P.underlying T = some (.slice E)) (hx : ev L x = some (.slice A len c)) (hy : ev L y = some (.int k i)) (hi : i = (h : Int)) (hh : h ≤ c) (hs : sz? P E = some sz) : Qt P ⟨dst, .slice T x none (some y) none, ty, pos, af, g⟩ n m R L (.slice A h c) := by
  subst hi; exact r_slhi hT hx hy hh hs
theorem Src.sl {α : Type _} {r : Rep α} {sz c : Nat} {A : Option Addr} {xs : List α} {ys : List Value} (h : Sl r sz m A c xs) (hA : A = none → c = 0) (hy : ∀ ad, A = some ad → ∀ j u, ys[j]? = some u → m.cell? (ad.add j) = some u) (hn : A = none → ys = []) : Src s m R A c ys :=
  ⟨fun w hS j u hj => by
    cases A with
    | none => rw [hn rfl] at hj; simp at hj
    | some ad => exact ⟨ad, rfl, hS.inW.cell (hy ad rfl j u hj)⟩, hA⟩
end
theorem flatten_get {sz : Nat} (hsz : 0 < sz) : ∀ (yss : List (List Value)), (∀ es ∈ yss, es.length = sz) → ∀ j k, k < sz → yss.flatten[j * sz + k]? = (yss[j]?).bind (fun es => es[k]?)
  | [], _, j, k, _ => by simp
  | es :: r, h, 0, k, hk => by
    have he := h es (by simp)
    simp only [List.flatten_cons, Nat.zero_mul, Nat.zero_add, List.getElem?_cons_zero, Option.bind_some]
    rw [List.getElem?_append_left (by omega)]
  | es :: r, h, j + 1, k, hk => by
    have he := h es (by simp)
    simp only [List.flatten_cons, List.getElem?_cons_succ]
    rw [List.getElem?_append_right (by rw [he, Nat.succ_mul]; omega), he, show (j + 1) * sz + k - sz = j * sz + k by rw [Nat.succ_mul]; omega]
    exact flatten_get hsz r (fun es hes => h es (by simp [hes])) j k hk
theorem flatten_len {sz : Nat} : ∀ (yss : List (List Value)), (∀ es ∈ yss, es.length = sz) → yss.flatten.length = yss.length * sz
  | [], _ => by simp
  | es :: r, h => by
    have he := h es (by simp)
    simp only [List.flatten_cons, List.length_append, List.length_cons, flatten_len r (fun es hes => h es (by simp [hes])), he, Nat.succ_mul]; omega
def repL (es : List Value) (n : Nat) : List Value := (List.replicate n es).flatten
theorem repL_len {es : List Value} {sz : Nat} (h : es.length = sz) (n : Nat) : (repL es n).length = n * sz := by
  rw [repL, flatten_len (sz := sz)]
  · simp
  · intro x hx; rw [(List.mem_replicate.1 hx).2, h]
theorem repL_add (es : List Value) (n d : Nat) : repL es (n + d) = repL es n ++ repL es d := by
  rw [repL, repL, repL, ← List.flatten_append, List.replicate_append_replicate]
theorem repL_get {es : List Value} {sz n j k : Nat} (h : es.length = sz) (hj : j < n) (hk : k < sz) : (repL es n)[j * sz + k]? = es[k]? := by
  rw [repL, flatten_get (by omega) _ (fun x hx => by rw [(List.mem_replicate.1 hx).2, h]) j k hk]
  simp [List.getElem?_replicate, hj]
theorem repL_one (es : List Value) : repL es 1 = es := by simp [repL]
theorem repL_step {es Z : List Value} {sz n k d : Nat} (h : es.length = sz) (hd : n + d ≤ k) :
    (repL es n ++ Z.drop (n * sz)).take (n * sz) ++ repL es d ++ (repL es n ++ Z.drop (n * sz)).drop (n * sz + (repL es d).length) = repL es (n + d) ++ Z.drop ((n + d) * sz) := by
  have e1 := repL_len h n
  have e2 := repL_len h d
  rw [List.take_left' e1, repL_add, e2]
  congr 1
  rw [List.drop_append, List.drop_of_length_le (by rw [e1]; omega), List.nil_append, e1, List.drop_drop]
  congr 1
  rw [Nat.add_mul]; omega
theorem repL_pre {es Z : List Value} {sz n d : Nat} (h : es.length = sz) (hd : d ≤ n) {j : Nat} {u : Value} (hj : (repL es d)[j]? = some u) : (repL es n ++ Z.drop (n * sz))[j]? = some u := by
  have hlt := (List.getElem?_eq_some_iff.1 hj).1
  obtain ⟨e, rfl⟩ : ∃ e, n = d + e := ⟨n - d, by omega⟩
  rw [repL_add, List.append_assoc, List.getElem?_append_left hlt, hj]
theorem repL_one' {es : List Value} (h : ∀ u ∈ es, u.oneCell' = true) (n : Nat) : (repL es n).all (·.oneCell') = true := by
  rw [List.all_eq_true]
  intro u hu
  simp only [repL, List.mem_flatten, List.mem_replicate] at hu
  obtain ⟨l, ⟨_, rfl⟩, hu⟩ := hu
  exact h u hu
section
variable {P : Program} {ops : Array Oper} {Q : Post} {n : Nat} {s : Start} {m m0 : Imm} {R R0 : List Res} {L : Loc} {listed : Array Bool} {fuel : Nat}
def DA (P : Program) (ops : Array Oper) (Q : Post) (m0 : Imm) (R0 : List Res) (fuel : Nat) (listed : Array Bool) (n : Nat) (s : Start) (m : Imm) (R : List Res) (L : Loc) : Prop :=
  Region.noSelect ops = true → ∀ a w, Fr n L a → St s m R w → Pre m0 R0 w → AnyE P .any ops (Nrm Q) (Pre m0 R0) fuel listed a w
theorem C_drawnA {id : Nat} {l : List Oper} (k N : Nat) (hN : l.length = N) (hm : P.follows .mixedOrders = true) (hs : Region.noSelect l.toArray = true)
    (h : DA P l.toArray Q m (R.drop k) N (Array.replicate l.length false) n s m R L) : CW P (.region id l.toArray true) Q n s m R L := fun a w hF hS => by
  subst hN
  refine wp_mono (Q := Nrm Q) (wp_region_any hm ?_) (fun e a w q => by cases e <;> first | exact q | exact q.elim)
  have h1 := h hs a { w with drawn := w.drawn + 1 } hF (hS.evolve (Evolve.drew w)) ((hS.evolve (Evolve.drew w)).toPre.sub (List.drop_sublist k R))
  simpa using h1.any
theorem A_yields {i : Nat} {o : Oper} {v : Value} (hc : (Region.free .any ops listed i && (Region.ready .any ops listed).contains i) = true) (hi : ops[i]? = some o) (hy : ∀ a w, Fr n L a → St s m R w → YieldsE P ops (Pre m0 R0) o v a) {L' : Loc} (hL : ∀ a, Fr n L a → Fr n L' (a.put o.dst v))
    (next : DA P ops Q m0 R0 fuel (listed.setIfInBounds i true) n s m R L') : DA P ops Q m0 R0 (fuel + 1) listed n s m R L := fun hs a w hF hS hp => by
  simp only [Bool.and_eq_true] at hc
  refine AnyE_first (fun w w' hw he => hw.evolve he) hi (Region.noSelect_spec hs) (fun c a w h => h.elim) fuel listed a w (Region.free_spec hi hc.1) (by simpa using hc.2) (hy a w hF hS) hp ?_
  exact next hs _ _ (hL a hF) hS hp
theorem A_q {i d : Nat} {op : Op} {ty : TypeId} {pos : String} {af : Array Edge} {v : Value} (hc : (Region.free .any ops listed i && (Region.ready .any ops listed).contains i) = true) (hi : ops[i]? = some ⟨some d, op, ty, pos, af, none⟩) (h : Qt P ⟨some d, op, ty, pos, af, none⟩ n m0 R0 L v) (hd : Nat.blt d n = true)
    (next : DA P ops Q m0 R0 fuel (listed.setIfInBounds i true) n s m R ((d, v) :: L)) : DA P ops Q m0 R0 (fuel + 1) listed n s m R L :=
  A_yields hc hi (fun a w hF _ => .inl ⟨wanted_none rfl _, fun w' hp => h a w' hF hp⟩) (fun a hF => hF.put hd v) next
def LeftA (P : Program) (ops : Array Oper) (Q : Post) (m0 : Imm) (R0 : List Res) (fuel : Nat) (listed : Array Bool) : Post
  | .normal, a, w => ∀ w', Evolve w w' → Pre m0 R0 w' ∧ AnyE P .any ops (Nrm Q) (Pre m0 R0) fuel listed a w'
  | _, _, _ => False
def A1 (P : Program) (ops : Array Oper) (Q : Post) (m0 : Imm) (R0 : List Res) (fuel : Nat) (listed : Array Bool) (n : Nat) (s : Start) (m : Imm) (R : List Res) (L : Loc) (i : Nat) : Prop :=
  ∃ o, ops[i]? = some o ∧ (Region.noSelect ops = true → WL P ops (LeftA P ops Q m0 R0 fuel (listed.setIfInBounds i true)) [o] n s m R L)
theorem A_of {is : List Nat} (hr : Region.ready .any ops listed = is) (hne : is.isEmpty = false) (h : ∀ i ∈ is, A1 P ops Q m0 R0 fuel listed n s m R L i) : DA P ops Q m0 R0 (fuel + 1) listed n s m R L := fun hs a w hF hS hp => by
  intro w' hev
  refine ⟨fun h0 => (by rw [hr] at h0; rw [h0] at hne; cases hne), fun i hi' => ?_⟩
  rw [hr] at hi'
  obtain ⟨o, hi, h⟩ := h i hi'
  have h1 := h hs a w' hF (hS.evolve hev)
  unfold wpOp
  simp only [hi]
  unfold wpList at h1
  split
  · rename_i hw
    rw [if_pos hw] at h1
    rcases h1 with h1 | ⟨_, a0, w0, hf⟩
    · refine .inl ?_
      unfold Oper.wp at *
      generalize (execOp a.eval o).run P w' = r at *
      cases r with
      | ok n' w'' =>
        cases n' <;> simp only [Oper.upon] at h1 ⊢
        case value u => exact h1 _ (Evolve.refl _)
        case skip => exact h1 _ (Evolve.refl _)
        case defer d => exact h1 _ (Evolve.refl _)
        case enter f args =>
          refine Calls.mono h1 fun e w3 he => ?_
          cases e with
          | returned u => exact he _ (Evolve.refl _)
          | panicked c => exact he.elim
          | outgrown => obtain ⟨_, _, hf⟩ := he; exact hf.elim
        case row row args => exact Rows.mono h1 fun u w3 he => he _ (Evolve.refl _)
      | halt z w'' => cases z <;> simp only [Oper.upon] at h1 ⊢; exact h1.elim
    · exact hf.elim
  · rename_i hw
    rw [if_neg hw] at h1
    exact h1 _ (Evolve.refl _)
theorem A_one {i : Nat} {o : Oper} (hr : (Region.ready .any ops listed == [i]) = true) (hi : ops[i]? = some o) (h : Region.noSelect ops = true → WL P ops (LeftA P ops Q m0 R0 fuel (listed.setIfInBounds i true)) [o] n s m R L) : DA P ops Q m0 R0 (fuel + 1) listed n s m R L :=
  A_of (by simpa using hr) rfl (fun j hj => by obtain rfl : j = i := by simpa using hj
                                               exact ⟨o, hi, h⟩)
theorem A_two {i j : Nat} {oi oj : Oper} (hr : (Region.ready .any ops listed == [i, j]) = true) (hi : ops[i]? = some oi) (hj : ops[j]? = some oj) (h : Region.noSelect ops = true → WL P ops (LeftA P ops Q m0 R0 fuel (listed.setIfInBounds i true)) [oi] n s m R L)
    (h' : Region.noSelect ops = true → WL P ops (LeftA P ops Q m0 R0 fuel (listed.setIfInBounds j true)) [oj] n s m R L) : DA P ops Q m0 R0 (fuel + 1) listed n s m R L :=
  A_of (is := [i, j]) (by simpa using hr) rfl (fun k hk => by
    rcases List.mem_cons.1 hk with rfl | hk
    · exact ⟨oi, hi, h⟩
    · obtain rfl : k = j := by simpa using hk
      exact ⟨oj, hj, h'⟩)
theorem A_three {i j k : Nat} {oi oj ok : Oper} (hr : (Region.ready .any ops listed == [i, j, k]) = true) (hi : ops[i]? = some oi) (hj : ops[j]? = some oj) (hk : ops[k]? = some ok) (h : Region.noSelect ops = true → WL P ops (LeftA P ops Q m0 R0 fuel (listed.setIfInBounds i true)) [oi] n s m R L)
    (h' : Region.noSelect ops = true → WL P ops (LeftA P ops Q m0 R0 fuel (listed.setIfInBounds j true)) [oj] n s m R L) (h'' : Region.noSelect ops = true → WL P ops (LeftA P ops Q m0 R0 fuel (listed.setIfInBounds k true)) [ok] n s m R L) : DA P ops Q m0 R0 (fuel + 1) listed n s m R L :=
  A_of (is := [i, j, k]) (by simpa using hr) rfl (fun q hq => by
    simp only [List.mem_cons, List.not_mem_nil, or_false] at hq
    rcases hq with rfl | rfl | rfl
    · exact ⟨oi, hi, h⟩
    · exact ⟨oj, hj, h'⟩
    · exact ⟨ok, hk, h''⟩)
theorem A_four {i j k l : Nat} {oi oj ok ol : Oper} (hr : (Region.ready .any ops listed == [i, j, k, l]) = true) (hi : ops[i]? = some oi) (hj : ops[j]? = some oj) (hk : ops[k]? = some ok) (hl : ops[l]? = some ol) (h : Region.noSelect ops = true → WL P ops (LeftA P ops Q m0 R0 fuel (listed.setIfInBounds i true)) [oi] n s m R L)
    (h' : Region.noSelect ops = true → WL P ops (LeftA P ops Q m0 R0 fuel (listed.setIfInBounds j true)) [oj] n s m R L) (h'' : Region.noSelect ops = true → WL P ops (LeftA P ops Q m0 R0 fuel (listed.setIfInBounds k true)) [ok] n s m R L)
    (h3 : Region.noSelect ops = true → WL P ops (LeftA P ops Q m0 R0 fuel (listed.setIfInBounds l true)) [ol] n s m R L) : DA P ops Q m0 R0 (fuel + 1) listed n s m R L :=
  A_of (is := [i, j, k, l]) (by simpa using hr) rfl (fun q hq => by
    simp only [List.mem_cons, List.not_mem_nil, or_false] at hq
    rcases hq with rfl | rfl | rfl | rfl
    · exact ⟨oi, hi, h⟩
    · exact ⟨oj, hj, h'⟩
    · exact ⟨ok, hk, h''⟩
    · exact ⟨ol, hl, h3⟩)
theorem A_left (hs : Region.noSelect ops = true) (hp : ∀ w, St s m R w → Pre m0 R0 w) (h : DA P ops Q m0 R0 fuel listed n s m R L) : WL P ops (LeftA P ops Q m0 R0 fuel listed) [] n s m R L :=
  WL_nil fun a w hF hS w' hev => ⟨hp _ (hS.evolve hev), h hs a w' hF (hS.evolve hev) (hp _ (hS.evolve hev))⟩
theorem A_leftw (hs : Region.noSelect ops = true) (hm : m0.le m) (hR : R0.Sublist R) (h : DA P ops Q m0 R0 fuel listed n s m R L) : WL P ops (LeftA P ops Q m0 R0 fuel listed) [] n s m R L := A_left hs (fun _ hw => hw.toPre.weak hm hR) h
theorem A_end (hr : (Region.ready .any ops listed).isEmpty = true) (h : NX Q n s m R L) : DA P ops Q m0 R0 0 listed n s m R L := fun hs a w hF hS hp =>
  fun w' hev => ⟨by simpa using hr, h a w' hF (hS.evolve hev)⟩
def Cut (n : Nat) (s : Start) (X : Type) (M : X → Imm) (Rc : X → List Res) (Lc : X → Loc) (C : X → Prop) (a : Act) (w : World) : Prop := ∃ x, C x ∧ Fr n (Lc x) a ∧ St s (M x) (Rc x) w
theorem CW_cut {x y : Code} (X : Type) (M : X → Imm) (Rc : X → List Res) (Lc : X → Loc) (C : X → Prop) (h1 : CW P x (Exit.then (Cut n s X M Rc Lc C) Q) n s m R L) (h2 : ∀ x, C x → CW P y Q n s (M x) (Rc x) (Lc x)) : CW P (.seq x y) Q n s m R L := fun a w hF hS =>
  wp_seq (wp_mono (h1 a w hF hS) fun e a' w' hq => by
    cases e with
    | normal => obtain ⟨z, hC, hF, hS⟩ := hq; exact h2 z hC a' w' hF hS
    | exit id => exact hq
    | goto l => exact hq
    | ret => exact hq
    | panic ch => exact hq
    | outgrown => exact hq)
theorem NX_cut {X : Type} {M : X → Imm} {Rc : X → List Res} {Lc : X → Loc} {C : X → Prop} {R' : List Res} (x : X) (hC : C x) (ks : List Nat) (hL : sel L ks = Lc x) (hR : R.Perm (Rc x ++ R')) (hm : m = M x) : NX (Exit.then (Cut n s X M Rc Lc C) Q) n s m R L := fun a w hF hS => by
  subst hm
  exact ⟨x, hC, hL ▸ hF.keep ks, (hS.perm hR).sub (List.sublist_append_left _ _)⟩
end
theorem perm_erase {α : Type _} {x : α} : ∀ {l : List α} {i : Nat}, l[i]? = some x → l.Perm (x :: l.eraseIdx i)
  | [], i, h => by simp at h
  | y :: l, 0, h => by simp only [List.getElem?_cons_zero, Option.some.injEq] at h; subst h; exact List.Perm.refl _
  | y :: l, i + 1, h => by
    simp only [List.getElem?_cons_succ] at h
    exact ((perm_erase h).cons y).trans (List.Perm.swap _ _ _)
theorem perm_take {α : Type _} {l r : List α} {x : α} (i : Nat) (hi : l[i]? = some x) (h : (l.eraseIdx i).Perm r) : l.Perm (x :: r) := (perm_erase hi).trans (h.cons x)
theorem Pre.putBox {m : Imm} {R : List Res} {w : World} {i b T : Nat} {l : List Value} (h : Pre m R w) (hi : R[i]? = some (bx b T l)) :
    In (m.put b (.cells l.toArray T (0, 0))) w ∧ m.le (m.put b (.cells l.toArray T (0, 0))) ∧ ∀ o v, l[o]? = some v → (m.put b (.cells l.toArray T (0, 0))).cell? ⟨b, o, none⟩ = some v := by
  have hm : m b = none := h.apart _ (List.mem_of_getElem? hi) b rfl
  have hb : w.heap[b]? = some (.cells l.toArray T (0, 0)) := h.at hi
  refine ⟨fun k u hk => ?_, Imm.le_put hm, fun o v hv => by simp [Imm.cell?, Imm.put, hv]⟩
  unfold Imm.put at hk
  split at hk
  · rename_i e; subst e; simp only [Option.some.injEq] at hk; subst hk; exact hb
  · exact h.inW k u hk
section
variable {P : Program} {ops : Array Oper} {Q : Post} {rest : List Oper} {n : Nat} {s : Start} {m : Imm} {R : List Res} {L : Loc}
variable {d : Nat} {dst : Option Nat} {ty : TypeId} {pos : String} {af : Array Edge} {g : Option (Nat × Bool)} {x y : Operand}
theorem r_quietb {f : FuncId} {xs : List Operand} {tys : Array TypeId} {vs : List Value} {v : Value} {b T : Nat} {l : List Value} (i : Nat) (hi : R[i]? = some (bx b T l))
    (hq : ∀ m', m.le m' → (∀ o v, l[o]? = some v → m'.cell? ⟨b, o, none⟩ = some v) → Quiet P f vs m' v) (hf : hasBody P f = true) (hxs : evs L xs = some vs) : Qt P ⟨dst, .call ⟨.value (.func f), xs.toArray, tys⟩, ty, pos, af, g⟩ n m R L v :=
  r_quietx (fun w hp => ⟨_, (hp.putBox hi).1, hq _ (hp.putBox hi).2.1 (hp.putBox hi).2.2⟩) hf hxs
abbrev IRow := Option Nat × Nat × List Int
abbrev IRow.res (E : TypeId) (x : IRow) : Res := rowI E x.1 x.2.1 x.2.2
abbrev IRow.val (x : IRow) : Value := slI x.1 x.2.1 x.2.2
theorem set_mid {α β : Type _} (f : α → β) (RR : List β) (v : α) : ∀ (rs : List α) (k : Nat), k < rs.length → (rs.map f ++ RR).set k (f v) = (rs.set k v).map f ++ RR
  | [], k, h => by simp at h
  | x :: r, 0, h => by simp
  | x :: r, k + 1, h => by
    simp only [List.map_cons, List.cons_append, List.set_cons_succ]
    rw [set_mid f RR v r k (by simpa using h)]
theorem get_mid {α β : Type _} {f : α → β} {RR : List β} {rs : List α} {k : Nat} {x : α} (h : rs[k]? = some x) : (rs.map f ++ RR)[k]? = some (f x) := by
  have hk : k < rs.length := (List.getElem?_eq_some_iff.1 h).1
  rw [List.getElem?_append_left (by simpa using hk), List.getElem?_map, h]; rfl
theorem S_appendM {T E bytes n2 c2 k : Nat} {z : Value} {A2 : Option Addr} {r1 r2 : Res} {rs : List IRow} {RR : List Res} {it : IRow} (zs : List Int) (hR : R = r1 :: r2 :: (rs.map (IRow.res E) ++ RR)) (hk : rs[k]? = some it)
    (hx : ev L x = some it.val) (hy : ev L y = some (.slice A2 n2 c2))
    (hT : P.underlying T = some (.slice E)) (hs : sz? P E = some 1) (hz : zero? P E = some z) (hby : byt? P E = some bytes) (hzs : z.cells.size = 1)
    (hl : zs.length = n2) (hc : Src s m R A2 c2 (zs.map (Value.int .i64)))
    (hb : (it.2.2.length + zs.length) * bytes ≤ 140737488355328) (hd : Nat.blt d n = true)
    (next : ∀ g' c', (0 < (it.2.2 ++ zs).length → ∃ b, g' = some b) → WL P ops Q rest n s m (r1 :: r2 :: ((rs.set k (g', c', it.2.2 ++ zs)).map (IRow.res E) ++ RR)) ((d, IRow.val (g', c', it.2.2 ++ zs)) :: L)) (hbz : Nat.blt 0 bytes = true := by rfl) :
    WL P ops Q (⟨some d, .call ⟨.builtin .append, #[x, y], #[T, T]⟩, ty, pos, af, none⟩ :: rest) n s m R L := by
  subst hR
  have hkl : k < rs.length := (List.getElem?_eq_some_iff.1 hk).1
  refine S_appendI (l := it.2.2) zs (k + 2) hx hy (by simp only [List.getElem?_cons_succ]; exact get_mid hk) hT hs hz hby hzs hl hc hb hd (fun g' c' hg => ?_) hbz
  have := next g' c' hg
  simp only [List.set_cons_succ]
  rw [show rowI E g' c' (it.2.2 ++ zs) = IRow.res E (g', c', it.2.2 ++ zs) from rfl, set_mid _ _ _ _ _ hkl]
  exact this
theorem S_storeM {T E b k n' cap : Nat} {rs : List IRow} {it : IRow} (i : Nat) (hx : ev L x = some (.pointer (some ⟨b, k, none⟩))) (hy : ev L y = some it.val) (hs : sz? P T = some 1) (hi : R[i]? = some (row (some b) n' cap E 1 (rs.map IRow.val)))
    (hk : k < rs.length) (next : WL P ops Q rest n s m (R.set i (row (some b) n' cap E 1 ((rs.set k it).map IRow.val))) L) : WL P ops Q (⟨none, .store T x y, ty, pos, af, none⟩ :: rest) n s m R L :=
  S_storer1 i hx hy rfl rfl hs hi (by simpa using hk) (by rw [← List.map_set]; exact next)
theorem CW_matrix {c : Code} {b n' cap E' : Nat} (E : TypeId) {RR : List Res} (next : CW P c Q n s m (row (some b) n' cap E' 1 ((List.replicate n' ((none, 0, []) : IRow)).map IRow.val) :: ((List.replicate n' ((none, 0, []) : IRow)).map (IRow.res E) ++ RR)) L) :
    CW P c Q n s m (row (some b) n' cap E' 1 (List.replicate n' (.slice none 0 0)) :: RR) L := fun a w hF hS => by
  have e : (List.replicate n' ((none, 0, []) : IRow)).map IRow.val = List.replicate n' (.slice none 0 0) := by simp [IRow.val, slI, rowA]
  rw [e] at next
  have h : ∀ q, St s m ((List.replicate q ((none, 0, []) : IRow)).map (IRow.res E) ++ row (some b) n' cap E' 1 (List.replicate n' (.slice none 0 0)) :: RR) w := by
    intro q
    induction q with
    | zero => simpa using hS
    | succ q ih =>
      have := ih.nilRow E 1
      rw [List.replicate_succ, List.map_cons, List.cons_append]
      exact this
  exact next a w hF ((h n').perm List.perm_middle)
theorem St.freezeRows {E : TypeId} {w : World} : ∀ (rs : List IRow) {m : Imm} {RR : List Res}, St s m (rs.map (IRow.res E) ++ RR) w → (∀ k, ¬ s.mods k) → (∀ x ∈ rs, ∀ z ∈ x.2.2, I64 z) → (∀ x ∈ rs, x.2.2.length ≤ 140737488355328) →
    ∃ m', m.le m' ∧ St s m' RR w ∧ ∀ x ∈ rs, Ints m' (rowA x.1) x.2.1 x.2.2
  | [], m, RR, h, _, _, _ => ⟨m, Imm.le_refl m, h, by simp⟩
  | x :: r, m, RR, h, hm, hr, hlen => by
    have hx := row_g (h.at (i := 0) (r := IRow.res E x) rfl)
    obtain ⟨m1, h1, h2, h3⟩ := h.freezeAt (i := 0) (gg := x.1) rfl hm
    obtain ⟨m2, h4, h5, h6⟩ := St.freezeRows r (m := m1) (RR := RR) h2 hm (fun y hy => hr y (by simp [hy])) (fun y hy => hlen y (by simp [hy]))
    refine ⟨m2, Imm.le_trans h1 h4, h5, fun y hy => ?_⟩
    rcases List.mem_cons.1 hy with rfl | hy
    · have hI : Ints m1 (rowA y.1) y.2.1 y.2.2 := Ints_frz h3 hx.2.1 hx.2.2.1 (hlen y (by simp)) (fun hp => by
        cases hg : y.1 with
        | none => have := (hx.2.2.2.1 hg).1; omega
        | some b => exact ⟨b, rfl⟩) (hr y (by simp))
      exact hI.mono rI_mono h4
    · exact h6 y hy
theorem SlS_frz {cap : Nat} {gg : Option Nat} {rs : List IRow} {m' : Imm} (hf : Frz gg (rs.map IRow.val) m') (h1 : rs.length ≤ cap) (h2 : cap ≤ maxLen) (hlen : rs.length ≤ 140737488355328) (hg : 0 < rs.length → ∃ b, gg = some b) (hr : ∀ x ∈ rs, Ints m' (rowA x.1) x.2.1 x.2.2) :
    Sl (rS rI 1) 1 m' (rowA gg) cap (rs.map fun x => x.2.2) :=
  Sl_frz hf (by simpa using h1) h2 (by simpa using hlen) (by simpa using hg) fun j z hj => by
    rw [List.getElem?_map] at hj
    cases hx : rs[j]? with
    | none => rw [hx] at hj; simp at hj
    | some x =>
      rw [hx] at hj
      simp only [Option.map_some, Option.some.injEq] at hj
      subst hj
      refine ⟨[IRow.val x], rfl, ⟨_, _, rfl, hr x (List.mem_of_getElem? hx)⟩, fun k v hk => ?_⟩
      rcases k with _ | k
      · simp only [List.getElem?_cons_zero, Option.some.injEq] at hk; subst hk; simp [hx]
      · simp at hk
theorem RX_freezeM {E E' : TypeId} {b n' cap : Nat} {rs : List IRow} {RR : List Res} (hR : R = row (some b) n' cap E' 1 (rs.map IRow.val) :: (rs.map (IRow.res E) ++ RR)) (hm : ∀ k, ¬ s.mods k) (hr : ∀ x ∈ rs, ∀ z ∈ x.2.2, I64 z) (hlen : ∀ x ∈ rs, x.2.2.length ≤ 140737488355328) (hn : rs.length ≤ 140737488355328)
    (next : ∀ m', m.le m' → Sl (rS rI 1) 1 m' (some ⟨b, 0, none⟩) cap (rs.map fun x => x.2.2) → n' = rs.length → RX Q n s m' RR L) : RX Q n s m R L := fun a w hF hS => by
  subst hR
  obtain ⟨h1, h2, h3, _⟩ := row_g (hS.at (i := 0) rfl)
  obtain ⟨m1, l1, S1, f1⟩ := hS.freezeAt (i := 0) (gg := some b) rfl hm
  obtain ⟨m2, l2, S2, f2⟩ := St.freezeRows rs (m := m1) (RR := RR) S1 hm hr hlen
  have hn' : n' = rs.length := by simp at h1; omega
  refine next m2 (Imm.le_trans l1 l2) (SlS_frz (gg := some b) (fun b' hb o v hv => l2.cell (f1 b' hb o v hv)) (by omega) h3 hn (fun _ => ⟨b, rfl⟩) f2) hn' a w hF S2
end
end Go.Proofs.YtipmgkhjoekaaaaGreat.Fw
namespace Go.Proofs.YtipmgkhjoekaaaaGreat
open Go Go.Proofs.YtipmgkhjoekaaaaGreat.Fw
theorem Ints_all {m : Imm} {A : Option Addr} {c : Nat} {l : List Int} (h : Ints m A c l) : ∀ z ∈ l, I64 z := by
  intro z hz
  obtain ⟨j, hj, rfl⟩ := List.getElem_of_mem hz
  obtain ⟨ad, _, es, _, ⟨_, h2⟩, _⟩ := h.at_ j _ (List.getElem?_eq_getElem hj)
  exact h2
theorem Src_ints {s : Fw.Start} {m : Imm} {R : List Res} {A : Option Addr} {c : Nat} {l : List Int} (h : Ints m A c l) (hA : A.isNone = false) : Src s m R A c (l.map (Value.int .i64)) := by
  obtain ⟨ad, rfl⟩ : ∃ ad, A = some ad := by cases A <;> simp_all
  refine ⟨fun w hS j u hj => ⟨ad, rfl, ?_⟩, fun e => by cases e⟩
  rw [List.getElem?_map] at hj
  cases hz : l[j]? with
  | none => rw [hz] at hj; simp at hj
  | some z =>
    rw [hz] at hj
    simp only [Option.map_some, Option.some.injEq] at hj
    subst hj
    obtain ⟨h1, _⟩ := Sl.getI h rfl hz
    exact hS.inW.cell (by simpa using h1)
theorem Ints_none {m : Imm} {A : Option Addr} {c : Nat} {l : List Int} (h : Ints m A c l) (hA : A.isNone = true) : l = [] := by
  cases l with
  | nil => rfl
  | cons x r => obtain ⟨ad, rfl⟩ := h.ad (j := 0) (by simp); simp at hA
theorem range_all_true {p : Nat → Bool} {n : Nat} (h : ∀ j, j < n → p j = true) : (List.range n).all p = true := by
  rw [List.all_eq_true]; intro j hj; exact h j (List.mem_range.1 hj)
theorem range_all_false {p : Nat → Bool} {n k : Nat} (hk : k < n) (h : p k = false) : (List.range n).all p = false := by
  rw [List.all_eq_false]; exact ⟨k, List.mem_range.2 hk, by simp [h]⟩
theorem getD_of {l : List Int} {k : Nat} {z d : Int} (h : l[k]? = some z) : l.getD k d = z := by simp [List.getD, h]
def prevL (l : List Int) (j : Nat) : Int := ((-1 : Int) :: l).getD j 0
theorem prevL_succ {l : List Int} {k : Nat} {z : Int} (h : l[k]? = some z) : prevL l (k + 1) = z := by simp [prevL, List.getD, h]
def okR (l : List Int) (n : Int) (j : Nat) : Bool := decide (prevL l j < l.getD j 0) && decide (l.getD j 0 < n)
def risingP (l : List Int) (n : Int) : Bool := (List.range l.length).all (okR l n)
theorem rising_ok {l : List Int} {n : Int} (h : risingP l n = true) {j : Nat} (hj : j < l.length) : okR l n j = true := by
  rw [risingP, List.all_eq_true] at h; exact h j (List.mem_range.2 hj)
theorem rising_ge {l : List Int} {n : Int} (h : risingP l n = true) : ∀ j, j ≤ l.length → (j : Int) - 1 ≤ prevL l j
  | 0, _ => by simp [prevL]
  | j + 1, hj => by
    have ih := rising_ge h j (by omega)
    have := rising_ok h (j := j) (by omega)
    have hz : l[j]? = some l[j] := List.getElem?_eq_getElem (by omega)
    rw [prevL_succ hz]
    simp only [okR, Bool.and_eq_true, decide_eq_true_eq, getD_of hz] at this
    omega
theorem rising_get {l : List Int} {n : Int} (h : risingP l n = true) {j : Nat} {z : Int} (hz : l[j]? = some z) : 0 ≤ z ∧ z < n := by
  have hj := (List.getElem?_eq_some_iff.1 hz).1
  have h1 := rising_ok h hj
  have h2 := rising_ge h j (by omega)
  simp only [okR, Bool.and_eq_true, decide_eq_true_eq, getD_of hz] at h1
  omega
theorem rising_len {l : List Int} {n : Nat} (h : risingP l n = true) : l.length ≤ n := by
  have h2 := rising_ge h l.length (Nat.le_refl _)
  cases hl : l.length with
  | zero => omega
  | succ q =>
    have hz : l[q]? = some l[q] := List.getElem?_eq_getElem (by omega)
    rw [hl, prevL_succ hz] at h2
    have := (rising_get h hz).2
    omega
def pushAt (out : List (List Int)) (k i : Int) : List (List Int) := out.modify k.toNat (· ++ [i])
def predRow (out : List (List Int)) (i : Int) (l : List Int) : List (List Int) := l.foldl (fun o k => pushAt o k i) out
def predsK (succ : List (List Int)) (k : Nat) : List (List Int) := (List.range k).foldl (fun (o : List (List Int)) (i : Nat) => predRow o (i : Int) (succ.getD i [])) (List.replicate succ.length [])
def predsP (succ : List (List Int)) : List (List Int) := predsK succ succ.length
theorem pushAt_rows {rs : List IRow} {it : IRow} {z : Int} {i : Int} {g' : Option Nat} {c' : Nat} (hk : rs[z.toNat]? = some it) : (rs.set z.toNat (g', c', it.2.2 ++ [i])).map (fun x => x.2.2) = pushAt (rs.map fun x => x.2.2) z i := by
  refine List.ext_getElem? fun j => ?_
  simp only [pushAt, List.getElem?_map, List.getElem?_set, List.getElem?_modify]
  have hlt := (List.getElem?_eq_some_iff.1 hk).1
  by_cases hj : z.toNat = j
  · subst hj
    have e : rs[z.toNat] = it := by rw [List.getElem?_eq_getElem hlt] at hk; exact Option.some.inj hk
    simp [hlt, e]
  · simp [hj]
theorem pushAt_length (out : List (List Int)) (k i : Int) : (pushAt out k i).length = out.length := by simp [pushAt]
theorem predRow_length (i : Int) : ∀ (l : List Int) (out : List (List Int)), (predRow out i l).length = out.length
  | [], out => rfl
  | k :: l, out => by simp only [predRow, List.foldl_cons]; exact (predRow_length i l _).trans (pushAt_length _ _ _)
theorem predsK_succ (succ : List (List Int)) (k : Nat) : predsK succ (k + 1) = predRow (predsK succ k) (k : Int) (succ.getD k []) := by simp [predsK, List.range_succ]
theorem predsK_length (succ : List (List Int)) (k : Nat) : (predsK succ k).length = succ.length := by
  induction k with
  | zero => simp [predsK]
  | succ k ih => rw [predsK_succ, predRow_length, ih]
theorem predRow_take {out : List (List Int)} {i : Int} {l : List Int} {j : Nat} {z : Int} (h : l[j]? = some z) : predRow out i (l.take (j + 1)) = pushAt (predRow out i (l.take j)) z i := by
  rw [List.take_add_one, h]; simp [predRow]
theorem predsP_length (succ : List (List Int)) : (predsP succ).length = succ.length := predsK_length succ _
theorem getDl_of {l : List (List Int)} {k : Nat} {z d : List Int} (h : l[k]? = some z) : l.getD k d = z := by simp [List.getD, h]
theorem mem_pushAt {out : List (List Int)} {k i : Int} {l : List Int} (h : l ∈ pushAt out k i) : l ∈ out ∨ ∃ l' ∈ out, l = l' ++ [i] := by
  obtain ⟨j, hj⟩ := List.mem_iff_getElem?.1 h
  simp only [pushAt, List.getElem?_modify] at hj
  split at hj
  · cases ho : out[j]? with
    | none => rw [ho] at hj; simp at hj
    | some l' => rw [ho] at hj; simp at hj; exact .inr ⟨l', List.mem_of_getElem? ho, hj.symm⟩
  · cases ho : out[j]? with
    | none => rw [ho] at hj; simp at hj
    | some l' => rw [ho] at hj; simp at hj; subst hj; exact .inl (List.mem_of_getElem? ho)
theorem predRow_all {p : Int → Prop} {i : Int} (hi : p i) : ∀ (l : List Int) (out : List (List Int)), (∀ r ∈ out, ∀ z ∈ r, p z) → ∀ r ∈ predRow out i l, ∀ z ∈ r, p z
  | [], out, h => h
  | k :: l, out, h => by
    simp only [predRow, List.foldl_cons]
    refine predRow_all hi l _ (fun r hr z hz => ?_)
    rcases mem_pushAt hr with hr | ⟨l', hl', rfl⟩
    · exact h r hr z hz
    · rcases List.mem_append.1 hz with hz | hz
      · exact h l' hl' z hz
      · simp at hz; subst hz; exact hi
theorem predsK_all {p : Int → Prop} {succ : List (List Int)} : ∀ (k : Nat), (∀ i : Nat, i < k → p (i : Int)) → ∀ r ∈ predsK succ k, ∀ z ∈ r, p z
  | 0, _ => by intro r hr z hz; simp [predsK] at hr; rw [hr.2] at hz; simp at hz
  | k + 1, h => by rw [predsK_succ]; exact predRow_all (h k (by omega)) _ _ (predsK_all k (fun i hi => h i (by omega)))
theorem predsK_i64 {succ : List (List Int)} {k : Nat} (hk : k ≤ 1000000) {l : List Int} (hl : l ∈ predsK succ k) {z : Int} (hz : z ∈ l) : I64 z :=
  predsK_all (p := I64) k (fun i hi => ⟨by omega, by omega⟩) l hl z hz
theorem eq_of_allg {α : Type _} {l l' : List α} (hl : l.length = l'.length) (h : ∀ j, j < l.length → l[j]? = l'[j]?) : l = l' := by
  refine List.ext_getElem? fun j => ?_
  by_cases hj : j < l.length
  · exact h j hj
  · rw [List.getElem?_eq_none (by omega), List.getElem?_eq_none (by omega)]
structure FGraph where
  succ : List (List Int)
  pred : List (List Int)
def rGraph : Rep FGraph := fun m es g => ∃ A c A' c', es = [.slice A g.succ.length c, .slice A' g.pred.length c'] ∧ Sl (rS rI 1) 1 m A c g.succ ∧ Sl (rS rI 1) 1 m A' c' g.pred
theorem rGraph_mono : Mono rGraph := fun _ _ _ _ hm ⟨A, c, A', c', h1, h2, h3⟩ => ⟨A, c, A', c', h1, h2.mono (rS_mono rI_mono) hm, h3.mono (rS_mono rI_mono) hm⟩
def makeP (succ : List (List Int)) : Option FGraph :=
  if decide ((succ.length : Int) < 1) || (decide (64 < (succ.length : Int)) || succ.any fun l => !(risingP l succ.length)) then none else some ⟨succ, predsP succ⟩
def graphQ (r : Option FGraph) : FGraph × Int := match r with
  | none => (⟨[], []⟩, 5)
  | some g => (g, 0)
def GraphΦ (r : Option FGraph) (m : Imm) (v : Value) : Prop := ∃ es, v = .tuple #[.agg es.toArray, .int .i64 (graphQ r).2] ∧ rGraph m es (graphQ r).1
def mayG (g : FGraph) : Bool := (graphQ (makeP g.succ)).2 == 0 && (graphQ (makeP g.succ)).1.pred == g.pred
def depthF (t : List Int) : Nat → Int → Int → Int
  | 0, _, _ => -1
  | f + 1, n, a => if a < 0 ∨ (t.length : Int) ≤ a then -1 else if t.getD a.toNat 0 = -1 then n else depthF t f (n + 1) (t.getD a.toNat 0)
def depthP (t : List Int) (a : Int) : Int := depthF t t.length 0 a
theorem depthF_out {t : List Int} {f : Nat} {n a : Int} (h : a < 0 ∨ (t.length : Int) ≤ a) : depthF t f n a = -1 := by
  cases f with
  | zero => rfl
  | succ f => rw [depthF, if_pos h]
theorem depthF_top {t : List Int} {f : Nat} {n a : Int} (hf : 0 < f) (h : ¬ (a < 0 ∨ (t.length : Int) ≤ a)) (ht : t[a.toNat]? = some (-1)) : depthF t f n a = n := by
  obtain ⟨f, rfl⟩ : ∃ q, f = q + 1 := ⟨f - 1, by omega⟩
  rw [depthF, if_neg h, getD_of ht, if_pos rfl]
theorem depthF_up {t : List Int} {f : Nat} {n a z : Int} (h : ¬ (a < 0 ∨ (t.length : Int) ≤ a)) (ht : t[a.toNat]? = some z) (hz : z ≠ -1) : depthF t (f + 1) n a = depthF t f (n + 1) z := by
  rw [depthF, if_neg h, getD_of ht, if_neg hz]
def topsK (t : List Int) (k : Nat) : Int := (((t.take k).filter (· == -1)).length : Int)
theorem topsK_succ {t : List Int} {k : Nat} {z : Int} (h : t[k]? = some z) : topsK t (k + 1) = if z = -1 then topsK t k + 1 else topsK t k := by
  simp only [topsK, List.take_add_one, h, List.filter_append, Option.toList, List.filter_cons, List.filter_nil]
  by_cases hz : z = -1
  · simp [hz]
  · simp [hz]
theorem topsK_le (t : List Int) (k : Nat) : 0 ≤ topsK t k ∧ topsK t k ≤ k := by
  have := List.length_filter_le (· == (-1 : Int)) (t.take k)
  have h2 := List.length_take_le k t
  simp only [topsK]; omega
def okT (t : List Int) (j : Nat) : Bool := !(!(t.getD j 0 == -2) && decide (depthP t (j : Int) < 0))
def rightT (t : List Int) : Bool := (List.range t.length).all (okT t) && topsK t t.length == 1
def inT (t l : List Int) : Bool := rightT t && !(l.any fun a => decide (depthP t a < 0))
theorem depthF_shift (t : List Int) : ∀ (f : Nat) (n a : Int), depthF t f n a = if depthF t f 0 a < 0 then -1 else n + depthF t f 0 a
  | 0, n, a => by simp [depthF]
  | f + 1, n, a => by
    simp only [depthF]
    split
    · simp
    · split
      · simp
      · rw [depthF_shift t f (n + 1), depthF_shift t f (0 + 1)]
        split
        · simp
        · rename_i h
          rw [if_neg (by omega)]; omega
theorem depthF_ge (t : List Int) (f : Nat) (a : Int) : -1 ≤ depthF t f 0 a := by
  induction f generalizing a with
  | zero => simp [depthF]
  | succ f ih =>
    simp only [depthF]
    split
    · simp
    · split
      · simp
      · rw [depthF_shift]; have := ih (t.getD a.toNat 0); split <;> omega
theorem depthF_fuel (t : List Int) : ∀ (f : Nat) (a : Int), 0 ≤ depthF t f 0 a → depthF t (f + 1) 0 a = depthF t f 0 a
  | 0, a, h => by simp [depthF] at h
  | f + 1, a, h => by
    rw [depthF] at h ⊢
    conv => rhs; rw [depthF]
    split at h
    · omega
    · rename_i h1
      rw [if_neg h1, if_neg h1]
      split at h
      · rename_i h2; rw [if_pos h2, if_pos h2]
      · rename_i h2
        rw [if_neg h2, if_neg h2]
        rw [depthF_shift] at h
        rw [depthF_shift t (f + 1), depthF_shift t f, depthF_fuel t f _ (by split at h <;> omega)]
theorem depth_in {t : List Int} {a : Int} (h : 0 ≤ depthP t a) : 0 ≤ a ∧ a < t.length := by
  rw [depthP] at h
  cases hl : t.length with
  | zero => rw [hl] at h; simp [depthF] at h
  | succ q =>
    rw [hl, depthF, hl] at h
    split at h
    · omega
    · omega
theorem depth_top {t : List Int} {a : Int} (h : 0 ≤ depthP t a) (ht : t[a.toNat]? = some (-1)) : depthP t a = 0 := by
  have := depth_in h
  exact depthF_top (by omega) (by omega) ht
theorem depth_up {t : List Int} {a z : Int} (h : 0 ≤ depthP t a) (ht : t[a.toNat]? = some z) (hz : z ≠ -1) : depthP t z = depthP t a - 1 ∧ 0 ≤ depthP t z := by
  have hin := depth_in h
  obtain ⟨q, hq⟩ : ∃ q, t.length = q + 1 := ⟨t.length - 1, by omega⟩
  simp only [depthP, hq] at h ⊢
  rw [depthF_up (by omega) ht hz, depthF_shift] at h
  rw [depthF_up (a := a) (by omega) ht hz, depthF_shift t q (0 + 1)]
  have hge := depthF_ge t q z
  split at h
  · omega
  · rename_i hn
    rw [depthF_fuel t q z (by omega), if_neg hn]
    omega
theorem topsK_one {t : List Int} (h : topsK t t.length = 1) {i j : Nat} (hi : t[i]? = some (-1)) (hj : t[j]? = some (-1)) : i = j := by
  have key : ∀ (l : List Int), (l.filter (· == (-1 : Int))).length = 1 → ∀ i j : Nat, l[i]? = some (-1) → l[j]? = some (-1) → i = j := by
    intro l
    induction l with
    | nil => intro _ i j hi; simp at hi
    | cons x r ih =>
      intro hl i j hi hj
      by_cases hx : x = -1
      · subst hx
        have hl0 : r.filter (· == (-1 : Int)) = [] := by simpa using hl
        have h0 : ∀ k : Nat, r[k]? ≠ some (-1) := fun k hk => by
          have hm : (-1 : Int) ∈ r.filter (· == (-1 : Int)) := List.mem_filter.2 ⟨List.mem_of_getElem? hk, by simp⟩
          rw [hl0] at hm; cases hm
        cases i with
        | zero => cases j with
          | zero => rfl
          | succ j => exact absurd (by simpa using hj) (h0 j)
        | succ i => exact absurd (by simpa using hi) (h0 i)
      · have hf : ((x :: r).filter (· == (-1 : Int))) = r.filter (· == (-1 : Int)) := by simp [hx]
        rw [hf] at hl
        cases i with
        | zero => simp at hi; exact absurd hi hx
        | succ i => cases j with
          | zero => simp at hj; exact absurd hj hx
          | succ j => rw [ih hl i j (by simpa using hi) (by simpa using hj)]
  refine key t ?_ i j hi hj
  have : t.take t.length = t := List.take_length
  rw [topsK, this] at h; omega
def meetF (t : List Int) : Nat → Int → Int → Int
  | 0, a, _ => a
  | f + 1, a, b => if a = b then a else if depthP t b ≤ depthP t a then meetF t f (t.getD a.toNat 0) b else meetF t f a (t.getD b.toNat 0)
def meetN (t : List Int) (a b : Int) : Nat := (depthP t a + depthP t b).toNat
def meetP (t : List Int) (a b : Int) : Int := if inT t [a, b] then meetF t (meetN t a b) a b else -2
def overP (t : List Int) (a b : Int) : Bool := inT t [a, b] && meetP t a b == a
theorem inT_two {t : List Int} {a b : Int} (h : inT t [a, b] = true) : rightT t = true ∧ 0 ≤ depthP t a ∧ 0 ≤ depthP t b := by
  simp only [inT, List.any_cons, List.any_nil, Bool.or_false, Bool.and_eq_true, Bool.not_eq_true', Bool.or_eq_false_iff, decide_eq_false_iff_not] at h
  exact ⟨h.1, by omega, by omega⟩
theorem meet_up {t : List Int} {a b z : Int} (hr : rightT t = true) (ha : 0 ≤ depthP t a) (hb : 0 ≤ depthP t b) (hne : a ≠ b) (hle : depthP t b ≤ depthP t a) (hz : t[a.toNat]? = some z) : z ≠ -1 := by
  rintro rfl
  have h0 := depth_top ha hz
  have hbi := depth_in hb
  have hai := depth_in ha
  have hzb : t[b.toNat]? = some t[b.toNat] := List.getElem?_eq_getElem (by omega)
  by_cases hb1 : t[b.toNat] = -1
  · rw [hb1] at hzb
    simp only [rightT, Bool.and_eq_true, beq_iff_eq] at hr
    have := topsK_one hr.2 hz hzb
    omega
  · have := depth_up hb hzb hb1; omega
theorem meetF_a {t : List Int} {f : Nat} {a b z : Int} (hne : a ≠ b) (hle : depthP t b ≤ depthP t a) (hz : t[a.toNat]? = some z) : meetF t (f + 1) a b = meetF t f z b := by rw [meetF, if_neg hne, if_pos hle, getD_of hz]
theorem meetF_b {t : List Int} {f : Nat} {a b z : Int} (hne : a ≠ b) (hle : ¬ depthP t b ≤ depthP t a) (hz : t[b.toNat]? = some z) : meetF t (f + 1) a b = meetF t f a z := by rw [meetF, if_neg hne, if_neg hle, getD_of hz]
theorem meetF_eq {t : List Int} {f : Nat} {a : Int} : meetF t f a a = a := by cases f <;> simp [meetF]
structure Climb (t at_ : List Int) (root : Int) (S : Int → Prop) : Prop where
  len : at_.length = t.length
  inn : ∀ a, S a → 0 ≤ a ∧ a < t.length
  nn : ∀ a, S a → 0 ≤ at_.getD a.toNat 0
  up : ∀ a, S a → a ≠ root → S (t.getD a.toNat 0) ∧ at_.getD (t.getD a.toNat 0).toNat 0 < at_.getD a.toNat 0
  inj : ∀ a b, S a → S b → at_.getD a.toNat 0 = at_.getD b.toNat 0 → a = b
  low : ∀ a, S a → at_.getD root.toNat 0 ≤ at_.getD a.toNat 0
def climb (t at_ : List Int) : Nat → Int → Int → Int
  | 0, a, _ => a
  | f + 1, a, b => if a = b then a else if at_.getD b.toNat 0 < at_.getD a.toNat 0 then climb t at_ f (t.getD a.toNat 0) b else climb t at_ f a (t.getD b.toNat 0)
section
variable {t at_ : List Int} {root : Int} {S : Int → Prop}
def atS (at_ : List Int) (a : Int) : Int := at_.getD a.toNat 0
theorem atS_of {at_ : List Int} {a z : Int} (h : at_[a.toNat]? = some z) : atS at_ a = z := getD_of h
def climbP (t at_ : List Int) (a b : Int) : Int := climb t at_ (atS at_ a + atS at_ b).toNat a b
theorem Climb.step (h : Climb t at_ root S) {a b : Int} (ha : S a) (hb : S b) (hlt : atS at_ b < atS at_ a) : S (t.getD a.toNat 0) ∧ atS at_ (t.getD a.toNat 0) < atS at_ a := by
  refine h.up a ha ?_
  rintro rfl
  have := h.low b hb
  simp only [atS] at hlt; omega
theorem climb_fuel (h : Climb t at_ root S) : ∀ (f g : Nat) (a b : Int), S a → S b → atS at_ a + atS at_ b ≤ f → atS at_ a + atS at_ b ≤ g → climb t at_ f a b = climb t at_ g a b
  | 0, 0, a, b, _, _, _, _ => rfl
  | 0, g + 1, a, b, ha, hb, hf, _ => by
    have h1 := h.nn a ha; have h2 := h.nn b hb
    have e : a = b := h.inj a b ha hb (by simp only [atS] at hf; omega)
    subst e; simp [climb]
  | f + 1, 0, a, b, ha, hb, _, hg => by
    have h1 := h.nn a ha; have h2 := h.nn b hb
    have e : a = b := h.inj a b ha hb (by simp only [atS] at hg; omega)
    subst e; simp [climb]
  | f + 1, g + 1, a, b, ha, hb, hf, hg => by
    rw [climb, climb]
    by_cases e : a = b
    · rw [if_pos e, if_pos e]
    · rw [if_neg e, if_neg e]
      by_cases hlt : at_.getD b.toNat 0 < at_.getD a.toNat 0
      · rw [if_pos hlt, if_pos hlt]
        have hs := h.step ha hb hlt
        exact climb_fuel h f g _ _ hs.1 hb (by omega) (by omega)
      · rw [if_neg hlt, if_neg hlt]
        have hne : at_.getD a.toNat 0 ≠ at_.getD b.toNat 0 := fun he => e (h.inj a b ha hb he)
        have hs := h.step hb ha (by simp only [atS]; omega)
        exact climb_fuel h f g _ _ ha hs.1 (by omega) (by omega)
theorem climb_a (h : Climb t at_ root S) {a b : Int} (ha : S a) (hb : S b) (hlt : atS at_ b < atS at_ a) : climbP t at_ a b = climbP t at_ (t.getD a.toNat 0) b := by
  have hs := h.step ha hb hlt
  have h1 := h.nn a ha; have h2 := h.nn b hb; have h3 := h.nn _ hs.1
  obtain ⟨f, hf⟩ : ∃ f, (atS at_ a + atS at_ b).toNat = f + 1 := ⟨(atS at_ a + atS at_ b).toNat - 1, by simp only [atS] at *; omega⟩
  have hne : a ≠ b := by rintro rfl; omega
  rw [climbP, hf, climb, if_neg hne, if_pos (by simpa only [atS] using hlt)]
  exact climb_fuel h _ _ _ _ hs.1 hb (by omega) (by simp only [atS] at *; omega)
theorem climb_b (h : Climb t at_ root S) {a b : Int} (ha : S a) (hb : S b) (hlt : atS at_ a < atS at_ b) : climbP t at_ a b = climbP t at_ a (t.getD b.toNat 0) := by
  have hs := h.step hb ha hlt
  have h1 := h.nn a ha; have h2 := h.nn b hb; have h3 := h.nn _ hs.1
  obtain ⟨f, hf⟩ : ∃ f, (atS at_ a + atS at_ b).toNat = f + 1 := ⟨(atS at_ a + atS at_ b).toNat - 1, by simp only [atS] at *; omega⟩
  have hne : a ≠ b := by rintro rfl; omega
  rw [climbP, hf, climb, if_neg hne, if_neg (by simp only [atS] at hlt; omega)]
  exact climb_fuel h _ _ _ _ ha hs.1 (by omega) (by simp only [atS] at *; omega)
theorem climb_eq (a : Int) : climbP t at_ a a = a := by
  rw [climbP]; cases (atS at_ a + atS at_ a).toNat <;> simp [climb]
end
inductive RA (E : Int → Int → Prop) (P : Int → Prop) : Int → Int → Prop
  | refl {a : Int} : P a → RA E P a a
  | step {a b c : Int} : RA E P a b → E b c → P c → RA E P a c
section
variable {E : Int → Int → Prop} {P P' : Int → Prop}
theorem RA.mono (h : ∀ v, P v → P' v) {a b : Int} (r : RA E P a b) : RA E P' a b := by
  induction r with
  | refl hp => exact .refl (h _ hp)
  | step _ he hp ih => exact .step ih he (h _ hp)
theorem RA.trans {a b c : Int} (r : RA E P a b) (s : RA E P b c) : RA E P a c := by
  induction s with
  | refl _ => exact r
  | step _ he hp ih => exact .step ih he hp
theorem RA.last {a b : Int} (r : RA E P a b) : P b := by cases r <;> assumption
theorem RA.first {a b : Int} (r : RA E P a b) : P a := by induction r <;> assumption
end
inductive Ch (τ : Int → Int) (root : Int) : Int → Int → Prop
  | self {a : Int} : Ch τ root a a
  | up {a w : Int} : a ≠ root → Ch τ root (τ a) w → Ch τ root a w
section
variable {τ τ' : Int → Int} {root : Int}
theorem Ch.inv {a w : Int} (h : Ch τ root a w) : w = a ∨ (a ≠ root ∧ Ch τ root (τ a) w) := by
  cases h with
  | self => exact .inl rfl
  | up h1 h2 => exact .inr ⟨h1, h2⟩
theorem Ch.trans {a b c : Int} (h : Ch τ root a b) (h' : Ch τ root b c) : Ch τ root a c := by
  induction h with
  | self => exact h'
  | up hn _ ih => exact .up hn (ih h')
theorem Ch.total {a b c : Int} (h : Ch τ root a b) (h' : Ch τ root a c) : Ch τ root b c ∨ Ch τ root c b := by
  induction h with
  | self => exact .inl h'
  | up hn hb ih =>
    rcases h'.inv with rfl | ⟨_, h'⟩
    · exact .inr (.up hn hb)
    · exact ih h'
theorem Ch.of_root {w : Int} (h : Ch τ root root w) : w = root := by
  rcases h.inv with rfl | ⟨h, _⟩
  · rfl
  · exact absurd rfl h
theorem Ch.congr {a w x : Int} (hx : ∀ y, y ≠ x → τ' y = τ y) (h : Ch τ root a w) (hn : ¬ Ch τ root a x) : Ch τ' root a w := by
  induction h with
  | self => exact .self
  | @up a w hr h ih =>
    have ha : a ≠ x := by rintro rfl; exact hn .self
    refine .up hr ?_
    rw [hx a ha]
    exact ih (fun h' => hn (.up hr h'))
theorem Ch.congr' {a w x : Int} (hx : ∀ y, y ≠ x → τ' y = τ y) (h : Ch τ' root a w) (hn : ¬ Ch τ root a x) : Ch τ root a w := by
  induction h with
  | self => exact .self
  | @up a w hr h ih =>
    have ha : a ≠ x := by rintro rfl; exact hn .self
    rw [hx a ha] at ih
    exact .up hr (ih (fun h' => hn (.up hr h')))
end
structure Ord (E : Int → Int → Prop) (root : Int) (O : Int → Prop) (π : Int → Int) : Prop where
  r0 : O root
  p0 : π root = 0
  inj : ∀ a b, O a → O b → π a = π b → a = b
  nn : ∀ a, O a → 0 ≤ π a
  pre : ∀ a, O a → a ≠ root → ∃ p, O p ∧ E p a ∧ π p < π a
  out : ∀ a b, O a → E a b → O b
section
variable {E : Int → Int → Prop} {root : Int} {O : Int → Prop} {π : Int → Int} {k r : Int} {τ : Int → Int}
def Sk (O : Int → Prop) (π : Int → Int) (k : Int) (y : Int) : Prop := O y ∧ π y < k
def Mt (E : Int → Int → Prop) (root : Int) (S : Int → Prop) (τ : Int → Int) (x m : Int) : Prop := (∃ p, S p ∧ E p x) ∧ S m ∧ ∀ w, Ch τ root m w ↔ ∀ p, S p → E p x → Ch τ root p w
structure Inv (E : Int → Int → Prop) (root : Int) (O : Int → Prop) (π : Int → Int) (k r : Int) (τ : Int → Int) : Prop where
  kr : O r ∧ π r + 1 = k
  up : ∀ y, Sk O π k y → y ≠ root → Sk O π k (τ y) ∧ π (τ y) < π y
  P : ∀ y, Sk O π k y → y ≠ root → RA E (fun v => v = τ y ∨ ¬ Ch τ root (τ y) v) (τ y) y
  Q : ∀ y, Sk O π k y → ∀ w, ¬ Ch τ root y w → RA E (· ≠ w) root y
  J : ∀ z, Sk O π k z → z ≠ root → ∃ m, Mt E root (Sk O π k) τ z m ∧ (m = τ z ∨ (¬ Ch τ root r z ∧ ∀ w, Ch τ root m w ↔ Ch τ root r w ∧ Ch τ root z w))
theorem Ord.low (h : Ord E root O π) {a : Int} (ha : O a) (hr : a ≠ root) : 0 < π a := by
  have h1 := h.nn a ha
  have h2 : π a ≠ 0 := fun e => hr (h.inj _ _ ha h.r0 (by rw [e, h.p0]))
  omega
theorem Inv.sr (h : Inv E root O π k r τ) : Sk O π k r := ⟨h.kr.1, by have := h.kr.2; omega⟩
theorem Inv.chS (h : Inv E root O π k r τ) {a w : Int} (c : Ch τ root a w) : Sk O π k a → Sk O π k w ∧ π w ≤ π a := by
  induction c with
  | self => intro ha; exact ⟨ha, Int.le_refl _⟩
  | up hr _ ih => intro ha; have h1 := h.up _ ha hr; have h2 := ih h1.1; exact ⟨h2.1, by omega⟩
theorem Inv.anti (ho : Ord E root O π) (h : Inv E root O π k r τ) {a w : Int} (ha : Sk O π k a) (c : Ch τ root a w) (c' : Ch τ root w a) : w = a := by
  have h1 := h.chS c ha
  have h2 := h.chS c' h1.1
  exact ho.inj _ _ h1.1.1 ha.1 (by omega)
theorem Inv.ne (h : Inv E root O π k r τ) {a w : Int} (ha : Sk O π k a) (hr : a ≠ root) (c : Ch τ root (τ a) w) : w ≠ a := by
  have h1 := h.up a ha hr
  have h2 := h.chS c h1.1
  rintro rfl; omega
theorem Inv.path (h : Inv E root O π k r τ) {a w : Int} (c : Ch τ root a w) : Sk O π k a → RA E (fun v => v = w ∨ ¬ Ch τ root w v) w a := by
  induction c with
  | self => intro _; exact .refl (.inl rfl)
  | @up a w hr c ih =>
    intro ha
    have h1 := ih (h.up _ ha hr).1
    have h2 := h.P a ha hr
    refine h1.trans (h2.mono fun v hv => ?_)
    rcases hv with rfl | hv
    · exact h1.last
    · exact .inr fun hc => hv (c.trans hc)
theorem Inv.nca (ho : Ord E root O π) (h : Inv E root O π k r τ) : ∀ (f : Nat) (a b : Int), Sk O π k a → Sk O π k b → π a + π b ≤ f → ∃ c, Sk O π k c ∧ ∀ w, Ch τ root c w ↔ Ch τ root a w ∧ Ch τ root b w := by
  intro f
  induction f with
  | zero =>
    intro a b ha hb hf
    have h1 := ho.nn a ha.1; have h2 := ho.nn b hb.1
    have e : a = b := ho.inj _ _ ha.1 hb.1 (by omega)
    subst e; exact ⟨a, ha, fun w => by simp⟩
  | succ f ih =>
    intro a b ha hb hf
    by_cases e : a = b
    · subst e; exact ⟨a, ha, fun w => by simp⟩
    have hne : π a ≠ π b := fun he => e (ho.inj _ _ ha.1 hb.1 he)
    have key : ∀ a b, Sk O π k a → Sk O π k b → π a + π b ≤ (f : Int) + 1 → π b < π a → ∃ c, Sk O π k c ∧ ∀ w, Ch τ root c w ↔ Ch τ root a w ∧ Ch τ root b w := by
      intro a b ha hb hf hlt
      have har : a ≠ root := by rintro rfl; have := ho.p0; have := ho.nn b hb.1; omega
      have hu := h.up a ha har
      obtain ⟨c, hc, hw⟩ := ih (τ a) b hu.1 hb (by omega)
      refine ⟨c, hc, fun w => (hw w).trans ⟨fun ⟨x, y⟩ => ⟨.up har x, y⟩, fun ⟨x, y⟩ => ⟨?_, y⟩⟩⟩
      rcases x.inv with rfl | ⟨_, x⟩
      · have := (h.chS y hb).2; omega
      · exact x
    rcases Int.lt_or_gt_of_ne hne with hlt | hlt
    · obtain ⟨c, hc, hw⟩ := key b a hb ha (by push_cast at hf; omega) hlt
      exact ⟨c, hc, fun w => (hw w).trans And.comm⟩
    · exact key a b ha hb (by push_cast at hf; omega) hlt
section turn
variable {x d : Int} {τ' : Int → Int}
theorem Inv.chT (ho : Ord E root O π) (h : Inv E root O π k r τ) (hx : Sk O π k x) (hxr : x ≠ root) (hnr : ¬ Ch τ root r x) (hd : ∀ w, Ch τ root d w ↔ Ch τ root r w ∧ Ch τ root x w) (ht : ∀ y, y ≠ x → τ' y = τ y) (htx : τ' x = d) :
    ∀ a w, Sk O π k a → (Ch τ' root a w ↔ Ch τ root a w ∧ (Ch τ root a x → Ch τ root w x ∨ Ch τ root d w)) := by
  have hdc := (hd d).1 .self
  have hdx : ¬ Ch τ root d x := fun hc => hnr (hdc.1.trans hc)
  intro a w ha
  by_cases hax : Ch τ root a x
  · have key : Ch τ' root a w ↔ (Ch τ root a w ∧ Ch τ root w x) ∨ Ch τ root d w := by
      induction hax with
      | self =>
        constructor
        · intro hc
          rcases hc.inv with rfl | ⟨_, hc⟩
          · exact .inl ⟨.self, .self⟩
          · rw [htx] at hc; exact .inr (hc.congr' ht hdx)
        · rintro (⟨h1, h2⟩ | hc)
          · rw [h.anti ho hx h1 h2]; exact .self
          · refine .up hxr ?_
            rw [htx]; exact hc.congr ht hdx
      | @up a x hr hc ih =>
        have hax : a ≠ x := by rintro rfl; exact h.ne ha hr hc rfl
        have ih := ih hx hxr hnr hd ht htx hdc hdx (h.up _ ha hr).1
        constructor
        · intro hc'
          rcases hc'.inv with rfl | ⟨_, hc'⟩
          · exact .inl ⟨.self, .up hr hc⟩
          · rw [ht a hax] at hc'
            rcases ih.1 hc' with ⟨h1, h2⟩ | h1
            · exact .inl ⟨.up hr h1, h2⟩
            · exact .inr h1
        · intro hc'
          rcases hc' with ⟨h1, h2⟩ | h1
          · rcases h1.inv with rfl | ⟨_, h1⟩
            · exact .self
            · refine .up hr ?_
              rw [ht a hax]; exact ih.2 (.inl ⟨h1, h2⟩)
          · refine .up hr ?_
            rw [ht a hax]; exact ih.2 (.inr h1)
    rw [key]
    constructor
    · rintro (⟨h1, h2⟩ | h1)
      · exact ⟨h1, fun _ => .inl h2⟩
      · exact ⟨hax.trans (hdc.2.trans h1), fun _ => .inr h1⟩
    · rintro ⟨h1, h2⟩
      rcases h2 hax with h2 | h2
      · exact .inl ⟨h1, h2⟩
      · exact .inr h2
  · constructor
    · intro hc; exact ⟨hc.congr' ht hax, fun h' => absurd h' hax⟩
    · intro hc; exact hc.1.congr ht hax
theorem Inv.turn (ho : Ord E root O π) (h : Inv E root O π k r τ) (hx : Sk O π k x) (hxr : x ≠ root) (hm : Mt E root (Sk O π k) τ x d) (hne : d ≠ τ x) (ht : ∀ y, y ≠ x → τ' y = τ y) (htx : τ' x = d) : Inv E root O π k r τ' ∧ π d < π (τ x) := by
  obtain ⟨m, hm', hJ⟩ := h.J x hx hxr
  have hmd : m = d := by
    have h1 : Ch τ root m d := (hm'.2.2 d).2 ((hm.2.2 d).1 .self)
    have h2 : Ch τ root d m := (hm.2.2 m).2 ((hm'.2.2 m).1 .self)
    exact (h.anti ho hm'.2.1 h1 h2).symm
  subst hmd
  obtain ⟨hnr, hd⟩ : ¬ Ch τ root r x ∧ ∀ w, Ch τ root m w ↔ Ch τ root r w ∧ Ch τ root x w := by
    rcases hJ with e | hJ
    · exact absurd e hne
    · exact hJ
  have F := h.chT ho hx hxr hnr hd ht htx
  have hdc := (hd m).1 .self
  have hdx : ¬ Ch τ root m x := fun hc => hnr (hdc.1.trans hc)
  have hmS := hm.2.1
  have hux := h.up x hx hxr
  have hxm : Ch τ root (τ x) m := by
    rcases hdc.2.inv with e | ⟨_, e⟩
    · exact absurd (e ▸ hdc.1) hnr
    · exact e
  have hlt : π m < π (τ x) := by
    have h1 := h.chS hxm hux.1
    have h2 : π m ≠ π (τ x) := fun e => hne (ho.inj _ _ hmS.1 hux.1.1 e)
    omega
  refine ⟨⟨h.kr, fun y hy hr => ?_, fun y hy hr => ?_, fun y hy w hw => ?_, fun z hz hzr => ?_⟩, hlt⟩
  · by_cases e : y = x
    · subst e; rw [htx]; exact ⟨hmS, by have := hux.2; omega⟩
    · rw [ht y e]; exact h.up y hy hr
  · by_cases e : y = x
    · subst e; rw [htx]
      exact (h.path hdc.2 hy).mono fun v hv => hv.imp id fun hv hc => hv ((F m v hmS).1 hc).1
    · rw [ht y e]
      exact (h.P y hy hr).mono fun v hv => hv.imp id fun hv hc => hv ((F _ v (h.up y hy hr).1).1 hc).1
  · by_cases hyw : Ch τ root y w
    · have hnot : ¬ (Ch τ root y x → Ch τ root w x ∨ Ch τ root m w) := fun hc => hw ((F y w hy).2 ⟨hyw, hc⟩)
      have hyx : Ch τ root y x := Classical.byContradiction fun hc => hnot fun h' => absurd h' hc
      have hwx : ¬ Ch τ root w x := fun hc => hnot fun _ => .inl hc
      have hmw : ¬ Ch τ root m w := fun hc => hnot fun _ => .inr hc
      have hxw : Ch τ root x w := (hyw.total hyx).resolve_left hwx
      have hwne : x ≠ w := by rintro rfl; exact hwx .self
      obtain ⟨p, hp⟩ : ∃ p, ¬ (Sk O π k p → E p x → Ch τ root p w) := Classical.byContradiction fun hc => hmw ((hm.2.2 w).2 fun p hp hE => Classical.byContradiction fun h' => hc ⟨p, fun h'' => h' (h'' hp hE)⟩)
      have hpS : Sk O π k p := Classical.byContradiction fun hc => hp fun h' => absurd h' hc
      have hpE : E p x := Classical.byContradiction fun hc => hp fun _ h' => absurd h' hc
      have hpw : ¬ Ch τ root p w := fun hc => hp fun _ _ => hc
      refine ((h.Q p hpS w hpw).step hpE hwne).trans ((h.path hyx hy).mono fun v hv => ?_)
      rcases hv with rfl | hv
      · exact hwne
      · rintro rfl; exact hv hxw
    · exact h.Q y hy w hyw
  · have hR : ∀ w, Ch τ' root r w ↔ Ch τ root r w := fun w => ⟨fun hc => ((F r w h.sr).1 hc).1, fun hc => (F r w h.sr).2 ⟨hc, fun h' => absurd h' hnr⟩⟩
    have hM : ∀ w, Ch τ' root m w ↔ Ch τ root m w := fun w => ⟨fun hc => ((F m w hmS).1 hc).1, fun hc => (F m w hmS).2 ⟨hc, fun h' => absurd h' hdx⟩⟩
    by_cases e : z = x
    · subst e
      refine ⟨m, ⟨hm.1, hmS, fun w => ?_⟩, .inl htx.symm⟩
      rw [hM]
      exact ⟨fun hc p hp hE => (F p w hp).2 ⟨(hm.2.2 w).1 hc p hp hE, fun _ => .inr hc⟩, fun hc => (hm.2.2 w).2 fun p hp hE => ((F p w hp).1 (hc p hp hE)).1⟩
    · obtain ⟨n, hn, hJn⟩ := h.J z hz hzr
      have huz := h.up z hz hzr
      rcases hJn with rfl | ⟨hnz, hN⟩
      · by_cases hall : ∀ p, Sk O π k p → E p z → Ch τ' root p (τ z)
        · refine ⟨τ z, ⟨hn.1, huz.1, fun w => ⟨fun hc p hp hE => (hall p hp hE).trans hc, fun hc => (F _ w huz.1).2 ⟨(hn.2.2 w).2 fun p hp hE => ((F p w hp).1 (hc p hp hE)).1, fun hzx => ?_⟩⟩⟩, .inl (ht z e).symm⟩
          obtain ⟨p, hp, hE⟩ := hn.1
          exact ((F p w hp).1 (hc p hp hE)).2 (((hn.2.2 _).1 .self p hp hE).trans hzx)
        · obtain ⟨p, hpn⟩ : ∃ p, ¬ (Sk O π k p → E p z → Ch τ' root p (τ z)) := Classical.byContradiction fun hc => hall fun p hp hE => Classical.byContradiction fun h' => hc ⟨p, fun h'' => h' (h'' hp hE)⟩
          have hpS : Sk O π k p := Classical.byContradiction fun hc => hpn fun h' => absurd h' hc
          have hpE : E p z := Classical.byContradiction fun hc => hpn fun _ h' => absurd h' hc
          have hpz : ¬ Ch τ' root p (τ z) := fun hc => hpn fun _ _ => hc
          have hpz0 : Ch τ root p (τ z) := (hn.2.2 _).1 .self p hpS hpE
          have hnot : ¬ (Ch τ root p x → Ch τ root (τ z) x ∨ Ch τ root m (τ z)) := fun hc => hpz ((F p _ hpS).2 ⟨hpz0, hc⟩)
          have hpx : Ch τ root p x := Classical.byContradiction fun hc => hnot fun h' => absurd h' hc
          have hzx : ¬ Ch τ root (τ z) x := fun hc => hnot fun _ => .inl hc
          have hmz : ¬ Ch τ root m (τ z) := fun hc => hnot fun _ => .inr hc
          have hxz : Ch τ root x (τ z) := (hpz0.total hpx).resolve_left hzx
          have hzm : Ch τ root (τ z) m := (hxz.total hdc.2).resolve_right hmz
          refine ⟨m, ⟨hn.1, hmS, fun w => ?_⟩, .inr ⟨fun hc => ?_, fun w => ?_⟩⟩
          · rw [hM]
            refine ⟨fun hc q hq hE => (F q w hq).2 ⟨(hn.2.2 w).1 (hzm.trans hc) q hq hE, fun _ => .inr hc⟩, fun hc => ?_⟩
            have h1 : Ch τ root (τ z) w := (hn.2.2 w).2 fun q hq hE => ((F q w hq).1 (hc q hq hE)).1
            rcases ((F p w hpS).1 (hc p hpS hpE)).2 hpx with h2 | h2
            · exact absurd (h1.trans h2) hzx
            · exact h2
          · rw [hR] at hc
            exact hmz ((hd _).2 ⟨hc.trans (.up hzr .self), hxz⟩)
          · rw [hM, hR, F z w hz]
            refine ⟨fun hc => ⟨hdc.1.trans hc, .up hzr (hzm.trans hc), fun _ => .inr hc⟩, fun ⟨h1, h2, _⟩ => ?_⟩
            rcases h2.inv with rfl | ⟨_, h2⟩
            · exact absurd ((hd _).2 ⟨h1.trans (.up hzr .self), hxz⟩) hmz
            · exact (hd w).2 ⟨h1, hxz.trans h2⟩
      · have hnS := hn.2.1
        have hrn := ((hN n).1 .self)
        have hnx : ¬ Ch τ root n x := fun hc => hnr (hrn.1.trans hc)
        have hNn : ∀ w, Ch τ' root n w ↔ Ch τ root n w := fun w => ⟨fun hc => ((F n w hnS).1 hc).1, fun hc => (F n w hnS).2 ⟨hc, fun h' => absurd h' hnx⟩⟩
        have side : ∀ a w, Sk O π k a → Ch τ root n w → Ch τ root a w → Ch τ' root a w := fun a w ha hnw haw => (F a w ha).2 ⟨haw, fun hax => by
          rcases haw.total hax with h1 | h1
          · exact .inl h1
          · exact .inr ((hd w).2 ⟨((hN w).1 hnw).1, h1⟩)⟩
        refine ⟨n, ⟨hn.1, hnS, fun w => ?_⟩, .inr ⟨fun hc => hnz ((hR z).1 hc), fun w => ?_⟩⟩
        · rw [hNn]
          exact ⟨fun hc p hp hE => side p w hp hc ((hn.2.2 w).1 hc p hp hE), fun hc => (hn.2.2 w).2 fun p hp hE => ((F p w hp).1 (hc p hp hE)).1⟩
        · rw [hNn, hR]
          exact ⟨fun hc => ⟨((hN w).1 hc).1, side z w hz hc ((hN w).1 hc).2⟩, fun ⟨h1, h2⟩ => (hN w).2 ⟨h1, ((F z w hz).1 h2).1⟩⟩
theorem Inv.new (ho : Ord E root O π) (h : Inv E root O π k r τ) (hst : ∀ z, Sk O π k z → z ≠ root → Mt E root (Sk O π k) τ z (τ z)) (hx : O x) (hxk : π x = k) (hm : Mt E root (Sk O π k) τ x d) (ht : ∀ y, y ≠ x → τ' y = τ y) (htx : τ' x = d) : Inv E root O π (k + 1) x τ' := by
  have hk0 : 0 < k := by have := h.kr; have := ho.nn r h.kr.1; omega
  have hxr : x ≠ root := by rintro rfl; have := ho.p0; omega
  have hSk : ∀ y, Sk O π (k + 1) y → y = x ∨ Sk O π k y := fun y hy => by
    by_cases hyk : π y < k
    · exact .inr ⟨hy.1, hyk⟩
    · exact .inl (ho.inj _ _ hy.1 hx (by have := hy.2; omega))
  have hS1 : ∀ y, Sk O π k y → Sk O π (k + 1) y := fun y hy => ⟨hy.1, by have := hy.2; omega⟩
  have hSx : ∀ y, Sk O π k y → y ≠ x := by rintro y hy rfl; have := hy.2; omega
  have hnx : ∀ a, Sk O π k a → ¬ Ch τ root a x := fun a ha hc => hSx _ (h.chS hc ha).1 rfl
  have G : ∀ a w, Sk O π k a → (Ch τ' root a w ↔ Ch τ root a w) := fun a w ha => ⟨fun hc => hc.congr' ht (hnx a ha), fun hc => hc.congr ht (hnx a ha)⟩
  have hmS := hm.2.1
  have GX : ∀ w, Ch τ' root x w ↔ w = x ∨ Ch τ root d w := fun w => by
    constructor
    · intro hc
      rcases hc.inv with rfl | ⟨_, hc⟩
      · exact .inl rfl
      · rw [htx] at hc; exact .inr ((G d w hmS).1 hc)
    · rintro (rfl | hc)
      · exact .self
      · exact .up hxr (by rw [htx]; exact (G d w hmS).2 hc)
  refine ⟨⟨hx, by omega⟩, fun y hy hr => ?_, fun y hy hr => ?_, fun y hy w hw => ?_, fun z hz hzr => ?_⟩
  · rcases hSk y hy with rfl | hy
    · rw [htx]; exact ⟨hS1 _ hmS, by have := hmS.2; omega⟩
    · rw [ht y (hSx y hy)]; have := h.up y hy hr; exact ⟨hS1 _ this.1, this.2⟩
  · rcases hSk y hy with rfl | hy
    · rw [htx]
      obtain ⟨p, hp, hE⟩ := hm.1
      have hpd : Ch τ root p d := (hm.2.2 d).1 .self p hp hE
      exact ((h.path hpd hp).mono fun v hv => hv.imp id fun hv hc => hv ((G d v hmS).1 hc)).step hE (.inr fun hc => hnx d hmS ((G d _ hmS).1 hc))
    · rw [ht y (hSx y hy)]
      exact (h.P y hy hr).mono fun v hv => hv.imp id fun hv hc => hv ((G _ v (h.up y hy hr).1).1 hc)
  · rcases hSk y hy with rfl | hy
    · have hw1 : w ≠ y := fun e => hw ((GX w).2 (.inl e))
      have hw2 : ¬ Ch τ root d w := fun e => hw ((GX w).2 (.inr e))
      obtain ⟨p, hp⟩ : ∃ p, ¬ (Sk O π k p → E p y → Ch τ root p w) := Classical.byContradiction fun hc => hw2 ((hm.2.2 w).2 fun p hp hE => Classical.byContradiction fun h' => hc ⟨p, fun h'' => h' (h'' hp hE)⟩)
      have hpS : Sk O π k p := Classical.byContradiction fun hc => hp fun h' => absurd h' hc
      have hpE : E p y := Classical.byContradiction fun hc => hp fun _ h' => absurd h' hc
      have hpw : ¬ Ch τ root p w := fun hc => hp fun _ _ => hc
      exact (h.Q p hpS w hpw).step hpE (Ne.symm hw1)
    · exact h.Q y hy w fun hc => hw ((G y w hy).2 hc)
  · rcases hSk z hz with rfl | hz
    · refine ⟨d, ⟨?_, hS1 _ hmS, fun w => ?_⟩, .inl htx.symm⟩
      · obtain ⟨p, hp, hE⟩ := hm.1; exact ⟨p, hS1 p hp, hE⟩
      · rw [G d w hmS]
        refine ⟨fun hc p hp hE => ?_, fun hc => (hm.2.2 w).2 fun p hp hE => (G p w hp).1 (hc p (hS1 p hp) hE)⟩
        rcases hSk p hp with rfl | hp
        · exact (GX w).2 (.inr hc)
        · exact (G p w hp).2 ((hm.2.2 w).1 hc p hp hE)
    · have hzs := hst z hz hzr
      have hux := h.up z hz hzr
      have hex : ∃ p, Sk O π (k + 1) p ∧ E p z := by obtain ⟨p, hp, hE⟩ := hzs.1; exact ⟨p, hS1 p hp, hE⟩
      have hback : ∀ w, (∀ p, Sk O π (k + 1) p → E p z → Ch τ' root p w) → Ch τ root (τ z) w := fun w hc => (hzs.2.2 w).2 fun p hp hE => (G p w hp).1 (hc p (hS1 p hp) hE)
      by_cases hall : E x z → Ch τ' root x (τ z)
      · refine ⟨τ z, ⟨hex, hS1 _ hux.1, fun w => ?_⟩, .inl (ht z (hSx z hz)).symm⟩
        rw [G _ w hux.1]
        refine ⟨fun hc p hp hE => ?_, hback w⟩
        rcases hSk p hp with rfl | hp
        · exact (hall hE).trans ((G _ w hux.1).2 hc)
        · exact (G p w hp).2 ((hzs.2.2 w).1 hc p hp hE)
      · have hE : E x z := Classical.byContradiction fun hc => hall fun h' => absurd h' hc
        have hxz : ¬ Ch τ' root x (τ z) := fun hc => hall fun _ => hc
        have hdz : ¬ Ch τ root d (τ z) := fun hc => hxz ((GX _).2 (.inr hc))
        obtain ⟨c, hc, hcw⟩ := h.nca ho (π d + π (τ z)).toNat d (τ z) hmS hux.1 (by have := ho.nn d hmS.1; have := ho.nn _ hux.1.1; omega)
        have hCx : ∀ w, Ch τ root (τ z) w → (Ch τ' root x w ↔ Ch τ root d w) := fun w hw => by
          rw [GX w]
          refine ⟨fun h' => h'.resolve_left ?_, .inr⟩
          rintro rfl; exact hnx _ hux.1 hw
        refine ⟨c, ⟨hex, hS1 _ hc, fun w => ?_⟩, .inr ⟨fun h' => ?_, fun w => ?_⟩⟩
        · rw [G c w hc, hcw w]
          refine ⟨fun ⟨h1, h2⟩ p hp hE => ?_, fun h' => ?_⟩
          · rcases hSk p hp with rfl | hp
            · exact (hCx w h2).2 h1
            · exact (G p w hp).2 ((hzs.2.2 w).1 h2 p hp hE)
          · have h2 := hback w h'
            exact ⟨(hCx w h2).1 (h' x ⟨hx, by omega⟩ hE), h2⟩
        · rcases (GX z).1 h' with e | h'
          · exact hSx z hz e
          · exact hdz (h'.trans (.up hzr .self))
        · rw [G c w hc, hcw w, G z w hz]
          refine ⟨fun ⟨h1, h2⟩ => ⟨(hCx w h2).2 h1, .up hzr h2⟩, fun ⟨h1, h2⟩ => ?_⟩
          rcases h2.inv with rfl | ⟨_, h2⟩
          · rcases (GX w).1 h1 with e | h1
            · exact absurd e (hSx w hz)
            · exact absurd (h1.trans (.up hzr .self)) hdz
          · exact ⟨(hCx w h2).1 h1, h2⟩
end turn
theorem Inv.init (ho : Ord E root O π) (τ : Int → Int) : Inv E root O π 1 root τ := by
  have hS : ∀ y, Sk O π 1 y → y = root := fun y hy => Classical.byContradiction fun hc => by have := ho.low hy.1 hc; have := hy.2; omega
  refine ⟨⟨ho.r0, by have := ho.p0; omega⟩, fun y hy hr => absurd (hS y hy) hr, fun y hy hr => absurd (hS y hy) hr, fun y hy w hw => ?_, fun y hy hr => absurd (hS y hy) hr⟩
  obtain rfl := hS y hy
  exact .refl fun e => hw (e ▸ .self)
def Dom (E : Int → Int → Prop) (root w y : Int) : Prop := ¬ RA E (· ≠ w) root y
def Rch (E : Int → Int → Prop) (root y : Int) : Prop := RA E (fun _ => True) root y
theorem Inv.dom (ho : Ord E root O π) (h : Inv E root O π k r τ) (hall : ∀ y, O y → Sk O π k y) (hst : ∀ z, Sk O π k z → z ≠ root → Mt E root (Sk O π k) τ z (τ z)) {y : Int} (hy : O y) (w : Int) : Ch τ root y w ↔ Dom E root w y := by
  constructor
  · intro hc hr
    have key : ∀ {a b : Int}, RA E (· ≠ w) a b → a = root → O b ∧ ¬ Ch τ root b w := by
      intro a b hr
      induction hr with
      | refl hp => rintro rfl; exact ⟨ho.r0, fun hc => hp hc.of_root.symm⟩
      | @step b c _ hE hp ih =>
        intro e
        obtain ⟨h1, h2⟩ := ih e
        refine ⟨ho.out _ _ h1 hE, fun hc => ?_⟩
        rcases hc.inv with rfl | ⟨hcr, hc⟩
        · exact hp rfl
        · have := hst c (hall c (ho.out _ _ h1 hE)) hcr
          exact h2 ((this.2.2 w).1 hc b (hall b h1) hE)
    exact (key hr rfl).2 hc
  · intro hd
    exact Classical.byContradiction fun hc => hd (h.Q y (hall y hy) w hc)
theorem Ord.reach (ho : Ord E root O π) {y : Int} : O y ↔ Rch E root y := by
  constructor
  · intro hy
    have key : ∀ (f : Nat) (y : Int), O y → π y ≤ f → Rch E root y := by
      intro f
      induction f with
      | zero =>
        intro y hy hf
        have e : y = root := Classical.byContradiction fun hc => by have := ho.low hy hc; omega
        subst e; exact .refl trivial
      | succ f ih =>
        intro y hy hf
        by_cases e : y = root
        · subst e; exact .refl trivial
        · obtain ⟨p, hp, hE, hlt⟩ := ho.pre y hy e
          exact (ih p hp (by omega)).step hE trivial
    exact key (π y).toNat y hy (by have := ho.nn y hy; omega)
  · intro hr
    have key : ∀ {a b : Int}, RA E (fun _ => True) a b → a = root → O b := by
      intro a b hr
      induction hr with
      | refl _ => rintro rfl; exact ho.r0
      | step _ hE _ ih => intro e; exact ho.out _ _ (ih e) hE
    exact key hr rfl
theorem Dom.anti {a b y : Int} (hr : Rch E root y) (hab : Dom E root a b) (hba : Dom E root b a) (hy : y = a) : a = b := by
  refine Classical.byContradiction fun hne => ?_
  have key : ∀ {x y : Int}, RA E (fun _ => True) x y → x = root → (RA E (fun v => v ≠ a ∧ v ≠ b) root y ∨ RA E (· ≠ a) root b ∨ RA E (· ≠ b) root a) := by
    intro x y hr
    induction hr with
    | refl _ =>
      rintro rfl
      by_cases h1 : x = a
      · subst h1; exact .inr (.inr (.refl hne))
      · by_cases h2 : x = b
        · subst h2; exact .inr (.inl (.refl (Ne.symm hne)))
        · exact .inl (.refl ⟨h1, h2⟩)
    | @step p c _ hE _ ih =>
      intro e
      rcases ih e with h | h
      · by_cases h1 : c = a
        · exact .inr (.inr ((h.mono fun v hv => hv.2).step (h1 ▸ hE) hne))
        · by_cases h2 : c = b
          · exact .inr (.inl ((h.mono fun v hv => hv.1).step (h2 ▸ hE) (Ne.symm hne)))
          · exact .inl (h.step hE ⟨h1, h2⟩)
      · exact .inr h
  rcases key hr rfl with h | h | h
  · exact h.last.1 hy
  · exact hab h
  · exact hba h
end
def Ed (g : FGraph) (a b : Int) : Prop := 0 ≤ a ∧ b ∈ g.succ.getD a.toNat []
structure GOk (g : FGraph) : Prop where
  len : g.succ.length ≤ 64
  ne : 1 ≤ g.succ.length
  rise : ∀ l ∈ g.succ, risingP l g.succ.length = true
  pred : g.pred = predsP g.succ
theorem mayG_ok {g : FGraph} (h : mayG g = true) : GOk g := by
  by_cases hc : (decide ((g.succ.length : Int) < 1) || (decide (64 < (g.succ.length : Int)) || g.succ.any fun l => !(risingP l g.succ.length))) = true
  · rw [mayG, show makeP g.succ = none by unfold makeP; rw [if_pos hc]] at h
    simp [graphQ] at h
  · rw [mayG, show makeP g.succ = some ⟨g.succ, predsP g.succ⟩ by unfold makeP; rw [if_neg hc]] at h
    rw [Bool.not_eq_true, Bool.or_eq_false_iff, Bool.or_eq_false_iff, decide_eq_false_iff_not, decide_eq_false_iff_not] at hc
    obtain ⟨h1, h2, h3⟩ := hc
    refine ⟨by omega, by omega, fun l hl => ?_, ?_⟩
    · have := List.any_eq_false.1 h3 l hl
      simpa using this
    · simp [graphQ] at h; exact h.symm
theorem mem_getD {l : List (List Int)} {j : Nat} {z : Int} (h : z ∈ l.getD j []) : l.getD j [] ∈ l ∧ j < l.length := by
  by_cases hj : j < l.length
  · have e : l.getD j [] = l[j] := by simp [List.getD, List.getElem?_eq_getElem hj]
    exact ⟨by rw [e]; exact List.getElem_mem hj, hj⟩
  · simp [List.getD, List.getElem?_eq_none (by omega : l.length ≤ j)] at h
theorem rising_mem {l : List Int} {n : Int} (h : risingP l n = true) {z : Int} (hz : z ∈ l) : 0 ≤ z ∧ z < n := by
  obtain ⟨j, hj⟩ := List.mem_iff_getElem?.1 hz
  exact rising_get h hj
theorem Ed.rng {g : FGraph} (hg : GOk g) {a b : Int} (h : Ed g a b) : (0 ≤ a ∧ a < g.succ.length) ∧ 0 ≤ b ∧ b < g.succ.length := by
  have h1 := mem_getD h.2
  exact ⟨⟨h.1, by omega⟩, rising_mem (hg.rise _ h1.1) h.2⟩
theorem mem_push {out : List (List Int)} {k i p : Int} {x : Nat} (hk : 0 ≤ k) (hx : x < out.length) : p ∈ (pushAt out k i).getD x [] ↔ p ∈ out.getD x [] ∨ (p = i ∧ k = x) := by
  have e : out.getD x [] = out[x] := by simp [List.getD, List.getElem?_eq_getElem hx]
  have e' : (pushAt out k i).getD x [] = if k.toNat = x then out[x] ++ [i] else out[x] := by
    simp only [pushAt, List.getD, List.getElem?_modify, List.getElem?_eq_getElem hx]
    split <;> simp
  rw [e, e']
  split
  · rename_i h
    have : k = x := by omega
    simp [this]
  · rename_i h
    have : k ≠ x := by omega
    simp [this]
theorem mem_row {i p : Int} {x : Nat} : ∀ (l : List Int) (out : List (List Int)), (∀ k ∈ l, 0 ≤ k) → x < out.length → (p ∈ (predRow out i l).getD x [] ↔ p ∈ out.getD x [] ∨ (p = i ∧ (x : Int) ∈ l))
  | [], out, _, _ => by simp [predRow]
  | k :: l, out, hl, hx => by
    have h1 := mem_row (i := i) (p := p) l (pushAt out k i) (fun z hz => hl z (List.mem_cons_of_mem _ hz)) (by rw [pushAt_length]; exact hx)
    have e : predRow out i (k :: l) = predRow (pushAt out k i) i l := rfl
    rw [e, h1, mem_push (hl k (List.mem_cons_self ..)) hx, List.mem_cons]
    constructor
    · rintro ((h | ⟨h, h'⟩) | ⟨h, h'⟩)
      · exact .inl h
      · exact .inr ⟨h, .inl h'.symm⟩
      · exact .inr ⟨h, .inr h'⟩
    · rintro (h | ⟨h, h' | h'⟩)
      · exact .inl (.inl h)
      · exact .inl (.inr ⟨h, h'.symm⟩)
      · exact .inr ⟨h, h'⟩
theorem mem_predsK {succ : List (List Int)} (hr : ∀ l ∈ succ, risingP l succ.length = true) {p : Int} {x : Nat} (hx : x < succ.length) : ∀ k : Nat, k ≤ succ.length → (p ∈ (predsK succ k).getD x [] ↔ 0 ≤ p ∧ p < k ∧ (x : Int) ∈ succ.getD p.toNat [])
  | 0, _ => by
    have : (predsK succ 0).getD x [] = [] := by simp [predsK, List.getD, List.getElem?_replicate, hx]
    rw [this]; simp; omega
  | k + 1, hk => by
    have hl : succ.getD k [] = succ[k] := by simp [List.getD, List.getElem?_eq_getElem (by omega : k < succ.length)]
    rw [predsK_succ, mem_row _ _ (fun z hz => (rising_mem (hr _ (mem_getD hz).1) hz).1) (by rw [predsK_length]; exact hx), mem_predsK hr hx k (by omega)]
    constructor
    · rintro (⟨h1, h2, h3⟩ | ⟨h1, h2⟩)
      · exact ⟨h1, by omega, h3⟩
      · subst h1; exact ⟨by omega, by omega, by simpa using h2⟩
    · rintro ⟨h1, h2, h3⟩
      by_cases e : p = k
      · subst e; exact .inr ⟨rfl, by simpa using h3⟩
      · exact .inl ⟨h1, by omega, h3⟩
theorem mem_pred {g : FGraph} (hg : GOk g) {p x : Int} (hx : 0 ≤ x) : p ∈ g.pred.getD x.toNat [] ↔ Ed g p x := by
  by_cases hxl : x.toNat < g.succ.length
  · rw [hg.pred, predsP, mem_predsK hg.rise hxl _ (Nat.le_refl _)]
    have ex : ((x.toNat : Nat) : Int) = x := by omega
    rw [ex]
    constructor
    · rintro ⟨h1, _, h3⟩; exact ⟨h1, h3⟩
    · intro h; have := h.rng hg; exact ⟨h.1, this.1.2, h.2⟩
  · constructor
    · intro h; have := (mem_getD h).2; rw [hg.pred, predsP_length] at this; exact absurd this hxl
    · intro h; have := (h.rng hg).2; omega
structure OrdL (g : FGraph) (root : Int) (o : List Int) : Prop where
  nd : o.Nodup
  hd : o[0]? = some root
  pre : ∀ (i : Nat) x, o[i]? = some x → 0 < i → ∃ (j : Nat) (p : Int), j < i ∧ o[j]? = some p ∧ Ed g p x
  out : ∀ a b, a ∈ o → Ed g a b → b ∈ o
  rng : ∀ a ∈ o, 0 ≤ a ∧ a < g.succ.length
theorem nodup_idx {α : Type _} {o : List α} (h : o.Nodup) {i j : Nat} {x : α} (hi : o[i]? = some x) (hj : o[j]? = some x) : i = j := by
  exact (List.getElem?_inj (List.getElem?_eq_some_iff.1 hi).1 h).1 (hi.trans hj.symm)
theorem snoc_ind {α : Type _} {p : List α → Prop} (h0 : p []) (h1 : ∀ l x, p l → p (l ++ [x])) (l : List α) : p l := by
  have key : ∀ r : List α, p r.reverse := fun r => by
    induction r with
    | nil => exact h0
    | cons x r ih => rw [List.reverse_cons]; exact h1 _ _ ih
  have := key l.reverse
  rwa [List.reverse_reverse] at this
def AtOk (o at_ : List Int) : Prop := ∀ (i : Nat) x, o[i]? = some x → atS at_ x = i
theorem OrdL.ord {g : FGraph} {root : Int} {o at_ : List Int} (h : OrdL g root o) (ha : AtOk o at_) : Ord (Ed g) root (· ∈ o) (atS at_) where
  r0 := List.mem_of_getElem? h.hd
  p0 := ha 0 root h.hd
  inj := fun a b hA hB e => by
    obtain ⟨i, hi⟩ := List.mem_iff_getElem?.1 hA
    obtain ⟨j, hj⟩ := List.mem_iff_getElem?.1 hB
    rw [ha i a hi, ha j b hj] at e
    have : i = j := by omega
    subst this; rw [hi] at hj; exact Option.some.inj hj
  nn := fun a hA => by obtain ⟨i, hi⟩ := List.mem_iff_getElem?.1 hA; rw [ha i a hi]; omega
  pre := fun a hA hr => by
    obtain ⟨i, hi⟩ := List.mem_iff_getElem?.1 hA
    have h0 : 0 < i := by
      rcases Nat.eq_zero_or_pos i with rfl | h0
      · rw [h.hd] at hi; exact absurd (Option.some.inj hi).symm hr
      · exact h0
    obtain ⟨j, p, hj, hp, hE⟩ := h.pre i a hi h0
    exact ⟨p, List.mem_of_getElem? hp, hE, by rw [ha j p hp, ha i a hi]; omega⟩
  out := h.out
section
variable {t at_ : List Int} {root : Int} {S : Int → Prop}
theorem Climb.chS (h : Climb t at_ root S) {a w : Int} (c : Ch (atS t) root a w) : S a → S w ∧ atS at_ w ≤ atS at_ a := by
  induction c with
  | self => intro ha; exact ⟨ha, Int.le_refl _⟩
  | up hr _ ih => intro ha; have h1 := h.up _ ha hr; have h2 := ih h1.1; have h3 := h1.2; simp only [atS] at *; exact ⟨h2.1, by omega⟩
theorem climb_nca (h : Climb t at_ root S) : ∀ (f : Nat) (a b : Int), S a → S b → atS at_ a + atS at_ b ≤ f → S (climb t at_ f a b) ∧ ∀ w, Ch (atS t) root (climb t at_ f a b) w ↔ Ch (atS t) root a w ∧ Ch (atS t) root b w
  | 0, a, b, ha, hb, hf => by
    have h1 := h.nn a ha; have h2 := h.nn b hb
    have e : a = b := h.inj a b ha hb (by simp only [atS] at hf; omega)
    subst e; exact ⟨ha, fun w => by simp [climb]⟩
  | f + 1, a, b, ha, hb, hf => by
    rw [climb]
    by_cases e : a = b
    · subst e; rw [if_pos rfl]; exact ⟨ha, fun w => by simp⟩
    rw [if_neg e]
    have key : ∀ a b, S a → S b → atS at_ b < atS at_ a → a ≠ root ∧ S (atS t a) ∧ atS at_ (atS t a) < atS at_ a ∧ ∀ w, (Ch (atS t) root (atS t a) w ∧ Ch (atS t) root b w ↔ Ch (atS t) root a w ∧ Ch (atS t) root b w) := by
      intro a b ha hb hlt
      have har : a ≠ root := by rintro rfl; have := h.low b hb; simp only [atS] at hlt; omega
      have hs := h.step ha hb hlt
      refine ⟨har, hs.1, hs.2, fun w => ⟨fun ⟨x, y⟩ => ⟨.up har x, y⟩, fun ⟨x, y⟩ => ⟨?_, y⟩⟩⟩
      rcases x.inv with rfl | ⟨_, x⟩
      · have := (h.chS y hb).2; omega
      · exact x
    by_cases hlt : at_.getD b.toNat 0 < at_.getD a.toNat 0
    · rw [if_pos hlt]
      obtain ⟨_, h1, h2, h3⟩ := key a b ha hb hlt
      obtain ⟨h4, h5⟩ := climb_nca h f _ b h1 hb (by simp only [atS] at *; omega)
      exact ⟨h4, fun w => (h5 w).trans (h3 w)⟩
    · rw [if_neg hlt]
      have hne : at_.getD a.toNat 0 ≠ at_.getD b.toNat 0 := fun he => e (h.inj a b ha hb he)
      obtain ⟨_, h1, h2, h3⟩ := key b a hb ha (by simp only [atS]; omega)
      obtain ⟨h4, h5⟩ := climb_nca h f a _ ha h1 (by simp only [atS] at *; omega)
      exact ⟨h4, fun w => (h5 w).trans (And.comm.trans ((h3 w).trans And.comm))⟩
theorem climbP_nca (h : Climb t at_ root S) {a b : Int} (ha : S a) (hb : S b) : S (climbP t at_ a b) ∧ ∀ w, Ch (atS t) root (climbP t at_ a b) w ↔ Ch (atS t) root a w ∧ Ch (atS t) root b w :=
  climb_nca h _ a b ha hb (by have h1 := h.nn a ha; have h2 := h.nn b hb; simp only [atS] at *; omega)
def bestS (t at_ : List Int) (b p : Int) : Int := if atS t p = -2 then b else if b = -2 then p else climbP t at_ b p
def bestF (t at_ l : List Int) : Int := l.foldl (bestS t at_) (-2)
theorem bestF_take {l : List Int} {j : Nat} {p : Int} (h : l[j]? = some p) : bestF t at_ (l.take (j + 1)) = bestS t at_ (bestF t at_ (l.take j)) p := by
  rw [List.take_add_one, h]; simp [bestF]
theorem bestF_law (h : Climb t at_ root S) : ∀ (l : List Int), (∀ p ∈ l, (atS t p ≠ -2 ↔ S p)) →
    (bestF t at_ l = -2 ∧ ∀ p ∈ l, ¬ S p) ∨ (bestF t at_ l ≠ -2 ∧ S (bestF t at_ l) ∧ (∃ p ∈ l, S p) ∧ ∀ w, Ch (atS t) root (bestF t at_ l) w ↔ ∀ p ∈ l, S p → Ch (atS t) root p w) := by
  intro l
  refine snoc_ind (p := fun l => (∀ p ∈ l, (atS t p ≠ -2 ↔ S p)) →
    (bestF t at_ l = -2 ∧ ∀ p ∈ l, ¬ S p) ∨ (bestF t at_ l ≠ -2 ∧ S (bestF t at_ l) ∧ (∃ p ∈ l, S p) ∧ ∀ w, Ch (atS t) root (bestF t at_ l) w ↔ ∀ p ∈ l, S p → Ch (atS t) root p w)) (fun _ => .inl ⟨rfl, by simp⟩) ?_ l
  · intro l p ih hl
    have ih := ih fun q hq => hl q (List.mem_append_left _ hq)
    have hp := hl p (by simp)
    have e : bestF t at_ (l ++ [p]) = bestS t at_ (bestF t at_ l) p := by simp [bestF]
    rw [e, bestS]
    have m2 : ¬ S (-2) := fun hs => by have := h.inn _ hs; omega
    by_cases hpS : S p
    · rw [if_neg (hp.2 hpS)]
      rcases ih with ⟨h1, h2⟩ | ⟨h0, h1, h2, h3⟩
      · rw [if_pos h1]
        refine .inr ⟨fun e => m2 (e ▸ hpS), hpS, ⟨p, by simp, hpS⟩, fun w => ⟨fun hc q hq hs => ?_, fun hc => hc p (by simp) hpS⟩⟩
        rcases List.mem_append.1 hq with hq | hq
        · exact absurd hs (h2 q hq)
        · simp at hq; subst hq; exact hc
      · rw [if_neg h0]
        obtain ⟨h4, h5⟩ := climbP_nca h h1 hpS
        refine .inr ⟨fun e => m2 (e ▸ h4), h4, ⟨p, by simp, hpS⟩, fun w => ?_⟩
        rw [h5, h3]
        constructor
        · rintro ⟨h6, h7⟩ q hq hs
          rcases List.mem_append.1 hq with hq | hq
          · exact h6 q hq hs
          · simp at hq; subst hq; exact h7
        · intro h6; exact ⟨fun q hq hs => h6 q (List.mem_append_left _ hq) hs, h6 p (by simp) hpS⟩
    · have : atS t p = -2 := Classical.byContradiction fun hc => hpS (hp.1 hc)
      rw [if_pos this]
      rcases ih with ⟨h1, h2⟩ | ⟨h0, h1, ⟨q, hq, hs⟩, h3⟩
      · refine .inl ⟨h1, fun q hq => ?_⟩
        rcases List.mem_append.1 hq with hq | hq
        · exact h2 q hq
        · simp at hq; subst hq; exact hpS
      · refine .inr ⟨h0, h1, ⟨q, by simp [hq], hs⟩, fun w => ?_⟩
        rw [h3]
        refine ⟨fun h6 q hq hs => ?_, fun h6 q hq hs => h6 q (List.mem_append_left _ hq) hs⟩
        rcases List.mem_append.1 hq with hq | hq
        · exact h6 q hq hs
        · simp at hq; subst hq; exact absurd hs hpS
end
structure TreeSt (g : FGraph) (root : Int) (o at_ t : List Int) (k r : Int) : Prop where
  inv : Inv (Ed g) root (· ∈ o) (atS at_) k r (atS t)
  len : t.length = g.succ.length
  none : ∀ y : Int, 0 ≤ y → y < g.succ.length → (atS t y ≠ -2 ↔ Sk (· ∈ o) (atS at_) k y)
  vals : ∀ z : Int, z ∈ t → -2 ≤ z ∧ z < g.succ.length
def wgt (g : FGraph) (at_ t : List Int) (y : Int) : Nat := if atS t y = -2 then g.succ.length + 1 else (atS at_ (atS t y)).toNat
def mu (g : FGraph) (o at_ t : List Int) : Nat := (o.map (wgt g at_ t)).sum
theorem sum_le {o : List Int} {f f' : Int → Nat} (h : ∀ y ∈ o, f' y ≤ f y) : (o.map f').sum ≤ (o.map f).sum := by
  induction o with
  | nil => simp
  | cons y r ih =>
    have h1 := h y (by simp)
    have h2 := ih fun z hz => h z (by simp [hz])
    simp only [List.map_cons, List.sum_cons]; omega
theorem sum_lt {o : List Int} {f f' : Int → Nat} {x : Int} (hx : x ∈ o) (h : ∀ y ∈ o, f' y ≤ f y) (hl : f' x < f x) : (o.map f').sum < (o.map f).sum := by
  induction o with
  | nil => simp at hx
  | cons y r ih =>
    have h1 := h y (by simp)
    simp only [List.map_cons, List.sum_cons]
    rcases List.mem_cons.1 hx with rfl | hx
    · have h2 := sum_le (o := r) fun z hz => h z (by simp [hz])
      omega
    · have h2 := ih hx fun z hz => h z (by simp [hz])
      omega
section
variable {g : FGraph} {root : Int} {o at_ t : List Int} {k r : Int}
theorem TreeSt.climb (hg : GOk g) (ho : OrdL g root o) (ha : AtOk o at_) (hal : at_.length = g.succ.length) (h : TreeSt g root o at_ t k r) : Climb t at_ root (Sk (· ∈ o) (atS at_) k) where
  len := by rw [hal, h.len]
  inn := fun a hA => by have := ho.rng a hA.1; rw [h.len]; exact this
  nn := fun a hA => (ho.ord ha).nn a hA.1
  up := fun a hA hr => h.inv.up a hA hr
  inj := fun a b hA hB e => (ho.ord ha).inj a b hA.1 hB.1 e
  low := fun a hA => by have h1 := (ho.ord ha).p0; have h2 := (ho.ord ha).nn a hA.1; simp only [atS] at *; omega
def bestX (g : FGraph) (t at_ : List Int) (x : Int) : Int := bestF t at_ (g.pred.getD x.toNat [])
theorem TreeSt.best (hg : GOk g) (ho : OrdL g root o) (ha : AtOk o at_) (hal : at_.length = g.succ.length) (h : TreeSt g root o at_ t k r) {x : Int} (hx : 0 ≤ x) :
    (bestX g t at_ x = -2 ∧ ∀ p, Sk (· ∈ o) (atS at_) k p → ¬ Ed g p x) ∨ (bestX g t at_ x ≠ -2 ∧ Mt (Ed g) root (Sk (· ∈ o) (atS at_) k) (atS t) x (bestX g t at_ x)) := by
  have hC := h.climb hg ho ha hal
  have hm : ∀ p, p ∈ g.pred.getD x.toNat [] ↔ Ed g p x := fun p => mem_pred hg hx
  rcases bestF_law hC (g.pred.getD x.toNat []) (fun p hp => by have := ((hm p).1 hp).rng hg; exact h.none p this.1.1 this.1.2) with ⟨h1, h2⟩ | ⟨h0, h1, ⟨q, hq, hs⟩, h3⟩
  · exact .inl ⟨h1, fun p hp hE => h2 p ((hm p).2 hE) hp⟩
  · refine .inr ⟨h0, ⟨q, hs, (hm q).1 hq⟩, h1, fun w => (h3 w).trans ⟨fun h4 p hp hE => h4 p ((hm p).2 hE) hp, fun h4 p hp hs => h4 p hs ((hm p).1 hp)⟩⟩
theorem atS_set {t : List Int} {x y v : Int} (hx : 0 ≤ x) (hxl : x < t.length) (hy : 0 ≤ y) : atS (t.set x.toNat v) y = if y = x then v else atS t y := by
  simp only [atS, List.getD, List.getElem?_set]
  by_cases e : y = x
  · subst e; rw [if_pos rfl, if_pos (by omega), if_pos rfl]; rfl
  · rw [if_neg (by omega), if_neg e]
theorem TreeSt.ahead (hg : GOk g) (ho : OrdL g root o) (ha : AtOk o at_) (hal : at_.length = g.succ.length) (h : TreeSt g root o at_ t k r) {i : Nat} (hst : ∀ (j : Nat) y, 0 < j → j < i → o[j]? = some y → atS t y = bestX g t at_ y) : ∀ (j : Nat) y, j < i → o[j]? = some y → Sk (· ∈ o) (atS at_) k y := by
  have hO := ho.ord ha
  intro j
  induction j using Nat.strongRecOn with
  | _ j ih =>
    intro y hj hy
    have hyo := List.mem_of_getElem? hy
    have hyr := ho.rng y hyo
    rcases Nat.eq_zero_or_pos j with rfl | h0
    · rw [ho.hd] at hy; cases hy
      exact ⟨hyo, by have := hO.p0; have := h.inv.kr; have := hO.nn r this.1; omega⟩
    · refine (h.none y hyr.1 hyr.2).1 ?_
      rw [hst j y h0 hj hy]
      rcases h.best hg ho ha hal hyr.1 with ⟨_, h2⟩ | ⟨h1, _⟩
      · obtain ⟨q, p, hq, hp, hE⟩ := ho.pre j y hy h0
        exact absurd hE (h2 p (ih q hq p (by omega) hp))
      · exact h1
theorem TreeSt.step (hg : GOk g) (ho : OrdL g root o) (ha : AtOk o at_) (hal : at_.length = g.succ.length) (h : TreeSt g root o at_ t k r) {i : Nat} {x : Int} (h0 : 0 < i) (hi : o[i]? = some x) (hst : ∀ (j : Nat) y, 0 < j → j < i → o[j]? = some y → atS t y = bestX g t at_ y) (hne : atS t x ≠ bestX g t at_ x) :
    ∃ k' r', TreeSt g root o at_ (t.set x.toNat (bestX g t at_ x)) k' r' ∧ mu g o at_ (t.set x.toNat (bestX g t at_ x)) < mu g o at_ t := by
  have hO := ho.ord ha
  have hxo := List.mem_of_getElem? hi
  have hxr := ho.rng x hxo
  have hah := h.ahead hg ho ha hal hst
  have hxt : x < t.length := by rw [h.len]; exact hxr.2
  have hnr : x ≠ root := by
    rintro rfl
    have := nodup_idx ho.nd hi ho.hd; omega
  have hset := fun y (hy : 0 ≤ y) => atS_set (v := bestX g t at_ x) hxr.1 hxt hy
  -- outside of the places the entries are those of place 0; so turned by the function itself
  obtain ⟨hb, hm⟩ : bestX g t at_ x ≠ -2 ∧ Mt (Ed g) root (Sk (· ∈ o) (atS at_) k) (atS t) x (bestX g t at_ x) := by
    rcases h.best hg ho ha hal hxr.1 with ⟨_, h2⟩ | h1
    · obtain ⟨q, p, hq, hp, hE⟩ := ho.pre i x hi h0
      exact absurd hE (h2 p (hah q p hq hp))
    · exact h1
  have hbr := ho.rng _ hm.2.1.1
  -- the entries turned as a function that differs at x alone
  obtain ⟨τ', hτx, hτ⟩ : ∃ τ' : Int → Int, τ' x = bestX g t at_ x ∧ ∀ y, y ≠ x → τ' y = atS t y := ⟨fun y => if y = x then bestX g t at_ x else atS t y, by simp, fun y hy => by simp [hy]⟩
  have hagree : ∀ y, 0 ≤ y → atS (t.set x.toNat (bestX g t at_ x)) y = τ' y := fun y hy => by
    rw [hset y hy]; split
    · rename_i e; subst e; exact hτx.symm
    · rename_i e; exact (hτ y e).symm
  have chEq : ∀ {σ σ' : Int → Int} {k' : Int}, (∀ y, 0 ≤ y → σ y = σ' y) → (∀ y, Sk (· ∈ o) (atS at_) k' y → y ≠ root → Sk (· ∈ o) (atS at_) k' (σ y)) → ∀ a w, Sk (· ∈ o) (atS at_) k' a → Ch σ root a w → Ch σ' root a w := by
    intro σ σ' k' e hu a w hA hc
    induction hc with
    | self => exact .self
    | @up a w hr _ ih => exact .up hr (by rw [← e a (ho.rng a hA.1).1]; exact ih (hu a hA hr))
  have conv : ∀ {k' r'}, Inv (Ed g) root (· ∈ o) (atS at_) k' r' τ' → Inv (Ed g) root (· ∈ o) (atS at_) k' r' (atS (t.set x.toNat (bestX g t at_ x))) := by
    intro k' r' hI
    have e1 : ∀ y, 0 ≤ y → τ' y = atS (t.set x.toNat (bestX g t at_ x)) y := fun y hy => (hagree y hy).symm
    have hu1 : ∀ y, Sk (· ∈ o) (atS at_) k' y → y ≠ root → Sk (· ∈ o) (atS at_) k' (τ' y) := fun y hy hr => (hI.up y hy hr).1
    have hu2 : ∀ y, Sk (· ∈ o) (atS at_) k' y → y ≠ root → Sk (· ∈ o) (atS at_) k' (atS (t.set x.toNat (bestX g t at_ x)) y) := fun y hy hr => by rw [hagree y (ho.rng y hy.1).1]; exact hu1 y hy hr
    have hc : ∀ a w, Sk (· ∈ o) (atS at_) k' a → (Ch τ' root a w ↔ Ch (atS (t.set x.toNat (bestX g t at_ x))) root a w) := fun a w hA => ⟨chEq e1 hu1 a w hA, chEq hagree hu2 a w hA⟩
    refine ⟨hI.kr, fun y hy hr => ?_, fun y hy hr => ?_, fun y hy w hw => hI.Q y hy w fun h' => hw ((hc y w hy).1 h'), fun z hz hr => ?_⟩
    · rw [hagree y (ho.rng y hy.1).1]; exact hI.up y hy hr
    · rw [hagree y (ho.rng y hy.1).1]
      exact (hI.P y hy hr).mono fun v hv => hv.imp id fun hv h' => hv ((hc _ v (hu1 y hy hr)).2 h')
    · obtain ⟨m, ⟨hm1, hm2, hm3⟩, hm4⟩ := hI.J z hz hr
      refine ⟨m, ⟨hm1, hm2, fun w => ?_⟩, ?_⟩
      · rw [← hc m w hm2, hm3]
        exact ⟨fun h' p hp hE => (hc p w hp).1 (h' p hp hE), fun h' p hp hE => (hc p w hp).2 (h' p hp hE)⟩
      · rw [hagree z (ho.rng z hz.1).1]
        refine hm4.imp id fun ⟨h5, h6⟩ => ⟨fun h' => h5 ((hc _ _ hI.sr).2 h'), fun w => ?_⟩
        rw [← hc m w hm2, ← hc _ w hI.sr, ← hc z w hz]; exact h6 w
  have hvals : ∀ z : Int, z ∈ t.set x.toNat (bestX g t at_ x) → -2 ≤ z ∧ z < g.succ.length := fun z hz => by
    rcases List.mem_or_eq_of_mem_set hz with hz | rfl
    · exact h.vals z hz
    · omega
  have hmu : wgt g at_ (t.set x.toNat (bestX g t at_ x)) x < wgt g at_ t x → mu g o at_ (t.set x.toNat (bestX g t at_ x)) < mu g o at_ t := fun hlt => by
    refine sum_lt hxo (fun y hy => ?_) hlt
    by_cases e : y = x
    · subst e; omega
    · simp only [wgt]; rw [hset y (ho.rng y hy).1, if_neg e]; exact Nat.le_refl _
  have hwx : wgt g at_ (t.set x.toNat (bestX g t at_ x)) x = (atS at_ (bestX g t at_ x)).toNat := by simp only [wgt]; rw [hset x hxr.1, if_pos rfl, if_neg hb]
  by_cases hxS : Sk (· ∈ o) (atS at_) k x
  · obtain ⟨hI, hlt⟩ := h.inv.turn hO hxS hnr hm (Ne.symm hne) hτ hτx
    refine ⟨k, r, ⟨conv hI, by rw [List.length_set]; exact h.len, fun y hy0 hyn => ?_, hvals⟩, hmu ?_⟩
    · rw [hset y hy0]
      split
      · rename_i e; subst e; exact ⟨fun _ => hxS, fun _ => hb⟩
      · exact h.none y hy0 hyn
    · rw [hwx]; simp only [wgt]
      rw [if_neg ((h.none x hxr.1 hxr.2).2 hxS)]
      have := hO.nn _ hm.2.1.1
      omega
  · have hxk : atS at_ x = k := by
      have h1 : k ≤ atS at_ x := Int.not_lt.1 fun hc => hxS ⟨hxo, hc⟩
      have h2 : atS at_ x ≤ k := Int.not_lt.1 fun hc => by
        have e := ha i x hi
        have hk0 : 0 ≤ k := by have := h.inv.kr; have := hO.nn r this.1; omega
        have hil := (List.getElem?_eq_some_iff.1 hi).1
        have hkk : k.toNat < i := by omega
        have hz : o[k.toNat]? = some o[k.toNat] := List.getElem?_eq_getElem (by omega)
        have := (hah k.toNat _ hkk hz).2
        rw [ha _ _ hz] at this; omega
      omega
    have hstab : ∀ z, Sk (· ∈ o) (atS at_) k z → z ≠ root → Mt (Ed g) root (Sk (· ∈ o) (atS at_) k) (atS t) z (atS t z) := fun z hz hzr => by
      obtain ⟨j, hj⟩ := List.mem_iff_getElem?.1 hz.1
      have hj0 : 0 < j := by
        rcases Nat.eq_zero_or_pos j with rfl | h0
        · rw [ho.hd] at hj; exact absurd (Option.some.inj hj).symm hzr
        · exact h0
      have hji : j < i := by have h1 := hz.2; rw [ha j z hj] at h1; have h2 := ha i x hi; omega
      have hzR := ho.rng z hz.1
      have e := hst j z hj0 hji hj
      rcases h.best hg ho ha hal hzR.1 with ⟨h1, _⟩ | ⟨_, h1⟩
      · exact absurd (e.trans h1) ((h.none z hzR.1 hzR.2).2 hz)
      · rw [e]; exact h1
    have hI := h.inv.new hO hstab hxo hxk hm hτ hτx
    refine ⟨k + 1, x, ⟨conv hI, by rw [List.length_set]; exact h.len, fun y hy0 hyn => ?_, hvals⟩, hmu ?_⟩
    · rw [hset y hy0]
      split
      · rename_i e; subst e; exact ⟨fun _ => ⟨hxo, by omega⟩, fun _ => hb⟩
      · rename_i e
        rw [h.none y hy0 hyn]
        refine ⟨fun h' => ⟨h'.1, by have := h'.2; omega⟩, fun h' => ⟨h'.1, ?_⟩⟩
        have h1 := h'.2
        have h2 : atS at_ y ≠ k := fun e' => e (hO.inj _ _ h'.1 hxo (by rw [e', hxk]))
        omega
    · rw [hwx]; simp only [wgt]
      rw [if_pos (Classical.byContradiction fun hc => hxS ((h.none x hxr.1 hxr.2).1 hc))]
      have hbi : ∀ y ∈ o, atS at_ y ≤ g.succ.length := fun y hy => by
        obtain ⟨j, hj⟩ := List.mem_iff_getElem?.1 hy
        rw [ha j y hj]
        have hjl := (List.getElem?_eq_some_iff.1 hj).1
        have hs : o ⊆ (List.range g.succ.length).map (fun i : Nat => (i : Int)) := fun z hz => by
          have := ho.rng z hz
          exact List.mem_map.2 ⟨z.toNat, List.mem_range.2 (by omega), by omega⟩
        have := List.Nodup.length_le_of_subset ho.nd hs
        simp only [List.length_map, List.length_range] at this
        omega
      have := hbi _ hm.2.1.1; have := hO.nn _ hm.2.1.1
      omega
structure DomTree (g : FGraph) (root : Int) (t : List Int) : Prop where
  len : t.length = g.succ.length
  top : atS t root = -1
  none : ∀ y : Int, 0 ≤ y → y < g.succ.length → ¬ Rch (Ed g) root y → atS t y = -2
  up : ∀ y : Int, 0 ≤ y → y < g.succ.length → Rch (Ed g) root y → y ≠ root → Rch (Ed g) root (atS t y) ∧ 0 ≤ atS t y ∧ atS t y < g.succ.length ∧ ∀ w, Dom (Ed g) root w (atS t y) ↔ Dom (Ed g) root w y ∧ w ≠ y
theorem TreeSt.done (hg : GOk g) (ho : OrdL g root o) (ha : AtOk o at_) (hal : at_.length = g.succ.length) (h : TreeSt g root o at_ t k r) (hst : ∀ (j : Nat) y, 0 < j → o[j]? = some y → atS t y = bestX g t at_ y) : DomTree g root (t.set root.toNat (-1)) := by
  have hO := ho.ord ha
  have hall : ∀ y, y ∈ o → Sk (· ∈ o) (atS at_) k y := fun y hy => by
    obtain ⟨j, hj⟩ := List.mem_iff_getElem?.1 hy
    exact h.ahead hg ho ha hal (i := j + 1) (fun q y h0 _ hq => hst q y h0 hq) j y (by omega) hj
  have hrr := ho.rng root hO.r0
  have hrl : root < t.length := by rw [h.len]; exact hrr.2
  have hstab : ∀ z, Sk (· ∈ o) (atS at_) k z → z ≠ root → Mt (Ed g) root (Sk (· ∈ o) (atS at_) k) (atS t) z (atS t z) := fun z hz hzr => by
    obtain ⟨j, hj⟩ := List.mem_iff_getElem?.1 hz.1
    have hj0 : 0 < j := by
      rcases Nat.eq_zero_or_pos j with rfl | h0
      · rw [ho.hd] at hj; exact absurd (Option.some.inj hj).symm hzr
      · exact h0
    have hzR := ho.rng z hz.1
    have e := hst j z hj0 hj
    rcases h.best hg ho ha hal hzR.1 with ⟨h1, _⟩ | ⟨_, h1⟩
    · exact absurd (e.trans h1) ((h.none z hzR.1 hzR.2).2 hz)
    · rw [e]; exact h1
  refine ⟨by rw [List.length_set]; exact h.len, by rw [atS_set hrr.1 hrl hrr.1, if_pos rfl], fun y hy0 hyn hnr => ?_, fun y hy0 hyn hr hne => ?_⟩
  · have hno : y ∉ o := fun hc => hnr (hO.reach.1 hc)
    rw [atS_set hrr.1 hrl hy0, if_neg (fun e : y = root => hno (e ▸ hO.r0))]
    exact Classical.byContradiction fun hc => hno ((h.none y hy0 hyn).1 hc).1
  · have hyo := hO.reach.2 hr
    rw [atS_set hrr.1 hrl hy0, if_neg hne]
    have hu := h.inv.up y (hall y hyo) hne
    have hur := ho.rng _ hu.1.1
    refine ⟨hO.reach.1 hu.1.1, hur.1, hur.2, fun w => ?_⟩
    rw [← h.inv.dom hO hall hstab hu.1.1, ← h.inv.dom hO hall hstab hyo]
    refine ⟨fun hc => ⟨.up hne hc, h.inv.ne (hall y hyo) hne hc⟩, fun ⟨hc, hw⟩ => ?_⟩
    rcases hc.inv with rfl | ⟨_, hc⟩
    · exact absurd rfl hw
    · exact hc
theorem Dom.self {E : Int → Int → Prop} {root a : Int} : Dom E root a a := fun h => h.last rfl
theorem DomTree.unique {t' : List Int} (hr0 : 0 ≤ root) (h : DomTree g root t) (h' : DomTree g root t') : t = t' := by
  refine List.ext_getElem? fun j => ?_
  by_cases hj : j < g.succ.length
  · have e1 : t[j]? = some (atS t j) := by simp [atS, List.getD, List.getElem?_eq_getElem (by rw [h.len]; exact hj : j < t.length)]
    have e2 : t'[j]? = some (atS t' j) := by simp [atS, List.getD, List.getElem?_eq_getElem (by rw [h'.len]; exact hj : j < t'.length)]
    rw [e1, e2]
    refine congrArg some ?_
    by_cases e : (j : Int) = root
    · rw [e, h.top, h'.top]
    · by_cases hr : Rch (Ed g) root j
      · obtain ⟨a1, a2, a3, a4⟩ := h.up j (by omega) (by omega) hr e
        obtain ⟨b1, b2, b3, b4⟩ := h'.up j (by omega) (by omega) hr e
        have c1 := (a4 _).1 Dom.self
        have c2 := (b4 _).1 Dom.self
        exact Dom.anti a1 ((b4 _).2 c1) ((a4 _).2 c2) rfl
      · rw [h.none j (by omega) (by omega) hr, h'.none j (by omega) (by omega) hr]
  · rw [List.getElem?_eq_none (by rw [h.len]; omega), List.getElem?_eq_none (by rw [h'.len]; omega)]
noncomputable def treeP (g : FGraph) (root : Int) : List Int := open Classical in if h : ∃ t, DomTree g root t then h.choose else []
theorem treeP_eq (hr0 : 0 ≤ root) (h : DomTree g root t) : treeP g root = t := by
  have he : ∃ t, DomTree g root t := ⟨t, h⟩
  simp only [treeP, dif_pos he]
  exact DomTree.unique hr0 he.choose_spec h
end
structure OrdSt (g : FGraph) (root : Int) (sn : List Bool) (nx st out : List Int) : Prop where
  sl : sn.length = 64
  nl : nx.length = 64
  nd : (out ++ st.reverse).Nodup
  seen : ∀ y : Int, 0 ≤ y → y < g.succ.length → (sn[y.toNat]? = some true ↔ y ∈ out ++ st.reverse)
  rng : ∀ y : Int, y ∈ out ++ st.reverse → 0 ≤ y ∧ y < g.succ.length
  last : (out ++ st.reverse).getLast? = some root
  pre : ∀ A x B, out ++ st.reverse = A ++ x :: B → B ≠ [] → ∃ p ∈ B, Ed g p x
  nxt : ∀ y : Int, y ∈ out ++ st.reverse → 0 ≤ atS nx y ∧ atS nx y ≤ (g.succ.getD y.toNat []).length ∧ ∀ (j : Nat) z, (j : Int) < atS nx y → (g.succ.getD y.toNat [])[j]? = some z → z ∈ out ++ st.reverse
  fin : ∀ y ∈ out, atS nx y = (g.succ.getD y.toNat []).length
  nx0 : ∀ y : Int, 0 ≤ y → y < g.succ.length → y ∉ out ++ st.reverse → atS nx y = 0
section
variable {g : FGraph} {root : Int} {sn : List Bool} {nx st out : List Int}
theorem OrdSt.len (h : OrdSt g root sn nx st out) : out.length + st.length ≤ g.succ.length := by
  have hs : out ++ st.reverse ⊆ (List.range g.succ.length).map (fun i : Nat => (i : Int)) := fun z hz => by
    have := h.rng z hz
    exact List.mem_map.2 ⟨z.toNat, List.mem_range.2 (by omega), by omega⟩
  have := List.Nodup.length_le_of_subset h.nd hs
  simpa using this
theorem atS_rep (n : Nat) (y : Int) : atS (List.replicate n (0 : Int)) y = 0 := by
  simp only [atS, List.getD, List.getElem?_replicate]; split <;> rfl
theorem rep_ne (n j : Nat) : ¬ (List.replicate n false)[j]? = some true := by
  simp only [List.getElem?_replicate]; split <;> simp
theorem ordSt_init (hg : GOk g) {r : Int} (hr : 0 ≤ r) (hrn : r < g.succ.length) : OrdSt g r ((List.replicate 64 false).set r.toNat true) (List.replicate 64 0) [r] [] := by
  have hl := hg.len
  refine ⟨by simp, by simp, by simp, fun y hy hyn => ?_, fun y hy => ?_, by simp, fun A x B hAB hB => ?_, fun y hy => ?_, fun y hy => by simp at hy, fun y hy hyn hno => ?_⟩
  · rw [List.getElem?_set, List.length_replicate]
    simp only [List.nil_append, List.reverse_cons, List.reverse_nil, List.mem_singleton]
    by_cases e : y = r
    · subst e; simp; omega
    · rw [if_neg (by omega)]
      exact ⟨fun h => absurd h (rep_ne _ _), fun h => absurd h e⟩
  · simp at hy; subst hy; exact ⟨hr, hrn⟩
  · have e : A ++ x :: B = [r] := by simpa using hAB.symm
    cases A with
    | nil => simp at e; exact absurd e.2 hB
    | cons a A => simp at e
  · rw [atS_rep]; exact ⟨by omega, by omega, fun j z hj => by omega⟩
  · exact atS_rep _ _
theorem GOk.lenX (hg : GOk g) (x : Nat) : (g.succ.getD x []).length ≤ g.succ.length := by
  by_cases hx : x < g.succ.length
  · have e : g.succ.getD x [] = g.succ[x] := by simp [List.getD, List.getElem?_eq_getElem hx]
    rw [e]; exact rising_len (hg.rise _ (List.getElem_mem hx))
  · simp [List.getD, List.getElem?_eq_none (by omega : g.succ.length ≤ x)]
theorem OrdSt.pass (hg : GOk g) {st0 : List Int} {x y : Int} (hst : st = st0 ++ [x]) (h : OrdSt g root sn nx st out) {j : Nat} (hj : atS nx x = j) (hy : (g.succ.getD x.toNat [])[j]? = some y) (hs : y ∈ out ++ st.reverse) : OrdSt g root sn (nx.set x.toNat (j + 1)) st out := by
  have hxm : x ∈ out ++ st.reverse := by rw [hst]; simp
  have hx := h.rng x hxm
  have hl := hg.len
  have hset : ∀ y, 0 ≤ y → atS (nx.set x.toNat ((j : Int) + 1)) y = if y = x then (j : Int) + 1 else atS nx y := fun y hy => atS_set hx.1 (by rw [h.nl]; omega) hy
  have hjl := (List.getElem?_eq_some_iff.1 hy).1
  refine ⟨h.sl, by rw [List.length_set]; exact h.nl, h.nd, h.seen, h.rng, h.last, h.pre, fun v hv => ?_, fun v hv => ?_, fun v hv hvn hno => ?_⟩
  · rw [hset v (h.rng v hv).1]
    by_cases e : v = x
    · subst e; rw [if_pos rfl]
      refine ⟨by omega, by omega, fun q z hq hz => ?_⟩
      by_cases hqj : q = j
      · subst hqj; rw [hy] at hz; cases hz; exact hs
      · exact (h.nxt v hv).2.2 q z (by omega) hz
    · rw [if_neg e]; exact h.nxt v hv
  · rw [hset v (h.rng v (by simp [hv])).1]
    have hne : v ≠ x := by
      rintro rfl
      have := h.nd
      rw [hst, List.reverse_append, List.nodup_append] at this
      exact this.2.2 _ hv _ (by simp) rfl
    rw [if_neg hne]; exact h.fin v hv
  · rw [hset v hv, if_neg (fun e : v = x => hno (e ▸ hxm))]; exact h.nx0 v hv hvn hno
theorem OrdSt.push (hg : GOk g) {st0 : List Int} {x y : Int} (hst : st = st0 ++ [x]) (h : OrdSt g root sn nx st out) {j : Nat} (hj : atS nx x = j) (hy : (g.succ.getD x.toNat [])[j]? = some y) (hs : y ∉ out ++ st.reverse) : OrdSt g root (sn.set y.toNat true) (nx.set x.toNat (j + 1)) (st ++ [y]) out := by
  have hxm : x ∈ out ++ st.reverse := by rw [hst]; simp
  have hx := h.rng x hxm
  have hl := hg.len
  have hE : Ed g x y := ⟨hx.1, List.mem_of_getElem? hy⟩
  have hyr := (hE.rng hg).2
  have hset : ∀ y, 0 ≤ y → atS (nx.set x.toNat ((j : Int) + 1)) y = if y = x then (j : Int) + 1 else atS nx y := fun y hy => atS_set hx.1 (by rw [h.nl]; omega) hy
  have hjl := (List.getElem?_eq_some_iff.1 hy).1
  have hmem : ∀ v, v ∈ out ++ (st ++ [y]).reverse ↔ v = y ∨ v ∈ out ++ st.reverse := fun v => by
    simp only [List.mem_append, List.mem_reverse, List.mem_singleton]
    constructor
    · rintro (h | h | h)
      · exact .inr (.inl h)
      · exact .inr (.inr h)
      · exact .inl h
    · rintro (h | h | h)
      · exact .inr (.inr h)
      · exact .inl h
      · exact .inr (.inl h)
  have hxy : x ≠ y := fun e => hs (e ▸ hxm)
  have hrev : out ++ (st ++ [y]).reverse = out ++ y :: st.reverse := by simp
  refine ⟨by rw [List.length_set]; exact h.sl, by rw [List.length_set]; exact h.nl, ?_, fun v hv hvn => ?_, fun v hv => ?_, ?_, fun A v B hAB hB => ?_, fun v hv => ?_, fun v hv => ?_, fun v hv hvn hno => ?_⟩
  · rw [hrev]
    have h1 : (out ++ y :: st.reverse).Perm (y :: (out ++ st.reverse)) := List.perm_middle
    exact h1.nodup_iff.2 (List.nodup_cons.2 ⟨hs, h.nd⟩)
  · rw [hmem, ← h.seen v hv hvn]
    simp only [List.getElem?_set, h.sl]
    by_cases e : v = y
    · subst e; simp; omega
    · rw [if_neg (by omega)]; simp [e]
  · rcases (hmem v).1 hv with rfl | hv
    · exact hyr
    · exact h.rng v hv
  · rw [hrev]
    have := h.last
    rw [hst] at this ⊢
    simp only [List.reverse_append, List.reverse_cons, List.reverse_nil, List.nil_append, List.singleton_append, List.getLast?_append, List.getLast?_cons] at this ⊢
    simpa using this
  · rw [hrev] at hAB
    rcases List.append_eq_append_iff.1 hAB with ⟨A', h1, h2⟩ | ⟨C, h1, h2⟩
    · -- the place lies behind out
      cases A' with
      | nil =>
        simp only [List.nil_append, List.cons.injEq] at h2
        obtain ⟨rfl, rfl⟩ := h2
        exact ⟨x, by rw [hst]; simp, hE⟩
      | cons a A' =>
        simp only [List.cons_append, List.cons.injEq] at h2
        obtain ⟨rfl, h2⟩ := h2
        exact h.pre (out ++ A') v B (by rw [h2]; simp) hB
    · cases C with
      | nil =>
        simp only [List.nil_append, List.cons.injEq] at h2
        obtain ⟨rfl, rfl⟩ := h2
        exact ⟨x, by rw [hst]; simp, hE⟩
      | cons c C =>
        simp only [List.cons_append, List.cons.injEq] at h2
        obtain ⟨rfl, h2⟩ := h2
        obtain ⟨p, hp, hpE⟩ := h.pre A v (C ++ st.reverse) (by rw [h1]; simp) (by rw [hst]; simp)
        refine ⟨p, ?_, hpE⟩
        rw [h2]
        rcases List.mem_append.1 hp with hp | hp
        · simp [hp]
        · simp only [List.mem_append, List.mem_cons]; exact .inr (.inr hp)
  · rcases (hmem v).1 hv with rfl | hv
    · rw [hset v hyr.1, if_neg (Ne.symm hxy), h.nx0 v hyr.1 hyr.2 hs]
      exact ⟨by omega, by omega, fun q z hq => by omega⟩
    · rw [hset v (h.rng v hv).1]
      by_cases e : v = x
      · subst e; rw [if_pos rfl]
        refine ⟨by omega, by omega, fun q z hq hz => ?_⟩
        by_cases hqj : q = j
        · subst hqj; rw [hy] at hz; cases hz; exact (hmem y).2 (.inl rfl)
        · exact (hmem z).2 (.inr ((h.nxt v hv).2.2 q z (by omega) hz))
      · rw [if_neg e]
        have := h.nxt v hv
        exact ⟨this.1, this.2.1, fun q z hq hz => (hmem z).2 (.inr (this.2.2 q z hq hz))⟩
  · rw [hset v (h.rng v (by simp [hv])).1]
    have hne : v ≠ x := by
      rintro rfl
      have := h.nd
      rw [hst, List.reverse_append, List.nodup_append] at this
      exact this.2.2 _ hv _ (by simp) rfl
    rw [if_neg hne]; exact h.fin v hv
  · have hno' : v ∉ out ++ st.reverse := fun h' => hno ((hmem v).2 (.inr h'))
    rw [hset v hv, if_neg (fun e : v = x => hno' (e ▸ hxm))]; exact h.nx0 v hv hvn hno'
theorem OrdSt.pop {x : Int} (h : OrdSt g root sn nx (st ++ [x]) out) (hx : atS nx x = (g.succ.getD x.toNat []).length) : OrdSt g root sn nx st (out ++ [x]) := by
  have e : out ++ (st ++ [x]).reverse = out ++ [x] ++ st.reverse := by simp
  have h' := h
  obtain ⟨h1, h2, h3, h4, h5, h6, h7, h8, h9, h10⟩ := h
  rw [e] at h3 h6
  simp only [e] at h4 h5 h7 h8 h10
  refine ⟨h1, h2, h3, h4, h5, h6, h7, h8, fun v hv => ?_, h10⟩
  rcases List.mem_append.1 hv with hv | hv
  · exact h9 v hv
  · simp at hv; subst hv; exact hx
theorem OrdSt.done (h : OrdSt g root sn nx [] out) : OrdL g root out.reverse := by
  obtain ⟨h1, h2, h3, h4, h5, h6, h7, h8, h9, h10⟩ := h
  simp only [List.reverse_nil, List.append_nil] at h3 h4 h5 h6 h7 h8 h10
  have hlen : ∀ (i : Nat) x, out.reverse[i]? = some x → i < out.length ∧ out[out.length - 1 - i]? = some x := fun i x hi => by
    have hil : i < out.length := by have := (List.getElem?_eq_some_iff.1 hi).1; simpa using this
    rw [List.getElem?_reverse hil] at hi
    exact ⟨hil, hi⟩
  refine ⟨((List.reverse_perm out).nodup_iff.2 h3), ?_, fun i x hi h0 => ?_, fun a b ha hE => ?_, fun a ha => h5 a (List.mem_reverse.1 ha)⟩
  · have hne : out ≠ [] := by rintro rfl; simp at h6
    have hl := List.length_pos_iff.2 hne
    rw [List.getElem?_reverse hl, ← h6, List.getLast?_eq_getElem?]
    simp
  · obtain ⟨hil, hx⟩ := hlen i x hi
    have hsp : out = out.take (out.length - 1 - i) ++ x :: out.drop (out.length - i) := by
      have e1 := List.take_append_drop (out.length - 1 - i) out
      have e2 : out.drop (out.length - 1 - i) = x :: out.drop (out.length - 1 - i + 1) := by
        rw [List.drop_eq_getElem_cons (by omega)]
        have := (List.getElem?_eq_some_iff.1 hx).2
        rw [this]
      rw [e2] at e1
      rw [show out.length - i = out.length - 1 - i + 1 by omega]; exact e1.symm
    obtain ⟨p, hp, hE⟩ := h7 _ x _ hsp (by
      intro e; have := congrArg List.length e; simp at this; omega)
    obtain ⟨q, hq⟩ := List.mem_iff_getElem?.1 hp
    rw [List.getElem?_drop] at hq
    have hql := (List.getElem?_eq_some_iff.1 hq).1
    refine ⟨out.length - 1 - (out.length - i + q), p, by omega, ?_, hE⟩
    rw [List.getElem?_reverse (by omega), ← hq]; congr 1; omega
  · have hao := List.mem_reverse.1 ha
    obtain ⟨j, hj⟩ := List.mem_iff_getElem?.1 hE.2
    have := h8 a hao
    exact List.mem_reverse.2 (this.2.2 j b (by rw [h9 a hao]; have := (List.getElem?_eq_some_iff.1 hj).1; omega) hj)
end
theorem exists_snoc {α : Type _} {l : List α} (h : 0 < l.length) : ∃ a b, l = a ++ [b] := by
  rcases List.eq_nil_or_concat l with e | ⟨a, b, e⟩
  · subst e; simp at h
  · exact ⟨a, b, by rw [e, List.concat_eq_append]⟩
theorem treeSt_init {g : FGraph} {r : Int} {o at_ : List Int} (hg : GOk g) (ho : OrdL g r o) (ha : AtOk o at_) : TreeSt g r o at_ ((List.replicate g.succ.length (-2)).set r.toNat r) 1 r := by
  have hr := ho.rng r (List.mem_of_getElem? ho.hd)
  have hO := ho.ord ha
  refine ⟨Inv.init hO _, by simp, fun y hy hyn => ?_, fun z hz => ?_⟩
  · rw [atS_set hr.1 (by simp; omega) hy]
    by_cases e : y = r
    · subst e; rw [if_pos rfl]
      exact ⟨fun _ => ⟨hO.r0, by have := hO.p0; omega⟩, fun _ => by omega⟩
    · rw [if_neg e]
      have e2 : atS (List.replicate g.succ.length (-2 : Int)) y = -2 := by
        simp only [atS, List.getD, List.getElem?_replicate]; rw [if_pos (by omega)]; rfl
      exact ⟨fun h => absurd e2 h, fun h => absurd (Classical.byContradiction fun hc => by have := hO.low h.1 hc; have := h.2; omega) e⟩
  · rcases List.mem_or_eq_of_mem_set hz with hz | rfl
    · have := List.eq_of_mem_replicate hz; omega
    · omega
theorem TreeSt.bestS {g : FGraph} {root : Int} {o at_ t : List Int} {k r : Int} (hg : GOk g) (ho : OrdL g root o) (ha : AtOk o at_) (hal : at_.length = g.succ.length) (h : TreeSt g root o at_ t k r) {x : Int} (hx : 0 ≤ x) {l : List Int} (hl : ∀ p ∈ l, Ed g p x) (hne : bestF t at_ l ≠ -2) : Sk (· ∈ o) (atS at_) k (bestF t at_ l) := by
  rcases bestF_law (h.climb hg ho ha hal) l (fun p hp => by have := (hl p hp).rng hg; exact h.none p this.1.1 this.1.2) with ⟨h1, _⟩ | ⟨_, h1, _⟩
  · exact absurd h1 hne
  · exact h1
def AtK (o at_ : List Int) (n k : Nat) : Prop := at_.length = n ∧ (∀ (j : Nat) y, j < k → o[j]? = some y → atS at_ y = j) ∧ ∀ z ∈ at_, 0 ≤ z ∧ z ≤ 64
theorem atK_zero (o : List Int) (n : Nat) : AtK o (List.replicate n 0) n 0 := ⟨by simp, fun j y h => by omega, fun z hz => by have := List.eq_of_mem_replicate hz; omega⟩
theorem atK_step {g : FGraph} {r : Int} {o at_ : List Int} (ho : OrdL g r o) (hl : o.length ≤ 64) {k : Nat} {x : Int} (h : AtK o at_ g.succ.length k) (hx : o[k]? = some x) : AtK o (at_.set x.toNat (k : Int)) g.succ.length (k + 1) := by
  have hxr := ho.rng x (List.mem_of_getElem? hx)
  have hkl := (List.getElem?_eq_some_iff.1 hx).1
  refine ⟨by rw [List.length_set]; exact h.1, fun j y hj hy => ?_, fun z hz => ?_⟩
  · have hyr := ho.rng y (List.mem_of_getElem? hy)
    rw [atS_set hxr.1 (by rw [h.1]; omega) hyr.1]
    by_cases e : y = x
    · subst e; rw [if_pos rfl, nodup_idx ho.nd hy hx]
    · rw [if_neg e]
      refine h.2.1 j y ?_ hy
      rcases Nat.lt_or_ge j k with h' | h'
      · exact h'
      · have : j = k := by omega
        subst this; rw [hx] at hy; exact absurd (Option.some.inj hy).symm e
  · rcases List.mem_or_eq_of_mem_set hz with hz | rfl
    · exact h.2.2 z hz
    · omega
theorem atK_ok {o at_ : List Int} {n : Nat} (h : AtK o at_ n o.length) : AtOk o at_ := fun i x hi => h.2.1 i x (List.getElem?_eq_some_iff.1 hi).1 hi
theorem OrdL.len {g : FGraph} {r : Int} {o : List Int} (ho : OrdL g r o) : o.length ≤ g.succ.length := by
  have hs : o ⊆ (List.range g.succ.length).map (fun i : Nat => (i : Int)) := fun z hz => by
    have := ho.rng z hz
    exact List.mem_map.2 ⟨z.toNat, List.mem_range.2 (by omega), by omega⟩
  have := List.Nodup.length_le_of_subset ho.nd hs
  simpa using this
def TreeΦ (g : FGraph) (r : Int) (m : Imm) (v : Value) : Prop := ∃ A c t, v = .slice A t.length c ∧ Ints m A c t ∧ ((mayG g = true ∧ 0 ≤ r ∧ r < g.succ.length) → DomTree g r t ∧ t = treeP g r) ∧ (¬ (mayG g = true ∧ 0 ≤ r ∧ r < g.succ.length) → t = [])
def OrderΦ (g : FGraph) (r : Int) (m : Imm) (v : Value) : Prop := ∃ A c o, v = .slice A o.length c ∧ Ints m A c o ∧ ((mayG g = true ∧ 0 ≤ r ∧ r < g.succ.length) → OrdL g r o) ∧ (¬ (mayG g = true ∧ 0 ≤ r ∧ r < g.succ.length) → o = [])
end Go.Proofs.YtipmgkhjoekaaaaGreat
