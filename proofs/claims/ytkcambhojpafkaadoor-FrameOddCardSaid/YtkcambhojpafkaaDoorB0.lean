/- Words for worlds that have grown, and one theorem: a region that draws its order, whose head reads and calls what leaves all that was there alone, and whose tail stands in one order. Over any program. -/
import Derived.WalkKit
import Derived.BigQuiet
import Derived.StillTail
import Derived.Lib.Hide
set_option linter.unusedSimpArgs false
set_option linter.unusedVariables false
namespace Go.Proofs.YtkcambhojpafkaaDoor
open Go Go.RowKit

/-- What has come to a world: new blocks, and its count of draws. -/
structure More where
  objs : Array Obj
  drawn : Nat
instance : Inhabited More := ⟨⟨#[], 0⟩⟩
/-- 'w' with new blocks behind its own, and its count of draws at a number. -/
def ext (w : World) (d : More) : World := { w with heap := w.heap ++ d.objs, drawn := d.drawn }

section
variable (w : World) (d e : More) (a : Addr)
theorem heap_ext_lt {b : Nat} (h : b < w.heap.size) : (ext w d).heap[b]? = w.heap[b]? := by
  show (w.heap ++ d.objs)[b]? = _
  rw [Array.getElem?_append_left h]
@[simp, go_sem] theorem size_ext : (ext w d).heap.size = w.heap.size + d.objs.size := by
  show (w.heap ++ d.objs).size = _
  simp
@[simp, go_sem] theorem ext_ext : ext (ext w d) e = ext w ⟨d.objs ++ e.objs, e.drawn⟩ := by
  simp [ext, Array.append_assoc]
theorem ext_nil : ext w ⟨#[], w.drawn⟩ = w := by simp [ext]
@[go_sem] theorem drew_ext : (ext w d).drew = ext w ⟨d.objs, d.drawn + 1⟩ := rfl
@[go_sem] theorem drewN_ext (n : Nat) : (ext w d).drewN n = ext w ⟨d.objs, d.drawn + n⟩ := rfl
@[go_sem] theorem alloc_ext (o : Obj) : (ext w d).alloc o = ext w ⟨d.objs.push o, d.drawn⟩ := by
  simp [ext, World.alloc, Array.push_append]
theorem drew_is_ext : w.drew = ext w ⟨#[], w.drawn + 1⟩ := by unfold ext World.drew; simp
theorem drewN_is_ext (n : Nat) : w.drewN n = ext w ⟨#[], w.drawn + n⟩ := by unfold ext World.drewN; simp
theorem alloc_is_ext (o : Obj) : w.alloc o = ext w ⟨#[o], w.drawn⟩ := by unfold ext World.alloc; simp
theorem lt_of_some {b : Nat} {o : Obj} (h : w.heap[b]? = some o) : b < w.heap.size := (Array.getElem?_eq_some_iff.1 h).1
theorem lt_of_isSome (h : (w.cell? a).isSome = true) : a.block < w.heap.size := by
  obtain ⟨v, hv⟩ := Option.isSome_iff_exists.1 h
  exact World.block_lt_of_cell? w a hv
@[go_sem] theorem cell?_ext (h : (w.cell? a).isSome = true) : (ext w d).cell? a = w.cell? a :=
  World.cell?_of_block (heap_ext_lt w d (lt_of_isSome w a h))
@[go_sem] theorem frozen?_ext (h : (w.cell? a).isSome = true) : (ext w d).frozen? a = w.frozen? a :=
  World.frozen?_of_block (heap_ext_lt w d (lt_of_isSome w a h))
@[go_sem] theorem cell?_alloc_some (o : Obj) (h : (w.cell? a).isSome = true) : (w.alloc o).cell? a = w.cell? a :=
  World.cell?_alloc_lt w o a (lt_of_isSome w a h)
@[go_sem] theorem frozen?_alloc_some (o : Obj) (h : (w.cell? a).isSome = true) : (w.alloc o).frozen? a = w.frozen? a :=
  World.frozen?_alloc_old w o a (Nat.ne_of_lt (lt_of_isSome w a h))
theorem below_ext : Below w.heap.size w (ext w d) :=
  ⟨rfl, rfl, rfl, by simp, fun _ hk => heap_ext_lt w d hk⟩
end

theorem ext_of_below {w w' : World} (h : Below w.heap.size w w') : ∃ d, w' = ext w d := by
  refine ⟨⟨w'.heap.extract w.heap.size w'.heap.size, w'.drawn⟩, ?_⟩
  have hh : w'.heap = w.heap ++ w'.heap.extract w.heap.size w'.heap.size := by
    apply Array.ext_getElem?
    intro i
    rcases Nat.lt_or_ge i w.heap.size with hi | hi
    · rw [h.block i hi, Array.getElem?_append_left hi]
    · rw [Array.getElem?_append_right hi, Array.getElem?_extract]
      rcases Nat.lt_or_ge i w'.heap.size with hj | hj
      · rw [if_pos (by omega)]
        congr 1; omega
      · rw [Array.getElem?_eq_none hj, if_neg (by omega)]
  obtain ⟨h1, h2, h3, h4, h5⟩ := h
  cases w; cases w'
  simp only [ext] at *
  subst h1; subst h2; subst h3
  rw [← hh]

/-- w' has grown out of w. -/
def XE (w w' : World) : Prop := ∃ d, w' = ext w d
theorem xe_ext (w : World) (d : More) : XE w (ext w d) := ⟨d, rfl⟩
theorem XE.refl (w : World) : XE w w := ⟨⟨#[], w.drawn⟩, (ext_nil w).symm⟩
theorem XE.ext {w w' : World} (h : XE w w') (d : More) : XE w (ext w' d) := by obtain ⟨e, rfl⟩ := h; exact ⟨_, ext_ext w e d⟩
theorem XE.alloc {w w' : World} (h : XE w w') (o : Obj) : XE w (w'.alloc o) := by rw [alloc_is_ext]; exact h.ext _
theorem XE.drew {w w' : World} (h : XE w w') : XE w w'.drew := by rw [drew_is_ext]; exact h.ext _
theorem XE.drewN {w w' : World} (h : XE w w') (n : Nat) : XE w (w'.drewN n) := by rw [drewN_is_ext]; exact h.ext _
theorem XE.trans {a b c : World} (h : XE a b) (k : XE b c) : XE a c := by obtain ⟨d, rfl⟩ := k; exact h.ext d
theorem XE.below {w w' : World} (h : XE w w') : Below w.heap.size w w' := by obtain ⟨d, rfl⟩ := h; exact below_ext w d
theorem XE.of_below {w w' : World} (h : Below w.heap.size w w') : XE w w' := ext_of_below h
theorem XE.setCell {w w' : World} (h : XE w w') {a : Addr} (ha : w.heap.size ≤ a.block) (v : Value) : XE w (w'.setCell a v) := .of_below (h.below.setCell ha v)
theorem XE.size {w w' : World} (h : XE w w') : w.heap.size ≤ w'.heap.size := h.below.size
theorem XE.heap {w w' : World} (h : XE w w') {b : Nat} (hb : b < w.heap.size) : w'.heap[b]? = w.heap[b]? := h.below.block b hb
theorem XE.obj {w w' : World} (h : XE w w') {b : Nat} {o : Obj} (hb : w.heap[b]? = some o) : w'.heap[b]? = some o := by rw [h.heap (lt_of_some w hb)]; exact hb
theorem XE.cell {w w' : World} (h : XE w w') {a : Addr} {v : Value} (hc : w.cell? a = some v) : w'.cell? a = some v := by
  obtain ⟨d, rfl⟩ := h; rw [cell?_ext w d a (by rw [hc]; rfl)]; exact hc

/-- What a call comes to that answers v and leaves all that was there alone. -/
def RetE (v : Value) (w : World) (e : Ending) (w' : World) : Prop := e = .returned v ∧ XE w w'
/-- .. and leaves the very world. -/
def RetS (v : Value) (w : World) (e : Ending) (w' : World) : Prop := e = .returned v ∧ w' = w
theorem ri {k : IntKind} {a b : Int} (h : a = b) : Ending.returned (.int k a) = Ending.returned (.int k b) := by rw [h]
theorem rb {a b : Bool} (h : a = b) : Ending.returned (.bool a) = Ending.returned (.bool b) := by rw [h]
theorem RetS.e {v : Value} {w : World} {e : Ending} {w' : World} (h : RetS v w e w') : RetE v w e w' := ⟨h.1, by rw [h.2]; exact XE.refl w⟩
theorem callsE_of_S {P : Program} {f : FuncId} {args : Array Value} {w : World} {v : Value} (h : Calls P f args w (RetS v w)) : Calls P f args w (RetE v w) :=
  h.mono fun _ _ h => h.e
/-- In a quiet walk over the grown worlds: a callee's contract, at the world where it stands. -/
theorem quietE {P : Program} {f : FuncId} {args : Array Value} {w : World} {d : More} {v : Value} (h : Calls P f args (ext w d) (RetE v (ext w d))) :
    Calls P f args (ext w d) fun e w'' => e = .returned v ∧ ∃ x, w'' = ext w x :=
  h.mono fun _ _ ⟨h1, x, h2⟩ => ⟨h1, _, h2.trans (ext_ext w d x)⟩
theorem quietS {P : Program} {f : FuncId} {args : Array Value} {w : World} {d : More} {v : Value} (h : Calls P f args (ext w d) (RetS v (ext w d))) :
    Calls P f args (ext w d) fun e w'' => e = .returned v ∧ ∃ x, w'' = ext w x := quietE (callsE_of_S h)

/-! ### The region: a quiet head, a tail in one order -/

theorem getD_append_left {xs ys : Array Bool} {i : Nat} {b : Bool} (h : i < xs.size) : (xs ++ ys).getD i b = xs.getD i b := by
  simp only [Array.getD_eq_getD_getElem?, Array.getElem?_append_left h]
theorem getD_append_rep {xs : Array Bool} {m i : Nat} (h : xs.size ≤ i) (hi : i < xs.size + m) (b : Bool) : (xs ++ Array.replicate m false).getD i b = false := by
  simp only [Array.getD_eq_getD_getElem?, Array.getElem?_append_right h]
  rw [Array.getElem?_replicate, if_pos (by omega)]; rfl
theorem getD_append_rep_false {xs : Array Bool} {m i : Nat} (h : xs.size ≤ i) : (xs ++ Array.replicate m false).getD i false = false := by
  simp only [Array.getD_eq_getD_getElem?, Array.getElem?_append_right h, Array.getElem?_replicate]
  split <;> rfl

/-- Of number i some operation that stands later, n at the latest, waits. -/
def waits (ops : Array Oper) (j i : Nat) : Bool := match ops[j]? with
  | some o => o.after.any fun e => Region.binds .any e && e.on == i
  | none => false
def headTailB (l : List Oper) (n : Nat) : Bool :=
  decide (n < l.length) && Region.lexB .any (l.take n).toArray &&
  ((List.range n).all fun i => match (l.toArray)[i]? with
    | some o => (o.after.all fun e => !Region.binds .any e || decide (e.on < i)) && (match o.guard with | some (j, _) => decide (j < n) | none => true)
    | none => true) &&
  ((List.range n).all fun i => (List.range (n + 1)).any fun j => decide (i < j) && waits l.toArray j i) &&
  ((List.range l.length).all fun t => decide (t ≤ n) || waits l.toArray t (t - 1)) &&
  Region.seqB .any l.toArray (l.length - n) n (Array.replicate n true ++ Array.replicate (l.length - n) false)

section
variable {P : Program} {l : List Oper} {n : Nat} {C : World → Prop}

theorem waits_spec {ops : Array Oper} {j i : Nat} (h : waits ops j i = true) : ∃ o, ops[j]? = some o ∧ ∃ e ∈ o.after, Region.binds .any e = true ∧ e.on = i := by
  unfold waits at h
  split at h
  · rename_i o ho
    obtain ⟨e, he, hb⟩ := Array.any_eq_true'.1 h
    simp only [Bool.and_eq_true, beq_iff_eq] at hb
    exact ⟨o, ho, e, he, hb.1, hb.2⟩
  · cases h

structure HB (l : List Oper) (n : Nat) : Prop where
  lt : n < l.length
  lex : Region.lexB .any (l.take n).toArray = true
  edge : ∀ i, i < n → ∀ o, l[i]? = some o → (∀ e ∈ o.after, Region.binds .any e = true → e.on < i) ∧ ∀ j b, o.guard = some (j, b) → j < n
  sink : ∀ i, i < n → ∃ j, j ≤ n ∧ i < j ∧ waits l.toArray j i = true
  chain : ∀ t, n < t → t < l.length → waits l.toArray t (t - 1) = true
  seq : Region.seqB .any l.toArray (l.length - n) n (Array.replicate n true ++ Array.replicate (l.length - n) false) = true

theorem HB.of (h : headTailB l n = true) : HB l n := by
  unfold headTailB at h
  simp only [Bool.and_eq_true, decide_eq_true_eq] at h
  obtain ⟨⟨⟨⟨⟨h1, h2⟩, h3⟩, h4⟩, h5⟩, h6⟩ := h
  refine ⟨h1, h2, ?_, ?_, ?_, h6⟩
  · intro i hi o ho
    have h := List.all_eq_true.1 h3 i (List.mem_range.2 hi)
    have ho' : l.toArray[i]? = some o := by simpa using ho
    simp only [ho'] at h
    simp only [Bool.and_eq_true] at h
    refine ⟨fun e he hb => ?_, fun j b hg => ?_⟩
    · have := Array.all_eq_true'.1 h.1 e he
      simpa [hb] using this
    · have := h.2
      simpa [hg] using this
  · intro i hi
    have h := List.all_eq_true.1 h4 i (List.mem_range.2 hi)
    obtain ⟨j, hj, hj2⟩ := List.any_eq_true.1 h
    simp only [Bool.and_eq_true, decide_eq_true_eq] at hj2
    exact ⟨j, by have := List.mem_range.1 hj; omega, hj2.1, hj2.2⟩
  · intro t ht hl
    have h := List.all_eq_true.1 h5 t (List.mem_range.2 hl)
    simp only [Bool.or_eq_true, decide_eq_true_eq] at h
    rcases h with h | h
    · omega
    · exact h

/-- The head's marks: closed under what each waits for. -/
structure Marks (l : List Oper) (n : Nat) (L : Array Bool) : Prop where
  size : L.size = n
  closed : ∀ j o, j < n → l[j]? = some o → L.getD j false = true → ∀ e ∈ o.after, Region.binds .any e = true → L.getD e.on false = true

theorem getElem?_head {i : Nat} (h : i < n) : (l.take n).toArray[i]? = l[i]? := by simp [h]

theorem Marks.set {L : Array Bool} {i : Nat} (h : Marks l n L) (hi : i ∈ Region.ready .any (l.take n).toArray L) : Marks l n (L.setIfInBounds i true) := by
  obtain ⟨h0, oi, hoi, hall⟩ := mem_ready.1 hi
  refine ⟨by simp [h.size], fun j o hj ho hl e he hb => ?_⟩
  by_cases hij : i = j
  · subst hij
    rw [getElem?_head hj, ho] at hoi
    obtain rfl := Option.some.inj hoi
    exact getD_set_true (hall e he hb)
  · rw [getD_set_ne false hij] at hl
    exact getD_set_true (h.closed j o hj ho hl e he hb)

theorem getD_tf {L : Array Bool} {i : Nat} (hi : i < L.size) : L.getD i true = L.getD i false := by
  simp [hi]

/-- Among the first n all are done, or one is ready. -/
theorem ready_or_done (hb : HB l n) {L : Array Bool} (hm : Marks l n L) (h : Region.ready .any (l.take n).toArray L = []) : ∀ i, i < n → L.getD i false = true := by
  intro i
  induction i using Nat.strongRecOn with
  | _ i ih =>
    intro hi
    cases hl : L.getD i false with
    | true => rfl
    | false =>
      exfalso
      obtain ⟨o, ho⟩ : ∃ o, l[i]? = some o := ⟨l[i]'(by have := hb.lt; omega), by simp⟩
      have : i ∈ Region.ready .any (l.take n).toArray L := mem_ready.2
        ⟨by rw [getD_tf (by rw [hm.size]; exact hi)]; exact hl, o, by rw [getElem?_head hi]; exact ho,
         fun e he hbd => by have := (hb.edge i hi o ho).1 e he hbd; exact ih _ this (by omega)⟩
      rw [h] at this
      cases this

theorem ready_lt (hb : HB l n) {L : Array Bool} (hm : Marks l n L) {i0 : Nat} (hi0 : i0 < n) (hun : L.getD i0 false = false) {t : Nat}
    (ht : t ∈ Region.ready .any l.toArray (L ++ Array.replicate (l.length - n) false)) : t < n := by
  obtain ⟨h0, o, ho, hall⟩ := mem_ready.1 ht
  have htl : t < l.length := by have := (Array.getElem?_eq_some_iff.1 ho).1; simpa using this
  rcases Nat.lt_trichotomy t n with h | h | h
  · exact h
  · subst h
    exfalso
    have key : ∀ d i, t - i = d → i < t → L.getD i false = true := by
      intro d
      induction d using Nat.strongRecOn with
      | _ d ih =>
        intro i hd hi
        obtain ⟨j, hj1, hj2, hj3⟩ := hb.sink i hi
        obtain ⟨oj, hoj, e, he, hbd, hon⟩ := waits_spec hj3
        by_cases hjt : j = t
        · subst hjt
          rw [ho] at hoj
          obtain rfl := Option.some.inj hoj
          have := hall e he hbd
          rw [hon, getD_append_left (by rw [hm.size]; exact hi)] at this
          exact this
        · have hjd := ih (t - j) (by omega) j rfl (by omega)
          have := hm.closed j oj (by omega) (by simpa using hoj) hjd e he hbd
          rwa [hon] at this
    rw [key _ i0 rfl hi0] at hun
    cases hun
  · exfalso
    have hc := hb.chain t h htl
    obtain ⟨o', ho', e, he, hbd, hon⟩ := waits_spec hc
    rw [ho] at ho'
    obtain rfl := Option.some.inj ho'
    have := hall e he hbd
    rw [hon, getD_append_rep_false (by rw [hm.size]; omega)] at this
    cases this

theorem ready_head (hb : HB l n) {L : Array Bool} (hm : Marks l n L) {t : Nat} (ht : t < n) :
    t ∈ Region.ready .any l.toArray (L ++ Array.replicate (l.length - n) false) ↔ t ∈ Region.ready .any (l.take n).toArray L := by
  rw [mem_ready, mem_ready, getD_append_left (by rw [hm.size]; exact ht), getElem?_head ht]
  refine and_congr_right fun _ => exists_congr fun o => ?_
  rw [show (l.toArray[t]? = some o) = (l[t]? = some o) by simp]
  refine and_congr_right fun ho => ?_
  refine forall_congr' fun e => forall_congr' fun he => forall_congr' fun hbd => ?_
  have := (hb.edge t ht o ho).1 e he hbd
  rw [getD_append_left (by rw [hm.size]; omega)]

theorem wanted_head (hb : HB l n) {i : Nat} (hi : i < n) {o : Oper} (ho : l[i]? = some o) (a : Act) :
    Region.wanted o (yielded (l.take n).toArray a.tmps) = Region.wanted o (yielded l.toArray a.tmps) := by
  unfold Region.wanted
  cases hg : o.guard with
  | none => rfl
  | some g =>
    obtain ⟨j, b⟩ := g
    have hj := (hb.edge i hi o ho).2 j b hg
    simp only [yielded, getElem?_head hj]
    simp

theorem qOp_head (hb : HB l n) {i : Nat} (hi : i < n) {K : Act → Prop} {a : Act} (h : qOp P (l.take n).toArray C i K a) : qOp P l.toArray C i K a := by
  unfold qOp at *
  obtain ⟨o, ho⟩ : ∃ o, l[i]? = some o := ⟨l[i]'(by have := hb.lt; omega), by simp⟩
  rw [getElem?_head hi, ho] at h
  simp only [wanted_head hb hi ho] at h
  rw [show l.toArray[i]? = some o by simpa using ho]
  exact h

def openCount (L : Array Bool) : Nat := (L.toList.filter (! ·)).length
theorem openCount_set {L : Array Bool} {i : Nat} (hi : i < L.size) (h : L.getD i false = false) : openCount (L.setIfInBounds i true) + 1 = openCount L := by
  obtain ⟨xs⟩ := L
  unfold openCount
  simp only [List.size_toArray] at hi
  simp only [List.setIfInBounds_toArray] at *
  have h' : xs[i]? = some false := by
    simp [hi] at h
    simp [hi, h]
  clear h
  induction xs generalizing i with
  | nil => simp at hi
  | cons x xs ih =>
    cases i with
    | zero => simp at h'; subst h'; simp
    | succ i =>
      have := @ih i (by simpa using hi) (by simpa using h')
      cases x <;> simp_all
theorem openCount_zero {L : Array Bool} (h : openCount L = 0) : ∀ i, i < L.size → L.getD i false = true := by
  intro i hi
  unfold openCount at h
  have h0 := List.length_eq_zero_iff.1 h
  have hm : L[i] ∈ L.toList := by simp
  have := List.filter_eq_nil_iff.1 h0 _ hm
  simp [hi]
  simpa using this

theorem all_true_eq {L : Array Bool} (h : ∀ i, i < L.size → L.getD i false = true) : L = Array.replicate L.size true := by
  apply Array.ext
  · simp
  · intro i h1 h2
    have := h i h1
    simp [h1] at this
    simp [this]

theorem head_then_tail (hb : HB l n) {Q : Act → Prop} {Q' : Exit → Act → World → Prop}
    (hQ : ∀ a w, C w → Q a → wpAny P .any l.toArray Q' (l.length - n) (Array.replicate n true ++ Array.replicate (l.length - n) false) a w) :
    ∀ (f : Nat) (L : Array Bool) (a : Act) (w : World), Marks l n L → openCount L = f → C w → wpAnyQ P .any (l.take n).toArray C Q f L a →
      wpAny P .any l.toArray Q' (f + (l.length - n)) (L ++ Array.replicate (l.length - n) false) a w
  | 0, L, a, w, hm, hc, hw, h => by
    have hL : L = Array.replicate n true := by
      have := all_true_eq (openCount_zero hc)
      rwa [hm.size] at this
    subst hL
    rw [Nat.zero_add]
    exact hQ a w hw h.2
  | f + 1, L, a, w, hm, hc, hw, h => by
    obtain ⟨i0, hi0, hun⟩ : ∃ i0, i0 < n ∧ L.getD i0 false = false := by
      apply Classical.byContradiction
      intro hno
      have hall : ∀ i, i < L.size → L.getD i false = true := fun i hi => by
        cases hl : L.getD i false with
        | true => rfl
        | false => exact (hno ⟨i, by rw [← hm.size]; exact hi, hl⟩).elim
      have := all_true_eq hall
      rw [this] at hc
      simp [openCount] at hc
    rw [show f + 1 + (l.length - n) = (f + (l.length - n)) + 1 by omega]
    refine ⟨fun h0 => ?_, fun t ht => ?_⟩
    · exfalso
      have hd : ¬ Region.ready .any (l.take n).toArray L = [] := fun hr => by
        have := ready_or_done hb hm hr i0 hi0
        rw [hun] at this
        cases this
      obtain ⟨t, ht⟩ := List.exists_mem_of_ne_nil _ hd
      have htn : t < n := by
        obtain ⟨_, o, ho, _⟩ := mem_ready.1 ht
        have := (Array.getElem?_eq_some_iff.1 ho).1
        simp at this; omega
      have := (ready_head hb hm htn).2 ht
      rw [h0] at this
      cases this
    · have htn := ready_lt hb hm hi0 hun ht
      have ht' := (ready_head hb hm htn).1 ht
      have hq := h.2 t ht'
      refine wpOp_of_qOp hw (fun a' w' hw' hK => ?_) (qOp_head hb htn hq)
      have h0 := (mem_ready.1 ht').1
      have hts : t < L.size := by rw [hm.size]; exact htn
      have := head_then_tail hb hQ f _ a' w' (hm.set ht') (by have := openCount_set hts (by rw [← getD_tf hts]; exact h0); omega) hw' hK
      rwa [show (L ++ Array.replicate (l.length - n) false).setIfInBounds t true = L.setIfInBounds t true ++ Array.replicate (l.length - n) false from by
        apply Array.ext_getElem?
        intro k
        simp only [Array.getElem?_setIfInBounds, Array.getElem?_append, Array.size_setIfInBounds, Array.size_append]
        by_cases hk : t = k
        · subst hk; simp [hts]; omega
        · simp [hk]]

/-- A REGION THAT DRAWS ITS ORDER: its first n operations are quiet in a class of worlds (one walk, in the order of the text), the others stand in one order behind them. -/
theorem wp_region_head_tail {id : Nat} {Q : Exit → Act → World → Prop} {a : Act} {w : World} (n : Nat) (C : World → Prop) (hm : P.follows .mixedOrders = true) (hB : headTailB l n = true)
    (hC : C w.drew) (h : wpQuiet P (l.take n).toArray C (fun a' => ∀ w', C w' → wpList P l.toArray Q (l.drop n) a' w') (l.take n) a) : (Code.region id l.toArray true).wp P Q a w := by
  have hb := HB.of hB
  refine wp_region_any hm ?_
  have hlex := hb.lex
  simp only [Region.lexB, Bool.and_eq_true] at hlex
  have hlen : (l.take n).length = n := by have := hb.lt; simp; omega
  have hq := wpAnyQ_lex (C := C) (md := .any) hlex.1 (l.take n) 0 (Array.replicate n false) a (by simp) (by have := hlex.2; rw [List.size_toArray, hlen] at this; rw [hlen]; exact this) h
  rw [hlen] at hq
  have := head_then_tail hb (Q' := Q) (fun a' w' hw' hQ => by
    have hl : (l.drop n).length = l.length - n := by simp
    have := wpAny_of_seq (md := .any) (Q' := Q) (l.drop n) n _ a' w' (fun j => by simp [List.getElem?_drop]) (by rw [hl]; exact hb.seq) (hQ w' hw')
    rwa [hl] at this) n (Array.replicate n false) a w.drew ⟨by simp, fun j o _ _ hl => by simp [Array.getD_eq_getD_getElem?, Array.getElem?_replicate] at hl; split at hl <;> simp at hl⟩
    (by simp [openCount]) hC hq
  have e : (Array.replicate n false : Array Bool) ++ Array.replicate (l.length - n) false = Array.replicate l.toArray.size false := by
    rw [Array.replicate_append_replicate]; congr 1; have := hb.lt; simp; omega
  rw [e] at this
  have e2 : n + (l.length - n) = l.toArray.size := by have := hb.lt; simp; omega
  rw [e2] at this
  exact this

/-- The class of the worlds that have grown out of w. -/
def Grew (w w' : World) : Prop := ∃ d, w' = ext w d
theorem Grew.drew (w : World) : (fun w' => ∃ d, w' = ext w d) w.drew := ⟨_, drew_is_ext w⟩
theorem wp_region_grown_tail {id : Nat} {Q : Exit → Act → World → Prop} {a : Act} {w : World} (n : Nat) (hm : P.follows .mixedOrders = true) (hB : headTailB l n = true)
    (h : wpQuiet P (l.take n).toArray (fun w' => ∃ d, w' = ext w d) (fun a' => ∀ w', (∃ d, w' = ext w d) → wpList P l.toArray Q (l.drop n) a' w') (l.take n) a) : (Code.region id l.toArray true).wp P Q a w :=
  wp_region_head_tail n _ hm hB (Grew.drew w) h
theorem wp_region_grown {id : Nat} {Q : Exit → Act → World → Prop} {a : Act} {w : World} (hm : P.follows .mixedOrders = true) (hB : Region.lexB .any l.toArray = true)
    (h : wpQuiet P l.toArray (fun w' => ∃ d, w' = ext w d) (fun a' => ∀ w', (∃ d, w' = ext w d) → Q .normal a' w') l a) : (Code.region id l.toArray true).wp P Q a w :=
  wp_region_quiet hm hB (Grew.drew w) h
end
end Go.Proofs.YtkcambhojpafkaaDoor
