/- A slice that the call itself makes, one value appended at a time. Over any program. -/
import Derived.Test.YtkcambhojpafkaaDoorB1
import Derived.Laws.AppendOwn
import Derived.OwnWalk
set_option linter.unusedSimpArgs false
set_option linter.unusedVariables false
namespace Go.Proofs.YtkcambhojpafkaaDoor
open Go Go.RowKit

/-- v is a slice of n values of the call's own (it began in w0), of a type of one cell. -/
def OwnVals (w0 w : World) (e : TypeId) (v : Value) (n : Nat) (g : Nat → Value) : Prop := w.ownsRow w0.heap.size e 1 v n ((List.range n).map g)
theorem OwnVals.nil (w0 w : World) (e : TypeId) (g : Nat → Value) : OwnVals w0 w e (.slice none 0 0) 0 g := World.ownsRow_nil w _ e 1
theorem OwnVals.block {w0 w : World} {e : TypeId} {v : Value} {n : Nat} {g : Nat → Value} (h : OwnVals w0 w e v n g) (hn : 0 < n) :
    ∃ b cp, v = .slice (some ⟨b, 0, none⟩) n cp ∧ w0.heap.size ≤ b ∧ n ≤ cp ∧ cp ≤ maxLen ∧ ∀ j, j < n → w.cell? ⟨b, j, none⟩ = some (g j) := by
  obtain ⟨hl, h⟩ := h
  rcases h with ⟨-, h0⟩ | ⟨b, cp, cur, hv, hb, hh, hc, hm, hs, ht⟩
  · omega
  · refine ⟨b, cp, hv, hb, hc, hm, fun j hj => ?_⟩
    rw [Nat.mul_one] at ht
    have e1 := congrArg (fun l => l[j]?) ht
    simp only [List.getElem?_take, hj, if_true, List.getElem?_map, List.getElem?_range hj, Option.map_some] at e1
    simp [World.cell?, hh]
    rw [← Array.getElem?_toList, e1]
theorem OwnVals.x {w0 w w' : World} {e : TypeId} {v : Value} {n : Nat} {g : Nat → Value} (h : OwnVals w0 w e v n g) (hx : XE w w') : OwnVals w0 w' e v n g := by
  obtain ⟨hl, h⟩ := h
  refine ⟨hl, ?_⟩
  rcases h with h | ⟨b, cp, cur, hv, hb, hh, r⟩
  · exact Or.inl h
  · exact Or.inr ⟨b, cp, cur, hv, hb, hx.obj hh, r⟩
theorem XE.grown {w0 w w' : World} (h : XE w0 w) {row : Option Nat} (hg : w.grownBy w' row) (hrow : ∀ k, row = some k → w0.heap.size ≤ k) : XE w0 w' := .of_below
  ⟨hg.os.trans h.below.os, hg.tape.trans h.below.tape, hg.output.trans h.below.output, Nat.le_trans h.size hg.size, fun k hk => (hg.block k (Nat.lt_of_lt_of_le hk h.size) (fun e => by
    have := hrow k e.symm; omega)).trans (h.heap hk)⟩

theorem wpList_append_one {P : Program} {ops : Array Oper} {rest : List Oper} {o : Oper} {a : Act} {w : World} {Q : Exit → Act → World → Prop} (hgd : o.guard = none) (s x : Operand) (t : TypeId)
    (ho : o.op = .call { callee := .builtin .append, args := #[s, x], argTypes := #[t, t] })
    {w0 : World} (e : TypeId) (i : TypeInfo) (z : Value) (bytes : Nat) (ht : P.underlying t = some (.slice e)) (hi : P.info? e = some i) (hz : i.zero = some z)
    (hsize : i.size = 1) (hby : i.bytes = bytes) (hzs : z.cells.size = 1)
    (v : Value) (n : Nat) (g : Nat → Value) (hs : a.eval s = v) (hown : OwnVals w0 w e v n g) (hx0 : XE w0 w)
    (b : Nat) (hx : a.eval x = .slice (some ⟨b, 0, none⟩) 1 1) (hc : w.cell? ⟨b, 0, none⟩ = some (g n)) (h1 : (g n).oneCell' = true)
    (h63 : n + 1 ≤ 1000000) (hbytes : bytes ≤ 1000)
    (h : ∀ v' w', OwnVals w0 w' e v' (n + 1) g → XE w0 w' → wpList P ops Q rest (a.put o.dst v') w') : wpList P ops Q (o :: rest) a w := by
  refine wpList_append_own w hgd s x t ho w0.heap.size e i z 1 bytes ht hi hz hsize hby hzs (by omega) v n _ hs hown ⟨b, 0, none⟩ 1 1 [g n] hx (by simp) (fun j u hu => ?_) (fun u hu => ?_) (by unfold maxLen; omega) ?_ hx0.size fun v' w' h2 h3 _ => h v' w' ?_ ?_
  · have : j = 0 := by
      have := (List.getElem?_eq_some_iff.1 hu).1; simpa using this
    subst this
    simp at hu; subst hu
    exact hc
  · simp at hu; subst hu; exact h1
  · have : (n + 1) * bytes ≤ 1000000 * 1000 := Nat.mul_le_mul h63 hbytes
    omega
  · unfold OwnVals; rw [List.range_succ, List.map_append]; exact h2
  · exact hx0.grown h3 fun k hk => (World.ownsRow.lt hown k hk).1
end Go.Proofs.YtkcambhojpafkaaDoor
