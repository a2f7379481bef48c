/- Slices of the call's own, several at once, of elements of any number of cells: which block each lies in, and what an append leaves alone. Over any program. -/
import Derived.Test.YtkcambhojpafkaaDoorB5
set_option linter.unusedSimpArgs false
set_option linter.unusedVariables false
namespace Go.Proofs.YtkcambhojpafkaaDoor
open Go Go.RowKit

/-- v is a slice of n values, of sz cells each, that begins a row of its own; its cells are g 0, g 1, ... -/
def Own (w : World) (e : TypeId) (sz : Nat) (v : Value) (n : Nat) (g : Nat → Value) : Prop := w.ownsRow 0 e sz v n ((List.range (n * sz)).map g)
theorem Own.nil (w : World) (e : TypeId) (sz : Nat) (g : Nat → Value) : Own w e sz (.slice none 0 0) 0 g := by
  unfold Own; rw [Nat.zero_mul]; exact World.ownsRow_nil w 0 e sz
theorem Own.get {w : World} {e : TypeId} {sz : Nat} {v : Value} {n : Nat} {g : Nat → Value} (h : Own w e sz v n g) (hn : 0 < n) :
    ∃ b cp, v = .slice (some ⟨b, 0, none⟩) n cp ∧ v.ownBlock = some b ∧ b < w.heap.size ∧ n ≤ cp ∧ cp ≤ maxLen ∧ ∀ j, j < n * sz → w.cell? ⟨b, j, none⟩ = some (g j) := by
  obtain ⟨hl, h⟩ := h
  rcases h with ⟨-, h0⟩ | ⟨b, cp, cur, hv, hb, hh, hc, hm, hs, ht⟩
  · omega
  · refine ⟨b, cp, hv, by rw [hv]; rfl, lt_of_some w hh, hc, hm, fun j hj => ?_⟩
    have e1 := congrArg (fun l => l[j]?) ht
    simp only [List.getElem?_take, hj, if_true, List.getElem?_map, List.getElem?_range hj, Option.map_some] at e1
    simp [World.cell?, hh]
    rw [← Array.getElem?_toList, e1]
theorem Own.congr {w : World} {e : TypeId} {sz : Nat} {v : Value} {n : Nat} {g g' : Nat → Value} (h : Own w e sz v n g) (hg : ∀ j, j < n * sz → g j = g' j) : Own w e sz v n g' := by
  unfold Own at *
  rw [← List.map_congr_left (f := g) (g := g') fun j hj => hg j (List.mem_range.1 hj)]; exact h
theorem Own.lt {w : World} {e : TypeId} {sz : Nat} {v : Value} {n : Nat} {g : Nat → Value} (h : Own w e sz v n g) {k : Nat} (hk : v.ownBlock = some k) : k < w.heap.size := (World.ownsRow.lt h k hk).2
theorem Own.kept {w w' : World} {e : TypeId} {sz : Nat} {v : Value} {n : Nat} {g : Nat → Value} {row : Option Nat} (h : Own w e sz v n g) (hg : w.grownBy w' row) (hne : v.ownBlock = none ∨ v.ownBlock ≠ row) : Own w' e sz v n g :=
  World.ownsRow.kept h hg hne
theorem grownBy_of_xe {w w' : World} (h : XE w w') (row : Option Nat) : w.grownBy w' row :=
  ⟨h.below.os, h.below.tape, h.below.output, h.size, fun _ hk _ => h.heap hk⟩
theorem Own.x {w w' : World} {e : TypeId} {sz : Nat} {v : Value} {n : Nat} {g : Nat → Value} (h : Own w e sz v n g) (hx : XE w w') : Own w' e sz v n g := by
  cases hv : v.ownBlock with
  | none => exact h.kept (grownBy_of_xe hx none) (Or.inl hv)
  | some b => exact h.kept (grownBy_of_xe hx none) (Or.inr (by rw [hv]; simp))
/-- Only the blocks of number k with R k may have turned. -/
structure Turn (R : Nat → Prop) (w w' : World) : Prop where
  os : w'.os = w.os
  tape : w'.tape = w.tape
  output : w'.output = w.output
  size : w.heap.size ≤ w'.heap.size
  block : ∀ k, k < w.heap.size → ¬ R k → w'.heap[k]? = w.heap[k]?
theorem grownBy.cell {w w' : World} {row : Option Nat} (h : w.grownBy w' row) {a : Addr} {v : Value} (hc : w.cell? a = some v) (hne : some a.block ≠ row) : w'.cell? a = some v := by
  rw [World.cell?_of_block (h.block _ (World.block_lt_of_cell? w a hc) hne)]; exact hc
theorem XE.grownBy {w0 w w' : World} {row : Option Nat} (h : XE w0 w) (hg : w.grownBy w' row) (hrow : ∀ k, row = some k → w0.heap.size ≤ k) : XE w0 w' := h.grown hg hrow
theorem grownBy.frozen {w w' : World} {row : Option Nat} (h : w.grownBy w' row) {a : Addr} {v : Value} (hc : w.cell? a = some v) (hne : some a.block ≠ row) : w'.frozen? a = w.frozen? a :=
  World.frozen?_of_block (h.block _ (World.block_lt_of_cell? w a hc) hne)
theorem Cells.kept {w w' : World} {b n : Nat} {g : Nat → Value} {row : Option Nat} (c : Cells w b n g) (h : w.grownBy w' row) (hne : row ≠ some b) : Cells w' b n g :=
  ⟨fun j hj => grownBy.cell h (c.cell j hj) (Ne.symm hne), fun j hj => by rw [grownBy.frozen h (c.cell j hj) (Ne.symm hne)]; exact c.free j hj⟩

theorem OwnVals.own {w0 w : World} {e : TypeId} {v : Value} {n : Nat} {g : Nat → Value} (h : OwnVals w0 w e v n g) : Own w e 1 v n g := by
  obtain ⟨hl, h⟩ := h
  refine ⟨by simp, ?_⟩
  rw [Nat.mul_one]
  rcases h with h | ⟨b, cp, cur, hv, hb, r⟩
  · exact Or.inl h
  · exact Or.inr ⟨b, cp, cur, hv, Nat.zero_le _, by simpa using r⟩
theorem OwnVals.fresh {w0 w : World} {e : TypeId} {v : Value} {n : Nat} {g : Nat → Value} (h : OwnVals w0 w e v n g) {k : Nat} (hk : v.ownBlock = some k) : w0.heap.size ≤ k := (World.ownsRow.lt h k hk).1
theorem Own.vals {w0 w : World} {e : TypeId} {v : Value} {n : Nat} {g : Nat → Value} (h : Own w e 1 v n g) (hf : ∀ k, v.ownBlock = some k → w0.heap.size ≤ k) : OwnVals w0 w e v n g := by
  obtain ⟨hl, h⟩ := h
  rw [Nat.mul_one] at hl h
  refine ⟨by simp, ?_⟩
  rcases h with h | ⟨b, cp, cur, hv, hb, r⟩
  · exact Or.inl h
  · exact Or.inr ⟨b, cp, cur, hv, hf b (by rw [hv]; rfl), by simpa using r⟩

section
variable {P : Program}
theorem run_append_where (w : World) (t ty e : TypeId) (i : TypeInfo) (z : Value) (size bytes : Nat) (ht : P.underlying t = some (.slice e)) (hi : P.info? e = some i) (hz : i.zero = some z)
    (hsize : i.size = size) (hby : i.bytes = bytes) (hzs : z.cells.size = size) (hsz : 0 < size)
    (v : Value) (n : Nat) (xs : List Value) (hown : w.ownsRow 0 e size v n xs)
    (a : Addr) (m c : Nat) (hm : 0 < m) (news : List Value) (hl : news.length = m * size) (hnews : ∀ j u, news[j]? = some u → w.cell? (a.add j) = some u) (h1 : ∀ u ∈ news, u.oneCell' = true)
    (h63 : n + m ≤ maxLen) (hbytes : (n + m) * bytes ≤ 140737488355328) :
    ∃ v' w', (Builtin.append_ #[t, t] ty #[v, .slice (some a) m c]).run P w = .ok v' w' ∧ w'.ownsRow 0 e size v' (n + m) (xs ++ news) ∧ w.grownBy w' v.ownBlock ∧
      (v'.ownBlock = v.ownBlock ∨ v'.ownBlock = some w.heap.size) := by
  obtain ⟨v', w', hr, h2, h3, -⟩ := run_append_own (P := P) w 0 t ty e i z size bytes ht hi hz hsize hby hzs hsz v n xs hown a m c news hl hnews h1 h63 hbytes (Nat.zero_le _)
  refine ⟨v', w', hr, h2, h3, ?_⟩
  have hsmall : n + m ≤ 9223372036854775807 := by simp only [maxLen] at h63; omega
  subst hsize
  subst hby
  have same : ∀ {x y : Value} {p q : World}, (Builtin.append_ #[t, t] ty #[v, .slice (some a) m c]).run P w = .ok x p → (Builtin.append_ #[t, t] ty #[v, .slice (some a) m c]).run P w = .ok y q → x = y := by
    intro x y p q e1 e2
    rw [e1] at e2
    injection e2
  rcases hown.2 with ⟨rfl, rfl⟩ | ⟨g, cap, cur, rfl, hbg, hg, hnc, hcm, hcs, htake⟩
  · have hq := run_append_nil (P := P) w t ty e i z ht hi hz a m c news hl hnews hm (by omega) (by have hb := hbytes; simp only [Nat.zero_add] at hb; omega)
    right; rw [same hr hq]; rfl
  · by_cases hroom : n + m ≤ cap
    · have hq := run_append_room (P := P) w t ty e i ht hi g n cap cur hg a m c news hl hnews h1 hroom (by rw [hl, hcs, ← Nat.add_mul]; exact Nat.mul_le_mul_right _ hroom)
      left; rw [same hr hq]; rfl
    · have hq := run_append_grow (P := P) w t ty e i z ht hi hz ⟨g, 0, none⟩ n cap xs hown.1 (hown.cells (g := g) rfl) a m c news hl hnews (by omega) (by omega) (growslice_fits (by omega) hbytes)
      right; rw [same hr hq]; rfl

/-- m values appended to such a slice. -/
theorem wpList_append_at {ops : Array Oper} {rest : List Oper} {o : Oper} {a : Act} {w : World} {Q : Exit → Act → World → Prop} (hgd : o.guard = none) (s x : Operand) (t : TypeId)
    (ho : o.op = .call { callee := .builtin .append, args := #[s, x], argTypes := #[t, t] })
    (e : TypeId) (i : TypeInfo) (z : Value) (size bytes : Nat) (ht : P.underlying t = some (.slice e)) (hi : P.info? e = some i) (hz : i.zero = some z)
    (hsize : i.size = size) (hby : i.bytes = bytes) (hzs : z.cells.size = size) (hsz : 0 < size)
    (v : Value) (n : Nat) (g : Nat → Value) (hs : a.eval s = v) (hown : Own w e size v n g)
    (b off m cp : Nat) (hm : 0 < m) (hx : a.eval x = .slice (some ⟨b, off, none⟩) m cp) (hc : ∀ j, j < m * size → w.cell? ⟨b, off + j, none⟩ = some (g (n * size + j))) (h1 : ∀ j, j < m * size → (g (n * size + j)).oneCell' = true)
    (h63 : n + m ≤ 1000000) (hbytes : bytes ≤ 1000)
    (h : ∀ v' w', Own w' e size v' (n + m) g → w.grownBy w' v.ownBlock → (v'.ownBlock = v.ownBlock ∨ v'.ownBlock = some w.heap.size) → wpList P ops Q rest (a.put o.dst v') w') : wpList P ops Q (o :: rest) a w := by
  have hb : (n + m) * bytes ≤ 140737488355328 := by
    have : (n + m) * bytes ≤ 1000000 * 1000 := Nat.mul_le_mul h63 hbytes
    omega
  have hlen : ((List.range (m * size)).map fun j => g (n * size + j)).length = m * size := by simp
  obtain ⟨v', w', hr, h2, h3, h4⟩ := run_append_where (P := P) w t o.type e i z size bytes ht hi hz hsize hby hzs hsz v n _ hown ⟨b, off, none⟩ m cp hm ((List.range (m * size)).map fun j => g (n * size + j)) hlen
    (fun j u hu => by
      rw [add_none]
      simp only [List.getElem?_map] at hu
      rcases Nat.lt_or_ge j (m * size) with hj | hj
      · rw [List.getElem?_range hj] at hu
        simp at hu
        rw [hc j hj, hu]
      · rw [List.getElem?_eq_none (by simpa using hj)] at hu; simp at hu)
    (fun u hu => by
      obtain ⟨j, hj, rfl⟩ := List.mem_map.1 hu
      exact h1 j (List.mem_range.1 hj))
    (by unfold maxLen; omega) hb
  refine wpList_plain hgd fun _ hK => ?_
  have h2' : Own w' e size v' (n + m) g := by
    unfold Own
    rw [Nat.add_mul, List.range_add, List.map_append, List.map_map]
    exact h2
  unfold Oper.wp execOp
  simp only [ho, resolve, invoke, builtin, Sem.run_bind, Sem.run_pure, Result.andThen_ok, List.map_toArray, List.map_cons, List.map_nil, hs, hx, hr]
  exact hK _ _ (h v' w' h2' h3 h4)
end
end Go.Proofs.YtkcambhojpafkaaDoor
