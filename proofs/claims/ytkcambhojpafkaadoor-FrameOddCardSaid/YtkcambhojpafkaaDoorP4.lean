/- Plain data among the arguments, of whatever depth: their cells, by kind. Over any program. -/
import Derived.Test.YtkcambhojpafkaaDoorP3
import Derived.Test.YtkcambhojpafkaaDoorB2
set_option linter.unusedSimpArgs false
set_option linter.unusedVariables false
namespace Go.Proofs.YtkcambhojpafkaaDoor
open Go Go.ChangeShapes Go.WideShapes Go.ChangeAt Go.RowKit

/-- A cell's value of a kind, within its bounds. -/
def Leaf.good : Leaf → Value → Prop
  | .int k, v => ∃ z, v = .int k z ∧ (Lit.int k z).wf = true
  | .bool, v => ∃ b, v = .bool b
theorem Leaf.good.ok {l : Leaf} {v : Value} (h : l.good v) : l.ok v = true := by
  cases l with
  | int k => obtain ⟨z, rfl, -⟩ := h; simp [Leaf.ok]
  | bool => obtain ⟨b, rfl⟩ := h; rfl
/-- Cells, told by kind, from the first of them on. -/
def goods (ls : List Leaf) (cs : List Value) : Prop := ∀ (j : Nat) (l : Leaf), ls[j]? = some l → ∃ v, cs[j]? = some v ∧ l.good v
section
variable {H : Type} {enc : TypeId × Value → H} {P : Program} {w : World} {base : Nat} {spare : Nat → Bool} {held : Bool}
theorem cellsOf_of {t : TypeId} {n : Nat} (h : (P.info? t).map (·.size) = some n) : P.cellsOf t = n := by unfold Program.cellsOf; rw [h]; rfl
theorem goods_take {ls : List Leaf} {cs : List Value} {o n : Nat} (h : goods ls ((cs.drop o).take n)) : goods ls (cs.drop o) := fun j l hl => by
  obtain ⟨v, hv, hg⟩ := h j l hl
  refine ⟨v, ?_, hg⟩
  rw [List.getElem?_take] at hv
  split at hv
  · exact hv
  · cases hv
theorem goods_fields {f : TypeId → Option (List Leaf)} {cs : List Value} : ∀ (fs : List Field) (o : Nat) (ls : List Leaf), leavesOf P f fs o = some ls →
    (∀ x ∈ fs, ∀ l, f x.type = some l → goods l ((cs.drop x.offset).take (P.cellsOf x.type))) → goods ls (cs.drop o)
  | [], o, ls, h, _ => by simp [leavesOf] at h; subst h; intro j l hl; simp at hl
  | x :: xs, o, ls, h, hx => by
    simp only [leavesOf] at h
    split at h
    · rename_i l r h1 h2
      split at h
      · rename_i hc
        obtain ⟨ho, hs, -⟩ := hc
        simp only [Option.some.injEq] at h
        subst h
        have g1 := goods_take (hx x (by simp) l h1)
        rw [ho] at g1
        have hsz : ((P.info? x.type).map (·.size)).getD 0 = l.length := by rw [hs]; rfl
        rw [hsz] at h2
        have g2 := goods_fields xs _ r h2 fun y hy => hx y (by simp [hy])
        intro j e he
        rcases Nat.lt_or_ge j l.length with hj | hj
        · rw [List.getElem?_append_left hj] at he; exact g1 j e he
        · rw [List.getElem?_append_right hj] at he
          obtain ⟨v, hv, hg⟩ := g2 _ e he
          refine ⟨v, ?_, hg⟩
          rw [List.getElem?_drop] at hv ⊢
          rw [← hv]; congr 1; omega
      · cases h
    · cases h
theorem goods_elems {l : List Leaf} {cs : List Value} {m : Nat} (h : ∀ i, i < m → goods l ((cs.drop (i * l.length)).take l.length)) : goods (List.replicate m l).flatten cs := by
  induction m generalizing cs with
  | zero => intro j e he; simp at he
  | succ m ih =>
    intro j e he
    rw [List.replicate_succ, List.flatten_cons] at he
    rcases Nat.lt_or_ge j l.length with hj | hj
    · rw [List.getElem?_append_left hj] at he
      have := goods_take (h 0 (by omega)) j e he
      simpa using this
    · rw [List.getElem?_append_right hj] at he
      have := ih (cs := cs.drop l.length) (fun i hi => by
        have := h (i + 1) (by omega)
        rw [Nat.add_mul, Nat.one_mul, Nat.add_comm] at this
        rw [List.drop_drop]; exact this) (j - l.length) e he
      obtain ⟨v, hv, hg⟩ := this
      refine ⟨v, ?_, hg⟩
      rw [List.getElem?_drop] at hv
      rw [← hv]; congr 1; omega
theorem trod_leaves : ∀ (d : Nat) (t : TypeId) (ls : List Leaf), leaves P d t = some ls → ∀ (n : Nat) (cs : List Value) (x : DataW H × List MemPlace), DataW.trod enc P w base spare held n t cs = some x → goods ls cs
  | 0, _, _, h => by simp [leaves] at h
  | d + 1, t, ls, hl => by
    intro n cs x hx
    obtain ⟨u, hu⟩ := leaves_under hl
    simp only [leaves, hu] at hl
    cases u <;> simp only [reduceCtorEq] at hl
    case bool =>
      simp only [Option.some.injEq] at hl; subst hl
      obtain ⟨b, rfl, -⟩ := DataW.trod_bool hu hx
      intro j l hl
      cases j with
      | zero => simp at hl; subst hl; exact ⟨_, rfl, b, rfl⟩
      | succ j => simp at hl
    case int k =>
      simp only [Option.some.injEq] at hl; subst hl
      obtain ⟨z, rfl, -, hz⟩ := DataW.trod_int hu hx
      intro j l hl
      cases j with
      | zero => simp at hl; subst hl; exact ⟨_, rfl, z, rfl, hz⟩
      | succ j => simp at hl
    case array m e =>
      split at hl
      · rename_i l hle
        split at hl
        · rename_i hs
          simp only [Option.some.injEq] at hl; subst hl
          obtain ⟨xs, m1, rfl, -, -, hxn, hxe⟩ := DataW.trod_array hu hx
          refine goods_elems fun i hi => ?_
          have h3 := hxe i hi
          rw [cellsOf_of hs, List.getElem?_eq_getElem (show i < xs.length by omega)] at h3
          exact trod_leaves d e l hle _ _ _ h3
        · cases hl
      · cases hl
    case struct fs =>
      split at hl
      · cases hl
      · obtain ⟨xs, m1, rfl, -, -, hxn, hxe⟩ := DataW.trod_struct hu hx
        have := goods_fields (P := P) (cs := cs) fs.toList 0 ls hl fun f hf l hfl => by
          obtain ⟨i, hi⟩ := List.getElem?_of_mem hf
          have h3 := hxe i f (by simpa using hi)
          have hil : i < fs.size := by have := (List.getElem?_eq_some_iff.1 hi).1; simpa using this
          rw [List.getElem?_eq_getElem (show i < xs.length by omega)] at h3
          exact trod_leaves d f.type l hfl _ _ _ h3
        simpa using this
theorem okWide_array {r : Reach} {b0 : Nat} {t e : TypeId} {n : Nat} {v : Value} (hu : P.underlying t = some (.array n e)) (h : Value.okWide P w r b0 t v) : ∃ cs, v = .agg cs ∧ cs.size = P.cellsOf t := by
  simp only [Value.okWide, hu] at h
  obtain ⟨cs, h1, h2, _⟩ := h
  exact ⟨cs, h1, h2⟩
/-- A plain value, by value: its cells as a row. -/
theorem open_plain {t : TypeId} {ls : List Leaf} {d : Nat} {v : Value} {x : DataW H} {ps : List MemPlace} (hl : leaves P d t = some ls) (hc : P.cellsOf t = ls.length)
    (hv : ∃ cs, v = .agg cs ∧ cs.size = P.cellsOf t) (h : DataW.Trod enc P w base spare held t v x ps) : ∃ g : Nat → Value, v = .agg (mkRow ls.length g) ∧ ∀ (j : Nat) (l : Leaf), ls[j]? = some l → l.good (g j) := by
  obtain ⟨cs, rfl, hsz⟩ := hv
  obtain ⟨fuel, hf⟩ := h
  have hg := trod_leaves d t ls hl _ _ _ hf
  refine ⟨fun j => cs.getD j undef, ?_, fun j l hj => ?_⟩
  · congr 1
    apply Array.ext_getElem?
    intro i
    rcases Nat.lt_or_ge i ls.length with hi | hi
    · rw [mkRow_get _ hi, Array.getD_eq_getD_getElem?, Array.getElem?_eq_getElem (by omega)]; rfl
    · rw [Array.getElem?_eq_none (by omega), Array.getElem?_eq_none (by rw [mkRow_size]; exact hi)]
  · obtain ⟨v, hv, hgd⟩ := hg j l hj
    have : cs.getD j undef = v := by
      rw [Array.getD_eq_getD_getElem?]
      have : cs[j]? = some v := by simpa [Value.cells] using hv
      rw [this]; rfl
    simp only [this]; exact hgd
/-- A slice of plain values: the cells of its elements. -/
theorem open_plains {t e : TypeId} {ls : List Leaf} {d : Nat} {v : Value} {x : DataW H} {ps : List MemPlace} (ht : P.underlying t = some (.slice e)) (hl : leaves P d e = some ls) (hc : P.cellsOf e = ls.length) (hpos : 0 < ls.length)
    (hv : ∃ a len cp, v = .slice a len cp) (h : DataW.Trod enc P w base spare held t v x ps) :
    ∃ (a : Option Addr) (b o len cp : Nat) (g : Nat → Nat → Value), v = .slice a len cp ∧ len ≤ cp ∧ (0 < len → a = some ⟨b, o, none⟩) ∧ ∀ q, q < len → ∀ j, j < ls.length → w.cell? ⟨b, o + q * ls.length + j, none⟩ = some (g q j) ∧ ∀ l : Leaf, ls[j]? = some l → l.good (g q j) := by
  obtain ⟨a0, len, cp, rfl⟩ := hv
  obtain ⟨fuel, hf⟩ := h
  rcases Go.Deep.open_slice ht hf with ⟨hcs, -⟩ | ⟨a, l1, c1, mm, n, D, Pl, hcs, -, hle, hmx, hmm, -, hel⟩
  · simp [Value.cells] at hcs
    obtain ⟨rfl, rfl, rfl⟩ := hcs
    exact ⟨none, 0, 0, 0, 0, fun _ _ => undef, rfl, Nat.le_refl _, by omega, by omega⟩
  · simp [Value.cells] at hcs
    obtain ⟨rfl, rfl, rfl⟩ := hcs
    have hlm : len ≤ mm := by rw [hmm]; split <;> omega
    have key : ∀ q, q < len → ∀ j, j < ls.length → ∃ u, w.cell? ((a.add (q * ls.length)).add j) = some u ∧ ∀ l : Leaf, ls[j]? = some l → l.good u := by
      intro q hq j hj
      obtain ⟨cs', h1, h2⟩ := hel q (by omega)
      rw [hc] at h1
      obtain ⟨-, hlen, hcell⟩ := World.cells?_some h1
      have hg := trod_leaves d e ls hl _ _ _ h2
      obtain ⟨u, hu, hgu⟩ := hg j _ (List.getElem?_eq_getElem hj)
      refine ⟨u, by rw [hcell j hj, hu], fun l hl' => ?_⟩
      rw [List.getElem?_eq_getElem hj] at hl'
      obtain rfl := Option.some.inj hl'
      exact hgu
    have hs : 0 < len → a.spot = none := fun h0 => by
      obtain ⟨z, hz, -⟩ := key 0 h0 0 hpos
      have : (a.add (0 * ls.length)).add 0 = a := by simp [Addr.add]
      rw [this] at hz
      unfold World.cell? at hz
      split at hz
      · split at hz
        · cases hz
        · rename_i hsp
          cases hq : a.spot with
          | none => rfl
          | some _ => rw [hq] at hsp; simp at hsp
      · cases hz
    refine ⟨some a, a.block, a.off, len, cp, fun q j => (w.cell? ⟨a.block, a.off + q * ls.length + j, none⟩).getD undef, rfl, hle, fun h0 => ?_, fun q hq j hj => ?_⟩
    · obtain ⟨b, o, s⟩ := a
      have := hs h0
      simp only at this
      subst this; rfl
    · obtain ⟨z, hz, hg⟩ := key q hq j hj
      rw [addr_add _ _ _ (hs (by omega))] at hz
      simp only [hz, Option.getD_some]
      exact ⟨trivial, hg⟩
end
end Go.Proofs.YtkcambhojpafkaaDoor
