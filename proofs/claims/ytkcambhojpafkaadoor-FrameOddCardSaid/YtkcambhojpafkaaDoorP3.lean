/- A slice of arrays of whole numbers among the arguments: its cells. Over any program. -/
import Derived.Test.YtkcambhojpafkaaDoorP1
import Derived.Deep.Slices
set_option linter.unusedSimpArgs false
set_option linter.unusedVariables false
namespace Go.Proofs.YtkcambhojpafkaaDoor
open Go Go.ChangeShapes Go.WideShapes Go.ChangeAt Go.RowKit

theorem addr_add (a : Addr) (x y : Nat) (h : a.spot = none) : (a.add x).add y = ⟨a.block, a.off + x + y, none⟩ := by
  obtain ⟨b, o, s⟩ := a
  simp only at h
  subst h
  unfold Addr.add
  by_cases hx : x = 0 <;> by_cases hy : y = 0 <;> simp_all
theorem open_rows {H : Type} {enc : TypeId × Value → H} {P : Program} {W : World} {t e i : TypeId} {m : Nat} {k : IntKind} {v : Value} {d : DataW H} {ps : List MemPlace} (hm : 0 < m)
    (ht : P.underlying t = some (.slice e)) (he : P.underlying e = some (.array m i)) (hi : P.underlying i = some (.int k)) (ci : P.cellsOf i = 1) (ce : P.cellsOf e = m) (hv : ∃ a len cp, v = .slice a len cp)
    (h : DataW.Trod enc P W 0 (fun _ => true) true t v d ps) :
    ∃ (a : Option Addr) (b o len cp : Nat) (xs : Nat → Nat → Int), v = .slice a len cp ∧ len ≤ cp ∧ (0 < len → a = some ⟨b, o, none⟩) ∧ ∀ q, q < len → ∀ j, j < m → W.cell? ⟨b, o + q * m + j, none⟩ = some (.int k (xs q j)) := by
  obtain ⟨a0, len, cp, rfl⟩ := hv
  obtain ⟨fuel, hf⟩ := h
  rcases Go.Deep.open_slice ht hf with ⟨hcs, -⟩ | ⟨a, l1, c1, mm, n, D, Pl, hcs, -, hl, hmx, hmm, -, hel⟩
  · simp [Value.cells] at hcs
    obtain ⟨rfl, rfl, rfl⟩ := hcs
    exact ⟨none, 0, 0, 0, 0, fun _ _ => 0, rfl, Nat.le_refl _, by omega, by omega⟩
  · simp [Value.cells] at hcs
    obtain ⟨rfl, rfl, rfl⟩ := hcs
    simp only [if_true] at hmm
    have key : ∀ q, q < len → ∀ j, j < m → ∃ z, W.cell? ((a.add (q * m)).add j) = some (.int k z) := by
      intro q hq j hj
      obtain ⟨cs', h1, h2⟩ := hel q (by omega)
      rw [ce] at h1
      obtain ⟨-, hlen, hcell⟩ := World.cells?_some h1
      obtain ⟨xs, m1, rfl, -, -, hxn, hxe⟩ := DataW.trod_array he h2
      have h3 := hxe j hj
      rw [ci, Nat.mul_one, List.getElem?_eq_getElem (show j < xs.length by omega)] at h3
      obtain ⟨z, e1, -, -⟩ := DataW.trod_int hi h3
      refine ⟨z, ?_⟩
      have e4 := congrArg (fun l => l[0]?) e1
      simp at e4
      rw [hcell j hj, e4]
    refine ⟨some a, a.block, a.off, len, cp, fun q j => match W.cell? ⟨a.block, a.off + q * m + j, none⟩ with | some (.int _ z) => z | _ => 0, rfl, hl, fun h0 => ?_, fun q hq j hj => ?_⟩
    all_goals
      have hs : 0 < len → a.spot = none := fun h0 => by
        obtain ⟨z, hz⟩ := key 0 h0 0 hm
        have : (a.add (0 * m)).add 0 = a := by simp [Addr.add]
        rw [this] at hz
        unfold World.cell? at hz
        split at hz
        · split at hz
          · cases hz
          · rename_i hsp
            cases hq : a.spot with
            | none => rfl
            | some _ => rw [hq] at hsp; simp at hsp
        · cases hz
    · obtain ⟨b, o, s⟩ := a
      have := hs h0
      simp only at this
      subst this; rfl
    · obtain ⟨z, hz⟩ := key q hq j hj
      rw [addr_add _ _ _ (hs (by omega))] at hz
      simp only [hz]
theorem wf_u8 {n : Int} (h : (Lit.int .u8 n).wf = true) : 0 ≤ n ∧ n ≤ 255 := by
  simp only [Lit.wf, Bool.and_eq_true, decide_eq_true_eq] at h
  exact ⟨h.1, h.2⟩
theorem wf_i64 {n : Int} (h : (Lit.int .i64 n).wf = true) : -9223372036854775808 ≤ n ∧ n ≤ 9223372036854775807 := by
  simp only [Lit.wf, Bool.and_eq_true, decide_eq_true_eq] at h
  exact ⟨h.1, h.2⟩
end Go.Proofs.YtkcambhojpafkaaDoor
