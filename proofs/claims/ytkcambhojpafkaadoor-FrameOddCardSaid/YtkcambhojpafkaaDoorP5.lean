/- The frame laws: an ask opened; the door with two tables laid. -/
import Derived.Test.YtkcambhojpafkaaDoorP2
import Derived.Test.YtkcambhojpafkaaDoorP4
import Derived.Test.YtkcambhojpafkaaDoorS27
set_option linter.unusedSimpArgs false
set_option linter.unusedVariables false
namespace Go.Proofs.YtkcambhojpafkaaDoor
open Go Go.ChangeShapes Go.WideShapes Go.ChangeAt Go.RowKit

abbrev laid2 {H : Type} : List (String × DataW H) := [("spinet/mode.widths", Rows.laid_spinet_mode_widths), ("spinet/sym.widths", Rows.laid_spinet_sym_widths)]
theorem widths2Door (os : Os) (args : Array Value) : laidMetH Tryd.prog laid2 ((World.doorLaid Tryd.prog 400 os).forCall (fun _ _ => 0) ⟨#[], args, []⟩).memory :=
  laidMetH_of_parts3 (fuel := 8) (laidMet_of_run' 8 (by kernel_rfl) (by kernel_rfl)) (by kernel_rfl) (by kernel_rfl)

theorem ask_shape : ∃ f0 f1 f2 f3 : Field, Tryd.prog.underlying 89 = some (.struct #[f0, f1, f2, f3]) ∧ f0.type = 85 ∧ f0.offset = 0 ∧ f1.type = 5 ∧ f1.offset = 1 ∧ f2.type = 5 ∧ f2.offset = 2 ∧ f3.type = 87 ∧ f3.offset = 3 :=
  ⟨_, _, _, _, Tryd.underlying89, rfl, rfl, rfl, rfl, rfl, rfl, rfl, rfl⟩
section
variable {H : Type} {enc : TypeId × Value → H} {W : World} {base : Nat} {spare : Nat → Bool} {held : Bool}
set_option maxRecDepth 100000 in
theorem open_ask {v : Value} {x : DataW H} {ps : List MemPlace} (hv : ∃ cs, v = .agg cs ∧ cs.size = Tryd.prog.cellsOf 89) (h : DataW.Trod enc Tryd.prog W base spare held 89 v x ps) :
    ∃ sl z c n bs p, v = .agg (mkRow 13 (askC sl z c p)) ∧ (∀ j, j < 10 → 0 ≤ p j ∧ p j ≤ 255) ∧ BytesAt W sl n bs ∧ (∀ i, i < n → 0 ≤ bs i ∧ bs i ≤ 255) ∧ n ≤ maxLen := by
  obtain ⟨cs, rfl, hsz⟩ := hv
  have h13 : Tryd.prog.cellsOf 89 = 13 := by kernel_rfl
  rw [h13] at hsz
  obtain ⟨fuel, hf⟩ := h
  obtain ⟨f0, f1, f2, f3, hu, t0, o0, t1, o1, t2, o2, t3, o3⟩ := ask_shape
  obtain ⟨xs, m, -, -, hl, hxn, hxe⟩ := DataW.trod_struct hu hf
  obtain ⟨x0, x1, x2, x3, rfl⟩ : ∃ x0 x1 x2 x3, xs = [x0, x1, x2, x3] := by
    match xs, hxn with
    | [x0, x1, x2, x3], _ => exact ⟨_, _, _, _, rfl⟩
  have e0 := hxe 0 f0 rfl
  have e1 := hxe 1 f1 rfl
  have e2 := hxe 2 f2 rfl
  have e3 := hxe 3 f3 rfl
  have k0 : Tryd.prog.cellsOf 85 = 1 := by kernel_rfl
  have k1 : Tryd.prog.cellsOf 5 = 1 := by kernel_rfl
  have k3 : Tryd.prog.cellsOf 87 = 10 := by kernel_rfl
  rw [t0, o0, k0] at e0
  rw [t1, o1, k1] at e1
  rw [t2, o2, k1] at e2
  rw [t3, o3, k3] at e3
  simp only [List.getElem?_cons_zero, List.getElem?_cons_succ] at e0 e1 e2 e3
  have hcl : (Value.agg cs).cells = cs := rfl
  rw [hcl] at e0 e1 e2 e3
  obtain ⟨z, hz, -, -⟩ := DataW.trod_int Tryd.underlying5 e1
  obtain ⟨c, hc, -, -⟩ := DataW.trod_int Tryd.underlying5 e2
  have hp := trod_leaves 5 87 (List.replicate 10 (.int .u8)) (by kernel_rfl) _ _ _ e3
  have c1 : cs[1]? = some (.int .u8 z) := by
    have := congrArg (fun l => l[0]?) hz
    simpa using this
  have c2 : cs[2]? = some (.int .u8 c) := by
    have := congrArg (fun l => l[0]?) hc
    simpa using this
  have c3 : ∀ j, j < 10 → ∃ p, cs[3 + j]? = some (.int .u8 p) ∧ 0 ≤ p ∧ p ≤ 255 := fun j hj => by
    obtain ⟨v, hv, q, rfl, hq⟩ := hp j (.int .u8) (by rw [List.getElem?_replicate, if_pos hj])
    refine ⟨q, ?_, wf_u8 hq⟩
    rw [List.getElem?_take, if_pos hj, List.getElem?_drop] at hv
    simpa using hv
  have hrow : ∀ sl, cs[0]? = some sl → Value.agg cs = .agg (mkRow 13 (askC sl z c fun j => intOf (cs.getD (3 + j) undef))) := fun sl hsl => by
    congr 1
    apply Array.ext_getElem?
    intro i
    rcases Nat.lt_or_ge i 13 with hi | hi
    · rw [mkRow_get _ hi]
      match i, hi with
      | 0, _ => exact hsl
      | 1, _ => exact c1
      | 2, _ => exact c2
      | j + 3, hi =>
        obtain ⟨p, hp, -⟩ := c3 j (by omega)
        rw [Nat.add_comm 3 j] at hp
        rw [hp]
        show _ = some (Value.int .u8 (intOf (cs.getD (3 + j) undef)))
        rw [Array.getD_eq_getD_getElem?, Nat.add_comm 3 j, hp]; rfl
    · rw [Array.getElem?_eq_none (by omega), Array.getElem?_eq_none (by rw [mkRow_size]; exact hi)]
  have hpb : ∀ j, j < 10 → 0 ≤ intOf (cs.getD (3 + j) undef) ∧ intOf (cs.getD (3 + j) undef) ≤ 255 := fun j hj => by
    obtain ⟨p, hp, hb⟩ := c3 j hj
    rw [Array.getD_eq_getD_getElem?, hp]; exact hb
  rcases Go.Deep.open_slice1 Tryd.underlying85 k1 e0 with ⟨hcs, -⟩ | ⟨a, len, cap, mm, n, V, D, Pl, hcs, -, hle, hmx, hmm, -, hel⟩
  · have c0 : cs[0]? = some (.slice none 0 0) := by
      have := congrArg (fun l => l[0]?) hcs
      simpa using this
    exact ⟨_, z, c, 0, fun _ => 0, _, hrow _ c0, hpb, ⟨none, 0, rfl, Nat.le_refl _, fun _ => ⟨rfl, rfl⟩, fun x hx => by cases hx⟩, fun i hi => by omega, by unfold maxLen; omega⟩
  · have c0 : cs[0]? = some (.slice (some a) len cap) := by
      have := congrArg (fun l => l[0]?) hcs
      simpa using this
    have hlm : len ≤ mm := by rw [hmm]; split <;> omega
    have key : ∀ i, i < len → ∃ q, W.cell? (a.add i) = some (.int .u8 q) ∧ 0 ≤ q ∧ q ≤ 255 := fun i hi => by
      obtain ⟨h1, h2⟩ := hel i (by omega)
      obtain ⟨q, hq, -, hw⟩ := DataW.trod_int Tryd.underlying5 h2
      simp only [List.cons.injEq, and_true] at hq
      exact ⟨q, by rw [h1, hq], wf_u8 hw⟩
    refine ⟨_, z, c, len, fun i => intOf ((W.cell? (a.add i)).getD undef), _, hrow _ c0, hpb, ⟨some a, cap, rfl, hle, fun h => (by cases h), fun x hx i hi => ?_⟩, fun i hi => ?_, by omega⟩
    · obtain rfl := Option.some.inj hx
      obtain ⟨q, hq, -⟩ := key i hi
      show _ = some (Value.int .u8 (intOf ((W.cell? (a.add i)).getD undef)))
      rw [hq]; rfl
    · obtain ⟨q, hq, hb⟩ := key i hi
      simp only [hq]; exact hb
end
end Go.Proofs.YtkcambhojpafkaaDoor
