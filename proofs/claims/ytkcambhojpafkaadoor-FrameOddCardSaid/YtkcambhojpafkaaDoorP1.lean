/- The rows' proofs, what they share: a law that returns true and leaves all that was there as it was; tables of whole numbers that are laid. -/
import Derived.Test.YtkcambhojpafkaaDoorRows
import Derived.Test.YtkcambhojpafkaaDoorB1
import Derived.ProofKit
import Derived.LaidMore
import Derived.OpenShut
import Derived.Stop.Joined
set_option linter.unusedSimpArgs false
set_option linter.unusedVariables false
namespace Go.Proofs.YtkcambhojpafkaaDoor
open Go Go.ChangeShapes Go.WideShapes Go.ChangeAt Go.RowKit

theorem trodAll_below {H : Type} {enc : TypeId × Value → H} {P : Program} (hl : laidOutB P = true) {W W' : World} (hb : Below W.heap.size W W') :
    ∀ {ts : List TypeId} {vs : List Value} {ds : List (DataW H)} {ps : List MemPlace}, (∀ t ∈ ts, P.readableRec t = true ∧ t < P.types.size) → DataW.TrodAll enc P W 0 (fun _ => true) true ts vs ds ps → (∀ x ∈ ps, x.block < W.heap.size) →
      DataW.TrodAll enc P W' 0 (fun b => decide (b < W.heap.size)) true ts vs ds ps
  | [], [], [], _, _, h, _ => h
  | t :: _, _ :: _, _ :: _, _, hT, ⟨p, q, h1, h2, e⟩, hlt =>
    ⟨p, q, Below.trod hl (hT t (by simp)).1 (hT t (by simp)).2 h1 hb (fun x hx => hlt x (by rw [e]; exact List.mem_append_left _ hx)),
      trodAll_below hl hb (fun t ht => hT t (by simp [ht])) h2 (fun x hx => hlt x (by rw [e]; exact List.mem_append_right _ hx)), e⟩

/-- A law's row: it has returned true, its arguments read as they did, and all that was there is as it was. -/
theorem post_law {H : Type} {enc : TypeId × Value → H} {P : Program} {f : Func} {s : ChangeSpec} {t : TypeId} {W W' : World} {args : Array Value} {ds gs : List (DataW H)} {before : List MemPlace} (hl : laidOutB P = true)
    (hW : DataW.Whole enc P f.params.toList s.vars false W args.toList ds gs before) (hx : XE W W') (hs : s.vars = []) (hr : f.resultTypes = #[t]) (ht : P.underlying t = some .bool)
    (hts : ∀ t ∈ f.params.toList, P.readableRec t = true ∧ t < P.types.size)
    (h1 : (s.fn H (ds ++ gs)).results = [.lit (.bool true)]) (h2 : (s.fn H (ds ++ gs)).args = ds) (h3 : (s.fn H (ds ++ gs)).vars = []) :
    s.post enc P f false true false false W args (.bool true) W' := by
  obtain ⟨p, q, hA, hV, rfl, hz, hn⟩ := id hW
  have hb := hx.below
  refine ⟨ds, gs, p ++ q, [], p, [], hW, ?_, ?_, ?_, hb.frame _, fun h => by cases h⟩
  · rw [hr, h1]
    exact trodAll_mk1 (shut_bool ht _)
  · rw [h2]
    exact trodAll_below hl hb hts hA (fun x hx => hA.lt x hx)
  · rw [h3, hs]; rfl

/-- A table of whole numbers that is laid: its cells. -/
theorem cells_of_laid {H : Type} {enc : TypeId × Value → H} {P : Program} {W : World} {name : String} {g : Nat} {t e : TypeId} {m : Nat} {k : IntKind} {zs : List Int} {base fuel : Nat} {spare : Nat → Bool} {held : Bool} {cs : Array Value} {ps : List MemPlace}
    (hg : P.globalNamed name = some g) (hu : P.underlying t = some (.array m e)) (he : P.underlying e = some (.int k)) (hc : P.cellsOf e = 1) (hv : W.var? P name = some cs)
    (hd : DataW.trod enc P W base spare held fuel t cs.toList = some (.agg (zs.map fun z => .lit (.int k z)), ps)) (i : Nat) (hi : i < m) : W.cell? ⟨g, i, none⟩ = some (.int k (zs.getD i 0)) := by
  obtain ⟨xs, m1, rfl, hx1, hlen, hn, hel⟩ := DataW.trod_array hu hd
  have h0 := hel i hi
  rw [hc, Nat.mul_one, List.getElem?_eq_getElem (show i < xs.length by omega)] at h0
  obtain ⟨n, e1, e2, -⟩ := DataW.trod_int he h0
  simp only [Prod.mk.injEq, DataW.agg.injEq] at hx1
  have e3 := congrArg (fun l => l[i]?) hx1.1
  simp only [List.getElem?_map, List.getElem?_eq_getElem (show i < xs.length by omega), e2, Option.map_some] at e3
  have hz : zs[i]? = some n := by
    cases hq : zs[i]? with
    | none => rw [hq] at e3; simp at e3
    | some z => rw [hq] at e3; simp at e3; rw [e3]
  have := World.var?_cell hg hv i
  rw [this]
  have e4 := congrArg (fun l => l[0]?) e1
  simp at e4
  rw [e4, List.getD, hz]; rfl
end Go.Proofs.YtkcambhojpafkaaDoor
