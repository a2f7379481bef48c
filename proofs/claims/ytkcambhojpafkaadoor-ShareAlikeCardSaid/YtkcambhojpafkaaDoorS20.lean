/- Regions that draw their order, quiet but for what a book notes meanwhile. -/
import Derived.Test.YtkcambhojpafkaaDoorS9
import Derived.Test.YtkcambhojpafkaaDoorM4
import Derived.Test.YtkcambhojpafkaaDoorS7
set_option linter.unusedSimpArgs false
set_option linter.unusedVariables false
namespace Go.Proofs.YtkcambhojpafkaaDoor
open Go Go.RowKit

/-- A world that has grown out of w, but for what a book notes. -/
structure Bk (w : World) (b m : Nat) where
  world : World
  book : BookAt w b m
  xb : XB m w world
section
variable {w : World} {b m : Nat}
theorem Bk.at (d : Bk w b m) : BookAt d.world b m := d.xb.book d.book
theorem Bk.wid (d : Bk w b m) (h : Wid w) : Wid d.world := d.xb.wid d.book h
@[go_sem] theorem cell?_bk (d : Bk w b m) (a : Addr) (h : (w.cell? a).isSome = true) : d.world.cell? a = w.cell? a := by
  obtain ⟨v, hv⟩ := Option.isSome_iff_exists.1 h
  rw [hv]; exact d.xb.cell d.book hv
@[go_sem] theorem frozen?_bk (d : Bk w b m) (a : Addr) (h : (w.cell? a).isSome = true) : d.world.frozen? a = w.frozen? a := by
  obtain ⟨v, hv⟩ := Option.isSome_iff_exists.1 h
  exact d.xb.frozen d.book hv
theorem quietBk {P : Program} {f : FuncId} {args : Array Value} {d : Bk w b m} {v : Value} (h : Calls P f args d.world (RetB m v d.world)) :
    Calls P f args d.world fun e w'' => e = .returned v ∧ ∃ x : Bk w b m, w'' = x.world :=
  h.mono fun _ w'' ⟨h1, h2⟩ => ⟨h1, ⟨w'', d.book, d.xb.trans h2⟩, rfl⟩
theorem quietBkE {P : Program} {f : FuncId} {args : Array Value} {d : Bk w b m} {v : Value} (h : Calls P f args d.world (RetE v d.world)) :
    Calls P f args d.world fun e w'' => e = .returned v ∧ ∃ x : Bk w b m, w'' = x.world :=
  h.mono fun _ w'' ⟨h1, h2⟩ => ⟨h1, ⟨w'', d.book, d.xb.x h2⟩, rfl⟩
theorem quietBkS {P : Program} {f : FuncId} {args : Array Value} {d : Bk w b m} {v : Value} (h : Calls P f args d.world (RetS v d.world)) :
    Calls P f args d.world fun e w'' => e = .returned v ∧ ∃ x : Bk w b m, w'' = x.world := quietBkE (callsE_of_S h)
theorem wp_region_booked {P : Program} {l : List Oper} {id : Nat} {Q : Exit → Act → World → Prop} {a : Act} (hb : BookAt w b m) (hm : P.follows .mixedOrders = true) (hB : Region.lexB .any l.toArray = true)
    (h : Nonempty (Bk w b m) → wpQuiet P l.toArray (fun w' => ∃ d : Bk w b m, w' = d.world) (fun a' => ∀ w', (∃ d : Bk w b m, w' = d.world) → Q .normal a' w') l a) : (Code.region id l.toArray true).wp P Q a w := by
  have hx : XB m w w.drew := hb.self.x (XE.refl w).drew
  exact wp_region_quiet (C := fun w' => ∃ d : Bk w b m, w' = d.world) hm hB ⟨⟨w.drew, hb, hx⟩, rfl⟩ (h ⟨⟨w.drew, hb, hx⟩⟩)
end

/-! ### What a budget is shared out as, one and for all -/
open Classical in
noncomputable def allocK (s c t u : Int) : Nat → Int := if h : mRight s c = true ∧ ∃ k, Shares s c t u k then Classical.choose h.2 else fun _ => 0
theorem allocK_of {s c t u : Int} (hr : mRight s c = true) {k : Nat → Int} (h : Shares s c t u k) : row5 k = row5 (allocK s c t u) := by
  have hh : mRight s c = true ∧ ∃ k, Shares s c t u k := ⟨hr, k, h⟩
  have e : allocK s c t u = Classical.choose hh.2 := by unfold allocK; rw [dif_pos hh]
  rw [e]
  exact mkRow_congr fun j hj => by rw [h.one (Classical.choose_spec hh.2) j hj]
theorem allocK_wrong {s c t u : Int} (hr : mRight s c = false) : allocK s c t u = fun _ => 0 := by
  unfold allocK; rw [dif_neg (by rw [hr]; simp)]
theorem shareAlloc_det (b h : Nat) (s c t budget : Int) (w : World) (hs : ShareAt w b h) (hw : Wid w) :
    Calls Tryd.prog 14 #[.pointer (some ⟨b, 0, none⟩), .agg #[.int .i64 s, .int .i64 c], .int .i64 t, .int .i64 budget] w (RetE (.agg (row5 (allocK s c t budget))) w) :=
  (shareAlloc_any b h s c t budget w hs hw).mono fun e w' ⟨x, hx, he, hw'⟩ => by
    refine ⟨?_, hw'⟩
    rw [he]
    cases hr : mRight s c with
    | true => rw [allocK_of hr (hx.shares hr)]
    | false => rw [allocK_wrong hr]; exact congrArg (fun r => Ending.returned (.agg r)) (mkRow_congr fun j hj => by rw [hx.wrong hr j hj])
end Go.Proofs.YtkcambhojpafkaaDoor
