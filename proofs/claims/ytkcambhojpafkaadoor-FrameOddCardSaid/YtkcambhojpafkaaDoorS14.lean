/- Layer 15's example holds. -/
import Derived.Test.YtkcambhojpafkaaDoorM5
set_option linter.unusedSimpArgs false
set_option linter.unusedVariables false
namespace Go.Proofs.YtkcambhojpafkaaDoor
open Go Go.RowKit

def awakeX (i : Nat) : Nat → Int := awakeM.getD i (lit5 0 0 0 0 0)
theorem awakeX_all : [] ++ (List.range 3).map awakeX = awakeM := rfl
set_option maxHeartbeats 1000000 in
set_option maxRecDepth 100000 in
theorem shareAwake_any (w : World) (hw : Wid w) : Calls Tryd.prog 12 #[] w (RetE (.bool true) w) := by
  have HW := Lib.hid hw; clear hw
  have hmk : ∀ t, (Instr.makeMap t none).run Tryd.prog w = .ok (.map (some w.heap.size)) (w.alloc (.map #[] 0)) := fun t => run_makeMap t w
  have hx0 : XE w ((w.alloc (.map #[] 0)).alloc (.cells #[.int .i64 1, .int .i64 0, .int .i64 0, .int .i64 0, .int .i64 0, .int .i64 2, .int .i64 0, .int .i64 0, .int .i64 0, .int .i64 0, .int .i64 1, .int .i64 0, .int .i64 0, .int .i64 0, .int .i64 0] 25)) := (by repeat (first | exact XE.refl _ | apply XE.ext | apply XE.alloc | apply XE.drew | apply XE.drewN))
  have hl0 := (newLog_at w).x ((XE.refl _).alloc (.cells #[.int .i64 1, .int .i64 0, .int .i64 0, .int .i64 0, .int .i64 0, .int .i64 2, .int .i64 0, .int .i64 0, .int .i64 0, .int .i64 0, .int .i64 1, .int .i64 0, .int .i64 0, .int .i64 0, .int .i64 0] 25))
  have hc0 := Cells.made (w := w.alloc (.map #[] 0)) (cs := #[.int .i64 1, .int .i64 0, .int .i64 0, .int .i64 0, .int .i64 0, .int .i64 2, .int .i64 0, .int .i64 0, .int .i64 0, .int .i64 0, .int .i64 1, .int .i64 0, .int .i64 0, .int .i64 0, .int .i64 0]) (t := 25) (n := 15) (g := fun j => .int .i64 (awakeX (j / 5) (j % 5))) rfl (fun j hj => (show (mkRow 15 fun j => .int .i64 (awakeX (j / 5) (j % 5)))[j]? = _ from mkRow_get _ hj))
  rw [World.size_alloc] at hc0
  have hf0 : FivesAt ((w.alloc (.map #[] 0)).alloc (.cells #[.int .i64 1, .int .i64 0, .int .i64 0, .int .i64 0, .int .i64 0, .int .i64 2, .int .i64 0, .int .i64 0, .int .i64 0, .int .i64 0, .int .i64 1, .int .i64 0, .int .i64 0, .int .i64 0, .int .i64 0] 25)) (w.heap.size + 1) 0 3 awakeX := fun i hi j hj => by
    have := hc0.cell (0 + i * 5 + j) (by omega)
    rw [this, show (0 + i * 5 + j) / 5 = i by omega, show (0 + i * 5 + j) % 5 = j by omega]
  have hadd := logAdd_any w.heap.size (w.heap.size + 1) 0 3 3 awakeX (some ⟨w.heap.size + 1, 0, none⟩) [] _ hl0 (by omega) (by simp) (fun _ => rfl) hf0
  rw [awakeX_all] at hadd
  have HADD := Lib.hid hadd; clear hadd
  have HX0 := Lib.hid hx0; clear hx0
  clear hl0 hc0 hf0
  go_enter Tryd.func12, Tryd.ntmps12
  go_upto_region 3 with (go_at_call 17; (with_reducible refine HADD.out.mono ?_); rintro e w1 ⟨rfl, hl1, hxo1⟩)
  have hx1 := hxo1.own HX0.out (Nat.le_refl _)
  have HX1 := Lib.hid hx1
  clear hxo1 hx1 HADD HX0 hmk
  go_upto_region 4 with (first
    | (go_at_call 19; (with_reducible refine (logMost_any _ _ _ hl1 (by decide)).mono ?_); rintro e w2 ⟨k, i, rfl, hk, hx2⟩
       obtain ⟨hk5, rfl⟩ := hk.one top_awake
       have hee := eq_lit5 hk5; unfold row5 at hee
       have HX2 := Lib.hid (HX1.out.trans hx2)
       clear hk hk5 hl1 hx2
       have HZ := Lib.hid (cells_zero5 w2 25))
    | ((with_reducible refine wpList_store_part 25 (.tmp 2) (.tmp 14) ?_ ?_ ?_ (w2.heap.size) (0) 5 (fun j => .int .i64 (k j)) ?_ ?_ (HZ.out) (by omega) info_five (fun _ _ => rfl) ?_); (· rfl); (· rfl); (· rfl); (· rfl); (· rfl)))
  have hfin := HZ.out.putRow (o := 0) (m := 5) (f := fun j => .int .i64 (k j)) (g' := fun j => .int .i64 (k j)) (by omega) (fun i hi => by rw [if_pos ⟨by omega, by omega⟩]; rfl)
  have hx3 := ((XE.refl w2).alloc (.cells #[.int .i64 0, .int .i64 0, .int .i64 0, .int .i64 0, .int .i64 0] 25)).setCells (Nat.le_refl _) 0 (mkRow 5 fun j => .int .i64 (k j)).toList
  have HF := Lib.hid hfin; clear hfin
  have HX3 := Lib.hid (HX2.out.trans hx3); clear hx3
  generalize (w2.alloc (.cells #[.int .i64 0, .int .i64 0, .int .i64 0, .int .i64 0, .int .i64 0] 25)).setCells w2.heap.size 0 (mkRow 5 fun j => .int .i64 (k j)).toList = w3 at *
  go_wp2_with (first
    | ((with_reducible refine wpList_load_part 25 (.tmp 2) ?_ ?_ (w2.heap.size) (0) 5 ?_ (fun j => .int .i64 (k j)) _ (fun j hj => by rw [Nat.zero_add]; exact HF.out.cell j hj) Tryd.underlying25 ?_ info_five ?_); (· rfl); (· rfl); (· rfl); (· rfl))
    | (go_at_call 13; (with_reducible refine (fresh_any _).mono ?_); rintro e w4 ⟨b, rfl, hb4, ⟨h, hsh⟩, hx4⟩; have hw4 := (HW.out.x HX3.out).x hx4)
    | (go_at_call 14; (with_reducible refine (shareAlloc_any _ _ _ _ _ _ _ hsh hw4).mono ?_); rintro e w5 ⟨x, hs5, rfl, hx5⟩; have hf5 := eq_lit5 ((hs5.shares rfl).one shares_awake)))
  go_ret
  exact ⟨rfl, (HX3.out.trans hx4).trans hx5⟩
end Go.Proofs.YtkcambhojpafkaaDoor
