/- Layer 16's example: awake. -/
import Derived.Test.YtkcambhojpafkaaDoorS29
import Derived.Test.YtkcambhojpafkaaDoorB2
set_option linter.unusedSimpArgs false
set_option linter.unusedVariables false
namespace Go.Proofs.YtkcambhojpafkaaDoor
open Go Go.RowKit

def leavesFrame : List Leaf := .bool :: .bool :: List.replicate 92 (.int .i64)
theorem leaves_frame : leaves Tryd.prog 10000 71 = some leavesFrame := by kernel_rfl
theorem fits_frame {g : Nat → Value} (h0 : ∃ b, g 0 = .bool b) (h1 : ∃ b, g 1 = .bool b) (h2 : ∀ j, 2 ≤ j → j < 94 → ∃ z, g j = .int .i64 z) : fits leavesFrame g := by
  intro j l hl
  have hj : j < 94 := by
    have := (List.getElem?_eq_some_iff.1 hl).1
    simpa [leavesFrame] using this
  rcases j with _ | _ | j
  · obtain ⟨b, hb⟩ := h0
    obtain rfl : Leaf.bool = l := by simpa [leavesFrame] using hl
    rw [hb]; rfl
  · obtain ⟨b, hb⟩ := h1
    obtain rfl : Leaf.bool = l := by simpa [leavesFrame] using hl
    rw [hb]; rfl
  · obtain ⟨z, hz⟩ := h2 (j + 2) (by omega) hj
    rw [hz]
    have hm : l ∈ List.replicate 92 (Leaf.int .i64) := List.mem_of_getElem? (i := j) (by simpa [leavesFrame] using hl)
    obtain rfl := List.eq_of_mem_replicate hm
    rfl
theorem fits_frameS : fits leavesFrame frameS := fits_frame ⟨true, rfl⟩ ⟨false, rfl⟩ (fun j h2 hj => ⟨0, by unfold frameS frame0; rw [if_neg (by omega), if_neg (by omega)]⟩)
theorem fits_frame0 : fits leavesFrame frame0 := fits_frame ⟨false, rfl⟩ ⟨false, rfl⟩ (fun j h2 hj => ⟨0, by unfold frame0; rw [if_neg (by omega)]⟩)
theorem eq_frameS (w : World) : (Op.equalIn 10000 71 (.agg (mkRow 94 frameS)) (.agg (mkRow 94 frameS))).run Tryd.prog w = .ok true w :=
  run_equalIn_rows (n := 94) leaves_frame rfl Tryd.underlying71 rfl fits_frameS fits_frameS (by kernel_rfl) w
theorem eq_frame0 (w : World) : (Op.equalIn 10000 71 (.agg (mkRow 94 frame0)) (.agg (mkRow 94 frame0))).run Tryd.prog w = .ok true w :=
  run_equalIn_rows (n := 94) leaves_frame rfl Tryd.underlying71 rfl fits_frame0 fits_frame0 (by kernel_rfl) w
theorem guard_frame : Tryd.prog.eqGuardType Tryd.prog.depth 71 = false := by kernel_rfl
theorem zeroS_frame : (mkRow 94 frame0).setIfInBounds 0 (.bool true) = mkRow 94 frameS := by kernel_rfl
theorem iface_tools : Tryd.prog.underlying 102 = some (.interface (Tryd.prog.methodsAt 102)) := by kernel_rfl
def exB (i : Nat) : Int := if i = 0 then 8 else 0

set_option maxRecDepth 100000 in
set_option maxHeartbeats 2000000 in
theorem frameAwake_any (w : World) : Calls Tryd.prog 37 #[] w (RetE (.bool true) w) := by
  have hi := fun (w : World) u x => run_eql_held_nil (P := Tryd.prog) w 102 u x iface_tools
  have hz := zeroS_frame
  have hz0 := zero_frame
  have heq := eq_frameS
  have hgd := guard_frame
  have hwin : win 4 exB 3 = 524288 := by kernel_rfl
  have hwn : ∀ v, (⟨v, 3, 0, 16777216, win 4 exB 3⟩ : RS) = exR v 16777216 524288 := fun v => by rw [hwin]; rfl
  go_enter Tryd.func37, Tryd.ntmps37
  go_upto_region 4 with (first
    | (go_at_call 73; (with_reducible refine (quick_any _).mono ?_); rintro e w1 ⟨qt, qv, rfl, hx1⟩)
    | (go_at_call 47; (with_reducible refine (plainTools_any _).mono ?_); rintro e w2 ⟨pt, pv, rfl, hx2⟩))
  have hby : BytesIn (w2.alloc (.cells #[.int .u8 8, .int .u8 0, .int .u8 0, .int .u8 0] 5)) (fun _ => True) (.slice (some ⟨w2.heap.size, 0, none⟩) 4 4) 4 exB := by
    have hc := Cells.new w2 #[.int .u8 8, .int .u8 0, .int .u8 0, .int .u8 0] 5
    refine ⟨_, _, rfl, Nat.le_refl _, (fun h => by cases h), fun x hx => ?_⟩
    obtain rfl := Option.some.inj hx
    refine ⟨_, _, rfl, trivial, fun i hi => ?_⟩
    rw [Nat.zero_add, hc.cell i (by simpa using hi)]
    have : i = 0 ∨ i = 1 ∨ i = 2 ∨ i = 3 := by omega
    rcases this with rfl | rfl | rfl | rfl <;> rfl
  have HBY := Lib.hid hby; clear hby
  have HX := Lib.hid ((hx1.trans hx2).alloc (.cells #[.int .u8 8, .int .u8 0, .int .u8 0, .int .u8 0] 5))
  clear hx1 hx2
  go_upto_region 5 with (first
    | (go_at_call 44; (with_reducible refine (readerNew_any _ 4 exB _ HBY.out.at (by omega) (fun i _ => by unfold exB; split <;> omega)).mono ?_); rintro e w3 ⟨r, v, rfl, hr3, hat, hx3⟩; rw [hwn] at hat)
    | (go_at_call 46; (with_reducible refine (readEx_any r qt qv _ _ _ hat).mono ?_); rintro e w4 ⟨rfl, hx4⟩; have HFZ := Lib.hid (Cells.made (w := w4) (cs := mkRow 94 frame0) (t := 71) (n := 94) (g := frame0) (mkRow_size _ _) (fun j hj => mkRow_get _ hj)))
    | ((with_reducible refine wpList_store_part 71 (.tmp 2) (.tmp 19) ?_ ?_ ?_ (w4.heap.size) 0 94 frameS ?_ ?_ HFZ.out (by omega) info_frame (fun j _ => frameS_one j) ?_); (· rfl); (· rfl); (· rfl); (· rfl); (· rfl)))
  have hf := HFZ.out.putRow (o := 0) (m := 94) (f := frameS) (g' := frameS) (by omega) (fun i hi => by rw [if_pos ⟨by omega, by omega⟩]; rfl)
  have hsz : w.heap.size ≤ r := by have h1 := HX.out.size; have h2 := hr3; omega
  have hx5 := (hx4.own (HX.out.trans hx3) hsz)
  have hx6 := (hx5.alloc (.cells (mkRow 94 frame0) 71)).setCells (b := w4.heap.size) hx5.size 0 (mkRow 94 frameS).toList
  have HX6 := Lib.hid hx6
  have hl : ∀ j, j < 94 → ((w4.alloc (.cells (mkRow 94 frame0) 71)).setCells w4.heap.size 0 (mkRow 94 frameS).toList).cell? ⟨w4.heap.size, 0 + j, none⟩ = some (frameS j) := fun j hj => by rw [Nat.zero_add]; exact hf.cell j hj
  have HL := Lib.hid hl
  clear hf hl hx6 hx5 hx4 hat HFZ HBY hx3
  generalize (w4.alloc (.cells (mkRow 94 frame0) 71)).setCells w4.heap.size 0 (mkRow 94 frameS).toList = w5 at *
  go_wp2_with ((with_reducible refine wpList_load_part 71 (.tmp 2) ?_ ?_ (w4.heap.size) (0) 94 ?_ (frameS) _ (HL.out) Tryd.underlying71 ?_ info_frame ?_); (· rfl); (· rfl); (· rfl); (· rfl))
  go_ret
  exact ⟨rfl, HX6.out⟩
end Go.Proofs.YtkcambhojpafkaaDoor
