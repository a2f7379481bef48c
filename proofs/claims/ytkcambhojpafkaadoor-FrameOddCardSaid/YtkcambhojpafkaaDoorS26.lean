/- Layer 16's Read: in a mode that isn't right; and at the example. -/
import Derived.Test.YtkcambhojpafkaaDoorS25
import Derived.Test.YtkcambhojpafkaaDoorS1
set_option linter.unusedSimpArgs false
set_option linter.unusedVariables false
namespace Go.Proofs.YtkcambhojpafkaaDoor
open Go Go.RowKit

def frame0 (j : Nat) : Value := if j < 2 then .bool false else .int .i64 0
theorem zero_frame : Tryd.zeroCells71 = mkRow 94 frame0 := by kernel_rfl
theorem frame0_one (j : Nat) : (frame0 j).oneCell' = true := by unfold frame0; split <;> rfl
theorem info_frame : (Tryd.prog.info? 71).map (·.size) = some 94 := by kernel_rfl
theorem results_part_tmp2 {P : Program} {fn : Func} {p s u : Tmp} {t : TypeId} (h : fn.results = #[.cell p t, .tmp s, .tmp u]) (tmps : Array Value) (w : World) (b o n : Nat) (g : Nat → Value) (v1 v2 : Value) {d : TypeDesc}
    (hp : tmps.getD p undef = .pointer (some ⟨b, o, none⟩)) (hs : tmps.getD s undef = v1) (hu' : tmps.getD u undef = v2) (hc : ∀ j, j < n → w.cell? ⟨b, o + j, none⟩ = some (g j))
    (hu : P.underlying t = some d) (hd : (match d with | .struct _ | .array _ _ => true | _ => false) = true) (hi : (P.info? t).map (·.size) = some n) :
    (results fn tmps).run P w = .ok (.tuple #[.agg (mkRow n g), v1, v2]) w := by
  have hp' : tmps[p]?.getD undef = .pointer (some ⟨b, o, none⟩) := by simpa using hp
  have hs' : tmps[s]?.getD undef = v1 := by simpa using hs
  have hu2 : tmps[u]?.getD undef = v2 := by simpa using hu'
  simp [results, h, hp', hs', hu2, asAddr, run_loadVar_part hc hu hd hi]

set_option maxRecDepth 100000 in
set_option maxHeartbeats 1000000 in
theorem readOdd_any (r : Nat) (tl : Value) (s c : Int) (prev : Nat → Int) (w : World) (hr : mRight s c = false) :
    Calls Tryd.prog 46 #[.pointer (some ⟨r, 0, none⟩), tl, .agg #[.int .i64 s, .int .i64 c], .agg (mkRow 10 fun j => .int .i64 (prev j))] w (RetE (.tuple #[.agg (mkRow 94 frame0), .int .u32 0, .bool false]) w) := by
  have HR := Lib.hid hr; clear hr
  have hz := zero_frame
  go_enter Tryd.func46, Tryd.ntmps46
  go_upto_region 1 with (fail)
  have hc := Cells.made (w := (w.alloc (.cells #[.int .i64 s, .int .i64 c] 30)).alloc (.cells (mkRow 10 fun j => .int .i64 (prev j)) 55)) (cs := mkRow 94 frame0) (t := 71) (n := 94) (g := frame0) (mkRow_size _ _) (fun j hj => mkRow_get _ hj)
  have hx := (((XE.refl w).alloc (.cells #[.int .i64 s, .int .i64 c] 30)).alloc (.cells (mkRow 10 fun j => .int .i64 (prev j)) 55)).alloc (.cells (mkRow 94 frame0) 71)
  rw [World.size_alloc, World.size_alloc] at hc
  have HC := Lib.hid hc; have HX := Lib.hid hx
  clear hc hx
  go_wp2_with (first
    | (go_at_call 63; (with_reducible refine (modeRight_any _ _ _).mono ?_); rintro e w1 ⟨rfl, hx1⟩; rw [HR.out]; have HC1 := Lib.hid (HC.out.x hx1))
    | ((with_reducible refine wpList_store_part 71 (.tmp 8) (.tmp 18) ?_ ?_ ?_ (w.heap.size + 1 + 1) 0 94 frame0 ?_ ?_ HC1.out (by omega) info_frame (fun j _ => frame0_one j) ?_); (· rfl); (· rfl); (· rfl); (· rfl); (· rfl)))
  have hfin := HC1.out.putRow (o := 0) (m := 94) (f := frame0) (g' := frame0) (by omega) (fun i hi => by rw [if_pos ⟨by omega, by omega⟩]; rfl)
  refine bodyPost_ret (v := .tuple #[.agg (mkRow 94 frame0), .int .u32 0, .bool false]) (results_part_tmp2 rfl _ _ (w.heap.size + 1 + 1) 0 94 frame0 _ _ rfl rfl rfl (fun j hj => by rw [Nat.zero_add]; exact hfin.cell j hj) Tryd.underlying71 rfl info_frame) rfl ⟨rfl, (HX.out.trans hx1).setCells (by omega) _ _⟩
end Go.Proofs.YtkcambhojpafkaaDoor
