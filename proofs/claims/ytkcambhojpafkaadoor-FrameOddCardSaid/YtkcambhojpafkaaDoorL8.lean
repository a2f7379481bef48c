/- FrameGuesses, the walk of the law. -/
import Derived.Test.YtkcambhojpafkaaDoorS30
import Derived.Test.YtkcambhojpafkaaDoorB4
set_option linter.unusedSimpArgs false
set_option linter.unusedVariables false
namespace Go.Proofs.YtkcambhojpafkaaDoor
open Go Go.RowKit

/-- The frame that is asked. -/
def gF (intra : Bool) (e : Nat → Int) (j : Nat) : Value := if j = 1 then .bool intra else if 5 ≤ j ∧ j < 10 then .int .i64 (e j) else if 10 ≤ j ∧ j < 15 then .int .i64 (e (j - 10)) else frame0 j
def gE (e : Nat → Int) (j : Nat) : Int := if j < 5 then e (5 + j) else e (j - 5)
theorem gF_E (intra : Bool) (e : Nat → Int) (j : Nat) (hj : j < 10) : gF intra e (5 + j) = .int .i64 (gE e j) := by
  unfold gF gE
  rw [if_neg (by omega)]
  by_cases h : j < 5
  · rw [if_pos (by omega), if_pos h]
  · rw [if_neg (by omega), if_pos (by omega), if_neg h]; congr 2; omega
theorem gF_one (intra : Bool) (e : Nat → Int) (j : Nat) : (gF intra e j).oneCell' = true := by
  unfold gF; split; rfl; split; rfl; split; rfl; exact frame0_one j
theorem info_ten : (Tryd.prog.info? 55).map (·.size) = some 10 := by kernel_rfl
theorem info_ask : (Tryd.prog.info? 89).map (·.size) = some 13 := by kernel_rfl
theorem cells_zero10 (w : World) (t : TypeId) : Cells (w.alloc (.cells #[.int .i64 0, .int .i64 0, .int .i64 0, .int .i64 0, .int .i64 0, .int .i64 0, .int .i64 0, .int .i64 0, .int .i64 0, .int .i64 0] t)) w.heap.size 10 (fun _ => .int .i64 0) :=
  .made rfl (fun j hj => (show (mkRow 10 fun _ => Value.int .i64 0)[j]? = _ from mkRow_get _ hj))
theorem gF_row (intra : Bool) (e : Nat → Int) : ((((((((((Tryd.zeroCells71.setIfInBounds 1 (.bool intra)).setIfInBounds 5 (.int .i64 (e 5))).setIfInBounds 6 (.int .i64 (e 6))).setIfInBounds 7 (.int .i64 (e 7))).setIfInBounds 8 (.int .i64 (e 8))).setIfInBounds 9 (.int .i64 (e 9))).setIfInBounds 10 (.int .i64 (e 0))).setIfInBounds 11 (.int .i64 (e 1))).setIfInBounds 12 (.int .i64 (e 2))).setIfInBounds 13 (.int .i64 (e 3))).setIfInBounds 14 (.int .i64 (e 4)) = mkRow 94 (gF intra e) := by kernel_rfl
theorem Cells.ext0 {w : World} {b n : Nat} {g : Nat → Value} (h : Cells w b n g) (d : More) (j : Nat) (hj : j < n) : (ext w d).cell? ⟨b, 0 + j, none⟩ = some (g j) := by rw [Nat.zero_add]; exact (h.x (xe_ext _ d)).cell j hj
theorem mkRow5 (g : Nat → Value) : mkRow 5 g = #[g 0, g 1, g 2, g 3, g 4] := rfl

set_option maxRecDepth 100000 in
set_option maxHeartbeats 400000 in
theorem frameGuesses_any (sl : Value) (z c : Int) (p : Nat → Int) (intra : Bool) (o0 o1 o2 o3 : Int) (w : World) (hp : ∀ j, j < 10 → 0 ≤ p j ∧ p j ≤ 255) (hl : o2 ≤ 9223372036854775807) (hc : o3 ≤ 9223372036854775807) :
    Calls Tryd.prog 10 #[.agg (mkRow 13 (askC sl z c p)), .bool intra, .agg #[.int .i64 o0, .int .i64 o1, .int .i64 o2, .int .i64 o3]] w (RetE (.bool true) w) := by
  have HP := Lib.hid hp; clear hp
  go_enter Tryd.func10, Tryd.ntmps10
  go_upto_region 1 with (fail)
  have ha := Cells.made (w := w) (cs := mkRow 13 (askC sl z c p)) (t := 89) (n := 13) (g := askC sl z c p) (mkRow_size _ _) (fun j hj => mkRow_get _ hj)
  have hb := Cells.new (w.alloc (.cells (mkRow 13 (askC sl z c p)) 89)) #[.int .i64 o0, .int .i64 o1, .int .i64 o2, .int .i64 o3] 90
  have hx : XE (w.alloc (.cells (mkRow 13 (askC sl z c p)) 89)) ((w.alloc (.cells (mkRow 13 (askC sl z c p)) 89)).alloc (.cells #[.int .i64 o0, .int .i64 o1, .int .i64 o2, .int .i64 o3] 90)) := (XE.refl _).alloc _
  rw [World.size_alloc] at hb
  have HA := Lib.hid (ha.x hx); have HB := Lib.hid hb; have HX := Lib.hid (((XE.refl w).alloc _).trans hx)
  clear ha hb hx
  generalize (w.alloc (.cells (mkRow 13 (askC sl z c p)) 89)).alloc (.cells #[.int .i64 o0, .int .i64 o1, .int .i64 o2, .int .i64 o3] 90) = w0 at *
  go_upto_region 3 with (go_at_call 37; (with_reducible refine (frameAwake_any _).mono ?_); rintro e w1 ⟨rfl, hx1⟩)
  have HA1 := Lib.hid (HA.out.x hx1); have HB1 := Lib.hid (HB.out.x hx1); have HX1 := Lib.hid (HX.out.trans hx1)
  have hz0 := zero_frame
  clear HA HB HX hx1
  go_upto_region 4 with (first
    | ((with_reducible refine wpList_load_part 89 (.tmp 3) ?_ ?_ (w.heap.size) (0) 13 ?_ (askC sl z c p) _ (fun j hj => by rw [Nat.zero_add]; exact HA1.out.cell j hj) Tryd.underlying89 ?_ info_ask ?_); (· rfl); (· rfl); (· rfl); (· rfl))
    | (go_at_call 38; (with_reducible refine (energies_any _ _ _ _ _ HP.out).mono ?_); rintro e w2 ⟨rfl, hx2⟩; have HZ := Lib.hid (cells_zero10 w2 55))
    | ((with_reducible refine wpList_store_part 55 (.tmp 7) (.tmp 15) ?_ ?_ ?_ (w2.heap.size) (0) 10 (fun j => .int .i64 (p j % 32)) ?_ ?_ (HZ.out) (by omega) info_ten (fun _ _ => rfl) ?_); (· rfl); (· rfl); (· rfl); (· rfl); (· rfl)))
  have he := HZ.out.putRow (o := 0) (m := 10) (f := fun j => .int .i64 (p j % 32)) (g' := fun j => .int .i64 (p j % 32)) (by omega) (fun i hi => by rw [if_pos ⟨by omega, by omega⟩]; rfl)
  have hx3 := ((XE.refl w2).alloc (.cells #[.int .i64 0, .int .i64 0, .int .i64 0, .int .i64 0, .int .i64 0, .int .i64 0, .int .i64 0, .int .i64 0, .int .i64 0, .int .i64 0] 55)).setCells (b := w2.heap.size) (Nat.le_refl _) 0 (mkRow 10 fun j => .int .i64 (p j % 32)).toList
  have HE := Lib.hid he
  have HB3 := Lib.hid ((HB1.out.x hx2).x hx3); have HX3 := Lib.hid ((HX1.out.trans hx2).trans hx3)
  clear he hx2 hx3 HZ HA1 HB1 HX1
  generalize (w2.alloc (.cells #[.int .i64 0, .int .i64 0, .int .i64 0, .int .i64 0, .int .i64 0, .int .i64 0, .int .i64 0, .int .i64 0, .int .i64 0, .int .i64 0] 55)).setCells w2.heap.size 0 (mkRow 10 fun j => .int .i64 (p j % 32)).toList = w3 at *
  obtain ⟨e, hee⟩ : ∃ e : Nat → Int, e = fun j => p j % 32 := ⟨_, rfl⟩
  have HE2 := Lib.hid (show Cells w3 w2.heap.size 10 (fun j => .int .i64 (e j)) by rw [hee]; exact HE.out)
  clear HE hee
  generalize w2.heap.size = eb at *
  clear hz0
  have HF := Lib.hid (Cells.made (w := w3) (cs := mkRow 94 frame0) (t := 71) (n := 94) (g := frame0) (mkRow_size _ _) (fun j hj => mkRow_get _ hj))
  go_upto_region 5 with (first
    | (((with_reducible refine wpList_load_part 25 (.tmp 17) ?_ ?_ (eb) (5) 5 ?_ (fun j => .int .i64 (e (5 + j))) _ (fun j hj => HE2.out.cell (5 + j) (by omega)) Tryd.underlying25 ?_ info_five ?_); (· rfl); (· rfl); (· rfl); (· rfl)); rw [mkRow5])
    | (((with_reducible refine wpList_load_part 25 (.tmp 19) ?_ ?_ (eb) (0) 5 ?_ (fun j => .int .i64 (e j)) _ (fun j hj => by rw [Nat.zero_add]; exact HE2.out.cell j (by omega)) Tryd.underlying25 ?_ info_five ?_); (· rfl); (· rfl); (· rfl); (· rfl)); rw [mkRow5])
    | (rw [gF_row intra e, zero_frame]; (with_reducible refine wpList_store_part 71 (.tmp 8) (.tmp 22) ?_ ?_ ?_ (w3.heap.size) 0 94 (gF intra e) ?_ ?_ HF.out (by omega) info_frame (fun j _ => gF_one intra e j) ?_); (· rfl); (· rfl); (· rfl); (· rfl); (· rfl)))
  have hfin := HF.out.putRow (o := 0) (m := 94) (f := gF intra e) (g' := gF intra e) (by omega) (fun i hi => by rw [if_pos ⟨by omega, by omega⟩]; rfl)
  have hx4 := ((XE.refl w3).alloc (.cells (mkRow 94 frame0) 71)).setCells (b := w3.heap.size) (Nat.le_refl _) 0 (mkRow 94 (gF intra e)).toList
  have HF4 := Lib.hid hfin
  have hq := HB3.out.x hx4
  have HE4 := Lib.hid (HE2.out.x hx4); have HX4 := Lib.hid (HX3.out.trans hx4)
  have b0 := hq.cell 0 (by simp); have b1 := hq.cell 1 (by simp); have b2 := hq.cell 2 (by simp); have b3 := hq.cell 3 (by simp)
  clear hfin hx4 hq HE2 HX3 HB3 HF
  generalize (w3.alloc (.cells (mkRow 94 frame0) 71)).setCells w3.heap.size 0 (mkRow 94 (gF intra e)).toList = w4 at *
  generalize w3.heap.size = fb at *
  have b0' : w4.cell? ⟨w.heap.size + 1, 0, none⟩ = some (.int .i64 o0) := b0
  have b1' : w4.cell? ⟨w.heap.size + 1, 1, none⟩ = some (.int .i64 o1) := b1
  have b2' : w4.cell? ⟨w.heap.size + 1, 2, none⟩ = some (.int .i64 o2) := b2
  have b3' : w4.cell? ⟨w.heap.size + 1, 3, none⟩ = some (.int .i64 o3) := b3
  clear b0 b1 b2 b3
  by_cases hin : 0 ≤ o0 ∧ o0 < 2 ∧ 0 ≤ o1 ∧ o1 < 5
  · obtain ⟨i0, i1, i2, i3⟩ := hin
    obtain ⟨ch, rfl⟩ := Int.eq_ofNat_of_zero_le i0
    obtain ⟨bd, rfl⟩ := Int.eq_ofNat_of_zero_le i2
    have hch : ch < 2 := by omega
    have hbd : bd < 5 := by omega
    go_upto_region 6 with (fail)
    refine wp_region_grown (by kernel_rfl) (by kernel_rfl) ?_; (repeat (go_big_quiet_step (fail))); refine wpQuiet_nil ?_; rintro _ ⟨dq, rfl⟩
    have HF5 := Lib.hid (HF4.out.x (xe_ext _ dq)); have HE5 := Lib.hid (HE4.out.x (xe_ext _ dq)); have HX5 := Lib.hid (HX4.out.trans (xe_ext _ dq))
    have c2 := (xe_ext _ dq).cell b2'; have c3 := (xe_ext _ dq).cell b3'
    clear HF4 HE4 HX4 b0' b1' b2' b3'
    generalize ext w4 dq = w5 at *
    go_upto_region 8 with (fail)
    have HL1 := Lib.hid (fun d => HF5.out.ext0 d); have HL2 := Lib.hid (fun d => HE5.out.ext0 d)
    have HPL := Lib.hid (fun w => plainFrame_any (gF intra e) w (fun j _ => gF_one intra e j))
    have HRG := Lib.hid (fun w => refGuess_any (gF intra e) intra (gE e) e ch bd w hch hbd rfl (gF_E intra e))
    have HFG := Lib.hid (fun w => frGuess_any (gF intra e) intra (gE e) e ch bd w hch hbd rfl (gF_E intra e))
    refine wp_region_grown (by kernel_rfl) (by kernel_rfl) ?_; (repeat (first | go_big_quiet_skip | (go_big_quiet_want; first | (first | ((with_reducible refine quiet_load_part 71 (.tmp 8) ?_ (fb) (0) 94 ?_ (gF intra e) _ ?_ Tryd.underlying71 ?_ info_frame ?_); (· rfl); (· rfl); (· (rintro _ ⟨d, rfl⟩; exact (HL1.out d))); (· rfl); go_frame; go_big_quiet_on) | ((with_reducible refine quiet_load_part 55 (.tmp 7) ?_ (eb) (0) 10 ?_ (fun j => .int .i64 (e j)) _ ?_ Tryd.underlying55 ?_ info_ten ?_); (· rfl); (· rfl); (· (rintro _ ⟨d, rfl⟩; exact (HL2.out d))); (· rfl); go_frame; go_big_quiet_on)) | (go_big_quiet_op; first | go_big_quiet_on | go_big_quiet_call (first | (go_at_call 40; exact quietE (HPL.out _)) | (go_at_call 39; exact quietE (HRG.out _))))))); refine wpQuiet_nil ?_; rintro _ ⟨dq, rfl⟩
    have HL3 := Lib.hid (fun d => (HF5.out.x (xe_ext _ dq)).ext0 d); have HL4 := Lib.hid (fun d => (HE5.out.x (xe_ext _ dq)).ext0 d); have HX6 := Lib.hid (HX5.out.trans (xe_ext _ dq))
    have d2 := (xe_ext _ dq).cell c2; have d3 := (xe_ext _ dq).cell c3
    clear HF5 HE5 HX5 HL1 HL2 HRG c2 c3
    generalize ext w5 dq = w6 at *
    go_upto_region 9 with (fail)
    have HFI := Lib.hid (fun w => fines_any o2 o3 w hl hc)
    have HRF := Lib.hid (fun w => refFines_any o2 o3 w hl hc)
    refine wp_region_grown (by kernel_rfl) (by kernel_rfl) ?_; (repeat (first | go_big_quiet_skip | (go_big_quiet_want; first | (first | ((with_reducible refine quiet_load_part 71 (.tmp 8) ?_ (fb) (0) 94 ?_ (gF intra e) _ ?_ Tryd.underlying71 ?_ info_frame ?_); (· rfl); (· rfl); (· (rintro _ ⟨d, rfl⟩; exact (HL3.out d))); (· rfl); go_frame; go_big_quiet_on) | ((with_reducible refine quiet_load_part 55 (.tmp 7) ?_ (eb) (0) 10 ?_ (fun j => .int .i64 (e j)) _ ?_ Tryd.underlying55 ?_ info_ten ?_); (· rfl); (· rfl); (· (rintro _ ⟨d, rfl⟩; exact (HL4.out d))); (· rfl); go_frame; go_big_quiet_on)) | (go_big_quiet_op; first | go_big_quiet_on | go_big_quiet_call (first | (go_at_call 41; exact quietE (HFG.out _)) | (go_at_call 42; exact quietS (HFI.out _)) | (go_at_call 43; exact quietS (HRF.out _))))))); refine wpQuiet_nil ?_; rintro _ ⟨dq, rfl⟩
    go_wp2
    go_ret
    exact ⟨rfl, HX6.out.trans (xe_ext _ _)⟩
  · have hcase : o0 < 0 ∨ (0 ≤ o0 ∧ 2 ≤ o0) ∨ (0 ≤ o0 ∧ o0 < 2 ∧ o1 < 0) ∨ (0 ≤ o0 ∧ o0 < 2 ∧ 0 ≤ o1 ∧ 5 ≤ o1) := by omega
    go_upto_region 6 with (fail)
    refine wp_region_grown (by kernel_rfl) (by kernel_rfl) ?_; (repeat (go_big_quiet_step (fail))); refine wpQuiet_nil ?_; rintro _ ⟨dq, rfl⟩
    have HX5 := Lib.hid (HX4.out.trans (xe_ext _ dq)); have HF5 := Lib.hid (HF4.out.x (xe_ext _ dq)); have HE5 := Lib.hid (HE4.out.x (xe_ext _ dq))
    have d2 := (xe_ext _ dq).cell b2'; have d3 := (xe_ext _ dq).cell b3'
    clear HF4 HE4 HX4 b0' b1' b2' b3'
    generalize ext w4 dq = w6 at *
    have HL3 := Lib.hid (fun d => HF5.out.ext0 d); have HL4 := Lib.hid (fun d => HE5.out.ext0 d)
    have HFI := Lib.hid (fun w => fines_any o2 o3 w hl hc)
    have HRF := Lib.hid (fun w => refFines_any o2 o3 w hl hc)
    have HFG := Lib.hid (fun w => frGuess_out (gF intra e) e o0 o1 w hin)
    clear hin
    rcases hcase with h | ⟨h, h'⟩ | ⟨h, h', h''⟩ | ⟨h, h', h'', h'''⟩
    all_goals
      go_upto_region 9 with (fail)
      refine wp_region_grown (by kernel_rfl) (by kernel_rfl) ?_; (repeat (first | go_big_quiet_skip | (go_big_quiet_want; first | (first | ((with_reducible refine quiet_load_part 71 (.tmp 8) ?_ (fb) (0) 94 ?_ (gF intra e) _ ?_ Tryd.underlying71 ?_ info_frame ?_); (· rfl); (· rfl); (· (rintro _ ⟨d, rfl⟩; exact (HL3.out d))); (· rfl); go_frame; go_big_quiet_on) | ((with_reducible refine quiet_load_part 55 (.tmp 7) ?_ (eb) (0) 10 ?_ (fun j => .int .i64 (e j)) _ ?_ Tryd.underlying55 ?_ info_ten ?_); (· rfl); (· rfl); (· (rintro _ ⟨d, rfl⟩; exact (HL4.out d))); (· rfl); go_frame; go_big_quiet_on)) | (go_big_quiet_op; first | go_big_quiet_on | go_big_quiet_call (first | (go_at_call 41; exact quietE (HFG.out _)) | (go_at_call 42; exact quietS (HFI.out _)) | (go_at_call 43; exact quietS (HRF.out _))))))); refine wpQuiet_nil ?_; rintro _ ⟨dq, rfl⟩
      go_wp2
      go_ret
      exact ⟨rfl, HX5.out.trans (xe_ext _ _)⟩
end Go.Proofs.YtkcambhojpafkaaDoor
