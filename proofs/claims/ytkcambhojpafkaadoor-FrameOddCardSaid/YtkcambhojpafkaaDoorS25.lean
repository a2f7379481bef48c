/- Layers 7, 9 and 16 at the example of layer 16: the head of a silent frame is read. -/
import Derived.Test.YtkcambhojpafkaaDoorS24
set_option linter.unusedSimpArgs false
set_option linter.unusedVariables false
namespace Go.Proofs.YtkcambhojpafkaaDoor
open Go Go.RowKit

theorem readerRight_any (t : Int) (w : World) : Calls Tryd.prog 161 #[.int .i64 t] w (RetS (.bool (decide (1 ≤ t) && decide (t ≤ 4096))) w) := by
  by_cases h : 1 ≤ t
  · go_enter Tryd.func161, Tryd.ntmps161
    go_wp2
    go_ret
    exact ⟨rb (by simp [h]), rfl⟩
  · go_enter Tryd.func161, Tryd.ntmps161
    go_wp2
    go_ret
    exact ⟨rb (by first | rfl | (simp; omega)), rfl⟩

/-- The reader of the example, behind the first bytes. -/
def exR (v : Value) (rng val : Int) : RS := ⟨v, 3, 0, rng, val⟩
set_option maxRecDepth 100000 in
set_option maxHeartbeats 400000 in
theorem get32_any (r : Nat) (v : Value) (bs : Nat → Int) (w : World) (h : ReadAt w r (exR v 16777216 524288) 4 bs) :
    Calls Tryd.prog 157 #[.pointer (some ⟨r, 0, none⟩), .int .i64 32] w (RetE (.int .i64 1) w) := by
  obtain ⟨c0, c1, c2, c3, c4⟩ := h.five
  have c3' : w.cell? ⟨r, 3, none⟩ = some (.int .u32 16777216) := c3
  have c4' : w.cell? ⟨r, 4, none⟩ = some (.int .u32 524288) := c4
  clear h c0 c1 c2 c3 c4
  go_enter Tryd.func157, Tryd.ntmps157
  go_wp2_with (go_at_call 161; (with_reducible refine (readerRight_any _ _).mono ?_); rintro e w' ⟨rfl, hw'⟩; obtain rfl := hw'.symm)
  refine wp_region_grown (by kernel_rfl) (by kernel_rfl) ?_; (repeat (go_big_quiet_step (fail))); refine wpQuiet_nil ?_; rintro _ ⟨dq, rfl⟩
  go_wp2
  go_ret
  exact ⟨ri (by decide), xe_ext _ _⟩

theorem rs_cases {P : Nat → Prop} (h0 : P 0) (h1 : P 1) (h2 : P 2) (h3 : P 3) (h4 : P 4) (i : Nat) (hi : i < 5) : P i := by
  have : i = 0 ∨ i = 1 ∨ i = 2 ∨ i = 3 ∨ i = 4 := by omega
  rcases this with rfl | rfl | rfl | rfl | rfl <;> assumption
/-- What a call comes to that may turn the reader's cells alone. -/
def RetRS (r : Nat) (s : RS) (n : Nat) (bs : Nat → Int) (v : Value) (w : World) (e : Ending) (w' : World) : Prop := e = .returned v ∧ ReadAt w' r s n bs ∧ XO r w w'
set_option maxRecDepth 100000 in
set_option maxHeartbeats 1000000 in
theorem take32_any (r : Nat) (v : Value) (bs : Nat → Int) (w : World) (h : ReadAt w r (exR v 16777216 524288) 4 bs) :
    Calls Tryd.prog 160 #[.pointer (some ⟨r, 0, none⟩), .int .i64 1, .int .i64 2, .int .i64 32] w (RetRS r (exR v 524288 0) 4 bs (.tuple #[]) w) := by
  have HR := Lib.hid h
  obtain ⟨c0, c1, c2, c3, c4⟩ := h.five
  have c3' : w.cell? ⟨r, 3, none⟩ = some (.int .u32 16777216) := c3
  have c4' : w.cell? ⟨r, 4, none⟩ = some (.int .u32 524288) := c4
  have f3 := h.cells.free 3 (by omega); have f4 := h.cells.free 4 (by omega)
  clear h c0 c1 c2 c3 c4
  go_enter Tryd.func160, Tryd.ntmps160
  go_upto_region 6 with (go_at_call 161; (with_reducible refine (readerRight_any _ _).mono ?_); rintro e w' ⟨rfl, hw'⟩; obtain rfl := hw'.symm)
  have hr1 := HR.out.put (s' := exR v 524288 524288) 3 (by omega) (.int .u32 524288) rfl (rs_cases rfl rfl rfl rfl rfl)
  have hx1 := (XO.refl r w).set 3 (.int .u32 524288)
  have HR1 := Lib.hid hr1; have HX1 := Lib.hid hx1
  clear hr1 hx1 c3' c4' f3 f4
  generalize w.setCell ⟨r, 3, none⟩ (.int .u32 524288) = w1 at *
  obtain ⟨-, -, -, c3, c4⟩ := HR1.out.five
  have c3' : w1.cell? ⟨r, 3, none⟩ = some (.int .u32 524288) := c3
  have c4' : w1.cell? ⟨r, 4, none⟩ = some (.int .u32 524288) := c4
  have f4 := HR1.out.cells.free 4 (by omega)
  clear c3 c4
  refine wp_region_grown_tail 13 (by kernel_rfl) (by kernel_rfl) ?_; simp only [List.take_succ_cons, List.take_zero, List.drop_succ_cons, List.drop_zero]; (repeat (go_big_quiet_step (fail))); refine wpQuiet_nil ?_; rintro _ ⟨dq, rfl⟩
  go_upto_region 7 with (fail)
  have hr2 := (HR1.out.x (xe_ext w1 dq)).put (s' := exR v 524288 0) 4 (by omega) (.int .u32 0) rfl (rs_cases rfl rfl rfl rfl rfl)
  have hx2 := (HX1.out.x (xe_ext w1 dq)).set 4 (.int .u32 0)
  have HR2 := Lib.hid hr2; have HX2 := Lib.hid hx2
  clear hr2 hx2 c3' c4' f4
  generalize (ext w1 dq).setCell ⟨r, 4, none⟩ (.int .u32 0) = w2 at *
  obtain ⟨-, -, -, c3, c4⟩ := HR2.out.five
  have c3' : w2.cell? ⟨r, 3, none⟩ = some (.int .u32 524288) := c3
  have c4' : w2.cell? ⟨r, 4, none⟩ = some (.int .u32 0) := c4
  have f4 := HR2.out.cells.free 4 (by omega)
  clear c3 c4
  refine wp_region_grown_tail 13 (by kernel_rfl) (by kernel_rfl) ?_; simp only [List.take_succ_cons, List.take_zero, List.drop_succ_cons, List.drop_zero]; (repeat (go_big_quiet_step (fail))); refine wpQuiet_nil ?_; rintro _ ⟨dq, rfl⟩
  go_wp2
  have hr3 := (HR2.out.x (xe_ext w2 dq)).put (s' := exR v 524288 0) 4 (by omega) (.int .u32 (min 0 524287)) rfl (rs_cases rfl rfl rfl rfl rfl)
  have hx3 := (HX2.out.x (xe_ext w2 dq)).set 4 (.int .u32 (min 0 524287))
  have HR3 := Lib.hid hr3; have HX3 := Lib.hid hx3
  clear hr3 hx3 c3' c4' f4
  generalize (ext w2 dq).setCell ⟨r, 4, none⟩ (.int .u32 (min 0 524287)) = w3 at *
  obtain ⟨-, -, -, c3, c4⟩ := HR3.out.five
  have c3' : w3.cell? ⟨r, 3, none⟩ = some (.int .u32 524288) := c3
  clear c3 c4
  refine wp_loop_rounds 1 ?_
  rw [rounds_succ]
  go_wp2
  refine bodyPost_end (results_none rfl _ _ _) rfl ⟨rfl, HR3.out, HX3.out⟩
theorem raw0_any (r : Nat) (w : World) : Calls Tryd.prog 158 #[.pointer (some ⟨r, 0, none⟩), .int .i64 0] w (RetE (.int .u32 0) w) := by
  go_enter Tryd.func158, Tryd.ntmps158
  go_wp2
  refine wp_loop_rounds 1 ?_
  rw [rounds_succ]
  go_wp2
  go_ret
  exact ⟨rfl, (by repeat (first | exact XE.refl _ | apply XE.ext | apply XE.alloc | apply XE.drew | apply XE.drewN))⟩
theorem parts32_any (w : World) : Calls Tryd.prog 128 #[.int .i64 32] w (RetS (.tuple #[.int .i64 32, .int .i64 0]) w) := by
  go_enter Tryd.func128, Tryd.ntmps128
  go_wp2
  refine bodyPost_ret (results_tmp2 rfl _ _ _) rfl ⟨rfl, rfl⟩
theorem method_get (a : Addr) (w : World) : (method 342 97 (.pointer (some a)) "Get").run Tryd.prog w = .ok (157, .pointer (some a)) w := by kernel_rfl
theorem method_take (a : Addr) (w : World) : (method 342 97 (.pointer (some a)) "Take").run Tryd.prog w = .ok (160, .pointer (some a)) w := by kernel_rfl
theorem method_raw (a : Addr) (w : World) : (method 342 97 (.pointer (some a)) "Raw").run Tryd.prog w = .ok (158, .pointer (some a)) w := by kernel_rfl
theorem method_rng (a : Addr) (w : World) : (method 342 97 (.pointer (some a)) "Rng").run Tryd.prog w = .ok (159, .pointer (some a)) w := by kernel_rfl
theorem method_left (a : Addr) (w : World) : (method 342 97 (.pointer (some a)) "Left").run Tryd.prog w = .ok (45, .pointer (some a)) w := by kernel_rfl
set_option maxRecDepth 100000 in
set_option maxHeartbeats 1000000 in
theorem one32_any (r : Nat) (v : Value) (bs : Nat → Int) (w : World) (h : ReadAt w r (exR v 16777216 524288) 4 bs) :
    Calls Tryd.prog 129 #[.pointer (some ⟨r, 0, none⟩), .int .i64 32] w (RetRS r (exR v 524288 0) 4 bs (.int .i64 1) w) := by
  have HR := Lib.hid h; clear h
  have m1 := method_get ⟨r, 0, none⟩
  have m2 := method_take ⟨r, 0, none⟩
  go_enter Tryd.func129, Tryd.ntmps129
  go_wp2_with (first
    | (go_at_call 157; (with_reducible refine (get32_any _ _ _ _ HR.out).mono ?_); rintro e w1 ⟨rfl, hx1⟩)
    | (go_at_call 160; (with_reducible refine (take32_any _ _ _ _ (HR.out.x hx1)).mono ?_); rintro e w2 ⟨rfl, hr2, hx2⟩))
  go_ret
  exact ⟨rfl, hr2, (XO.of_x r hx1).trans hx2⟩
set_option maxRecDepth 100000 in
set_option maxHeartbeats 1000000 in
theorem uint32_any (r : Nat) (v : Value) (bs : Nat → Int) (w : World) (h : ReadAt w r (exR v 16777216 524288) 4 bs) :
    Calls Tryd.prog 106 #[.pointer (some ⟨r, 0, none⟩), .int .i64 32] w (RetRS r (exR v 524288 0) 4 bs (.tuple #[.int .i64 1, .bool true]) w) := by
  have HR := Lib.hid h; clear h
  have m1 := method_raw ⟨r, 0, none⟩
  have q1 : IntKind.i64.wrap 1 = 1 := by decide
  have q0 : IntKind.i64.wrap 0 = 0 := by decide
  have qb : bits .or .i64 1 0 = 1 := by decide
  go_enter Tryd.func106, Tryd.ntmps106
  go_upto_region 4 with (go_at_call 128; (with_reducible refine (parts32_any _).mono ?_); rintro e w' ⟨rfl, hw'⟩; obtain rfl := hw'.symm)
  go_region_with (first
    | (go_at_call 129; (with_reducible refine (one32_any r v bs _ (HR.out.x ((XE.refl w).drew))).mono ?_); rintro e w2 ⟨rfl, hr2, hx2⟩)
    | (go_at_call 158; (with_reducible refine (raw0_any r _).mono ?_); rintro e w3 ⟨rfl, hx3⟩))
  go_wp2
  refine bodyPost_ret (results_tmp2 rfl _ _ _) rfl ⟨rfl, hr2.x hx3, ((XO.of_x r (XE.refl w).drew).trans hx2).x hx3⟩
end Go.Proofs.YtkcambhojpafkaaDoor
