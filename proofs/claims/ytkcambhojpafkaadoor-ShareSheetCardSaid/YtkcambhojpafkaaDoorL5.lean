/- ShareSheet, the walk of the law. -/
import Derived.Test.YtkcambhojpafkaaDoorS14
namespace Go.Proofs.YtkcambhojpafkaaDoor
open Go Go.RowKit

theorem XB.sheet {b m h : Nat} {w w' : World} (hx : XB m w w') (hb : BookAt w b m) (hs : SheetAt w h) : SheetAt w' h := hx.cells hb hs
set_option maxRecDepth 100000 in
theorem shareSheet_any (n k : Int) (w : World) (hw : Wid w) : Calls Tryd.prog 5 #[.int .i64 n, .int .i64 k] w (RetE (.bool true) w) := by
  have HW := Lib.hid hw; clear hw
  go_enter Tryd.func5, Tryd.ntmps5
  go_wp2_with (first
    | (go_at_call 12; (with_reducible refine (shareAwake_any _ HW.out).mono ?_); rintro e w1 ⟨rfl, hx1⟩)
    | (go_at_call 13; (with_reducible refine (fresh_any _).mono ?_); rintro e w2 ⟨b, rfl, hb2, ⟨h, hsh⟩, hx2⟩)
    | (go_at_call 21; (with_reducible refine (countNew_any _).mono ?_); rintro e w3 ⟨q, rfl, hb3, ⟨m, hm, hbk⟩, hx3⟩; have hsh3 := hsh.x hx3; have hp := hsh3.ptr; have hsheet := hsh3.sheet; have HX3 := Lib.hid (hx1.trans (hx2.trans hx3)); have hz1 := hx1.size; have hz2 := hx2.size)
    | (go_at_call 22; (with_reducible refine (sheetBits_any _ _ _ _ hsheet).mono ?_); rintro e w' ⟨rfl, hw'⟩; obtain rfl := hw'.symm)
    | (go_at_call 23; (with_reducible refine (costBits_any _ _ _ _ _ hbk).mono ?_); rintro e w4 ⟨rfl, hx4⟩; have hbk4 := hx4.book hbk; have hp4 := hx4.cell hbk hp; have hsheet4 := hx4.sheet hbk hsheet)
    | (go_at_call 24; (with_reducible refine (sheetCap_any _ _ _ hsheet4).mono ?_); rintro e w' ⟨rfl, hw'⟩; obtain rfl := hw'.symm)
    | (go_at_call 25; (with_reducible refine (costCap_any _ _ _ _ hbk4).mono ?_); rintro e w5 ⟨rfl, hx5⟩))
  go_ret
  exact ⟨rfl, (hx4.trans hx5).own HX3.out (by omega)⟩
end Go.Proofs.YtkcambhojpafkaaDoor
