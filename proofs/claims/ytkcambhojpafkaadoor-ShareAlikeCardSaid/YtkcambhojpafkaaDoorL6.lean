/- ShareAlike, the walk of the law. -/
import Derived.Test.YtkcambhojpafkaaDoorS14
import Derived.Test.YtkcambhojpafkaaDoorS23
set_option linter.unusedSimpArgs false
set_option linter.unusedVariables false
namespace Go.Proofs.YtkcambhojpafkaaDoor
open Go Go.RowKit

theorem Bk.share {w : World} {b m sb hh : Nat} (d : Bk w b m) (h : ShareAt w sb hh) : ShareAt d.world sb hh := ⟨d.xb.cell d.book h.ptr, d.xb.cells d.book h.sheet⟩
/-- The asks of a list. -/
structure AsksAt (w : World) (a : Option Addr) (b o len : Nat) (xs : Nat → Nat → Int) : Prop where
  addr : 0 < len → a = some ⟨b, o, none⟩
  rows : ∀ i, i < len → ∀ j, j < 4 → w.cell? ⟨b, o + i * 4 + j, none⟩ = some (.int .i64 (xs i j))

set_option maxRecDepth 100000 in
set_option maxHeartbeats 2000000 in
theorem shareAlike_any (a : Option Addr) (b o len cp : Nat) (xs : Nat → Nat → Int) (w : World) (hw : Wid w) (hl : AsksAt w a b o len xs) :
    Calls Tryd.prog 6 #[.slice a len cp] w (RetE (.bool true) w) := by
  have HW := Lib.hid hw; have HL := Lib.hid hl
  clear hw hl
  by_cases hbig : 60 < len
  · go_enter Tryd.func6, Tryd.ntmps6
    go_wp2_with (go_at_call 12; (with_reducible refine (shareAwake_any _ HW.out).mono ?_); rintro e w1 ⟨rfl, hx1⟩)
    go_ret
    exact ⟨rfl, hx1⟩
  · go_enter Tryd.func6, Tryd.ntmps6
    go_wp2_with (first
      | (go_at_call 12; (with_reducible refine (shareAwake_any _ HW.out).mono ?_); rintro e w1 ⟨rfl, hx1⟩)
      | (go_at_call 13; (with_reducible refine (fresh_any _).mono ?_); rintro e w2 ⟨sb, rfl, hb2, ⟨h, hsh⟩, hx2⟩)
      | (go_at_call 21; (with_reducible refine (countNew_any _).mono ?_); rintro e w3 ⟨q, rfl, hb3, ⟨m, hm, hbk⟩, hx3⟩))
    have hxx := hx1.trans (hx2.trans hx3)
    have hz1 := hx1.size; have hz2 := hx2.size
    have HX := Lib.hid hxx; have HB := Lib.hid hbk; have HS := Lib.hid (hsh.x hx3); have HW3 := Lib.hid (HW.out.x hxx)
    have hm0 : w.heap.size ≤ m := by omega
    clear hx1 hx2 hx3 hxx hbk hsh hz1 hz2 hb2 hb3 hm
    go_loopw [17] (fun i wr => ∃ n : Nat, n ≤ len ∧ i = .int .i64 n ∧ XB m w3 wr) (fun i _ => len - (intOf i).toNat)
    case atStart => exact ⟨0, by omega, rfl, HB.out.self⟩
    case round =>
      obtain ⟨n, hn, rfl, hx⟩ := hrel
      have HXR := Lib.hid hx; clear hx
      by_cases hlt : n < len
      · obtain rfl := HL.out.addr (by omega)
        have hrow := HL.out.rows n hlt
        have c0 : wr.cell? ⟨b, o + n * 4, none⟩ = some (.int .i64 (xs n 0)) := HXR.out.cell HB.out (HX.out.cell (hrow 0 (by omega)))
        have c1 := HXR.out.cell HB.out (HX.out.cell (hrow 1 (by omega)))
        have c2 := HXR.out.cell HB.out (HX.out.cell (hrow 2 (by omega)))
        have c3 := HXR.out.cell HB.out (HX.out.cell (hrow 3 (by omega)))
        clear hrow
        go_upto_region 10 with (fail)
        obtain ⟨s, hs⟩ : ∃ s, s = xs n 0 := ⟨_, rfl⟩; obtain ⟨c, hc⟩ : ∃ c, c = xs n 1 := ⟨_, rfl⟩; obtain ⟨t, ht⟩ : ∃ t, t = xs n 2 := ⟨_, rfl⟩; obtain ⟨u, hu⟩ : ∃ u, u = xs n 3 := ⟨_, rfl⟩
        rw [← hs, ← hc, ← ht, ← hu]
        clear hs hc ht hu c0 c1 c2 c3
        have hxa : XE wr ((wr.alloc (.cells #[.int .i64 s, .int .i64 c, .int .i64 t, .int .i64 u] 23)).alloc (.cells #[.int .i64 s, .int .i64 c] 30)) := ((XE.refl _).alloc _).alloc _
        have hx4 := HXR.out.x hxa
        have hq : ∀ w, (Op.equalIn 10000 25 (.agg (row5 (allocK s c t u))) (.agg (row5 (allocK s c t u)))).run Tryd.prog w = .ok true w := fun w => eq_five (f := allocK s c t u) (g := allocK s c t u) (fun _ _ => rfl) w
        have HX4 := Lib.hid hx4; have HB4 := Lib.hid (hx4.book HB.out); have HS4 := Lib.hid (show ShareAt _ sb h from ⟨hx4.cell HB.out HS.out.ptr, hx4.cells HB.out HS.out.sheet⟩); have HW4 := Lib.hid (hx4.wid HB.out HW3.out)
        clear hx4 hxa
        refine wp_region_booked HB4.out (by kernel_rfl) (by kernel_rfl) ?_
        intro hne
        (repeat (go_big_quiet_step (first
          | (go_at_call 14; exact quietBkE (shareAlloc_det _ _ _ _ _ _ _ (Bk.share _ HS4.out) (Bk.wid _ HW4.out)))
          | (go_at_call 26; exact quietBk (allocAlloc_any _ _ _ _ _ _ _ (Bk.at _) (Bk.wid _ HW4.out))))))
        refine wpQuiet_nil ?_
        rintro w5 ⟨⟨_, hb5, hx5⟩, rfl⟩
        try dsimp only
        have HX5 := Lib.hid (HX4.out.trans hx5)
        clear hx5 hb5 hne
        go_wp2
        go_roundw
        case rel => exact ⟨n + 1, by omega, by go_num, HX5.out⟩
        case measure => simp [intOf]; omega
      · obtain rfl : n = len := by omega
        go_wp2
        go_ret
        exact ⟨rfl, HXR.out.own HX.out hm0⟩
end Go.Proofs.YtkcambhojpafkaaDoor
