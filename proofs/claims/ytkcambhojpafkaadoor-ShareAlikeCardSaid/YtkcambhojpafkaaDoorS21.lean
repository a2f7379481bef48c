/- The walks of layer 14 over a book: the best band, what pulses cost, and what a budget is shared out as. -/
import Derived.Test.YtkcambhojpafkaaDoorS20
import Derived.Test.YtkcambhojpafkaaDoorM8
import Derived.Test.YtkcambhojpafkaaDoorS15
set_option linter.unusedSimpArgs false
set_option linter.unusedVariables false
namespace Go.Proofs.YtkcambhojpafkaaDoor
open Go Go.RowKit

/-- What a call comes to that answers the best band. -/
def RetBest (s c t : Int) (k : Nat → Int) (m : Nat) (w : World) (e : Ending) (w' : World) : Prop := ∃ r l, BestTo s c t k (mBands s c).toNat r l ∧ e = .returned (.int .i64 r) ∧ XB m w w'
theorem two_cells (w : World) (u v : Value) (t : TypeId) : (w.alloc (.cells #[u, v] t)).cell? ⟨w.heap.size, 0, none⟩ = some u ∧ (w.alloc (.cells #[u, v] t)).cell? ⟨w.heap.size, 1, none⟩ = some v := by
  have h := Cells.new w #[u, v] t
  exact ⟨h.cell 0 (by simp), h.cell 1 (by simp)⟩
theorem BookAt.x {w w' : World} {b m : Nat} (h : BookAt w b m) (hx : XE w w') : BookAt w' b m := (h.self.x hx).book h
theorem XB.ofX {w w' : World} {b m : Nat} (hb : BookAt w b m) (hx : XE w w') : XB m w w' := hb.self.x hx

set_option maxRecDepth 100000 in
set_option maxHeartbeats 1000000 in
theorem best_any (b m : Nat) (s c t : Int) (k : Nat → Int) (w : World) (hb : BookAt w b m) (hw : Wid w) (hk : ∀ j : Nat, (j : Int) < mBands s c → 0 ≤ k j ∧ k j ≤ capZ (mWidth s c j)) :
    Calls Tryd.prog 61 #[.pointer (some ⟨b, 0, none⟩), .agg #[.int .i64 s, .int .i64 c], .int .i64 t, .agg (row5 k)] w (RetBest s c t k m w) := by
  have hbd := mBands_bd s c
  obtain ⟨m0, m1⟩ := two_cells w (.int .i64 s) (.int .i64 c) 30
  have hkc := cells_row5 (w.alloc (.cells #[.int .i64 s, .int .i64 c] 30)) k
  have hx0 : XE w ((w.alloc (.cells #[.int .i64 s, .int .i64 c] 30)).alloc (.cells (row5 k) 25)) := (by repeat (first | exact XE.refl _ | apply XE.ext | apply XE.alloc | apply XE.drew | apply XE.drewN))
  have HB := Lib.hid hb; have HW := Lib.hid hw; have HK := Lib.hid hk; have HX0 := Lib.hid hx0
  have HM0 := Lib.hid (((XE.refl _).alloc (.cells (row5 k) 25)).cell m0); have HM1 := Lib.hid (((XE.refl _).alloc (.cells (row5 k) 25)).cell m1)
  rw [World.size_alloc] at hkc
  have HKC := Lib.hid hkc
  clear hb hw hk hx0 m0 m1 hkc
  go_enter Tryd.func61, Tryd.ntmps61
  have h0 := HM0.out; have h1 := HM1.out
  go_wp2_with (go_at_call 34; (with_reducible refine (modeBands_any _ _ _).mono ?_); rintro e w2 ⟨rfl, hx2⟩)
  clear h0 h1
  have hxx := HX0.out.trans hx2
  have hb2 := HB.out.x hxx
  have h0 := hx2.cell HM0.out; have h1 := hx2.cell HM1.out
  have HB2 := Lib.hid hb2; have HW2 := Lib.hid (HW.out.x hxx); have HX2 := Lib.hid hxx; have HKC2 := Lib.hid (HKC.out.x hx2); have H0 := Lib.hid h0; have H1 := Lib.hid h1
  clear HX0 HM0 HM1 HKC hxx hb2 h0 h1 hx2
  obtain ⟨nb, hnb⟩ := Int.eq_ofNat_of_zero_le hbd.1
  have HNB := Lib.hid hnb
  rw [hnb] at hbd ⊢
  clear hnb
  go_loopw [9, 10, 15] (fun o l i wr => ∃ (n : Nat) (out least : Int), n ≤ nb ∧ i = .int .i64 n ∧ o = .int .i64 out ∧ l = .int .i64 least ∧ BestTo s c t k n out least ∧ XB m w2 wr) (fun _ _ i _ => 5 - (intOf i).toNat)
  case atStart => exact ⟨0, -1, 0, by omega, rfl, rfl, rfl, BestTo.zero, HB2.out.self⟩
  case round =>
    obtain ⟨n, out, least, hn, rfl, rfl, rfl, hbest, hx⟩ := hrel
    have HBE := Lib.hid hbest; have HX := Lib.hid hx; clear hbest hx
    by_cases hlt : n < nb
    · have hbr := HX.out.book HB2.out
      have h0 := HX.out.cell HB2.out H0.out; have h1 := HX.out.cell HB2.out H1.out
      have hkn : wr.cell? ⟨w.heap.size + 1, n, none⟩ = some (.int .i64 (k n)) := HX.out.cell HB2.out (HKC2.out.cell n (by omega))
      have hwr := HX.out.wid HB2.out HW2.out
      obtain ⟨k0, k1⟩ := HK.out n (by rw [HNB.out]; omega)
      have hcz := capZ_le (mWidth s c n)
      have HBR := Lib.hid hbr; have HWR := Lib.hid hwr
      clear hbr hwr
      by_cases hA : capZ (mWidth s c n) ≤ k n
      · have hA1 : decide (capZ (mWidth s c n) ≤ k n) = true := by simpa using hA
        go_wp2
        refine wp_region_booked HBR.out (by kernel_rfl) (by kernel_rfl) ?_
        intro hne
        (repeat (go_big_quiet_step (first
          | (go_at_call 81; exact quietBkE (modeWidth_any _ _ _ _ (Bk.wid _ HWR.out)))
          | (go_at_call 51; exact quietBkE (slope_any _ _ _ _ _ (Bk.wid _ HWR.out)))
          | (go_at_call 25; exact quietBk (costCap_any b m _ _ (Bk.at _))))))
        refine wpQuiet_nil ?_
        rintro w5 ⟨⟨_, hb5, hx5⟩, rfl⟩
        try dsimp only
        go_wp2
        go_roundw
        case rel => exact ⟨n + 1, out, least, by omega, by go_num, rfl, rfl, HBE.out.full hA, HX.out.trans hx5⟩
        case measure => simp [intOf]; omega
      · have hA1 : decide (capZ (mWidth s c n) ≤ k n) = false := by simp; omega
        have hlb := lvl_bd (t := t) (k := k) (b := n) (by rw [HNB.out]; omega) k0 (by omega)
        unfold lvl at hlb
        have hcase : (decide (out < 0) = true ∧ BestTo s c t k (n + 1) n ((k n + 1) * slope s c t n)) ∨ (decide (out < 0) = false ∧ decide ((k n + 1) * slope s c t n < least) = true ∧ BestTo s c t k (n + 1) n ((k n + 1) * slope s c t n)) ∨
            (decide (out < 0) = false ∧ decide ((k n + 1) * slope s c t n < least) = false ∧ BestTo s c t k (n + 1) out least) := by
          rcases Int.lt_or_le out 0 with h | h
          · exact Or.inl ⟨by simpa using h, HBE.out.takes (by omega) (Or.inl h)⟩
          · rcases Int.lt_or_le ((k n + 1) * slope s c t n) least with h' | h'
            · exact Or.inr (Or.inl ⟨by simpa using h, by simpa using h', HBE.out.takes (by omega) (Or.inr h')⟩)
            · exact Or.inr (Or.inr ⟨by simpa using h, by simpa using h', HBE.out.stays h h'⟩)
        rcases hcase with ⟨q1, hbn⟩ | ⟨q1, q2, hbn⟩ | ⟨q1, q2, hbn⟩
        all_goals
          have HBN := Lib.hid hbn
          clear hbn
          go_wp2
          refine wp_region_booked HBR.out (by kernel_rfl) (by kernel_rfl) ?_
          intro hne
          (repeat (go_big_quiet_step (first
            | (go_at_call 81; exact quietBkE (modeWidth_any _ _ _ _ (Bk.wid _ HWR.out)))
            | (go_at_call 51; exact quietBkE (slope_any _ _ _ _ _ (Bk.wid _ HWR.out)))
            | (go_at_call 25; exact quietBk (costCap_any b m _ _ (Bk.at _))))))
          refine wpQuiet_nil ?_
          rintro w5 ⟨⟨_, hb5, hx5⟩, rfl⟩
          try dsimp only
          have h05 := hx5.cell HBR.out h0; have h15 := hx5.cell HBR.out h1; have hkn5 : w5.cell? ⟨w.heap.size + 1, n, none⟩ = some (.int .i64 (k n)) := hx5.cell HBR.out hkn
          have HBR5 := Lib.hid (hx5.book HBR.out); have HWR5 := Lib.hid (hx5.wid HBR.out HWR.out); have HX5 := Lib.hid (HX.out.trans hx5)
          clear hx5 hb5 hne
          go_wp2
          refine wp_region_booked HBR5.out (by kernel_rfl) (by kernel_rfl) ?_
          intro hne
          (repeat (go_big_quiet_step (first
            | (go_at_call 81; exact quietBkE (modeWidth_any _ _ _ _ (Bk.wid _ HWR5.out)))
            | (go_at_call 51; exact quietBkE (slope_any _ _ _ _ _ (Bk.wid _ HWR5.out)))
            | (go_at_call 25; exact quietBk (costCap_any b m _ _ (Bk.at _))))))
          refine wpQuiet_nil ?_
          rintro w6 ⟨⟨_, hb6, hx6⟩, rfl⟩
          try dsimp only
          have HX6 := Lib.hid (HX5.out.trans hx6)
          clear hx6 hb6 hne
          go_wp2
          go_roundw
          case rel => exact ⟨n + 1, _, _, by omega, by go_num, rfl, rfl, HBN.out, HX6.out⟩
          case measure => simp [intOf]; omega
    · obtain rfl : n = nb := by omega
      go_wp2
      go_ret
      exact ⟨out, least, by rw [HNB.out]; exact HBE.out, rfl, (XB.ofX HB.out HX2.out).trans HX.out⟩
end Go.Proofs.YtkcambhojpafkaaDoor
