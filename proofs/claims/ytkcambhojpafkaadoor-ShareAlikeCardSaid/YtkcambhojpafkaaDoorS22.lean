/- The walk of layer 14's Total over a book. -/
import Derived.Test.YtkcambhojpafkaaDoorS21
set_option linter.unusedSimpArgs false
set_option linter.unusedVariables false
namespace Go.Proofs.YtkcambhojpafkaaDoor
open Go Go.RowKit

theorem sumTo_min {f : Nat → Int} {n nb : Nat} (h : n < nb) : sumTo f (min (n + 1) nb) = sumTo f (min n nb) + f n := by
  rw [show min (n + 1) nb = n + 1 by omega, show min n nb = n by omega]; rfl
theorem sumTo_min' {f : Nat → Int} {n nb : Nat} (h : nb ≤ n) : sumTo f (min (n + 1) nb) = sumTo f (min n nb) := by
  rw [show min (n + 1) nb = nb by omega, show min n nb = nb by omega]

set_option maxRecDepth 100000 in
set_option maxHeartbeats 1000000 in
theorem total_any (b m : Nat) (s c : Int) (k : Nat → Int) (w : World) (hb : BookAt w b m) (hw : Wid w) (hr : mRight s c = true) (hk : ∀ j : Nat, (j : Int) < mBands s c → 0 ≤ k j ∧ k j ≤ capZ (mWidth s c j)) (hz : ∀ j : Nat, mBands s c ≤ j → j < 5 → k j = 0) :
    Calls Tryd.prog 62 #[.pointer (some ⟨b, 0, none⟩), .agg #[.int .i64 s, .int .i64 c], .agg (row5 k)] w (RetB m (.int .i64 (totF s c k)) w) := by
  have hri := mRight_iff.1 hr
  obtain ⟨-, -, c1, c2⟩ := hri
  have hbd := mBands_bd s c
  have htb := totF_bd c1 c2 (s := s) k
  have htf : totF s c k = sumTo (fun j => bitZ (mWidth s c j) (k j)) (mBands s c).toNat * c := rfl
  obtain ⟨m0, m1⟩ := two_cells w (.int .i64 s) (.int .i64 c) 30
  have hkc := cells_row5 (w.alloc (.cells #[.int .i64 s, .int .i64 c] 30)) k
  have hx0 : XE w ((w.alloc (.cells #[.int .i64 s, .int .i64 c] 30)).alloc (.cells (row5 k) 25)) := (by repeat (first | exact XE.refl _ | apply XE.ext | apply XE.alloc | apply XE.drew | apply XE.drewN))
  have hm0 := ((XE.refl _).alloc (.cells (row5 k) 25)).cell m0; have hm1 := ((XE.refl _).alloc (.cells (row5 k) 25)).cell m1
  rw [World.size_alloc] at hkc
  have HB := Lib.hid hb; have HW := Lib.hid hw; have HK := Lib.hid hk; have HX0 := Lib.hid hx0; have HZ := Lib.hid hz; have HR := Lib.hid hr
  have HM0 := Lib.hid hm0; have HM1 := Lib.hid hm1
  have HKC := Lib.hid hkc
  have HB1 := Lib.hid (hb.x hx0); have HW1 := Lib.hid (hw.x hx0)
  obtain ⟨nb, hnb⟩ := Int.eq_ofNat_of_zero_le hbd.1
  have hcb : ∀ w, Calls Tryd.prog 34 #[.agg #[.int .i64 s, .int .i64 c]] w (RetE (.int .i64 (nb : Int)) w) := fun w => by
    have := modeBands_any s c w; rwa [hnb] at this
  rw [hnb] at htf hbd
  simp only [Int.toNat_natCast] at htf
  rw [htf] at htb
  have HCB := Lib.hid hcb; have HNB := Lib.hid hnb; have HTF := Lib.hid htf
  clear hb hw hk hx0 m0 m1 hkc hz hm0 hm1 hr hcb hnb htf
  go_enter Tryd.func62, Tryd.ntmps62
  go_upto_region 2 with (fail)
  generalize (w.alloc (.cells #[.int .i64 s, .int .i64 c] 30)).alloc (.cells (row5 k) 25) = w1 at *
  have hcl : ∀ j, j < 5 → w1.cell? ⟨w.heap.size + 1, 0 + j, none⟩ = some (.int .i64 (k j)) := fun j hj => by rw [Nat.zero_add]; exact HKC.out.cell j hj
  have HCL := Lib.hid hcl; clear hcl
  go_wp2_with ((with_reducible refine wpList_load_part 25 (.tmp 5) ?_ ?_ (w.heap.size + 1) (0) 5 ?_ (fun j => .int .i64 (k j)) _ (HCL.out) Tryd.underlying25 ?_ info_five ?_); (· rfl); (· rfl); (· rfl); (· rfl))
  go_loopw [7, 12] (fun sm i wr => ∃ n : Nat, n ≤ 5 ∧ i = .int .i64 n ∧ sm = .int .i64 (sumTo (fun j => bitZ (mWidth s c j) (k j)) (min n nb)) ∧ XB m w1 wr) (fun _ i _ => 5 - (intOf i).toNat)
  case atStart => exact ⟨0, by omega, rfl, by rw [Nat.zero_min]; rfl, HB1.out.self⟩
  case round =>
    obtain ⟨n, hn, rfl, rfl, hx⟩ := hrel
    have hsb := sumBits_bd s c k (min n nb) (by omega)
    have h0 := hx.cell HB1.out HM0.out; have h1 := hx.cell HB1.out HM1.out
    have HX := Lib.hid hx; clear hx
    by_cases hlt : n < 5
    · have r1 := fun w => run_index_row (P := Tryd.prog) (k := .i64) Tryd.underlying25 Tryd.underlying3 rfl (by kernel_rfl) hlt (mkRow_get (fun j => Value.int .i64 (k j)) hlt) w
      by_cases hnn : n < nb
      · obtain ⟨k0, k1⟩ := HK.out n (by rw [HNB.out]; omega)
        have hsn := sumTo_min (f := fun j => bitZ (mWidth s c j) (k j)) hnn
        have hsb2 := sumBits_bd s c k (min (n + 1) nb) (by omega)
        rw [hsn] at hsb2
        have hb0 : 0 ≤ bitZ (mWidth s c n) (k n) := by unfold bitZ; rw [if_neg (by omega)]; omega
        have HSN := Lib.hid hsn; clear hsn
        have HBR := Lib.hid (HX.out.book HB1.out); have HWR := Lib.hid (HX.out.wid HB1.out HW1.out)
        go_wp2_with (first
          | (go_at_call 34; (with_reducible refine (HCB.out _).mono ?_); rintro e w2 ⟨rfl, hx2⟩; have h02 := hx2.cell h0; have h12 := hx2.cell h1)
          | (go_at_call 81; (with_reducible refine (modeWidth_any _ _ _ _ (HWR.out.x hx2)).mono ?_); rintro e w3 ⟨rfl, hx3⟩)
          | (go_at_call 23; (with_reducible refine (costBits_any b m _ _ _ ((HBR.out.x hx2).x hx3)).mono ?_); rintro e w4 ⟨rfl, hx4⟩))
        go_roundw
        case rel => exact ⟨n + 1, by omega, by go_num, congrArg (Value.int .i64) HSN.out.symm, ((HX.out.x hx2).x hx3).trans hx4⟩
        case measure => simp [intOf]; omega
      · have hkz := HZ.out n (by rw [HNB.out]; omega) hlt
        have hsn := sumTo_min' (f := fun j => bitZ (mWidth s c j) (k j)) (show nb ≤ n by omega)
        have q1 : (k n == 0) = true := by simpa using hkz
        have HSN := Lib.hid hsn; have HKZ := Lib.hid hkz
        clear hsn hkz
        go_wp2_with (go_at_call 34; (with_reducible refine (HCB.out _).mono ?_); rintro e w2 ⟨rfl, hx2⟩)
        go_roundw
        case rel => exact ⟨n + 1, by omega, by go_num, congrArg (Value.int .i64) HSN.out.symm, HX.out.x hx2⟩
        case measure => simp [intOf]; omega
    · obtain rfl : n = 5 := by omega
      have hmin : min 5 nb = nb := by omega
      rw [hmin] at hsb ⊢
      have HT := Lib.hid hmin
      clear hmin
      go_wp2_with (go_at_call 63; (with_reducible refine (modeRight_any _ _ _).mono ?_); rintro e w2 ⟨rfl, hx2⟩; rw [HR.out]; have h12 := hx2.cell h1)
      go_ret
      exact ⟨ri (by rw [HTF.out]), (XB.ofX HB.out HX0.out).trans (HX.out.x hx2)⟩
end Go.Proofs.YtkcambhojpafkaaDoor
