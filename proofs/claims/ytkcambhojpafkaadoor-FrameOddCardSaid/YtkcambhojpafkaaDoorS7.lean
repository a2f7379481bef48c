/- The walk of layer 15's Alloc. -/
import Derived.Test.YtkcambhojpafkaaDoorProg
import Derived.Test.YtkcambhojpafkaaDoorS5
import Derived.Test.YtkcambhojpafkaaDoorS6
import Derived.Test.YtkcambhojpafkaaDoorB2
set_option linter.unusedSimpArgs false
set_option linter.unusedVariables false
namespace Go.Proofs.YtkcambhojpafkaaDoor
open Go Go.RowKit

theorem leaves_five : leaves Tryd.prog 10000 25 = some (List.replicate 5 (.int .i64)) := by kernel_rfl
/-- What a call comes to that answers a row of five numbers of which Q holds; all that was there is left alone. -/
def RetR (Q : (Nat → Int) → Prop) (w : World) (e : Ending) (w' : World) : Prop := ∃ k, Q k ∧ e = .returned (.agg (row5 k)) ∧ XE w w'

theorem slopes_of (s c t : Int) : Slopes s c (fun i => slope s c t i) := fun i hi => by
  have := slope_bd s c t i hi
  exact ⟨this.1, this.2.1, fun h => by have := this.2.2 h; show 1 ≤ slope s c t i; omega⟩

theorem guard_five : Tryd.prog.eqGuardType Tryd.prog.depth 25 = false := by kernel_rfl
theorem eq_five {f g : Nat → Int} (h : ∀ j, j < 5 → f j = g j) (w : World) : (Op.equalIn 10000 25 (.agg (mkRow 5 fun j => .int .i64 (f j))) (.agg (mkRow 5 fun j => .int .i64 (g j)))).run Tryd.prog w = .ok true w :=
  run_equalIn_rows (n := 5) leaves_five rfl Tryd.underlying25 rfl (fits_ints _ _ _) (fits_ints _ _ _) (eqTo_ints.2 h) w
theorem ne_five {f g : Nat → Int} {j : Nat} (hj : j < 5) (h : f j ≠ g j) (w : World) : (Op.equalIn 10000 25 (.agg (mkRow 5 fun j => .int .i64 (f j))) (.agg (mkRow 5 fun j => .int .i64 (g j)))).run Tryd.prog w = .ok false w :=
  run_equalIn_rows (n := 5) leaves_five rfl Tryd.underlying25 rfl (fits_ints _ _ _) (fits_ints _ _ _) (by
    show eqTo (fun j => Value.int .i64 (f j)) (fun j => Value.int .i64 (g j)) 5 = false
    cases he : eqTo (fun j => Value.int .i64 (f j)) (fun j => Value.int .i64 (g j)) 5 with
    | false => rfl
    | true => exact absurd (eqTo_ints.1 he j hj) h) w
/-- The cells of a job while its slopes are laid in. -/
def jc (sb : Nat) (s c : Int) (sl : Nat → Int) (n j : Nat) : Value :=
  if j = 0 then .pointer (some ⟨sb, 0, none⟩) else if j = 1 then .int .i64 s else if j = 2 then .int .i64 c else .int .i64 (if j - 3 < n then sl (j - 3) else 0)
theorem jc_put (sb : Nat) (s c : Int) (sl : Nat → Int) {n : Nat} (hn : n < 5) (j : Nat) (hj : j < 8) : (if j = 3 + n then .int .i64 (sl n) else jc sb s c sl n j) = jc sb s c sl (n + 1) j := by
  unfold jc; grind
theorem jobAt_of {w : World} {jb sb h : Nat} {s c : Int} {sl : Nat → Int} {n : Nat} (hc : Cells w jb 8 (jc sb s c sl n)) (hn : ∀ i, n ≤ i → i < 5 → sl i = 0) (hs : ShareAt w sb h) : JobAt w jb sb h s c sl :=
  ⟨hc.cell 0 (by omega), hc.cell 1 (by omega), hc.cell 2 (by omega), fun i hi => by
    have := hc.cell (3 + i) (by omega)
    rw [this]
    have e : jc sb s c sl n (3 + i) = .int .i64 (sl i) := by
      have := hn i
      unfold jc; grind
    rw [e], hs⟩

set_option maxRecDepth 100000 in
set_option maxHeartbeats 2000000 in
theorem shareAlloc_any (b h : Nat) (s c t budget : Int) (w : World) (hs : ShareAt w b h) (hw : Wid w) :
    Calls Tryd.prog 14 #[.pointer (some ⟨b, 0, none⟩), .agg #[.int .i64 s, .int .i64 c], .int .i64 t, .int .i64 budget] w (RetR (ShareOut s c t budget) w) := by
  have hbd := mBands_bd s c
  have HS := Lib.hid hs; clear hs
  have HW := Lib.hid hw; clear hw
  go_enter Tryd.func14, Tryd.ntmps14
  go_wp2_with (go_at_call 34; (with_reducible refine (modeBands_any _ _ _).mono ?_); rintro e w1 ⟨rfl, hx1⟩)
  have hM : Cells (w.alloc (.cells #[.int .i64 s, .int .i64 c] 30)) w.heap.size 2 (fun j => .int .i64 (if j = 0 then s else c)) := .made rfl fun j hj => by
    have : j = 0 ∨ j = 1 := by omega
    rcases this with rfl | rfl <;> rfl
  have hZ := cells_zero5 (w.alloc (.cells #[.int .i64 s, .int .i64 c] 30)) 25
  have hJ : Cells (((w.alloc (.cells #[.int .i64 s, .int .i64 c] 30)).alloc (.cells #[.int .i64 0, .int .i64 0, .int .i64 0, .int .i64 0, .int .i64 0] 25)).alloc
      (.cells #[.pointer (some ⟨b, 0, none⟩), .int .i64 s, .int .i64 c, .int .i64 0, .int .i64 0, .int .i64 0, .int .i64 0, .int .i64 0] 111)) (w.heap.size + 1 + 1) 8 (jc b s c (fun i => slope s c t i) 0) := by
    have := Cells.made (w := (w.alloc (.cells #[.int .i64 s, .int .i64 c] 30)).alloc (.cells #[.int .i64 0, .int .i64 0, .int .i64 0, .int .i64 0, .int .i64 0] 25))
      (cs := #[.pointer (some ⟨b, 0, none⟩), .int .i64 s, .int .i64 c, .int .i64 0, .int .i64 0, .int .i64 0, .int .i64 0, .int .i64 0]) (t := 111) (n := 8) (g := jc b s c (fun i => slope s c t i) 0) rfl (fun j hj => by
        have : j = 0 ∨ j = 1 ∨ j = 2 ∨ j = 3 ∨ j = 4 ∨ j = 5 ∨ j = 6 ∨ j = 7 := by omega
        rcases this with rfl | rfl | rfl | rfl | rfl | rfl | rfl | rfl <;> rfl)
    simpa using this
  rw [World.size_alloc] at hZ
  have hM1 := (hM.x (((XE.refl _).alloc _).alloc _)).x hx1
  have hZ1 := (hZ.x ((XE.refl _).alloc _)).x hx1
  have hJ1 := hJ.x hx1
  have hX1 : XE w w1 := (((XE.refl w).alloc _).alloc _ |>.alloc _).trans hx1
  clear hM hZ hJ hx1
  go_loopw [24] (fun i wr => ∃ n : Nat, (n : Int) ≤ mBands s c ∧ i = .int .i64 n ∧ Cells wr w.heap.size 2 (fun j => .int .i64 (if j = 0 then s else c)) ∧ Cells wr (w.heap.size + 1) 5 (fun _ => .int .i64 0) ∧
      Cells wr (w.heap.size + 1 + 1) 8 (jc b s c (fun i => slope s c t i) n) ∧ XE w wr) (fun i _ => 5 - (intOf i).toNat)
  case atStart => exact ⟨0, by omega, rfl, hM1, hZ1, hJ1, hX1⟩
  case round =>
    clear hM1 hZ1 hJ1 hX1
    obtain ⟨n, hn, rfl, hM, hZ, hJ, hx⟩ := hrel
    have m0 := hM.cell 0 (by omega)
    have m1 := hM.cell 1 (by omega)
    simp only [if_true, show (1 : Nat) ≠ 0 by omega, if_false] at m0 m1
    by_cases hlt : (n : Int) < mBands s c
    · have c3 := hJ.cell (3 + n) (by omega)
      have f3 := hJ.free (3 + n) (by omega)
      have hwd := HW.out.x hx
      have HW2 := Lib.hid hwd; clear hwd
      go_wp2
      refine wp_region_grown_tail 9 (by kernel_rfl) (by kernel_rfl) ?_; simp only [List.take_succ_cons, List.take_zero, List.drop_succ_cons, List.drop_zero]; (repeat (go_big_quiet_step ((go_at_call 51; exact quietE (slope_any _ _ _ _ _ (HW2.out.ext _)))))); refine wpQuiet_nil ?_; rintro _ ⟨dq, rfl⟩
      go_wp2
      go_roundw
      case rel =>
        exact ⟨n + 1, by omega, by go_num, (hM.x (xe_ext _ dq)).far (by simp; omega) _, (hZ.x (xe_ext _ dq)).far (by simp) _, (hJ.x (xe_ext _ dq)).put (by omega) _ (fun i hi => jc_put b s c _ (by omega) i hi), (hx.ext dq).setCell (by simp; omega) _⟩
      case measure => simp [intOf]; omega
    · have hjob : JobAt wr (w.heap.size + 1 + 1) b h s c (fun i => slope s c t i) := jobAt_of hJ (fun i hi hi5 => by
        have hh : mHas s c i = false := by
          cases hq : mHas s c i with
          | false => rfl
          | true => have := mHas_iff.1 hq; omega
        simp [slope, mWidth, hh]) (HS.out.x hx)
      have HJ := Lib.hid hjob; clear hjob
      clear hJ m0 m1
      go_wp2_with fail
      refine (jobTop_any _ _ _ s c (fun i => slope s c t i) _ HJ.out (HW.out.x hx) (slopes_of s c t)).mono ?_
      rintro e w2 ⟨rfl, hx2⟩
      have htb := topF_bd s c t
      have hX2 := hx.trans hx2
      have hM2 := hM.x hx2
      have hZ2 := hZ.x hx2
      have hJ2 := HJ.out.x hx2
      have HJ2 := Lib.hid hJ2
      clear HJ hM hZ hx hx2 hlt hJ2
      go_wp2_with fail
      go_loopw [11, 12] (fun a d wr => ∃ lo hi : Int, a = .int .i64 lo ∧ d = .int .i64 hi ∧ 0 ≤ lo ∧ lo < hi ∧ hi ≤ topF s c (fun i => slope s c t i) + 1 ∧ (lo = 0 ∨ totF s c (atF s c (fun i => slope s c t i) lo) ≤ budget) ∧
          (hi = topF s c (fun i => slope s c t i) + 1 ∨ budget < totF s c (atF s c (fun i => slope s c t i) hi)) ∧ XE w2 wr) (fun a d _ => (intOf d - intOf a).toNat)
      case atStart => exact ⟨0, _, rfl, rfl, by omega, by omega, by omega, .inl rfl, .inl rfl, XE.refl _⟩
      case round =>
        obtain ⟨lo, hi, rfl, rfl, l0, lh, ht, hlo, hhi, hx⟩ := hrel
        by_cases hgt : 1 < hi - lo
        · have hr : mRight s c = true := right_of_top (sl := fun i => slope s c t i) (by omega)
          have hm0 : 0 ≤ (lo + hi) / 2 := by omega
          have hm1 : (lo + hi) / 2 ≤ 1000000 := by omega
          have hm2 : lo < (lo + hi) / 2 ∧ (lo + hi) / 2 < hi := by omega
          have HL := Lib.hid hlo; clear hlo
          have HH := Lib.hid hhi; clear hhi
          go_wp2_with fail
          refine (jobAt_any _ _ _ s c _ (fun i => slope s c t i) _ (HJ2.out.x hx) (HW.out.x (hX2.trans hx)) (slopes_of s c t) hm0 hm1).mono ?_
          rintro e w3 ⟨rfl, hx3⟩
          go_wp2_with fail
          refine (jobTotal_any _ _ _ s c (fun i => slope s c t i) _ _ ((HJ2.out.x hx).x hx3) ((HW.out.x (hX2.trans hx)).x hx3) hr).mono ?_
          rintro e w4 ⟨rfl, hx4⟩
          by_cases hle : totF s c (atF s c (fun i => slope s c t i) ((lo + hi) / 2)) ≤ budget
          · go_wp2_with fail
            go_roundw
            case rel => exact ⟨_, _, rfl, rfl, by omega, by omega, by omega, .inr hle, HH.out, (hx.trans hx3).trans hx4⟩
            case measure => simp [intOf]; omega
          · go_wp2_with fail
            go_roundw
            case rel => exact ⟨_, _, rfl, rfl, by omega, by omega, by omega, HL.out, .inr (by omega), (hx.trans hx3).trans hx4⟩
            case measure => simp [intOf]; omega
        · obtain rfl : hi = lo + 1 := by omega
          have HL := Lib.hid hlo; clear hlo
          have HH := Lib.hid hhi; clear hhi
          have hl1 : lo ≤ 1000000 := by omega
          have hl2 : lo + 1 ≤ 1000000 := by omega
          have hl3 : 0 ≤ lo + 1 := by omega
          go_wp2_with fail
          refine (jobAt_any _ _ _ s c _ (fun i => slope s c t i) _ (HJ2.out.x hx) (HW.out.x (hX2.trans hx)) (slopes_of s c t) l0 hl1).mono ?_
          rintro e w3 ⟨rfl, hx3⟩
          go_wp2_with fail
          refine (jobAt_any _ _ _ s c _ (fun i => slope s c t i) _ ((HJ2.out.x hx).x hx3) ((HW.out.x (hX2.trans hx)).x hx3) (slopes_of s c t) hl3 hl2).mono ?_
          rintro e w4 ⟨rfl, hx4⟩
          have hX4 := ((hX2.trans hx).trans hx3).trans hx4
          have hM4 := ((hM2.x hx).x hx3).x hx4
          have hZ4 := ((hZ2.x hx).x hx3).x hx4
          have hJ4 := ((HJ2.out.x hx).x hx3).x hx4
          have HJ4 := Lib.hid hJ4
          clear HJ2 hM2 hZ2 hx hx3 hx4 hJ4 hX2
          have hA := (cells_zero5 w4 25).x ((XE.refl _).alloc (.cells #[.int .i64 0, .int .i64 0, .int .i64 0, .int .i64 0, .int .i64 0] 25))
          have hB := cells_zero5 (w4.alloc (.cells #[.int .i64 0, .int .i64 0, .int .i64 0, .int .i64 0, .int .i64 0] 25)) 25
          rw [World.size_alloc] at hB
          have HA := Lib.hid hA
          have HB := Lib.hid (hB.farRow (b' := w4.heap.size) (by omega) 0 (mkRow 5 fun j => .int .i64 (atF s c (fun i => slope s c t i) lo j)).toList)
          have hC := hA.putRow (o := 0) (m := 5) (f := fun j => .int .i64 (atF s c (fun i => slope s c t i) lo j)) (g' := fun j => .int .i64 (atF s c (fun i => slope s c t i) lo j)) (by omega) (fun i hi => by rw [if_pos ⟨by omega, by omega⟩]; rfl)
          have hC2 := hC.farRow (b' := w4.heap.size + 1) (by omega) 0 (mkRow 5 fun j => .int .i64 (atF s c (fun i => slope s c t i) (lo + 1) j)).toList
          have hD2 := HB.out.putRow (o := 0) (m := 5) (f := fun j => .int .i64 (atF s c (fun i => slope s c t i) (lo + 1) j)) (g' := fun j => .int .i64 (atF s c (fun i => slope s c t i) (lo + 1) j)) (by omega) (fun i hi => by rw [if_pos ⟨by omega, by omega⟩]; rfl)
          have hX5 := (((((XE.refl w4).alloc (.cells #[.int .i64 0, .int .i64 0, .int .i64 0, .int .i64 0, .int .i64 0] 25)).alloc (.cells #[.int .i64 0, .int .i64 0, .int .i64 0, .int .i64 0, .int .i64 0] 25)).setCells (Nat.le_refl _) 0
            (mkRow 5 fun j => .int .i64 (atF s c (fun i => slope s c t i) lo j)).toList).setCells (b := w4.heap.size + 1) (by omega) 0 (mkRow 5 fun j => .int .i64 (atF s c (fun i => slope s c t i) (lo + 1) j)).toList)
          have HC2 := Lib.hid hC2
          have HD2 := Lib.hid hD2
          have HX5 := Lib.hid hX5
          clear hA hB hC hC2 hD2 hX5
          go_upto_region 14 with (first
            | ((with_reducible refine wpList_store_part 25 (.tmp 14) (.tmp 59) ?_ ?_ ?_ (w4.heap.size) (0) 5 (fun j => .int .i64 (atF s c (fun i => slope s c t i) lo j)) ?_ ?_ (HA.out) (by omega) info_five (fun _ _ => rfl) ?_); (· rfl); (· rfl); (· rfl); (· rfl); (· rfl))
            | ((with_reducible refine wpList_store_part 25 (.tmp 15) (.tmp 63) ?_ ?_ ?_ (w4.heap.size + 1) (0) 5 (fun j => .int .i64 (atF s c (fun i => slope s c t i) (lo + 1) j)) ?_ ?_ (HB.out) (by omega) info_five (fun _ _ => rfl) ?_); (· rfl); (· rfl); (· rfl); (· rfl); (· rfl)))
          have hX5 := HX5.out
          have hC5 := HC2.out
          have hD5 := HD2.out
          generalize (((w4.alloc (.cells #[.int .i64 0, .int .i64 0, .int .i64 0, .int .i64 0, .int .i64 0] 25)).alloc (.cells #[.int .i64 0, .int .i64 0, .int .i64 0, .int .i64 0, .int .i64 0] 25)).setCells
            w4.heap.size 0 (mkRow 5 fun j => Value.int .i64 (atF s c (fun i => slope s c t i) lo j)).toList).setCells (w4.heap.size + 1) 0 (mkRow 5 fun j => Value.int .i64 (atF s c (fun i => slope s c t i) (lo + 1) j)).toList = w5 at *
          have m0 := (hM4.x hX5).cell 0 (by omega)
          have m1 := (hM4.x hX5).cell 1 (by omega)
          simp only [if_true, show (1 : Nat) ≠ 0 by omega, if_false] at m0 m1
          clear HX5 HC2 HD2 HA HB
          go_wp2_with fail
          refine (modeBands_any _ _ _).mono ?_
          rintro e w6 ⟨rfl, hx6⟩
          have hX6 := hX5.trans hx6
          have hC6 := hC5.x hx6
          have hD6 := hD5.x hx6
          clear hX5 hC5 hD5 hx6 m0 m1
          go_wp2_with fail
          have hN4 : w.heap.size + 1 + 1 < w4.heap.size := HJ4.out.lt
          go_loopw [66] (fun i wr => ∃ k : Nat, (k : Int) ≤ mBands s c ∧ i = .int .i64 k ∧ Cells wr w4.heap.size 5 (fun j => .int .i64 (mix (atF s c (fun i => slope s c t i) lo) (atF s c (fun i => slope s c t i) (lo + 1)) k j)) ∧
              Cells wr (w4.heap.size + 1) 5 (fun j => .int .i64 (atF s c (fun i => slope s c t i) (lo + 1) j)) ∧ XE w4 wr ∧
              (∀ b, b < k → atF s c (fun i => slope s c t i) (lo + 1) b = atF s c (fun i => slope s c t i) lo b ∨ totF s c (mix (atF s c (fun i => slope s c t i) lo) (atF s c (fun i => slope s c t i) (lo + 1)) (b + 1)) ≤ budget)) (fun i _ => 5 - (intOf i).toNat)
          case atStart => exact ⟨0, by omega, rfl, by rw [mix_zero]; exact hC6, hD6, hX6, fun b hb => by omega⟩
          case round =>
            clear hC6 hD6 hX6
            obtain ⟨k, hk, rfl, hC, hD, hx, hall⟩ := hrel
            have HALL := Lib.hid hall; clear hall
            by_cases hlk : (k : Int) < mBands s c
            · have hE := cells_zero5 wr 25
              have HC := Lib.hid (hC.x ((XE.refl _).alloc (.cells #[.int .i64 0, .int .i64 0, .int .i64 0, .int .i64 0, .int .i64 0] 25)))
              have HC0 := Lib.hid hC
              have HE := Lib.hid hE
              have hF := hE.putRow (o := 0) (m := 5) (f := fun j => .int .i64 (mix (atF s c (fun i => slope s c t i) lo) (atF s c (fun i => slope s c t i) (lo + 1)) k j)) (g' := fun j => .int .i64 (mix (atF s c (fun i => slope s c t i) lo) (atF s c (fun i => slope s c t i) (lo + 1)) k j)) (by omega) (fun i hi => by rw [if_pos ⟨by omega, by omega⟩]; rfl)
              have HF := Lib.hid hF
              have HX := Lib.hid (((XE.refl wr).alloc (.cells #[.int .i64 0, .int .i64 0, .int .i64 0, .int .i64 0, .int .i64 0] 25)).setCells (Nat.le_refl _) 0 (mkRow 5 fun j => Value.int .i64 (mix (atF s c (fun i => slope s c t i) lo) (atF s c (fun i => slope s c t i) (lo + 1)) k j)).toList)
              clear hE hF
              have HD := Lib.hid hD; clear hC hD
              go_upto_region 18 with (first
                | ((with_reducible refine wpList_load_part 25 (.tmp 14) ?_ ?_ (w4.heap.size) (0) 5 ?_ (fun j => .int .i64 (mix (atF s c (fun i => slope s c t i) lo) (atF s c (fun i => slope s c t i) (lo + 1)) k j)) _ (fun j hj => by rw [Nat.zero_add]; exact HC0.out.cell j hj) Tryd.underlying25 ?_ info_five ?_); (· rfl); (· rfl); (· rfl); (· rfl))
                | ((with_reducible refine wpList_store_part 25 (.tmp 17) (.tmp 69) ?_ ?_ ?_ (wr.heap.size) (0) 5 (fun j => .int .i64 (mix (atF s c (fun i => slope s c t i) lo) (atF s c (fun i => slope s c t i) (lo + 1)) k j)) ?_ ?_ (HE.out) (by omega) info_five (fun _ _ => rfl) ?_); (· rfl); (· rfl); (· rfl); (· rfl); (· rfl)))
              have hX7 := HX.out
              have hF7 := HF.out
              generalize (wr.alloc (.cells #[.int .i64 0, .int .i64 0, .int .i64 0, .int .i64 0, .int .i64 0] 25)).setCells wr.heap.size 0 (mkRow 5 fun j => .int .i64 (mix (atF s c (fun i => slope s c t i) lo) (atF s c (fun i => slope s c t i) (lo + 1)) k j)).toList = w7 at *
              have n0 := (HD.out.x hX7).cell k (by omega)
              have n1 := hF7.cell k (by omega)
              have n2 := hF7.free k (by omega)
              have hN8 : w4.heap.size + 1 < wr.heap.size := HD.out.lt (by omega)
              have HF7 := Lib.hid hF7
              have HX7 := Lib.hid hX7
              clear HC HE HF HX hF7 hX7
              go_upto_region 19 with fail
              have hF8 := HF7.out.put (j := k) (by omega) (.int .i64 (atF s c (fun i => slope s c t i) (lo + 1) k)) (h := fun j => .int .i64 (mix (atF s c (fun i => slope s c t i) lo) (atF s c (fun i => slope s c t i) (lo + 1)) (k + 1) j)) (fun i hi => ite_int (mix_put _ _ _ _))
              have hX8 := HX7.out.setCell (a := ⟨wr.heap.size, k, none⟩) (Nat.le_refl _) (.int .i64 (atF s c (fun i => slope s c t i) (lo + 1) k))
              generalize w7.setCell ⟨wr.heap.size, k, none⟩ (.int .i64 (atF s c (fun i => slope s c t i) (lo + 1) k)) = w8 at *
              clear n0 n1 n2 HF7 HX7
              have HF8 := Lib.hid hF8
              have HC8 := Lib.hid (HC0.out.x hX8)
              have hX9 := hx.trans hX8
              have hg := guard_five
              have hr : mRight s c = true := right_of_bands (by omega)
              clear hF8
              by_cases heq : atF s c (fun i => slope s c t i) (lo + 1) k = atF s c (fun i => slope s c t i) lo k
              · have hee := fun w => eq_five (f := mix (atF s c (fun i => slope s c t i) lo) (atF s c (fun i => slope s c t i) (lo + 1)) (k + 1)) (g := mix (atF s c (fun i => slope s c t i) lo) (atF s c (fun i => slope s c t i) (lo + 1)) k) (fun j hj => by
                  unfold mix
                  by_cases h1 : j < k
                  · rw [if_pos (by omega), if_pos h1]
                  · by_cases h2 : j = k
                    · subst h2; rw [if_pos (by omega), if_neg (by omega)]; exact heq
                    · rw [if_neg (by omega), if_neg h1]) w
                have HQ := Lib.hid heq; clear heq
                go_wp2_with (first
                  | ((with_reducible refine wpList_load_part 25 (.tmp 17) ?_ ?_ (wr.heap.size) (0) 5 ?_ (fun j => .int .i64 (mix (atF s c (fun i => slope s c t i) lo) (atF s c (fun i => slope s c t i) (lo + 1)) (k + 1) j)) _ (fun j hj => by rw [Nat.zero_add]; exact HF8.out.cell j hj) Tryd.underlying25 ?_ info_five ?_); (· rfl); (· rfl); (· rfl); (· rfl))
                  | ((with_reducible refine wpList_load_part 25 (.tmp 14) ?_ ?_ (w4.heap.size) (0) 5 ?_ (fun j => .int .i64 (mix (atF s c (fun i => slope s c t i) lo) (atF s c (fun i => slope s c t i) (lo + 1)) k j)) _ (fun j hj => by rw [Nat.zero_add]; exact HC8.out.cell j hj) Tryd.underlying25 ?_ info_five ?_); (· rfl); (· rfl); (· rfl); (· rfl))
                  | ((with_reducible refine wpList_store_part 25 (.tmp 14) (.tmp 85) ?_ ?_ ?_ (w4.heap.size) (0) 5 (fun j => .int .i64 (mix (atF s c (fun i => slope s c t i) lo) (atF s c (fun i => slope s c t i) (lo + 1)) (k + 1) j)) ?_ ?_ (HC8.out) (by omega) info_five (fun _ _ => rfl) ?_); (· rfl); (· rfl); (· rfl); (· rfl); (· rfl)))
                go_roundw
                case rel =>
                  refine ⟨k + 1, by omega, by go_num, HC8.out.putRow (by omega) (fun i hi => by rw [if_pos ⟨by omega, by omega⟩]; rfl), (HD.out.x hX8).farRow (by omega) _ _, (hx.trans hX8).setCells (by omega) _ _, fun b hb => ?_⟩
                  by_cases hb2 : b < k
                  · exact HALL.out b hb2
                  · obtain rfl : b = k := by omega
                    exact .inl HQ.out
                case measure => simp [intOf]; omega
              · have hee := fun w => ne_five (f := mix (atF s c (fun i => slope s c t i) lo) (atF s c (fun i => slope s c t i) (lo + 1)) (k + 1)) (g := mix (atF s c (fun i => slope s c t i) lo) (atF s c (fun i => slope s c t i) (lo + 1)) k) (j := k) (by omega) (by
                  unfold mix; rw [if_pos (by omega), if_neg (by omega)]; exact heq) w
                have HQ := Lib.hid heq; clear heq
                go_wp2_with (first
                  | ((with_reducible refine wpList_load_part 25 (.tmp 17) ?_ ?_ (wr.heap.size) (0) 5 ?_ (fun j => .int .i64 (mix (atF s c (fun i => slope s c t i) lo) (atF s c (fun i => slope s c t i) (lo + 1)) (k + 1) j)) _ (fun j hj => by rw [Nat.zero_add]; exact HF8.out.cell j hj) Tryd.underlying25 ?_ info_five ?_); (· rfl); (· rfl); (· rfl); (· rfl))
                  | ((with_reducible refine wpList_load_part 25 (.tmp 14) ?_ ?_ (w4.heap.size) (0) 5 ?_ (fun j => .int .i64 (mix (atF s c (fun i => slope s c t i) lo) (atF s c (fun i => slope s c t i) (lo + 1)) k j)) _ (fun j hj => by rw [Nat.zero_add]; exact HC8.out.cell j hj) Tryd.underlying25 ?_ info_five ?_); (· rfl); (· rfl); (· rfl); (· rfl)))
                refine (jobTotal_any _ _ _ s c (fun i => slope s c t i) _ _ (HJ4.out.x hX9) (HW.out.x (hX4.trans hX9)) hr).mono ?_
                rintro e w9 ⟨rfl, hx9⟩
                have HC9 := Lib.hid (HC8.out.x hx9)
                have HF9 := Lib.hid (HF8.out.x hx9)
                by_cases hgt : budget < totF s c (mix (atF s c (fun i => slope s c t i) lo) (atF s c (fun i => slope s c t i) (lo + 1)) (k + 1))
                · have HGT := Lib.hid hgt
                  have HCf := Lib.hid HC9.out
                  have HZf := Lib.hid ((hZ4.x hX9).x hx9)
                  go_wp2_with (first
                    | ((with_reducible refine wpList_load_part 25 (.tmp 14) ?_ ?_ (w4.heap.size) (0) 5 ?_ (fun j => .int .i64 (mix (atF s c (fun i => slope s c t i) lo) (atF s c (fun i => slope s c t i) (lo + 1)) k j)) _ (fun j hj => by rw [Nat.zero_add]; exact HCf.out.cell j hj) Tryd.underlying25 ?_ info_five ?_); (· rfl); (· rfl); (· rfl); (· rfl))
                    | ((with_reducible refine wpList_store_part 25 (.tmp 8) (.tmp 87) ?_ ?_ ?_ (w.heap.size + 1) (0) 5 (fun j => .int .i64 (mix (atF s c (fun i => slope s c t i) lo) (atF s c (fun i => slope s c t i) (lo + 1)) k j)) ?_ ?_ (HZf.out) (by omega) info_five (fun _ _ => rfl) ?_); (· rfl); (· rfl); (· rfl); (· rfl); (· rfl)))
                  have hfin := HZf.out.putRow (o := 0) (m := 5) (f := fun j => .int .i64 (mix (atF s c (fun i => slope s c t i) lo) (atF s c (fun i => slope s c t i) (lo + 1)) k j)) (g' := fun j => .int .i64 (mix (atF s c (fun i => slope s c t i) lo) (atF s c (fun i => slope s c t i) (lo + 1)) k j)) (by omega) (fun i hi => by rw [if_pos ⟨by omega, by omega⟩]; rfl)
                  refine bodyPost_ret (v := .agg (row5 (mix (atF s c (fun i => slope s c t i) lo) (atF s c (fun i => slope s c t i) (lo + 1)) k))) (results_part rfl _ _ (w.heap.size + 1) 0 5 _ rfl (fun j hj => by rw [Nat.zero_add]; exact hfin.cell j hj) Tryd.underlying25 rfl info_five) rfl ⟨_, ?_, rfl, (hX4.trans (hX9.trans hx9)).setCells (by omega) _ _⟩
                  exact ⟨lo, k, l0, by omega, HL.out, HH.out.imp (fun e => by omega) id, by omega, HALL.out, .inr ⟨HQ.out, HGT.out⟩, rfl⟩
                · go_wp2_with (first
                    | ((with_reducible refine wpList_load_part 25 (.tmp 17) ?_ ?_ (wr.heap.size) (0) 5 ?_ (fun j => .int .i64 (mix (atF s c (fun i => slope s c t i) lo) (atF s c (fun i => slope s c t i) (lo + 1)) (k + 1) j)) _ (fun j hj => by rw [Nat.zero_add]; exact HF9.out.cell j hj) Tryd.underlying25 ?_ info_five ?_); (· rfl); (· rfl); (· rfl); (· rfl))
                    | ((with_reducible refine wpList_store_part 25 (.tmp 14) (.tmp 85) ?_ ?_ ?_ (w4.heap.size) (0) 5 (fun j => .int .i64 (mix (atF s c (fun i => slope s c t i) lo) (atF s c (fun i => slope s c t i) (lo + 1)) (k + 1) j)) ?_ ?_ (HC9.out) (by omega) info_five (fun _ _ => rfl) ?_); (· rfl); (· rfl); (· rfl); (· rfl); (· rfl)))
                  go_roundw
                  case rel =>
                    refine ⟨k + 1, by omega, by go_num, HC9.out.putRow (by omega) (fun i hi => by rw [if_pos ⟨by omega, by omega⟩]; rfl), (HD.out.x (hX8.trans hx9)).farRow (by omega) _ _, (hx.trans (hX8.trans hx9)).setCells (by omega) _ _, fun b hb => ?_⟩
                    by_cases hb2 : b < k
                    · exact HALL.out b hb2
                    · obtain rfl : b = k := by omega
                      exact .inr (by omega)
                  case measure => simp [intOf]; omega
            · have HCf := Lib.hid hC
              have HZf := Lib.hid (hZ4.x hx)
              go_wp2_with (first
                | ((with_reducible refine wpList_load_part 25 (.tmp 14) ?_ ?_ (w4.heap.size) (0) 5 ?_ (fun j => .int .i64 (mix (atF s c (fun i => slope s c t i) lo) (atF s c (fun i => slope s c t i) (lo + 1)) k j)) _ (fun j hj => by rw [Nat.zero_add]; exact HCf.out.cell j hj) Tryd.underlying25 ?_ info_five ?_); (· rfl); (· rfl); (· rfl); (· rfl))
                | ((with_reducible refine wpList_store_part 25 (.tmp 8) (.tmp 87) ?_ ?_ ?_ (w.heap.size + 1) (0) 5 (fun j => .int .i64 (mix (atF s c (fun i => slope s c t i) lo) (atF s c (fun i => slope s c t i) (lo + 1)) k j)) ?_ ?_ (HZf.out) (by omega) info_five (fun _ _ => rfl) ?_); (· rfl); (· rfl); (· rfl); (· rfl); (· rfl)))
              have hfin := HZf.out.putRow (o := 0) (m := 5) (f := fun j => .int .i64 (mix (atF s c (fun i => slope s c t i) lo) (atF s c (fun i => slope s c t i) (lo + 1)) k j)) (g' := fun j => .int .i64 (mix (atF s c (fun i => slope s c t i) lo) (atF s c (fun i => slope s c t i) (lo + 1)) k j)) (by omega) (fun i hi => by rw [if_pos ⟨by omega, by omega⟩]; rfl)
              refine bodyPost_ret (v := .agg (row5 (mix (atF s c (fun i => slope s c t i) lo) (atF s c (fun i => slope s c t i) (lo + 1)) k))) (results_part rfl _ _ (w.heap.size + 1) 0 5 _ rfl (fun j hj => by rw [Nat.zero_add]; exact hfin.cell j hj) Tryd.underlying25 rfl info_five) rfl ⟨_, ?_, rfl, (hX4.trans hx).setCells (by omega) _ _⟩
              exact ⟨lo, k, l0, by omega, HL.out, HH.out.imp (fun e => by omega) id, by omega, HALL.out, .inl (by omega), rfl⟩
end Go.Proofs.YtkcambhojpafkaaDoor
