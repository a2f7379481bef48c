/- The walks of layer 5's modes and of layer 14's slopes. -/
import Derived.Test.YtkcambhojpafkaaDoorProg
import Derived.Test.YtkcambhojpafkaaDoorB0
import Derived.Test.YtkcambhojpafkaaDoorM1
set_option linter.unusedSimpArgs false
set_option linter.unusedVariables false
namespace Go.Proofs.YtkcambhojpafkaaDoor
open Go Go.RowKit

theorem modeRight_any (s c : Int) (w : World) : Calls Tryd.prog 63 #[.agg #[.int .i64 s, .int .i64 c]] w (RetE (.bool (mRight s c)) w) := by
  by_cases hc : 0 ≤ s ∧ s < 3 ∧ 1 ≤ c ∧ c ≤ 2
  · have hr : mRight s c = true := mRight_iff.2 hc
    obtain ⟨h1, h2, h3, h4⟩ := hc
    go_enter Tryd.func63, Tryd.ntmps63
    go_wp2
    go_ret
    exact ⟨by first | rfl | simp [hr], (by repeat (first | exact XE.refl _ | apply XE.ext | apply XE.alloc | apply XE.drew | apply XE.drewN))⟩
  · have hr : mRight s c = false := mRight_not hc
    go_enter Tryd.func63, Tryd.ntmps63
    go_wp2
    all_goals
      go_ret
      exact ⟨rb (by first | rfl | (simp [hr]; done) | (simp [hr]; omega)), (by repeat (first | exact XE.refl _ | apply XE.ext | apply XE.alloc | apply XE.drew | apply XE.drewN))⟩

theorem modeBands_any (s c : Int) (w : World) : Calls Tryd.prog 34 #[.agg #[.int .i64 s, .int .i64 c]] w (RetE (.int .i64 (mBands s c)) w) := by
  cases hr : mRight s c with
  | true =>
    have hb : mBands s c = 3 + s := by simp [mBands, hr]
    have hi := mRight_iff.1 hr
    obtain ⟨h1, h2, -, -⟩ := hi
    have HB := Lib.hid hb; clear hb
    go_enter Tryd.func34, Tryd.ntmps34
    go_wp2_with (go_at_call 63; (with_reducible refine (modeRight_any _ _ _).mono ?_); rintro e w' ⟨rfl, d, rfl⟩)
    go_ret
    exact ⟨ri HB.out.symm, (by repeat (first | exact XE.refl _ | apply XE.ext | apply XE.alloc | apply XE.drew | apply XE.drewN))⟩
  | false =>
    have hb : mBands s c = 0 := by simp [mBands, hr]
    have HB := Lib.hid hb; clear hb
    go_enter Tryd.func34, Tryd.ntmps34
    go_wp2_with (go_at_call 63; (with_reducible refine (modeRight_any _ _ _).mono ?_); rintro e w' ⟨rfl, d, rfl⟩)
    go_ret
    exact ⟨ri HB.out.symm, (by repeat (first | exact XE.refl _ | apply XE.ext | apply XE.alloc | apply XE.drew | apply XE.drewN))⟩

theorem modeHas_any (s c b : Int) (w : World) : Calls Tryd.prog 108 #[.agg #[.int .i64 s, .int .i64 c], .int .i64 b] w (RetE (.bool (mHas s c b)) w) := by
  have hbd := mBands_bd s c
  by_cases h0 : 0 ≤ b
  · go_enter Tryd.func108, Tryd.ntmps108
    go_wp2_with (go_at_call 34; (with_reducible refine (modeBands_any _ _ _).mono ?_); rintro e w' ⟨rfl, d, rfl⟩)
    go_ret
    exact ⟨rb (by simp [mHas, h0]), (by repeat (first | exact XE.refl _ | apply XE.ext | apply XE.alloc | apply XE.drew | apply XE.drewN))⟩
  · have hv : mHas s c b = false := by simp [mHas, h0]
    have HV := Lib.hid hv; clear hv
    go_enter Tryd.func108, Tryd.ntmps108
    go_wp2_with (go_at_call 34; (with_reducible refine (modeBands_any _ _ _).mono ?_); rintro e w' ⟨rfl, d, rfl⟩)
    go_ret
    exact ⟨rb HV.out.symm, (by repeat (first | exact XE.refl _ | apply XE.ext | apply XE.alloc | apply XE.drew | apply XE.drewN))⟩

/-- The table of widths reads as the text lays it. -/
def Wid (w : World) : Prop := ∀ k : Nat, k < 5 → w.cell? ⟨0, k, none⟩ = some (.int .i64 (widthL.getD k 0))
theorem Wid.x {w w' : World} (h : Wid w) (hx : XE w w') : Wid w' := fun k hk => hx.cell (h k hk)
theorem Wid.ext {w : World} (h : Wid w) (d : More) : Wid (ext w d) := h.x ⟨d, rfl⟩
theorem Wid.alloc {w : World} (h : Wid w) (o : Obj) : Wid (w.alloc o) := h.x ((XE.refl w).alloc o)

theorem modeWidth_any (s c b : Int) (w : World) (hw : Wid w) : Calls Tryd.prog 81 #[.agg #[.int .i64 s, .int .i64 c], .int .i64 b] w (RetE (.int .i64 (mWidth s c b)) w) := by
  cases hr : mHas s c b with
  | true =>
    have hi := mHas_iff.1 hr
    have hbd := mBands_bd s c
    have hv : mWidth s c b = widthL.getD b.toNat 0 := by simp [mWidth, hr]
    have hc := hw b.toNat (by omega)
    have HV := Lib.hid hv; clear hv
    have h0 : 0 ≤ b := by omega
    have h5 : b < 5 := by omega
    clear hi hbd hw
    go_enter Tryd.func81, Tryd.ntmps81
    go_wp2_with (go_at_call 108; (with_reducible refine (modeHas_any _ _ _ _).mono ?_); rintro e w' ⟨rfl, d, rfl⟩)
    go_ret
    exact ⟨ri HV.out.symm, (by repeat (first | exact XE.refl _ | apply XE.ext | apply XE.alloc | apply XE.drew | apply XE.drewN))⟩
  | false =>
    have hv : mWidth s c b = 0 := by simp [mWidth, hr]
    have HV := Lib.hid hv; clear hv
    clear hw
    go_enter Tryd.func81, Tryd.ntmps81
    go_wp2_with (go_at_call 108; (with_reducible refine (modeHas_any _ _ _ _).mono ?_); rintro e w' ⟨rfl, d, rfl⟩)
    go_ret
    exact ⟨ri HV.out.symm, (by repeat (first | exact XE.refl _ | apply XE.ext | apply XE.alloc | apply XE.drew | apply XE.drewN))⟩

theorem slope_any (s c t b : Int) (w : World) (hw : Wid w) : Calls Tryd.prog 51 #[.agg #[.int .i64 s, .int .i64 c], .int .i64 t, .int .i64 b] w (RetE (.int .i64 (slope s c t b)) w) := by
  by_cases h0 : mWidth s c b = 0
  · have hv : slope s c t b = 0 := by simp [slope, h0]
    have HV := Lib.hid hv; clear hv
    go_enter Tryd.func51, Tryd.ntmps51
    go_wp2_with (go_at_call 81; (with_reducible refine (modeWidth_any _ _ _ _ (hw.alloc _)).mono ?_); rintro e w' ⟨rfl, d, rfl⟩)
    go_ret
    exact ⟨ri HV.out.symm, (by repeat (first | exact XE.refl _ | apply XE.ext | apply XE.alloc | apply XE.drew | apply XE.drewN))⟩
  · have hv : slope s c t b = 64 / mWidth s c b + (8 - trimOf t) * b := by simp [slope, h0]
    have hwd := mWidth_bd s c b
    have hb5 : 0 ≤ b ∧ b < 5 := by
      cases hh : mHas s c b with
      | true => have := mHas_iff.1 hh; have := mBands_bd s c; omega
      | false => simp [mWidth, hh] at h0
    have ht := trimOf_bd t
    have e1 : min (max t 0) 7 = trimOf t := rfl
    have hb1 : (mWidth s c b == 0) = false := by simpa using h0
    have HV := Lib.hid hv; clear hv
    go_enter Tryd.func51, Tryd.ntmps51
    go_wp2_with (go_at_call 81; (with_reducible refine (modeWidth_any _ _ _ _ (by first | exact hw.alloc _ | exact (hw.alloc _).ext _)).mono ?_); rintro e w' ⟨rfl, d, rfl⟩)
    all_goals
      go_ret
      refine ⟨ri ?_, (by repeat (first | exact XE.refl _ | apply XE.ext | apply XE.alloc | apply XE.drew | apply XE.drewN))⟩
      rw [HV.out]
      have hq := div64_bd hwd.1
      generalize 64 / mWidth s c b = q at *
      have hbs : b = 0 ∨ b = 1 ∨ b = 2 ∨ b = 3 ∨ b = 4 := by omega
      rcases hbs with rfl | rfl | rfl | rfl | rfl <;> (unfold wrap64 trimOf; omega)

theorem refRight_any (s c : Int) (w : World) : Calls Tryd.prog 15 #[.int .i64 s, .int .i64 c] w (RetS (.bool (mRight s c)) w) := by
  by_cases hc : 0 ≤ s ∧ s < 3 ∧ 1 ≤ c ∧ c ≤ 2
  · have hr : mRight s c = true := mRight_iff.2 hc
    go_enter Tryd.func15, Tryd.ntmps15
    go_wp2
    all_goals
      go_ret
      exact ⟨rb (by first | rfl | (simp [hr]; done) | (simp [hr]; omega)), rfl⟩
  · have hr : mRight s c = false := mRight_not hc
    go_enter Tryd.func15, Tryd.ntmps15
    go_wp2
    all_goals
      go_ret
      exact ⟨rb (by first | rfl | (simp [hr]; done) | (simp [hr]; omega)), rfl⟩

theorem refBands_any (s : Int) (w : World) (h : 0 ≤ s ∧ s < 3) : Calls Tryd.prog 84 #[.int .i64 s] w (RetS (.int .i64 (3 + s)) w) := by
  obtain ⟨h1, h2⟩ := h
  go_enter Tryd.func84, Tryd.ntmps84
  go_wp2
  go_ret
  exact ⟨ri (by omega), rfl⟩

theorem there_any (n : Int) (w : World) : Calls Tryd.prog 59 #[.int .i64 n] w (RetS (.bool (decide (1 ≤ n) && decide (n ≤ 16))) w) := by
  by_cases h : 1 ≤ n
  · go_enter Tryd.func59, Tryd.ntmps59
    go_wp2
    go_ret
    exact ⟨rb (by simp [h]), rfl⟩
  · go_enter Tryd.func59, Tryd.ntmps59
    go_wp2
    go_ret
    exact ⟨rb (by first | rfl | (simp; omega)), rfl⟩
end Go.Proofs.YtkcambhojpafkaaDoor
