/- Plain numbers of layer 15: all pulses up to a level, what they cost, a level above which there are none. -/
import Derived.Test.YtkcambhojpafkaaDoorM1
import Derived.Test.YtkcambhojpafkaaDoorM2
set_option linter.unusedSimpArgs false
set_option linter.unusedVariables false
namespace Go.Proofs.YtkcambhojpafkaaDoor
open Go

def sumTo (f : Nat → Int) : Nat → Int
  | 0 => 0
  | n + 1 => sumTo f n + f n
def maxTo (f : Nat → Int) : Nat → Int
  | 0 => 0
  | n + 1 => max (maxTo f n) (f n)
def atF (s c : Int) (sl : Nat → Int) (lv : Int) (b : Nat) : Int := if (b : Int) < mBands s c then min (lv / sl b) (capZ (mWidth s c b)) else 0
def totF (s c : Int) (k : Nat → Int) : Int := sumTo (fun b => bitZ (mWidth s c b) (k b)) (mBands s c).toNat * c
def topF (s c : Int) (sl : Nat → Int) : Int := maxTo (fun b => sl b * capZ (mWidth s c b)) (mBands s c).toNat

theorem sumTo_bd {f : Nat → Int} {lo hi : Int} (h : ∀ b, lo ≤ f b ∧ f b ≤ hi) (n : Nat) : lo * n ≤ sumTo f n ∧ sumTo f n ≤ hi * n := by
  induction n with
  | zero => simp [sumTo]
  | succ n ih =>
    have := h n
    simp only [sumTo]
    constructor
    · have : lo * ((n + 1 : Nat) : Int) = lo * n + lo := by rw [Int.natCast_add, Int.mul_add]; simp
      omega
    · have : hi * ((n + 1 : Nat) : Int) = hi * n + hi := by rw [Int.natCast_add, Int.mul_add]; simp
      omega
theorem sumBits_bd (s c : Int) (k : Nat → Int) (n : Nat) (hn : n ≤ 5) : -5 ≤ sumTo (fun b => bitZ (mWidth s c b) (k b)) n ∧ sumTo (fun b => bitZ (mWidth s c b) (k b)) n ≤ 500 := by
  have := sumTo_bd (f := fun b => bitZ (mWidth s c b) (k b)) (lo := -1) (hi := 100) (fun b => bitZ_bd _ _) n
  omega
theorem maxTo_bd {f : Nat → Int} {hi : Int} (h0 : 0 ≤ hi) (h : ∀ b, f b ≤ hi) (n : Nat) : 0 ≤ maxTo f n ∧ maxTo f n ≤ hi := by
  induction n with
  | zero => simp [maxTo]; exact h0
  | succ n ih => have := h n; simp only [maxTo]; omega
theorem prod_bd {a b : Int} (ha : 0 ≤ a ∧ a ≤ 64) (hb : -1 ≤ b ∧ b ≤ 32) : -64 ≤ a * b ∧ a * b ≤ 2048 := by
  obtain ⟨n, rfl⟩ := Int.eq_ofNat_of_zero_le ha.1
  constructor
  · have : (n : Int) * (-1) ≤ n * b := Int.mul_le_mul_of_nonneg_left hb.1 (by omega)
    omega
  · have : (n : Int) * b ≤ n * 32 := Int.mul_le_mul_of_nonneg_left hb.2 (by omega)
    omega
theorem slope_bd (s c t : Int) (i : Nat) (hi : i < 5) : 0 ≤ slope s c t i ∧ slope s c t i ≤ 64 ∧ ((i : Int) < mBands s c → 8 ≤ slope s c t i) := by
  unfold slope
  by_cases h0 : mWidth s c i = 0
  · rw [if_pos h0]
    refine ⟨by omega, by omega, fun h => ?_⟩
    have hh : mHas s c i = true := mHas_iff.2 ⟨by omega, h⟩
    simp only [mWidth, hh, if_true] at h0
    have : i = 0 ∨ i = 1 ∨ i = 2 ∨ i = 3 ∨ i = 4 := by omega
    rcases this with rfl | rfl | rfl | rfl | rfl <;> simp [widthL] at h0
  · rw [if_neg h0]
    have hh : mHas s c i = true := by
      cases h : mHas s c i with
      | true => rfl
      | false => simp [mWidth, h] at h0
    have ht := trimOf_bd t
    simp only [mWidth, hh, if_true]
    have : i = 0 ∨ i = 1 ∨ i = 2 ∨ i = 3 ∨ i = 4 := by omega
    rcases this with rfl | rfl | rfl | rfl | rfl <;> simp [widthL] <;> omega
theorem topF_bd (s c t : Int) : 0 ≤ topF s c (fun i => slope s c t i) ∧ topF s c (fun i => slope s c t i) ≤ 2048 := by
  have hb := mBands_bd s c
  unfold topF
  generalize (mBands s c).toNat = n at *
  refine maxTo_bd (by omega) (fun b => ?_) n
  rcases Nat.lt_or_ge b 5 with h | h
  · have := slope_bd s c t b h
    exact (prod_bd ⟨this.1, this.2.1⟩ (capZ_le _)).2
  · have hh : mHas s c b = false := by
      cases hq : mHas s c b with
      | false => rfl
      | true => have := mHas_iff.1 hq; omega
    have : mWidth s c b = 0 := by simp [mWidth, hh]
    simp [slope, this]

theorem topF_out {s c : Int} {sl : Nat → Int} (h : mRight s c = false) : topF s c sl = 0 := by
  have : mBands s c = 0 := by simp [mBands, h]
  simp [topF, this, maxTo]
theorem right_of_bands {s c : Int} (h : 0 < mBands s c) : mRight s c = true := by
  cases hr : mRight s c with
  | true => rfl
  | false => simp [mBands, hr] at h
theorem right_of_top {s c : Int} {sl : Nat → Int} (h : 0 < topF s c sl) : mRight s c = true := by
  cases hr : mRight s c with
  | true => rfl
  | false => rw [topF_out hr] at h; omega
/-- The first n bands of next, the others of cur. -/
def mix (cur next : Nat → Int) (n : Nat) (b : Nat) : Int := if b < n then next b else cur b
theorem mix_zero (cur next : Nat → Int) : mix cur next 0 = cur := by funext b; simp [mix]
theorem mix_put (cur next : Nat → Int) (n j : Nat) : (if j = n then next n else mix cur next n j) = mix cur next (n + 1) j := by
  unfold mix; grind
/-- What a budget is shared out as: the greatest level up to which all pulses fit, and of the next one those that do. -/
def ShareOut (s c t budget : Int) (k : Nat → Int) : Prop :=
  ∃ (lo : Int) (n : Nat), 0 ≤ lo ∧ lo ≤ topF s c (fun i => slope s c t i) ∧ (lo = 0 ∨ totF s c (atF s c (fun i => slope s c t i) lo) ≤ budget) ∧
    (lo = topF s c (fun i => slope s c t i) ∨ budget < totF s c (atF s c (fun i => slope s c t i) (lo + 1))) ∧ (n : Int) ≤ mBands s c ∧
    (∀ b, b < n → atF s c (fun i => slope s c t i) (lo + 1) b = atF s c (fun i => slope s c t i) lo b ∨ totF s c (mix (atF s c (fun i => slope s c t i) lo) (atF s c (fun i => slope s c t i) (lo + 1)) (b + 1)) ≤ budget) ∧
    ((n : Int) = mBands s c ∨ atF s c (fun i => slope s c t i) (lo + 1) n ≠ atF s c (fun i => slope s c t i) lo n ∧ budget < totF s c (mix (atF s c (fun i => slope s c t i) lo) (atF s c (fun i => slope s c t i) (lo + 1)) (n + 1))) ∧
    k = mix (atF s c (fun i => slope s c t i) lo) (atF s c (fun i => slope s c t i) (lo + 1)) n
end Go.Proofs.YtkcambhojpafkaaDoor
