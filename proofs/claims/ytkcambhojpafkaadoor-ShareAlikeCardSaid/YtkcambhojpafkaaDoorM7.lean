/- Layer 14, the plain law of the document's answer: level by level, and in each one band by band. -/
import Derived.Test.YtkcambhojpafkaaDoorM4
set_option linter.unusedSimpArgs false
set_option linter.unusedVariables false
namespace Go.Proofs.YtkcambhojpafkaaDoor
open Go

theorem sumTo_change {f g : Nat → Int} {b : Nat} (h : ∀ j, j ≠ b → f j = g j) : ∀ {n : Nat}, sumTo g n = sumTo f n + (if b < n then g b - f b else 0)
  | 0 => by simp [sumTo]
  | n + 1 => by
    have ih := sumTo_change h (n := n)
    simp only [sumTo]
    by_cases e : n = b
    · subst e
      rw [ih, if_neg (by omega), if_pos (by omega)]; omega
    · have := h n e
      by_cases hb : b < n
      · rw [ih, if_pos hb, if_pos (by omega)]; omega
      · rw [ih, if_neg hb, if_neg (by omega)]; omega
theorem ediv_next {L s : Int} (hs : 0 < s) (hL : 1 ≤ L) : L / s = if ((L - 1) / s + 1) * s = L then (L - 1) / s + 1 else (L - 1) / s := by
  have e1 := Int.mul_ediv_add_emod (L - 1) s
  have r0 := Int.emod_nonneg (L - 1) (show s ≠ 0 by omega)
  have r1 := Int.emod_lt_of_pos (L - 1) hs
  generalize (L - 1) / s = q at *
  generalize (L - 1) % s = r at *
  have hq : (q + 1) * s = s * q + s := by rw [Int.add_mul, Int.one_mul, Int.mul_comm]
  split
  · rename_i h
    rw [← h, Int.mul_ediv_cancel _ (by omega)]
  · rename_i h
    have hr : r + 1 < s := by omega
    have : L = r + 1 + s * q := by omega
    rw [this, Int.add_mul_ediv_left _ _ (by omega), Int.ediv_eq_zero_of_lt (by omega) hr]; omega
/-- At place 5 L + b one pulse comes, or none. -/
def Comes (s c t : Int) (L b : Nat) : Prop := posF s c t (5 * L + b) b + 1 ≤ capZ (mWidth s c b) ∧ (posF s c t (5 * L + b) b + 1) * slope s c t b = L
theorem posF_at {s c t : Int} {L b : Nat} (hb : b < 5) : posF s c t (5 * L + b) b = lvF s c t ((L : Int) - 1) b ∧ posF s c t (5 * L + b + 1) b = lvF s c t L b := by
  unfold posF
  constructor
  · congr 1; omega
  · congr 1; omega
theorem posF_next {s c t : Int} {L b : Nat} (hb : (b : Int) < mBands s c) (hL : 1 ≤ L) :
    (Comes s c t L b → posF s c t (5 * L + b + 1) b = posF s c t (5 * L + b) b + 1) ∧ (¬ Comes s c t L b → posF s c t (5 * L + b + 1) b = posF s c t (5 * L + b) b) := by
  have hbd := mBands_bd s c
  have hs := slope_pos (t := t) hb
  have hc := capZ_pos hb
  obtain ⟨e1, e2⟩ := posF_at (s := s) (c := c) (t := t) (L := L) (b := b) (by omega)
  have e3 := ediv_next (L := L) (s := slope s c t b) (by omega) (by omega)
  have e4 : lvF s c t ((L : Int) - 1) b = min (((L : Int) - 1) / slope s c t b) (capZ (mWidth s c b)) := by simp only [lvF, atF, if_pos hb]
  have e5 : lvF s c t L b = min ((L : Int) / slope s c t b) (capZ (mWidth s c b)) := by simp only [lvF, atF, if_pos hb]
  unfold Comes
  rw [e2, e1, e4, e5]
  generalize ((L : Int) - 1) / slope s c t b = q at *
  generalize (L : Int) / slope s c t b = q' at *
  generalize capZ (mWidth s c b) = C at *
  rcases Int.lt_or_le q C with h | h
  · rw [show min q C = q by omega]
    constructor
    · rintro ⟨h1, h2⟩
      rw [if_pos h2] at e3; omega
    · intro h2
      rw [if_neg (fun h3 => h2 ⟨by omega, h3⟩)] at e3; omega
  · rw [show min q C = C by omega]
    constructor
    · rintro ⟨h1, h2⟩; omega
    · intro h2
      split at e3 <;> omega
theorem posF_come {s c t : Int} {L b : Nat} (hb : (b : Int) < mBands s c) (hL : 1 ≤ L) (h : Comes s c t L b) : ∀ j, j < 5 → posF s c t (5 * L + b + 1) j = if j = b then posF s c t (5 * L + b) b + 1 else posF s c t (5 * L + b) j := fun j hj => by
  have hbd := mBands_bd s c
  by_cases e : j = b
  · subst e; rw [if_pos rfl]; exact (posF_next hb hL).1 h
  · rw [if_neg e]; exact posF_step (by omega) hj
theorem posF_stay {s c t : Int} {L b : Nat} (hL : 1 ≤ L) (hb5 : b < 5) (h : (b : Int) < mBands s c → ¬ Comes s c t L b) : same5 (posF s c t (5 * L + b + 1)) (posF s c t (5 * L + b)) := fun j hj => by
  by_cases e : j = b
  · subst e
    by_cases hb : (j : Int) < mBands s c
    · exact (posF_next hb hL).2 (h hb)
    · rw [posF_out hb, posF_out hb]
  · exact posF_step (by omega) hj
theorem totF_come {s c t : Int} {L b : Nat} (hb : (b : Int) < mBands s c) (hL : 1 ≤ L) (h : Comes s c t L b) :
    totF s c (posF s c t (5 * L + b + 1)) = totF s c (posF s c t (5 * L + b)) + c * (bitZ (mWidth s c b) (posF s c t (5 * L + b) b + 1) - bitZ (mWidth s c b) (posF s c t (5 * L + b) b)) := by
  have hbd := mBands_bd s c
  have hp := posF_come hb hL h
  have e : totF s c (posF s c t (5 * L + b + 1)) = totF s c (fun j => if j = b then posF s c t (5 * L + b) b + 1 else posF s c t (5 * L + b) j) := totF_congr hp
  rw [e]
  unfold totF
  rw [sumTo_change (f := fun j : Nat => bitZ (mWidth s c j) (posF s c t (5 * L + b) j)) (b := b) (fun j hj => by simp only [if_neg hj]), if_pos (by omega)]
  simp only [if_true]
  rw [Int.add_mul, Int.mul_comm c]
/-- All of a level's places behind its last band. -/
theorem posF_over {s c t : Int} {L n : Nat} (hL : 1 ≤ L) (hn : mBands s c ≤ n) : ∀ m, n + m ≤ 5 → same5 (posF s c t (5 * L + n + m)) (posF s c t (5 * L + n))
  | 0, _ => same5.refl _
  | m + 1, h => by
    have := posF_stay (s := s) (c := c) (t := t) (L := L) (b := n + m) hL (by omega) (fun hh => by omega)
    rw [show 5 * L + n + (m + 1) = 5 * L + (n + m) + 1 by omega]
    exact this.trans (by rw [show 5 * L + (n + m) = 5 * L + n + m by omega]; exact posF_over hL hn m (by omega))
theorem fit_over {s c t budget : Int} {L n q : Nat} (hL : 1 ≤ L) (hn : mBands s c ≤ n) (h1 : 5 * L + n ≤ q) (h2 : q < 5 * (L + 1)) : Fit s c t budget q := by
  left
  obtain ⟨m, rfl⟩ : ∃ m, q = 5 * L + n + m := ⟨q - (5 * L + n), by omega⟩
  have a := posF_over (s := s) (c := c) (t := t) hL hn m (by omega)
  have b := posF_over (s := s) (c := c) (t := t) hL hn (m + 1) (by omega)
  exact (show same5 (posF s c t (5 * L + n + m + 1)) _ from b).trans a.symm
theorem posF_end {s c t : Int} : ∀ q, 5 * 3001 ≤ q → same5 (posF s c t q) (posF s c t (5 * 3001)) := fun q hq j hj => by
  have ht := topF_bd s c t
  by_cases hjb : (j : Int) < mBands s c
  · unfold posF
    rw [lvF_top hjb (by omega), lvF_top hjb (by omega)]
  · rw [posF_out hjb, posF_out hjb]
theorem totF_bd {s c : Int} (h0 : 1 ≤ c) (h1 : c ≤ 2) (k : Nat → Int) : -10 ≤ totF s c k ∧ totF s c k ≤ 1000 := by
  have hb := mBands_bd s c
  have := sumBits_bd s c k (mBands s c).toNat (by omega)
  unfold totF
  have : c = 1 ∨ c = 2 := by omega
  rcases this with rfl | rfl <;> omega
end Go.Proofs.YtkcambhojpafkaaDoor
