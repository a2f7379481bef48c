/- Layer 15, the plain law: pulses come one by one; the first that does not fit ends it. What is shared out is one and the same, however it is found. -/
import Derived.Test.YtkcambhojpafkaaDoorM3
import Derived.Test.YtkcambhojpafkaaDoorS10
set_option linter.unusedSimpArgs false
set_option linter.unusedVariables false
namespace Go.Proofs.YtkcambhojpafkaaDoor
open Go

/-! ### What costs are -/
theorem bit_step {n k : Nat} (hn : n ≤ 16) (hk : k < cap n) : bit n k ≤ bit n (k + 1) := by
  have h : ∀ n, n ≤ 16 → ∀ k, k < 32 → k < cap n → bit n k ≤ bit n (k + 1) := by decide +kernel
  exact h n hn k (by have := cap_le n; omega) hk
theorem bit_mono {n a b : Nat} (hn : n ≤ 16) (hab : a ≤ b) (hb : b ≤ cap n) : bit n a ≤ bit n b := by
  induction b with
  | zero => obtain rfl : a = 0 := by omega
            exact Nat.le_refl _
  | succ b ih =>
    rcases Nat.lt_or_ge b a with h | h
    · obtain rfl : a = b + 1 := by omega
      exact Nat.le_refl _
    · exact Nat.le_trans (ih h (by omega)) (bit_step hn (by omega))
theorem bitZ_mono {w a b : Int} (ha : 0 ≤ a) (hab : a ≤ b) (hb : b ≤ capZ w) : bitZ w a ≤ bitZ w b := by
  have hw : 1 ≤ w ∧ w ≤ 16 := by
    apply Classical.byContradiction
    intro h
    rw [capZ_out h] at hb; omega
  rw [capZ_in hw.1 hw.2] at hb
  have := bit_mono (n := w.toNat) (a := a.toNat) (b := b.toNat) (by omega) (by omega) (by omega)
  unfold bitZ
  rw [capZ_in hw.1 hw.2, if_neg (by omega), if_neg (by omega)]
  omega
theorem sumTo_mono {f g : Nat → Int} : ∀ {n : Nat}, (∀ b, b < n → f b ≤ g b) → sumTo f n ≤ sumTo g n
  | 0, _ => Int.le_refl _
  | n + 1, h => by
    have := sumTo_mono (f := f) (g := g) (n := n) fun b hb => h b (by omega)
    have := h n (by omega)
    simp only [sumTo]; omega
theorem sumTo_congr {f g : Nat → Int} : ∀ {n : Nat}, (∀ b, b < n → f b = g b) → sumTo f n = sumTo g n
  | 0, _ => rfl
  | n + 1, h => by
    have := sumTo_congr (f := f) (g := g) (n := n) fun b hb => h b (by omega)
    have := h n (by omega)
    simp only [sumTo]; omega
theorem totF_congr {s c : Int} {k x : Nat → Int} (h : same5 k x) : totF s c k = totF s c x := by
  have hb := mBands_bd s c
  unfold totF
  rw [sumTo_congr fun b hb' => by rw [h b (by omega)]]
theorem totF_mono {s c : Int} (hr : mRight s c = true) {k x : Nat → Int} (h : ∀ b : Nat, (b : Int) < mBands s c → 0 ≤ k b ∧ k b ≤ x b ∧ x b ≤ capZ (mWidth s c b)) : totF s c k ≤ totF s c x := by
  have hri := mRight_iff.1 hr
  have := sumTo_mono (f := fun b => bitZ (mWidth s c b) (k b)) (g := fun b => bitZ (mWidth s c b) (x b)) (n := (mBands s c).toNat) fun b hb => by
    have := h b (by omega)
    exact bitZ_mono this.1 this.2.1 this.2.2
  unfold totF
  exact Int.mul_le_mul_of_nonneg_right this (by omega)

/-! ### Levels -/
theorem width_in {s c : Int} {b : Nat} (h : (b : Int) < mBands s c) : 1 ≤ mWidth s c b ∧ mWidth s c b ≤ 16 := by
  have hb := mBands_bd s c
  have hh : mHas s c b = true := mHas_iff.2 ⟨by omega, h⟩
  simp only [mWidth, hh, if_true]
  have : b = 0 ∨ b = 1 ∨ b = 2 ∨ b = 3 ∨ b = 4 := by omega
  rcases this with rfl | rfl | rfl | rfl | rfl <;> simp [widthL]
theorem cap_pos {n : Nat} (h1 : 1 ≤ n) (h : n ≤ 16) : 1 ≤ cap n := by
  have h : ∀ n, n ≤ 16 → 1 ≤ n → 1 ≤ cap n := by decide +kernel
  exact h n ‹_› h1
theorem capZ_pos {s c : Int} {b : Nat} (h : (b : Int) < mBands s c) : 1 ≤ capZ (mWidth s c b) := by
  have hw := width_in h
  rw [capZ_in hw.1 hw.2]
  have := cap_pos (n := (mWidth s c b).toNat) (by omega) (by omega)
  omega
/-- All pulses up to a level. -/
def lvF (s c t : Int) (lv : Int) : Nat → Int := atF s c (fun i => slope s c t i) lv
/-- What has been given ahead of place p = 5 times the level + the band. -/
def posF (s c t : Int) (p : Nat) (j : Nat) : Int := lvF s c t ((((p + 4 - j) / 5 : Nat) : Int) - 1) j
theorem slope_pos {s c t : Int} {b : Nat} (h : (b : Int) < mBands s c) : 8 ≤ slope s c t b := by
  have hb := mBands_bd s c
  exact (slope_bd s c t b (by omega)).2.2 h
theorem lvF_bd {s c t lv : Int} {b : Nat} (h : (b : Int) < mBands s c) (h0 : 0 ≤ lv) : 0 ≤ lvF s c t lv b ∧ lvF s c t lv b ≤ capZ (mWidth s c b) := by
  have hs := slope_pos (t := t) h
  have hc := capZ_pos h
  have := Int.ediv_nonneg h0 (show 0 ≤ slope s c t b by omega)
  simp only [lvF, atF, if_pos h]; omega
theorem lvF_mono {s c t a b : Int} {j : Nat} (h : (j : Int) < mBands s c) (hab : a ≤ b) : lvF s c t a j ≤ lvF s c t b j := by
  have hs := slope_pos (t := t) h
  have := Int.ediv_le_ediv (show 0 < slope s c t j by omega) hab
  simp only [lvF, atF, if_pos h]; omega
theorem lvF_out {s c t lv : Int} {b : Nat} (h : ¬ (b : Int) < mBands s c) : lvF s c t lv b = 0 := by simp [lvF, atF, h]
theorem lvF_zero {s c t : Int} (b : Nat) : lvF s c t 0 b = 0 := by
  by_cases h : (b : Int) < mBands s c
  · have hc := capZ_pos h
    simp only [lvF, atF, if_pos h, Int.zero_ediv]; omega
  · exact lvF_out h
theorem lvF_one {s c t : Int} (b : Nat) : lvF s c t 1 b = 0 := by
  by_cases h : (b : Int) < mBands s c
  · have hs := slope_pos (t := t) h
    have hc := capZ_pos h
    have : (1 : Int) / slope s c t b = 0 := Int.ediv_eq_zero_of_lt (by omega) (by omega)
    simp only [lvF, atF, if_pos h, this]; omega
  · exact lvF_out h
theorem maxTo_ge {f : Nat → Int} : ∀ {n b : Nat}, b < n → f b ≤ maxTo f n
  | n + 1, b, h => by
    simp only [maxTo]
    rcases Nat.lt_or_ge b n with h' | h'
    · have := maxTo_ge (f := f) h'; omega
    · obtain rfl : b = n := by omega
      omega
/-- From the top on all is given. -/
theorem lvF_top {s c t lv : Int} {b : Nat} (h : (b : Int) < mBands s c) (ht : topF s c (fun i => slope s c t i) ≤ lv) : lvF s c t lv b = capZ (mWidth s c b) := by
  have hs := slope_pos (t := t) h
  have h1 : slope s c t b * capZ (mWidth s c b) ≤ lv := by
    refine Int.le_trans ?_ ht
    exact maxTo_ge (f := fun b : Nat => slope s c t b * capZ (mWidth s c b)) (by omega)
  have : capZ (mWidth s c b) ≤ lv / slope s c t b := by
    rw [Int.le_ediv_iff_mul_le (by omega), Int.mul_comm]; exact h1
  simp only [lvF, atF, if_pos h]; omega
/-- At a place that is a level's start. -/
theorem posF_mix {s c t lo : Int} {n : Nat} (h0 : 0 ≤ lo) (hn : n ≤ 5) : same5 (mix (lvF s c t lo) (lvF s c t (lo + 1)) n) (posF s c t (5 * (lo.toNat + 1) + n)) := fun j hj => by
  unfold mix posF
  by_cases h : j < n
  · rw [if_pos h, show ((((5 * (lo.toNat + 1) + n + 4 - j) / 5 : Nat) : Int) - 1) = lo + 1 by omega]
  · rw [if_neg h, show ((((5 * (lo.toNat + 1) + n + 4 - j) / 5 : Nat) : Int) - 1) = lo by omega]
theorem posF_mono {s c t : Int} {p q : Nat} (hpq : p ≤ q) {j : Nat} (h : (j : Int) < mBands s c) : posF s c t p j ≤ posF s c t q j := lvF_mono h (by omega)
theorem posF_bd {s c t : Int} {p : Nat} (hp : 5 ≤ p) {j : Nat} (h : (j : Int) < mBands s c) : 0 ≤ posF s c t p j ∧ posF s c t p j ≤ capZ (mWidth s c j) := by
  have hb := mBands_bd s c
  exact lvF_bd h (by omega)
theorem posF_out {s c t : Int} {p j : Nat} (h : ¬ (j : Int) < mBands s c) : posF s c t p j = 0 := lvF_out h
theorem posF_tot {s c t : Int} (hr : mRight s c = true) {p q : Nat} (hp : 5 ≤ p) (hpq : p ≤ q) : totF s c (posF s c t p) ≤ totF s c (posF s c t q) := totF_mono hr fun b hb =>
  ⟨(posF_bd hp hb).1, posF_mono hpq hb, (posF_bd (by omega) hb).2⟩
theorem posF_step {s c t : Int} {p j : Nat} (h : j ≠ p % 5) (hj : j < 5) : posF s c t (p + 1) j = posF s c t p j := by
  unfold posF
  rw [show (p + 1 + 4 - j) / 5 = (p + 4 - j) / 5 by omega]
theorem posF_start {s c t : Int} : same5 (posF s c t 5) (fun _ => 0) := fun j hj => by
  unfold posF
  rw [show ((((5 + 4 - j) / 5 : Nat) : Int) - 1) = 0 by omega]
  exact lvF_zero j
theorem totF_zero {s c : Int} : totF s c (fun _ => 0) = 0 := by
  have : ∀ n : Nat, (n : Int) ≤ mBands s c → sumTo (fun b => bitZ (mWidth s c b) 0) n = 0 := by
    intro n
    induction n with
    | zero => intro _; rfl
    | succ n ih =>
      intro hn
      have hc := capZ_pos (s := s) (c := c) (b := n) (by omega)
      simp only [sumTo, ih (by omega)]
      unfold bitZ
      rw [if_neg (by omega)]
      show 0 + ((bit _ 0 : Nat) : Int) = 0
      rw [bit_zero]; rfl
  have hb := mBands_bd s c
  unfold totF
  rw [this _ (by omega)]; simp

/-! ### What a budget is shared out as -/
/-- Nothing comes at place q, or it fits. -/
def Fit (s c t budget : Int) (q : Nat) : Prop := same5 (posF s c t (q + 1)) (posF s c t q) ∨ totF s c (posF s c t (q + 1)) ≤ budget
def Shares (s c t budget : Int) (k : Nat → Int) : Prop :=
  ∃ p, 5 ≤ p ∧ same5 k (posF s c t p) ∧ (∀ q, 5 ≤ q → q < p → Fit s c t budget q) ∧ (¬ Fit s c t budget p ∨ ∀ q, p ≤ q → same5 (posF s c t q) (posF s c t p))
theorem Shares.one {s c t budget : Int} {k x : Nat → Int} (h : Shares s c t budget k) (h' : Shares s c t budget x) : same5 k x := by
  obtain ⟨p, hp, hk, hf, he⟩ := h
  obtain ⟨q, hq, hx, hg, hi⟩ := h'
  rcases Nat.lt_trichotomy p q with hl | hl | hl
  · rcases he with he | he
    · exact absurd (hg p hp hl) he
    · exact hk.trans ((he q (by omega)).symm.trans hx.symm)
  · subst hl; exact hk.trans hx.symm
  · rcases hi with hi | hi
    · exact absurd (hf q hq hl) hi
    · exact hk.trans ((hi p (by omega)).trans hx.symm)
theorem Shares.congr {s c t budget : Int} {k x : Nat → Int} (h : Shares s c t budget k) (e : same5 x k) : Shares s c t budget x := by
  obtain ⟨p, hp, hk, hf, he⟩ := h
  exact ⟨p, hp, e.trans hk, hf, he⟩
/-- Nothing fits. -/
theorem shares_none {s c t budget : Int} (hr : mRight s c = true) (hb : budget < 0) : Shares s c t budget (fun _ => 0) := by
  have hri := mRight_iff.1 hr
  have h0 : ((0 : Nat) : Int) < mBands s c := by simp [mBands, hr]; omega
  have hfit : ∀ q, 5 ≤ q → Fit s c t budget q → same5 (posF s c t (q + 1)) (posF s c t q) := fun q hq h => by
    rcases h with h | h
    · exact h
    · have h1 := posF_tot (t := t) hr (p := 5) (q := q + 1) (by omega) (by omega)
      rw [totF_congr posF_start, totF_zero] at h1
      omega
  have hex : ∃ q, 5 ≤ q ∧ ¬ Fit s c t budget q := by
    have hs := slope_pos (t := t) h0
    have hc := capZ_pos h0
    refine ⟨5 * (slope s c t (0 : Nat)).toNat, by omega, fun h => ?_⟩
    have := hfit _ (by omega) h 0 (by omega)
    unfold posF lvF atF at this
    dsimp only at this
    rw [if_pos h0, if_pos h0] at this
    rw [show ((((5 * (slope s c t (0 : Nat)).toNat + 1 + 4 - 0) / 5 : Nat) : Int) - 1) = slope s c t (0 : Nat) by omega, show ((((5 * (slope s c t (0 : Nat)).toNat + 4 - 0) / 5 : Nat) : Int) - 1) = slope s c t (0 : Nat) - 1 by omega] at this
    rw [Int.ediv_self (by omega), Int.ediv_eq_zero_of_lt (by omega) (by omega)] at this
    omega
  have key : ∀ n, (∃ q, 5 ≤ q ∧ q ≤ n ∧ ¬ Fit s c t budget q) → ∃ p, 5 ≤ p ∧ ¬ Fit s c t budget p ∧ ∀ q, 5 ≤ q → q < p → Fit s c t budget q := by
    intro n
    induction n with
    | zero => rintro ⟨q, h1, h2, -⟩; omega
    | succ n ih =>
      rintro ⟨q, h1, h2, h3⟩
      by_cases hh : ∃ q, 5 ≤ q ∧ q ≤ n ∧ ¬ Fit s c t budget q
      · exact ih hh
      · refine ⟨q, h1, h3, fun q' h1' h2' => ?_⟩
        apply Classical.byContradiction
        intro h4
        exact hh ⟨q', h1', by omega, h4⟩
  obtain ⟨q, hq, hnf⟩ := hex
  obtain ⟨p, hp, hn, hf⟩ := key q ⟨q, hq, Nat.le_refl _, hnf⟩
  refine ⟨p, hp, ?_, hf, Or.inl hn⟩
  have : ∀ r, 5 ≤ r → r ≤ p → same5 (posF s c t r) (fun _ => 0) := by
    intro r
    induction r with
    | zero => intro h; omega
    | succ r ih =>
      intro h1 h2
      rcases Nat.lt_or_ge r 5 with h | h
      · obtain rfl : r = 4 := by omega
        exact posF_start
      · exact (hfit r h (hf r h (by omega))).trans (ih h (by omega))
  exact (this p hp (Nat.le_refl _)).symm
/-- All that the quick one finds is this. -/
theorem ShareOut.shares {s c t budget : Int} (hr : mRight s c = true) {k : Nat → Int} (h : ShareOut s c t budget k) : Shares s c t budget k := by
  obtain ⟨lo, n, h0, hlo, hA, hB, hn, hC, hD, rfl⟩ := h
  have hbd := mBands_bd s c
  have hmix := fun m hm => posF_mix (s := s) (c := c) (t := t) (lo := lo) (n := m) h0 hm
  have hfits : ∀ q, 5 ≤ q → q < 5 * (lo.toNat + 1) + n → Fit s c t budget q := fun q hq hqp => by
    rcases Nat.lt_or_ge q (5 * (lo.toNat + 1)) with hl | hl
    · rcases hA with hA | hA
      · omega
      · right
        refine Int.le_trans (posF_tot hr (q := 5 * (lo.toNat + 1)) (by omega) (by omega)) ?_
        have e := totF_congr (s := s) (c := c) (hmix 0 (by omega))
        rw [Nat.add_zero, mix_zero] at e
        rw [← e]; exact hA
    · obtain ⟨b, rfl⟩ : ∃ b, q = 5 * (lo.toNat + 1) + b := ⟨q - 5 * (lo.toNat + 1), by omega⟩
      have hbn : b < n := by omega
      rcases hC b hbn with hC | hC
      · left
        intro j hj
        by_cases hjb : j = b
        · subst hjb
          have e1 := hmix (j + 1) (by omega) j (by omega)
          have e2 := hmix j (by omega) j (by omega)
          simp only [mix, Nat.lt_irrefl, if_false, Nat.lt_succ_self, if_true] at e1 e2
          rw [show 5 * (lo.toNat + 1) + j + 1 = 5 * (lo.toNat + 1) + (j + 1) by omega, ← e1, ← e2]; exact hC
        · exact posF_step (by omega) hj
      · right
        rw [show 5 * (lo.toNat + 1) + b + 1 = 5 * (lo.toNat + 1) + (b + 1) by omega, ← totF_congr (hmix (b + 1) (by omega))]; exact hC
  rcases hD with hD | ⟨hD1, hD2⟩
  · rcases hB with hB | hB
    · refine ⟨5 * (lo.toNat + 1) + n, by omega, hmix n (by omega), hfits, Or.inr fun q hq j hj => ?_⟩
      by_cases hjb : (j : Int) < mBands s c
      · unfold posF
        rw [lvF_top hjb (by omega), lvF_top hjb (by omega)]
      · rw [posF_out hjb, posF_out hjb]
    · -- the next level does not fit, and each of its bands does: none comes
      have hall : ∀ b, b < n → lvF s c t (lo + 1) b = lvF s c t lo b := by
        apply Classical.byContradiction
        intro hno
        have : ∃ b, b < n ∧ lvF s c t (lo + 1) b ≠ lvF s c t lo b ∧ ∀ b', b < b' → b' < n → lvF s c t (lo + 1) b' = lvF s c t lo b' := by
          apply Classical.byContradiction
          intro hno2
          apply hno
          have : ∀ m b, n - b ≤ m → b < n → lvF s c t (lo + 1) b = lvF s c t lo b := by
            intro m
            induction m with
            | zero => intro b h1 h2; omega
            | succ m ih =>
              intro b h1 h2
              apply Classical.byContradiction
              intro h3
              exact hno2 ⟨b, h2, h3, fun b' h4 h5 => ih b' (by omega) h5⟩
          exact fun b hb => this n b (by omega) hb
        obtain ⟨b, hb, hne, hlast⟩ := this
        rcases hC b hb with hC | hC
        · exact hne hC
        · have : same5 (mix (lvF s c t lo) (lvF s c t (lo + 1)) (b + 1)) (lvF s c t (lo + 1)) := fun j hj => by
            unfold mix
            by_cases h1 : j < b + 1
            · rw [if_pos h1]
            · rw [if_neg h1]
              rcases Nat.lt_or_ge j n with h2 | h2
              · exact (hlast j (by omega) h2).symm
              · rw [lvF_out (by omega), lvF_out (by omega)]
          have e := totF_congr (s := s) (c := c) this
          change budget < totF s c (lvF s c t (lo + 1)) at hB
          change totF s c (mix (lvF s c t lo) (lvF s c t (lo + 1)) (b + 1)) ≤ budget at hC
          omega
      have hsame : same5 (lvF s c t (lo + 1)) (lvF s c t lo) := fun j hj => by
        rcases Nat.lt_or_ge j n with h2 | h2
        · exact hall j h2
        · rw [lvF_out (by omega), lvF_out (by omega)]
      change budget < totF s c (lvF s c t (lo + 1)) at hB
      rw [totF_congr hsame] at hB
      rcases hA with hA | hA
      · subst hA
        have e0 : same5 (lvF s c t 0) (fun _ => 0) := fun j _ => lvF_zero j
        rw [totF_congr e0, totF_zero] at hB
        refine (shares_none hr hB).congr fun j hj => ?_
        show mix (lvF s c t 0) (lvF s c t (0 + 1)) n j = 0
        unfold mix
        split
        · exact lvF_one j
        · exact lvF_zero j
      · change totF s c (lvF s c t lo) ≤ budget at hA
        omega
  · have hn5 : n < 5 := by
      apply Classical.byContradiction
      intro h5
      have h6 : ¬ ((n : Nat) : Int) < mBands s c := by omega
      exact hD1 (by rw [show atF s c (fun i => slope s c t i) (lo + 1) n = 0 from lvF_out h6, show atF s c (fun i => slope s c t i) lo n = 0 from lvF_out h6])
    refine ⟨5 * (lo.toNat + 1) + n, by omega, hmix n (by omega), hfits, Or.inl ?_⟩
    rintro (h | h)
    · have := h n hn5
      have e1 := hmix (n + 1) (by omega) n hn5
      have e2 := hmix n (by omega) n hn5
      simp only [mix, Nat.lt_irrefl, if_false, Nat.lt_succ_self, if_true] at e1 e2
      rw [show 5 * (lo.toNat + 1) + n + 1 = 5 * (lo.toNat + 1) + (n + 1) by omega, ← e1, ← e2] at this
      exact hD1 this
    · rw [show 5 * (lo.toNat + 1) + n + 1 = 5 * (lo.toNat + 1) + (n + 1) by omega, ← totF_congr (hmix (n + 1) (by omega))] at h
      change budget < totF s c (mix (lvF s c t lo) (lvF s c t (lo + 1)) (n + 1)) at hD2
      omega
/-- In a wrong mode nothing is. -/
theorem ShareOut.wrong {s c t budget : Int} (hr : mRight s c = false) {k : Nat → Int} (h : ShareOut s c t budget k) : same5 k (fun _ => 0) := by
  obtain ⟨lo, n, -, -, -, -, hn, -, -, rfl⟩ := h
  have h0 : mBands s c = 0 := by simp [mBands, hr]
  intro j hj
  have : ∀ lv, atF s c (fun i => slope s c t i) lv j = 0 := fun lv => by unfold atF; rw [if_neg (by omega)]
  unfold mix
  rw [this, this]; simp
end Go.Proofs.YtkcambhojpafkaaDoor
