/- Layer 14, the plain law of the program's own way: the next pulse of the least level. -/
import Derived.Test.YtkcambhojpafkaaDoorM7
set_option linter.unusedSimpArgs false
set_option linter.unusedVariables false
namespace Go.Proofs.YtkcambhojpafkaaDoor
open Go

/-- The level of a band's next pulse. -/
def lvl (s c t : Int) (k : Nat → Int) (b : Nat) : Int := (k b + 1) * slope s c t b
/-- Of the first n bands: the one whose next pulse has the least level, or none. -/
def BestTo (s c t : Int) (k : Nat → Int) (n : Nat) (out least : Int) : Prop :=
  (out = -1 ∧ least = 0 ∧ ∀ j, j < n → capZ (mWidth s c j) ≤ k j) ∨
  ∃ b : Nat, b < n ∧ out = b ∧ least = lvl s c t k b ∧ k b < capZ (mWidth s c b) ∧ (∀ j, j < n → k j < capZ (mWidth s c j) → lvl s c t k b ≤ lvl s c t k j) ∧ ∀ j, j < b → k j < capZ (mWidth s c j) → lvl s c t k b < lvl s c t k j
theorem BestTo.zero {s c t : Int} {k : Nat → Int} : BestTo s c t k 0 (-1) 0 := Or.inl ⟨rfl, rfl, fun j hj => by omega⟩
theorem BestTo.full {s c t : Int} {k : Nat → Int} {n : Nat} {out least : Int} (h : BestTo s c t k n out least) (hc : capZ (mWidth s c n) ≤ k n) : BestTo s c t k (n + 1) out least := by
  rcases h with ⟨h1, h2, h3⟩ | ⟨b, hb, h1, h2, h3, h4, h5⟩
  · refine Or.inl ⟨h1, h2, fun j hj => ?_⟩
    by_cases e : j = n
    · subst e; exact hc
    · exact h3 j (by omega)
  · refine Or.inr ⟨b, by omega, h1, h2, h3, fun j hj hk => ?_, h5⟩
    by_cases e : j = n
    · subst e; omega
    · exact h4 j (by omega) hk
theorem BestTo.takes {s c t : Int} {k : Nat → Int} {n : Nat} {out least : Int} (h : BestTo s c t k n out least) (hc : k n < capZ (mWidth s c n)) (hl : out < 0 ∨ lvl s c t k n < least) : BestTo s c t k (n + 1) n (lvl s c t k n) := by
  refine Or.inr ⟨n, by omega, rfl, rfl, hc, fun j hj hk => ?_, fun j hj hk => ?_⟩
  · by_cases e : j = n
    · subst e; exact Int.le_refl _
    · rcases h with ⟨h1, h2, h3⟩ | ⟨b, hb, h1, h2, h3, h4, h5⟩
      · have := h3 j (by omega); omega
      · have := h4 j (by omega) hk; omega
  · rcases h with ⟨h1, h2, h3⟩ | ⟨b, hb, h1, h2, h3, h4, h5⟩
    · have := h3 j (by omega); omega
    · have := h4 j (by omega) hk; omega
theorem BestTo.stays {s c t : Int} {k : Nat → Int} {n : Nat} {out least : Int} (h : BestTo s c t k n out least) (h0 : 0 ≤ out) (hl : least ≤ lvl s c t k n) : BestTo s c t k (n + 1) out least := by
  rcases h with ⟨h1, h2, h3⟩ | ⟨b, hb, h1, h2, h3, h4, h5⟩
  · omega
  · refine Or.inr ⟨b, by omega, h1, h2, h3, fun j hj hk => ?_, h5⟩
    by_cases e : j = n
    · subst e; omega
    · exact h4 j (by omega) hk

theorem lvl_bd {s c t : Int} {k : Nat → Int} {b : Nat} (hb : (b : Int) < mBands s c) (h0 : 0 ≤ k b) (hc : k b < capZ (mWidth s c b)) : 8 ≤ lvl s c t k b ∧ lvl s c t k b ≤ 2048 := by
  have hbd := mBands_bd s c
  have hs := slope_pos (t := t) hb
  have hs2 := slope_bd s c t b (by omega)
  have hcz := capZ_le (mWidth s c b)
  unfold lvl
  constructor
  · have := Int.mul_le_mul (show (1 : Int) ≤ k b + 1 by omega) hs (by omega) (by omega)
    omega
  · have := Int.mul_le_mul (show k b + 1 ≤ 32 by omega) hs2.2.1 (by omega) (by omega)
    omega
/-- The next place at which one comes. -/
theorem best_place {s c t : Int} {k : Nat → Int} {p b : Nat} (hp : 5 ≤ p) (hk : same5 k (posF s c t p)) (hb : (b : Int) < mBands s c) (hc : k b < capZ (mWidth s c b))
    (h4 : ∀ j : Nat, (j : Int) < mBands s c → k j < capZ (mWidth s c j) → lvl s c t k b ≤ lvl s c t k j) (h5 : ∀ j, j < b → k j < capZ (mWidth s c j) → lvl s c t k b < lvl s c t k j) :
    ∃ L : Nat, 1 ≤ L ∧ L ≤ 2048 ∧ p ≤ 5 * L + b ∧ Comes s c t L b ∧ same5 (posF s c t (5 * L + b)) k ∧ ∀ q, p ≤ q → q < 5 * L + b → same5 (posF s c t (q + 1)) (posF s c t q) := by
  have hbd := mBands_bd s c
  have hb5 : b < 5 := by omega
  have hkb := hk b hb5
  have h0 : 0 ≤ k b := by rw [hkb]; exact (posF_bd hp hb).1
  have hl := lvl_bd (t := t) hb h0 hc
  obtain ⟨L, hL⟩ := Int.eq_ofNat_of_zero_le (show 0 ≤ lvl s c t k b by omega)
  have hs := slope_pos (t := t) hb
  have hple : p ≤ 5 * L + b := by
    apply Classical.byContradiction
    intro hgt
    have h1 := posF_mono (s := s) (c := c) (t := t) (p := 5 * L + b + 1) (q := p) (by omega) hb
    rw [(posF_at (s := s) (c := c) (t := t) (L := L) hb5).2, ← hkb] at h1
    have h2 : lvF s c t L b = min ((L : Int) / slope s c t b) (capZ (mWidth s c b)) := by simp only [lvF, atF, if_pos hb]
    have h3 : (L : Int) / slope s c t b = k b + 1 := by
      rw [← hL]; unfold lvl; exact Int.mul_ediv_cancel _ (by omega)
    omega
  have hstay : ∀ q, p ≤ q → q < 5 * L + b → same5 (posF s c t q) k → same5 (posF s c t (q + 1)) (posF s c t q) := fun q h1 h2 hq => by
    obtain ⟨L', j, hj, rfl⟩ : ∃ L' j, j < 5 ∧ q = 5 * L' + j := ⟨q / 5, q % 5, by omega, by omega⟩
    refine posF_stay (by omega) hj fun hjb hcome => ?_
    obtain ⟨c1, c2⟩ := hcome
    rw [hq j hj] at c1 c2
    have hlj : lvl s c t k j = L' := c2
    have h6 := h4 j hjb (by omega)
    rcases Nat.lt_or_ge L' L with h7 | h7
    · omega
    · have : j < b := by omega
      have := h5 j this (by omega)
      omega
  have hall : ∀ m, p + m ≤ 5 * L + b → same5 (posF s c t (p + m)) k := by
    intro m
    induction m with
    | zero => intro _; exact hk.symm
    | succ m ih => intro h; exact (hstay (p + m) (by omega) (by omega) (ih (by omega))).trans (ih (by omega))
  have hat : ∀ q, p ≤ q → q ≤ 5 * L + b → same5 (posF s c t q) k := fun q h1 h2 => by
    have := hall (q - p) (by omega)
    rwa [show p + (q - p) = q by omega] at this
  refine ⟨L, by omega, by omega, hple, ⟨?_, ?_⟩, hat _ hple (Nat.le_refl _), fun q h1 h2 => hstay q h1 h2 (hat q h1 (by omega))⟩
  · rw [hat _ hple (Nat.le_refl _) b hb5]; omega
  · rw [hat _ hple (Nat.le_refl _) b hb5]; exact hL
/-- Nothing more comes. -/
theorem best_none {s c t : Int} {k : Nat → Int} {p : Nat} (hp : 5 ≤ p) (hk : same5 k (posF s c t p)) (h : ∀ j : Nat, (j : Int) < mBands s c → capZ (mWidth s c j) ≤ k j) : ∀ q, p ≤ q → same5 (posF s c t q) (posF s c t p) := fun q hq j hj => by
  by_cases hb : (j : Int) < mBands s c
  · have h1 := h j hb
    rw [hk j hj] at h1
    have h2 := posF_mono (s := s) (c := c) (t := t) hq hb
    have h3 := (posF_bd (s := s) (c := c) (t := t) (p := q) (by omega) hb).2
    omega
  · rw [posF_out hb, posF_out hb]
end Go.Proofs.YtkcambhojpafkaaDoor
