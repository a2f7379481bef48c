/- The document's functions of layers 5, 10 and 13, the small ones: Band, Choose, V, Len, Slope. -/
import Derived.Test.YtkcambhojpafkaaDoorProg
import Derived.Test.YtkcambhojpafkaaDoorS1
import Derived.Test.YtkcambhojpafkaaDoorM2
import Derived.Lib.BitFns
set_option linter.unusedSimpArgs false
set_option linter.unusedVariables false
namespace Go.Proofs.YtkcambhojpafkaaDoor
open Go Go.RowKit

theorem refBand_any (b : Nat) (w : World) (hb : b < 5) : Calls Tryd.prog 85 #[.int .i64 b] w (RetS (.tuple #[.int .i64 (if b = 0 then 0 else 2 ^ b : Nat), .int .i64 (widthL.getD b 0)]) w) := by
  by_cases h0 : b = 0
  · subst h0
    go_enter Tryd.func85, Tryd.ntmps85
    go_wp2
    refine bodyPost_ret (results_tmp2 rfl _ _ _) rfl ⟨rfl, rfl⟩
  · have hb1 : ((b : Int) == 0) = false := by simp; omega
    go_enter Tryd.func85, Tryd.ntmps85
    go_wp2
    go_loopw [4, 5] (fun x i wr => ∃ n : Nat, 1 ≤ n ∧ n ≤ b ∧ i = .int .i64 n ∧ x = .int .i64 (2 ^ n : Nat) ∧ wr = w) (fun _ i _ => b - (intOf i).toNat)
    case atStart => exact ⟨1, by omega, by omega, rfl, rfl, rfl⟩
    case round =>
      obtain ⟨n, h1, hn, rfl, rfl, rfl⟩ := hrel
      by_cases hlt : n < b
      · have hp : 2 ^ n ≤ 16 := by
          have : n = 1 ∨ n = 2 ∨ n = 3 := by omega
          rcases this with rfl | rfl | rfl <;> decide
        have hp2 : 2 ^ (n + 1) = 2 ^ n * 2 := Nat.pow_succ 2 n
        generalize 2 ^ n = q at *
        go_wp2
        go_roundw
        case rel => exact ⟨n + 1, by omega, by omega, by go_num, congrArg (Value.int .i64) (by rw [hp2]; omega), by first | rfl | trivial⟩
        case measure => simp [intOf]; omega
      · obtain rfl : n = b := by omega
        go_wp2
        refine bodyPost_ret (results_tmp2 rfl _ _ _) rfl ⟨?_, rfl⟩
        have : n = 1 ∨ n = 2 ∨ n = 3 ∨ n = 4 := by omega
        rcases this with rfl | rfl | rfl | rfl <;> rfl

/-! ### Choose, V, Len -/
def chO (n : Nat) : Nat → Nat
  | 0 => 1
  | k + 1 => chO n k * (n - k) / (k + 1)
theorem chO_lt {n k : Nat} (hn : n ≤ 31) (hk : k ≤ 31) : chO n k ≤ 300540195 := by
  have h : ∀ n, n ≤ 31 → ∀ k, k ≤ 31 → chO n k ≤ 300540195 := by decide +kernel
  exact h n hn k hk
theorem chO_out : ∀ {n k : Nat}, n < k → chO n k = 0
  | n, k + 1, h => by
    unfold chO
    rcases Nat.lt_or_ge n k with h' | h'
    · rw [chO_out h']; simp
    · rw [show n - k = 0 by omega]; simp
theorem refChoose_any (n k : Nat) (w : World) (hn : n ≤ 31) (hk : k ≤ 31) : Calls Tryd.prog 131 #[.int .i64 n, .int .i64 k] w (RetS (.int .u64 (chO n k : Nat)) w) := by
  by_cases h : n < k
  · have h0 := chO_out h
    have H0 := Lib.hid h0; clear h0
    go_enter Tryd.func131, Tryd.ntmps131
    go_wp2
    go_ret
    exact ⟨ri (by rw [H0.out]; rfl), rfl⟩
  · go_enter Tryd.func131, Tryd.ntmps131
    go_wp2
    go_loopw [5, 6] (fun x i wr => ∃ j : Nat, j ≤ k ∧ i = .int .i64 j ∧ x = .int .u64 (chO n j : Nat) ∧ wr = w) (fun _ i _ => k - (intOf i).toNat)
    case atStart => exact ⟨0, by omega, rfl, rfl, rfl⟩
    case round =>
      obtain ⟨j, hj, rfl, rfl, rfl⟩ := hrel
      by_cases hlt : j < k
      · have hb := chO_lt (n := n) (k := j) hn (by omega)
        have hs : chO n (j + 1) = chO n j * (n - j) / (j + 1) := rfl
        generalize chO n j = q at *
        have hm : q * (n - j) ≤ 300540195 * 31 := Nat.mul_le_mul hb (by omega)
        have hm0 : 0 ≤ q * (n - j) := Nat.zero_le _
        have hz : ((j : Int) + 1 == 0) = false := by simp; omega
        have hnj : ((n : Int) - j) = ((n - j : Nat) : Int) := by omega
        have hmm : ((q : Int) * ((n : Int) - j)) = ((q * (n - j) : Nat) : Int) := by rw [hnj]; exact (Int.natCast_mul _ _).symm
        go_wp2
        go_roundw
        case rel => exact ⟨j + 1, by omega, by go_num, congrArg (Value.int .u64) (by rw [hs, Int.natCast_ediv, Int.natCast_mul]; rfl), by first | rfl | trivial⟩
        case measure => simp [intOf]; omega
      · obtain rfl : j = k := by omega
        go_wp2
        go_ret
        exact ⟨rfl, rfl⟩

theorem bitLen_le64 (x : Nat) : Lib.bitLen x ≤ 64 := by
  have : ∀ f x, Lib.bitLenAux f x ≤ f := by
    intro f
    induction f with
    | zero => intro x; exact Nat.le_refl _
    | succ f ih =>
      intro x
      unfold Lib.bitLenAux
      split
      · omega
      · have := ih (x / 2); omega
  exact this 64 x
theorem refLen_any (x : Nat) (w : World) (hx : x < 18446744073709551616) : Calls Tryd.prog 110 #[.int .u64 x] w (RetS (.int .i64 (Lib.bitLen x)) w) := by
  go_enter Tryd.func110, Tryd.ntmps110
  go_wp2
  go_loopw [0, 3] (fun y i wr => ∃ q n : Nat, q ≤ x ∧ y = .int .u64 q ∧ i = .int .i64 n ∧ n + Lib.bitLen q = Lib.bitLen x ∧ wr = w) (fun y _ _ => (intOf y).toNat)
  case atStart => exact ⟨x, 0, by omega, rfl, rfl, by omega, rfl⟩
  case round =>
    obtain ⟨q, n, hq, rfl, rfl, hl, rfl⟩ := hrel
    have hbd : Lib.bitLen x ≤ 64 := bitLen_le64 x
    by_cases h0 : q = 0
    · subst h0
      have hz : Lib.bitLen 0 = 0 := rfl
      have HL := Lib.hid hl; clear hl
      go_wp2
      go_ret
      exact ⟨ri (by have := HL.out; rw [hz] at this; omega), rfl⟩
    · have hh := Lib.bitLen_half q h0 (by omega)
      have HH := Lib.hid hh; clear hh
      have HL := Lib.hid hl; clear hl
      have hn : n ≤ 64 := by have := HL.out; omega
      go_wp2
      go_roundw
      case rel => exact ⟨q / 2, n + 1, by omega, by go_num, by go_num, by have := HL.out; have := HH.out; omega, by first | rfl | trivial⟩
      case measure => simp [intOf]; omega

/-! ### V -/
def vSum (n k : Nat) : Nat → Nat
  | 0 => 0
  | j + 1 => vSum n k j + 2 ^ (j + 1) * chO n (j + 1) * chO (k - 1) j
theorem vSum_all {n k : Nat} (hn : n ≤ 16) (hk : k ≤ 32) (h1 : 1 ≤ k) : vSum n k n = V n k := by
  have h : ∀ n, n ≤ 16 → ∀ k, k ≤ 32 → 1 ≤ k → vSum n k n = V n k := by decide +kernel
  exact h n hn k hk h1
theorem vSum_lt {n k j : Nat} (hn : n ≤ 16) (hk : k ≤ 32) (hj : j ≤ n) : vSum n k j < 4503599627370496 := by
  have h : ∀ n, n ≤ 16 → ∀ k, k ≤ 32 → ∀ j, j ≤ 16 → j ≤ n → vSum n k j < 4503599627370496 := by decide +kernel
  exact h n hn k hk j (by omega) hj
set_option maxHeartbeats 400000 in
theorem refV_any (n k : Nat) (w : World) (hn : n ≤ 16) (hk : k ≤ 32) : Calls Tryd.prog 109 #[.int .i64 n, .int .i64 k] w (RetS (.int .u64 (V n k : Nat)) w) := by
  by_cases h0 : k = 0
  · subst h0
    have hv := V_zero hn
    have HV := Lib.hid hv; clear hv
    go_enter Tryd.func109, Tryd.ntmps109
    go_wp2
    go_ret
    exact ⟨ri (by rw [HV.out]; rfl), rfl⟩
  · have hk0 : ((k : Int) == 0) = false := by simp; omega
    have hv := vSum_all hn hk (by omega)
    have HV := Lib.hid hv; clear hv
    go_enter Tryd.func109, Tryd.ntmps109
    go_wp2
    go_loopw [5, 6, 7] (fun s p i wr => ∃ j : Nat, j ≤ n ∧ i = .int .i64 (j + 1 : Nat) ∧ s = .int .u64 (vSum n k j : Nat) ∧ p = .int .u64 (2 ^ j : Nat) ∧ wr = w) (fun _ _ i _ => n + 1 - (intOf i).toNat)
    case atStart => exact ⟨0, by omega, rfl, rfl, rfl, rfl⟩
    case round =>
      obtain ⟨j, hj, rfl, rfl, rfl, rfl⟩ := hrel
      by_cases hlt : j < n
      · have hp : 2 ^ j ≤ 32768 := Nat.pow_le_pow_right (by omega) (show j ≤ 15 by omega)
        have hp2 : 2 ^ (j + 1) = 2 ^ j * 2 := Nat.pow_succ 2 j
        have hs : vSum n k (j + 1) = vSum n k j + 2 ^ (j + 1) * chO n (j + 1) * chO (k - 1) j := rfl
        have hb := vSum_lt hn hk (show j + 1 ≤ n by omega)
        have hb0 := vSum_lt hn hk (show j ≤ n by omega)
        have hc1 : Calls Tryd.prog 131 #[.int .i64 n, .int .i64 ((j : Int) + 1)] wr (RetS (.int .u64 (chO n (j + 1) : Nat)) wr) := refChoose_any n (j + 1) wr (by omega) (by omega)
        have hc2 := refChoose_any (k - 1) j wr (by omega) (by omega)
        have hcb1 := chO_lt (n := n) (k := j + 1) (by omega) (by omega)
        have hcb2 := chO_lt (n := k - 1) (k := j) (by omega) (by omega)
        rw [show ((k - 1 : Nat) : Int) = (k : Int) - 1 by omega] at hc2
        rw [hp2] at hs
        have HC1 := Lib.hid hc1; clear hc1
        have HC2 := Lib.hid hc2; clear hc2
        generalize hgx : chO n (j + 1) = x at *
        generalize hgy : chO (k - 1) j = y at *
        generalize hgs : vSum n k (j + 1) = s1 at *
        generalize hgt : vSum n k j = s0 at *
        generalize hgp : 2 ^ j = p at *
        have hm1 : p * 2 * x ≤ 65536 * 300540195 := Nat.mul_le_mul (by omega) hcb1
        have hm2 : p * 2 * x * y < 4503599627370496 := by omega
        have hgz := And.intro hgx (And.intro hgy (And.intro hgs (And.intro hgt hgp)))
        have HG := Lib.hid hgz
        have HS := Lib.hid hs
        clear hgx hgy hgs hgt hgp hgz
        have em1 : 0 ≤ (p : Int) * 2 * x ∧ (p : Int) * 2 * x ≤ 65536 * 300540195 := by
          have e : (p : Int) * 2 * x = ((p * 2 * x : Nat) : Int) := by simp [Int.natCast_mul]
          rw [e]; omega
        have em2 : 0 ≤ (p : Int) * 2 * x * y ∧ (p : Int) * 2 * x * y + s0 < 4503599627370496 := by
          have e : (p : Int) * 2 * x * y = ((p * 2 * x * y : Nat) : Int) := by simp [Int.natCast_mul]
          rw [e]; omega
        clear hm1 hm2
        go_wp2_with (first
          | (go_at_call 131; (with_reducible refine HC1.out.mono ?_); rintro e w' ⟨rfl, hw'⟩; obtain rfl := hw'.symm)
          | (go_at_call 131; (with_reducible refine HC2.out.mono ?_); rintro e w' ⟨rfl, hw'⟩; obtain rfl := hw'.symm))
        go_roundw
        case rel =>
          obtain ⟨-, -, g3, g4, g5⟩ := HG.out
          refine ⟨j + 1, by omega, by go_num, congrArg (Value.int .u64) ?_, congrArg (Value.int .u64) ?_, by first | rfl | trivial⟩
          · rw [g3, HS.out]; simp [Int.natCast_mul, Int.natCast_add]
          · rw [hp2]; simp [Int.natCast_mul]
        case measure => simp [intOf]; omega
      · obtain rfl : j = n := by omega
        go_wp2
        go_ret
        exact ⟨ri (by rw [HV.out]), rfl⟩

/-! ### Slope -/
def slopeL (t : Int) (b : Nat) : Int := 64 / widthL.getD b 0 + (8 - trimOf t) * b
theorem refSlope_any (t : Int) (b : Nat) (w : World) (hb : b < 5) : Calls Tryd.prog 87 #[.int .i64 t, .int .i64 b] w (RetS (.int .i64 (slopeL t b)) w) := by
  have hc := refBand_any b w hb
  have hw1 : 1 ≤ widthL.getD b 0 := by
    have : b = 0 ∨ b = 1 ∨ b = 2 ∨ b = 3 ∨ b = 4 := by omega
    rcases this with rfl | rfl | rfl | rfl | rfl <;> decide
  have hw2 := (widthL_bd b).2
  obtain ⟨d, hd⟩ : ∃ d, widthL.getD b 0 = d := ⟨_, rfl⟩
  rw [hd] at hc hw1 hw2
  generalize ((if b = 0 then 0 else 2 ^ b : Nat) : Int) = st at hc
  have hq := div64_bd (m := d) (by omega)
  have hz : (d == 0) = false := by simp; omega
  have hbt : ∀ x : Int, 0 ≤ x ∧ x ≤ 7 → 0 ≤ (8 - x) * b ∧ (8 - x) * b ≤ 32 := fun x hx => by
    have : b = 0 ∨ b = 1 ∨ b = 2 ∨ b = 3 ∨ b = 4 := by omega
    rcases this with rfl | rfl | rfl | rfl | rfl <;> omega
  have HC := Lib.hid hc; clear hc
  have HD := Lib.hid hd; clear hd
  have ht : t < 0 ∨ 7 < t ∨ (0 ≤ t ∧ t ≤ 7) := by omega
  rcases ht with h | h | ⟨h1, h2⟩
  · have e : trimOf t = 0 := by unfold trimOf; omega
    have E := Lib.hid e; clear e
    go_enter Tryd.func87, Tryd.ntmps87
    go_wp2_with (go_at_call 85; (with_reducible refine HC.out.mono ?_); rintro e w' ⟨rfl, hw'⟩; obtain rfl := hw'.symm)
    go_ret
    exact ⟨ri (by unfold slopeL; rw [E.out, HD.out]; try omega), rfl⟩
  · have e : trimOf t = 7 := by unfold trimOf; omega
    have E := Lib.hid e; clear e
    go_enter Tryd.func87, Tryd.ntmps87
    go_wp2_with (go_at_call 85; (with_reducible refine HC.out.mono ?_); rintro e w' ⟨rfl, hw'⟩; obtain rfl := hw'.symm)
    go_ret
    exact ⟨ri (by unfold slopeL; rw [E.out, HD.out]; try omega), rfl⟩
  · have e : trimOf t = t := by unfold trimOf; omega
    have E := Lib.hid e; clear e
    have hbt2 := hbt t ⟨h1, h2⟩
    go_enter Tryd.func87, Tryd.ntmps87
    go_wp2_with (go_at_call 85; (with_reducible refine HC.out.mono ?_); rintro e w' ⟨rfl, hw'⟩; obtain rfl := hw'.symm)
    go_ret
    exact ⟨ri (by unfold slopeL; rw [E.out, HD.out]; try omega), rfl⟩
end Go.Proofs.YtkcambhojpafkaaDoor
