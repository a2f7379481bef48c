/- The walks of layer 13's sheet: it is made. -/
import Derived.Test.YtkcambhojpafkaaDoorProg
import Derived.Test.YtkcambhojpafkaaDoorShelf
import Derived.Test.YtkcambhojpafkaaDoorS3
set_option linter.unusedSimpArgs false
set_option linter.unusedVariables false
namespace Go.Proofs.YtkcambhojpafkaaDoor
open Go Go.RowKit

theorem work_small (sb tb n k : Nat) (w : World) (ht : TableAt w tb) (h1 : 1 ≤ n) (h8 : n ≤ 8) (k1 : 1 ≤ k) (k2 : k ≤ cap n) :
    Calls Tryd.prog 83 #[.pointer (some ⟨sb, 0, none⟩), .pointer (some ⟨tb, 0, none⟩), .int .i64 n, .int .i64 k] w (RetE (.int .i64 (bit n k)) w) := by
  have hc := cap_le n
  have hv := bit_small h1 h8 k1 k2
  have hp := V_pos (n := n) (k := k) h1 (by omega) (by omega)
  have hl := @V_lt n k
  have hbl := bit_le n k
  rw [hv] at hbl
  have HV := Lib.hid hv; clear hv
  have hn : ((n : Int).toNat) = n := by omega
  have hk : ((k : Int).toNat) = k := by omega
  have hm : ((V n k : Int) - 1).toNat = V n k - 1 := by omega
  go_enter Tryd.func83, Tryd.ntmps83
  go_wp2_with (first
    | (go_at_call 82; (with_reducible refine (tableV_any _ _ _ _ ht (by omega) (by omega) (by omega) (by omega)).mono ?_); rintro e w' ⟨rfl, rfl⟩)
    | (go_at_call 89; (with_reducible refine (Tryd.bits_Len64 _ _ (by omega) (by omega)).mono ?_); rintro e w' ⟨rfl, rfl⟩))
  go_ret
  exact ⟨ri (by rw [HV.out]; rfl), (by repeat (first | exact XE.refl _ | apply XE.ext | apply XE.alloc | apply XE.drew | apply XE.drewN))⟩

theorem work_great (sb tb n k : Nat) (w : World) (h1 : 8 < n) (h8 : n ≤ 16) (k1 : 1 ≤ k) (k2 : k ≤ cap n)
    (ha : ∀ a, a ≤ 32 → w.cell? ⟨sb, 17 + n / 2 * 33 + a, none⟩ = some (.int .i64 (bit (n / 2) a))) (hb : ∀ a, a ≤ 32 → w.cell? ⟨sb, 17 + (n - n / 2) * 33 + a, none⟩ = some (.int .i64 (bit (n - n / 2) a))) :
    Calls Tryd.prog 83 #[.pointer (some ⟨sb, 0, none⟩), .pointer (some ⟨tb, 0, none⟩), .int .i64 n, .int .i64 k] w (RetE (.int .i64 (bit n k)) w) := by
  have hc := cap_le n
  have hv := bit_great h1 h8 k1 k2
  have hbl := most_le n k (k + 1)
  have HV := Lib.hid hv; clear hv
  have HA := Lib.hid ha; clear ha
  have HB := Lib.hid hb; clear hb
  go_enter Tryd.func83, Tryd.ntmps83
  go_wp2
  go_loopw [9, 22] (fun m i wr => ∃ a : Nat, a ≤ k + 1 ∧ i = .int .i64 a ∧ m = .int .i64 (most n k a) ∧ XE w wr) (fun _ i _ => k + 1 - (intOf i).toNat)
  case atStart => exact ⟨0, by omega, rfl, rfl, (by repeat (first | exact XE.refl _ | apply XE.ext | apply XE.alloc | apply XE.drew | apply XE.drewN))⟩
  case round =>
    obtain ⟨a, hak, rfl, rfl, hx⟩ := hrel
    by_cases hlt : a < k + 1
    · have c1 := hx.cell (HA.out a (by omega))
      have c2 := hx.cell (HB.out (k - a) (by omega))
      have b1 := bit_le (n / 2) a
      have b2 := bit_le (n - n / 2) (k - a)
      have b3 := most_le n k a
      go_wp2
      refine wp_region_grown (by kernel_rfl) (by kernel_rfl) ?_; (repeat (go_big_quiet_step (fail))); refine wpQuiet_nil ?_; rintro _ ⟨dq, rfl⟩
      go_wp2
      go_roundw
      case rel => exact ⟨a + 1, by omega, by go_num, by simp only [most]; go_num, hx.ext dq⟩
      case measure => simp [intOf]; omega
    · obtain rfl : a = k + 1 := by omega
      have hl := Lib.bitLen_le k 6 (by omega) (by omega)
      have hk : ((k : Int).toNat) = k := by omega
      go_wp2_with (go_at_call 90; (with_reducible refine (Tryd.bits_Len _ _ (by omega) (by omega)).mono ?_); rintro e w' ⟨rfl, rfl⟩)
      go_ret
      exact ⟨ri (by rw [HV.out]; trace_state; omega), hx⟩
end Go.Proofs.YtkcambhojpafkaaDoor
