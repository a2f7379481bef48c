/- The walks of layer 12's V, and of layer 13's sheet. -/
import Derived.Test.YtkcambhojpafkaaDoorProg
import Derived.Test.YtkcambhojpafkaaDoorShelf
import Derived.Test.YtkcambhojpafkaaDoorS1
import Derived.Test.YtkcambhojpafkaaDoorS2
set_option linter.unusedSimpArgs false
set_option linter.unusedVariables false
namespace Go.Proofs.YtkcambhojpafkaaDoor
open Go Go.RowKit

theorem tableV_any (b : Nat) (n k : Int) (w : World) (ht : TableAt w b) (h0 : 0 ≤ n) (h1 : n ≤ 16) (h2 : 0 ≤ k) (h3 : k ≤ 32) :
    Calls Tryd.prog 82 #[.pointer (some ⟨b, 0, none⟩), .int .i64 n, .int .i64 k] w (RetS (.int .u64 (V n.toNat k.toNat)) w) := by
  have hc := ht.v (n := n.toNat) (k := k.toNat) (by omega) (by omega)
  clear ht
  go_enter Tryd.func82, Tryd.ntmps82
  go_wp2
  go_ret
  exact ⟨rfl, rfl⟩

/-- A sheet at block b. -/
def SheetAt (w : World) (b : Nat) : Prop := Cells w b 578 (fun j => .int .i64 (sc 17 0 1 j))
theorem SheetAt.x {w w' : World} {b : Nat} (h : SheetAt w b) (hx : XE w w') : SheetAt w' b := Cells.x h hx
theorem SheetAt.cap {w : World} {b n : Nat} (h : SheetAt w b) (h1 : 1 ≤ n) (hn : n ≤ 16) : w.cell? ⟨b, n, none⟩ = some (.int .i64 (cap n)) := by
  rw [Cells.cell h _ (by omega), sc_cap h1 (by omega) (by omega)]
theorem SheetAt.bit {w : World} {b n k : Nat} (h : SheetAt w b) (hn : n ≤ 16) (hk : k ≤ 32) : w.cell? ⟨b, 17 + n * 33 + k, none⟩ = some (.int .i64 (bit n k)) := by
  rw [Cells.cell h _ (by omega), sc_bit (by omega) (by omega)]

theorem sheetCap_any (b : Nat) (n : Int) (w : World) (hs : SheetAt w b) : Calls Tryd.prog 24 #[.pointer (some ⟨b, 0, none⟩), .int .i64 n] w (RetS (.int .i64 (capZ n)) w) := by
  by_cases h : 1 ≤ n ∧ n ≤ 16
  · have hv := capZ_in h.1 h.2
    obtain ⟨h1, h2⟩ := h
    have hc := hs.cap (n := n.toNat) (by omega) (by omega)
    have HV := Lib.hid hv; clear hv
    have ht : (decide (1 ≤ n) && decide (n ≤ 16)) = true := by simp [h1, h2]
    clear hs
    go_enter Tryd.func24, Tryd.ntmps24
    go_wp2_with (go_at_call 59; (with_reducible refine (there_any _ _).mono ?_); rintro e w' ⟨rfl, hw'⟩; obtain rfl := hw'.symm)
    go_ret
    exact ⟨ri HV.out.symm, rfl⟩
  · have hv := capZ_out h
    have HV := Lib.hid hv; clear hv
    have ht : (decide (1 ≤ n) && decide (n ≤ 16)) = false := by simp; omega
    clear hs
    go_enter Tryd.func24, Tryd.ntmps24
    go_wp2_with (go_at_call 59; (with_reducible refine (there_any _ _).mono ?_); rintro e w' ⟨rfl, hw'⟩; obtain rfl := hw'.symm)
    go_ret
    exact ⟨ri HV.out.symm, rfl⟩

theorem sheetBits_any (b : Nat) (n k : Int) (w : World) (hs : SheetAt w b) : Calls Tryd.prog 22 #[.pointer (some ⟨b, 0, none⟩), .int .i64 n, .int .i64 k] w (RetS (.int .i64 (bitZ n k)) w) := by
  by_cases hk : k < 0
  · have hv : bitZ n k = -1 := by simp [bitZ, hk]
    have HV := Lib.hid hv; clear hv
    clear hs
    go_enter Tryd.func22, Tryd.ntmps22
    go_wp2
    go_ret
    exact ⟨ri HV.out.symm, rfl⟩
  · by_cases hc : capZ n < k
    · have hv : bitZ n k = -1 := by simp [bitZ, hc]
      have HV := Lib.hid hv; clear hv
      go_enter Tryd.func22, Tryd.ntmps22
      go_wp2_with (go_at_call 24; (with_reducible refine (sheetCap_any _ _ _ hs).mono ?_); rintro e w' ⟨rfl, hw'⟩; obtain rfl := hw'.symm)
      go_ret
      exact ⟨ri HV.out.symm, rfl⟩
    · have hv : bitZ n k = (bit n.toNat k.toNat : Int) := by simp [bitZ, hk, hc]
      have hn : 1 ≤ n ∧ n ≤ 16 := by
        apply Classical.byContradiction
        intro h
        rw [capZ_out h] at hc
        omega
      have hb := capZ_le n
      obtain ⟨n1, n2⟩ := hn
      have hcell := hs.bit (n := n.toNat) (k := k.toNat) (by omega) (by omega)
      have k0 : 0 ≤ k := by omega
      have k1 : k < 33 := by omega
      have HV := Lib.hid hv; clear hv
      clear hb
      go_enter Tryd.func22, Tryd.ntmps22
      go_wp2_with (go_at_call 24; (with_reducible refine (sheetCap_any _ _ _ hs).mono ?_); rintro e w' ⟨rfl, hw'⟩; obtain rfl := hw'.symm)
      go_ret
      exact ⟨ri HV.out.symm, rfl⟩
end Go.Proofs.YtkcambhojpafkaaDoor
