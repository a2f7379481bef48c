/- The document's rows of costs (layer 13). -/
import Derived.Test.YtkcambhojpafkaaDoorS16
import Derived.Test.YtkcambhojpafkaaDoorB5
import Derived.Deep.DeepCutAuto
set_option linter.unusedSimpArgs false
set_option linter.unusedVariables false
namespace Go.Proofs.YtkcambhojpafkaaDoor
open Go Go.RowKit

theorem one_info {P : Program} {t : TypeId} {by_ : Nat} (h : (P.info? t).map (fun i => (i.zero.map (·.cells.size), i.size, i.bytes)) = some (some 1, 1, by_)) :
    ∃ i z, P.info? t = some i ∧ i.zero = some z ∧ i.size = 1 ∧ i.bytes = by_ ∧ z.cells.size = 1 := by
  cases hi : P.info? t with
  | none => rw [hi] at h; simp at h
  | some i =>
    rw [hi] at h
    simp only [Option.map_some, Option.some.injEq, Prod.mk.injEq] at h
    obtain ⟨h1, h2, h3⟩ := h
    cases hz : i.zero with
    | none => rw [hz] at h1; simp at h1
    | some z => rw [hz] at h1; simp at h1; exact ⟨i, z, rfl, hz, h2, h3, h1⟩
theorem int_info : ∃ i z, Tryd.prog.info? 3 = some i ∧ i.zero = some z ∧ i.size = 1 ∧ i.bytes = 8 ∧ z.cells.size = 1 := one_info (by kernel_rfl)

/-- The costs of a width, as cells. -/
def costs (n k : Nat) : Value := .int .i64 (bit n k)
/-- A row of costs of the call's own. -/
def RetRow (n : Nat) (w : World) (e : Ending) (w' : World) : Prop := ∃ v, e = .returned v ∧ OwnVals w w' 3 v (cap n + 1) (costs n) ∧ XE w w'

set_option maxRecDepth 100000 in
set_option maxHeartbeats 400000 in
theorem refRow_small (n : Nat) (w : World) (h1 : 1 ≤ n) (h8 : n ≤ 8) : Calls Tryd.prog 86 #[.int .i64 n] w (RetRow n w) := by
  obtain ⟨inf, z, hi1, hi2, hi3, hi4, hi5⟩ := int_info
  have HI1 := Lib.hid hi1; have HI2 := Lib.hid hi2; have HI3 := Lib.hid hi3; have HI4 := Lib.hid hi4; have HI5 := Lib.hid hi5
  clear hi1 hi2 hi3 hi4 hi5
  have hx0 : XE w (w.alloc (.cells #[.int .i64 0] 3)) := (by repeat (first | exact XE.refl _ | apply XE.ext | apply XE.alloc | apply XE.drew | apply XE.drewN))
  have hc0 : (w.alloc (.cells #[.int .i64 0] 3)).cell? ⟨w.heap.size, 0, none⟩ = some (costs n 0) := by
    have := (Cells.made (w := w) (cs := #[.int .i64 0]) (t := 3) (n := 1) (g := fun _ => .int .i64 0) rfl fun j hj => by
      obtain rfl : j = 0 := by omega
      rfl).cell 0 (by omega)
    rw [this]; unfold costs; rw [bit_zero]; rfl
  have hn0 : OwnVals w (w.alloc (.cells #[.int .i64 0] 3)) 3 (.slice none 0 0) 0 (costs n) := OwnVals.nil _ _ _ _
  have HX0 := Lib.hid hx0; have HC0 := Lib.hid hc0; have HN0 := Lib.hid hn0
  clear hx0 hc0 hn0
  go_enter Tryd.func86, Tryd.ntmps86
  go_upto_region 5 with (at_builtin; (with_reducible refine wpList_append_one ?_ (.tmp 18) (.tmp 19) 116 ?_ 3 inf z 8 Tryd.underlying116 HI1.out HI2.out HI3.out HI4.out HI5.out (.slice none 0 0) 0 (costs n) ?_ HN0.out HX0.out w.heap.size ?_ HC0.out ?_ (by omega) (by omega) ?_); (· rfl); (· rfl); (· rfl); (· rfl); (· rfl); intro v1 w1 hv1 hx1)
  clear HX0 HC0 HN0
  have d1 : decide ((n : Int) ≤ 8) = true := by simp; omega
  go_wp2
  go_loopw [3, 4] (fun v i wr => ∃ k : Nat, 1 ≤ k ∧ k ≤ cap n + 1 ∧ k ≤ 33 ∧ i = .int .i64 k ∧ OwnVals w wr 3 v k (costs n) ∧ XE w wr) (fun _ i _ => 33 - (intOf i).toNat)
  case atStart => exact ⟨1, by omega, by omega, by omega, rfl, hv1, hx1⟩
  case round =>
    obtain ⟨k, hk1, hkc, hk33, rfl, hv, hx⟩ := hrel
    have hcl := cap_le n
    by_cases hlt : k ≤ 32
    · have hvk := refV_any n k wr (by omega) hlt
      have hV := V_lt (n := n) (k := k)
      have hsm := cap_small h1 h8 hlt
      have hp := V_pos (n := n) (k := k) h1 (by omega) hlt
      have HVK := Lib.hid hvk; clear hvk
      by_cases hc : k ≤ cap n
      · have hVs := hsm.2 hc
        have hbs := bit_small h1 h8 hk1 hc
        have hln := refLen_any (V n k - 1) wr (by omega)
        have hbl := bitLen_le64 (V n k - 1)
        rw [show ((V n k - 1 : Nat) : Int) = (V n k : Int) - 1 by omega] at hln
        have HLN := Lib.hid hln; clear hln
        have HBS := Lib.hid hbs; clear hbs
        clear hsm hV
        have hcell : (wr.alloc (.cells #[.int .i64 ((Lib.bitLen (V n k - 1) : Int) + 1)] 3)).cell? ⟨wr.heap.size, 0, none⟩ = some (costs n k) := by
          have := (Cells.made (w := wr) (cs := #[.int .i64 ((Lib.bitLen (V n k - 1) : Int) + 1)]) (t := 3) (n := 1) (g := fun _ => .int .i64 ((Lib.bitLen (V n k - 1) : Int) + 1)) rfl fun j hj => by
            obtain rfl : j = 0 := by omega
            rfl).cell 0 (by omega)
          rw [this]; unfold costs; rw [HBS.out]; rfl
        have HV := Lib.hid (OwnVals.x hv ((XE.refl wr).alloc (.cells #[.int .i64 ((Lib.bitLen (V n k - 1) : Int) + 1)] 3)))
        have HX := Lib.hid (hx.alloc (.cells #[.int .i64 ((Lib.bitLen (V n k - 1) : Int) + 1)] 3))
        have HC := Lib.hid hcell; clear hcell hv hx
        generalize Lib.bitLen (V n k - 1) = lb at *
        generalize V n k = vv at *
        go_wp2_with (first
          | (go_at_call 109; (with_reducible refine HVK.out.mono ?_); rintro e w' ⟨rfl, hw'⟩; obtain rfl := hw'.symm)
          | (go_at_call 110; (with_reducible refine HLN.out.mono ?_); rintro e w' ⟨rfl, hw'⟩; obtain rfl := hw'.symm)
          | (at_builtin; (with_reducible refine wpList_append_one ?_ (.tmp 33) (.tmp 38) 116 ?_ 3 inf z 8 Tryd.underlying116 HI1.out HI2.out HI3.out HI4.out HI5.out _ k (costs n) ?_ HV.out HX.out wr.heap.size ?_ HC.out ?_ (by omega) (by omega) ?_); (· rfl); (· rfl); (· rfl); (· rfl); (· rfl); intro v2 w2 hv2 hx2))
        go_roundw
        case rel =>
          exact ⟨k + 1, by omega, by omega, by omega, by go_num, hv2, hx2⟩
        case measure => simp [intOf]; omega
      · have hVs : 1048576 < V n k := by
          have := mt hsm.1 hc; omega
        have hke : k = cap n + 1 := by omega
        have HKE := Lib.hid hke
        clear hsm hke
        generalize V n k = vv at *
        go_wp2_with (go_at_call 109; (with_reducible refine HVK.out.mono ?_); rintro e w' ⟨rfl, hw'⟩; obtain rfl := hw'.symm)
        go_ret
        exact ⟨_, rfl, by rw [← HKE.out]; exact hv, hx⟩
    · obtain rfl : k = cap n + 1 := by omega
      go_wp2
      go_ret
      exact ⟨_, rfl, hv, hx⟩
end Go.Proofs.YtkcambhojpafkaaDoor
