/- The document's rows of costs (layer 13), the wide ones; and any one. -/
import Derived.Test.YtkcambhojpafkaaDoorS17
import Derived.Test.YtkcambhojpafkaaDoorB6
set_option linter.unusedSimpArgs false
set_option linter.unusedVariables false
namespace Go.Proofs.YtkcambhojpafkaaDoor
open Go Go.RowKit

/-- One value of the call's own, just made. -/
theorem one_cell (w : World) (v : Value) (t : TypeId) : (w.alloc (.cells #[v] t)).cell? ⟨w.heap.size, 0, none⟩ = some v := by
  have := (Cells.made (w := w) (cs := #[v]) (t := t) (n := 1) (g := fun _ => v) rfl fun j hj => by
    obtain rfl : j = 0 := by omega
    rfl).cell 0 (by omega)
  exact this

set_option maxRecDepth 100000 in
set_option maxHeartbeats 1000000 in
theorem refRow_great (n : Nat) (w : World) (h1 : 8 < n) (h8 : n ≤ 16) : Calls Tryd.prog 86 #[.int .i64 n] w (RetRow n w) := by
  obtain ⟨inf, z, hi1, hi2, hi3, hi4, hi5⟩ := int_info
  have HI1 := Lib.hid hi1; have HI2 := Lib.hid hi2; have HI3 := Lib.hid hi3; have HI4 := Lib.hid hi4; have HI5 := Lib.hid hi5
  clear hi1 hi2 hi3 hi4 hi5
  have hx0 : XE w (w.alloc (.cells #[.int .i64 0] 3)) := (by repeat (first | exact XE.refl _ | apply XE.ext | apply XE.alloc | apply XE.drew | apply XE.drewN))
  have hc0 : (w.alloc (.cells #[.int .i64 0] 3)).cell? ⟨w.heap.size, 0, none⟩ = some (costs n 0) := by
    rw [one_cell]; unfold costs; rw [bit_zero]; rfl
  have hn0 : OwnVals w (w.alloc (.cells #[.int .i64 0] 3)) 3 (.slice none 0 0) 0 (costs n) := OwnVals.nil _ _ _ _
  have HX0 := Lib.hid hx0; have HC0 := Lib.hid hc0; have HN0 := Lib.hid hn0
  clear hx0 hc0 hn0
  go_enter Tryd.func86, Tryd.ntmps86
  go_upto_region 5 with (at_builtin; (with_reducible refine wpList_append_one ?_ (.tmp 18) (.tmp 19) 116 ?_ 3 inf z 8 Tryd.underlying116 HI1.out HI2.out HI3.out HI4.out HI5.out (.slice none 0 0) 0 (costs n) ?_ HN0.out HX0.out w.heap.size ?_ HC0.out ?_ (by omega) (by omega) ?_); (· rfl); (· rfl); (· rfl); (· rfl); (· rfl); intro v1 w1 hv1 hx1)
  clear HX0 HC0 HN0
  have HV1 := Lib.hid hv1; have HX1 := Lib.hid hx1; clear hv1 hx1
  have d1 : decide ((n : Int) ≤ 8) = false := by simp; omega
  go_wp2_with fail
  have e1 : ((n : Int) / 2) = ((n / 2 : Nat) : Int) := by omega
  rw [e1]
  refine (refRow_small (n / 2) _ (by omega) (by omega)).mono ?_
  rintro e w2 ⟨v2, rfl, hv2, hx2⟩
  clear e1
  have HV2 := Lib.hid hv2; have HX2 := Lib.hid hx2; clear hv2 hx2
  go_wp2_with fail
  have e2 : ((n : Int) - (n : Int) / 2) = ((n - n / 2 : Nat) : Int) := by omega
  rw [e2]
  refine (refRow_small (n - n / 2) _ (by omega) (by omega)).mono ?_
  rintro e w3 ⟨v3, rfl, hv3, hx3⟩
  clear e2
  have g1 : ∃ b cp, v2 = .slice (some ⟨b, 0, none⟩) (cap (n / 2) + 1 : Nat) cp ∧ w1.heap.size ≤ b ∧ b < w3.heap.size ∧ ∀ j, j < cap (n / 2) + 1 → w3.cell? ⟨b, j, none⟩ = some (costs (n / 2) j) := by
    obtain ⟨b, cp, e, hb, -, -, hc⟩ := (OwnVals.x HV2.out hx3).block (by omega)
    exact ⟨b, cp, e, hb, World.block_lt_of_cell? _ _ (hc 0 (by omega)), hc⟩
  have g2 : ∃ b cp, v3 = .slice (some ⟨b, 0, none⟩) (cap (n - n / 2) + 1 : Nat) cp ∧ w1.heap.size ≤ b ∧ b < w3.heap.size ∧ ∀ j, j < cap (n - n / 2) + 1 → w3.cell? ⟨b, j, none⟩ = some (costs (n - n / 2) j) := by
    obtain ⟨b, cp, e, hb, -, -, hc⟩ := hv3.block (by omega)
    exact ⟨b, cp, e, Nat.le_trans HX2.out.size hb, World.block_lt_of_cell? _ _ (hc 0 (by omega)), hc⟩
  obtain ⟨b1, cp1, rfl, ga0, ga1, ga⟩ := g1
  obtain ⟨b2, cp2, rfl, gb0, gb1, gb⟩ := g2
  have HX3 := Lib.hid (HX1.out.trans (HX2.out.trans hx3))
  have HF := Lib.hid (show ∀ q, v1.ownBlock = some q → w.heap.size ≤ q ∧ q ≠ b1 ∧ q ≠ b2 from fun q hq => by
    have h0 := OwnVals.fresh HV1.out hq
    have h9 := Own.lt (OwnVals.own HV1.out) hq
    exact ⟨h0, by omega, by omega⟩)
  have HV := Lib.hid (Own.x (OwnVals.own HV1.out) (HX2.out.trans hx3))
  have HGA := Lib.hid ga; have HGB := Lib.hid gb
  clear ga gb hv3 hx3 HV2 HX2 HX1 HV1 ga0 gb0 ga1 gb1
  have hg := cap_great (n := n) (by omega) h8
  have hcl := cap_le n
  have hcl1 := cap_le (n / 2)
  have hcl2 := cap_le (n - n / 2)
  obtain ⟨c1, hc1⟩ : ∃ c, cap (n / 2) + 1 = c := ⟨_, rfl⟩
  obtain ⟨c2, hc2⟩ : ∃ c, cap (n - n / 2) + 1 = c := ⟨_, rfl⟩
  rw [hc1] at HGA ⊢
  rw [hc2] at HGB ⊢
  have hm : cap n + 1 = min c1 c2 := by omega
  have m1 : cap n + 1 ≤ c1 := by omega
  have m2 : cap n + 1 ≤ c2 := by omega
  have m3 : c1 ≤ cap n + 1 ∨ c2 ≤ cap n + 1 := by omega
  clear hm hg hcl1 hcl2 hc1 hc2
  go_wp2
  go_loopw [3, 8] (fun v i wr => ∃ k : Nat, 1 ≤ k ∧ k ≤ cap n + 1 ∧ i = .int .i64 k ∧ Own wr 3 1 v k (costs n) ∧ (∀ q, v.ownBlock = some q → w.heap.size ≤ q ∧ q ≠ b1 ∧ q ≠ b2) ∧ XE w wr ∧
    (∀ j, j < c1 → wr.cell? ⟨b1, j, none⟩ = some (costs (n / 2) j)) ∧ ∀ j, j < c2 → wr.cell? ⟨b2, j, none⟩ = some (costs (n - n / 2) j)) (fun _ i _ => 40 - (intOf i).toNat)
  case atStart => exact ⟨1, by omega, by omega, rfl, HV.out, HF.out, HX3.out, HGA.out, HGB.out⟩
  case round =>
    clear HV HX3 HF HGA HGB
    obtain ⟨k, hk1, hkc, rfl, hv, hf, hx, hga, hgb⟩ := hrel
    by_cases hlt : k ≤ cap n
    · have HV := Lib.hid hv; have HX := Lib.hid hx; have HF := Lib.hid hf; have HGA := Lib.hid hga; have HGB := Lib.hid hgb
      clear hv hx hf hga hgb
      have q1 : k < c1 := by omega
      have q2 : k < c2 := by omega
      obtain ⟨wo, hwo⟩ : ∃ wo : World, wo = wr := ⟨_, rfl⟩
      rw [← hwo] at HV HX HGA HGB ⊢
      clear hwo
      go_wp2
      go_loopw [9, 10] (fun m i wi => ∃ a : Nat, a ≤ k + 1 ∧ i = .int .i64 a ∧ m = .int .i64 (most n k a) ∧ XE wo wi) (fun _ i _ => k + 1 - (intOf i).toNat)
      case atStart => exact ⟨0, by omega, rfl, rfl, XE.refl _⟩
      case round =>
        obtain ⟨a, hak, rfl, rfl, hxi⟩ := hrel
        have HXI := Lib.hid hxi; clear hxi
        have b3 := most_le n k a
        by_cases hla : a ≤ k
        · have l1 := bit_le (n / 2) a
          have l2 := bit_le (n - n / 2) (k - a)
          have y1 : wr.cell? ⟨b1, a, none⟩ = some (.int .i64 (bit (n / 2) a)) := HXI.out.cell (HGA.out a (by omega))
          have y2 : wr.cell? ⟨b2, k - a, none⟩ = some (.int .i64 (bit (n - n / 2) (k - a))) := HXI.out.cell (HGB.out (k - a) (by omega))
          go_wp2
          refine wp_region_grown (by kernel_rfl) (by kernel_rfl) ?_; (repeat (go_big_quiet_step (fail))); refine wpQuiet_nil ?_; rintro _ ⟨dq, rfl⟩
          go_wp2
          · refine wp_region_grown (by kernel_rfl) (by kernel_rfl) ?_; (repeat (go_big_quiet_step (fail))); refine wpQuiet_nil ?_; rintro _ ⟨dq, rfl⟩
            go_wp2
            go_roundw
            case rel => exact ⟨a + 1, by omega, by go_num, by simp only [most]; go_num, HXI.out.ext _⟩
            case measure => simp [intOf]; omega
          · go_roundw
            case rel => exact ⟨a + 1, by omega, by go_num, by simp only [most]; go_num, HXI.out.ext _⟩
            case measure => simp [intOf]; omega
        · obtain rfl : a = k + 1 := by omega
          have hbs := bit_great (n := n) (k := k) h1 h8 hk1 hlt
          have hln := refLen_any k wr (by omega)
          have hl64 := bitLen_le64 k
          generalize hmo : most n k (k + 1) = mo at *
          generalize hlb : Lib.bitLen k = lb at *
          have hcell : ∀ j, j < 1 * 1 → (wr.alloc (.cells #[.int .i64 ((lb : Int) + 1 + mo)] 3)).cell? ⟨wr.heap.size, 0 + j, none⟩ = some (costs n (k * 1 + j)) := fun j hj => by
            obtain rfl : j = 0 := by omega
            rw [one_cell]; unfold costs; rw [Nat.mul_one, Nat.add_zero, hbs]; rfl
          have HLN := Lib.hid hln; have HC := Lib.hid hcell
          have HXI2 := Lib.hid (HXI.out.alloc (.cells #[.int .i64 ((lb : Int) + 1 + mo)] 3))
          have HVA := Lib.hid (Own.x HV.out HXI2.out)
          have HXA := Lib.hid (HX.out.trans HXI2.out)
          clear hln hcell hbs hmo hlb
          go_wp2_with (first
            | (go_at_call 110; (with_reducible refine HLN.out.mono ?_); rintro e w' ⟨rfl, hw'⟩; obtain rfl := hw'.symm)
            | (at_builtin; (with_reducible refine wpList_append_at ?_ (.tmp 90) (.tmp 97) 116 ?_ 3 inf z 1 8 Tryd.underlying116 HI1.out HI2.out HI3.out HI4.out HI5.out (by omega) _ k (costs n) ?_ HVA.out wr.heap.size 0 1 1 (by omega) ?_ HC.out ?_ (by omega) (by omega) ?_); (· rfl); (· rfl); (· rfl); (· rfl); (· intro j hj; rfl); intro v4 w4 hv4 hg4 hb4))
          have hsz := HXI2.out.size
          have hf4 : ∀ q, v4.ownBlock = some q → w.heap.size ≤ q ∧ q ≠ b1 ∧ q ≠ b2 := fun q hq => by
            have z1 := World.block_lt_of_cell? _ _ (HGA.out 0 (by omega))
            have z2 := World.block_lt_of_cell? _ _ (HGB.out 0 (by omega))
            have z3 := HX.out.size
            rcases hb4 with hb4 | hb4
            · exact HF.out q (by rw [← hb4]; exact hq)
            · rw [hb4] at hq
              obtain rfl := Option.some.inj hq
              exact ⟨by omega, fun e => by simp only at z1; omega, fun e => by simp only at z2; omega⟩
          have hx4 : XE w w4 := HXA.out.grownBy hg4 fun q hq => (HF.out q hq).1
          have ha4 : ∀ j, j < c1 → w4.cell? ⟨b1, j, none⟩ = some (costs (n / 2) j) := fun j hj => grownBy.cell hg4 (HXI2.out.cell (HGA.out j hj)) fun e => (HF.out b1 e.symm).2.1 rfl
          have hbb4 : ∀ j, j < c2 → w4.cell? ⟨b2, j, none⟩ = some (costs (n - n / 2) j) := fun j hj => grownBy.cell hg4 (HXI2.out.cell (HGB.out j hj)) fun e => (HF.out b2 e.symm).2.2 rfl
          clear hg4 hb4
          have HV4 := Lib.hid hv4; have HF4 := Lib.hid hf4; have HX4 := Lib.hid hx4; have HA4 := Lib.hid ha4; have HB4 := Lib.hid hbb4
          clear hv4 hf4 hx4 ha4 hbb4 hsz
          go_wp2
          go_roundw
          case rel => exact ⟨k + 1, by omega, by omega, by go_num, HV4.out, HF4.out, HX4.out, HA4.out, HB4.out⟩
          case measure => simp [intOf]; omega
    · obtain rfl : k = cap n + 1 := by omega
      have HV := Lib.hid (Own.vals hv fun q hq => (hf q hq).1)
      clear hf hga hgb hv
      rcases m3 with m3 | m3
      all_goals
        go_wp2
        all_goals
          go_ret
          exact ⟨_, rfl, HV.out, hx⟩
theorem refRow_any (n : Nat) (w : World) (h1 : 1 ≤ n) (h16 : n ≤ 16) : Calls Tryd.prog 86 #[.int .i64 n] w (RetRow n w) := by
  rcases Nat.lt_or_ge 8 n with h | h
  · exact refRow_great n w h h16
  · exact refRow_small n w h1 h
end Go.Proofs.YtkcambhojpafkaaDoor
