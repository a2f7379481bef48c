/- The walk of layer 13's New: the sheet is whole. -/
import Derived.Test.YtkcambhojpafkaaDoorProg
import Derived.Test.YtkcambhojpafkaaDoorS4
import Derived.Deep.DeepCutAuto
set_option linter.unusedSimpArgs false
set_option linter.unusedVariables false
namespace Go.Proofs.YtkcambhojpafkaaDoor
open Go Go.RowKit

theorem zero_sheet : Tryd.zeroCells125 = Array.replicate 578 (.int .i64 0) := by kernel_rfl

def CapInv (w : World) (n : Nat) (wr : World) : Prop := ∃ c : Nat, cap n ≤ c ∧ c ≤ 32 ∧ Cells wr w.heap.size 578 (fun j => .int .i64 (sc n c 1 j)) ∧ XE w wr
set_option maxRecDepth 100000 in
set_option maxHeartbeats 1000000 in
theorem costNew_any (tb : Nat) (w : World) (ht : TableAt w tb) : Calls Tryd.prog 49 #[.pointer (some ⟨tb, 0, none⟩)] w (RetP SheetAt w) := by
  have hz := zero_sheet
  have HZ := Lib.hid hz; clear hz
  have hz0 : Tryd.zeroCells125.size = 578 := by rw [HZ.out]; simp
  have HT := Lib.hid ht; clear ht
  go_enter Tryd.func49, Tryd.ntmps49
  go_wp2
  go_loopw [4] (fun i wr => ∃ n : Nat, 1 ≤ n ∧ n ≤ 17 ∧ i = .int .i64 n ∧ Cells wr w.heap.size 578 (fun j => .int .i64 (sc n 0 1 j)) ∧ XE w wr) (fun i _ => 17 - (intOf i).toNat)
  case atStart =>
    refine ⟨1, by omega, by omega, rfl, ?_, (by repeat (first | exact XE.refl _ | apply XE.ext | apply XE.alloc | apply XE.drew | apply XE.drewN))⟩
    have := Cells.new w (Tryd.zeroCells125.setIfInBounds 0 (.int .i64 (-1))) 125
    rw [Array.size_setIfInBounds, hz0] at this
    refine this.congr fun j hj => ?_
    rw [HZ.out]
    by_cases h : j = 0
    · subst h; rw [sc_zero0]; simp
    · rw [sc_zero h, Array.getD_eq_getD_getElem?, Array.getElem?_setIfInBounds, if_neg (by omega), Array.getElem?_replicate, if_pos hj]; rfl
  case round =>
    obtain ⟨n, h1, hn, rfl, hc, hx⟩ := hrel
    by_cases hlt : n < 17
    · have hcl := cap_le n
      have d1 : decide ((n : Int) ≤ 16) = true := by simp; omega
      go_upto_if 17 with (fail)
      go_cut [] (fun wx => Cells wx w.heap.size 578 (fun j => .int .i64 (sc n (cap n) 1 j)) ∧ XE w wx)
      case first =>
        have c1 := hc.cell n (by omega)
        have f1 := hc.free n (by omega)
        by_cases h8 : n ≤ 8
        · have d2 : decide ((n : Int) ≤ 8) = true := by simp; omega
          go_wp2
          have hc2 := hc.put (j := n) (by omega) (.int .i64 32) (h := fun j => .int .i64 (sc n 32 1 j)) (fun i hi => ite_int (sc_put_c h1 hlt 0 32 i))
          have hx2 := hx.setCell (a := ⟨w.heap.size, n, none⟩) (by simp) (.int .i64 32)
          clear hc hx c1 f1
          generalize wr.setCell ⟨w.heap.size, n, none⟩ (.int .i64 32) = w2 at *
          simp only [d1, d2]
          go_loopw [] (fun wr => CapInv w n wr) (fun wr => (intOf ((wr.cell? ⟨w.heap.size, n, none⟩).getD undef)).toNat)
          case atStart => exact ⟨32, hcl, by omega, hc2, hx2⟩
          case round =>
            clear hc2 hx2
            obtain ⟨c, hc1, hc32, hc, hx⟩ := hrel
            have c1 := hc.cell n (by omega)
            have f1 := hc.free n (by omega)
            rw [sc_at h1 hlt] at c1
            have hs := cap_small (k := c) h1 h8 (by omega)
            have hn' : ((n : Int).toNat) = n := by omega
            have hc' : ((c : Int).toNat) = c := by omega
            by_cases hg : c ≤ cap n
            · obtain rfl : c = cap n := by omega
              have hv := hs.2 hg
              clear hs
              go_wp2_with (go_at_call 82; (with_reducible refine (tableV_any _ _ _ _ (HT.out.x hx) (by omega) (by omega) (by omega) (by omega)).mono ?_); rintro e w' ⟨rfl, rfl⟩)
              go_meet
              exact ⟨hc, hx⟩
            · have hv : ¬ V n c ≤ 1048576 := fun h => hg (hs.1 h)
              clear hs
              obtain ⟨e, rfl⟩ : ∃ e, c = e + 1 := ⟨c - 1, by omega⟩
              go_wp2_with (go_at_call 82; (with_reducible refine (tableV_any _ _ _ _ (HT.out.x hx) (by omega) (by omega) (by omega) (by omega)).mono ?_); rintro e w' ⟨rfl, rfl⟩)
              refine wp_region_grown_tail 10 (by kernel_rfl) (by kernel_rfl) ?_; simp only [List.take_succ_cons, List.take_zero, List.drop_succ_cons, List.drop_zero]; (repeat (go_big_quiet_step (fail))); refine wpQuiet_nil ?_; rintro _ ⟨dq, rfl⟩
              go_wp2
              refine ⟨⟨e, by omega, by omega, ?_, ?_⟩, ?_⟩
              · refine (hc.x ⟨dq, rfl⟩).put (by omega) _ (fun i hi => ite_int ?_)
                exact sc_put_c h1 hlt _ _ i
              · exact (hx.ext dq).setCell (by simp) _
              · have hd := (hc.x ⟨dq, rfl⟩).put (j := n) (by omega) (.int .i64 (e : Int)) (h := fun j => .int .i64 (sc n e 1 j)) (fun i hi => ite_int (sc_put_c h1 hlt _ _ i))
                have hd1 := hd.cell n (by omega)
                rw [sc_at h1 hlt] at hd1
                rw [hd1, c1]
                simp [intOf]
        · have hcg := cap_great (n := n) (by omega) (by omega)
          have c2 := hc.cell (n / 2) (by omega)
          have c3 := hc.cell (n - n / 2) (by omega)
          rw [sc_cap (by omega) (by omega) (by omega)] at c2
          rw [sc_cap (by omega) (by omega) (by omega)] at c3
          have HG := Lib.hid hcg; clear hcg
          have q1 := cap_le (n / 2)
          have q2 := cap_le (n - n / 2)
          go_wp2
          refine wp_region_grown_tail 22 (by kernel_rfl) (by kernel_rfl) ?_; simp only [List.take_succ_cons, List.take_zero, List.drop_succ_cons, List.drop_zero]; (repeat (go_big_quiet_step (fail))); refine wpQuiet_nil ?_; rintro _ ⟨dq, rfl⟩
          go_wp2
          go_meet
          refine ⟨(hc.x ⟨dq, rfl⟩).put (by omega) _ (fun i hi => ite_int ?_), (hx.ext dq).setCell (by simp) _⟩
          rw [HG.out, ← sc_put_c h1 hlt 0 _ i]
          have := sc_put_c (n := n) (k := 1) h1 hlt 0 (min (cap (n / 2)) (cap (n - n / 2)) : Nat) i
          rw [← this]
          by_cases h : i = n
          · rw [if_pos h, if_pos h]; omega
          · rw [if_neg h, if_neg h, if_neg h]
      case rest =>
        clear hc hx
        obtain ⟨hc, hx⟩ := hcut
        go_wp2
        go_loopw [5] (fun i wr => ∃ k : Nat, 1 ≤ k ∧ k ≤ cap n + 1 ∧ i = .int .i64 k ∧ Cells wr w.heap.size 578 (fun j => .int .i64 (sc n (cap n) k j)) ∧ XE w wr) (fun i _ => 34 - (intOf i).toNat)
        case atStart => exact ⟨1, by omega, by omega, rfl, hc, hx⟩
        case round =>
          clear hc hx
          obtain ⟨k, k1, hk, rfl, hc, hx⟩ := hrel
          have c1 := hc.cell n (by omega)
          rw [sc_at h1 hlt] at c1
          by_cases hlk : k ≤ cap n
          · have c4 := hc.cell (17 + n * 33 + k) (by omega)
            have f4 := hc.free (17 + n * 33 + k) (by omega)
            have hwork : ∀ d, Calls Tryd.prog 83 #[.pointer (some ⟨w.heap.size, 0, none⟩), .pointer (some ⟨tb, 0, none⟩), .int .i64 n, .int .i64 k] (ext wr d) (RetE (.int .i64 (bit n k)) (ext wr d)) := fun d => by
              by_cases h8 : n ≤ 8
              · exact work_small _ _ _ _ _ ((HT.out.x hx).x (xe_ext _ _)) h1 h8 k1 hlk
              · refine work_great _ _ _ _ _ (by omega) (by omega) k1 hlk (fun a ha => (xe_ext wr d).cell ?_) (fun a ha => (xe_ext wr d).cell ?_)
                · rw [hc.cell _ (by omega), sc_bit (by omega) (by omega)]
                · rw [hc.cell _ (by omega), sc_bit (by omega) (by omega)]
            have HW := Lib.hid hwork; clear hwork
            go_wp2
            refine wp_region_grown_tail 12 (by kernel_rfl) (by kernel_rfl) ?_; simp only [List.take_succ_cons, List.take_zero, List.drop_succ_cons, List.drop_zero]; (repeat (go_big_quiet_step ((go_at_call 83; exact quietE (HW.out _))))); refine wpQuiet_nil ?_; rintro _ ⟨dq, rfl⟩
            go_wp2
            go_roundw
            case rel =>
              refine ⟨k + 1, by omega, by omega, by go_num, ?_, ?_⟩
              · refine (hc.x ⟨dq, rfl⟩).put (by omega) _ (fun i hi => ite_int ?_)
                exact sc_put_b (by omega) _ i
              · exact (hx.ext dq).setCell (by simp) _
            case measure => simp [intOf]; omega
          · obtain rfl : k = cap n + 1 := by omega
            go_wp2
            go_roundw
            case rel =>
              refine ⟨n + 1, by omega, by omega, by go_num, hc.congr fun j hj => ?_, hx⟩
              rw [sc_next h1 (by omega)]
            case measure => simp [intOf]; omega
    · obtain rfl : n = 17 := by omega
      go_wp2
      go_ret
      exact ⟨_, rfl, Nat.le_refl _, hc, hx⟩
end Go.Proofs.YtkcambhojpafkaaDoor
