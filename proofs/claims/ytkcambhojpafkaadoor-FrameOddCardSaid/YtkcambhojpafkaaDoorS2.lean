/- The walk of layer 12's table: it holds how many vectors there are, and their sums. -/
import Derived.Test.YtkcambhojpafkaaDoorProg
import Derived.Test.YtkcambhojpafkaaDoorB1
import Derived.Test.YtkcambhojpafkaaDoorM2
import Derived.Deep.DeepCutAuto
set_option linter.unusedSimpArgs false
set_option linter.unusedVariables false
namespace Go.Proofs.YtkcambhojpafkaaDoor
open Go Go.RowKit

/-- A table at block b. -/
def TableAt (w : World) (b : Nat) : Prop := Cells w b 1139 (fun j => .int .u64 (tc 17 0 0 j))
theorem TableAt.x {w w' : World} {b : Nat} (h : TableAt w b) (hx : XE w w') : TableAt w' b := Cells.x h hx
theorem TableAt.v {w : World} {b n k : Nat} (h : TableAt w b) (hn : n ≤ 16) (hk : k ≤ 32) : w.cell? ⟨b, n * 67 + k, none⟩ = some (.int .u64 (V n k)) := by
  rw [Cells.cell h _ (by omega), tc_v (by omega) (.inl (by omega))]
theorem TableAt.s {w : World} {b n k : Nat} (h : TableAt w b) (hn : n ≤ 16) (hk : k ≤ 33) : w.cell? ⟨b, n * 67 + 33 + k, none⟩ = some (.int .u64 (S n k)) := by
  rw [Cells.cell h _ (by omega), tc_s (by omega) (.inl (by omega))]

/-- What a call comes to that answers a pointer to a block of its own, of which Q holds; all that was there is left alone. -/
def RetP (Q : World → Nat → Prop) (w : World) (e : Ending) (w' : World) : Prop := ∃ b, e = .returned (.pointer (some ⟨b, 0, none⟩)) ∧ w.heap.size ≤ b ∧ Q w' b ∧ XE w w'

theorem zero_table : Tryd.zeroCells162 = Array.replicate 1139 (.int .u64 0) := by kernel_rfl
theorem info_row : (Tryd.prog.info? 156).map (·.size) = some 33 := by kernel_rfl
theorem info_u64 : (Tryd.prog.info? 127).map (·.size) = some 1 := by kernel_rfl
theorem wrap_u64 {x : Int} (h0 : 0 ≤ x) (h : x < 18446744073709551616) : IntKind.u64.wrap x = x := by
  simp only [IntKind.wrap]
  first | omega | (simp [IntKind.bits, IntKind.signed]; omega)

set_option maxRecDepth 100000 in
set_option maxHeartbeats 1000000 in
theorem tableNew_any (w : World) : Calls Tryd.prog 50 #[] w (RetP TableAt w) := by
  have hz := zero_table
  have HZ := Lib.hid hz; clear hz
  have hz0 : Tryd.zeroCells162.size = 1139 := by rw [HZ.out]; simp
  go_enter Tryd.func50, Tryd.ntmps50
  go_wp2
  go_loopw [16] (fun i wr => ∃ n : Nat, n ≤ 17 ∧ i = .int .i64 n ∧ Cells wr w.heap.size 1139 (fun j => .int .u64 (tc n (if n = 0 then 33 else 0) 0 j)) ∧ XE w wr) (fun i _ => 17 - (intOf i).toNat)
  case atStart =>
    refine ⟨0, by omega, rfl, ?_, (by repeat (first | exact XE.refl _ | apply XE.ext | apply XE.alloc | apply XE.drew | apply XE.drewN))⟩
    have := Cells.new w (Tryd.zeroCells162.setIfInBounds 0 (.int .u64 1)) 162
    rw [Array.size_setIfInBounds, hz0] at this
    refine this.congr fun j hj => ?_
    rw [HZ.out, if_pos rfl]
    by_cases h : j = 0
    · subst h; rw [tc_zero0]; simp
    · rw [tc_zero h, Array.getD_eq_getD_getElem?, Array.getElem?_setIfInBounds, if_neg (by omega), Array.getElem?_replicate, if_pos hj]; rfl
  case round =>
    obtain ⟨n, hn, rfl, hc, hx⟩ := hrel
    by_cases hlt : n < 17
    · go_upto_if 25 with (fail)
      go_cut [4, 5] (fun _ _ wx => Cells wx w.heap.size 1139 (fun j => .int .u64 (tc n 33 0 j)) ∧ XE w wx)
      case first =>
        by_cases h0 : n = 0
        · subst h0
          go_wp2
          go_meet
          exact ⟨hc, hx⟩
        · obtain ⟨m, rfl⟩ : ∃ m, n = m + 1 := ⟨n - 1, by omega⟩
          have c1 := hc.cell ((m + 1) * 67) (by omega)
          have f1 := hc.free ((m + 1) * 67) (by omega)
          go_wp2
          have hc2 := hc.put (j := (m + 1) * 67) (by omega) (.int .u64 1) (h := fun j => .int .u64 (tc (m + 1) 1 0 j)) (fun i hi => by
            rw [if_neg h0]
            refine ite_int ?_
            have := tc_put_v (n := m + 1) (k := 0) (ks := 0) (by omega) i
            rw [V_zero (by omega)] at this
            exact this)
          have hx2 := hx.setCell (a := ⟨w.heap.size, (m + 1) * 67, none⟩) (by simp) (.int .u64 1)
          clear hc hx c1 f1
          generalize wr.setCell ⟨w.heap.size, (m + 1) * 67, none⟩ (.int .u64 1) = w2 at *
          go_loopw [5] (fun i wr => ∃ k : Nat, k < 33 ∧ i = .int .i64 (↑(k + 1) : Int) ∧ Cells wr w.heap.size 1139 (fun j => .int .u64 (tc (m + 1) (k + 1) 0 j)) ∧ XE w wr) (fun i _ => 34 - (intOf i).toNat)
          case atStart => exact ⟨0, by omega, rfl, hc2, hx2⟩
          case round =>
            clear hc2 hx2
            obtain ⟨k, hk, rfl, hc, hx⟩ := hrel
            by_cases hlk : k < 32
            · have c1 := hc.cell (m * 67 + (k + 1)) (by omega)
              have c2 := hc.cell ((m + 1) * 67 + k) (by omega)
              have c3 := hc.cell (m * 67 + k) (by omega)
              have c4 := hc.cell ((m + 1) * 67 + (k + 1)) (by omega)
              have f4 := hc.free ((m + 1) * 67 + (k + 1)) (by omega)
              simp only [tc_v (show k + 1 < 33 by omega) (show m < m + 1 ∨ m = m + 1 ∧ k + 1 < k + 1 from .inl (by omega))] at c1
              simp only [tc_v (show k < 33 by omega) (show m + 1 < m + 1 ∨ m + 1 = m + 1 ∧ k < k + 1 from .inr ⟨rfl, by omega⟩)] at c2
              simp only [tc_v (show k < 33 by omega) (show m < m + 1 ∨ m = m + 1 ∧ k < k + 1 from .inl (by omega))] at c3
              go_wp2
              refine wp_region_grown_tail 27 (by kernel_rfl) (by kernel_rfl) ?_; simp only [List.take_succ_cons, List.take_zero, List.drop_succ_cons, List.drop_zero]; (repeat (go_big_quiet_step (fail))); refine wpQuiet_nil ?_; rintro _ ⟨dq, rfl⟩
              go_wp2
              go_roundw
              case rel =>
                refine ⟨k + 1, by omega, by go_num, ?_, ?_⟩
                · have v1 := @V_lt m (k + 1)
                  have v2 := @V_lt (m + 1) k
                  have v3 := @V_lt m k
                  rw [wrap_u64 (x := ↑(V m (k + 1)) + ↑(V (m + 1) k)) (by omega) (by omega), wrap_u64 (by omega) (by omega)]
                  refine (hc.x ⟨dq, rfl⟩).put (by omega) _ (fun i hi => ite_int ?_)
                  have hv := V_succ (n := m) (k := k) (by omega) (by omega)
                  have := tc_put_v (n := m + 1) (k := k + 1) (ks := 0) (by omega) i
                  rw [hv] at this
                  exact this
                · exact (hx.ext dq).setCell (by simp) _
              case measure => simp [intOf]; omega
            · obtain rfl : k = 32 := by omega
              go_wp2
              go_meet
              exact ⟨hc, hx⟩
      case rest =>
        clear hc hx
        obtain ⟨hc, hx⟩ := hcut
        have hload : ∀ j, j < 33 → wc.cell? ⟨w.heap.size, n * 67 + j, none⟩ = some (.int .u64 (V n j)) := fun j hj => by
          rw [hc.cell _ (by omega), tc_v hj (.inr ⟨rfl, by omega⟩)]
        go_wp2_with (refine wpList_load_part 156 (.tmp 69) rfl rfl w.heap.size (n * 67) 33 rfl (fun j => .int .u64 (V n j)) _ hload Tryd.underlying156 rfl info_row ?_)
        clear hload
        go_loopw [71] (fun i wr => ∃ k : Nat, k ≤ 33 ∧ i = .int .i64 k ∧ Cells wr w.heap.size 1139 (fun j => .int .u64 (tc n 33 k j)) ∧ XE w wr) (fun i _ => 33 - (intOf i).toNat)
        case atStart => exact ⟨0, by omega, rfl, hc, hx⟩
        case round =>
          clear hc hx
          obtain ⟨k, hk, rfl, hc, hx⟩ := hrel
          by_cases hlk : k < 33
          · have c1 := hc.cell (n * 67 + 33 + k) (by omega)
            have c2 := hc.cell (n * 67 + 33 + (k + 1)) (by omega)
            have f2 := hc.free (n * 67 + 33 + (k + 1)) (by omega)
            have r1 := fun w => run_index_row (P := Tryd.prog) (k := .i64) Tryd.underlying156 Tryd.underlying127 rfl info_u64 hlk (mkRow_get (fun j => Value.int .u64 (V n j)) hlk) w
            simp only [tc_s (show k < 34 by omega) (show n < n ∨ n = n ∧ k ≤ k from .inr ⟨rfl, by omega⟩)] at c1
            have s1 := @S_lt n k (by omega)
            have s2 := @V_lt n k
            go_wp2
            refine wp_region_grown_tail 14 (by kernel_rfl) (by kernel_rfl) ?_; simp only [List.take_succ_cons, List.take_zero, List.drop_succ_cons, List.drop_zero]; (repeat (go_big_quiet_step (fail))); refine wpQuiet_nil ?_; rintro _ ⟨dq, rfl⟩
            go_wp2
            go_roundw
            case rel =>
              refine ⟨k + 1, by omega, by go_num, ?_, ?_⟩
              · refine (hc.x ⟨dq, rfl⟩).put (by omega) _ (fun i hi => ite_int ?_)
                have := tc_put_s (n := n) (k := k) (by omega) i
                rw [S_succ] at this
                exact this
              · exact (hx.ext dq).setCell (by simp) _
            case measure => simp [intOf]; omega
          · obtain rfl : k = 33 := by omega
            go_wp2
            go_roundw
            case rel =>
              refine ⟨n + 1, by omega, by go_num, hc.congr fun j hj => ?_, hx⟩
              rw [if_neg (by omega), tc_next]
            case measure => simp [intOf]; omega
    · obtain rfl : n = 17 := by omega
      go_wp2
      go_ret
      exact ⟨_, rfl, Nat.le_refl _, hc, hx⟩
end Go.Proofs.YtkcambhojpafkaaDoor
