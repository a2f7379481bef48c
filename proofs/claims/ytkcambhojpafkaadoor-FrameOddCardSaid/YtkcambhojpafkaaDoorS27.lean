/- The statements' own words of layer 16: the energies of an ask, a frame as the document has it; Guess, Fines. -/
import Derived.Test.YtkcambhojpafkaaDoorS26
import Derived.Test.YtkcambhojpafkaaDoorS10
set_option linter.unusedSimpArgs false
set_option linter.unusedVariables false
namespace Go.Proofs.YtkcambhojpafkaaDoor
open Go Go.RowKit

/-- An ask's cells. -/
def askC (sl : Value) (z c : Int) (p : Nat → Int) : Nat → Value
  | 0 => sl
  | 1 => .int .u8 z
  | 2 => .int .u8 c
  | j + 3 => .int .u8 (p j)
def enF (p : Nat → Int) (n j : Nat) : Int := if j < n then p j % 32 else 0
set_option maxRecDepth 100000 in
set_option maxHeartbeats 1000000 in
theorem energies_any (sl : Value) (z c : Int) (p : Nat → Int) (w : World) (hp : ∀ j, j < 10 → 0 ≤ p j ∧ p j ≤ 255) :
    Calls Tryd.prog 38 #[.agg (mkRow 13 (askC sl z c p))] w (RetE (.agg (mkRow 10 fun j => .int .i64 (p j % 32))) w) := by
  have HP := Lib.hid hp; clear hp
  go_enter Tryd.func38, Tryd.ntmps38
  go_upto_region 2 with (fail)
  have ha := Cells.made (w := w) (cs := mkRow 13 (askC sl z c p)) (t := 89) (n := 13) (g := askC sl z c p) (mkRow_size _ _) (fun j hj => mkRow_get _ hj)
  have hr := Cells.made (w := w.alloc (.cells (mkRow 13 (askC sl z c p)) 89)) (cs := #[.int .i64 0, .int .i64 0, .int .i64 0, .int .i64 0, .int .i64 0, .int .i64 0, .int .i64 0, .int .i64 0, .int .i64 0, .int .i64 0]) (t := 55) (n := 10) (g := fun _ => .int .i64 0) rfl (fun j hj => (show (mkRow 10 fun _ => Value.int .i64 0)[j]? = _ from mkRow_get _ hj))
  have ho := Cells.made (w := (w.alloc (.cells (mkRow 13 (askC sl z c p)) 89)).alloc (.cells #[.int .i64 0, .int .i64 0, .int .i64 0, .int .i64 0, .int .i64 0, .int .i64 0, .int .i64 0, .int .i64 0, .int .i64 0, .int .i64 0] 55)) (cs := #[.int .i64 0, .int .i64 0, .int .i64 0, .int .i64 0, .int .i64 0, .int .i64 0, .int .i64 0, .int .i64 0, .int .i64 0, .int .i64 0]) (t := 55) (n := 10) (g := fun _ => .int .i64 0) rfl (fun j hj => (show (mkRow 10 fun _ => Value.int .i64 0)[j]? = _ from mkRow_get _ hj))
  rw [World.size_alloc] at hr
  rw [World.size_alloc, World.size_alloc] at ho
  have hxa : XE (w.alloc (.cells (mkRow 13 (askC sl z c p)) 89)) (((w.alloc (.cells (mkRow 13 (askC sl z c p)) 89)).alloc (.cells #[.int .i64 0, .int .i64 0, .int .i64 0, .int .i64 0, .int .i64 0, .int .i64 0, .int .i64 0, .int .i64 0, .int .i64 0, .int .i64 0] 55)).alloc (.cells #[.int .i64 0, .int .i64 0, .int .i64 0, .int .i64 0, .int .i64 0, .int .i64 0, .int .i64 0, .int .i64 0, .int .i64 0, .int .i64 0] 55)) := ((XE.refl _).alloc _).alloc _
  have hxr : XE ((w.alloc (.cells (mkRow 13 (askC sl z c p)) 89)).alloc (.cells #[.int .i64 0, .int .i64 0, .int .i64 0, .int .i64 0, .int .i64 0, .int .i64 0, .int .i64 0, .int .i64 0, .int .i64 0, .int .i64 0] 55)) (((w.alloc (.cells (mkRow 13 (askC sl z c p)) 89)).alloc (.cells #[.int .i64 0, .int .i64 0, .int .i64 0, .int .i64 0, .int .i64 0, .int .i64 0, .int .i64 0, .int .i64 0, .int .i64 0, .int .i64 0] 55)).alloc (.cells #[.int .i64 0, .int .i64 0, .int .i64 0, .int .i64 0, .int .i64 0, .int .i64 0, .int .i64 0, .int .i64 0, .int .i64 0, .int .i64 0] 55)) := (XE.refl _).alloc _
  have HA := Lib.hid (ha.x hxa); have HR := Lib.hid (hr.x hxr); have HO := Lib.hid ho; have HX := Lib.hid (((XE.refl w).alloc _).trans hxa)
  clear ha hr ho hxa hxr
  generalize ((w.alloc (.cells (mkRow 13 (askC sl z c p)) 89)).alloc (.cells #[.int .i64 0, .int .i64 0, .int .i64 0, .int .i64 0, .int .i64 0, .int .i64 0, .int .i64 0, .int .i64 0, .int .i64 0, .int .i64 0] 55)).alloc (.cells #[.int .i64 0, .int .i64 0, .int .i64 0, .int .i64 0, .int .i64 0, .int .i64 0, .int .i64 0, .int .i64 0, .int .i64 0, .int .i64 0] 55) = w1 at *
  go_wp2
  go_loopw [6] (fun i wr => ∃ n : Nat, n ≤ 2 ∧ i = .int .i64 n ∧ Cells wr (w.heap.size + 2) 10 (fun j => .int .i64 (enF p (5 * n) j)) ∧ Cells wr (w.heap.size + 1) 10 (fun _ => .int .i64 0) ∧ Cells wr w.heap.size 13 (askC sl z c p) ∧ XE w wr) (fun i _ => 2 - (intOf i).toNat)
  case atStart => exact ⟨0, by omega, rfl, HO.out.congr fun j hj => by simp [enF], HR.out, HA.out, HX.out⟩
  case round =>
    clear HA HR HO HX
    obtain ⟨n, hn, rfl, ho, hr, ha, hx⟩ := hrel
    have HO := Lib.hid ho; have HR := Lib.hid hr; have HA := Lib.hid ha; have HX := Lib.hid hx
    clear ho hr ha hx
    by_cases hlt : n < 2
    · obtain ⟨wo, hwo⟩ : ∃ wo : World, wo = wr := ⟨_, rfl⟩
      rw [← hwo] at HO HR HA HX ⊢
      clear hwo
      go_wp2
      go_loopw [9] (fun i wi => ∃ k : Nat, k ≤ 5 ∧ i = .int .i64 k ∧ Cells wi (w.heap.size + 2) 10 (fun j => .int .i64 (enF p (5 * n + k) j)) ∧ Cells wi (w.heap.size + 1) 10 (fun _ => .int .i64 0) ∧ Cells wi w.heap.size 13 (askC sl z c p) ∧ XE w wi) (fun i _ => 5 - (intOf i).toNat)
      case atStart => exact ⟨0, by omega, rfl, HO.out, HR.out, HA.out, HX.out⟩
      case round =>
        clear HA HR HO HX
        obtain ⟨k, hk, rfl, ho, hr, ha, hx⟩ := hrel
        have HO := Lib.hid ho; have HR := Lib.hid hr; have HA := Lib.hid ha; have HX := Lib.hid hx
        clear ho hr ha hx
        by_cases hlk : k < 5
        · have q1 : wr.cell? ⟨w.heap.size, 3 + n * 5 + k, none⟩ = some (.int .u8 (p (5 * n + k))) := by
            rw [HA.out.cell _ (by omega), show 3 + n * 5 + k = (5 * n + k) + 3 by omega]; rfl
          have q2 := HO.out.cell (n * 5 + k) (by omega)
          have f2 := HO.out.free (n * 5 + k) (by omega)
          obtain ⟨p0, p1⟩ := HP.out (5 * n + k) (by omega)
          go_wp2
          refine wp_region_grown_tail 12 (by kernel_rfl) (by kernel_rfl) ?_; simp only [List.take_succ_cons, List.take_zero, List.drop_succ_cons, List.drop_zero]; (repeat (go_big_quiet_step (fail))); refine wpQuiet_nil ?_; rintro _ ⟨dq, rfl⟩
          go_wp2
          have ho2 := (HO.out.x (xe_ext wr dq)).put (j := n * 5 + k) (by omega) (.int .i64 (p (5 * n + k) % 32)) (h := fun j => .int .i64 (enF p (5 * n + (k + 1)) j)) (fun i hi => ite_int (by
            unfold enF
            by_cases e : i = n * 5 + k
            · rw [if_pos e, if_pos (by omega)]; rw [e, Nat.mul_comm]
            · rw [if_neg e]
              by_cases e2 : i < 5 * n + k
              · rw [if_pos e2, if_pos (by omega)]
              · rw [if_neg e2, if_neg (by omega)]))
          have hr2 := (HR.out.x (xe_ext wr dq)).far (a := ⟨w.heap.size + 2, n * 5 + k, none⟩) (by simp) (.int .i64 (p (5 * n + k) % 32))
          have ha2 := (HA.out.x (xe_ext wr dq)).far (a := ⟨w.heap.size + 2, n * 5 + k, none⟩) (by simp) (.int .i64 (p (5 * n + k) % 32))
          have hx2 := (HX.out.ext dq).setCell (a := ⟨w.heap.size + 2, n * 5 + k, none⟩) (by simp) (.int .i64 (p (5 * n + k) % 32))
          have HO2 := Lib.hid ho2; have HR2 := Lib.hid hr2; have HA2 := Lib.hid ha2; have HX2 := Lib.hid hx2
          clear ho2 hr2 ha2 hx2 q1 q2 f2
          go_roundw
          case rel => exact ⟨k + 1, by omega, by go_num, HO2.out, HR2.out, HA2.out, HX2.out⟩
          case measure => simp [intOf]; omega
        · obtain rfl : k = 5 := by omega
          go_wp2
          go_roundw
          case rel => exact ⟨n + 1, by omega, by go_num, HO.out, HR.out, HA.out, HX.out⟩
          case measure => simp [intOf]; omega
    · obtain rfl : n = 2 := by omega
      have hlk : ∀ j, j < 10 → wr.cell? ⟨w.heap.size + 2, 0 + j, none⟩ = some (.int .i64 (p j % 32)) := fun j hj => by
        rw [Nat.zero_add, HO.out.cell j hj]; unfold enF; rw [if_pos (by omega)]
      have HL := Lib.hid hlk; clear hlk
      have hi10 : (Tryd.prog.info? 55).map (·.size) = some 10 := by kernel_rfl
      have HI := Lib.hid hi10; clear hi10
      go_wp2_with (first
        | ((with_reducible refine wpList_load_part 55 (.tmp 3) ?_ ?_ (w.heap.size + 2) (0) 10 ?_ (fun j => .int .i64 (p j % 32)) _ (HL.out) Tryd.underlying55 ?_ HI.out ?_); (· rfl); (· rfl); (· rfl); (· rfl))
        | ((with_reducible refine wpList_store_part 55 (.tmp 2) (.tmp 26) ?_ ?_ ?_ (w.heap.size + 1) (0) 10 (fun j => .int .i64 (p j % 32)) ?_ ?_ (HR.out) (by omega) HI.out (fun _ _ => rfl) ?_); (· rfl); (· rfl); (· rfl); (· rfl); (· rfl)))
      have hfin := HR.out.putRow (o := 0) (m := 10) (f := fun j => .int .i64 (p j % 32)) (g' := fun j => .int .i64 (p j % 32)) (by omega) (fun i hi => by rw [if_pos ⟨by omega, by omega⟩]; rfl)
      refine bodyPost_ret (v := .agg (mkRow 10 fun j => .int .i64 (p j % 32))) (results_part rfl _ _ (w.heap.size + 1) 0 10 _ rfl (fun j hj => by rw [Nat.zero_add]; exact hfin.cell j hj) Tryd.underlying55 rfl HI.out) rfl ⟨rfl, HX.out.setCells (by omega) _ _⟩

/-! ### Fines -/
def finesF (l c : Int) : Int := if c < 1 then 0 else min (max l 0 / 64 / c) 3
theorem fines_any (l c : Int) (w : World) (hl : l ≤ 9223372036854775807) (hc : c ≤ 9223372036854775807) : Calls Tryd.prog 42 #[.int .i64 l, .int .i64 c] w (RetS (.int .i64 (finesF l c)) w) := by
  by_cases h : c < 1
  · have hv : finesF l c = 0 := by simp [finesF, h]
    have HV := Lib.hid hv; clear hv
    go_enter Tryd.func42, Tryd.ntmps42
    go_wp2
    go_ret
    exact ⟨ri HV.out.symm, rfl⟩
  · have hv : finesF l c = min (max l 0 / 64 / c) 3 := by simp [finesF, h]
    have HV := Lib.hid hv; clear hv
    have h1 : 1 ≤ c := by omega
    have hc0 : (c == 0) = false := by simp; omega
    have q0 : 0 ≤ max l 0 / 64 ∧ max l 0 / 64 ≤ 9223372036854775807 := by omega
    go_enter Tryd.func42, Tryd.ntmps42
    go_wp2
    go_ret
    exact ⟨ri HV.out.symm, rfl⟩
theorem refFines_any (l c : Int) (w : World) (hl : l ≤ 9223372036854775807) (hc : c ≤ 9223372036854775807) : Calls Tryd.prog 43 #[.int .i64 l, .int .i64 c] w (RetS (.int .i64 (finesF l c)) w) := by
  by_cases h : c < 1
  · have hv : finesF l c = 0 := by simp [finesF, h]
    have HV := Lib.hid hv; clear hv
    by_cases h0 : l ≤ 0
    all_goals
      go_enter Tryd.func43, Tryd.ntmps43
      go_wp2
      go_ret
      exact ⟨ri HV.out.symm, rfl⟩
  · have hv : finesF l c = min (max l 0 / 64 / c) 3 := by simp [finesF, h]
    have hc0 : (c == 0) = false := by simp; omega
    by_cases h0 : l ≤ 0
    · have h9 : max l 0 = 0 := by omega
      rw [h9] at hv
      have HV := Lib.hid hv; clear hv h9
      go_enter Tryd.func43, Tryd.ntmps43
      go_wp2
      go_ret
      exact ⟨ri (by rw [HV.out]; simp; omega), rfl⟩
    · have h9 : max l 0 = l := by omega
      rw [h9] at hv
      have q0 : 0 ≤ l / 64 ∧ l / 64 ≤ 9223372036854775807 := by omega
      have HV := Lib.hid hv; clear hv h9
      by_cases h3 : 3 < l / 64 / c
      all_goals
        go_enter Tryd.func43, Tryd.ntmps43
        go_wp2
        go_ret
        exact ⟨ri (by rw [HV.out]; omega), rfl⟩

/-! ### Plain: a frame, as the document has it -/
theorem info_rframe : (Tryd.prog.info? 93).map (·.size) = some 94 := by kernel_rfl
theorem zero_rframe : Tryd.zeroCells93 = mkRow 94 frame0 := by kernel_rfl
set_option maxRecDepth 100000 in
theorem plainFrame_any (g : Nat → Value) (w : World) (hg : ∀ j, j < 94 → (g j).oneCell' = true) : Calls Tryd.prog 40 #[.agg (mkRow 94 g)] w (RetE (.agg (mkRow 94 g)) w) := by
  have hz := zero_rframe
  have ha := Cells.made (w := w) (cs := mkRow 94 g) (t := 71) (n := 94) (g := g) (mkRow_size _ _) (fun j hj => mkRow_get _ hj)
  have hb := Cells.made (w := w.alloc (.cells (mkRow 94 g) 71)) (cs := mkRow 94 frame0) (t := 93) (n := 94) (g := frame0) (mkRow_size _ _) (fun j hj => mkRow_get _ hj)
  rw [World.size_alloc] at hb
  have hx : XE (w.alloc (.cells (mkRow 94 g) 71)) ((w.alloc (.cells (mkRow 94 g) 71)).alloc (.cells (mkRow 94 frame0) 93)) := (XE.refl _).alloc _
  have hl : ∀ j, j < 94 → ((w.alloc (.cells (mkRow 94 g) 71)).alloc (.cells (mkRow 94 frame0) 93)).cell? ⟨w.heap.size, 0 + j, none⟩ = some (g j) := fun j hj => by rw [Nat.zero_add]; exact hx.cell (ha.cell j hj)
  have HL := Lib.hid hl; have HB := Lib.hid hb; have HX := Lib.hid (((XE.refl w).alloc _).trans hx); have HG := Lib.hid hg
  clear hl ha hb hx hg
  go_enter Tryd.func40, Tryd.ntmps40
  go_upto_region 1 with (fail)
  generalize (w.alloc (.cells (mkRow 94 g) 71)).alloc (.cells (mkRow 94 frame0) 93) = w1 at *
  go_wp2_with (first
    | ((with_reducible refine wpList_load_part 71 (.tmp 1) ?_ ?_ (w.heap.size) (0) 94 ?_ (g) _ (HL.out) Tryd.underlying71 ?_ info_frame ?_); (· rfl); (· rfl); (· rfl); (· rfl))
    | ((with_reducible refine wpList_store_part 93 (.tmp 2) (.tmp 3) ?_ ?_ ?_ (w.heap.size + 1) 0 94 g ?_ ?_ HB.out (by omega) info_rframe HG.out ?_); (· rfl); (· rfl); (· rfl); (· rfl); (· rfl)))
  have hfin := HB.out.putRow (o := 0) (m := 94) (f := g) (g' := g) (by omega) (fun i hi => by rw [if_pos ⟨by omega, by omega⟩]; rfl)
  refine bodyPost_ret (v := .agg (mkRow 94 g)) (results_part rfl _ _ (w.heap.size + 1) 0 94 _ rfl (fun j hj => by rw [Nat.zero_add]; exact hfin.cell j hj) Tryd.underlying93 rfl info_rframe) rfl ⟨rfl, HX.out.setCells (by omega) _ _⟩

/-! ### Guess -/
def guessV (intra : Bool) (E P : Nat → Int) (ch band : Nat) : Int := if intra = false then P (ch * 5 + band) else if band = 0 then 8 else E (ch * 5 + (band - 1))
set_option maxRecDepth 100000 in
set_option maxHeartbeats 400000 in
theorem refGuess_any (g : Nat → Value) (intra : Bool) (E P : Nat → Int) (ch band : Nat) (w : World) (hc : ch < 2) (hb : band < 5) (h1 : g 1 = .bool intra) (hE : ∀ j, j < 10 → g (5 + j) = .int .i64 (E j)) :
    Calls Tryd.prog 39 #[.agg (mkRow 94 g), .agg (mkRow 10 fun j => .int .i64 (P j)), .int .i64 ch, .int .i64 band] w (RetE (.int .i64 (guessV intra E P ch band)) w) := by
  have ha := Cells.made (w := w) (cs := mkRow 94 g) (t := 93) (n := 94) (g := g) (mkRow_size _ _) (fun j hj => mkRow_get _ hj)
  have hp := Cells.made (w := w.alloc (.cells (mkRow 94 g) 93)) (cs := mkRow 10 fun j => .int .i64 (P j)) (t := 55) (n := 10) (g := fun j => .int .i64 (P j)) (mkRow_size _ _) (fun j hj => mkRow_get _ hj)
  rw [World.size_alloc] at hp
  have hx : XE (w.alloc (.cells (mkRow 94 g) 93)) ((w.alloc (.cells (mkRow 94 g) 93)).alloc (.cells (mkRow 10 fun j => .int .i64 (P j)) 55)) := (XE.refl _).alloc _
  have HX := Lib.hid (((XE.refl w).alloc _).trans hx)
  have q1 := hx.cell (ha.cell 1 (by omega))
  rw [h1] at q1
  have q2 := hp.cell (ch * 5 + band) (by omega)
  have q3 : 1 ≤ band → ((w.alloc (.cells (mkRow 94 g) 93)).alloc (.cells (mkRow 10 fun j => .int .i64 (P j)) 55)).cell? ⟨w.heap.size, 5 + ch * 5 + (band - 1), none⟩ = some (.int .i64 (E (ch * 5 + (band - 1)))) := fun h => by
    rw [hx.cell (ha.cell (5 + ch * 5 + (band - 1)) (by omega)), show 5 + ch * 5 + (band - 1) = 5 + (ch * 5 + (band - 1)) by omega, hE _ (by omega)]
  have HQ := Lib.hid (And.intro q1 (And.intro q2 q3))
  clear ha hp hx h1 hE q1 q2 q3
  have hcase : intra = false ∨ (intra = true ∧ band = 0) ∨ (intra = true ∧ 1 ≤ band) := by cases intra <;> simp <;> omega
  rcases hcase with rfl | ⟨rfl, rfl⟩ | ⟨rfl, hb1⟩
  · go_enter Tryd.func39, Tryd.ntmps39
    go_upto_region 1 with (fail)
    generalize (w.alloc (.cells (mkRow 94 g) 93)).alloc (.cells (mkRow 10 fun j => .int .i64 (P j)) 55) = w1 at *
    obtain ⟨q1, q2, -⟩ := HQ.out
    go_wp2
    go_ret
    exact ⟨rfl, HX.out⟩
  · go_enter Tryd.func39, Tryd.ntmps39
    go_upto_region 1 with (fail)
    generalize (w.alloc (.cells (mkRow 94 g) 93)).alloc (.cells (mkRow 10 fun j => .int .i64 (P j)) 55) = w1 at *
    obtain ⟨q1, q2, -⟩ := HQ.out
    go_wp2
    go_ret
    exact ⟨rfl, HX.out⟩
  · have hv : guessV true E P ch band = E (ch * 5 + (band - 1)) := by unfold guessV; rw [if_neg (by simp), if_neg (by omega)]
    have HV := Lib.hid hv; clear hv
    have hb0 : ((band : Int) == 0) = false := by simp; omega
    go_enter Tryd.func39, Tryd.ntmps39
    go_upto_region 1 with (fail)
    generalize (w.alloc (.cells (mkRow 94 g) 93)).alloc (.cells (mkRow 10 fun j => .int .i64 (P j)) 55) = w1 at *
    obtain ⟨q1, q2, q3⟩ := HQ.out
    have q4 := q3 hb1
    clear q3
    go_wp2
    go_ret
    exact ⟨ri HV.out.symm, HX.out⟩
set_option maxRecDepth 100000 in
set_option maxHeartbeats 400000 in
theorem frGuess_any (g : Nat → Value) (intra : Bool) (E P : Nat → Int) (ch band : Nat) (w : World) (hc : ch < 2) (hb : band < 5) (h1 : g 1 = .bool intra) (hE : ∀ j, j < 10 → g (5 + j) = .int .i64 (E j)) :
    Calls Tryd.prog 41 #[.agg (mkRow 94 g), .agg (mkRow 10 fun j => .int .i64 (P j)), .int .i64 ch, .int .i64 band] w (RetE (.int .i64 (guessV intra E P ch band)) w) := by
  have ha := Cells.made (w := w) (cs := mkRow 94 g) (t := 71) (n := 94) (g := g) (mkRow_size _ _) (fun j hj => mkRow_get _ hj)
  have hp := Cells.made (w := w.alloc (.cells (mkRow 94 g) 71)) (cs := mkRow 10 fun j => .int .i64 (P j)) (t := 55) (n := 10) (g := fun j => .int .i64 (P j)) (mkRow_size _ _) (fun j hj => mkRow_get _ hj)
  rw [World.size_alloc] at hp
  have hx : XE (w.alloc (.cells (mkRow 94 g) 71)) ((w.alloc (.cells (mkRow 94 g) 71)).alloc (.cells (mkRow 10 fun j => .int .i64 (P j)) 55)) := (XE.refl _).alloc _
  have HX := Lib.hid (((XE.refl w).alloc _).trans hx)
  have q1 := hx.cell (ha.cell 1 (by omega))
  rw [h1] at q1
  have q2 := hp.cell (ch * 5 + band) (by omega)
  have q3 : 1 ≤ band → ((w.alloc (.cells (mkRow 94 g) 71)).alloc (.cells (mkRow 10 fun j => .int .i64 (P j)) 55)).cell? ⟨w.heap.size, 5 + ch * 5 + (band - 1), none⟩ = some (.int .i64 (E (ch * 5 + (band - 1)))) := fun h => by
    rw [hx.cell (ha.cell (5 + ch * 5 + (band - 1)) (by omega)), show 5 + ch * 5 + (band - 1) = 5 + (ch * 5 + (band - 1)) by omega, hE _ (by omega)]
  have HQ := Lib.hid (And.intro q1 (And.intro q2 q3))
  clear ha hp hx h1 hE q1 q2 q3
  have hcase : intra = false ∨ (intra = true ∧ band = 0) ∨ (intra = true ∧ 1 ≤ band) := by cases intra <;> simp <;> omega
  rcases hcase with rfl | ⟨rfl, rfl⟩ | ⟨rfl, hb1⟩
  · go_enter Tryd.func41, Tryd.ntmps41
    go_upto_region 1 with (fail)
    generalize (w.alloc (.cells (mkRow 94 g) 71)).alloc (.cells (mkRow 10 fun j => .int .i64 (P j)) 55) = w1 at *
    obtain ⟨q1, q2, -⟩ := HQ.out
    go_wp2
    go_ret
    exact ⟨rfl, HX.out⟩
  · go_enter Tryd.func41, Tryd.ntmps41
    go_upto_region 1 with (fail)
    generalize (w.alloc (.cells (mkRow 94 g) 71)).alloc (.cells (mkRow 10 fun j => .int .i64 (P j)) 55) = w1 at *
    obtain ⟨q1, q2, -⟩ := HQ.out
    go_wp2
    go_ret
    exact ⟨rfl, HX.out⟩
  · have hv : guessV true E P ch band = E (ch * 5 + (band - 1)) := by unfold guessV; rw [if_neg (by simp), if_neg (by omega)]
    have HV := Lib.hid hv; clear hv
    have hb0 : ((band : Int) == 0) = false := by simp; omega
    go_enter Tryd.func41, Tryd.ntmps41
    go_upto_region 1 with (fail)
    generalize (w.alloc (.cells (mkRow 94 g) 71)).alloc (.cells (mkRow 10 fun j => .int .i64 (P j)) 55) = w1 at *
    obtain ⟨q1, q2, q3⟩ := HQ.out
    have q4 := q3 hb1
    clear q3
    go_wp2
    go_ret
    exact ⟨ri HV.out.symm, HX.out⟩
set_option maxRecDepth 100000 in
theorem frGuess_out (g : Nat → Value) (P : Nat → Int) (ch band : Int) (w : World) (ho : ¬ (0 ≤ ch ∧ ch < 2 ∧ 0 ≤ band ∧ band < 5)) :
    Calls Tryd.prog 41 #[.agg (mkRow 94 g), .agg (mkRow 10 fun j => .int .i64 (P j)), .int .i64 ch, .int .i64 band] w (RetE (.int .i64 0) w) := by
  have hcase : ch < 0 ∨ (0 ≤ ch ∧ 2 ≤ ch) ∨ (0 ≤ ch ∧ ch < 2 ∧ band < 0) ∨ (0 ≤ ch ∧ ch < 2 ∧ 0 ≤ band ∧ 5 ≤ band) := by omega
  clear ho
  rcases hcase with h | ⟨h, h'⟩ | ⟨h, h', h''⟩ | ⟨h, h', h'', h'''⟩
  all_goals
    go_enter Tryd.func41, Tryd.ntmps41
    go_wp2
    go_ret
    exact ⟨rfl, (by repeat (first | exact XE.refl _ | apply XE.ext | apply XE.alloc | apply XE.drew | apply XE.drewN))⟩
end Go.Proofs.YtkcambhojpafkaaDoor
