/- The walks of layer 15's job: all pulses up to a level, what they cost, a level above which there are none. -/
import Derived.Test.YtkcambhojpafkaaDoorProg
import Derived.Test.YtkcambhojpafkaaDoorS3
import Derived.Test.YtkcambhojpafkaaDoorM3
import Derived.Deep.DeepCutAuto
set_option linter.unusedSimpArgs false
set_option linter.unusedVariables false
namespace Go.Proofs.YtkcambhojpafkaaDoor
open Go Go.RowKit

/-- A share at block b, with its sheet at block h. -/
structure ShareAt (w : World) (b h : Nat) : Prop where
  ptr : w.cell? ⟨b, 0, none⟩ = some (.pointer (some ⟨h, 0, none⟩))
  sheet : SheetAt w h
theorem ShareAt.x {w w' : World} {b h : Nat} (j : ShareAt w b h) (hx : XE w w') : ShareAt w' b h := ⟨hx.cell j.ptr, j.sheet.x hx⟩
/-- A job at block b. -/
structure JobAt (w : World) (b sb h : Nat) (s c : Int) (sl : Nat → Int) : Prop where
  ptr : w.cell? ⟨b, 0, none⟩ = some (.pointer (some ⟨sb, 0, none⟩))
  size : w.cell? ⟨b, 1, none⟩ = some (.int .i64 s)
  chans : w.cell? ⟨b, 2, none⟩ = some (.int .i64 c)
  slopes : ∀ i, i < 5 → w.cell? ⟨b, 3 + i, none⟩ = some (.int .i64 (sl i))
  share : ShareAt w sb h
theorem JobAt.x {w w' : World} {b sb h : Nat} {s c : Int} {sl : Nat → Int} (j : JobAt w b sb h s c sl) (hx : XE w w') : JobAt w' b sb h s c sl :=
  ⟨hx.cell j.ptr, hx.cell j.size, hx.cell j.chans, fun i hi => hx.cell (j.slopes i hi), j.share.x hx⟩
theorem JobAt.lt {w : World} {b sb h : Nat} {s c : Int} {sl : Nat → Int} (j : JobAt w b sb h s c sl) : b < w.heap.size := World.block_lt_of_cell? w _ j.ptr
/-- Slopes that may be. -/
def Slopes (s c : Int) (sl : Nat → Int) : Prop := ∀ i, i < 5 → 0 ≤ sl i ∧ sl i ≤ 64 ∧ ((i : Int) < mBands s c → 1 ≤ sl i)

theorem info_five : (Tryd.prog.info? 25).map (·.size) = some 5 := by kernel_rfl

set_option maxHeartbeats 1000000 in
theorem jobTop_any (b sb h : Nat) (s c : Int) (sl : Nat → Int) (w : World) (hj : JobAt w b sb h s c sl) (hw : Wid w) (hs : Slopes s c sl) :
    Calls Tryd.prog 52 #[.pointer (some ⟨b, 0, none⟩)] w (RetE (.int .i64 (topF s c sl)) w) := by
  have hbd := mBands_bd s c
  have HJ := Lib.hid hj; clear hj
  have HW := Lib.hid hw; clear hw
  have HS := Lib.hid hs; clear hs
  have c0 := HJ.out.ptr
  have c1 := HJ.out.size
  have c2 := HJ.out.chans
  have c3 := HJ.out.share.ptr
  go_enter Tryd.func52, Tryd.ntmps52
  go_wp2_with (go_at_call 34; (with_reducible refine (modeBands_any _ _ _).mono ?_); rintro e w' ⟨rfl, d, rfl⟩)
  go_loopw [3, 10] (fun m i wr => ∃ k : Nat, (k : Int) ≤ mBands s c ∧ i = .int .i64 k ∧ m = .int .i64 (maxTo (fun b => sl b * capZ (mWidth s c b)) k) ∧ XE w wr) (fun _ i _ => 5 - (intOf i).toNat)
  case atStart => exact ⟨0, by omega, rfl, rfl, (by repeat (first | exact XE.refl _ | apply XE.ext | apply XE.alloc | apply XE.drew | apply XE.drewN))⟩
  case round =>
    obtain ⟨k, hk, rfl, rfl, hx⟩ := hrel
    clear c0 c1 c2 c3
    by_cases hlt : (k : Int) < mBands s c
    · have c0 := hx.cell HJ.out.ptr
      have c1 := hx.cell HJ.out.size
      have c2 := hx.cell HJ.out.chans
      have c3 := hx.cell HJ.out.share.ptr
      have c4 := hx.cell (HJ.out.slopes k (by omega))
      have hwd := HW.out.x hx
      have hsh := HJ.out.share.sheet.x hx
      have hsl := HS.out k (by omega)
      have hcz := capZ_le (mWidth s c k)
      have hp := prod_bd ⟨hsl.1, hsl.2.1⟩ hcz
      have HW2 := Lib.hid hwd; clear hwd
      have HH := Lib.hid hsh; clear hsh
      clear hsl hcz
      go_wp2
      refine wp_region_grown (by kernel_rfl) (by kernel_rfl) ?_; (repeat (go_big_quiet_step ((first | (go_at_call 81; exact quietE (modeWidth_any _ _ _ _ (HW2.out.ext _))) | (go_at_call 24; exact quietS (sheetCap_any _ _ _ (HH.out.x (xe_ext _ _)))))))); refine wpQuiet_nil ?_; rintro _ ⟨dq, rfl⟩
      go_wp2
      go_roundw
      case rel => exact ⟨k + 1, by omega, by go_num, by simp only [maxTo], hx.ext dq⟩
      case measure => simp [intOf]; omega
    · have e : k = (mBands s c).toNat := by omega
      go_wp2
      go_ret
      exact ⟨ri (by rw [topF, ← e]), hx⟩
/-- A row of five numbers, as a value. -/
def row5 (k : Nat → Int) : Array Value := mkRow 5 (fun b => .int .i64 (k b))

set_option maxHeartbeats 1000000 in
theorem jobTotal_any (b sb h : Nat) (s c : Int) (sl k : Nat → Int) (w : World) (hj : JobAt w b sb h s c sl) (hw : Wid w) (hr : mRight s c = true) :
    Calls Tryd.prog 53 #[.pointer (some ⟨b, 0, none⟩), .agg (row5 k)] w (RetE (.int .i64 (totF s c k)) w) := by
  have hbd := mBands_bd s c
  have hri := mRight_iff.1 hr
  have HJ := Lib.hid hj; clear hj
  have HW := Lib.hid hw; clear hw
  have c0 := HJ.out.ptr
  have c1 := HJ.out.size
  have c2 := HJ.out.chans
  have c3 := HJ.out.share.ptr
  have hk : Cells (w.alloc (.cells (row5 k) 25)) w.heap.size 5 (fun b => .int .i64 (k b)) := by
    have := Cells.new w (row5 k) 25
    rw [show (row5 k).size = 5 from mkRow_size _ _] at this
    exact this.congr fun j hj => by
      have := mkRow_get (fun b => Value.int .i64 (k b)) hj
      show (mkRow 5 _).getD j undef = _
      rw [Array.getD_eq_getD_getElem?, this]; rfl
  clear hr
  go_enter Tryd.func53, Tryd.ntmps53
  go_wp2_with (go_at_call 34; (with_reducible refine (modeBands_any _ _ _).mono ?_); rintro e w' ⟨rfl, d, rfl⟩)
  have HK := Lib.hid hk; clear hk
  go_loopw [5, 12] (fun m i wr => ∃ n : Nat, (n : Int) ≤ mBands s c ∧ i = .int .i64 n ∧ m = .int .i64 (sumTo (fun b => bitZ (mWidth s c b) (k b)) n) ∧ XE (w.alloc (.cells (row5 k) 25)) wr) (fun _ i _ => 5 - (intOf i).toNat)
  case atStart => exact ⟨0, by omega, rfl, rfl, (by repeat (first | exact XE.refl _ | apply XE.ext | apply XE.alloc | apply XE.drew | apply XE.drewN))⟩
  case round =>
    obtain ⟨n, hn, rfl, rfl, hx2⟩ := hrel
    have hx : XE w wr := ((XE.refl w).alloc _).trans hx2
    clear c0 c1 c2 c3
    have c0 := hx.cell HJ.out.ptr
    have c1 := hx.cell HJ.out.size
    have c2 := hx.cell HJ.out.chans
    have c3 := hx.cell HJ.out.share.ptr
    have sb1 := sumBits_bd s c k n (by omega)
    by_cases hlt : (n : Int) < mBands s c
    · have c4 := (HK.out.x hx2).cell n (by omega)
      have hwd := HW.out.x hx
      have hsh := HJ.out.share.sheet.x hx
      have hbz := bitZ_bd (mWidth s c n) (k n)
      have HW2 := Lib.hid hwd; clear hwd
      have HH := Lib.hid hsh; clear hsh
      go_wp2
      refine wp_region_grown (by kernel_rfl) (by kernel_rfl) ?_; (repeat (go_big_quiet_step ((first | (go_at_call 81; exact quietE (modeWidth_any _ _ _ _ (HW2.out.ext _))) | (go_at_call 22; exact quietS (sheetBits_any _ _ _ _ (HH.out.x (xe_ext _ _)))))))); refine wpQuiet_nil ?_; rintro _ ⟨dq, rfl⟩
      go_wp2
      go_roundw
      case rel => exact ⟨n + 1, by omega, by go_num, by simp only [sumTo], hx2.ext dq⟩
      case measure => simp [intOf]; omega
    · have e : n = (mBands s c).toNat := by omega
      obtain ⟨-, -, hc1, hc2⟩ := hri
      go_wp2
      go_ret
      refine ⟨ri ?_, hx⟩
      rw [totF, ← e]
      unfold wrap64
      have hcc : c = 1 ∨ c = 2 := by omega
      rcases hcc with rfl | rfl <;> omega

/-- A new row of five noughts. -/
theorem cells_zero5 (w : World) (t : TypeId) : Cells (w.alloc (.cells #[.int .i64 0, .int .i64 0, .int .i64 0, .int .i64 0, .int .i64 0] t)) w.heap.size 5 (fun _ => .int .i64 0) :=
  (Cells.new w _ t).congr fun j hj => by
    have : j = 0 ∨ j = 1 ∨ j = 2 ∨ j = 3 ∨ j = 4 := by simp at hj; omega
    rcases this with rfl | rfl | rfl | rfl | rfl <;> rfl

set_option maxHeartbeats 1000000 in
theorem jobAt_any (b sb h : Nat) (s c lv : Int) (sl : Nat → Int) (w : World) (hj : JobAt w b sb h s c sl) (hw : Wid w) (hs : Slopes s c sl) (h0 : 0 ≤ lv) (h1 : lv ≤ 1000000) :
    Calls Tryd.prog 54 #[.pointer (some ⟨b, 0, none⟩), .int .i64 lv] w (RetE (.agg (row5 (atF s c sl lv))) w) := by
  have hbd := mBands_bd s c
  have HJ := Lib.hid hj; clear hj
  have HW := Lib.hid hw; clear hw
  have HS := Lib.hid hs; clear hs
  have c0 := HJ.out.ptr
  have c1 := HJ.out.size
  have c2 := HJ.out.chans
  have c3 := HJ.out.share.ptr
  go_enter Tryd.func54, Tryd.ntmps54
  go_wp2_with (go_at_call 34; (with_reducible refine (modeBands_any _ _ _).mono ?_); rintro e w' ⟨rfl, d, rfl⟩)
  have hA := ((cells_zero5 w 25).x ((XE.refl _).alloc (.cells #[.int .i64 0, .int .i64 0, .int .i64 0, .int .i64 0, .int .i64 0] 25))).x (xe_ext _ d)
  have hB := (cells_zero5 (w.alloc (.cells #[.int .i64 0, .int .i64 0, .int .i64 0, .int .i64 0, .int .i64 0] 25)) 25).x (xe_ext _ d)
  rw [World.size_alloc] at hB
  have hX : XE w (ext ((w.alloc (.cells #[.int .i64 0, .int .i64 0, .int .i64 0, .int .i64 0, .int .i64 0] 25)).alloc (.cells #[.int .i64 0, .int .i64 0, .int .i64 0, .int .i64 0, .int .i64 0] 25)) d) := (by repeat (first | exact XE.refl _ | apply XE.ext | apply XE.alloc | apply XE.drew | apply XE.drewN))
  generalize ext ((w.alloc (.cells #[.int .i64 0, .int .i64 0, .int .i64 0, .int .i64 0, .int .i64 0] 25)).alloc (.cells #[.int .i64 0, .int .i64 0, .int .i64 0, .int .i64 0, .int .i64 0] 25)) d = w2 at *
  clear c0 c1 c2 c3
  go_loopw [12] (fun i wr => ∃ n : Nat, (n : Int) ≤ mBands s c ∧ i = .int .i64 n ∧ Cells wr w.heap.size 5 (fun _ => .int .i64 0) ∧ Cells wr (w.heap.size + 1) 5 (fun j => .int .i64 (if j < n then atF s c sl lv j else 0)) ∧ XE w wr) (fun i _ => 5 - (intOf i).toNat)
  case atStart => exact ⟨0, by omega, rfl, hA, hB.congr (fun j _ => by simp), hX⟩
  case round =>
    obtain ⟨n, hn, rfl, hA, hB, hx⟩ := hrel
    by_cases hlt : (n : Int) < mBands s c
    · have c0 := hx.cell HJ.out.ptr
      have c1 := hx.cell HJ.out.size
      have c2 := hx.cell HJ.out.chans
      have c3 := hx.cell HJ.out.share.ptr
      have c4 := hx.cell (HJ.out.slopes n (by omega))
      have c5 := hB.cell n (by omega)
      have f5 := hB.free n (by omega)
      have hwd := HW.out.x hx
      have hsh := HJ.out.share.sheet.x hx
      obtain ⟨-, hs1, hs2⟩ := HS.out n (by omega)
      have hs3 := hs2 hlt
      have hcz := capZ_le (mWidth s c n)
      have hq0 : 0 ≤ lv / sl n := Int.ediv_nonneg h0 (by omega)
      have hq1 : lv / sl n ≤ lv := Int.ediv_le_self _ h0
      have hz : sl n ≠ 0 := by omega
      have HW2 := Lib.hid hwd; clear hwd
      have HH := Lib.hid hsh; clear hsh
      clear hs2
      go_wp2
      refine wp_region_grown_tail 25 (by kernel_rfl) (by kernel_rfl) ?_; simp only [List.take_succ_cons, List.take_zero, List.drop_succ_cons, List.drop_zero]; (repeat (go_big_quiet_step ((first | (go_at_call 81; exact quietE (modeWidth_any _ _ _ _ (HW2.out.ext _))) | (go_at_call 24; exact quietS (sheetCap_any _ _ _ (HH.out.x (xe_ext _ _)))))))); refine wpQuiet_nil ?_; rintro _ ⟨dq, rfl⟩
      go_wp2
      go_roundw
      case rel =>
        refine ⟨n + 1, by omega, by go_num, (hA.x (xe_ext _ dq)).far (by simp) _, (hB.x (xe_ext _ dq)).put (by omega) _ (fun i hi => ite_int ?_), (hx.ext dq).setCell (by simp) _⟩
        have hat : atF s c sl lv n = min (lv / sl n) (capZ (mWidth s c n)) := if_pos hlt
        by_cases hi2 : i = n
        · subst hi2; rw [if_pos rfl, if_pos (by omega), hat]
        · rw [if_neg hi2]
          by_cases hi3 : i < n
          · rw [if_pos hi3, if_pos (by omega)]
          · rw [if_neg hi3, if_neg (by omega)]
      case measure => simp [intOf]; omega
    · have e : n = (mBands s c).toNat := by omega
      have hB' : Cells wr (w.heap.size + 1) 5 (fun j => .int .i64 (atF s c sl lv j)) := hB.congr fun j hj => by
        by_cases hj2 : j < n
        · rw [if_pos hj2]
        · rw [if_neg hj2, atF, if_neg (by omega)]
      clear hB
      have HA := Lib.hid hA; clear hA
      have HB := Lib.hid hB'; clear hB'
      go_wp2_with (first
        | ((with_reducible refine wpList_load_part 25 (.tmp 5) ?_ ?_ (w.heap.size + 1) (0) 5 ?_ (fun j => .int .i64 (atF s c sl lv j)) _ (fun j hj => by rw [Nat.zero_add]; exact HB.out.cell j hj) Tryd.underlying25 ?_ info_five ?_); (· rfl); (· rfl); (· rfl); (· rfl))
        | ((with_reducible refine wpList_store_part 25 (.tmp 4) (.tmp 41) ?_ ?_ ?_ (w.heap.size) (0) 5 (fun j => .int .i64 (atF s c sl lv j)) ?_ ?_ (HA.out) (by omega) info_five (fun _ _ => rfl) ?_); (· rfl); (· rfl); (· rfl); (· rfl); (· rfl)))
      have hfin : Cells (wr.setCells w.heap.size 0 (mkRow 5 fun j => .int .i64 (atF s c sl lv j)).toList) w.heap.size 5 (fun j => .int .i64 (atF s c sl lv j)) :=
        HA.out.putRow (by omega) (fun i hi => by rw [if_pos ⟨by omega, by omega⟩]; rfl)
      refine bodyPost_ret (v := .agg (row5 (atF s c sl lv))) (results_part rfl _ _ w.heap.size 0 5 _ rfl (fun j hj => by rw [Nat.zero_add]; exact hfin.cell j hj) Tryd.underlying25 rfl info_five) rfl ⟨rfl, hx.setCells (Nat.le_refl _) _ _⟩
end Go.Proofs.YtkcambhojpafkaaDoor
