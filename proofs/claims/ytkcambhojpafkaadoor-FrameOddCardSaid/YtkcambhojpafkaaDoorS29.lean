/- Layer 16's example holds. -/
import Derived.Test.YtkcambhojpafkaaDoorS28
set_option linter.unusedSimpArgs false
set_option linter.unusedVariables false
namespace Go.Proofs.YtkcambhojpafkaaDoor
open Go Go.RowKit

theorem job_row (r : Nat) (tt : TypeId) (tv : Value) : ((((((((((((((Tryd.zeroCells151.setIfInBounds 94 (.int .i64 0)).setIfInBounds 95 (.int .i64 1)).setIfInBounds 96 (.pointer (some ⟨r, 0, none⟩))).setIfInBounds 97 (.iface tt tv)).setIfInBounds 98 (.int .i64 0)).setIfInBounds 99 (.int .i64 0)).setIfInBounds 100 (.int .i64 0)).setIfInBounds 101 (.int .i64 0)).setIfInBounds 102 (.int .i64 0)).setIfInBounds 103 (.int .i64 0)).setIfInBounds 104 (.int .i64 0)).setIfInBounds 105 (.int .i64 0)).setIfInBounds 106 (.int .i64 0)).setIfInBounds 107 (.int .i64 0)) = mkRow 109 (jobC frame0 r (.iface tt tv) false) := by kernel_rfl
theorem rngCell_any (r : Nat) (g : Int) (w : World) (h : w.cell? ⟨r, 3, none⟩ = some (.int .u32 g)) : Calls Tryd.prog 159 #[.pointer (some ⟨r, 0, none⟩)] w (RetE (.int .u32 g) w) := by
  go_enter Tryd.func159, Tryd.ntmps159
  go_wp2
  go_ret
  exact ⟨rfl, (by repeat (first | exact XE.refl _ | apply XE.ext | apply XE.alloc | apply XE.drew | apply XE.drewN))⟩
set_option maxRecDepth 100000 in
theorem left8_any (r : Nat) (a : Option Addr) (cp : Nat) (w : World) (c0 : w.cell? ⟨r, 0, none⟩ = some (.slice a 4 cp)) (c1 : w.cell? ⟨r, 1, none⟩ = some (.int .i64 3)) (c2 : w.cell? ⟨r, 2, none⟩ = some (.int .i64 0)) :
    Calls Tryd.prog 45 #[.pointer (some ⟨r, 0, none⟩)] w (RetE (.int .i64 8) w) := by
  go_enter Tryd.func45, Tryd.ntmps45
  go_wp2
  refine wp_region_grown (by kernel_rfl) (by kernel_rfl) ?_; (repeat (go_big_quiet_step (fail))); refine wpQuiet_nil ?_; rintro _ ⟨dq, rfl⟩
  go_wp2
  go_ret
  exact ⟨rfl, xe_ext _ _⟩
theorem Cells.turn {R : Nat → Prop} {w w' : World} {b n : Nat} {g : Nat → Value} (c : Cells w b n g) (h : Turn R w w') (hb : ¬ R b) : Cells w' b n g :=
  ⟨fun j hj => by rw [World.cell?_of_block (h.block b (World.block_lt_of_cell? w _ (c.cell j hj)) hb)]; exact c.cell j hj,
   fun j hj => by rw [World.frozen?_of_block (h.block b (World.block_lt_of_cell? w _ (c.cell j hj)) hb)]; exact c.free j hj⟩
theorem frameS_one (j : Nat) : (frameS j).oneCell' = true := by unfold frameS; split; rfl; exact frame0_one j
theorem frameS_of {r : Nat} {tl : Value} {bad : Bool} {j : Nat} (hj : j < 94) : jobC frameS r tl bad j = frameS j := by unfold jobC; rw [if_pos hj]
theorem XO.own_set {r : Nat} {w w' : World} (h : XO r w w') {a : Addr} (ha : w.heap.size ≤ a.block) (v : Value) : XO r w (w'.setCell a v) :=
  ⟨h.os, h.tape, h.output, by simpa using h.size, fun k hk hkr => by rw [Below.heap_setCell w' a v k (by omega)]; exact h.block k hk hkr⟩
theorem XO.own_sets {r : Nat} {w : World} {B : Nat} (hB : w.heap.size ≤ B) : ∀ (l : List Value) (o : Nat) {w' : World}, XO r w w' → XO r w (w'.setCells B o l)
  | [], _, _, h => h
  | v :: t, o, _, h => XO.own_sets hB t (o + 1) (h.own_set (a := ⟨B, o, none⟩) hB v)
def RetRead (r : Nat) (w : World) (e : Ending) (w' : World) : Prop := e = .returned (.tuple #[.agg (mkRow 94 frameS), .int .u32 524288, .bool true]) ∧ XO r w w'
set_option maxRecDepth 100000 in
set_option maxHeartbeats 2000000 in
theorem readEx_any (r : Nat) (tt : TypeId) (tv sl : Value) (bs : Nat → Int) (w : World) (hr : ReadAt w r (exR sl 16777216 524288) 4 bs) :
    Calls Tryd.prog 46 #[.pointer (some ⟨r, 0, none⟩), .iface tt tv, .agg #[.int .i64 0, .int .i64 1], .agg #[.int .i64 0, .int .i64 0, .int .i64 0, .int .i64 0, .int .i64 0, .int .i64 0, .int .i64 0, .int .i64 0, .int .i64 0, .int .i64 0]] w (RetRead r w) := by
  have HR := Lib.hid hr; clear hr
  have hz := zero_frame
  have hmr : mRight 0 1 = true := by decide
  have HMR := Lib.hid hmr; clear hmr
  have hm := Cells.made (w := w) (cs := #[.int .i64 0, .int .i64 1]) (t := 30) (n := 2) (g := fun j => .int .i64 j) rfl (fun j hj => by
    have : j = 0 ∨ j = 1 := by omega
    rcases this with rfl | rfl <;> rfl)
  have hp := Cells.made (w := w.alloc (.cells #[.int .i64 0, .int .i64 1] 30)) (cs := #[.int .i64 0, .int .i64 0, .int .i64 0, .int .i64 0, .int .i64 0, .int .i64 0, .int .i64 0, .int .i64 0, .int .i64 0, .int .i64 0]) (t := 55) (n := 10) (g := fun _ => .int .i64 0) rfl (fun j hj => (show (mkRow 10 fun _ => Value.int .i64 0)[j]? = _ from mkRow_get _ hj))
  have hf := Cells.made (w := (w.alloc (.cells #[.int .i64 0, .int .i64 1] 30)).alloc (.cells #[.int .i64 0, .int .i64 0, .int .i64 0, .int .i64 0, .int .i64 0, .int .i64 0, .int .i64 0, .int .i64 0, .int .i64 0, .int .i64 0] 55)) (cs := mkRow 94 frame0) (t := 71) (n := 94) (g := frame0) (mkRow_size _ _) (fun j hj => mkRow_get _ hj)
  rw [World.size_alloc] at hp
  rw [World.size_alloc, World.size_alloc] at hf
  have hx0 : XE (w.alloc (.cells #[.int .i64 0, .int .i64 1] 30)) (((w.alloc (.cells #[.int .i64 0, .int .i64 1] 30)).alloc (.cells #[.int .i64 0, .int .i64 0, .int .i64 0, .int .i64 0, .int .i64 0, .int .i64 0, .int .i64 0, .int .i64 0, .int .i64 0, .int .i64 0] 55)).alloc (.cells (mkRow 94 frame0) 71)) := ((XE.refl _).alloc _).alloc _
  have hx1' : XE ((w.alloc (.cells #[.int .i64 0, .int .i64 1] 30)).alloc (.cells #[.int .i64 0, .int .i64 0, .int .i64 0, .int .i64 0, .int .i64 0, .int .i64 0, .int .i64 0, .int .i64 0, .int .i64 0, .int .i64 0] 55)) (((w.alloc (.cells #[.int .i64 0, .int .i64 1] 30)).alloc (.cells #[.int .i64 0, .int .i64 0, .int .i64 0, .int .i64 0, .int .i64 0, .int .i64 0, .int .i64 0, .int .i64 0, .int .i64 0, .int .i64 0] 55)).alloc (.cells (mkRow 94 frame0) 71)) := (XE.refl _).alloc _
  have HM := Lib.hid (hm.x hx0); have HP := Lib.hid (hp.x hx1'); have HF := Lib.hid hf; have HX := Lib.hid (((XE.refl w).alloc _).trans hx0)
  clear hm hp hf hx0 hx1'
  go_enter Tryd.func46, Tryd.ntmps46
  go_upto_region 1 with (fail)
  generalize ((w.alloc (.cells #[.int .i64 0, .int .i64 1] 30)).alloc (.cells #[.int .i64 0, .int .i64 0, .int .i64 0, .int .i64 0, .int .i64 0, .int .i64 0, .int .i64 0, .int .i64 0, .int .i64 0, .int .i64 0] 55)).alloc (.cells (mkRow 94 frame0) 71) = w0 at *
  have m0 : w0.cell? ⟨w.heap.size, 0, none⟩ = some (.int .i64 0) := HM.out.cell 0 (by omega)
  have m1 : w0.cell? ⟨w.heap.size, 1, none⟩ = some (.int .i64 1) := HM.out.cell 1 (by omega)
  go_upto_region 3 with (go_at_call 63; (with_reducible refine (modeRight_any _ _ _).mono ?_); rintro e w1 ⟨rfl, hx1⟩; rw [HMR.out])
  have n0 : w1.cell? ⟨w.heap.size, 0, none⟩ = some (.int .i64 0) := hx1.cell m0
  have n1 : w1.cell? ⟨w.heap.size, 1, none⟩ = some (.int .i64 1) := hx1.cell m1
  have p0 : w1.cell? ⟨w.heap.size + 1, 0, none⟩ = some (.int .i64 0) := (HP.out.x hx1).cell 0 (by omega)
  have p1 : w1.cell? ⟨w.heap.size + 1, 1, none⟩ = some (.int .i64 0) := (HP.out.x hx1).cell 1 (by omega)
  have p2 : w1.cell? ⟨w.heap.size + 1, 2, none⟩ = some (.int .i64 0) := (HP.out.x hx1).cell 2 (by omega)
  have p3 : w1.cell? ⟨w.heap.size + 1, 3, none⟩ = some (.int .i64 0) := (HP.out.x hx1).cell 3 (by omega)
  have p4 : w1.cell? ⟨w.heap.size + 1, 4, none⟩ = some (.int .i64 0) := (HP.out.x hx1).cell 4 (by omega)
  have p5 : w1.cell? ⟨w.heap.size + 1, 5, none⟩ = some (.int .i64 0) := (HP.out.x hx1).cell 5 (by omega)
  have p6 : w1.cell? ⟨w.heap.size + 1, 6, none⟩ = some (.int .i64 0) := (HP.out.x hx1).cell 6 (by omega)
  have p7 : w1.cell? ⟨w.heap.size + 1, 7, none⟩ = some (.int .i64 0) := (HP.out.x hx1).cell 7 (by omega)
  have p8 : w1.cell? ⟨w.heap.size + 1, 8, none⟩ = some (.int .i64 0) := (HP.out.x hx1).cell 8 (by omega)
  have p9 : w1.cell? ⟨w.heap.size + 1, 9, none⟩ = some (.int .i64 0) := (HP.out.x hx1).cell 9 (by omega)
  clear m0 m1
  go_upto_region 4 with (fail)
  have hj := Cells.made (w := w1) (cs := mkRow 109 (jobC frame0 r (.iface tt tv) false)) (t := 151) (n := 109) (g := jobC frame0 r (.iface tt tv) false) (mkRow_size _ _) (fun j hj => mkRow_get _ hj)
  rw [job_row]
  obtain ⟨sa, scp, hsl, -⟩ := HR.out.bytes
  have hsl' : sl = .slice sa 4 scp := hsl
  have HSL := Lib.hid hsl'; clear hsl hsl'
  have hx2 := (HX.out.trans hx1).alloc (.cells (mkRow 109 (jobC frame0 r (.iface tt tv) false)) 151)
  have hne : w1.heap.size ≠ r := by have := HR.out.lt; have := (HX.out.trans hx1).size; omega
  have hf2 := (HF.out.x hx1).x ((XE.refl w1).alloc (.cells (mkRow 109 (jobC frame0 r (.iface tt tv) false)) 151))
  have hrl := HR.out.lt
  have hz1 := hx1.size
  have hz0 : w.heap.size + 2 < w0.heap.size := HF.out.lt (by omega)
  have HJ := Lib.hid hj; have HX2 := Lib.hid hx2; have HR2 := Lib.hid (HR.out.x hx2); have HF2 := Lib.hid hf2
  clear hj hx2 hf2 n0 n1 p0 p1 p2 p3 p4 p5 p6 p7 p8 p9 hx1
  generalize w1.alloc (.cells (mkRow 109 (jobC frame0 r (.iface tt tv) false)) 151) = w2 at *
  obtain ⟨jb, hjb⟩ : ∃ jb, jb = w1.heap.size := ⟨_, rfl⟩
  rw [← hjb] at HJ hne hz1 ⊢
  clear hjb
  go_upto_region 5 with (go_at_call 76; (with_reducible refine (jobHead_any _ _ _ _ _ _ HJ.out HR2.out hne).mono ?_); rintro e w3 ⟨rfl, hj3, hr3, ht3⟩)
  have c3 : w3.cell? ⟨r, 3, none⟩ = some (.int .u32 524288) := hr3.cell 3 (by omega)
  have HJ3 := Lib.hid hj3; have HR3 := Lib.hid hr3; have HT3 := Lib.hid ht3
  clear hj3 hr3 ht3
  have mr := method_rng ⟨r, 0, none⟩
  have ml := method_left ⟨r, 0, none⟩
  go_upto_region 6 with (go_at_call 159; (with_reducible refine (rngCell_any _ _ _ c3).mono ?_); rintro e w4 ⟨rfl, hx4⟩)
  have j0 : w4.cell? ⟨jb, 0, none⟩ = some (.bool true) := hx4.cell (HJ3.out.cell 0 (by omega))
  have j8 : w4.cell? ⟨jb, 108, none⟩ = some (.bool false) := hx4.cell (HJ3.out.cell 108 (by omega))
  have r0 : w4.cell? ⟨r, 0, none⟩ = some (.slice sa 4 scp) := (hx4.cell (HR3.out.cell 0 (by omega))).trans (by rw [← HSL.out]; rfl)
  have r1 : w4.cell? ⟨r, 1, none⟩ = some (.int .i64 3) := hx4.cell (HR3.out.cell 1 (by omega))
  have r2 : w4.cell? ⟨r, 2, none⟩ = some (.int .i64 0) := hx4.cell (HR3.out.cell 2 (by omega))
  have HX4 := Lib.hid hx4
  clear c3 hx4
  have hf4 := (HF2.out.turn HT3.out (by rintro (h | h) <;> omega)).x HX4.out
  have hlk : ∀ w5, XE w4 w5 → ∀ j, j < 94 → w5.cell? ⟨jb, 0 + j, none⟩ = some (frameS j) := fun w5 hx5 j hj => by
    rw [Nat.zero_add, hx5.cell (HX4.out.cell (HJ3.out.cell j (by omega))), frameS_of hj]
  have htt := (Turn.of_x (fun k => k = r ∨ k = jb) HX2.out).trans HT3.out
  have hxf : XO r w w4 := (show XO r w w3 from ⟨htt.os, htt.tape, htt.output, htt.size, fun k hk hkr => htt.block k hk (by rintro (h | h) <;> omega)⟩).x HX4.out
  have HF4 := Lib.hid hf4; have HLK := Lib.hid hlk; have HXF := Lib.hid hxf
  clear hf4 hlk hxf htt
  go_wp2_with (first
    | (go_at_call 45; (with_reducible refine (left8_any _ _ _ _ r0 r1 r2).mono ?_); rintro e w5 ⟨rfl, hx5⟩; have HL5 := Lib.hid (HLK.out _ hx5); have HF5 := Lib.hid (HF4.out.x hx5))
    | ((with_reducible refine wpList_load_part 71 (.tmp 124) ?_ ?_ (jb) (0) 94 ?_ (frameS) _ (HL5.out) Tryd.underlying71 ?_ info_frame ?_); (· rfl); (· rfl); (· rfl); (· rfl))
    | ((with_reducible refine wpList_store_part 71 (.tmp 8) (.tmp 125) ?_ ?_ ?_ (w.heap.size + 1 + 1) 0 94 frameS ?_ ?_ HF5.out (by omega) info_frame (fun j _ => frameS_one j) ?_); (· rfl); (· rfl); (· rfl); (· rfl); (· rfl)))
  have hfin := HF5.out.putRow (o := 0) (m := 94) (f := frameS) (g' := frameS) (by omega) (fun i hi => by rw [if_pos ⟨by omega, by omega⟩]; rfl)
  refine bodyPost_ret (v := .tuple #[.agg (mkRow 94 frameS), .int .u32 524288, .bool true]) (results_part_tmp2 rfl _ _ (w.heap.size + 1 + 1) 0 94 frameS _ _ rfl rfl rfl (fun j hj => by rw [Nat.zero_add]; exact hfin.cell j hj) Tryd.underlying71 rfl info_frame) rfl ⟨rfl, ?_⟩
  exact XO.own_sets (by omega) _ _ (HXF.out.x hx5)

/-! ### Tools, and the example -/
/-- What a call comes to that answers tools. -/
def RetTools (w : World) (e : Ending) (w' : World) : Prop := ∃ t v, e = .returned (.iface t v) ∧ XE w w'
theorem quick_any (w : World) : Calls Tryd.prog 73 #[] w (RetTools w) := by
  go_enter Tryd.func73, Tryd.ntmps73
  go_wp2_with (first
    | (go_at_call 50; (with_reducible refine (tableNew_any _).mono ?_); rintro e w1 ⟨tb, rfl, hb1, ht, hx1⟩)
    | (go_at_call 49; (with_reducible refine (costNew_any _ _ ht).mono ?_); rintro e w2 ⟨h, rfl, hb2, hs, hx2⟩)
    | (go_at_call 48; (with_reducible refine (shareNew_any _ _ hs).mono ?_); rintro e w3 ⟨b, rfl, hb3, hsh, hx3⟩))
  go_ret
  exact ⟨_, _, rfl, hx1.trans (hx2.trans hx3)⟩
theorem plainTools_any (w : World) : Calls Tryd.prog 47 #[] w (RetTools w) := by
  go_enter Tryd.func47, Tryd.ntmps47
  go_wp2_with (go_at_call 21; (with_reducible refine (countNew_any _).mono ?_); rintro e w3 ⟨q, rfl, hb3, ⟨m, hm, hbk⟩, hx3⟩)
  go_ret
  exact ⟨_, _, rfl, hx3⟩
end Go.Proofs.YtkcambhojpafkaaDoor
