/- ShareTells, the walk of the law. -/
import Derived.Test.YtkcambhojpafkaaDoorS14
import Derived.Test.YtkcambhojpafkaaDoorS15
import Derived.Test.YtkcambhojpafkaaDoorS19
import Derived.Deep.RegionHeld3
set_option linter.unusedSimpArgs false
set_option linter.unusedVariables false
namespace Go.Proofs.YtkcambhojpafkaaDoor
open Go Go.RowKit

theorem row5_lit (x : Nat → Int) : row5 x = #[.int .i64 (x 0), .int .i64 (x 1), .int .i64 (x 2), .int .i64 (x 3), .int .i64 (x 4)] := rfl
theorem row5_same {x y : Nat → Int} (h : same5 x y) : row5 x = row5 y := mkRow_congr fun j hj => by rw [h j hj]

/-- The document's answer of layer 15, one and the same as any that is shared out so. -/
theorem ref15Alloc_any (s c t budget : Int) (x : Nat → Int) (w : World) (hr : mRight s c = true) (hx : Shares s c t budget x) : Calls Tryd.prog 16 #[.int .i64 s, .int .i64 c, .int .i64 t, .int .i64 budget] w
    (RetE (.agg #[.int .i64 (x 0), .int .i64 (x 1), .int .i64 (x 2), .int .i64 (x 3), .int .i64 (x 4)]) w) := by
  have HX := Lib.hid hx; clear hx
  have HR := Lib.hid hr; clear hr
  go_enter Tryd.func16, Tryd.ntmps16
  go_wp2_with (first
    | (go_at_call 55; (with_reducible refine (ref14Alloc_any _ _ _ _ _ HR.out).mono ?_); rintro e w1 ⟨k, hk, rfl, hx1⟩; rw [row5_same (hk.one HX.out)]; have HA := Lib.hid ((cells_zero5 w 25).x hx1))
    | ((with_reducible refine wpList_store_part 25 (.tmp 8) (.tmp 13) ?_ ?_ ?_ (w.heap.size) (0) 5 (fun j => .int .i64 (x j)) ?_ ?_ (HA.out) (by omega) info_five (fun _ _ => rfl) ?_); (· rfl); (· rfl); (· rfl); (· rfl); (· rfl)))
  have hfin := HA.out.putRow (o := 0) (m := 5) (f := fun j => .int .i64 (x j)) (g' := fun j => .int .i64 (x j)) (by omega) (fun i hi => by rw [if_pos ⟨by omega, by omega⟩]; rfl)
  refine bodyPost_ret (v := .agg (row5 x)) (results_part rfl _ _ w.heap.size 0 5 _ rfl (fun j hj => by rw [Nat.zero_add]; exact hfin.cell j hj) Tryd.underlying25 rfl info_five) rfl ⟨rfl, (((XE.refl w).alloc _).trans hx1).setCells (Nat.le_refl _) _ _⟩

/-- An ask's cells, in a world that has grown. -/
@[reducible] def AskS (b : Nat) (s c t u : Int) (w0 : World) (w : World) : Prop :=
  w.cell? ⟨b, 0, none⟩ = some (.int .i64 s) ∧ w.cell? ⟨b, 1, none⟩ = some (.int .i64 c) ∧ w.cell? ⟨b, 2, none⟩ = some (.int .i64 t) ∧ w.cell? ⟨b, 3, none⟩ = some (.int .i64 u) ∧ XE w0 w
theorem AskS.x {b : Nat} {s c t u : Int} {w0 w w' : World} (h : AskS b s c t u w0 w) (hx : XE w w') : AskS b s c t u w0 w' :=
  ⟨hx.cell h.1, hx.cell h.2.1, hx.cell h.2.2.1, hx.cell h.2.2.2.1, h.2.2.2.2.trans hx⟩
theorem AskS.grown {b : Nat} {s c t u : Int} {w0 w : World} (h : AskS b s c t u w0 w) : XE w0 w := h.2.2.2.2
theorem AskS.lt {b : Nat} {s c t u : Int} {w0 w : World} (h : AskS b s c t u w0 w) : b < w.heap.size := World.block_lt_of_cell? _ _ h.1
theorem Cells.five {w : World} {b : Nat} {g : Nat → Value} (h : Cells w b 5 g) : w.cell? ⟨b, 0, none⟩ = some (g 0) ∧ w.cell? ⟨b, 1, none⟩ = some (g 1) ∧ w.cell? ⟨b, 2, none⟩ = some (g 2) ∧ w.cell? ⟨b, 3, none⟩ = some (g 3) ∧ w.cell? ⟨b, 4, none⟩ = some (g 4) ∧
    w.frozen? ⟨b, 0, none⟩ = false ∧ w.frozen? ⟨b, 1, none⟩ = false ∧ w.frozen? ⟨b, 2, none⟩ = false ∧ w.frozen? ⟨b, 3, none⟩ = false ∧ w.frozen? ⟨b, 4, none⟩ = false :=
  ⟨h.cell 0 (by omega), h.cell 1 (by omega), h.cell 2 (by omega), h.cell 3 (by omega), h.cell 4 (by omega), h.free 0 (by omega), h.free 1 (by omega), h.free 2 (by omega), h.free 3 (by omega), h.free 4 (by omega)⟩
theorem askA {b : Nat} {s c t u : Int} {w0 w w' : World} (h : AskS b s c t u w0 w) (hx : XE w.drew w') : AskS b s c t u w0 w' := h.x ((XE.refl _).drew.trans hx)
theorem askB {b : Nat} {s c t u : Int} {w0 w w' : World} {o : Obj} (h : AskS b s c t u w0 w) (hx : XE (w.drew.alloc o) w') : AskS b s c t u w0 w' := h.x (((XE.refl _).drew.alloc _).trans hx)
theorem ask_made (w : World) (s c t u : Int) (ty : TypeId) : AskS w.heap.size s c t u w (w.alloc (.cells #[.int .i64 s, .int .i64 c, .int .i64 t, .int .i64 u] ty)) := by
  have h := Cells.new w #[.int .i64 s, .int .i64 c, .int .i64 t, .int .i64 u] ty
  exact ⟨h.cell 0 (by simp), h.cell 1 (by simp), h.cell 2 (by simp), h.cell 3 (by simp), (XE.refl w).alloc _⟩

theorem AskS.set {b : Nat} {s c t u : Int} {w0 w : World} (h : AskS b s c t u w0 w) {a : Addr} (ha : a.block ≠ b) (hs : w0.heap.size ≤ a.block) (v : Value) : AskS b s c t u w0 (w.setCell a v) := by
  have hn : ∀ o, (⟨b, o, none⟩ : Addr) ≠ a := fun o e => ha (by rw [← e])
  exact ⟨by rw [World.cell?_setCell_other w _ _ v (Ne.symm (hn 0))]; exact h.1, by rw [World.cell?_setCell_other w _ _ v (Ne.symm (hn 1))]; exact h.2.1, by rw [World.cell?_setCell_other w _ _ v (Ne.symm (hn 2))]; exact h.2.2.1,
    by rw [World.cell?_setCell_other w _ _ v (Ne.symm (hn 3))]; exact h.2.2.2.1, h.2.2.2.2.setCell hs v⟩
theorem AskS.set5 {b : Nat} {s c t u : Int} {w0 w : World} (h : AskS b s c t u w0 w) {B : Nat} (ha : B ≠ b) (hs : w0.heap.size ≤ B) (v0 v1 v2 v3 v4 : Value) :
    AskS b s c t u w0 (((((w.setCell ⟨B, 0, none⟩ v0).setCell ⟨B, 1, none⟩ v1).setCell ⟨B, 2, none⟩ v2).setCell ⟨B, 3, none⟩ v3).setCell ⟨B, 4, none⟩ v4) :=
  ((((h.set ha hs v0).set ha hs v1).set ha hs v2).set ha hs v3).set ha hs v4
theorem Cells.set5 {w : World} {B : Nat} {g : Nat → Value} (h : Cells w B 5 g) (x : Nat → Int) :
    Cells (((((w.setCell ⟨B, 0, none⟩ (.int .i64 (x 0))).setCell ⟨B, 1, none⟩ (.int .i64 (x 1))).setCell ⟨B, 2, none⟩ (.int .i64 (x 2))).setCell ⟨B, 3, none⟩ (.int .i64 (x 3))).setCell ⟨B, 4, none⟩ (.int .i64 (x 4))) B 5 (fun j => .int .i64 (x j)) :=
  ((((((h.set (j := 0) (by omega) _).set (j := 1) (by omega) _).set (j := 2) (by omega) _).set (j := 3) (by omega) _).set (j := 4) (by omega) _)).congr fun j hj => by
    have : j = 0 ∨ j = 1 ∨ j = 2 ∨ j = 3 ∨ j = 4 := by omega
    rcases this with rfl | rfl | rfl | rfl | rfl <;> rfl

set_option maxRecDepth 100000 in
set_option maxHeartbeats 1000000 in
theorem shareTells_any (s c t u : Int) (w : World) (hw : Wid w) : Calls Tryd.prog 3 #[.agg #[.int .i64 s, .int .i64 c, .int .i64 t, .int .i64 u]] w (RetE (.bool true) w) := by
  have HW := Lib.hid hw; clear hw
  have ha := ask_made w s c t u 23
  have HA := Lib.hid ha; clear ha
  go_enter Tryd.func3, Tryd.ntmps3
  go_upto_region 3 with (go_at_call 12; (with_reducible refine (shareAwake_any _ (HW.out.alloc _)).mono ?_); rintro e w1 ⟨rfl, hx1⟩)
  have hs1 := HA.out.x hx1
  clear HA hx1
  go_cut [3] (fun v wc => ∃ (B : Nat) (x : Nat → Int), v = .pointer (some ⟨B, 0, none⟩) ∧ ShareOut s c t u x ∧ Cells wc B 5 (fun j => .int .i64 (x j)) ∧ AskS w.heap.size s c t u w wc)
  case first =>
    obtain ⟨h1, h2, h3, h4, h5⟩ := id hs1
    have hsz : w.heap.size < w1.heap.size := World.block_lt_of_cell? _ _ h1
    go_region_held3 (fun wS => wS.cell? ⟨w.heap.size, 0, none⟩ = some (.int .i64 s) ∧ wS.cell? ⟨w.heap.size, 1, none⟩ = some (.int .i64 c) ∧ wS.cell? ⟨w.heap.size, 2, none⟩ = some (.int .i64 t) ∧ wS.cell? ⟨w.heap.size, 3, none⟩ = some (.int .i64 u) ∧ XE w wS)
      (first | (with_reducible exact hA3.set5 (Nat.ne_of_gt hq2) (Nat.le_of_lt hq2) _ _ _ _ _) | (with_reducible exact hA3.set5 (Nat.ne_of_gt hsz) (Nat.le_of_lt hsz) _ _ _ _ _) | (with_reducible exact AskS.x hs1 ((XE.refl _).drew)) | (with_reducible exact AskS.x hs1 ((XE.refl _).drew.alloc _)) | (with_reducible exact hA3) | (with_reducible exact hA2) | (with_reducible exact hA3.x ((XE.refl _).alloc _)) | (with_reducible exact hA2.x ((XE.refl _).alloc _)))
      (first
        | (go_at_call 13; (with_reducible refine (fresh_any _).mono ?_); rintro e w2 ⟨b, rfl, hb2, ⟨h, hsh⟩, hx2⟩; (first | have hA2 := askA hs1 hx2 | have hA2 := askB hs1 hx2); have hWA := HW.out.x hA2.grown; have hWB := HW.out.x (hA2.grown.alloc (.cells #[.int .i64 0, .int .i64 0, .int .i64 0, .int .i64 0, .int .i64 0] 25)))
        | (go_at_call 14; (with_reducible refine (shareAlloc_any _ _ _ _ _ _ _ hsh hWA).mono ?_); rintro e w3 ⟨x, hs3, rfl, hx3⟩; rw [row5_lit]; have hA3 := hA2.x hx3; (first | (have hZ := ((cells_zero5 w1.drew 25).x hx2).x hx3; obtain ⟨z0, z1, z2, z3, z4, y0, y1, y2, y3, y4⟩ := hZ.five; rw [World.size_drew] at z0 z1 z2 z3 z4 y0 y1 y2 y3 y4) | skip))
        | (go_at_call 14; (with_reducible refine (shareAlloc_any _ _ _ _ _ _ _ (hsh.x ((XE.refl _).alloc _)) hWB).mono ?_); rintro e w3 ⟨x, hs3, rfl, hx3⟩; rw [row5_lit]; have hA3 := (hA2.x ((XE.refl _).alloc _)).x hx3; have hq2 := hA2.lt; have hZ := (cells_zero5 w2 25).x hx3; obtain ⟨z0, z1, z2, z3, z4, y0, y1, y2, y3, y4⟩ := hZ.five))
    all_goals (go_wp2; go_meet)
    · exact ⟨_, x, rfl, hs3, (cells_row5 w3 x).congr fun j _ => rfl, hA3.x ((XE.refl _).alloc _)⟩
    · exact ⟨_, x, rfl, hs3, hZ.set5 x, hA3.set5 (Nat.ne_of_gt hq2) (Nat.le_of_lt hq2) _ _ _ _ _⟩
    · exact ⟨_, x, rfl, hs3, hZ.set5 x, hA3.set5 (Nat.ne_of_gt hsz) (Nat.le_of_lt hsz) _ _ _ _ _⟩
  case rest =>
    obtain ⟨B, x, rfl, hs3, hB, hA⟩ := hcut
    obtain ⟨h1, h2, h3, h4, h5⟩ := id hA
    obtain ⟨z0, z1, z2, z3, z4, -⟩ := hB.five
    cases hr : mRight s c with
    | false =>
      have hz := hs3.wrong hr
      have hq : ∀ w, (Op.equalIn 10000 25 (.agg #[.int .i64 0, .int .i64 0, .int .i64 0, .int .i64 0, .int .i64 0]) (.agg #[.int .i64 0, .int .i64 0, .int .i64 0, .int .i64 0, .int .i64 0])).run Tryd.prog w = .ok true w := fun w => eq_five (f := fun _ => 0) (g := fun _ => 0) (fun _ _ => rfl) w
      have e0 := hz 0 (by omega); have e1 := hz 1 (by omega); have e2 := hz 2 (by omega); have e3 := hz 3 (by omega); have e4 := hz 4 (by omega)
      rw [e0] at z0; rw [e1] at z1; rw [e2] at z2; rw [e3] at z3; rw [e4] at z4
      have HS := Lib.hid hs3
      clear e0 e1 e2 e3 e4 hz hs1 hB hs3
      go_wp2_with (go_at_call 15; (with_reducible refine (refRight_any _ _ _).mono ?_); rintro e w' ⟨rfl, hw'⟩; obtain rfl := hw'.symm; rw [hr])
      go_ret
      exact ⟨rfl, hA.grown⟩
    | true =>
      have hsh := hs3.shares hr
      have hq : ∀ w, (Op.equalIn 10000 25 (.agg #[.int .i64 (x 0), .int .i64 (x 1), .int .i64 (x 2), .int .i64 (x 3), .int .i64 (x 4)]) (.agg #[.int .i64 (x 0), .int .i64 (x 1), .int .i64 (x 2), .int .i64 (x 3), .int .i64 (x 4)])).run Tryd.prog w = .ok true w := fun w => eq_five (f := x) (g := x) (fun _ _ => rfl) w
      have HS := Lib.hid hsh; have HR := Lib.hid hr; have HA := Lib.hid hA
      clear hs1 hB hs3 hsh hr hA h5
      go_wp2_with (go_at_call 15; (with_reducible refine (refRight_any _ _ _).mono ?_); rintro e w' ⟨rfl, hw'⟩; obtain rfl := hw'.symm; rw [HR.out])
      refine wp_region_grown (by kernel_rfl) (by kernel_rfl) ?_; (repeat (go_big_quiet_step ((go_at_call 16; exact quietE (ref15Alloc_any _ _ _ _ _ _ HR.out HS.out))))); refine wpQuiet_nil ?_; rintro _ ⟨dq, rfl⟩
      go_wp2
      go_ret
      exact ⟨rfl, HA.out.grown.ext _⟩
end Go.Proofs.YtkcambhojpafkaaDoor
