/- FrameOdd, the walk of the law. -/
import Derived.Test.YtkcambhojpafkaaDoorL8
import Derived.Test.YtkcambhojpafkaaDoorS14
import Derived.Deep.RegionHeld3
set_option linter.unusedSimpArgs false
set_option linter.unusedVariables false
namespace Go.Proofs.YtkcambhojpafkaaDoor
open Go Go.RowKit

/-- A frame's block, made since w1. -/
def Fr (w1 w : World) (b : Nat) : Prop := Cells w b 94 frame0 ∧ w1.heap.size ≤ b ∧ XE w1 w
theorem Fr.x {w1 w w' : World} {b : Nat} (h : Fr w1 w b) (hx : XE w w') : Fr w1 w' b := ⟨h.1.x hx, h.2.1, h.2.2.trans hx⟩
theorem Fr.new {w1 w : World} (hx : XE w1 w) : Fr w1 (w.alloc (.cells Tryd.zeroCells71 71)) w.heap.size := by
  rw [zero_frame]
  exact ⟨.made (mkRow_size _ _) (fun j hj => mkRow_get _ hj), hx.size, hx.alloc _⟩
theorem Fr.there {w1 w : World} {b : Nat} (h : Fr w1 w b) : w.there b 0 94 := fun j hj => by
  rw [Nat.zero_add]
  exact ⟨by rw [h.1.cell j hj]; rfl, h.1.free j hj⟩
theorem Fr.fin {w1 w : World} {b : Nat} (h : Fr w1 w b) {L : List Value} (hL : mkRow 94 frame0 = L.toArray) : Fr w1 (w.setCells b 0 L) b := by
  obtain rfl : L = (mkRow 94 frame0).toList := by rw [hL]
  exact ⟨h.1.putRow (o := 0) (m := 94) (f := frame0) (by omega) (fun i hi => by rw [if_pos ⟨by omega, by omega⟩]; rfl), h.2.1, h.2.2.setCells h.2.1 _ _⟩
theorem fr_a {w1 w2 w3 w4 : World} (h1 : XE (w1.drew.alloc (.cells Tryd.zeroCells71 71)) w2) (h2 : XE w2 w3) (h3 : XE w3 w4) : Fr w1 w4 w1.heap.size :=
  (((Fr.new ((XE.refl w1).drew)).x h1).x h2).x h3
theorem fr_a2 {w1 w2 w3 w4 : World} (h1 : XE (w1.alloc (.cells Tryd.zeroCells71 71)).drew w2) (h2 : XE w2 w3) (h3 : XE w3 w4) : Fr w1 w4 w1.heap.size :=
  ((((Fr.new (XE.refl w1)).x (XE.refl _).drew).x h1).x h2).x h3
theorem fr_b {w1 w2 w3 w4 : World} (h1 : XE w1.drew w2) (h2 : XE (w2.alloc (.cells Tryd.zeroCells71 71)) w3) (h3 : XE w3 w4) : Fr w1 w4 w2.heap.size :=
  ((Fr.new ((XE.refl w1).drew.trans h1)).x h2).x h3
theorem fr_c {w1 w2 w3 w4 : World} (h1 : XE w1.drew w2) (h2 : XE w2 w3) (h3 : XE (w3.alloc (.cells Tryd.zeroCells71 71)) w4) : Fr w1 w4 w3.heap.size :=
  (Fr.new (((XE.refl w1).drew.trans h1).trans h2)).x h3
theorem fr_d {w1 w2 w3 w4 : World} (h1 : XE w1.drew w2) (h2 : XE w2 w3) (h3 : XE w3 w4) : Fr w1 (w4.alloc (.cells Tryd.zeroCells71 71)) w4.heap.size :=
  Fr.new ((((XE.refl w1).drew.trans h1).trans h2).trans h3)
@[reducible] def OddS (b : Nat) (sl : Value) (z c : Int) (p : Nat → Int) (w : World) : Prop := w.cell? ⟨b, 0, none⟩ = some sl ∧ w.cell? ⟨b, 1, none⟩ = some (.int .u8 z) ∧ w.cell? ⟨b, 2, none⟩ = some (.int .u8 c) ∧ w.cell? ⟨b, 3, none⟩ = some (.int .u8 (p 0)) ∧ w.cell? ⟨b, 4, none⟩ = some (.int .u8 (p 1)) ∧ w.cell? ⟨b, 5, none⟩ = some (.int .u8 (p 2)) ∧ w.cell? ⟨b, 6, none⟩ = some (.int .u8 (p 3)) ∧ w.cell? ⟨b, 7, none⟩ = some (.int .u8 (p 4)) ∧ w.cell? ⟨b, 8, none⟩ = some (.int .u8 (p 5)) ∧ w.cell? ⟨b, 9, none⟩ = some (.int .u8 (p 6)) ∧ w.cell? ⟨b, 10, none⟩ = some (.int .u8 (p 7)) ∧ w.cell? ⟨b, 11, none⟩ = some (.int .u8 (p 8)) ∧ w.cell? ⟨b, 12, none⟩ = some (.int .u8 (p 9))
theorem OddS.x {b : Nat} {sl : Value} {z c : Int} {p : Nat → Int} {w w' : World} (hx : XE w w') (h : OddS b sl z c p w) : OddS b sl z c p w' := by
  obtain ⟨h0, h1, h2, h3, h4, h5, h6, h7, h8, h9, h10, h11, h12⟩ := h
  exact ⟨hx.cell h0, hx.cell h1, hx.cell h2, hx.cell h3, hx.cell h4, hx.cell h5, hx.cell h6, hx.cell h7, hx.cell h8, hx.cell h9, hx.cell h10, hx.cell h11, hx.cell h12⟩
theorem OddS.al {b : Nat} {sl : Value} {z c : Int} {p : Nat → Int} {w : World} {o : Obj} (h : OddS b sl z c p w) : OddS b sl z c p (w.alloc o) := h.x ((XE.refl w).alloc o)
theorem OddS.dr {b : Nat} {sl : Value} {z c : Int} {p : Nat → Int} {w : World} (h : OddS b sl z c p w) : OddS b sl z c p w.drew := h.x ((XE.refl w).drew)
theorem OddS.st {w1 : World} {b B : Nat} {sl : Value} {z c : Int} {p : Nat → Int} {w : World} (h : OddS b sl z c p w) (hq : Fr w1 w B) (hb : b < w1.heap.size) (L : List Value) : OddS b sl z c p (w.setCells B 0 L) := by
  have hne : b ≠ B := by have := hq.2.1; omega
  have key : ∀ o v, w.cell? ⟨b, o, none⟩ = some v → (w.setCells B 0 L).cell? ⟨b, o, none⟩ = some v := fun o v hv => by
    rw [World.cell?_setCells_out B L 0 w ⟨b, o, none⟩ (fun e _ => absurd e hne)]; exact hv
  obtain ⟨h0, h1, h2, h3, h4, h5, h6, h7, h8, h9, h10, h11, h12⟩ := h
  exact ⟨key _ _ h0, key _ _ h1, key _ _ h2, key _ _ h3, key _ _ h4, key _ _ h5, key _ _ h6, key _ _ h7, key _ _ h8, key _ _ h9, key _ _ h10, key _ _ h11, key _ _ h12⟩
theorem OddS.of {b : Nat} {sl : Value} {z c : Int} {p : Nat → Int} {w : World} (h : Cells w b 13 (askC sl z c p)) : OddS b sl z c p w :=
  ⟨h.cell 0 (by omega), h.cell 1 (by omega), h.cell 2 (by omega), h.cell 3 (by omega), h.cell 4 (by omega), h.cell 5 (by omega), h.cell 6 (by omega), h.cell 7 (by omega), h.cell 8 (by omega), h.cell 9 (by omega), h.cell 10 (by omega), h.cell 11 (by omega), h.cell 12 (by omega)⟩
theorem ask_lit (sl : Value) (z c : Int) (p : Nat → Int) : mkRow 13 (askC sl z c p) = #[sl, .int .u8 z, .int .u8 c, .int .u8 (p 0), .int .u8 (p 1), .int .u8 (p 2), .int .u8 (p 3), .int .u8 (p 4), .int .u8 (p 5), .int .u8 (p 6), .int .u8 (p 7), .int .u8 (p 8), .int .u8 (p 9)] := rfl
theorem one_all {L : List Value} (hL : mkRow 94 frame0 = L.toArray) : ∀ v ∈ L, v.oneCell' = true := fun v hv => by
  have e : L = (List.range 94).map frame0 := by
    have := congrArg Array.toList hL
    simpa [mkRow] using this.symm
  rw [e] at hv
  obtain ⟨j, -, rfl⟩ := List.mem_map.1 hv
  exact frame0_one j
theorem odd_store {L : List Value} (hL : mkRow 94 frame0 = L.toArray) (w : World) (b : Nat) (h : w.there b 0 94) : (storeCells ⟨b, 0, none⟩ L).run Tryd.prog w = .ok () (w.setCells b 0 L) := by
  have hl : L.length = 94 := by
    have := congrArg Array.size hL
    rw [mkRow_size] at this; simpa using this.symm
  have := run_storeCells_cells (P := Tryd.prog) b 0 L 0 w (fun j hj => by simpa using (h j (by omega)).1) (fun j hj => by simpa using (h j (by omega)).2) (one_all hL)
  simpa using this
set_option maxRecDepth 100000 in
set_option maxHeartbeats 4000000 in
theorem frameOdd_any (sl : Value) (z c : Int) (p : Nat → Int) (n : Nat) (bs : Nat → Int) (s ch : Int) (w : World) (hp : ∀ j, j < 10 → 0 ≤ p j ∧ p j ≤ 255) (hb : BytesAt w sl n bs) (hb2 : ∀ i, i < n → 0 ≤ bs i ∧ bs i ≤ 255) (hn : n ≤ maxLen) :
    Calls Tryd.prog 11 #[.agg (mkRow 13 (askC sl z c p)), .int .i64 s, .int .i64 ch] w (RetE (.bool true) w) := by
  have HP := Lib.hid hp; have HB := Lib.hid hb; have HB2 := Lib.hid hb2
  obtain ⟨sa, scp, rfl, -⟩ := hb
  clear hp hb2
  have h63 : (n : Int) ≤ 9223372036854775807 := by unfold maxLen at hn; omega
  go_enter Tryd.func11, Tryd.ntmps11
  go_upto_region 1 with (fail)
  have ha := Cells.made (w := w) (cs := mkRow 13 (askC (.slice sa n scp) z c p)) (t := 89) (n := 13) (g := askC (.slice sa n scp) z c p) (mkRow_size _ _) (fun j hj => mkRow_get _ hj)
  have hx := (XE.refl w).alloc (.cells (mkRow 13 (askC (.slice sa n scp) z c p)) 89)
  have HA := Lib.hid ha; have HX := Lib.hid hx
  clear ha hx
  generalize w.alloc (.cells (mkRow 13 (askC (.slice sa n scp) z c p)) 89) = w0 at *
  go_upto_region 3 with (go_at_call 37; (with_reducible refine (frameAwake_any _).mono ?_); rintro e w1 ⟨rfl, hx1⟩)
  have a0 : w1.cell? ⟨w.heap.size, 0, none⟩ = some (.slice sa n scp) := hx1.cell (HA.out.cell 0 (by omega))
  have HA1 := Lib.hid (HA.out.x hx1); have HX1 := Lib.hid (HX.out.trans hx1)
  clear HA HX hx1
  by_cases hlt : 1300 < n
  · go_wp2_with (fail)
    go_ret
    exact ⟨rfl, HX1.out⟩
  · cases hr : mRight s ch with
    | true =>
      go_wp2_with (go_at_call 15; (with_reducible refine (refRight_any _ _ _).mono ?_); rintro e w' ⟨rfl, hw'⟩; obtain rfl := hw'.symm; rw [hr])
      go_ret
      exact ⟨rfl, HX1.out⟩
    | false =>
      go_upto_region 6 with (first
        | (go_at_call 15; (with_reducible refine (refRight_any _ _ _).mono ?_); rintro e w' ⟨rfl, hw'⟩; obtain rfl := hw'.symm; rw [hr])
        | (go_at_call 44; (with_reducible refine (readerNew_any _ n bs _ (HB.out.x HX1.out) (by omega) HB2.out).mono ?_); rintro e w2 ⟨r, v, rfl, hr2, hat, hx2⟩))
      have HA2 := Lib.hid (HA1.out.x hx2); have HX2 := Lib.hid (HX1.out.trans hx2); have HAT := Lib.hid hat
      clear HA1 HX1 hx2 hat a0 HB HB2 hw'
      go_upto_region 7 with (go_at_call 45; (with_reducible refine (readerLeft_any _ _ _ _ _ HAT.out (by omega) (by simp) (by simp) (by simp) (by simp)).mono ?_); rintro e w3 ⟨rfl, hx3⟩)
      have HA3 := Lib.hid (HA2.out.x hx3); have HX3 := Lib.hid (HX2.out.trans hx3); have HAT3 := Lib.hid (HAT.out.x hx3)
      clear HA2 HX2 HAT hx3
      obtain ⟨fz, hfz⟩ : ∃ fz : List Value, mkRow 94 frame0 = fz.toArray := ⟨_, rfl⟩
      have hS := OddS.of HA3.out
      have hlw : w.heap.size < w3.heap.size := HA3.out.lt (by omega)
      have HEN := Lib.hid (fun w => (show Calls Tryd.prog 38 #[.agg #[(.slice sa n scp), .int .u8 z, .int .u8 c, .int .u8 (p 0), .int .u8 (p 1), .int .u8 (p 2), .int .u8 (p 3), .int .u8 (p 4), .int .u8 (p 5), .int .u8 (p 6), .int .u8 (p 7), .int .u8 (p 8), .int .u8 (p 9)]] w _ from ask_lit (.slice sa n scp) z c p ▸ energies_any (.slice sa n scp) z c p w HP.out))
      have HRD := Lib.hid (fun tl w => (show Calls Tryd.prog 46 #[.pointer (some ⟨r, 0, none⟩), tl, .agg #[.int .i64 s, .int .i64 ch], .agg (mkRow 10 fun j => .int .i64 (p j % 32))] w (RetE (.tuple #[.agg fz.toArray, .int .u32 0, .bool false]) w) from hfz ▸ readOdd_any r tl s ch (fun j => p j % 32) w hr))
      have hst := odd_store hfz
      have hl94 : fz.length = 94 := by
        have := congrArg Array.size hfz
        rw [mkRow_size] at this; simpa using this.symm
      have HFZ := Lib.hid hfz
      clear hfz hr
      go_cut [9, 10, 11] (fun v9 v10 v11 wc => ∃ B, v9 = .pointer (some ⟨B, 0, none⟩) ∧ v10 = .int .u32 0 ∧ v11 = .bool false ∧ Fr w3 wc B)
      case first =>
        go_region_held3 (fun wS => wS.cell? ⟨w.heap.size, 0, none⟩ = some (.slice sa n scp) ∧ wS.cell? ⟨w.heap.size, 1, none⟩ = some (.int .u8 z) ∧ wS.cell? ⟨w.heap.size, 2, none⟩ = some (.int .u8 c) ∧ wS.cell? ⟨w.heap.size, 3, none⟩ = some (.int .u8 (p 0)) ∧ wS.cell? ⟨w.heap.size, 4, none⟩ = some (.int .u8 (p 1)) ∧ wS.cell? ⟨w.heap.size, 5, none⟩ = some (.int .u8 (p 2)) ∧ wS.cell? ⟨w.heap.size, 6, none⟩ = some (.int .u8 (p 3)) ∧ wS.cell? ⟨w.heap.size, 7, none⟩ = some (.int .u8 (p 4)) ∧ wS.cell? ⟨w.heap.size, 8, none⟩ = some (.int .u8 (p 5)) ∧ wS.cell? ⟨w.heap.size, 9, none⟩ = some (.int .u8 (p 6)) ∧ wS.cell? ⟨w.heap.size, 10, none⟩ = some (.int .u8 (p 7)) ∧ wS.cell? ⟨w.heap.size, 11, none⟩ = some (.int .u8 (p 8)) ∧ wS.cell? ⟨w.heap.size, 12, none⟩ = some (.int .u8 (p 9)))
          (first | (with_reducible exact hAR.st hq hlw fz) | (with_reducible exact hAR.al.st hq hlw fz) | (with_reducible exact hAR) | (with_reducible exact hAR.al) | (with_reducible exact hA2) | (with_reducible exact hA2.al) | (with_reducible exact hA1) | (with_reducible exact hA1.al) | (with_reducible exact hS.dr) | (with_reducible exact hS.dr.al) | (with_reducible exact hS.al.dr) | fail)
          (first
            | (go_at_call 47; (with_reducible refine (plainTools_any _).mono ?_); rintro e wP ⟨pt, pv, rfl, hxP⟩; (first | have hA1 := OddS.x hxP hS.dr | have hA1 := OddS.x hxP hS.dr.al | have hA1 := OddS.x hxP hS.al.dr | have hA2 := OddS.x hxP hA1 | have hA2 := OddS.x hxP hA1.al | fail))
            | (go_at_call 38; (with_reducible refine (HEN.out _).mono ?_); rintro e wE ⟨rfl, hxE⟩; (first | have hA1 := OddS.x hxE hS.dr | have hA1 := OddS.x hxE hS.dr.al | have hA1 := OddS.x hxE hS.al.dr | have hA2 := OddS.x hxE hA1 | have hA2 := OddS.x hxE hA1.al | fail))
            | (go_at_call 46; (with_reducible refine (HRD.out _ _).mono ?_); rintro e wR ⟨rfl, hxR⟩; (first | have hAR := OddS.x hxR hA2 | have hAR := OddS.x hxR hA2.al | fail); (first | have hq := fr_a2 hxP hxE hxR | have hq := fr_a2 hxE hxP hxR | have hq := fr_a hxP hxE hxR | have hq := fr_a hxE hxP hxR | have hq := fr_b hxP hxE hxR | have hq := fr_b hxE hxP hxR | have hq := fr_c hxP hxE hxR | have hq := fr_c hxE hxP hxR | have hq := fr_d hxP hxE hxR | have hq := fr_d hxE hxP hxR | fail); have hth := hq.there))
        all_goals (go_wp2; go_meet)
        all_goals exact ⟨_, rfl, rfl, rfl, hq.fin HFZ.out⟩
      case rest =>
        obtain ⟨B, rfl, rfl, rfl, hfr⟩ := hcut
        have heq := eq_frame0
        have hz0 := zero_frame
        have hgd := guard_frame
        obtain ⟨hfc, -, hfx⟩ := hfr
        have HL := Lib.hid (show ∀ j, j < 94 → wc.cell? ⟨B, 0 + j, none⟩ = some (frame0 j) from fun j hj => by rw [Nat.zero_add]; exact hfc.cell j hj)
        have HAT4 := Lib.hid (HAT3.out.x hfx); have HX4 := Lib.hid (HX3.out.trans hfx)
        clear hst hl94 hS hfc hfx
        go_wp2_with (first
          | ((with_reducible refine wpList_load_part 71 (.tmp 9) ?_ ?_ (B) (0) 94 ?_ (frame0) _ (HL.out) Tryd.underlying71 ?_ info_frame ?_); (· rfl); (· rfl); (· rfl); (· rfl))
          | (go_at_call 45; (with_reducible refine (readerLeft_any _ _ _ _ _ HAT4.out (by omega) (by simp) (by simp) (by simp) (by simp)).mono ?_); rintro e w4 ⟨rfl, hx4⟩))
        go_ret
        exact ⟨rfl, HX4.out.trans hx4⟩
end Go.Proofs.YtkcambhojpafkaaDoor
