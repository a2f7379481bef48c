/- The walk of layer 14's Alloc over a book. -/
import Derived.Test.YtkcambhojpafkaaDoorS22
set_option linter.unusedSimpArgs false
set_option linter.unusedVariables false
namespace Go.Proofs.YtkcambhojpafkaaDoor
open Go Go.RowKit

/-- A sharing out under way: the mode at block h, the result at h + 1, what has been given at h + 2. -/
structure Giv (b m h : Nat) (s c : Int) (f : Nat → Int) (w0 w : World) : Prop where
  book : BookAt w0 b m
  low : w0.heap.size ≤ h
  k : Cells w (h + 2) 5 (fun j => .int .i64 (f j))
  z : Cells w (h + 1) 5 (fun _ => .int .i64 0)
  s0 : w.cell? ⟨h, 0, none⟩ = some (.int .i64 s)
  c0 : w.cell? ⟨h, 1, none⟩ = some (.int .i64 c)
  xb : XB m w0 w
section
variable {b m h : Nat} {s c : Int} {f : Nat → Int} {w0 w w' : World}
theorem Giv.at (g : Giv b m h s c f w0 w) : BookAt w b m := g.xb.book g.book
theorem Giv.by (g : Giv b m h s c f w0 w) (hx : XB m w w') : Giv b m h s c f w0 w' :=
  ⟨g.book, g.low, hx.cells g.at g.k, hx.cells g.at g.z, hx.cell g.at g.s0, hx.cell g.at g.c0, g.xb.trans hx⟩
theorem Giv.x (g : Giv b m h s c f w0 w) (hx : XE w w') : Giv b m h s c f w0 w' := g.by (g.at.self.x hx)
theorem XB.set {m : Nat} {w0 w : World} (h : XB m w0 w) {a : Addr} (ha : w0.heap.size ≤ a.block) (hm : a.block ≠ m) (v : Value) : XB m w0 (w.setCell a v) := by
  have hh : ∀ k, k ≠ a.block → (w.setCell a v).heap[k]? = w.heap[k]? := fun k hk => Below.heap_setCell w a v k hk
  obtain ⟨L, cl, h1, h2⟩ := h.map
  exact ⟨h.os, h.tape, h.output, by simpa using h.size, fun k hk hkm => by rw [hh k (by omega)]; exact h.block k hk hkm, L, cl, by rw [hh m (Ne.symm hm)]; exact h1, h2⟩
theorem Giv.set (g : Giv b m h s c f w0 w) {B : Nat} (hB : h + 2 < B) (hm : B ≠ m) (o : Nat) (v : Value) : Giv b m h s c f w0 (w.setCell ⟨B, o, none⟩ v) :=
  ⟨g.book, g.low, g.k.far (by simp; omega) v, g.z.far (by simp; omega) v, by rw [World.cell?_setCell_other w _ _ v (fun e => by injection e with e1 _; omega)]; exact g.s0,
    by rw [World.cell?_setCell_other w _ _ v (fun e => by injection e with e1 _; omega)]; exact g.c0, g.xb.set (by have := g.low; simp; omega) hm v⟩
theorem Giv.sets {B : Nat} (hB : h + 2 < B) (hm : B ≠ m) : ∀ (l : List Value) (o : Nat) {w : World}, Giv b m h s c f w0 w → Giv b m h s c f w0 (w.setCells B o l)
  | [], _, _, g => g
  | v :: r, o, _, g => Giv.sets hB hm r (o + 1) (g.set hB hm o v)
theorem XB.sets {m : Nat} {w0 : World} {B : Nat} (hB : w0.heap.size ≤ B) (hm : B ≠ m) : ∀ (l : List Value) (o : Nat) {w : World}, XB m w0 w → XB m w0 (w.setCells B o l)
  | [], _, _, h => h
  | v :: r, o, _, h => XB.sets hB hm r (o + 1) (h.set (a := ⟨B, o, none⟩) hB hm v)
theorem Giv.putK (g : Giv b m h s c f w0 w) (hm : m < w0.heap.size) (f' : Nat → Int) : Giv b m h s c f' w0 (w.setCells (h + 2) 0 (mkRow 5 fun j => .int .i64 (f' j)).toList) := by
  have hl := g.low
  refine ⟨g.book, g.low, g.k.putRow (o := 0) (m := 5) (by omega) (fun i hi => by rw [if_pos ⟨by omega, by omega⟩]; rfl), g.z.farRow (by omega) _ _, ?_, ?_, XB.sets (by omega) (by omega) _ _ g.xb⟩
  · rw [World.cell?_setCells_out _ _ _ w _ (fun e _ => absurd e (by simp))]; exact g.s0
  · rw [World.cell?_setCells_out _ _ _ w _ (fun e _ => absurd e (by simp))]; exact g.c0
end

set_option maxRecDepth 100000 in
set_option maxHeartbeats 2000000 in
theorem allocAlloc_any (b m : Nat) (s c t u : Int) (w : World) (hb : BookAt w b m) (hw : Wid w) :
    Calls Tryd.prog 26 #[.pointer (some ⟨b, 0, none⟩), .agg #[.int .i64 s, .int .i64 c], .int .i64 t, .int .i64 u] w (RetB m (.agg (row5 (allocK s c t u))) w) := by
  have hbd := mBands_bd s c
  obtain ⟨m0, m1⟩ := two_cells w (.int .i64 s) (.int .i64 c) 30
  have hz1 := cells_zero5 (w.alloc (.cells #[.int .i64 s, .int .i64 c] 30)) 25
  have hz2 := cells_zero5 ((w.alloc (.cells #[.int .i64 s, .int .i64 c] 30)).alloc (.cells #[.int .i64 0, .int .i64 0, .int .i64 0, .int .i64 0, .int .i64 0] 25)) 25
  rw [World.size_alloc] at hz1
  rw [World.size_alloc, World.size_alloc] at hz2
  have hxa : XE (w.alloc (.cells #[.int .i64 s, .int .i64 c] 30)) (((w.alloc (.cells #[.int .i64 s, .int .i64 c] 30)).alloc (.cells #[.int .i64 0, .int .i64 0, .int .i64 0, .int .i64 0, .int .i64 0] 25)).alloc (.cells #[.int .i64 0, .int .i64 0, .int .i64 0, .int .i64 0, .int .i64 0] 25)) := ((XE.refl _).alloc _).alloc _
  have hg : Giv b m w.heap.size s c (fun _ => 0) w (((w.alloc (.cells #[.int .i64 s, .int .i64 c] 30)).alloc (.cells #[.int .i64 0, .int .i64 0, .int .i64 0, .int .i64 0, .int .i64 0] 25)).alloc (.cells #[.int .i64 0, .int .i64 0, .int .i64 0, .int .i64 0, .int .i64 0] 25)) :=
    ⟨hb, Nat.le_refl _, hz2, hz1.x ((XE.refl _).alloc _), hxa.cell m0, hxa.cell m1, hb.self.x (((XE.refl w).alloc _).trans hxa)⟩
  have hml := hb.lt
  have HG := Lib.hid hg; have HW := Lib.hid hw; have HB := Lib.hid hb
  clear hg hw hb hz1 hz2 m0 m1 hxa
  go_enter Tryd.func26, Tryd.ntmps26
  go_wp2
  generalize ((w.alloc (.cells #[.int .i64 s, .int .i64 c] 30)).alloc (.cells #[.int .i64 0, .int .i64 0, .int .i64 0, .int .i64 0, .int .i64 0] 25)).alloc (.cells #[.int .i64 0, .int .i64 0, .int .i64 0, .int .i64 0, .int .i64 0] 25) = w1 at *
  go_loopg [] 11995 (fun gk wr => ∃ p : Nat, 5 ≤ p ∧ p ≤ 10300 ∧ p + gk = 12000 ∧ Giv b m w.heap.size s c (posF s c t p) w wr ∧ ∀ q, 5 ≤ q → q < p → Fit s c t u q)
  case atStart =>
    refine ⟨5, by omega, by omega, by omega, ?_, fun q h1 h2 => by omega⟩
    obtain ⟨g1, g2, g3, g4, g5, g6, g7⟩ := HG.out
    exact ⟨g1, g2, g3.congr fun j hj => by rw [posF_start j hj], g4, g5, g6, g7⟩
  case round =>
    clear HG
    obtain ⟨p, hp5, hp, hgk, hg, hfit⟩ := hrel
    have h0 := hg.s0; have h1 := hg.c0
    have hbest := best_any b m s c t (posF s c t p) wr hg.at (hg.xb.wid HB.out HW.out) (fun j hj => posF_bd hp5 hj)
    have hlk : ∀ j, j < 5 → wr.cell? ⟨w.heap.size + 2, 0 + j, none⟩ = some (.int .i64 (posF s c t p j)) := fun j hj => by rw [Nat.zero_add]; exact hg.k.cell j hj
    have HG := Lib.hid hg; have HF := Lib.hid hfit; have HBE := Lib.hid hbest; have HLK := Lib.hid hlk; have HGK := Lib.hid hgk
    clear hg hfit hbest hlk hgk
    go_upto_region 3 with (first
      | ((with_reducible refine wpList_load_part 25 (.tmp 9) ?_ ?_ (w.heap.size + 2) (0) 5 ?_ (fun j => .int .i64 (posF s c t p j)) _ (HLK.out) Tryd.underlying25 ?_ info_five ?_); (· rfl); (· rfl); (· rfl); (· rfl))
      | (go_at_call 61; (refine HBE.out.mono ?_); rintro e w2 ⟨r, l, hbr, rfl, hx2⟩))
    have hg2 := HG.out.by hx2
    rcases hbr with ⟨rfl, -, hnone⟩ | ⟨bb, hbb, rfl, -, hcap, hmin, hfirst⟩
    · have hres : row5 (posF s c t p) = row5 (allocK s c t u) := by
        cases hr : mRight s c with
        | true => exact allocK_of hr ⟨p, hp5, same5.refl _, HF.out, Or.inr (best_none hp5 (same5.refl _) fun j hj => hnone j (by omega))⟩
        | false =>
          rw [allocK_wrong hr]
          exact row5_same fun j hj => posF_out (by simp [mBands, hr])
      have hlk2 : ∀ j, j < 5 → w2.cell? ⟨w.heap.size + 2, 0 + j, none⟩ = some (.int .i64 (posF s c t p j)) := fun j hj => by rw [Nat.zero_add]; exact hg2.k.cell j hj
      have HRES := Lib.hid hres; have HLKx := Lib.hid hlk2; have HZx := Lib.hid hg2.z; have HGx := Lib.hid hg2
      clear hres hlk2 hg2 hnone hx2 h0 h1
      go_wp2_with (first
        | ((with_reducible refine wpList_load_part 25 (.tmp 9) ?_ ?_ (w.heap.size + 2) (0) 5 ?_ (fun j => .int .i64 (posF s c t p j)) _ (HLKx.out) Tryd.underlying25 ?_ info_five ?_); (· rfl); (· rfl); (· rfl); (· rfl))
        | ((with_reducible refine wpList_store_part 25 (.tmp 8) (.tmp 19) ?_ ?_ ?_ (w.heap.size + 1) (0) 5 (fun j => .int .i64 (posF s c t p j)) ?_ ?_ (HZx.out) (by omega) info_five (fun _ _ => rfl) ?_); (· rfl); (· rfl); (· rfl); (· rfl); (· rfl)))
      have hfin := HZx.out.putRow (o := 0) (m := 5) (f := fun j => .int .i64 (posF s c t p j)) (g' := fun j => .int .i64 (posF s c t p j)) (by omega) (fun i hi => by rw [if_pos ⟨by omega, by omega⟩]; rfl)
      refine bodyPost_ret (v := .agg (row5 (posF s c t p))) (results_part rfl _ _ (w.heap.size + 1) 0 5 _ rfl (fun j hj => by rw [Nat.zero_add]; exact hfin.cell j hj) Tryd.underlying25 rfl info_five) rfl ⟨by rw [HRES.out], XB.sets (by omega) (by omega) _ _ HGx.out.xb⟩
    · have hbI : (bb : Int) < mBands s c := by omega
      obtain ⟨L, hL1, hL2, hpl, hcome, hsame, hstay⟩ := best_place hp5 (same5.refl _) hbI hcap (fun j hj hk => hmin j (by omega) hk) hfirst
      have hr := right_of_bands (s := s) (c := c) (by omega)
      have hkb := posF_bd (s := s) (c := c) (t := t) hp5 hbI
      have hcz := capZ_le (mWidth s c bb)
      have hnext := posF_come hbI hL1 hcome
      have hfit2 : ∀ q, 5 ≤ q → q < 5 * L + bb → Fit s c t u q := fun q h1 h2 => by
        rcases Nat.lt_or_ge q p with h3 | h3
        · exact HF.out q h1 h3
        · exact Or.inl (hstay q h3 h2)
      have hne : ¬ same5 (posF s c t (5 * L + bb + 1)) (posF s c t (5 * L + bb)) := fun h => by
        have := h bb (by omega)
        rw [hnext bb (by omega), if_pos rfl] at this; omega
      have hnx : ∀ j, j < 5 → posF s c t (5 * L + bb + 1) j = if j = bb then posF s c t p bb + 1 else posF s c t p j := fun j hj => by
        rw [hnext j hj, hsame bb (by omega), hsame j hj]
      have hres : u < totF s c (posF s c t (5 * L + bb + 1)) → row5 (posF s c t p) = row5 (allocK s c t u) := fun hlt => by
        refine allocK_of hr ⟨5 * L + bb, by omega, hsame.symm, hfit2, Or.inl ?_⟩
        rintro (h | h)
        · exact hne h
        · omega
      have hfit3 : ¬ u < totF s c (posF s c t (5 * L + bb + 1)) → ∀ q, 5 ≤ q → q < 5 * L + bb + 1 → Fit s c t u q := fun hle q h1 h2 => by
        rcases Nat.lt_or_ge q (5 * L + bb) with h3 | h3
        · exact hfit2 q h1 h3
        · obtain rfl : q = 5 * L + bb := by omega
          exact Or.inr (by omega)
      have hpp : p < 5 * L + bb + 1 ∧ 5 * L + bb + 1 ≤ 10300 := by omega
      obtain ⟨P, hP⟩ : ∃ P, P = 5 * L + bb + 1 := ⟨_, rfl⟩
      rw [← hP] at hnx hres hfit3 hpp
      have hP5 : 5 ≤ P := by omega
      obtain ⟨kb, hkbe⟩ : ∃ kb, kb = posF s c t p bb := ⟨_, rfl⟩
      rw [← hkbe] at hkb hnx
      have hk32 : 0 ≤ kb ∧ kb ≤ 32 := by omega
      have hb5 : bb < 5 := by omega
      have HNX := Lib.hid hnx; have HRES0 := Lib.hid hres; have HFIT3 := Lib.hid hfit3; have HPP := Lib.hid hpp; have HKBE := Lib.hid hkbe; have HR := Lib.hid hr
      have hlk2 : ∀ j, j < 5 → w2.cell? ⟨w.heap.size + 2, 0 + j, none⟩ = some (.int .i64 (posF s c t p j)) := fun j hj => by rw [Nat.zero_add]; exact hg2.k.cell j hj
      have hzn := cells_zero5 w2 25
      have HLK2 := Lib.hid hlk2; have HZN := Lib.hid hzn; have HG2 := Lib.hid hg2
      have hsz2 : w.heap.size + 2 < w2.heap.size := hg2.k.lt (by omega)
      clear hlk2 hzn hg2 hnx hres hfit3 hpp hkbe hP hne hfit2 hnext hkb hcome hsame hstay hmin hfirst hcap hL1 hL2 hpl hbb hbI hr h0 h1 hx2 hcz
      go_upto_region 6 with (first
        | ((with_reducible refine wpList_load_part 25 (.tmp 9) ?_ ?_ (w.heap.size + 2) (0) 5 ?_ (fun j => .int .i64 (posF s c t p j)) _ (HLK2.out) Tryd.underlying25 ?_ info_five ?_); (· rfl); (· rfl); (· rfl); (· rfl))
        | ((with_reducible refine wpList_store_part 25 (.tmp 11) (.tmp 20) ?_ ?_ ?_ (w2.heap.size) (0) 5 (fun j => .int .i64 (posF s c t p j)) ?_ ?_ (HZN.out) (by omega) info_five (fun _ _ => rfl) ?_); (· rfl); (· rfl); (· rfl); (· rfl); (· rfl)))
      have hc3 := HZN.out.putRow (o := 0) (m := 5) (f := fun j => .int .i64 (posF s c t p j)) (g' := fun j => .int .i64 (posF s c t p j)) (by omega) (fun i hi => by rw [if_pos ⟨by omega, by omega⟩]; rfl)
      have hg3 := Giv.sets (B := w2.heap.size) (h := w.heap.size) hsz2 (by omega) (mkRow 5 fun j => .int .i64 (posF s c t p j)).toList 0 (HG2.out.x ((XE.refl w2).alloc (.cells #[.int .i64 0, .int .i64 0, .int .i64 0, .int .i64 0, .int .i64 0] 25)))
      have HC3 := Lib.hid hc3; have HG3 := Lib.hid hg3
      clear hc3 hg3
      generalize (w2.alloc (.cells #[.int .i64 0, .int .i64 0, .int .i64 0, .int .i64 0, .int .i64 0] 25)).setCells w2.heap.size 0 (mkRow 5 fun j => .int .i64 (posF s c t p j)).toList = w3 at *
      have hk3 : w3.cell? ⟨w2.heap.size, bb, none⟩ = some (.int .i64 kb) := by rw [HC3.out.cell bb hb5, HKBE.out]
      have hf3 := HC3.out.free bb hb5
      go_upto_region 7 with (fail)
      have hc4 := HC3.out.put (j := bb) hb5 (.int .i64 (kb + 1)) (h := fun j => .int .i64 (posF s c t P j)) (fun i hi => ite_int (HNX.out i hi).symm)
      have hg4 := HG3.out.set (B := w2.heap.size) hsz2 (by omega) bb (.int .i64 (kb + 1))
      have HC4 := Lib.hid hc4; have HG4 := Lib.hid hg4
      clear hc4 hg4 hk3 hf3 HC3 HG3
      generalize w3.setCell ⟨w2.heap.size, bb, none⟩ (.int .i64 (kb + 1)) = w4 at *
      have h0 := HG4.out.s0; have h1 := HG4.out.c0
      have htot := total_any b m s c (posF s c t P) w4 HG4.out.at (HG4.out.xb.wid HB.out HW.out) HR.out (fun j hj => posF_bd hP5 hj) (fun j h1 h2 => posF_out (by omega))
      have hlk4 : ∀ j, j < 5 → w4.cell? ⟨w2.heap.size, 0 + j, none⟩ = some (.int .i64 (posF s c t P j)) := fun j hj => by rw [Nat.zero_add]; exact HC4.out.cell j hj
      have HTO := Lib.hid htot; have HLK4 := Lib.hid hlk4
      clear htot hlk4
      go_upto_if 31 with (first
        | ((with_reducible refine wpList_load_part 25 (.tmp 11) ?_ ?_ (w2.heap.size) (0) 5 ?_ (fun j => .int .i64 (posF s c t P j)) _ (HLK4.out) Tryd.underlying25 ?_ info_five ?_); (· rfl); (· rfl); (· rfl); (· rfl))
        | (go_at_call 62; (refine HTO.out.mono ?_); rintro e w5 ⟨rfl, hx5⟩))
      have hg5 := HG4.out.by hx5
      have hc5 := hx5.cells HG4.out.at HC4.out
      have hlk5 : ∀ j, j < 5 → w5.cell? ⟨w.heap.size + 2, 0 + j, none⟩ = some (.int .i64 (posF s c t p j)) := fun j hj => by rw [Nat.zero_add]; exact hg5.k.cell j hj
      have hlk6 : ∀ j, j < 5 → w5.cell? ⟨w2.heap.size, 0 + j, none⟩ = some (.int .i64 (posF s c t P j)) := fun j hj => by rw [Nat.zero_add]; exact hc5.cell j hj
      have HLKx := Lib.hid hlk5; have HLK6 := Lib.hid hlk6; have HZx := Lib.hid hg5.z; have HGx := Lib.hid hg5; have HKx := Lib.hid hg5.k
      clear hlk5 hlk6 hg5 hc5 hx5 h0 h1
      by_cases hbig : u < totF s c (posF s c t P)
      · have HRES := Lib.hid (HRES0.out hbig)
        go_wp2_with (first
          | ((with_reducible refine wpList_load_part 25 (.tmp 9) ?_ ?_ (w.heap.size + 2) (0) 5 ?_ (fun j => .int .i64 (posF s c t p j)) _ (HLKx.out) Tryd.underlying25 ?_ info_five ?_); (· rfl); (· rfl); (· rfl); (· rfl))
          | ((with_reducible refine wpList_store_part 25 (.tmp 8) (.tmp 32) ?_ ?_ ?_ (w.heap.size + 1) (0) 5 (fun j => .int .i64 (posF s c t p j)) ?_ ?_ (HZx.out) (by omega) info_five (fun _ _ => rfl) ?_); (· rfl); (· rfl); (· rfl); (· rfl); (· rfl)))
        have hfin := HZx.out.putRow (o := 0) (m := 5) (f := fun j => .int .i64 (posF s c t p j)) (g' := fun j => .int .i64 (posF s c t p j)) (by omega) (fun i hi => by rw [if_pos ⟨by omega, by omega⟩]; rfl)
        refine bodyPost_ret (v := .agg (row5 (posF s c t p))) (results_part rfl _ _ (w.heap.size + 1) 0 5 _ rfl (fun j hj => by rw [Nat.zero_add]; exact hfin.cell j hj) Tryd.underlying25 rfl info_five) rfl ⟨by rw [HRES.out], XB.sets (by omega) (by omega) _ _ HGx.out.xb⟩
      · have HF3 := Lib.hid (HFIT3.out (by omega))
        go_wp2_with (first
          | ((with_reducible refine wpList_load_part 25 (.tmp 11) ?_ ?_ (w2.heap.size) (0) 5 ?_ (fun j => .int .i64 (posF s c t P j)) _ (HLK6.out) Tryd.underlying25 ?_ info_five ?_); (· rfl); (· rfl); (· rfl); (· rfl))
          | ((with_reducible refine wpList_store_part 25 (.tmp 9) (.tmp 33) ?_ ?_ ?_ (w.heap.size + 2) (0) 5 (fun j => .int .i64 (posF s c t P j)) ?_ ?_ (HKx.out) (by omega) info_five (fun _ _ => rfl) ?_); (· rfl); (· rfl); (· rfl); (· rfl); (· rfl)))
        have hg7 := HGx.out.putK hml (posF s c t P)
        have HG7 := Lib.hid hg7
        clear hg7
        go_roundg (12000 - P)
        case measure => have := HPP.out; have := HGK.out; omega
        case rel => exact ⟨P, hP5, HPP.out.2, by have := HPP.out; omega, HG7.out, HF3.out⟩
end Go.Proofs.YtkcambhojpafkaaDoor
