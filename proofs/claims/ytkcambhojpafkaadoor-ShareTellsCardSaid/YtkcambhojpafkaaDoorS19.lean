/- The walk of the document's answer on sharing (layer 14). -/
import Derived.Test.YtkcambhojpafkaaDoorS18
import Derived.Test.YtkcambhojpafkaaDoorM7
import Derived.Test.YtkcambhojpafkaaDoorS7
set_option linter.unusedSimpArgs false
set_option linter.unusedVariables false
namespace Go.Proofs.YtkcambhojpafkaaDoor
open Go Go.RowKit

theorem row_info : ∃ i z, Tryd.prog.info? 116 = some i ∧ i.zero = some z ∧ i.size = 1 ∧ i.bytes = 24 ∧ z.cells.size = 1 := one_info (by kernel_rfl)

/-- v is a row of the costs of a width, in a block other than some. -/
def RowAt (w : World) (m : Nat) (r : Option Nat) (v : Value) (n : Nat) : Prop := ∃ b cp, v = .slice (some ⟨b, 0, none⟩) (cap n + 1 : Nat) cp ∧ m ≤ b ∧ r ≠ some b ∧ ∀ j, j < cap n + 1 → w.cell? ⟨b, j, none⟩ = some (costs n j)
theorem RowAt.x {w w' : World} {m : Nat} {r : Option Nat} {v : Value} {n : Nat} (h : RowAt w m r v n) (hx : XE w w') : RowAt w' m r v n := by
  obtain ⟨b, cp, e, hm, hr, hc⟩ := h
  exact ⟨b, cp, e, hm, hr, fun j hj => hx.cell (hc j hj)⟩
theorem RowAt.grown {w w' : World} {m : Nat} {r r' : Option Nat} {v : Value} {n : Nat} (h : RowAt w m r v n) (hg : w.grownBy w' r) (hr' : r' = r ∨ r' = some w.heap.size) : RowAt w' m r' v n := by
  obtain ⟨b, cp, e, hm, hr, hc⟩ := h
  refine ⟨b, cp, e, hm, ?_, fun j hj => grownBy.cell hg (hc j hj) (Ne.symm hr)⟩
  rcases hr' with rfl | rfl
  · exact hr
  · have := World.block_lt_of_cell? _ _ (hc 0 (by omega))
    intro e; simp at e; simp only at this; omega
theorem width_of {s c : Int} (hr : mRight s c = true) {b : Nat} (hb : (b : Int) < 3 + s) : mWidth s c b = widthL.getD b 0 := by
  have hh : mHas s c b = true := mHas_iff.2 ⟨by omega, by simp [mBands, hr]; omega⟩
  simp [mWidth, hh]
theorem widthL_nat {b : Nat} (hb : b < 5) : ∃ n : Nat, widthL.getD b 0 = (n : Int) ∧ 1 ≤ n ∧ n ≤ 16 := by
  have : b = 0 ∨ b = 1 ∨ b = 2 ∨ b = 3 ∨ b = 4 := by omega
  rcases this with rfl | rfl | rfl | rfl | rfl
  · exact ⟨2, rfl, by omega, by omega⟩
  · exact ⟨2, rfl, by omega, by omega⟩
  · exact ⟨4, rfl, by omega, by omega⟩
  · exact ⟨8, rfl, by omega, by omega⟩
  · exact ⟨16, rfl, by omega, by omega⟩

def wN (b : Nat) : Nat := (widthL.getD b 0).toNat
theorem wN_bd {b : Nat} (hb : b < 5) : widthL.getD b 0 = (wN b : Int) ∧ 1 ≤ wN b ∧ wN b ≤ 16 := by
  obtain ⟨n, h, h1, h2⟩ := widthL_nat hb
  unfold wN; rw [h]; simp; omega

/-- The rows of the first n widths, none of them in block kb. -/
def RowsIn (w : World) (kb rb n : Nat) (g : Nat → Value) : Prop := rb ≠ kb ∧ ∀ j, j < n → w.cell? ⟨rb, j, none⟩ = some (g j) ∧ RowAt w (kb + 1) none (g j) (wN j)
theorem RowsIn.x {w w' : World} {kb rb n : Nat} {g : Nat → Value} (h : RowsIn w kb rb n g) (hx : XE w w') : RowsIn w' kb rb n g := ⟨h.1, fun j hj => ⟨hx.cell (h.2 j hj).1, (h.2 j hj).2.x hx⟩⟩
theorem RowsIn.set {w : World} {kb rb n : Nat} {g : Nat → Value} (h : RowsIn w kb rb n g) (o : Nat) (v : Value) : RowsIn (w.setCell ⟨kb, o, none⟩ v) kb rb n g := by
  refine ⟨h.1, fun j hj => ⟨?_, ?_⟩⟩
  · rw [World.cell?_setCell_other w _ _ v (fun e => h.1 (by injection e with e1 _; exact e1.symm))]; exact (h.2 j hj).1
  · obtain ⟨b, cp, e, hm, hr, hc⟩ := (h.2 j hj).2
    refine ⟨b, cp, e, hm, hr, fun i hi => ?_⟩
    rw [World.cell?_setCell_other w _ _ v (fun e => by injection e with e1 _; omega)]; exact hc i hi
theorem slopeL_of {s c t : Int} (hr : mRight s c = true) {b : Nat} (hb : (b : Int) < 3 + s) : slope s c t b = slopeL t b := by
  have hri := mRight_iff.1 hr
  have hw := width_of hr hb
  unfold slope slopeL
  rw [hw]
  obtain ⟨n, h, h1, -⟩ := widthL_nat (show b < 5 by omega)
  rw [h, if_neg (by omega)]

theorem totF_bd {s c : Int} (h0 : 1 ≤ c) (h1 : c ≤ 2) (k : Nat → Int) : -10 ≤ totF s c k ∧ totF s c k ≤ 1000 := by
  have hb := mBands_bd s c
  have := sumBits_bd s c k (mBands s c).toNat (by omega)
  unfold totF
  have : c = 1 ∨ c = 2 := by omega
  rcases this with rfl | rfl <;> omega

set_option maxRecDepth 100000 in
set_option maxHeartbeats 1000000 in
theorem ref14Alloc_any (s c t budget : Int) (w : World) (hr : mRight s c = true) : Calls Tryd.prog 55 #[.int .i64 s, .int .i64 c, .int .i64 t, .int .i64 budget] w
    (fun e w' => ∃ k : Nat → Int, Shares s c t budget k ∧ e = .returned (.agg (row5 k)) ∧ XE w w') := by
  obtain ⟨inf, z, hi1, hi2, hi3, hi4, hi5⟩ := row_info
  have HI1 := Lib.hid hi1; have HI2 := Lib.hid hi2; have HI3 := Lib.hid hi3; have HI4 := Lib.hid hi4; have HI5 := Lib.hid hi5
  clear hi1 hi2 hi3 hi4 hi5
  have hri := mRight_iff.1 hr
  obtain ⟨s0, s1, c0, c1⟩ := hri
  obtain ⟨sn, rfl⟩ := Int.eq_ofNat_of_zero_le s0
  have HR := Lib.hid hr; clear hr
  have hx1 := ((XE.refl w).alloc (.cells #[.int .i64 0, .int .i64 0, .int .i64 0, .int .i64 0, .int .i64 0] 25)).alloc (.cells #[.int .i64 0, .int .i64 0, .int .i64 0, .int .i64 0, .int .i64 0] 25)
  have HA := Lib.hid ((cells_zero5 w 25).x ((XE.refl _).alloc (.cells #[.int .i64 0, .int .i64 0, .int .i64 0, .int .i64 0, .int .i64 0] 25)))
  have HB := Lib.hid (cells_zero5 (w.alloc (.cells #[.int .i64 0, .int .i64 0, .int .i64 0, .int .i64 0, .int .i64 0] 25)) 25)
  rw [World.size_alloc] at HB
  have HX1 := Lib.hid hx1; clear hx1
  go_enter Tryd.func55, Tryd.ntmps55
  go_wp2_with (go_at_call 84; (with_reducible refine (refBands_any _ _ ⟨by omega, by omega⟩).mono ?_); rintro e w' ⟨rfl, hw'⟩; obtain rfl := hw'.symm)
  generalize (w.alloc (.cells #[.int .i64 0, .int .i64 0, .int .i64 0, .int .i64 0, .int .i64 0] 25)).alloc (.cells #[.int .i64 0, .int .i64 0, .int .i64 0, .int .i64 0, .int .i64 0] 25) = w1 at *
  go_loopw [10, 12] (fun v i wr => ∃ (b : Nat) (g : Nat → Value), b ≤ sn + 3 ∧ i = .int .i64 b ∧ Own wr 116 1 v b g ∧ (∀ q, v.ownBlock = some q → w1.heap.size ≤ q) ∧ XE w1 wr ∧ ∀ j, j < b → RowAt wr w1.heap.size v.ownBlock (g j) (wN j)) (fun _ i _ => 5 - (intOf i).toNat)
  case atStart => exact ⟨0, fun _ => undef, by omega, rfl, Own.nil _ _ _ _, (fun q hq => by cases hq), XE.refl _, fun j hj => by omega⟩
  case round =>
    obtain ⟨b, g, hb, rfl, hv, hf, hx, hrow⟩ := hrel
    have HV := Lib.hid hv; have HF := Lib.hid hf; have HX := Lib.hid hx; have HW := Lib.hid hrow
    clear hv hf hx hrow
    by_cases hlt : b < sn + 3
    · have hbn := refBand_any b wr (by omega)
      obtain ⟨e1, e2, e3⟩ := wN_bd (show b < 5 by omega)
      rw [e1] at hbn
      have HBN := Lib.hid hbn; clear hbn e1
      generalize ((if b = 0 then 0 else 2 ^ b : Nat) : Int) = st at HBN
      go_wp2_with (first
        | (go_at_call 85; (with_reducible refine HBN.out.mono ?_); rintro e w' ⟨rfl, hw'⟩; obtain rfl := hw'.symm)
        | (go_at_call 86; (with_reducible refine (refRow_any _ _ e2 e3).mono ?_); rintro e w2 ⟨rv, rfl, hrv, hx2⟩
           obtain ⟨rb, rcp, rfl, hrb, -, -, hrc⟩ := hrv.block (by omega)
           have hxa := hx2.alloc (.cells #[.slice (some ⟨rb, 0, none⟩) (cap (wN b) + 1 : Nat) rcp] 116)
           have hva := (HV.out.x hxa).congr (g' := fun j => if j = b then .slice (some ⟨rb, 0, none⟩) (cap (wN b) + 1 : Nat) rcp else g j) (fun j hj => by rw [if_neg (by omega)])
           have hca : ∀ j, j < 1 * 1 → (w2.alloc (.cells #[.slice (some ⟨rb, 0, none⟩) (cap (wN b) + 1 : Nat) rcp] 116)).cell? ⟨w2.heap.size, 0 + j, none⟩ = some ((fun j => if j = b then .slice (some ⟨rb, 0, none⟩) (cap (wN b) + 1 : Nat) rcp else g j) (b * 1 + j)) := fun j hj => by
             obtain rfl : j = 0 := by omega
             rw [one_cell]; simp
           have hoc : ∀ j, j < 1 * 1 → ((fun j => if j = b then (.slice (some ⟨rb, 0, none⟩) (cap (wN b) + 1 : Nat) rcp : Value) else g j) (b * 1 + j)).oneCell' = true := fun j hj => by
             obtain rfl : j = 0 := by omega
             simp; rfl
           have hnb : ∀ q, u10.ownBlock = some q → q < wr.heap.size := fun q hq => HV.out.lt hq
           have HNB := Lib.hid hnb; have HXA := Lib.hid hxa; have HRC := Lib.hid hrc; have HRB := Lib.hid hrb
           have HVA := Lib.hid hva; have HCA := Lib.hid hca; have HOC := Lib.hid hoc; have HX2 := Lib.hid hx2
           clear hxa hva hca hoc hrv hx2 hnb hrc hrb)
        | (at_builtin; (with_reducible refine wpList_append_at ?_ (.tmp 31) (.tmp 34) 164 ?_ 116 inf z 1 24 Tryd.underlying164 HI1.out HI2.out HI3.out HI4.out HI5.out (by omega) _ b _ ?_ HVA.out w2.heap.size 0 1 1 (by omega) ?_ HCA.out HOC.out (by omega) (by omega) ?_); (· rfl); (· rfl); (· rfl); (· rfl); intro v4 w4 hv4 hg4 hb4))
      have hfq : ∀ q, v4.ownBlock = some q → w1.heap.size ≤ q := fun q hq => by
        have z1 := HX.out.size
        have z2 := HX2.out.size
        rcases hb4 with hb4 | hb4
        · exact HF.out q (by rw [← hb4]; exact hq)
        · rw [hb4] at hq
          obtain rfl := Option.some.inj hq
          simp; omega
      have hx4 : XE w1 w4 := (HX.out.trans HXA.out).grownBy hg4 fun q hq => HF.out q hq
      have hr4 : ∀ j, j < b + 1 → RowAt w4 w1.heap.size v4.ownBlock ((fun j => if j = b then .slice (some ⟨rb, 0, none⟩) (cap (wN b) + 1 : Nat) rcp else g j) j) (wN j) := fun j hj => by
        by_cases hjb : j = b
        · subst hjb
          simp only [if_true]
          refine ⟨rb, rcp, rfl, by have := HX.out.size; have := HRB.out; omega, ?_, fun i hi => grownBy.cell hg4 (((XE.refl w2).alloc _).cell (HRC.out i hi)) ?_⟩
          · rcases hb4 with hb4 | hb4
            · rw [hb4]; intro e; have := HNB.out _ e; have := HRB.out; omega
            · rw [hb4]
              have := World.block_lt_of_cell? _ _ (HRC.out 0 (by omega))
              intro e; simp at e; simp only at this; omega
          · intro e; exact absurd (HNB.out rb e.symm) (by have := HRB.out; omega)
        · simp only [if_neg hjb]
          exact ((HW.out j (by omega)).x HXA.out).grown hg4 hb4
      have HV4 := Lib.hid hv4; have HF4 := Lib.hid hfq; have HX4 := Lib.hid hx4; have HR4 := Lib.hid hr4
      clear hv4 hfq hx4 hr4 hg4 hb4 HVA HCA HOC HRC HRB HNB HXA
      go_roundw
      case rel => exact ⟨b + 1, _, by omega, by go_num, HV4.out, HF4.out, HX4.out, HR4.out⟩
      case measure => simp [intOf]; omega
    · obtain rfl : b = sn + 3 := by omega
      obtain ⟨rb, rcp, rfl, hob, hrb, hrc, -, hgc⟩ := HV.out.get (by omega)
      have hri : RowsIn wr (w.heap.size + 1) rb (sn + 3) g := by
        have z1 := HF.out rb hob
        have z2 : w.heap.size + 1 < w1.heap.size := HB.out.lt (by omega)
        refine ⟨by omega, fun j hj => ⟨hgc j (by omega), ?_⟩⟩
        obtain ⟨b, cp, e, hm, hr, hc⟩ := HW.out j hj
        exact ⟨b, cp, e, by omega, by simp, hc⟩
      have HA2 := Lib.hid (HA.out.x HX.out); have HB2 := Lib.hid (HB.out.x HX.out); have HX2 := Lib.hid (HX1.out.trans HX.out)
      have HRI := Lib.hid hri
      clear hri HV HF HX HW HA HB HX1 hob hrb hgc
      go_wp2
      go_loopw [15, 16] (fun sm lv wl => ∃ L : Nat, 1 ≤ L ∧ L ≤ 3001 ∧ lv = .int .i64 L ∧ sm = .int .i64 (totF sn c (posF sn c t (5 * L))) ∧ Cells wl (w.heap.size + 1) 5 (fun j => .int .i64 (posF sn c t (5 * L) j)) ∧ Cells wl w.heap.size 5 (fun _ => .int .i64 0) ∧
        (∀ q, 5 ≤ q → q < 5 * L → Fit sn c t budget q) ∧ XE w wl ∧ RowsIn wl (w.heap.size + 1) rb (sn + 3) g) (fun _ lv _ => 3001 - (intOf lv).toNat)
      case atStart =>
        refine ⟨1, by omega, by omega, rfl, ?_, HB2.out.congr fun j hj => ?_, HA2.out, fun q h1 h2 => by omega, HX2.out, HRI.out⟩
        · rw [totF_congr posF_start, totF_zero]
        · rw [posF_start j hj]
      case round =>
        clear HA2 HB2 HX2 HRI
        obtain ⟨L, hL1, hL, rfl, rfl, hk, hz, hfit, hx, hrows⟩ := hrel
        have HK := Lib.hid hk; have HZ := Lib.hid hz; have HFIT := Lib.hid hfit; have HX := Lib.hid hx; have HRO := Lib.hid hrows
        clear hk hz hfit hx hrows
        by_cases hlt : L ≤ 3000
        · go_wp2
          go_loopw [15, 17] (fun sm bv wi => ∃ b : Nat, b ≤ sn + 3 ∧ bv = .int .i64 b ∧ sm = .int .i64 (totF sn c (posF sn c t (5 * L + b))) ∧ Cells wi (w.heap.size + 1) 5 (fun j => .int .i64 (posF sn c t (5 * L + b) j)) ∧ Cells wi w.heap.size 5 (fun _ => .int .i64 0) ∧
            (∀ q, 5 ≤ q → q < 5 * L + b → Fit sn c t budget q) ∧ XE w wi ∧ RowsIn wi (w.heap.size + 1) rb (sn + 3) g) (fun _ bv _ => 5 - (intOf bv).toNat)
          case atStart => exact ⟨0, by omega, rfl, rfl, HK.out, HZ.out, HFIT.out, HX.out, HRO.out⟩
          case round =>
            clear HK HZ HFIT HX HRO
            obtain ⟨b, hb, rfl, rfl, hk, hz, hfit, hx, hrows⟩ := hrel
            have HK := Lib.hid hk; have HZ := Lib.hid hz; have HFIT := Lib.hid hfit; have HX := Lib.hid hx; have HRO := Lib.hid hrows
            clear hk hz hfit hx hrows
            by_cases hlb : b < sn + 3
            · have hmb : mBands sn c = 3 + sn := by have := HR.out; simp [mBands, this]
              have hbB : (b : Int) < mBands sn c := by omega
              have hbd := posF_bd (s := sn) (c := c) (t := t) (p := 5 * L + b) (by omega) hbB
              have hwid := width_of HR.out (b := b) (by omega)
              obtain ⟨e1, e2, e3⟩ := wN_bd (show b < 5 by omega)
              rw [e1] at hwid
              have hcz : capZ (mWidth sn c b) = cap (wN b) := by rw [hwid, capZ_in (by omega) (by omega)]; simp
              obtain ⟨kn, hkn⟩ := Int.eq_ofNat_of_zero_le hbd.1
              rw [hcz, hkn] at hbd
              have hcl := cap_le (wN b)
              have hkc : kn ≤ cap (wN b) := by omega
              obtain ⟨hr1, bb, cp, hg, -, -, hcc⟩ := HRO.out.2 b hlb
              rw [hg] at hr1
              have hk1 := HK.out.cell b (by omega)
              have hkf := HK.out.free b (by omega)
              rw [hkn] at hk1
              have hsl := slopeL_of (t := t) HR.out (b := b) (by omega)
              have hsb := slope_bd sn c t b (by omega)
              have hcome : Comes sn c t L b ↔ kn + 1 ≤ cap (wN b) ∧ ((kn : Int) + 1) * slopeL t b = L := by
                unfold Comes; rw [hkn, hcz, hsl]; omega
              have hcall : ∀ w, Calls Tryd.prog 87 #[.int .i64 t, .int .i64 b] w (RetS (.int .i64 (slopeL t b)) w) := fun w => refSlope_any t b w (by omega)
              rw [hsl] at hsb
              obtain ⟨σ, hσ⟩ : ∃ σ, σ = slopeL t b := ⟨_, rfl⟩
              rw [← hσ] at hcome hcall hsb
              have hm : 0 ≤ ((kn : Int) + 1) * σ ∧ ((kn : Int) + 1) * σ ≤ 33 * 64 := ⟨Int.mul_nonneg (by omega) (by omega), by
                have a := Int.mul_le_mul (show (kn : Int) + 1 ≤ 33 by omega) hsb.2.1 (by omega) (by omega)
                exact a⟩
              have HCO := Lib.hid hcome; have HCA := Lib.hid hcall; have HCC := Lib.hid hcc; have HKN := Lib.hid hkn; have HWI := Lib.hid hwid; have HHG := Lib.hid hg
              have HBB := Lib.hid hbB
              clear hcome hcall hcc hkn hwid hg hmb hbB hcz e1 hsl hσ hsb
              obtain ⟨cn, hcn⟩ : ∃ cn, cn = cap (wN b) + 1 := ⟨_, rfl⟩
              rw [← hcn] at hr1
              have hstay : ¬ Comes sn c t L b → same5 (posF sn c t (5 * L + (b + 1))) (posF sn c t (5 * L + b)) := fun h => posF_stay hL1 (by omega) fun _ => h
              have hgo : ¬ Comes sn c t L b → (totF sn c (posF sn c t (5 * L + b)) = totF sn c (posF sn c t (5 * L + (b + 1)))) ∧ (Cells wr (w.heap.size + 1) 5 fun j => .int .i64 (posF sn c t (5 * L + (b + 1)) j)) ∧ (∀ q, 5 ≤ q → q < 5 * L + (b + 1) → Fit sn c t budget q) := fun h =>
                ⟨(totF_congr (hstay h)).symm, HK.out.congr fun j hj => by rw [hstay h j hj], fun q h1 h2 => by
                  rcases Nat.lt_or_ge q (5 * L + b) with h3 | h3
                  · exact HFIT.out q h1 h3
                  · obtain rfl : q = 5 * L + b := by omega
                    exact Or.inl (hstay h)⟩
              have HGO := Lib.hid hgo
              clear hstay hgo
              have hk32 : kn ≤ 32 := by omega
              by_cases hA : cn ≤ kn + 1
              · have hnc : ¬ Comes sn c t L b := fun h => by have := (HCO.out.1 h).1; omega
                have HG := Lib.hid (HGO.out hnc)
                have hA1 : decide ((cn : Int) ≤ (kn : Int) + 1) = true := by simp; omega
                clear hnc
                clear hcn hkc hcl hbd
                go_wp2
                refine wp_region_grown (by kernel_rfl) (by kernel_rfl) ?_; (repeat (go_big_quiet_step (fail))); refine wpQuiet_nil ?_; rintro _ ⟨dq, rfl⟩
                go_wp2
                go_roundw
                case rel => exact ⟨b + 1, by omega, by go_num, by rw [HG.out.1], HG.out.2.1.x (xe_ext _ _), HZ.out.x (xe_ext _ _), HG.out.2.2, HX.out.ext _, HRO.out.x (xe_ext _ _)⟩
                case measure => simp [intOf]; omega
              · have hA1 : decide ((cn : Int) ≤ (kn : Int) + 1) = false := by simp; omega
                by_cases hB : ((kn : Int) + 1) * σ = L
                · have hyc : Comes sn c t L b := HCO.out.2 ⟨by omega, hB⟩
                  have hB1 : (((kn : Int) + 1) * σ == (L : Int)) = true := by simpa using hB
                  have y1 : wr.cell? ⟨bb, kn, none⟩ = some (.int .i64 (bit (wN b) kn)) := HCC.out kn (by omega)
                  have y2 : wr.cell? ⟨bb, kn + 1, none⟩ = some (.int .i64 (bit (wN b) (kn + 1))) := HCC.out (kn + 1) (by omega)
                  have htc := totF_come HBB.out hL1 hyc
                  have hpc := posF_come HBB.out hL1 hyc
                  have hb1 := bit_le (wN b) kn
                  have hb2 := bit_le (wN b) (kn + 1)
                  have hz1 : bitZ (wN b : Int) (kn : Int) = bit (wN b) kn := by unfold bitZ; rw [capZ_in (by omega) (by omega), if_neg (by simp; omega)]; simp
                  have hz2 : bitZ (wN b : Int) ((kn : Int) + 1) = bit (wN b) (kn + 1) := by
                    unfold bitZ; rw [capZ_in (by omega) (by omega), if_neg (by simp; omega)]; simp
                  rw [HWI.out, HKN.out, hz1, hz2] at htc
                  rw [HKN.out] at hpc
                  have hS := totF_bd (s := sn) c0 c1 (posF sn c t (5 * L + b))
                  have hS2 := totF_bd (s := sn) c0 c1 (posF sn c t (5 * L + b + 1))
                  rw [htc] at hS2
                  have hmono := bit_step (n := wN b) (k := kn) (by omega) (by omega)
                  have hmo : 0 ≤ c * ((bit (wN b) (kn + 1) : Int) - bit (wN b) kn) ∧ c * ((bit (wN b) (kn + 1) : Int) - bit (wN b) kn) ≤ 200 := ⟨Int.mul_nonneg (by omega) (by omega), by
                    have := Int.mul_le_mul c1 (show ((bit (wN b) (kn + 1) : Int) - bit (wN b) kn) ≤ 100 by omega) (by omega) (by omega)
                    exact this⟩
                  have hnf : budget < totF sn c (posF sn c t (5 * L + b)) + c * ((bit (wN b) (kn + 1) : Int) - bit (wN b) kn) → ¬ Fit sn c t budget (5 * L + b) := fun hlt hf => by
                    rcases hf with hf | hf
                    · have := hf b (by omega)
                      rw [hpc b (by omega), if_pos rfl, HKN.out] at this; omega
                    · rw [htc] at hf; omega
                  have hput : ∀ d, Cells ((ext wr d).setCell ⟨w.heap.size + 1, b, none⟩ (.int .i64 ((kn : Int) + 1))) (w.heap.size + 1) 5 (fun j => .int .i64 (posF sn c t (5 * L + (b + 1)) j)) := fun d =>
                    (HK.out.x (xe_ext wr d)).put (by omega) _ (fun i hi => ite_int (by
                      have := hpc i hi
                      rw [show 5 * L + b + 1 = 5 * L + (b + 1) by omega] at this
                      rw [this]))
                  have hfq : ¬ budget < totF sn c (posF sn c t (5 * L + b)) + c * ((bit (wN b) (kn + 1) : Int) - bit (wN b) kn) → ∀ q, 5 ≤ q → q < 5 * L + (b + 1) → Fit sn c t budget q := fun hge q h1 h2 => by
                    rcases Nat.lt_or_ge q (5 * L + b) with h3 | h3
                    · exact HFIT.out q h1 h3
                    · obtain rfl : q = 5 * L + b := by omega
                      right; rw [htc]; omega
                  have hput2 : ∀ d, Cells ((ext wr d).setCell ⟨w.heap.size + 1, b, none⟩ (.int .i64 ((kn : Int) + 1))) w.heap.size 5 (fun _ => .int .i64 0) := fun d =>
                    (HZ.out.x (xe_ext wr d)).far (by simp) _
                  have hput3 : ∀ d, RowsIn ((ext wr d).setCell ⟨w.heap.size + 1, b, none⟩ (.int .i64 ((kn : Int) + 1))) (w.heap.size + 1) rb (sn + 3) g := fun d => (HRO.out.x (xe_ext wr d)).set _ _
                  have hput4 : ∀ d, XE w ((ext wr d).setCell ⟨w.heap.size + 1, b, none⟩ (.int .i64 ((kn : Int) + 1))) := fun d => (HX.out.ext d).setCell (by simp) _
                  have HNF := Lib.hid hnf; have HPUT := Lib.hid hput; have HFQ := Lib.hid hfq; have HTC := Lib.hid htc
                  have HP2 := Lib.hid hput2; have HP3 := Lib.hid hput3; have HP4 := Lib.hid hput4
                  clear hyc hB htc hpc hz1 hz2 hnf hput hfq hput2 hput3 hput4 hmono hcn hkc hcl hbd
                  go_wp2
                  refine wp_region_grown (by kernel_rfl) (by kernel_rfl) ?_; (repeat (go_big_quiet_step ((go_at_call 87; exact quietS (HCA.out _))))); refine wpQuiet_nil ?_; rintro _ ⟨dq, rfl⟩
                  rename More => d1
                  go_wp2
                  refine wp_region_grown (by kernel_rfl) (by kernel_rfl) ?_; (repeat (go_big_quiet_step (fail))); refine wpQuiet_nil ?_; rintro _ ⟨dq, rfl⟩
                  by_cases hC : budget < totF sn c (posF sn c t (5 * L + b)) + c * ((bit (wN b) (kn + 1) : Int) - bit (wN b) kn)
                  · have HNO := Lib.hid (HNF.out (by omega))
                    have HZ2 := Lib.hid (HZ.out.x (xe_ext wr ⟨d1.objs ++ dq.objs, dq.drawn⟩))
                    have HK2 := Lib.hid (HK.out.x (xe_ext wr ⟨d1.objs ++ dq.objs, dq.drawn⟩))
                    have hp5 : 5 ≤ 5 * L + b := by omega
                    generalize 5 * L + b = P at *
                    go_wp2_with (first
                      | ((with_reducible refine wpList_load_part 25 (.tmp 9) ?_ ?_ (w.heap.size + 1) (0) 5 ?_ (fun j => .int .i64 (posF sn c t P j)) _ (fun j hj => by rw [Nat.zero_add]; exact HK2.out.cell j hj) Tryd.underlying25 ?_ info_five ?_); (· rfl); (· rfl); (· rfl); (· rfl))
                      | ((with_reducible refine wpList_store_part 25 (.tmp 8) (.tmp 94) ?_ ?_ ?_ (w.heap.size) (0) 5 (fun j => .int .i64 (posF sn c t P j)) ?_ ?_ (HZ2.out) (by omega) info_five (fun _ _ => rfl) ?_); (· rfl); (· rfl); (· rfl); (· rfl); (· rfl)))
                    have hfin := HZ2.out.putRow (o := 0) (m := 5) (f := fun j => .int .i64 (posF sn c t P j)) (g' := fun j => .int .i64 (posF sn c t P j)) (by omega) (fun i hi => by rw [if_pos ⟨by omega, by omega⟩]; rfl)
                    refine bodyPost_ret (v := .agg (row5 (posF sn c t P))) (results_part rfl _ _ w.heap.size 0 5 _ rfl (fun j hj => by rw [Nat.zero_add]; exact hfin.cell j hj) Tryd.underlying25 rfl info_five) rfl ⟨_, ⟨P, hp5, same5.refl _, HFIT.out, Or.inl HNO.out⟩, rfl, (HX.out.ext _).setCells (Nat.le_refl _) _ _⟩
                  · have HYES := Lib.hid (HFQ.out (by omega))
                    go_wp2
                    go_roundw
                    case rel => exact ⟨b + 1, by omega, by go_num, by rw [show 5 * L + (b + 1) = 5 * L + b + 1 by omega, HTC.out], HPUT.out _, HP2.out _, HYES.out, HP4.out _, HP3.out _⟩
                    case measure => simp [intOf]; omega
                · have hnc : ¬ Comes sn c t L b := fun h => hB (HCO.out.1 h).2
                  have HG := Lib.hid (HGO.out hnc)
                  have hB1 : (((kn : Int) + 1) * σ == (L : Int)) = false := by simpa using hB
                  clear hnc hB
                  clear hcn hkc hcl hbd
                  go_wp2
                  refine wp_region_grown (by kernel_rfl) (by kernel_rfl) ?_; (repeat (go_big_quiet_step ((go_at_call 87; exact quietS (HCA.out _))))); refine wpQuiet_nil ?_; rintro _ ⟨dq, rfl⟩
                  go_wp2
                  go_roundw
                  case rel => exact ⟨b + 1, by omega, by go_num, by rw [HG.out.1], HG.out.2.1.x (xe_ext _ _), HZ.out.x (xe_ext _ _), HG.out.2.2, HX.out.ext _, HRO.out.x (xe_ext _ _)⟩
                  case measure => simp [intOf]; omega
            · obtain rfl : b = sn + 3 := by omega
              have hmb : mBands sn c = 3 + sn := by have := HR.out; simp [mBands, this]
              have hov := posF_over (s := sn) (c := c) (t := t) (L := L) (n := sn + 3) hL1 (by omega) (5 - (sn + 3)) (by omega)
              rw [show 5 * L + (sn + 3) + (5 - (sn + 3)) = 5 * (L + 1) by omega] at hov
              have htot := totF_congr (s := sn) (c := c) hov
              have hk2 := HK.out.congr (h := fun j => .int .i64 (posF sn c t (5 * (L + 1)) j)) fun j hj => by rw [hov j hj]
              have hf2 : ∀ q, 5 ≤ q → q < 5 * (L + 1) → Fit sn c t budget q := fun q h1 h2 => by
                rcases Nat.lt_or_ge q (5 * L + (sn + 3)) with h | h
                · exact HFIT.out q h1 h
                · exact fit_over (n := sn + 3) hL1 (by omega) h h2
              have HT := Lib.hid htot; have HK2 := Lib.hid hk2; have HF2 := Lib.hid hf2
              clear hmb hov htot hk2 hf2 HFIT HK
              go_wp2
              go_roundw
              case rel => exact ⟨L + 1, by omega, by omega, by go_num, by rw [HT.out], HK2.out, HZ.out, HF2.out, HX.out, HRO.out⟩
              case measure => simp [intOf]; omega
        · obtain rfl : L = 3001 := by omega
          have hend := posF_end (s := sn) (c := c) (t := t)
          obtain ⟨P, hP⟩ : ∃ P, P = 5 * 3001 := ⟨_, rfl⟩
          rw [← hP] at HK HFIT hend ⊢
          have hP5 : 5 ≤ P := by omega
          have HE := Lib.hid hend
          clear hP hend hlt hL hL1
          go_wp2_with (first
            | ((with_reducible refine wpList_load_part 25 (.tmp 9) ?_ ?_ (w.heap.size + 1) (0) 5 ?_ (fun j => .int .i64 (posF sn c t P j)) _ (fun j hj => by rw [Nat.zero_add]; exact HK.out.cell j hj) Tryd.underlying25 ?_ info_five ?_); (· rfl); (· rfl); (· rfl); (· rfl))
            | ((with_reducible refine wpList_store_part 25 (.tmp 8) (.tmp 103) ?_ ?_ ?_ (w.heap.size) (0) 5 (fun j => .int .i64 (posF sn c t P j)) ?_ ?_ (HZ.out) (by omega) info_five (fun _ _ => rfl) ?_); (· rfl); (· rfl); (· rfl); (· rfl); (· rfl)))
          have hfin := HZ.out.putRow (o := 0) (m := 5) (f := fun j => .int .i64 (posF sn c t P j)) (g' := fun j => .int .i64 (posF sn c t P j)) (by omega) (fun i hi => by rw [if_pos ⟨by omega, by omega⟩]; rfl)
          refine bodyPost_ret (v := .agg (row5 (posF sn c t P))) (results_part rfl _ _ w.heap.size 0 5 _ rfl (fun j hj => by rw [Nat.zero_add]; exact hfin.cell j hj) Tryd.underlying25 rfl info_five) rfl ⟨_, ⟨P, hP5, same5.refl _, HFIT.out, Or.inr HE.out⟩, rfl, HX.out.setCells (Nat.le_refl _) _ _⟩
end Go.Proofs.YtkcambhojpafkaaDoor
