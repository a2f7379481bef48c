/- ShareLogs, the walk of the law. -/
import Derived.Test.YtkcambhojpafkaaDoorS14
import Derived.Test.YtkcambhojpafkaaDoorS15
import Derived.Test.YtkcambhojpafkaaDoorM6
set_option linter.unusedSimpArgs false
set_option linter.unusedVariables false
namespace Go.Proofs.YtkcambhojpafkaaDoor
open Go Go.RowKit

theorem size_five : (sizeOf 25).run Tryd.prog = fun w => .ok 5 w := by funext w; kernel_rfl
theorem slice_low (a : Option Addr) (len cp k : Nat) (hk : k ≤ len) (hc : len ≤ cp) (w : World) :
    (Instr.slice 34 (.slice a len cp) none (some (.int .i64 k)) none).run Tryd.prog w = .ok (.slice a k cp) w := by
  have h1 : (Instr.sliceBound (.int .i64 (k : Int)) cp .sliceAcap).run Tryd.prog w = .ok k w := by rw [run_sliceBound w _ _ _ _ (by omega) (by omega)]; simp
  have h2 : ∀ o : Option Addr, (if cp = 0 then o else o.map (·.add (0 * 5))) = o := fun o => by
    split
    · rfl
    · cases o <;> simp [Addr.add]
  simp [Instr.slice, Instr.sliceBounds, Sem.run_bind, run_underlying Tryd.underlying34, h1, size_five, h2]
theorem slice_high (a : Option Addr) (len cp k : Nat) (hk : k ≤ len) (hc : len ≤ cp) (w : World) :
    (Instr.slice 34 (.slice a len cp) (some (.int .i64 k)) none none).run Tryd.prog w = .ok (.slice (if cp = k then a else a.map (·.add (k * 5))) (len - k) (cp - k)) w := by
  have h1 : (Instr.sliceBound (.int .i64 (k : Int)) len .sliceB).run Tryd.prog w = .ok k w := by rw [run_sliceBound w _ _ _ _ (by omega) (by omega)]; simp
  simp [Instr.slice, Instr.sliceBounds, Sem.run_bind, run_underlying Tryd.underlying34, h1, size_five]
theorem FivesAt.x {w w' : World} {b o len : Nat} {xs : Nat → Nat → Int} (h : FivesAt w b o len xs) (hx : XE w w') : FivesAt w' b o len xs := fun i hi j hj => hx.cell (h i hi j hj)
theorem told_split (xs : Nat → Nat → Int) {k len : Nat} (hk : k ≤ len) : told xs k ++ (List.range (len - k)).map (fun i => xs (k + i)) = told xs len := by
  unfold told
  rw [show len = k + (len - k) by omega, List.range_add, List.map_append, List.map_map]
  simp [Function.comp_def]

set_option maxRecDepth 100000 in
set_option maxHeartbeats 400000 in
theorem shareLogs_any (a : Option Addr) (b o len cp at0 : Nat) (xs : Nat → Nat → Int) (w : World) (hw : Wid w) (hl : ListAt w a b o len xs) (hcp : len ≤ cp) (h255 : at0 ≤ 255) :
    Calls Tryd.prog 4 #[.slice a len cp, .int .u8 at0] w (RetE (.bool true) w) := by
  have HW := Lib.hid hw; clear hw
  have HL := Lib.hid hl; clear hl
  by_cases hbig : 60 < len
  · go_enter Tryd.func4, Tryd.ntmps4
    go_wp2_with (go_at_call 12; (with_reducible refine (shareAwake_any _ HW.out).mono ?_); rintro e w1 ⟨rfl, hx1⟩)
    go_ret
    exact ⟨rfl, hx1⟩
  · obtain ⟨k, hk⟩ : ∃ k : Nat, k = min at0 len := ⟨_, rfl⟩
    have hkl : k ≤ len := by omega
    have hs1 := slice_low a len cp k hkl hcp
    have hs2 := slice_high a len cp k hkl hcp
    have ha2 : 0 < len - k → (if cp = k then a else a.map (·.add (k * 5))) = some ⟨b, o + k * 5, none⟩ := fun h => by
      rw [if_neg (by omega), HL.out.addr (by omega)]
      by_cases hk0 : k = 0
      · subst hk0; rfl
      · simp [Addr.add]; omega
    generalize (if cp = k then a else a.map (·.add (k * 5))) = a2 at hs2 ha2
    have HA2 := Lib.hid ha2; clear ha2
    have hmin : min (at0 : Int) (len : Int) = (k : Int) := by omega
    clear hk
    go_enter Tryd.func4, Tryd.ntmps4
    go_wp2_with (first
      | (go_at_call 12; (with_reducible refine (shareAwake_any _ HW.out).mono ?_); rintro e w1 ⟨rfl, hx1⟩
         have hmk : ∀ t, (Instr.makeMap t none).run Tryd.prog w1 = .ok (.map (some w1.heap.size)) (w1.alloc (.map #[] 0)) := fun t => run_makeMap t w1
         have HX1 := Lib.hid (hx1.alloc (.map #[] 0))
         have HM1 := Lib.hid (hx1.size)
         have hl0 := newLog_at w1
         have hadd1 := logAdd_any w1.heap.size b o k cp xs a [] _ hl0 (by omega) (by simp) (fun h => HL.out.addr (by omega)) (fun i hi j hj => HX1.out.cell (HL.out.rows i (by omega) j hj))
         rw [List.nil_append] at hadd1
         have HADD1 := Lib.hid hadd1; clear hadd1 hl0 hx1)
      | (go_at_call 17; (with_reducible refine HADD1.out.mono ?_); rintro e w2 ⟨rfl, hl2, hxo2⟩; clear HADD1
         have HX2 := Lib.hid (hxo2.own HX1.out HM1.out)
         have hadd2 := logAdd_any w1.heap.size b (o + k * 5) (len - k) (cp - k) (fun i => xs (k + i)) a2 _ _ hl2 (by omega) (by simp; omega) HA2.out (fun i hi j hj => by
           have := HX2.out.cell (HL.out.rows (k + i) (by omega) j hj)
           rw [show o + k * 5 + i * 5 + j = o + (k + i) * 5 + j by omega]; exact this)
         rw [show (List.range k).map xs ++ (List.range (len - k)).map (fun i => xs (k + i)) = told xs len from told_split xs hkl] at hadd2
         have HADD2 := Lib.hid hadd2; clear hadd2 hl2 hxo2)
      | (go_at_call 17; (with_reducible refine HADD2.out.mono ?_); rintro e w3 ⟨rfl, hl3, hxo3⟩; clear HADD2
         have HX3 := Lib.hid (hxo3.own HX2.out HM1.out)
         have HL3 := Lib.hid hl3; clear hl3 hxo3))
    clear hs1 hs2 hmin HA2 hmk
    have hm1 := HM1.out
    generalize w1.heap.size = m at *
    go_loopw [39] (fun i wr => ∃ n : Nat, n ≤ len ∧ i = .int .i64 n ∧ XE w3 wr) (fun i _ => len - (intOf i).toNat)
    case atStart => exact ⟨0, by omega, rfl, XE.refl _⟩
    case round =>
      obtain ⟨n, hn, rfl, hx⟩ := hrel
      by_cases hlt : n < len
      · obtain rfl := HL.out.addr (by omega)
        have HLR := Lib.hid (HL.out.x (HX3.out.trans hx))
        have HEL := Lib.hid (HLR.out.rows n hlt)
        have hx7 : XE wr ((wr.alloc (.cells #[.int .i64 0, .int .i64 0, .int .i64 0, .int .i64 0, .int .i64 0] 25)).setCells wr.heap.size 0 (mkRow 5 fun j => .int .i64 (xs n j)).toList) := ((XE.refl wr).alloc _).setCells (Nat.le_refl _) 0 _
        have HZ := Lib.hid (cells_zero5 wr 25)
        have HF := Lib.hid (HZ.out.putRow (o := 0) (m := 5) (f := fun j => .int .i64 (xs n j)) (g' := fun j => .int .i64 (xs n j)) (by omega) (fun i hi => by rw [if_pos ⟨by omega, by omega⟩]; rfl))
        go_upto_region 13 with (first
          | ((with_reducible refine wpList_load_part 25 (.tmp 41) ?_ ?_ (b) (o + n * 5) 5 ?_ (fun j => .int .i64 (xs n j)) _ (HEL.out) Tryd.underlying25 ?_ info_five ?_); (· rfl); (· rfl); (· rfl); (· rfl))
          | ((with_reducible refine wpList_store_part 25 (.tmp 9) (.tmp 42) ?_ ?_ ?_ (wr.heap.size) (0) 5 (fun j => .int .i64 (xs n j)) ?_ ?_ (HZ.out) (by omega) info_five (fun _ _ => rfl) ?_); (· rfl); (· rfl); (· rfl); (· rfl); (· rfl)))
        have HL7 := Lib.hid (HLR.out.x hx7)
        have HM7 := Lib.hid ((HL3.out.x hx).x hx7)
        have HX7 := Lib.hid (hx.trans hx7)
        clear hx7 HZ HEL HLR hx
        generalize (wr.alloc (.cells #[.int .i64 0, .int .i64 0, .int .i64 0, .int .i64 0, .int .i64 0] 25)).setCells wr.heap.size 0 (mkRow 5 fun j => .int .i64 (xs n j)).toList = w7 at *
        obtain ⟨L, cl, hmap, htold⟩ := HM7.out
        have hlk : ∀ d, (Instr.lookup 36 (.map (some m)) (.agg (mkRow 5 fun j => .int .i64 (xs n j))) false).run Tryd.prog (ext w7 d) = .ok (.int .i64 (many (told xs len) (xs n) : Nat)) (ext w7 d) := fun d => by
          have h1 := run_lookup1 (hmap.x (xe_ext w7 d)) fiveKey Tryd.underlying36 zero_i64 (g := ints (xs n)) (fits_five _)
          rw [htold.val] at h1
          exact h1
        have hml := many_le (told xs len) (xs n)
        have hmc : ∀ d, Calls Tryd.prog 18 #[.slice (some ⟨b, o, none⟩) len cp, .agg (mkRow 5 fun j => .int .i64 (xs n j))] (ext w7 d) (RetE (.int .i64 (many (told xs len) (xs n) : Nat)) (ext w7 d)) := fun d => refMany_any _ b o len cp xs (xs n) _ (HL7.out.x (xe_ext w7 d)) (by omega)
        have HMC := Lib.hid hmc; clear hmc
        have hl1 : ∀ d j, j < 5 → (ext w7 d).cell? ⟨wr.heap.size, 0 + j, none⟩ = some (.int .i64 (xs n j)) := fun d j hj => by rw [Nat.zero_add]; exact (HF.out.x (xe_ext w7 d)).cell j hj
        have HL1 := Lib.hid hl1; clear hl1 hmap htold
        generalize many (told xs len) (xs n) = v at *
        refine wp_region_grown (by kernel_rfl) (by kernel_rfl) ?_; (repeat (first | go_big_quiet_skip | (go_big_quiet_want; first | (((with_reducible refine quiet_load_part 25 (.tmp 9) ?_ (wr.heap.size) (0) 5 ?_ (fun j => .int .i64 (xs n j)) _ ?_ Tryd.underlying25 ?_ info_five ?_); (· rfl); (· rfl); (· (rintro _ ⟨d, rfl⟩; exact (HL1.out d))); (· rfl); go_frame; go_big_quiet_on)) | (go_big_quiet_op; first | go_big_quiet_on | go_big_quiet_call ((go_at_call 18; exact quietE (HMC.out _))))))); refine wpQuiet_nil ?_; rintro _ ⟨dq, rfl⟩
        go_wp2
        go_roundw
        case rel => exact ⟨n + 1, by omega, by go_num, HX7.out.ext dq⟩
        case measure => simp [intOf]; omega
      · obtain rfl : n = len := by omega
        have HM4 := Lib.hid (HL3.out.x hx)
        have HX4 := Lib.hid (HX3.out.trans hx)
        clear HX3 hx
        obtain ⟨L, cl, hmap, htold⟩ := HM4.out
        have hrg := run_range_map (P := Tryd.prog) _ 36 25 3 m _ cl Tryd.underlying36 hmap.obj
        have hx5 := (XE.refl wr).alloc (.mapIter (some m) cl #[] cl)
        have HO := Lib.hid (show Over (wr.alloc (.mapIter (some m) cl #[] cl)) m wr.heap.size 5 fiveLs L cl #[] from ⟨hmap.x hx5, heap_alloc_new _ _⟩)
        have HT := Lib.hid htold
        clear hmap htold
        go_wp2
        go_loopw [7] (fun s wq => ∃ (seen : Array Nat), s = .int .i64 (seenSum L seen) ∧ Over wq m wr.heap.size 5 fiveLs L cl seen ∧ XE wr wq) (fun _ wq => iterLeft L wq wr.heap.size)
        case atStart => exact ⟨#[], by rw [seenSum_start], HO.out, hx5⟩
        case round =>
          obtain ⟨seen, rfl, hov, hxq⟩ := hrel
          clear HO hx5 hrg
          rcases hov.next (P := Tryd.prog) HT.out.clock HT.out.nodup with ⟨hall, hnx⟩ | ⟨e, he, hs, w5, hnx, hov5, hxo, hsz, hen⟩
          · have hsum := (seenSum_all hall).trans HT.out.sum
            rw [told_length] at hsum
            rw [hsum]
            have HM5 := Lib.hid (HM4.out.x hxq)
            have HX5 := Lib.hid (HX4.out.trans hxq)
            clear hov hall hsum hxq
            go_wp2_with (first
              | (go_at_call 19; (with_reducible refine (logMost_any _ _ _ HM5.out (by rw [told_length]; omega)).mono ?_); rintro e w6 ⟨k1, i1, rfl, hk1, hx6⟩
                 have HX6 := Lib.hid (HX5.out.trans hx6)
                 have HZ6 := Lib.hid (cells_zero5 w6 25)
                 have HF6 := Lib.hid (HZ6.out.putRow (o := 0) (m := 5) (f := fun j => .int .i64 (k1 j)) (g' := fun j => .int .i64 (k1 j)) (by omega) (fun i hi => by rw [if_pos ⟨by omega, by omega⟩]; rfl))
                 have HX7 := Lib.hid (((XE.refl w6).alloc (.cells #[.int .i64 0, .int .i64 0, .int .i64 0, .int .i64 0, .int .i64 0] 25)).setCells (Nat.le_refl _) 0 (mkRow 5 fun j => .int .i64 (k1 j)).toList)
                 have HK1 := Lib.hid hk1; clear hk1 hx6)
              | ((with_reducible refine wpList_store_part 25 (.tmp 12) (.tmp 63) ?_ ?_ ?_ (w6.heap.size) (0) 5 (fun j => .int .i64 (k1 j)) ?_ ?_ (HZ6.out) (by omega) info_five (fun _ _ => rfl) ?_); (· rfl); (· rfl); (· rfl); (· rfl); (· rfl))
              | (go_at_call 20; (with_reducible refine (refMost_any _ b o _ _ xs _ (HL.out.x (HX6.out.trans HX7.out)) (by omega)).mono ?_); rintro e w8 ⟨k2, i2, rfl, hk2, hx8⟩
                 have HF8 := Lib.hid (HF6.out.x hx8)
                 have HX8 := Lib.hid ((HX6.out.trans HX7.out).trans hx8)
                 have HZ8 := Lib.hid (cells_zero5 w8 25)
                 have HG8 := Lib.hid (HZ8.out.putRow (o := 0) (m := 5) (f := fun j => .int .i64 (k2 j)) (g' := fun j => .int .i64 (k2 j)) (by omega) (fun i hi => by rw [if_pos ⟨by omega, by omega⟩]; rfl))
                 have HX9 := Lib.hid (((XE.refl w8).alloc (.cells #[.int .i64 0, .int .i64 0, .int .i64 0, .int .i64 0, .int .i64 0] 25)).setCells (Nat.le_refl _) 0 (mkRow 5 fun j => .int .i64 (k2 j)).toList)
                 have HF9 := Lib.hid (HF8.out.x HX9.out)
                 obtain ⟨hk12, hi12⟩ := HK1.out.one hk2
                 have hee := eq_five hk12
                 have HI := Lib.hid hi12; clear hk12 hi12 hk2 hx8)
              | ((with_reducible refine wpList_store_part 25 (.tmp 14) (.tmp 68) ?_ ?_ ?_ (w8.heap.size) (0) 5 (fun j => .int .i64 (k2 j)) ?_ ?_ (HZ8.out) (by omega) info_five (fun _ _ => rfl) ?_); (· rfl); (· rfl); (· rfl); (· rfl); (· rfl))
              | ((with_reducible refine wpList_load_part 25 (.tmp 12) ?_ ?_ (w6.heap.size) (0) 5 ?_ (fun j => .int .i64 (k1 j)) _ (fun j hj => by rw [Nat.zero_add]; exact HF9.out.cell j hj) Tryd.underlying25 ?_ info_five ?_); (· rfl); (· rfl); (· rfl); (· rfl))
              | ((with_reducible refine wpList_load_part 25 (.tmp 14) ?_ ?_ (w8.heap.size) (0) 5 ?_ (fun j => .int .i64 (k2 j)) _ (fun j hj => by rw [Nat.zero_add]; exact HG8.out.cell j hj) Tryd.underlying25 ?_ info_five ?_); (· rfl); (· rfl); (· rfl); (· rfl)))
            go_ret
            exact ⟨rb (by simp [HI.out]), HX8.out.trans HX9.out⟩
          · obtain ⟨x, hxk, hxv, hxp⟩ := HT.out.ent e he
            have hbd := seenSum_bd HT.out seen
            have hbd2 := seenSum_bd HT.out (seen.push e.born)
            have hpush := seenSum_push hs he HT.out.nodup
            have hcnt : cntOf e = (many (told xs n) x : Nat) := by unfold cntOf; rw [hxv]; rfl
            rw [told_length] at hbd hbd2
            rw [hcnt] at hpush
            rw [hpush] at hbd2
            have hless := unseen_push he hs
            rw [← hov5.left, ← hov.left] at hless
            rw [hxk, hxv] at hnx hen
            have HX5 := Lib.hid (hxo.own hxq (Nat.le_refl _))
            have HOV5 := Lib.hid hov5
            have HPUSH := Lib.hid hpush
            have HLESS := Lib.hid hless
            clear hov hxq hxo hsz hov5 hpush hcnt hless hxk hxv hs HM4
            go_wp2
            go_roundw
            case rel => exact ⟨_, by rw [HPUSH.out], HOV5.out, HX5.out⟩
            case measure => exact HLESS.out
end Go.Proofs.YtkcambhojpafkaaDoor
