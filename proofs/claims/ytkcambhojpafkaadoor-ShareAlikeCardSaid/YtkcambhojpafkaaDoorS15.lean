/- The document's answers on logs: Many, More, Most. -/
import Derived.Test.YtkcambhojpafkaaDoorS12
import Derived.Test.YtkcambhojpafkaaDoorS7
import Derived.Test.YtkcambhojpafkaaDoorB4
set_option linter.unusedSimpArgs false
set_option linter.unusedVariables false
namespace Go.Proofs.YtkcambhojpafkaaDoor
open Go Go.RowKit

/-- The results of a list. -/
def told (xs : Nat → Nat → Int) (n : Nat) : List (Nat → Int) := (List.range n).map xs
theorem told_succ (xs : Nat → Nat → Int) (n : Nat) : told xs (n + 1) = told xs n ++ [xs n] := by simp [told, List.range_succ]
theorem told_length (xs : Nat → Nat → Int) (n : Nat) : (told xs n).length = n := by simp [told]
theorem mem_told {xs : Nat → Nat → Int} {n i : Nat} (h : i < n) : xs i ∈ told xs n := by simp only [told, List.mem_map, List.mem_range]; exact ⟨i, h, rfl⟩
/-- A list of results as an argument. -/
structure ListAt (w : World) (a : Option Addr) (b o len : Nat) (xs : Nat → Nat → Int) : Prop where
  addr : 0 < len → a = some ⟨b, o, none⟩
  rows : FivesAt w b o len xs
theorem ListAt.x {w w' : World} {a : Option Addr} {b o len : Nat} {xs : Nat → Nat → Int} (h : ListAt w a b o len xs) (hx : XE w w') : ListAt w' a b o len xs := ⟨h.addr, fun i hi j hj => hx.cell (h.rows i hi j hj)⟩
theorem load_five {w : World} {b o : Nat} {k : Nat → Int} (h : ∀ j, j < 5 → w.cell? ⟨b, o + j, none⟩ = some (.int .i64 (k j))) : (loadVar 25 ⟨b, o, none⟩).run Tryd.prog w = .ok (.agg (mkRow 5 (ints k))) w :=
  run_loadVar_part h Tryd.underlying25 rfl info_five
theorem cells_row5 (w : World) (k : Nat → Int) : Cells (w.alloc (.cells (row5 k) 25)) w.heap.size 5 (ints k) := by
  have := Cells.new w (row5 k) 25
  rw [show (row5 k).size = 5 from mkRow_size _ _] at this
  exact this.congr fun j hj => by
    have := mkRow_get (fun b => Value.int .i64 (k b)) hj
    show (mkRow 5 _).getD j undef = _
    rw [Array.getD_eq_getD_getElem?, this]; rfl

theorem row5_lit (x : Nat → Int) : row5 x = #[.int .i64 (x 0), .int .i64 (x 1), .int .i64 (x 2), .int .i64 (x 3), .int .i64 (x 4)] := rfl
theorem row5_same {x y : Nat → Int} (h : same5 x y) : row5 x = row5 y := mkRow_congr fun j hj => by rw [h j hj]

theorem ne_same {f g : Nat → Int} (h : ¬ same5 f g) (w : World) : (Op.equalIn 10000 25 (.agg (mkRow 5 fun j => .int .i64 (f j))) (.agg (mkRow 5 fun j => .int .i64 (g j)))).run Tryd.prog w = .ok false w := by
  have : ∃ j, j < 5 ∧ f j ≠ g j := by
    apply Classical.byContradiction
    intro hno
    exact h fun j hj => Classical.byContradiction fun hne => hno ⟨j, hj, hne⟩
  obtain ⟨j, hj, hne⟩ := this
  exact ne_five hj hne w

set_option maxHeartbeats 400000 in
theorem refMany_any (a : Option Addr) (b o len cp : Nat) (xs : Nat → Nat → Int) (k : Nat → Int) (w : World) (hl : ListAt w a b o len xs) (hlen : len ≤ 1000000) :
    Calls Tryd.prog 18 #[.slice a len cp, .agg (row5 k)] w (RetE (.int .i64 (many (told xs len) k : Nat)) w) := by
  have HL := Lib.hid hl; clear hl
  have hk := cells_row5 w k
  have hx0 : XE w (w.alloc (.cells (row5 k) 25)) := (by repeat (first | exact XE.refl _ | apply XE.ext | apply XE.alloc | apply XE.drew | apply XE.drewN))
  have HK := Lib.hid hk; clear hk
  have HX0 := Lib.hid hx0; clear hx0
  go_enter Tryd.func18, Tryd.ntmps18
  go_wp2
  generalize w.alloc (.cells (row5 k) 25) = w1 at *
  go_loopw [5, 6] (fun m i wr => ∃ n : Nat, n ≤ len ∧ i = .int .i64 n ∧ m = .int .i64 (many (told xs n) k : Nat) ∧ XE w1 wr) (fun _ i _ => len - (intOf i).toNat)
  case atStart => exact ⟨0, by omega, rfl, rfl, XE.refl _⟩
  case round =>
    obtain ⟨n, hn, rfl, rfl, hx⟩ := hrel
    have hml := many_le (told xs n) k
    rw [told_length] at hml
    by_cases hlt : n < len
    · obtain rfl := HL.out.addr (by omega)
      have hl1 := fun d => (HL.out.x (HX0.out.trans (hx.ext d))).rows n hlt
      have hl2 : ∀ d j, j < 5 → (ext wr d).cell? ⟨w.heap.size, 0 + j, none⟩ = some (ints k j) := fun d j hj => by rw [Nat.zero_add]; exact (HK.out.x (hx.ext d)).cell j hj
      have HL1 := Lib.hid hl1; clear hl1
      have HL2 := Lib.hid hl2; clear hl2
      have hms := many_snoc (told xs n) (xs n) k
      rw [← told_succ] at hms
      by_cases he : same5 (xs n) k
      · have hee := fun w => eq_five he w
        rw [if_pos he] at hms
        have HMS := Lib.hid hms; clear hms
        have HX := Lib.hid hx; clear hx
        go_wp2
        refine wp_region_grown (by kernel_rfl) (by kernel_rfl) ?_; (repeat (first | go_big_quiet_skip | (go_big_quiet_want; first | (first | ((with_reducible refine quiet_load_part 25 (.tmp 15) ?_ (b) (o + n * 5) 5 ?_ (fun j => .int .i64 (xs n j)) _ ?_ Tryd.underlying25 ?_ info_five ?_); (· rfl); (· rfl); (· (rintro _ ⟨d, rfl⟩; exact (HL1.out d))); (· rfl); go_frame; go_big_quiet_on) | ((with_reducible refine quiet_load_part 25 (.tmp 3) ?_ (w.heap.size) (0) 5 ?_ (fun j => .int .i64 (k j)) _ ?_ Tryd.underlying25 ?_ info_five ?_); (· rfl); (· rfl); (· (rintro _ ⟨d, rfl⟩; exact (HL2.out d))); (· rfl); go_frame; go_big_quiet_on)) | (go_big_quiet_op; first | go_big_quiet_on | go_big_quiet_call (fail))))); refine wpQuiet_nil ?_; rintro _ ⟨dq, rfl⟩
        go_wp2
        go_roundw
        case rel => exact ⟨n + 1, by omega, by go_num, congrArg (Value.int .i64) (by rw [HMS.out]; rfl), HX.out.ext dq⟩
        case measure => simp [intOf]; omega
      · have hee := fun w => ne_same he w
        rw [if_neg he] at hms
        have HMS := Lib.hid hms; clear hms
        have HX := Lib.hid hx; clear hx
        go_wp2
        refine wp_region_grown (by kernel_rfl) (by kernel_rfl) ?_; (repeat (first | go_big_quiet_skip | (go_big_quiet_want; first | (first | ((with_reducible refine quiet_load_part 25 (.tmp 15) ?_ (b) (o + n * 5) 5 ?_ (fun j => .int .i64 (xs n j)) _ ?_ Tryd.underlying25 ?_ info_five ?_); (· rfl); (· rfl); (· (rintro _ ⟨d, rfl⟩; exact (HL1.out d))); (· rfl); go_frame; go_big_quiet_on) | ((with_reducible refine quiet_load_part 25 (.tmp 3) ?_ (w.heap.size) (0) 5 ?_ (fun j => .int .i64 (k j)) _ ?_ Tryd.underlying25 ?_ info_five ?_); (· rfl); (· rfl); (· (rintro _ ⟨d, rfl⟩; exact (HL2.out d))); (· rfl); go_frame; go_big_quiet_on)) | (go_big_quiet_op; first | go_big_quiet_on | go_big_quiet_call (fail))))); refine wpQuiet_nil ?_; rintro _ ⟨dq, rfl⟩
        go_wp2
        go_roundw
        case rel => exact ⟨n + 1, by omega, by go_num, congrArg (Value.int .i64) (by rw [HMS.out]; rfl), HX.out.ext dq⟩
        case measure => simp [intOf]; omega
    · obtain rfl : n = len := by omega
      go_wp2
      go_ret
      exact ⟨rfl, HX0.out.trans hx⟩

open Classical in
noncomputable def moreB (a c : Nat → Int) : Bool := decide (more5 a c)
theorem moreB_first {a c : Nat → Int} {n : Nat} (hn : n < 5) (he : ∀ i, i < n → a i = c i) (hne : a n ≠ c n) : moreB a c = decide (c n < a n) := by
  unfold moreB
  exact decide_eq_decide.2 (more5_first hn he hne)
set_option maxHeartbeats 400000 in
theorem refMore_any (x y : Nat → Int) (w : World) : Calls Tryd.prog 57 #[.agg (row5 x), .agg (row5 y)] w (RetE (.bool (moreB x y)) w) := by
  have hA := (cells_row5 w x).x ((XE.refl _).alloc (.cells (row5 y) 25))
  have hB := cells_row5 (w.alloc (.cells (row5 x) 25)) y
  rw [World.size_alloc] at hB
  have hX : XE w ((w.alloc (.cells (row5 x) 25)).alloc (.cells (row5 y) 25)) := (by repeat (first | exact XE.refl _ | apply XE.ext | apply XE.alloc | apply XE.drew | apply XE.drewN))
  have HA := Lib.hid hA; clear hA
  have HB := Lib.hid hB; clear hB
  have HX := Lib.hid hX; clear hX
  go_enter Tryd.func57, Tryd.ntmps57
  go_wp2
  generalize (w.alloc (.cells (row5 x) 25)).alloc (.cells (row5 y) 25) = w2 at *
  go_loopw [5] (fun i wr => ∃ n : Nat, n ≤ 5 ∧ i = .int .i64 n ∧ (∀ j, j < n → x j = y j) ∧ XE w2 wr) (fun i _ => 5 - (intOf i).toNat)
  case atStart => exact ⟨0, by omega, rfl, by omega, XE.refl _⟩
  case round =>
    obtain ⟨n, hn, rfl, he, hx⟩ := hrel
    have HE := Lib.hid he; clear he
    by_cases hlt : n < 5
    · have c1 := (HA.out.x hx).cell n hlt
      have c2 := (HB.out.x hx).cell n hlt
      unfold ints at c1 c2
      by_cases hne : x n = y n
      · have HX2 := Lib.hid hx; clear hx
        have HNE := Lib.hid hne
        go_wp2
        refine wp_region_grown (by kernel_rfl) (by kernel_rfl) ?_; (repeat (go_big_quiet_step (fail))); refine wpQuiet_nil ?_; rintro _ ⟨dq, rfl⟩
        go_wp2
        go_roundw
        case rel => exact ⟨n + 1, by omega, by go_num, fun j hj => by
          rcases Nat.lt_or_ge j n with h | h
          · exact HE.out j h
          · obtain rfl : j = n := by omega
            exact HNE.out, HX2.out.ext dq⟩
        case measure => simp [intOf]; omega
      · have hf := moreB_first hlt HE.out hne
        have hne' : (x n == y n) = false := by simpa using hne
        have HX2 := Lib.hid hx; clear hx
        have HF := Lib.hid hf; clear hf
        go_wp2
        refine wp_region_grown (by kernel_rfl) (by kernel_rfl) ?_; (repeat (go_big_quiet_step (fail))); refine wpQuiet_nil ?_; rintro _ ⟨dq, rfl⟩
        go_wp2
        refine wp_region_grown (by kernel_rfl) (by kernel_rfl) ?_; (repeat (go_big_quiet_step (fail))); refine wpQuiet_nil ?_; rintro _ ⟨dq, rfl⟩
        go_wp2
        go_ret
        exact ⟨rb HF.out.symm, HX.out.trans ((HX2.out.ext _).ext _)⟩
    · obtain rfl : n = 5 := by omega
      have hf : moreB x y = false := by unfold moreB; simpa using more5_same HE.out
      go_wp2
      go_ret
      exact ⟨rb hf.symm, HX.out.trans hx⟩

/-- The best of the first of a list, by how often each came in the whole. -/
def BestIn (M pre : List (Nat → Int)) (k : Nat → Int) (i : Nat) : Prop :=
  (pre = [] ∧ same5 k (fun _ => 0) ∧ i = 0) ∨ ((∃ x ∈ pre, same5 x k ∧ i = many M x) ∧ ∀ y ∈ pre, many M y < i ∨ (many M y = i ∧ ¬ more5 y k))
theorem BestIn.better {M pre : List (Nat → Int)} {k : Nat → Int} {i : Nat} (h : BestIn M pre k i) (x : Nat → Int) (hm : i < many M x ∨ (many M x = i ∧ more5 x k)) : BestIn M (pre ++ [x]) x (many M x) := by
  refine Or.inr ⟨⟨x, by simp, same5.refl x, rfl⟩, fun y hy => ?_⟩
  rcases List.mem_append.1 hy with hy | hy
  · rcases h with ⟨rfl, -, -⟩ | ⟨-, h2⟩
    · simp at hy
    · have := h2 y hy
      rcases hm with hm | ⟨hm, hmm⟩
      · left; omega
      · rcases this with h | ⟨h, h'⟩
        · left; omega
        · right; exact ⟨by omega, fun hc => h' (more5_trans hc hmm)⟩
  · obtain rfl := List.mem_singleton.1 hy
    exact Or.inr ⟨rfl, more5_same (same5.refl y)⟩
theorem BestIn.stays {M pre : List (Nat → Int)} {k : Nat → Int} {i : Nat} (h : BestIn M pre k i) (x : Nat → Int) (h0 : 0 < many M x) (hm : many M x < i ∨ (many M x = i ∧ ¬ more5 x k)) : BestIn M (pre ++ [x]) k i := by
  rcases h with ⟨-, -, rfl⟩ | ⟨⟨z, hz, h1⟩, h2⟩
  · omega
  · refine Or.inr ⟨⟨z, by simp [hz], h1⟩, fun y hy => ?_⟩
    rcases List.mem_append.1 hy with hy | hy
    · exact h2 y hy
    · obtain rfl := List.mem_singleton.1 hy; exact hm

set_option maxHeartbeats 400000 in
theorem refMost_any (a : Option Addr) (b o len cp : Nat) (xs : Nat → Nat → Int) (w : World) (hl : ListAt w a b o len xs) (hlen : len ≤ 1000000) :
    Calls Tryd.prog 20 #[.slice a len cp] w fun e w' => ∃ k i, e = .returned (.tuple #[.agg (row5 k), .int .i64 (i : Nat)]) ∧ TopOf (told xs len) k i ∧ XE w w' := by
  have HL := Lib.hid hl; clear hl
  have hA := ((cells_zero5 w 25).x ((XE.refl _).alloc (.cells #[.int .i64 0, .int .i64 0, .int .i64 0, .int .i64 0, .int .i64 0] 25)))
  have hB := (cells_zero5 (w.alloc (.cells #[.int .i64 0, .int .i64 0, .int .i64 0, .int .i64 0, .int .i64 0] 25)) 25)
  rw [World.size_alloc] at hB
  have hX : XE w ((w.alloc (.cells #[.int .i64 0, .int .i64 0, .int .i64 0, .int .i64 0, .int .i64 0] 25)).alloc (.cells #[.int .i64 0, .int .i64 0, .int .i64 0, .int .i64 0, .int .i64 0] 25)) := (by repeat (first | exact XE.refl _ | apply XE.ext | apply XE.alloc | apply XE.drew | apply XE.drewN))
  have HA := Lib.hid hA; clear hA
  have HB := Lib.hid hB; clear hB
  have HX := Lib.hid hX; clear hX
  go_enter Tryd.func20, Tryd.ntmps20
  go_wp2
  generalize (w.alloc (.cells #[.int .i64 0, .int .i64 0, .int .i64 0, .int .i64 0, .int .i64 0] 25)).alloc (.cells #[.int .i64 0, .int .i64 0, .int .i64 0, .int .i64 0, .int .i64 0] 25) = w2 at *
  go_loopw [5, 6] (fun q i wr => ∃ (n c : Nat) (k : Nat → Int), n ≤ len ∧ i = .int .i64 n ∧ q = .int .i64 c ∧ c ≤ 1000000 ∧ Cells wr w.heap.size 5 (fun _ => .int .i64 0) ∧ Cells wr (w.heap.size + 1) 5 (ints k) ∧ BestIn (told xs len) (told xs n) k c ∧ XE w wr) (fun _ i _ => len - (intOf i).toNat)
  case atStart => exact ⟨0, 0, fun _ => 0, by omega, rfl, rfl, by omega, HA.out, HB.out, Or.inl ⟨rfl, fun _ _ => rfl, rfl⟩, HX.out⟩
  case round =>
    obtain ⟨n, c, k, hn, rfl, rfl, hc, hA, hB, hbest, hx⟩ := hrel
    clear HA HB HX
    by_cases hlt : n < len
    · obtain rfl := HL.out.addr (by omega)
      have hLr := HL.out.x hx
      have hmany : Calls Tryd.prog 18 #[.slice (some ⟨b, o, none⟩) len cp, .agg (mkRow 5 fun j => .int .i64 (xs n j))] wr (RetE (.int .i64 (many (told xs len) (xs n) : Nat)) wr) := refMany_any _ b o len cp xs (xs n) wr hLr hlen
      have hbt := hbest.better (xs n)
      have hst := hbest.stays (xs n) (many_pos (mem_told hlt))
      rw [← told_succ] at hbt hst
      have hml := many_le (told xs len) (xs n)
      rw [told_length] at hml
      have HM := Lib.hid hmany; clear hmany
      have HBT := Lib.hid hbt; clear hbt
      have HST := Lib.hid hst; clear hst
      have HEL := Lib.hid (hLr.rows n hlt)
      have HLR := Lib.hid hLr; clear hLr
      have HA := Lib.hid hA; clear hA
      have HB := Lib.hid hB; clear hB
      have HX := Lib.hid hx; clear hx hbest
      go_wp2_with (first
        | ((with_reducible refine wpList_load_part 25 (.tmp 17) ?_ ?_ (b) (o + n * 5) 5 ?_ (fun j => .int .i64 (xs n j)) _ (HEL.out) Tryd.underlying25 ?_ info_five ?_); (· rfl); (· rfl); (· rfl); (· rfl))
        | (go_at_call 18; (with_reducible refine HM.out.mono ?_); rintro e w3 ⟨rfl, hx3⟩))
      have HA3 := Lib.hid (HA.out.x hx3)
      have HB3 := Lib.hid (HB.out.x hx3)
      have HL3 := Lib.hid (HLR.out.x hx3)
      have HX3 := Lib.hid (HX.out.trans hx3)
      clear HA HB HM hx3
      have hz := HX3.out.size
      clear HLR HX
      have hl1 := fun d => (HL3.out.x (xe_ext w3 d)).rows n hlt
      have hl2 : ∀ d j, j < 5 → (ext w3 d).cell? ⟨w.heap.size + 1, 0 + j, none⟩ = some (ints k j) := fun d j hj => by rw [Nat.zero_add]; exact (HB3.out.x (xe_ext w3 d)).cell j hj
      have HL1 := Lib.hid hl1; clear hl1
      have HL2 := Lib.hid hl2; clear hl2
      generalize many (told xs len) (xs n) = v at *
      rcases Nat.lt_trichotomy c v with hlt1 | heq | hgt
      · have hgt : (c : Int) < (v : Nat) := by omega
        go_wp2
        refine wp_region_grown (by kernel_rfl) (by kernel_rfl) ?_; (repeat (first | go_big_quiet_skip | (go_big_quiet_want; first | (fail) | (go_big_quiet_op; first | go_big_quiet_on | go_big_quiet_call (fail))))); refine wpQuiet_nil ?_; rintro _ ⟨dq, rfl⟩
        have hl3 := HL1.out dq
        have HL4 := Lib.hid hl3; clear hl3
        have HB' := Lib.hid (HB3.out.x (xe_ext _ dq))
        have HA' := Lib.hid (HA3.out.x (xe_ext _ dq))
        have HX' := Lib.hid (HX3.out.trans (xe_ext _ dq))
        generalize hw8 : ext w3 dq = w8 at *
        have HW8 := Lib.hid hw8; clear hw8
        go_wp2_with (first
          | ((with_reducible refine wpList_load_part 25 (.tmp 39) ?_ ?_ (b) (o + n * 5) 5 ?_ (fun j => .int .i64 (xs n j)) _ (HL4.out) Tryd.underlying25 ?_ info_five ?_); (· rfl); (· rfl); (· rfl); (· rfl))
          | ((with_reducible refine wpList_store_part 25 (.tmp 4) (.tmp 40) ?_ ?_ ?_ (w.heap.size + 1) (0) 5 (fun j => .int .i64 (xs n j)) ?_ ?_ (HB'.out) (by omega) info_five (fun _ _ => rfl) ?_); (· rfl); (· rfl); (· rfl); (· rfl); (· rfl)))
        go_roundw
        case rel => exact ⟨n + 1, _, xs n, by omega, by go_num, rfl, by omega, HA'.out.farRow (by omega) _ _, HB'.out.putRow (by omega) (fun i hi => by rw [if_pos ⟨by omega, by omega⟩]; rfl), HBT.out (Or.inl hlt1), HX'.out.setCells (by omega) _ _⟩
        case measure => simp [intOf]; omega
      · subst heq
        by_cases hm : more5 (xs n) k
        · have hmb : moreB (xs n) k = true := by unfold moreB; simpa using hm
          have hmc : ∀ d, Calls Tryd.prog 57 #[.agg (mkRow 5 fun j => .int .i64 (xs n j)), .agg (mkRow 5 fun j => .int .i64 (k j))] (ext w3 d) (RetE (.bool true) (ext w3 d)) := fun d => by rw [← hmb]; exact refMore_any _ _ _
          have HMC := Lib.hid hmc; clear hmc
          go_wp2
          refine wp_region_grown (by kernel_rfl) (by kernel_rfl) ?_; (repeat (first | go_big_quiet_skip | (go_big_quiet_want; first | (first | ((with_reducible refine quiet_load_part 25 (.tmp 30) ?_ (b) (o + n * 5) 5 ?_ (fun j => .int .i64 (xs n j)) _ ?_ Tryd.underlying25 ?_ info_five ?_); (· rfl); (· rfl); (· (rintro _ ⟨d, rfl⟩; exact (HL1.out d))); (· rfl); go_frame; go_big_quiet_on) | ((with_reducible refine quiet_load_part 25 (.tmp 4) ?_ (w.heap.size + 1) (0) 5 ?_ (fun j => .int .i64 (k j)) _ ?_ Tryd.underlying25 ?_ info_five ?_); (· rfl); (· rfl); (· (rintro _ ⟨d, rfl⟩; exact (HL2.out d))); (· rfl); go_frame; go_big_quiet_on)) | (go_big_quiet_op; first | go_big_quiet_on | go_big_quiet_call ((go_at_call 57; exact quietE (HMC.out _))))))); refine wpQuiet_nil ?_; rintro _ ⟨dq, rfl⟩
          have hl3 := HL1.out dq
          have HL4 := Lib.hid hl3; clear hl3
          have HB' := Lib.hid (HB3.out.x (xe_ext _ dq))
          have HA' := Lib.hid (HA3.out.x (xe_ext _ dq))
          have HX' := Lib.hid (HX3.out.trans (xe_ext _ dq))
          generalize hw8 : ext w3 dq = w8 at *
          have HW8 := Lib.hid hw8; clear hw8
          go_wp2_with (first
            | ((with_reducible refine wpList_load_part 25 (.tmp 39) ?_ ?_ (b) (o + n * 5) 5 ?_ (fun j => .int .i64 (xs n j)) _ (HL4.out) Tryd.underlying25 ?_ info_five ?_); (· rfl); (· rfl); (· rfl); (· rfl))
            | ((with_reducible refine wpList_store_part 25 (.tmp 4) (.tmp 40) ?_ ?_ ?_ (w.heap.size + 1) (0) 5 (fun j => .int .i64 (xs n j)) ?_ ?_ (HB'.out) (by omega) info_five (fun _ _ => rfl) ?_); (· rfl); (· rfl); (· rfl); (· rfl); (· rfl)))
          go_roundw
          case rel => exact ⟨n + 1, _, xs n, by omega, by go_num, rfl, by omega, HA'.out.farRow (by omega) _ _, HB'.out.putRow (by omega) (fun i hi => by rw [if_pos ⟨by omega, by omega⟩]; rfl), HBT.out (Or.inr ⟨by first | rfl | trivial, hm⟩), HX'.out.setCells (by omega) _ _⟩
          case measure => simp [intOf]; omega
        · have hmb : moreB (xs n) k = false := by unfold moreB; simpa using hm
          have hmc : ∀ d, Calls Tryd.prog 57 #[.agg (mkRow 5 fun j => .int .i64 (xs n j)), .agg (mkRow 5 fun j => .int .i64 (k j))] (ext w3 d) (RetE (.bool false) (ext w3 d)) := fun d => by rw [← hmb]; exact refMore_any _ _ _
          have HMC := Lib.hid hmc; clear hmc
          go_wp2
          refine wp_region_grown (by kernel_rfl) (by kernel_rfl) ?_; (repeat (first | go_big_quiet_skip | (go_big_quiet_want; first | (first | ((with_reducible refine quiet_load_part 25 (.tmp 30) ?_ (b) (o + n * 5) 5 ?_ (fun j => .int .i64 (xs n j)) _ ?_ Tryd.underlying25 ?_ info_five ?_); (· rfl); (· rfl); (· (rintro _ ⟨d, rfl⟩; exact (HL1.out d))); (· rfl); go_frame; go_big_quiet_on) | ((with_reducible refine quiet_load_part 25 (.tmp 4) ?_ (w.heap.size + 1) (0) 5 ?_ (fun j => .int .i64 (k j)) _ ?_ Tryd.underlying25 ?_ info_five ?_); (· rfl); (· rfl); (· (rintro _ ⟨d, rfl⟩; exact (HL2.out d))); (· rfl); go_frame; go_big_quiet_on)) | (go_big_quiet_op; first | go_big_quiet_on | go_big_quiet_call ((go_at_call 57; exact quietE (HMC.out _))))))); refine wpQuiet_nil ?_; rintro _ ⟨dq, rfl⟩
          go_wp2
          go_roundw
          case rel => exact ⟨n + 1, c, k, by omega, by go_num, rfl, hc, HA3.out.x (xe_ext _ dq), HB3.out.x (xe_ext _ dq), HST.out (Or.inr ⟨by first | rfl | trivial, hm⟩), HX3.out.trans (xe_ext _ dq)⟩
          case measure => simp [intOf]; omega
      · have hgt1 : decide (c < v) = false := by simp; omega
        have hgt3 : (v == c) = false := by simp; omega
        have hgt4 : ((v : Int) == (c : Int)) = false := by simp; omega
        go_wp2
        refine wp_region_grown (by kernel_rfl) (by kernel_rfl) ?_; (repeat (first | go_big_quiet_skip | (go_big_quiet_want; first | (fail) | (go_big_quiet_op; first | go_big_quiet_on | go_big_quiet_call (fail))))); refine wpQuiet_nil ?_; rintro _ ⟨dq, rfl⟩
        go_wp2
        go_roundw
        case rel => exact ⟨n + 1, c, k, by omega, by go_num, rfl, hc, HA3.out.x (xe_ext _ dq), HB3.out.x (xe_ext _ dq), HST.out (Or.inl hgt), HX3.out.trans (xe_ext _ dq)⟩
        case measure => simp [intOf]; omega
    · obtain rfl : n = len := by omega
      have HA := Lib.hid hA; clear hA
      have HB := Lib.hid hB; clear hB
      go_wp2_with (first
        | ((with_reducible refine wpList_load_part 25 (.tmp 4) ?_ ?_ (w.heap.size + 1) (0) 5 ?_ (ints k) _ (fun j hj => by rw [Nat.zero_add]; exact HB.out.cell j hj) Tryd.underlying25 ?_ info_five ?_); (· rfl); (· rfl); (· rfl); (· rfl))
        | ((with_reducible refine wpList_store_part 25 (.tmp 2) (.tmp 41) ?_ ?_ ?_ (w.heap.size) (0) 5 (ints k) ?_ ?_ (HA.out) (by omega) info_five (fun _ _ => rfl) ?_); (· rfl); (· rfl); (· rfl); (· rfl); (· rfl)))
      have hfin : Cells (wr.setCells w.heap.size 0 (mkRow 5 (ints k)).toList) w.heap.size 5 (ints k) :=
        HA.out.putRow (by omega) (fun i hi => by rw [if_pos ⟨by omega, by omega⟩]; rfl)
      refine bodyPost_ret (v := .tuple #[.agg (row5 k), .int .i64 (c : Nat)]) (results_part_tmp rfl _ _ w.heap.size 0 5 _ _ rfl rfl (fun j hj => by rw [Nat.zero_add]; exact hfin.cell j hj) Tryd.underlying25 rfl info_five) rfl ⟨k, c, rfl, hbest, hx.setCells (Nat.le_refl _) _ _⟩
end Go.Proofs.YtkcambhojpafkaaDoor
