/- Layer 15's log: the walk of Most. -/
import Derived.Test.YtkcambhojpafkaaDoorS11
set_option linter.unusedSimpArgs false
set_option linter.unusedVariables false
namespace Go.Proofs.YtkcambhojpafkaaDoor
open Go Go.RowKit

/-- The result that came most often of those told, the greatest of several; none told: nothing. -/
def TopOf (M : List (Nat → Int)) (k : Nat → Int) (i : Nat) : Prop :=
  (M = [] ∧ same5 k (fun _ => 0) ∧ i = 0) ∨ ((∃ x ∈ M, same5 x k ∧ i = many M x) ∧ ∀ y ∈ M, many M y < i ∨ (many M y = i ∧ ¬ more5 y k))
theorem TopOf.one {M : List (Nat → Int)} {k k' : Nat → Int} {i i' : Nat} (h : TopOf M k i) (h' : TopOf M k' i') : same5 k k' ∧ i = i' := by
  rcases h with ⟨rfl, h1, rfl⟩ | ⟨⟨x, hx, hxk, rfl⟩, h2⟩
  · rcases h' with ⟨-, h3, rfl⟩ | ⟨⟨x, hx, -⟩, -⟩
    · exact ⟨h1.trans h3.symm, rfl⟩
    · simp at hx
  · rcases h' with ⟨rfl, h3, rfl⟩ | ⟨⟨x', hx', hxk', rfl⟩, h4⟩
    · simp at hx
    · have a := h2 x' hx'
      have b := h4 x hx
      have e : many M x = many M x' := by omega
      refine ⟨?_, e⟩
      have a' : ¬ more5 x' k := by rcases a with a | a; omega; exact a.2
      have b' : ¬ more5 x k' := by rcases b with b | b; omega; exact b.2
      rcases more5_total k k' with c | c | c
      · exact absurd ((more5_congr hxk (same5.refl k')).2 c) b'
      · exact c
      · exact absurd ((more5_congr hxk' (same5.refl k)).2 c) a'
/-- The best of the entries that have been seen. -/
def BestOf (L : List Ent) (M : List (Nat → Int)) (seen : Array Nat) (k : Nat → Int) (i : Nat) : Prop :=
  (i = 0 ∧ (∀ j, j < 5 → k j = 0) ∧ ∀ e ∈ L, seen.contains e.born = false) ∨
  ((∃ e ∈ L, e.key = ints k ∧ i = many M k) ∧ ∀ e ∈ L, seen.contains e.born = true → ∀ y, e.key = ints y → many M y < i ∨ (many M y = i ∧ ¬ more5 y k))
theorem ints_inj {k x : Nat → Int} (h : ints k = ints x) : k = x := by
  funext j
  have := congrFun h j
  simpa [ints] using this
theorem BestOf.all {L : List Ent} {c : Nat} {M : List (Nat → Int)} {seen : Array Nat} {k : Nat → Int} {i : Nat} (h : BestOf L M seen k i) (ht : Told L c M) (hall : ∀ e ∈ L, seen.contains e.born = true) : TopOf M k i := by
  have key : ∀ y ∈ M, ∃ e ∈ L, ∃ z, e.key = ints z ∧ same5 z y := ht.all
  rcases h with ⟨rfl, h0, hn⟩ | ⟨⟨e, he, hk, hi⟩, h2⟩
  · refine Or.inl ⟨?_, h0, rfl⟩
    cases M with
    | nil => rfl
    | cons y M =>
      obtain ⟨e, he, -⟩ := key y (by simp)
      have := hn e he
      rw [hall e he] at this; cases this
  · refine Or.inr ⟨?_, fun y hy => ?_⟩
    · obtain ⟨k', hk', -, hp⟩ := ht.ent e he
      rw [hk] at hk'
      obtain rfl := ints_inj hk'
      have : ∃ x ∈ M, same5 x k := by
        apply Classical.byContradiction
        intro hno
        have := many_zero (M := M) (k := k) (fun x hx hs => hno ⟨x, hx, hs⟩)
        omega
      obtain ⟨x, hx, hs⟩ := this
      exact ⟨x, hx, hs, by rw [hi]; exact (many_congr hs).symm⟩
    · obtain ⟨e', he', z, hz, hzy⟩ := key y hy
      have := h2 e' he' (hall e' he') z hz
      rw [many_congr hzy] at this
      rcases this with h | ⟨h, h'⟩
      · exact Or.inl h
      · exact Or.inr ⟨h, fun hm => h' ((more5_congr hzy (same5.refl k)).2 hm)⟩
theorem BestOf.start (L : List Ent) (M : List (Nat → Int)) : BestOf L M #[] (fun _ => 0) 0 := Or.inl ⟨rfl, fun _ _ => rfl, fun _ _ => by simp⟩
theorem Told.nodup {L : List Ent} {c : Nat} {M : List (Nat → Int)} (h : Told L c M) : (L.map (·.born)).Nodup := by
  refine List.pairwise_iff_getElem.2 fun i j hi hj hij heq => ?_
  rw [List.length_map] at hi hj
  rw [List.getElem_map, List.getElem_map] at heq
  have := h.born i j _ _ (List.getElem?_eq_getElem hi) (List.getElem?_eq_getElem hj) heq
  omega
/-- One entry more has been seen. -/
theorem BestOf.better {L : List Ent} {c : Nat} {M : List (Nat → Int)} {seen : Array Nat} {k x : Nat → Int} {i : Nat} (h : BestOf L M seen k i) (ht : Told L c M) {e : Ent} (he : e ∈ L) (hx : e.key = ints x) (hm : i < many M x ∨ (many M x = i ∧ more5 x k)) :
    BestOf L M (seen.push e.born) x (many M x) := by
  refine Or.inr ⟨⟨e, he, hx, rfl⟩, fun e' he' hs' y hy => ?_⟩
  rw [contains_push'] at hs'
  by_cases hb : e'.born = e.born
  · obtain ⟨a, ha⟩ := List.getElem?_of_mem he
    obtain ⟨b, hb'⟩ := List.getElem?_of_mem he'
    have := ht.born b a _ _ hb' ha hb
    subst this
    rw [ha] at hb'
    obtain rfl := Option.some.inj hb'
    rw [hx] at hy
    obtain rfl := ints_inj hy
    exact Or.inr ⟨rfl, more5_same (same5.refl x)⟩
  · have hs : seen.contains e'.born = true := by
      have : (e'.born == e.born) = false := by simpa using hb
      rw [this, Bool.or_false] at hs'; exact hs'
    rcases h with ⟨-, -, hn⟩ | ⟨-, h2⟩
    · rw [hn e' he'] at hs; cases hs
    · have := h2 e' he' hs y hy
      rcases hm with hm | ⟨hm, hmm⟩
      · left; omega
      · rcases this with h | ⟨h, h'⟩
        · left; omega
        · right; exact ⟨by omega, fun hc => h' (more5_trans hc hmm)⟩
theorem BestOf.stays {L : List Ent} {c : Nat} {M : List (Nat → Int)} {seen : Array Nat} {k x : Nat → Int} {i : Nat} (h : BestOf L M seen k i) (ht : Told L c M) {e : Ent} (he : e ∈ L) (hx : e.key = ints x) (hm : many M x < i ∨ (many M x = i ∧ ¬ more5 x k)) :
    BestOf L M (seen.push e.born) k i := by
  rcases h with ⟨rfl, -, -⟩ | ⟨h1, h2⟩
  · obtain ⟨x', hx', -, hp⟩ := ht.ent e he
    rw [hx] at hx'
    obtain rfl := ints_inj hx'
    omega
  · refine Or.inr ⟨h1, fun e' he' hs' y hy => ?_⟩
    rw [contains_push'] at hs'
    by_cases hb : e'.born = e.born
    · obtain ⟨a, ha⟩ := List.getElem?_of_mem he
      obtain ⟨b, hb'⟩ := List.getElem?_of_mem he'
      have := ht.born b a _ _ hb' ha hb
      subst this
      rw [ha] at hb'
      obtain rfl := Option.some.inj hb'
      rw [hx] at hy
      obtain rfl := ints_inj hy
      exact hm
    · have hs : seen.contains e'.born = true := by
        have : (e'.born == e.born) = false := by simpa using hb
        rw [this, Bool.or_false] at hs'; exact hs'
      exact h2 e' he' hs y hy

/-- Two results, the first of which lies in memory: n cells. -/
theorem results_part_tmp {P : Program} {fn : Func} {p s : Tmp} {t : TypeId} (h : fn.results = #[.cell p t, .tmp s]) (tmps : Array Value) (w : World) (b o n : Nat) (g : Nat → Value) (v : Value) {d : TypeDesc}
    (hp : tmps.getD p undef = .pointer (some ⟨b, o, none⟩)) (hv : tmps.getD s undef = v) (hc : ∀ j, j < n → w.cell? ⟨b, o + j, none⟩ = some (g j))
    (hu : P.underlying t = some d) (hd : (match d with | .struct _ | .array _ _ => true | _ => false) = true) (hi : (P.info? t).map (·.size) = some n) :
    (results fn tmps).run P w = .ok (.tuple #[.agg (mkRow n g), v]) w := by
  have hp' : tmps[p]?.getD undef = .pointer (some ⟨b, o, none⟩) := by simpa using hp
  have hv' : tmps[s]?.getD undef = v := by simpa using hv
  simp [results, h, hp', hv', asAddr, run_loadVar_part hc hu hd hi]

theorem XO.cells {r : Nat} {w w' : World} (h : XO r w w') {b n : Nat} {g : Nat → Value} (c : Cells w b n g) (hb : b ≠ r) : Cells w' b n g := by
  refine ⟨fun j hj => ?_, fun j hj => ?_⟩
  · rw [World.cell?_of_block (h.block b (World.block_lt_of_cell? w _ (c.cell j hj)) hb)]; exact c.cell j hj
  · rw [World.frozen?_of_block (h.block b (World.block_lt_of_cell? w _ (c.cell j hj)) hb)]; exact c.free j hj
theorem Over.row {w : World} {m r n : Nat} {ls : List Leaf} {L : List Ent} {c : Nat} {seen : Array Nat} (h : Over w m r n ls L c seen) {b k : Nat} {g : Nat → Value} (hc : Cells w b k g) (hk : 0 < k) : b ≠ m ∧ b ≠ r := by
  have h0 := hc.cell 0 hk
  refine ⟨fun e => ?_, fun e => ?_⟩
  · subst e; simp [World.cell?, h.map.obj, mapObj] at h0
  · subst e; simp [World.cell?, h.iter] at h0
theorem heap_farRow {b k : Nat} (h : k ≠ b) : ∀ (l : List Value) (o : Nat) (w : World), (w.setCells b o l).heap[k]? = w.heap[k]?
  | [], _, _ => rfl
  | v :: l, o, w => by
    rw [World.setCells, heap_farRow h l]
    exact Below.heap_setCell w _ v k h
theorem Over.farRow {w : World} {m r n : Nat} {ls : List Leaf} {L : List Ent} {c : Nat} {seen : Array Nat} (h : Over w m r n ls L c seen) {b : Nat} (hb : b ≠ m ∧ b ≠ r) (o : Nat) (l : List Value) : Over (w.setCells b o l) m r n ls L c seen :=
  h.of_block (heap_farRow (Ne.symm hb.1) l o w) (heap_farRow (Ne.symm hb.2) l o w)

set_option maxHeartbeats 1000000 in
theorem logMost_any (m : Nat) (M : List (Nat → Int)) (w : World) (hl : LogAt w m M) (hM : M.length ≤ 1000000) :
    Calls Tryd.prog 19 #[.map (some m)] w fun e w' => ∃ k i, e = .returned (.tuple #[.agg (row5 k), .int .i64 (i : Nat)]) ∧ TopOf M k i ∧ XE w w' := by
  obtain ⟨L, cl, hmap, htold⟩ := hl
  have hmap0 := hmap
  have HT := Lib.hid htold
  have hm2 := (hmap.x (((XE.refl w).alloc (.cells #[.int .i64 0, .int .i64 0, .int .i64 0, .int .i64 0, .int .i64 0] 25)))).x ((XE.refl _).alloc (.cells #[.int .i64 0, .int .i64 0, .int .i64 0, .int .i64 0, .int .i64 0] 25))
  have hrg := run_range_map (P := Tryd.prog) _ 36 25 3 m _ cl Tryd.underlying36 hm2.obj
  have hA := ((cells_zero5 w 25).x ((XE.refl _).alloc (.cells #[.int .i64 0, .int .i64 0, .int .i64 0, .int .i64 0, .int .i64 0] 25)))
  have hB := (cells_zero5 (w.alloc (.cells #[.int .i64 0, .int .i64 0, .int .i64 0, .int .i64 0, .int .i64 0] 25)) 25)
  rw [World.size_alloc] at hB
  have hX : XE w ((w.alloc (.cells #[.int .i64 0, .int .i64 0, .int .i64 0, .int .i64 0, .int .i64 0] 25)).alloc (.cells #[.int .i64 0, .int .i64 0, .int .i64 0, .int .i64 0, .int .i64 0] 25)) := (by repeat (first | exact XE.refl _ | apply XE.ext | apply XE.alloc | apply XE.drew | apply XE.drewN))
  have hS : ((w.alloc (.cells #[.int .i64 0, .int .i64 0, .int .i64 0, .int .i64 0, .int .i64 0] 25)).alloc (.cells #[.int .i64 0, .int .i64 0, .int .i64 0, .int .i64 0, .int .i64 0] 25)).heap.size = w.heap.size + 2 := by simp
  rw [hS] at hrg
  go_enter Tryd.func19, Tryd.ntmps19
  go_wp2
  generalize (w.alloc (.cells #[.int .i64 0, .int .i64 0, .int .i64 0, .int .i64 0, .int .i64 0] 25)).alloc (.cells #[.int .i64 0, .int .i64 0, .int .i64 0, .int .i64 0, .int .i64 0] 25) = w2 at *
  have hx3 := (XE.refl w2).alloc (.mapIter (some m) cl #[] cl)
  have hO : Over (w2.alloc (.mapIter (some m) cl #[] cl)) m (w.heap.size + 2) 5 fiveLs L cl #[] := ⟨hm2.x hx3, by rw [← hS]; exact heap_alloc_new _ _⟩
  go_loopw [5] (fun i wr => ∃ (q : Nat) (k : Nat → Int) (seen : Array Nat), i = .int .i64 q ∧ q ≤ 1000000 ∧ Over wr m (w.heap.size + 2) 5 fiveLs L cl seen ∧ Cells wr w.heap.size 5 (fun _ => .int .i64 0) ∧ Cells wr (w.heap.size + 1) 5 (ints k) ∧ BestOf L M seen k q ∧ XE w wr) (fun _ wr => iterLeft L wr (w.heap.size + 2))
  case atStart => exact ⟨0, fun _ => 0, #[], rfl, by omega, hO, hA.x hx3, hB.x hx3, BestOf.start L M, hX.trans hx3⟩
  case round =>
    obtain ⟨q, k, seen, rfl, hq, hov, hA, hB, hbest, hx⟩ := hrel
    rcases hov.next (P := Tryd.prog) HT.out.clock HT.out.nodup with ⟨hall, hnx⟩ | ⟨e, he, hs, w3, hnx, hov3, hxo, hsz, hen⟩
    · have HA := Lib.hid hA; clear hA
      have HB := Lib.hid hB; clear hB
      have hend := hbest.all HT.out hall
      clear hbest hall hrg hmap hmap0 hm2 hov hO htold
      go_wp2_with (first
        | ((with_reducible refine wpList_load_part 25 (.tmp 4) ?_ ?_ (w.heap.size + 1) (0) 5 ?_ (ints k) _ (fun j hj => by rw [Nat.zero_add]; exact HB.out.cell j hj) Tryd.underlying25 ?_ info_five ?_); (· rfl); (· rfl); (· rfl); (· rfl))
        | ((with_reducible refine wpList_store_part 25 (.tmp 2) (.tmp 31) ?_ ?_ ?_ (w.heap.size) (0) 5 (ints k) ?_ ?_ (HA.out) (by omega) info_five (fun _ _ => rfl) ?_); (· rfl); (· rfl); (· rfl); (· rfl); (· rfl)))
      have hfin : Cells (wr.setCells w.heap.size 0 (mkRow 5 (ints k)).toList) w.heap.size 5 (ints k) :=
        HA.out.putRow (by omega) (fun i hi => by rw [if_pos ⟨by omega, by omega⟩]; rfl)
      refine bodyPost_ret (v := .tuple #[.agg (row5 k), .int .i64 (q : Nat)]) (results_part_tmp rfl _ _ w.heap.size 0 5 _ _ rfl rfl (fun j hj => by rw [Nat.zero_add]; exact hfin.cell j hj) Tryd.underlying25 rfl info_five) rfl ⟨k, q, rfl, hend, hx.setCells (Nat.le_refl _) _ _⟩
    · have hA3 := hxo.cells hA (by omega)
      have hB3 := hxo.cells hB (by omega)
      have hX3 : XE w w3 := hxo.own hx (by omega)
      have hless := unseen_push he hs
      rw [← hov3.left, ← hov.left] at hless
      obtain ⟨x, hxk, hxv, hxp⟩ := HT.out.ent e he
      rw [hxk, hxv] at hnx hen
      have hbt := fun hm => hbest.better HT.out he hxk hm
      have hst := fun hm => hbest.stays HT.out he hxk hm
      have hml := many_le M x
      have HBT := Lib.hid hbt
      have HST := Lib.hid hst
      have HLS := Lib.hid hless
      clear hsz hA hB hbt hst hless hbest hrg hmap hmap0 hm2 hov hO htold hx hxo
      have hwx := hX3.size
      have hZ := cells_zero5 w3 25
      have hX7 : XE w3 ((w3.alloc (.cells #[.int .i64 0, .int .i64 0, .int .i64 0, .int .i64 0, .int .i64 0] 25)).setCells w3.heap.size 0 (mkRow 5 (ints x)).toList) := ((XE.refl w3).alloc _).setCells (Nat.le_refl _) 0 _
      have hF7 := hZ.putRow (o := 0) (m := 5) (f := ints x) (g' := ints x) (by omega) (fun i hi => by rw [if_pos ⟨by omega, by omega⟩]; rfl)
      have HZ := Lib.hid hZ; clear hZ
      have HA := Lib.hid (hA3.x hX7); clear hA3
      have HB := Lib.hid (hB3.x hX7); clear hB3
      have HO := Lib.hid (hov3.x hX7)
      have HX := Lib.hid (hX3.trans hX7)
      go_upto_region 6 with (first
        | ((with_reducible refine wpList_store_part 25 (.tmp 6) (.tmp 13) ?_ ?_ ?_ (w3.heap.size) (0) 5 (ints x) ?_ ?_ (HZ.out) (by omega) info_five (fun _ _ => rfl) ?_); (· rfl); (· rfl); (· rfl); (· rfl); (· rfl)))
      have hlf : iterLeft L ((w3.alloc (.cells #[.int .i64 0, .int .i64 0, .int .i64 0, .int .i64 0, .int .i64 0] 25)).setCells w3.heap.size 0 (mkRow 5 (ints x)).toList) (w.heap.size + 2) = iterLeft L w3 (w.heap.size + 2) := by rw [HO.out.left, hov3.left]
      have HLF := Lib.hid hlf; clear hlf
      generalize (w3.alloc (.cells #[.int .i64 0, .int .i64 0, .int .i64 0, .int .i64 0, .int .i64 0] 25)).setCells w3.heap.size 0 (mkRow 5 (ints x)).toList = w7 at *
      have HF := Lib.hid hF7; clear hF7
      have hb7 := HO.out.row HB.out (by omega)
      rcases Nat.lt_trichotomy q (many M x) with hlt | heq | hgt
      · have hgt : (q : Int) < (many M x : Nat) := by omega
        go_wp2
        refine wp_region_grown (by kernel_rfl) (by kernel_rfl) ?_; (repeat (go_big_quiet_step (fail))); refine wpQuiet_nil ?_; rintro _ ⟨dq, rfl⟩
        have HF' := Lib.hid (HF.out.x (xe_ext _ dq))
        have HB' := Lib.hid (HB.out.x (xe_ext _ dq))
        have HA' := Lib.hid (HA.out.x (xe_ext _ dq))
        have HO' := Lib.hid (HO.out.x (xe_ext _ dq))
        have HX' := Lib.hid (HX.out.trans (xe_ext _ dq))
        clear HF HB HA
        generalize hw8 : ext w7 dq = w8 at *
        have HW8 := Lib.hid hw8; clear hw8
        go_wp2_with (first
          | ((with_reducible refine wpList_load_part 25 (.tmp 6) ?_ ?_ (w3.heap.size) (0) 5 ?_ (ints x) _ (fun j hj => by rw [Nat.zero_add]; exact HF'.out.cell j hj) Tryd.underlying25 ?_ info_five ?_); (· rfl); (· rfl); (· rfl); (· rfl))
          | ((with_reducible refine wpList_store_part 25 (.tmp 4) (.tmp 29) ?_ ?_ ?_ (w.heap.size + 1) (0) 5 (ints x) ?_ ?_ (HB'.out) (by omega) info_five (fun _ _ => rfl) ?_); (· rfl); (· rfl); (· rfl); (· rfl); (· rfl)))
        go_roundw
        case rel => exact ⟨many M x, x, _, congrArg (Value.int .i64) (by omega), by omega, HO'.out.farRow hb7 _ _, HA'.out.farRow (by omega) _ _, HB'.out.putRow (by omega) (fun i hi => by rw [if_pos ⟨by omega, by omega⟩]; rfl), HBT.out (Or.inl hlt), HX'.out.setCells (by omega) _ _⟩
        case measure => rw [(HO'.out.farRow hb7 0 (mkRow 5 (ints x)).toList).left, ← hov3.left]; exact HLS.out
      · have hcm : ∀ dq, Calls Tryd.prog 56 #[.slice (some ⟨w3.heap.size, 0, none⟩) 5 5, .slice (some ⟨w.heap.size + 1, 0, none⟩) 5 5] (ext w7 dq) (RetS (.int .i64 (cmp5 x k)) (ext w7 dq)) := fun dq =>
          compare_any x k _ _ _ (HF.out.x (xe_ext _ dq)).cell (HB.out.x (xe_ext _ dq)).cell
        have HCM := Lib.hid hcm; clear hcm
        have hgt : decide ((q : Int) < (many M x : Nat)) = false := by simp; omega
        have heq' : ((many M x : Nat) : Int) = q := by omega
        by_cases hm : more5 x k
        · have hc : 0 < cmp5 x k := cmp5_pos.2 hm
          go_wp2
          refine wp_region_grown (by kernel_rfl) (by kernel_rfl) ?_; (repeat (go_big_quiet_step ((go_at_call 56; exact quietS (HCM.out _))))); refine wpQuiet_nil ?_; rintro _ ⟨dq, rfl⟩
          have HF' := Lib.hid (HF.out.x (xe_ext _ dq))
          have HB' := Lib.hid (HB.out.x (xe_ext _ dq))
          have HA' := Lib.hid (HA.out.x (xe_ext _ dq))
          have HO' := Lib.hid (HO.out.x (xe_ext _ dq))
          have HX' := Lib.hid (HX.out.trans (xe_ext _ dq))
          clear HF HB HA
          generalize hw8 : ext w7 dq = w8 at *
          have HW8 := Lib.hid hw8; clear hw8
          go_wp2_with (first
            | ((with_reducible refine wpList_load_part 25 (.tmp 6) ?_ ?_ (w3.heap.size) (0) 5 ?_ (ints x) _ (fun j hj => by rw [Nat.zero_add]; exact HF'.out.cell j hj) Tryd.underlying25 ?_ info_five ?_); (· rfl); (· rfl); (· rfl); (· rfl))
            | ((with_reducible refine wpList_store_part 25 (.tmp 4) (.tmp 29) ?_ ?_ ?_ (w.heap.size + 1) (0) 5 (ints x) ?_ ?_ (HB'.out) (by omega) info_five (fun _ _ => rfl) ?_); (· rfl); (· rfl); (· rfl); (· rfl); (· rfl)))
          go_roundw
          case rel => exact ⟨many M x, x, _, congrArg (Value.int .i64) (by omega), by omega, HO'.out.farRow hb7 _ _, HA'.out.farRow (by omega) _ _, HB'.out.putRow (by omega) (fun i hi => by rw [if_pos ⟨by omega, by omega⟩]; rfl), HBT.out (Or.inr ⟨heq.symm, hm⟩), HX'.out.setCells (by omega) _ _⟩
          case measure => rw [(HO'.out.farRow hb7 0 (mkRow 5 (ints x)).toList).left, ← hov3.left]; exact HLS.out
        · have hc : decide (0 < cmp5 x k) = false := by
            have := mt cmp5_pos.1 hm
            simpa using this
          go_wp2
          refine wp_region_grown (by kernel_rfl) (by kernel_rfl) ?_; (repeat (go_big_quiet_step ((go_at_call 56; exact quietS (HCM.out _))))); refine wpQuiet_nil ?_; rintro _ ⟨dq, rfl⟩
          go_wp2
          go_roundw
          case rel => exact ⟨q, k, _, rfl, hq, HO.out.x (xe_ext _ dq), HA.out.x (xe_ext _ dq), HB.out.x (xe_ext _ dq), HST.out (Or.inr ⟨heq.symm, hm⟩), HX.out.trans (xe_ext _ dq)⟩
          case measure => rw [(HO.out.x (xe_ext w7 dq)).left, ← hov3.left]; exact HLS.out
      · have hgt1 : decide (q < many M x) = false := by simp; omega
        have hgt3 : (many M x == q) = false := by simp; omega
        have hgt4 : decide (many M x = q) = false := by simp; omega
        have hgt2 : (((many M x : Nat) : Int) == q) = false := by simp; omega
        go_wp2
        refine wp_region_grown (by kernel_rfl) (by kernel_rfl) ?_; (repeat (go_big_quiet_step (fail))); refine wpQuiet_nil ?_; rintro _ ⟨dq, rfl⟩
        go_wp2
        go_roundw
        case rel => exact ⟨q, k, _, rfl, hq, HO.out.x (xe_ext _ dq), HA.out.x (xe_ext _ dq), HB.out.x (xe_ext _ dq), HST.out (Or.inl hgt), HX.out.trans (xe_ext _ dq)⟩
        case measure => rw [(HO.out.x (xe_ext w7 dq)).left, ← hov3.left]; exact HLS.out
end Go.Proofs.YtkcambhojpafkaaDoor
