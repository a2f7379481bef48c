/- Layer 15's log: the result that came most often: slices.Compare at five numbers; ranges over a map of plain keys; the walk of Most. -/
import Derived.Test.YtkcambhojpafkaaDoorS10
import Derived.Test.YtkcambhojpafkaaDoorShelf
import Derived.Maps.RangeWalk
set_option linter.unusedSimpArgs false
set_option linter.unusedVariables false
namespace Go.Proofs.YtkcambhojpafkaaDoor
open Go Go.RowKit

/-! ### More, of five numbers -/
def more5 (a c : Nat → Int) : Prop := ∃ j, j < 5 ∧ (∀ i, i < j → a i = c i) ∧ c j < a j
open Classical in
/-- What slices.Compare tells of two rows of five. -/
noncomputable def cmp5 (a c : Nat → Int) : Int := if more5 a c then 1 else if same5 a c then 0 else -1
theorem cmp5_pos {a c : Nat → Int} : 0 < cmp5 a c ↔ more5 a c := by unfold cmp5; split <;> (try split) <;> simp_all
theorem cmp5_bd (a c : Nat → Int) : -1 ≤ cmp5 a c ∧ cmp5 a c ≤ 1 := by unfold cmp5; split <;> (try split) <;> simp
theorem more5_same {a c : Nat → Int} (h : same5 a c) : ¬ more5 a c := by rintro ⟨j, hj, -, hl⟩; have := h j hj; omega
theorem more5_congr {a a' c c' : Nat → Int} (h : same5 a a') (h' : same5 c c') : more5 a c ↔ more5 a' c' := by
  unfold more5
  constructor
  · rintro ⟨j, hj, h1, h2⟩; exact ⟨j, hj, fun i hi => by rw [← h i (by omega), ← h' i (by omega)]; exact h1 i hi, by rw [← h j hj, ← h' j hj]; exact h2⟩
  · rintro ⟨j, hj, h1, h2⟩; exact ⟨j, hj, fun i hi => by rw [h i (by omega), h' i (by omega)]; exact h1 i hi, by rw [h j hj, h' j hj]; exact h2⟩
theorem more5_first {a c : Nat → Int} {n : Nat} (hn : n < 5) (he : ∀ i, i < n → a i = c i) (hne : a n ≠ c n) : more5 a c ↔ c n < a n := by
  constructor
  · rintro ⟨j, hj, h1, h2⟩
    rcases Nat.lt_trichotomy j n with h | h | h
    · have := he j h; omega
    · subst h; exact h2
    · exact absurd (h1 n h) hne
  · intro h; exact ⟨n, hn, he, h⟩
theorem more5_trans {a b c : Nat → Int} (h : more5 a b) (k : more5 b c) : more5 a c := by
  obtain ⟨i, hi, h1, h2⟩ := h
  obtain ⟨j, hj, k1, k2⟩ := k
  rcases Nat.lt_trichotomy i j with e | e | e
  · exact ⟨i, hi, fun q hq => (h1 q hq).trans (k1 q (by omega)), by rw [← k1 i e]; exact h2⟩
  · subst e; exact ⟨i, hi, fun q hq => (h1 q hq).trans (k1 q hq), by omega⟩
  · exact ⟨j, hj, fun q hq => (h1 q (by omega)).trans (k1 q hq), by rw [h1 j e]; exact k2⟩
theorem more5_total (a c : Nat → Int) : more5 a c ∨ same5 a c ∨ more5 c a := by
  by_cases hs : same5 a c
  · exact Or.inr (Or.inl hs)
  · have : ∃ n, n < 5 ∧ a n ≠ c n ∧ ∀ i, i < n → a i = c i := by
      unfold same5 at hs
      by_cases h0 : a 0 = c 0
      · by_cases h1 : a 1 = c 1
        · by_cases h2 : a 2 = c 2
          · by_cases h3 : a 3 = c 3
            · refine ⟨4, by omega, fun h4 => hs fun j hj => ?_, fun i hi => ?_⟩
              · have : j = 0 ∨ j = 1 ∨ j = 2 ∨ j = 3 ∨ j = 4 := by omega
                rcases this with rfl | rfl | rfl | rfl | rfl <;> assumption
              · have : i = 0 ∨ i = 1 ∨ i = 2 ∨ i = 3 := by omega
                rcases this with rfl | rfl | rfl | rfl <;> assumption
            · refine ⟨3, by omega, h3, fun i hi => ?_⟩
              have : i = 0 ∨ i = 1 ∨ i = 2 := by omega
              rcases this with rfl | rfl | rfl <;> assumption
          · refine ⟨2, by omega, h2, fun i hi => ?_⟩
            have : i = 0 ∨ i = 1 := by omega
            rcases this with rfl | rfl <;> assumption
        · exact ⟨1, by omega, h1, fun i hi => by obtain rfl : i = 0 := by omega
                                                 exact h0⟩
      · exact ⟨0, by omega, h0, fun i hi => by omega⟩
    obtain ⟨n, hn, hne, he⟩ := this
    by_cases hl : c n < a n
    · exact Or.inl ⟨n, hn, he, hl⟩
    · exact Or.inr (Or.inr ⟨n, hn, fun i hi => (he i hi).symm, by omega⟩)
theorem cmp5_first {a c : Nat → Int} {n : Nat} (hn : n < 5) (he : ∀ i, i < n → a i = c i) (hne : a n ≠ c n) : cmp5 a c = Lib.compareInt (a n) (c n) := by
  have hm := more5_first hn he hne
  have hs : ¬ same5 a c := fun h => hne (h n hn)
  unfold cmp5 Lib.compareInt
  by_cases hl : c n < a n
  · rw [if_pos (hm.2 hl), if_neg (by omega), if_pos hl]
  · rw [if_neg (fun h => hl (hm.1 h)), if_neg hs, if_pos (by omega)]
theorem cmp5_same {a c : Nat → Int} (h : same5 a c) : cmp5 a c = 0 := by unfold cmp5; rw [if_neg (more5_same h), if_pos h]

set_option maxHeartbeats 1000000 in
theorem compare_any (a c : Nat → Int) (b d : Nat) (w : World) (ha : ∀ j, j < 5 → w.cell? ⟨b, j, none⟩ = some (.int .i64 (a j))) (hc : ∀ j, j < 5 → w.cell? ⟨d, j, none⟩ = some (.int .i64 (c j))) :
    Calls Tryd.prog 56 #[.slice (some ⟨b, 0, none⟩) 5 5, .slice (some ⟨d, 0, none⟩) 5 5] w (RetS (.int .i64 (cmp5 a c)) w) := by
  have HA := Lib.hid ha; clear ha
  have HC := Lib.hid hc; clear hc
  go_enter Tryd.func56, Tryd.ntmps56
  go_wp2
  go_loopw [11] (fun i wr => ∃ n : Nat, n ≤ 5 ∧ i = .int .i64 n ∧ (∀ j, j < n → a j = c j) ∧ wr = w) (fun i _ => 5 - (intOf i).toNat)
  case atStart => exact ⟨0, by omega, rfl, by omega, rfl⟩
  case round =>
    obtain ⟨n, hn, rfl, he, rfl⟩ := hrel
    have HE := Lib.hid he; clear he
    by_cases hlt : n < 5
    · have c1 := HA.out n hlt
      have c2 := HC.out n hlt
      by_cases hne : a n = c n
      · have h0 : Lib.compareInt (a n) (c n) = 0 := by unfold Lib.compareInt; rw [if_neg (by omega), if_neg (by omega)]
        have hq := Tryd.cmp_Compare_int (a n) (c n) wr
        rw [h0] at hq
        clear h0
        have HQ := Lib.hid hq; clear hq
        have HNE := Lib.hid hne; clear hne
        go_wp2_with (go_at_call 88; (with_reducible refine (HQ.out).mono ?_); rintro e w' ⟨rfl, hw'⟩; obtain rfl := hw'.symm)
        go_roundw
        case rel => exact ⟨n + 1, by omega, by go_num, fun j hj => by
          rcases Nat.lt_or_ge j n with h | h
          · exact HE.out j h
          · obtain rfl : j = n := by omega
            exact HNE.out, by first | rfl | trivial⟩
        case measure => simp [intOf]; omega
      · have h0 : Lib.compareInt (a n) (c n) ≠ 0 := by unfold Lib.compareInt; split <;> (try split) <;> omega
        have h5 := cmp5_first hlt HE.out hne
        have hq := Tryd.cmp_Compare_int (a n) (c n) wr
        have h0' : (Lib.compareInt (a n) (c n) == 0) = false := by simpa using h0
        rw [← h5] at hq h0'
        clear h0 h5 hne
        have HQ := Lib.hid hq; clear hq
        go_wp2_with (go_at_call 88; (with_reducible refine (HQ.out).mono ?_); rintro e w' ⟨rfl, hw'⟩; obtain rfl := hw'.symm)
        go_ret
        exact ⟨rfl, rfl⟩
    · obtain rfl : n = 5 := by omega
      go_wp2
      go_ret
      exact ⟨ri (cmp5_same HE.out).symm, rfl⟩

/-! ### A range over a map of plain keys, under way -/
structure Over (w : World) (m r n : Nat) (ls : List Leaf) (L : List Ent) (c : Nat) (seen : Array Nat) : Prop where
  map : MapAt w m n ls L c
  iter : w.heap[r]? = some (.mapIter (some m) c seen c)
theorem Over.lt {w : World} {m r n : Nat} {ls : List Leaf} {L : List Ent} {c : Nat} {seen : Array Nat} (h : Over w m r n ls L c seen) : r < w.heap.size := lt_of_some w h.iter
theorem Over.ne {w : World} {m r n : Nat} {ls : List Leaf} {L : List Ent} {c : Nat} {seen : Array Nat} (h : Over w m r n ls L c seen) : r ≠ m := by
  intro e
  have h1 := h.map.obj
  rw [← e, h.iter] at h1
  cases h1
theorem Over.x {w w' : World} {m r n : Nat} {ls : List Leaf} {L : List Ent} {c : Nat} {seen : Array Nat} (h : Over w m r n ls L c seen) (hx : XE w w') : Over w' m r n ls L c seen := ⟨h.map.x hx, hx.obj h.iter⟩
/-- Blocks that are neither the map nor the iterator may be written. -/
theorem Over.of_block {w w' : World} {m r n : Nat} {ls : List Leaf} {L : List Ent} {c : Nat} {seen : Array Nat} (h : Over w m r n ls L c seen) (h1 : w'.heap[m]? = w.heap[m]?) (h2 : w'.heap[r]? = w.heap[r]?) : Over w' m r n ls L c seen :=
  ⟨⟨h1.trans h.map.obj, h.map.fit⟩, h2.trans h.iter⟩
def unseen (L : List Ent) (seen : Array Nat) : Nat := (L.filter fun e => !seen.contains e.born).length
/-- How many entries are still to come. -/
def iterLeft (L : List Ent) (w : World) (r : Nat) : Nat := match w.heap[r]? with
  | some (.mapIter _ _ seen _) => unseen L seen
  | _ => 0
theorem Over.left {w : World} {m r n : Nat} {ls : List Leaf} {L : List Ent} {c : Nat} {seen : Array Nat} (h : Over w m r n ls L c seen) : iterLeft L w r = unseen L seen := by unfold iterLeft; rw [h.iter]
theorem contains_push' (seen : Array Nat) (a b : Nat) : (seen.push a).contains b = (seen.contains b || b == a) := by
  exact contains_push seen a b
theorem unseen_push {L : List Ent} {seen : Array Nat} {e : Ent} (he : e ∈ L) (hs : seen.contains e.born = false) : unseen L (seen.push e.born) < unseen L seen := by
  unfold unseen
  have key : ∀ (L : List Ent), (L.filter fun x => !(seen.push e.born).contains x.born).length ≤ (L.filter fun x => !seen.contains x.born).length ∧
      (e ∈ L → (L.filter fun x => !(seen.push e.born).contains x.born).length < (L.filter fun x => !seen.contains x.born).length) := by
    intro L
    induction L with
    | nil => simp
    | cons a L ih =>
      have hc := contains_push' seen e.born a.born
      simp only [List.filter_cons, hc, List.mem_cons]
      by_cases hsa : seen.contains a.born = true
      · simp only [hsa, Bool.true_or, Bool.not_true, Bool.false_eq_true, if_false]
        exact ⟨ih.1, fun h => by
          rcases h with rfl | h
          · rw [hs] at hsa; cases hsa
          · exact ih.2 h⟩
      · have hsa' : seen.contains a.born = false := by simpa using hsa
        simp only [hsa', Bool.false_or, Bool.not_false, if_true, List.length_cons]
        by_cases hae : a.born = e.born
        · simp only [hae, beq_self_eq_true, Bool.not_true, Bool.false_eq_true, if_false]
          exact ⟨by omega, fun _ => by omega⟩
        · have : (a.born == e.born) = false := by simpa using hae
          simp only [this, Bool.not_false, if_true, List.length_cons]
          exact ⟨by omega, fun h => by
            rcases h with rfl | h
            · exact absurd rfl hae
            · have := ih.2 h; omega⟩
  exact (key L).2 he

theorem mem_entOf {n : Nat} {L : List Ent} {x : MapEntry} (h : x ∈ (L.map (entOf n)).toArray.toList) : ∃ e ∈ L, entOf n e = x := by simpa using h
/-- 'next': either nothing is left, or some entry that has not been seen comes, whichever the tape says. -/
theorem Over.next {P : Program} {w : World} {m r n : Nat} {ls : List Leaf} {L : List Ent} {c : Nat} {seen : Array Nat} (h : Over w m r n ls L c seen) (hold : ∀ e ∈ L, e.born < c) (hn : (L.map (·.born)).Nodup) :
    ((∀ e ∈ L, seen.contains e.born = true) ∧ ∀ ty, (Instr.next (.pointer (some ⟨r, 0, none⟩)) false ty).run P w = .ok (.tuple #[.bool false]) w) ∨
    ∃ e ∈ L, seen.contains e.born = false ∧ ∃ w', (∀ ty, (Instr.next (.pointer (some ⟨r, 0, none⟩)) false ty).run P w = .ok (.tuple #[.bool true, .agg (mkRow n e.key), e.val]) w') ∧
      Over w' m r n ls L c (seen.push e.born) ∧ XO r w w' ∧ w'.heap.size = w.heap.size ∧ (Instr.entry (.pointer (some ⟨r, 0, none⟩))).run P w' = .ok (.tuple #[.agg (mkRow n e.key), e.val]) w' := by
  have hm : w.heap[m]? = some (.map (L.map (entOf n)).toArray c) := h.map.obj
  rcases run_next_at (P := P) w 0 r m c c seen _ c h.iter hm (fun x hx => by obtain ⟨e, he, rfl⟩ := mem_entOf hx; exact hold e he) (Nat.le_refl _) with ⟨h0, hrun⟩ | ⟨x, hx, w1, hal, hrun⟩
  · refine Or.inl ⟨fun e he => ?_, fun ty => hrun⟩
    cases hc : seen.contains e.born with
    | true => rfl
    | false =>
      have : entOf n e ∈ leftOf (L.map (entOf n)).toArray seen := by
        unfold leftOf
        rw [Array.mem_filter]
        exact ⟨by simpa using ⟨e, he, rfl⟩, by show (!seen.contains e.born) = true; rw [hc]; rfl⟩
      rw [Array.eq_empty_of_size_eq_zero h0] at this
      simp at this
  · obtain ⟨hxm, hxs⟩ := mem_left hx
    obtain ⟨e, he, rfl⟩ := mem_entOf hxm
    have hr1 : w1.heap[r]? = some (.mapIter (some m) c seen c) := by rcases hal with rfl | rfl <;> exact h.iter
    have hm1 : w1.heap[m]? = some (.map (L.map (entOf n)).toArray c) := by rcases hal with rfl | rfl <;> exact hm
    have hsz : w1.heap.size = w.heap.size := by rcases hal with rfl | rfl <;> rfl
    have hne := h.ne
    have hr2 : (putObj w1 r (.mapIter (some m) c (seen.push e.born) c)).heap[r]? = some (.mapIter (some m) c (seen.push (entOf n e).born) c) := putObj_same _ (lt_of_some w1 hr1)
    have hm2 : (putObj w1 r (.mapIter (some m) c (seen.push e.born) c)).heap[m]? = some (.map (L.map (entOf n)).toArray c) := (putObj_other _ (Ne.symm hne)).trans hm1
    refine Or.inr ⟨e, he, hxs, putObj w1 r (.mapIter (some m) c (seen.push e.born) c), fun ty => hrun, ⟨⟨hm2, h.map.fit⟩, hr2⟩, ?_, by rw [size_putObj, hsz], ?_⟩
    · have : XO r w w1 := by
        rcases hal with rfl | rfl
        · exact XO.refl _ _
        · exact XO.of_x r ((XE.refl w).drew)
      exact this.put _
    · exact run_entry_at (P := P) _ r m c seen _ c (entOf n e) hr2 hm2 hxm (by
        have : (L.map (entOf n)).toArray.toList.map (fun x => x.born) = L.map (·.born) := by simp [entOf, Function.comp_def]
        rw [this]; exact hn)

end Go.Proofs.YtkcambhojpafkaaDoor
