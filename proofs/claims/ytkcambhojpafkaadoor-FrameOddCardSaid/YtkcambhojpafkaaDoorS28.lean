/- Layer 16's example: the head of a silent frame, through the job. -/
import Derived.Test.YtkcambhojpafkaaDoorS27
import Derived.Test.YtkcambhojpafkaaDoorS13
set_option linter.unusedSimpArgs false
set_option linter.unusedVariables false
namespace Go.Proofs.YtkcambhojpafkaaDoor
open Go Go.RowKit

theorem Turn.own {R : Nat → Prop} {w0 w w' : World} (ht : Turn R w w') (hx : XE w0 w) (hR : ∀ k, R k → w0.heap.size ≤ k) : XE w0 w' := .of_below
  ⟨ht.os.trans hx.below.os, ht.tape.trans hx.below.tape, ht.output.trans hx.below.output, Nat.le_trans hx.size ht.size, fun k hk => (ht.block k (Nat.lt_of_lt_of_le hk hx.size) (fun h => by have := hR k h; omega)).trans (hx.heap hk)⟩
theorem Turn.refl (R : Nat → Prop) (w : World) : Turn R w w := ⟨rfl, rfl, rfl, Nat.le_refl _, fun _ _ _ => rfl⟩
theorem Turn.trans {R : Nat → Prop} {a b c : World} (h : Turn R a b) (k : Turn R b c) : Turn R a c :=
  ⟨k.os.trans h.os, k.tape.trans h.tape, k.output.trans h.output, Nat.le_trans h.size k.size, fun i hi hm => (k.block i (Nat.lt_of_lt_of_le hi h.size) hm).trans (h.block i hi hm)⟩
theorem Turn.of_x (R : Nat → Prop) {a b : World} (h : XE a b) : Turn R a b := ⟨h.below.os, h.below.tape, h.below.output, h.size, fun _ hi _ => h.heap hi⟩
theorem Turn.of_o {R : Nat → Prop} {m : Nat} {a b : World} (h : XO m a b) (hm : R m) : Turn R a b := ⟨h.os, h.tape, h.output, h.size, fun k hk hr => h.block k hk (fun e => hr (by rw [e]; exact hm))⟩
theorem Turn.set {R : Nat → Prop} {a b : World} (h : Turn R a b) {x : Addr} (hx : R x.block) (v : Value) : Turn R a (b.setCell x v) :=
  ⟨h.os, h.tape, h.output, by simpa using h.size, fun k hk hr => by rw [Below.heap_setCell b _ v k (fun e => hr (by rw [e]; exact hx))]; exact h.block k hk hr⟩
theorem ReadAt.far {w : World} {r : Nat} {s : RS} {n : Nat} {bs : Nat → Int} (h : ReadAt w r s n bs) {x : Addr} (hx : x.block ≠ r) (hb : ∀ a cp b o, s.sl = .slice a n cp → a = some ⟨b, o, none⟩ → x.block ≠ b) (v : Value) : ReadAt (w.setCell x v) r s n bs := by
  refine ⟨h.cells.far hx v, ?_⟩
  obtain ⟨a, cp, e1, e2, e3, e4⟩ := h.bytes
  refine ⟨a, cp, e1, e2, e3, fun y hy => ?_⟩
  obtain ⟨b, o, f1, f2, f3⟩ := e4 y hy
  refine ⟨b, o, f1, f2, fun i hi => ?_⟩
  rw [World.cell?_setCell_other w _ _ v (fun e => hb a cp b o e1 (by rw [hy, f1]) (by rw [e]))]; exact f3 i hi

/-- The job of the example. -/
def jobC (fr : Nat → Value) (r : Nat) (tl : Value) (bad : Bool) (j : Nat) : Value :=
  if j < 94 then fr j else if j = 94 then .int .i64 0 else if j = 95 then .int .i64 1 else if j = 96 then .pointer (some ⟨r, 0, none⟩) else if j = 97 then tl else if j < 108 then .int .i64 0 else .bool bad
def RetJ (r jb : Nat) (fr : Nat → Value) (tl sl : Value) (bs : Nat → Int) (v : Value) (w : World) (e : Ending) (w' : World) : Prop :=
  e = .returned v ∧ Cells w' jb 109 (jobC fr r tl false) ∧ Cells w' r 5 (exR sl 524288 0).cell ∧ Turn (fun k => k = r ∨ k = jb) w w'
set_option maxRecDepth 100000 in
set_option maxHeartbeats 1000000 in
theorem jobUint_any (r jb : Nat) (fr : Nat → Value) (tl sl : Value) (bs : Nat → Int) (w : World) (hj : Cells w jb 109 (jobC fr r tl false)) (hr : ReadAt w r (exR sl 16777216 524288) 4 bs) (hne : jb ≠ r) :
    Calls Tryd.prog 77 #[.pointer (some ⟨jb, 0, none⟩), .int .i64 32] w (RetJ r jb fr tl sl bs (.int .i64 1) w) := by
  have q1 : w.cell? ⟨jb, 96, none⟩ = some (.pointer (some ⟨r, 0, none⟩)) := hj.cell 96 (by omega)
  have HJ := Lib.hid hj; have HR := Lib.hid hr
  clear hj hr
  go_enter Tryd.func77, Tryd.ntmps77
  go_upto_region 2 with (go_at_call 106; (with_reducible refine (uint32_any _ _ _ _ HR.out).mono ?_); rintro e w2 ⟨rfl, hr2, hx2⟩)
  have hj2 := hx2.cells HJ.out hne
  have q2 : w2.cell? ⟨jb, 108, none⟩ = some (.bool false) := hj2.cell 108 (by omega)
  have f2 := hj2.free 108 (by omega)
  have hj3 := hj2.put (j := 108) (by omega) (.bool false) (h := jobC fr r tl false) (fun i hi => by
    by_cases e : i = 108
    · rw [if_pos e, e]; rfl
    · rw [if_neg e])
  have hr3 := hr2.cells.far (a := ⟨jb, 108, none⟩) hne (.bool false)
  have HJ3 := Lib.hid hj3; have HR3 := Lib.hid hr3; have HT := Lib.hid ((Turn.of_o (R := fun k => k = r ∨ k = jb) hx2 (Or.inl rfl)).set (x := ⟨jb, 108, none⟩) (Or.inr rfl) (.bool false))
  clear hj2 hj3 hr2 hr3 hx2 q1
  go_wp2
  go_ret
  exact ⟨rfl, HJ3.out, HR3.out, HT.out⟩

/-- A silent frame. -/
def frameS (j : Nat) : Value := if j = 0 then .bool true else frame0 j
theorem jobC_put {fr fr' : Nat → Value} {r : Nat} {tl : Value} {bad : Bool} {j : Nat} (hj : j < 94) {v : Value} (h : ∀ i, i < 94 → (if i = j then v else fr i) = fr' i) (i : Nat) : (if i = j then v else jobC fr r tl bad i) = jobC fr' r tl bad i := by
  unfold jobC
  by_cases hi : i < 94
  · rw [if_pos hi, if_pos hi]; exact h i hi
  · rw [if_neg hi, if_neg hi, if_neg (by omega)]
set_option maxRecDepth 100000 in
set_option maxHeartbeats 1000000 in
theorem jobHead_any (r jb : Nat) (tl sl : Value) (bs : Nat → Int) (w : World) (hj : Cells w jb 109 (jobC frame0 r tl false)) (hr : ReadAt w r (exR sl 16777216 524288) 4 bs) (hne : jb ≠ r) :
    Calls Tryd.prog 76 #[.pointer (some ⟨jb, 0, none⟩)] w (RetJ r jb frameS tl sl bs (.tuple #[]) w) := by
  have HJ := Lib.hid hj; have HR := Lib.hid hr
  clear hj hr
  go_enter Tryd.func76, Tryd.ntmps76
  go_upto_region 1 with (go_at_call 77; (with_reducible refine (jobUint_any _ _ _ _ _ _ _ HJ.out HR.out hne).mono ?_); rintro e w2 ⟨rfl, hj2, hr2, hx2⟩)
  have q2 : w2.cell? ⟨jb, 108, none⟩ = some (.bool false) := hj2.cell 108 (by omega)
  have f2 := hj2.free 108 (by omega)
  have hj3 := hj2.put (j := 108) (by omega) (.bool false) (h := jobC frame0 r tl false) (fun i hi => by
    by_cases e : i = 108
    · rw [if_pos e, e]; rfl
    · rw [if_neg e])
  have hr3 := hr2.far (a := ⟨jb, 108, none⟩) hne (.bool false)
  have ht3 := hx2.set (x := ⟨jb, 108, none⟩) (Or.inr rfl) (.bool false)
  have HJ3 := Lib.hid hj3; have HR3 := Lib.hid hr3; have HT3 := Lib.hid ht3
  clear hj2 hj3 hr2 hr3 hx2 ht3
  go_upto_region 2 with (fail)
  generalize w2.setCell ⟨jb, 108, none⟩ (.bool false) = w3 at *
  have q3 : w3.cell? ⟨jb, 0, none⟩ = some (.bool false) := HJ3.out.cell 0 (by omega)
  have f3 := HJ3.out.free 0 (by omega)
  have b1 : bits .and .i64 1 1 = 1 := by decide
  have b0 : bits .and .i64 0 1 = 0 := by decide
  go_upto_region 3 with (fail)
  have hj4 := HJ3.out.put (j := 0) (by omega) (.bool true) (h := jobC frameS r tl false) (fun i _ => jobC_put (fr := frame0) (by omega) (fun i hi => by
    by_cases e : i = 0
    · rw [if_pos e, e]; rfl
    · rw [if_neg e]
      try (unfold frameS; rw [if_neg e])) i)
  have hr4 := HR3.out.far (a := ⟨jb, 0, none⟩) hne (.bool true)
  have ht4 := HT3.out.set (x := ⟨jb, 0, none⟩) (Or.inr rfl) (.bool true)
  have HJ4 := Lib.hid hj4; have HR4 := Lib.hid hr4; have HT4 := Lib.hid ht4
  clear hj4 hr4 ht4
  generalize w3.setCell ⟨jb, 0, none⟩ (.bool true) = w4 at *
  have q4 : w4.cell? ⟨jb, 1, none⟩ = some (.bool false) := HJ4.out.cell 1 (by omega)
  have f4 := HJ4.out.free 1 (by omega)
  go_upto_region 4 with (fail)
  have hj5 := HJ4.out.put (j := 1) (by omega) (.bool false) (h := jobC frameS r tl false) (fun i _ => jobC_put (fr := frameS) (by omega) (fun i hi => by
    by_cases e : i = 1
    · rw [if_pos e, e]; rfl
    · rw [if_neg e]
      try (unfold frameS; rw [if_neg e])) i)
  have hr5 := HR4.out.far (a := ⟨jb, 1, none⟩) hne (.bool false)
  have ht5 := HT4.out.set (x := ⟨jb, 1, none⟩) (Or.inr rfl) (.bool false)
  have HJ5 := Lib.hid hj5; have HR5 := Lib.hid hr5; have HT5 := Lib.hid ht5
  clear hj5 hr5 ht5
  generalize w4.setCell ⟨jb, 1, none⟩ (.bool false) = w5 at *
  have q5 : w5.cell? ⟨jb, 2, none⟩ = some (.int .i64 0) := HJ5.out.cell 2 (by omega)
  have f5 := HJ5.out.free 2 (by omega)
  go_wp2
  have hj6 := HJ5.out.put (j := 2) (by omega) (.int .i64 0) (h := jobC frameS r tl false) (fun i _ => jobC_put (fr := frameS) (by omega) (fun i hi => by
    by_cases e : i = 2
    · rw [if_pos e, e]; rfl
    · rw [if_neg e]
      try (unfold frameS; rw [if_neg e])) i)
  have hr6 := HR5.out.far (a := ⟨jb, 2, none⟩) hne (.int .i64 0)
  have ht6 := HT5.out.set (x := ⟨jb, 2, none⟩) (Or.inr rfl) (.int .i64 0)
  have HJ6 := Lib.hid hj6; have HR6 := Lib.hid hr6; have HT6 := Lib.hid ht6
  clear hj6 hr6 ht6
  generalize w5.setCell ⟨jb, 2, none⟩ (.int .i64 0) = w6 at *
  refine bodyPost_end (results_none rfl _ _ _) rfl ⟨rfl, HJ6.out, HR6.out, HT6.out⟩
end Go.Proofs.YtkcambhojpafkaaDoor
