/- Layer 15: a share of its own, a book of its own, and the example. -/
import Derived.Test.YtkcambhojpafkaaDoorS12
import Derived.Test.YtkcambhojpafkaaDoorS7
import Derived.Test.YtkcambhojpafkaaDoorS8
import Derived.Test.YtkcambhojpafkaaDoorS9
set_option linter.unusedSimpArgs false
set_option linter.unusedVariables false
namespace Go.Proofs.YtkcambhojpafkaaDoor
open Go Go.RowKit

theorem shareNew_any (h : Nat) (w : World) (hs : SheetAt w h) : Calls Tryd.prog 48 #[.pointer (some ⟨h, 0, none⟩)] w (RetP (fun w' b => ShareAt w' b h) w) := by
  have HS := Lib.hid hs; clear hs
  go_enter Tryd.func48, Tryd.ntmps48
  go_wp2
  have hc : Cells (w.alloc (.cells #[.pointer (some ⟨h, 0, none⟩)] 47)) w.heap.size 1 (fun _ => .pointer (some ⟨h, 0, none⟩)) := .made rfl fun j hj => by
    obtain rfl : j = 0 := by omega
    rfl
  refine bodyPost_ret (results_tmp rfl _ _ _) rfl ⟨w.heap.size, rfl, Nat.le_refl _, ⟨hc.cell 0 (by omega), HS.out.x (by repeat (first | exact XE.refl _ | apply XE.ext | apply XE.alloc | apply XE.drew | apply XE.drewN))⟩, (by repeat (first | exact XE.refl _ | apply XE.ext | apply XE.alloc | apply XE.drew | apply XE.drewN))⟩

theorem fresh_any (w : World) : Calls Tryd.prog 13 #[] w (RetP (fun w' b => ∃ h, ShareAt w' b h) w) := by
  go_enter Tryd.func13, Tryd.ntmps13
  go_wp2_with (first
    | (go_at_call 50; (with_reducible refine (tableNew_any _).mono ?_); rintro e w1 ⟨tb, rfl, hb1, ht, hx1⟩)
    | (go_at_call 49; (with_reducible refine (costNew_any _ _ ht).mono ?_); rintro e w2 ⟨h, rfl, hb2, hs, hx2⟩)
    | (go_at_call 48; (with_reducible refine (shareNew_any _ _ hs).mono ?_); rintro e w3 ⟨b, rfl, hb3, hsh, hx3⟩))
  have hz1 := hx1.size
  have hz2 := hx2.size
  refine bodyPost_ret (results_tmp rfl _ _ _) rfl ⟨b, rfl, by omega, ⟨h, hsh⟩, hx1.trans (hx2.trans hx3)⟩

theorem countNew_any (w : World) : Calls Tryd.prog 21 #[] w (RetP (fun w' b => ∃ m, w.heap.size ≤ m ∧ BookAt w' b m) w) := by
  have hmk : ∀ t, (Instr.makeMap t none).run Tryd.prog w = .ok (.map (some w.heap.size)) (w.alloc (.map #[] 0)) := fun t => run_makeMap t w
  go_enter Tryd.func21, Tryd.ntmps21
  go_wp2
  have hc : Cells ((w.alloc (.map #[] 0)).alloc (.cells #[.map (some w.heap.size)] 120)) (w.heap.size + 1) 1 (fun _ => .map (some w.heap.size)) := by
    have := Cells.made (w := w.alloc (.map #[] 0)) (cs := #[.map (some w.heap.size)]) (t := 120) (n := 1) (g := fun _ => .map (some w.heap.size)) rfl fun j hj => by
      obtain rfl : j = 0 := by omega
      rfl
    rwa [World.size_alloc] at this
  have hm : ((w.alloc (.map #[] 0)).alloc (.cells #[.map (some w.heap.size)] 120)).heap[w.heap.size]? = some (mapObj 2 [] 0) := (XE.refl _).alloc _ |>.obj (heap_alloc_new _ _)
  refine bodyPost_ret (results_tmp rfl _ _ _) rfl ⟨w.heap.size + 1, rfl, by omega, ⟨w.heap.size, Nat.le_refl _, hc.cell 0 (by omega), [], 0, hm, by intro e he; simp at he⟩, (by repeat (first | exact XE.refl _ | apply XE.ext | apply XE.alloc | apply XE.drew | apply XE.drewN))⟩

def lit5 (a b c d e : Int) (j : Nat) : Int := [a, b, c, d, e].getD j 0
theorem eq_lit5 {k : Nat → Int} {a b c d e : Int} (h : same5 k (lit5 a b c d e)) (w : World) :
    (Op.equalIn 10000 25 (.agg (row5 k)) (.agg #[.int .i64 a, .int .i64 b, .int .i64 c, .int .i64 d, .int .i64 e])).run Tryd.prog w = .ok true w := eq_five h w
theorem newLog_at (w : World) : LogAt (w.alloc (.map #[] 0)) w.heap.size [] := ⟨[], 0, ⟨heap_alloc_new _ _, by intro e he; simp at he⟩, Told.nil⟩
end Go.Proofs.YtkcambhojpafkaaDoor
