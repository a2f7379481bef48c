/- A block of one's own, known cell by cell; a part of a block read as one value. Over any program. -/
import Derived.Test.YtkcambhojpafkaaDoorB0
import Derived.Deep.MidRow
set_option linter.unusedSimpArgs false
set_option linter.unusedVariables false
namespace Go.Proofs.YtkcambhojpafkaaDoor
open Go Go.RowKit

/-- The first n cells of block b hold g 0, g 1, ..; none is frozen. -/
structure Cells (w : World) (b n : Nat) (g : Nat → Value) : Prop where
  cell : ∀ j, j < n → w.cell? ⟨b, j, none⟩ = some (g j)
  free : ∀ j, j < n → w.frozen? ⟨b, j, none⟩ = false

theorem Cells.congr {w : World} {b n : Nat} {g h : Nat → Value} (c : Cells w b n g) (e : ∀ j, j < n → g j = h j) : Cells w b n h :=
  ⟨fun j hj => by rw [← e j hj]; exact c.cell j hj, c.free⟩
theorem Cells.lt {w : World} {b n : Nat} {g : Nat → Value} (c : Cells w b n g) (h : 0 < n) : b < w.heap.size := World.block_lt_of_cell? w _ (c.cell 0 h)
theorem Cells.x {w w' : World} {b n : Nat} {g : Nat → Value} (c : Cells w b n g) (h : XE w w') : Cells w' b n g :=
  ⟨fun j hj => h.cell (c.cell j hj), fun j hj => by obtain ⟨d, rfl⟩ := h; rw [frozen?_ext w d _ (by rw [c.cell j hj]; rfl)]; exact c.free j hj⟩
theorem Cells.set {w : World} {b n : Nat} {g : Nat → Value} (c : Cells w b n g) {j : Nat} (hj : j < n) (v : Value) : Cells (w.setCell ⟨b, j, none⟩ v) b n (fun i => if i = j then v else g i) := by
  refine ⟨fun i hi => ?_, fun i hi => by rw [World.frozen?_setCell]; exact c.free i hi⟩
  by_cases h : i = j
  · subst h; simp only [if_true]; exact World.cell?_setCell_same w _ v (c.cell i hi)
  · simp only [h, if_false]; rw [World.cell?_setCell_other w _ _ v (by intro e; injection e with _ e2; exact h e2.symm)]; exact c.cell i hi
/-- .. and with the new state named. -/
theorem Cells.put {w : World} {b n : Nat} {g : Nat → Value} (c : Cells w b n g) {j : Nat} (hj : j < n) (v : Value) {h : Nat → Value} (e : ∀ i, i < n → (if i = j then v else g i) = h i) : Cells (w.setCell ⟨b, j, none⟩ v) b n h :=
  (c.set hj v).congr e
theorem Cells.far {w : World} {b n : Nat} {g : Nat → Value} (c : Cells w b n g) {a : Addr} (h : a.block ≠ b) (v : Value) : Cells (w.setCell a v) b n g :=
  ⟨fun j hj => by rw [World.cell?_setCell_other w _ _ v (by intro e; exact h (by rw [e]))]; exact c.cell j hj, fun j hj => by rw [World.frozen?_setCell]; exact c.free j hj⟩
theorem Cells.new (w : World) (cs : Array Value) (t : TypeId) : Cells (w.alloc (.cells cs t)) w.heap.size cs.size (fun j => cs.getD j undef) :=
  ⟨fun j hj => by rw [World.cell?_alloc_new]; simp [hj], fun j _ => World.frozen?_alloc_new w cs t j⟩
theorem Cells.le {w : World} {b n m : Nat} {g : Nat → Value} (c : Cells w b n g) (h : m ≤ n) : Cells w b m g := ⟨fun j hj => c.cell j (by omega), fun j hj => c.free j (by omega)⟩

theorem ite_int {c : Prop} [Decidable c] {k : IntKind} {x y z : Int} (h : (if c then x else y) = z) : (if c then Value.int k x else Value.int k y) = Value.int k z := by
  subst h; split <;> rfl
/-- The block that was made last holds what it was made of. -/
theorem Cells.made {w : World} {cs : Array Value} {t : TypeId} {n : Nat} {g : Nat → Value} (hn : cs.size = n) (h : ∀ j, j < n → cs[j]? = some (g j)) : Cells (w.alloc (.cells cs t)) w.heap.size n g := by
  subst hn
  exact (Cells.new w cs t).congr fun j hj => by rw [Array.getD_eq_getD_getElem?, h j hj]; rfl
/-- n values as a row, not laid open. -/
def mkRow (n : Nat) (g : Nat → Value) : Array Value := ((List.range n).map g).toArray
theorem mkRow_size (n : Nat) (g : Nat → Value) : (mkRow n g).size = n := by simp [mkRow]
theorem mkRow_get {n j : Nat} (g : Nat → Value) (h : j < n) : (mkRow n g)[j]? = some (g j) := by simp [mkRow, h]
theorem mkRow_congr {n : Nat} {g h : Nat → Value} (e : ∀ j, j < n → g j = h j) : mkRow n g = mkRow n h := by
  unfold mkRow; congr 1; exact List.map_congr_left fun j hj => e j (List.mem_range.1 hj)
section
variable {P : Program}
theorem add_none (b o j : Nat) : (⟨b, o, none⟩ : Addr).add j = ⟨b, o + j, none⟩ := by unfold Addr.add; split <;> simp_all

/-- n cells read as one value. -/
theorem run_loadVar_part {w : World} {b o n : Nat} {g : Nat → Value} {t : TypeId} {d : TypeDesc} (hc : ∀ j, j < n → w.cell? ⟨b, o + j, none⟩ = some (g j))
    (hu : P.underlying t = some d) (hd : (match d with | .struct _ | .array _ _ => true | _ => false) = true) (hi : (P.info? t).map (·.size) = some n) :
    (loadVar t ⟨b, o, none⟩).run P w = .ok (.agg (mkRow n g)) w := by
  unfold mkRow
  have hl : (loadCells ⟨b, o, none⟩ ((List.range n).map g).length).run P w = .ok ((List.range n).map g).toArray w :=
    run_loadCells_list (P := P) w ⟨b, o, none⟩ ((List.range n).map g) (fun j v hv => by
      rw [add_none]
      simp only [List.getElem?_map] at hv
      rcases Nat.lt_or_ge j n with h | h
      · rw [List.getElem?_range h] at hv
        simp at hv
        rw [hc j h, hv]
      · rw [List.getElem?_eq_none (by simpa using h)] at hv; simp at hv)
  cases hq : P.info? t with
  | none => simp [hq] at hi
  | some i =>
    have hs : i.size = n := by simpa [hq] using hi
    have hagg : (isAgg t).run P w = .ok true w := by
      unfold isAgg
      rw [Sem.run_bind, run_underlying hu w]
      cases d <;> simp_all
    simp only [List.length_map, List.length_range] at hl
    simp [loadVar, Sem.run_bind, hagg, sizeOf, typeInfo, hq, hs, hl]

theorem wpList_load_part {ops : Array Oper} {rest : List Oper} {o : Oper} {a : Act} {w : World} {Q : Exit → Act → World → Prop} (t : TypeId) (x : Operand) (ho : o.op = .load t x) (hgd : Region.wanted o (yielded ops a.tmps) = true)
    (b off n : Nat) (hx : a.eval x = .pointer (some ⟨b, off, none⟩)) (g : Nat → Value) (d : TypeDesc) (hc : ∀ j, j < n → w.cell? ⟨b, off + j, none⟩ = some (g j))
    (hu : P.underlying t = some d) (hd : (match d with | .struct _ | .array _ _ => true | _ => false) = true) (hi : (P.info? t).map (·.size) = some n)
    (h : wpList P ops Q rest (a.put o.dst (.agg (mkRow n g))) w) : wpList P ops Q (o :: rest) a w := by
  refine wpList_step fun K hK => ?_
  rw [if_pos hgd]
  unfold Oper.wp execOp
  simp only [ho, hx, Instr.loadAt, Instr.sureAddr, Sem.run_bind, Sem.run_pure, Result.andThen_ok, run_loadVar_part hc hu hd hi]
  exact hK _ _ h
/-! ### A row stored as one value -/
theorem Cells.putRow {w : World} {b n o m : Nat} {g f : Nat → Value} (c : Cells w b n g) (h : o + m ≤ n) {g' : Nat → Value} (e : ∀ i, i < n → (if o ≤ i ∧ i < o + m then f (i - o) else g i) = g' i) :
    Cells (w.setCells b o (mkRow m f).toList) b n g' := by
  have hl : (mkRow m f).toList.length = m := by rw [Array.length_toList, mkRow_size]
  refine ⟨fun j hj => ?_, fun j hj => by rw [World.frozen?_setCells]; exact c.free j hj⟩
  rw [← e j hj]
  by_cases hjo : o ≤ j ∧ j < o + m
  · rw [if_pos hjo]
    have := World.cell?_setCells_in b (mkRow m f).toList o w (fun i hi => by rw [c.cell _ (by omega)]; rfl) (j - o) (by omega)
    rw [show o + (j - o) = j by omega] at this
    rw [this]
    have hg := mkRow_get f (show j - o < m by omega)
    congr 1
    simp only [Array.getElem_toList]
    exact (Array.getElem?_eq_some_iff.1 hg).2
  · rw [if_neg hjo]
    rw [World.cell?_setCells_out b _ o w _ (fun _ _ => by simp only [hl]; omega)]
    exact c.cell j hj
theorem Cells.farRow {w : World} {b n : Nat} {g : Nat → Value} (c : Cells w b n g) {b' : Nat} (h : b' ≠ b) (o : Nat) (l : List Value) : Cells (w.setCells b' o l) b n g :=
  ⟨fun j hj => by rw [World.cell?_setCells_out b' l o w _ (fun e _ => absurd e.symm h)]; exact c.cell j hj, fun j hj => by rw [World.frozen?_setCells]; exact c.free j hj⟩
theorem below_setCells {B b : Nat} (hb : B ≤ b) : ∀ (l : List Value) (o : Nat) {w w' : World}, Below B w w' → Below B w (w'.setCells b o l)
  | [], _, _, _, h => h
  | v :: r, o, _, _, h => below_setCells hb r (o + 1) (h.setCell (p := ⟨b, o, none⟩) hb v)
theorem XE.setCells {w w' : World} (h : XE w w') {b : Nat} (hb : w.heap.size ≤ b) (o : Nat) (l : List Value) : XE w (w'.setCells b o l) := .of_below (below_setCells hb l o h.below)
@[simp, go_sem] theorem size_setCells (b : Nat) : ∀ (l : List Value) (o : Nat) (w : World), (w.setCells b o l).heap.size = w.heap.size
  | [], _, _ => rfl
  | v :: r, o, w => by rw [World.setCells, size_setCells b r]; simp

theorem wpList_store_part {ops : Array Oper} {rest : List Oper} {o : Oper} {a : Act} {w : World} {Q : Exit → Act → World → Prop} (t : TypeId) (x y : Operand) (ho : o.op = .store t x y) (hgd : o.guard = none) (hds : o.dst = none)
    (b off m : Nat) (f : Nat → Value) (hx : a.eval x = .pointer (some ⟨b, off, none⟩)) (hy : a.eval y = .agg (mkRow m f))
    {n : Nat} {g : Nat → Value} (hc : Cells w b n g) (hn : off + m ≤ n) (hi : (P.info? t).map (·.size) = some m) (h1 : ∀ j, j < m → (f j).oneCell' = true)
    (h : wpList P ops Q rest a (w.setCells b off (mkRow m f).toList)) : wpList P ops Q (o :: rest) a w :=
  wpList_store_mid hgd t x y ho b off (mkRow m f) hx hy (fun j hj => by
      rw [mkRow_size] at hj
      exact ⟨by rw [hc.cell _ (by omega)]; rfl, hc.free _ (by omega)⟩) (by rw [mkRow_size]; exact hi)
    (Array.all_eq_true_iff_forall_mem.2 fun v hv => by
      obtain ⟨j, hj⟩ := Array.getElem?_of_mem hv
      have hjm : j < m := by have := (Array.getElem?_eq_some_iff.1 hj).1; rwa [mkRow_size] at this
      rw [mkRow_get f hjm] at hj
      obtain rfl := Option.some.inj hj
      exact h1 j hjm) (by rw [hds]; exact h)
/-- A function's one result, that lies in memory: n cells. -/
theorem results_part {fn : Func} {p : Tmp} {t : TypeId} (h : fn.results = #[.cell p t]) (tmps : Array Value) (w : World) (b o n : Nat) (g : Nat → Value) {d : TypeDesc}
    (hp : tmps.getD p undef = .pointer (some ⟨b, o, none⟩)) (hc : ∀ j, j < n → w.cell? ⟨b, o + j, none⟩ = some (g j))
    (hu : P.underlying t = some d) (hd : (match d with | .struct _ | .array _ _ => true | _ => false) = true) (hi : (P.info? t).map (·.size) = some n) :
    (results fn tmps).run P w = .ok (.agg (mkRow n g)) w := by
  have hp' : tmps[p]?.getD undef = .pointer (some ⟨b, o, none⟩) := by simpa using hp
  simp [results, h, hp', asAddr, run_loadVar_part hc hu hd hi]

/-- An array of plain cells, held as a value: its element i. -/
theorem run_index_row {t e : TypeId} {m : Nat} {d : TypeDesc} {k : IntKind} {cs : Array Value} {i : Nat} {v : Value} (hu : P.underlying t = some (.array m e)) (he : P.underlying e = some d)
    (hd : (match d with | .struct _ | .array _ _ => false | _ => true) = true) (hs : (P.info? e).map (·.size) = some 1) (hi : i < m) (hg : cs[i]? = some v) (w : World) :
    (Instr.index t (.agg cs) (.int k (i : Int))).run P w = .ok v w := by
  have hin : (0 : Int) ≤ (i : Int) ∧ (i : Int) < (m : Int) := ⟨by omega, by omega⟩
  cases hq : P.info? e with
  | none => simp [hq] at hs
  | some ie =>
    have hsz : ie.size = 1 := by simpa [hq] using hs
    have hagg : (isAgg e).run P w = .ok false w := by
      unfold isAgg
      rw [Sem.run_bind, run_underlying he w]
      cases d <;> simp_all
    simp [Instr.index, asIntOf, Sem.run_bind, run_underlying hu w, hin, sizeOf, typeInfo, hq, hsz, part, hagg, hg]
    intro h; omega
end
end Go.Proofs.YtkcambhojpafkaaDoor
