/- '==' between two values of a plain type (whole numbers and bools, arrays and structs of them): cell by cell. Over any program. -/
import Derived.Test.YtkcambhojpafkaaDoorB1
set_option linter.unusedSimpArgs false
set_option linter.unusedVariables false
namespace Go.Proofs.YtkcambhojpafkaaDoor
open Go Go.RowKit

def leafEq : Value → Value → Bool
  | .int _ a, .int _ b => a == b
  | .bool a, .bool b => a == b
  | _, _ => false
/-- The first n cells are the same. -/
def eqTo (g h : Nat → Value) : Nat → Bool
  | 0 => true
  | n + 1 => eqTo g h n && leafEq (g n) (h n)
theorem eqTo_add (g h : Nat → Value) (a b : Nat) : eqTo g h (a + b) = (eqTo g h a && eqTo (fun j => g (a + j)) (fun j => h (a + j)) b) := by
  induction b with
  | zero => simp [eqTo]
  | succ b ih => rw [← Nat.add_assoc]; simp only [eqTo, ih, Bool.and_assoc]
theorem eqTo_iff {g h : Nat → Value} {n : Nat} : eqTo g h n = true ↔ ∀ j, j < n → leafEq (g j) (h j) = true := by
  induction n with
  | zero => simp [eqTo]
  | succ n ih =>
    simp only [eqTo, Bool.and_eq_true, ih]
    constructor
    · rintro ⟨h1, h2⟩ j hj
      rcases Nat.lt_or_ge j n with h | h
      · exact h1 j h
      · obtain rfl : j = n := by omega
        exact h2
    · exact fun h => ⟨fun j hj => h j (by omega), h n (by omega)⟩
theorem eqTo_congr {g g' h h' : Nat → Value} {n : Nat} (e : ∀ j, j < n → g j = g' j) (e' : ∀ j, j < n → h j = h' j) : eqTo g h n = eqTo g' h' n := by
  induction n with
  | zero => rfl
  | succ n ih => simp only [eqTo, ih (fun j hj => e j (by omega)) (fun j hj => e' j (by omega)), e n (by omega), e' n (by omega)]

inductive Leaf
  | int (k : IntKind)
  | bool
def Leaf.ok : Leaf → Value → Bool
  | .int k, .int k' _ => k == k'
  | .bool, .bool _ => true
  | _, _ => false
def fits (ls : List Leaf) (g : Nat → Value) : Prop := ∀ (j : Nat) (l : Leaf), ls[j]? = some l → l.ok (g j) = true
theorem fits_left {a b : List Leaf} {g : Nat → Value} (h : fits (a ++ b) g) : fits a g := fun j l hl => by
  have hj := (List.getElem?_eq_some_iff.1 hl).1
  exact h j l (by rw [List.getElem?_append_left hj]; exact hl)
theorem fits_right {a b : List Leaf} {g : Nat → Value} (h : fits (a ++ b) g) : fits b (fun j => g (a.length + j)) := fun j l hl =>
  h _ l (by rw [List.getElem?_append_right (by omega), Nat.add_sub_cancel_left]; exact hl)

section
variable (P : Program)
def leavesOf (f : TypeId → Option (List Leaf)) : List Field → Nat → Option (List Leaf)
  | [], _ => some []
  | x :: xs, o =>
    match f x.type, leavesOf f xs (o + ((P.info? x.type).map (·.size)).getD 0) with
    | some l, some r => if x.offset = o ∧ (P.info? x.type).map (·.size) = some l.length ∧ x.name ≠ "_" then some (l ++ r) else none
    | _, _ => none
/-- A plain type's cells, told by kind. -/
def leaves : Nat → TypeId → Option (List Leaf)
  | 0, _ => none
  | d + 1, t =>
    match P.underlying t with
    | some (.int k) => some [.int k]
    | some .bool => some [.bool]
    | some (.array m e) => match leaves d e with
      | some l => if (P.info? e).map (·.size) = some l.length then some ((List.replicate m l).flatten) else none
      | none => none
    | some (.struct fs) => if P.stoodInHeld t then none else leavesOf P (leaves d) fs.toList 0
    | _ => none
/-- A value of type t out of cells. -/
def vOf (t : TypeId) (n : Nat) (g : Nat → Value) : Value :=
  match P.underlying t with
  | some (.struct _) | some (.array _ _) => .agg (mkRow n g)
  | _ => g 0
end

variable {P : Program}
theorem mkRow_extract (n : Nat) (g : Nat → Value) {o m : Nat} (h : o + m ≤ n) : (mkRow n g).extract o (o + m) = mkRow m (fun j => g (o + j)) := by
  apply Array.ext_getElem?
  intro i
  rw [Array.getElem?_extract, mkRow_size]
  rcases Nat.lt_or_ge i m with hi | hi
  · rw [if_pos (by omega), mkRow_get g (by omega), mkRow_get (fun j => g (o + j)) hi]
  · rw [if_neg (by omega), Array.getElem?_eq_none (by rw [mkRow_size]; exact hi)]

theorem run_part_row {t : TypeId} {d : TypeDesc} {m n o : Nat} {g : Nat → Value} (hu : P.underlying t = some d) (hs : (P.info? t).map (·.size) = some m) (h : o + m ≤ n) (hm : 0 < m ∨ d.isRow = true) (w : World) :
    (part t (mkRow n g) o).run P w = .ok (vOf P t m (fun j => g (o + j))) w := by
  cases hq : P.info? t with
  | none => simp [hq] at hs
  | some i =>
    have hsz : i.size = m := by simpa [hq] using hs
    by_cases ha : d.isRow = true
    · have hagg : (isAgg t).run P w = .ok true w := by
        unfold isAgg
        rw [Sem.run_bind, run_underlying hu w]
        cases d <;> simp_all
      have hv : vOf P t m (fun j => g (o + j)) = .agg (mkRow m (fun j => g (o + j))) := by
        unfold vOf; rw [hu]; cases d <;> simp_all
      simp [part, Sem.run_bind, hagg, sizeOf, typeInfo, hq, hsz, mkRow_extract n g h, hv]
    · have hm' : 0 < m := hm.resolve_right ha
      have hagg : (isAgg t).run P w = .ok false w := by
        unfold isAgg
        rw [Sem.run_bind, run_underlying hu w]
        cases d <;> simp_all
      have hv : vOf P t m (fun j => g (o + j)) = g o := by
        unfold vOf; rw [hu]; cases d <;> simp_all
      simp [part, Sem.run_bind, hagg, mkRow_get g (show o < n by omega), hv]

theorem leaves_pos {d : Nat} {t : TypeId} {ls : List Leaf} (h : leaves P d t = some ls) {x : TypeDesc} (hu : P.underlying t = some x) : 0 < ls.length ∨ x.isRow = true := by
  cases d with
  | zero => simp [leaves] at h
  | succ d =>
    simp only [leaves, hu] at h
    cases x <;> simp_all
    all_goals (rw [← h]; simp)

theorem leaves_under {d : Nat} {t : TypeId} {ls : List Leaf} (h : leaves P d t = some ls) : ∃ x, P.underlying t = some x := by
  cases d with
  | zero => simp [leaves] at h
  | succ d =>
    cases hu : P.underlying t with
    | none => simp [leaves, hu] at h
    | some x => exact ⟨x, rfl⟩

theorem eq_fields (d : Nat) (ih : ∀ t ls, leaves P d t = some ls → ∀ g h, fits ls g → fits ls h → ∀ w, (Op.equalIn d t (vOf P t ls.length g) (vOf P t ls.length h)).run P w = .ok (eqTo g h ls.length) w) :
    ∀ (fs : List Field) (o n : Nat) (ls : List Leaf), leavesOf P (leaves P d) fs o = some ls → o + ls.length ≤ n → ∀ g h, fits ls (fun j => g (o + j)) → fits ls (fun j => h (o + j)) → ∀ w,
      (Op.eqFields d (mkRow n g) (mkRow n h) fs).run P w = .ok (eqTo (fun j => g (o + j)) (fun j => h (o + j)) ls.length) w
  | [], o, n, ls, hl, _, g, h, _, _, w => by simp [leavesOf] at hl; subst hl; simp [Op.eqFields, eqTo]
  | x :: xs, o, n, ls, hl, hn, g, h, hg, hh, w => by
    simp only [leavesOf] at hl
    split at hl
    · rename_i l r h1 h2
      split at hl
      · rename_i hc
        obtain ⟨hx1, hx2, hx3⟩ := hc
        obtain rfl := Option.some.inj hl
        rw [List.length_append] at hn
        obtain ⟨ud, hud⟩ := leaves_under h1
        have p1 := run_part_row (P := P) (g := g) hud hx2 (show x.offset + l.length ≤ n by omega) (leaves_pos h1 hud) w
        have p2 := run_part_row (P := P) (g := h) hud hx2 (show x.offset + l.length ≤ n by omega) (leaves_pos h1 hud) w
        have e1 := ih x.type l h1 (fun j => g (x.offset + j)) (fun j => h (x.offset + j)) (by rw [hx1]; exact fits_left hg) (by rw [hx1]; exact fits_left hh) w
        simp only [Op.eqFields, hx3, ne_eq, not_false_eq_true, if_true, Sem.run_bind, p1, p2, Result.andThen_ok, e1]
        rw [List.length_append, eqTo_add]
        rw [hx1]
        have hs : o + ((P.info? x.type).map (·.size)).getD 0 = o + l.length := by rw [hx2]; rfl
        rw [hs] at h2
        cases he : eqTo (fun j => g (o + j)) (fun j => h (o + j)) l.length with
        | false => simp
        | true =>
          simp only [Bool.not_true, Bool.false_eq_true, if_false, Bool.true_and]
          have := eq_fields d ih xs (o + l.length) n r h2 (by omega) g h (by have := fits_right hg; simpa [Nat.add_assoc] using this) (by have := fits_right hh; simpa [Nat.add_assoc] using this) w
          simpa [Nat.add_assoc] using this
      · cases hl
    · cases hl

theorem flatten_replicate_length {α : Type} (m : Nat) (l : List α) : ((List.replicate m l).flatten).length = m * l.length := by
  induction m with
  | zero => simp
  | succ m ih => rw [List.replicate_succ, List.flatten_cons, List.length_append, ih, Nat.succ_mul]; omega

def eqElems (d : Nat) (e : TypeId) (n : Nat) (xs ys : Array Value) : List Nat → Sem Bool
  | [] => pure true
  | i :: is => do
    let a ← part e xs (i * n)
    let b ← part e ys (i * n)
    let r ← Op.equalIn d e a b
    if (!r) = true then pure false else eqElems d e n xs ys is

theorem run_equalIn_array (d : Nat) (t e : TypeId) (m n : Nat) (xs ys : Array Value) (hu : P.underlying t = some (.array m e)) (hs : (P.info? e).map (·.size) = some n) (w : World) :
    (Op.equalIn (d + 1) t (.agg xs) (.agg ys)).run P w = (eqElems d e n xs ys (List.range m)).run P w := by
  cases hq : P.info? e with
  | none => simp [hq] at hs
  | some i =>
    have hsz : i.size = n := by simpa [hq] using hs
    have hso : (sizeOf e).run P w = .ok n w := by simp [sizeOf, typeInfo, hq, hsz, Sem.run_bind]
    simp only [Op.equalIn, Sem.run_bind, run_underlying hu, Result.andThen_ok, hso]
    rw [Std.Legacy.Range.forIn_eq_forIn_range', List.range_eq_range']
    simp only [Std.Legacy.Range.size]
    rw [show (m - 0 + 1 - 1) / 1 = m by omega]
    generalize List.range' 0 m = is
    clear hso hu
    induction is generalizing w with
    | nil => simp [eqElems]
    | cons s is ih =>
      simp only [List.forIn_cons, eqElems, Sem.run_bind]
      generalize (part e xs (s * n)).run P w = r1
      cases r1 with
      | ok a w1 =>
        simp only [Result.andThen_ok]
        generalize (part e ys (s * n)).run P w1 = r2
        cases r2 with
        | ok b w2 =>
          simp only [Result.andThen_ok]
          generalize (Op.equalIn d e a b).run P w2 = r3
          cases r3 with
          | ok r w3 =>
            cases r
            · simp only [Result.andThen_ok, Bool.not_false, if_true, Sem.run_pure]
            · simp only [Result.andThen_ok, Bool.not_true, Bool.false_eq_true, if_false, Sem.run_pure]
              exact ih w3
          | halt x w3 => simp [Result.andThen]
        | halt x w2 => simp [Result.andThen]
      | halt x w1 => simp [Result.andThen]

theorem eq_elems (d : Nat) (e : TypeId) (l : List Leaf) (hl : leaves P d e = some l) (hs : (P.info? e).map (·.size) = some l.length)
    (ih : ∀ g h, fits l g → fits l h → ∀ w, (Op.equalIn d e (vOf P e l.length g) (vOf P e l.length h)).run P w = .ok (eqTo g h l.length) w) :
    ∀ (m s n : Nat), (s + m) * l.length ≤ n → ∀ g h, fits (List.replicate m l).flatten (fun j => g (s * l.length + j)) → fits (List.replicate m l).flatten (fun j => h (s * l.length + j)) → ∀ w,
      (eqElems d e l.length (mkRow n g) (mkRow n h) (List.range' s m)).run P w = .ok (eqTo (fun j => g (s * l.length + j)) (fun j => h (s * l.length + j)) (m * l.length)) w
  | 0, s, n, _, g, h, _, _, w => by simp [eqElems, eqTo]
  | m + 1, s, n, hn, g, h, hg, hh, w => by
    obtain ⟨ud, hud⟩ := leaves_under hl
    have hn1 : s * l.length + l.length ≤ n := by
      have : (s + 1) * l.length ≤ (s + (m + 1)) * l.length := Nat.mul_le_mul_right _ (by omega)
      rw [Nat.succ_mul] at this; omega
    have p1 := run_part_row (P := P) (g := g) hud hs hn1 (leaves_pos hl hud) w
    have p2 := run_part_row (P := P) (g := h) hud hs hn1 (leaves_pos hl hud) w
    rw [List.replicate_succ, List.flatten_cons] at hg hh
    have e1 := ih (fun j => g (s * l.length + j)) (fun j => h (s * l.length + j)) (fits_left hg) (fits_left hh) w
    rw [List.range'_succ]
    simp only [eqElems, Sem.run_bind, p1, p2, Result.andThen_ok, e1]
    rw [show (m + 1) * l.length = l.length + m * l.length by rw [Nat.succ_mul]; omega, eqTo_add]
    cases he : eqTo (fun j => g (s * l.length + j)) (fun j => h (s * l.length + j)) l.length with
    | false => simp
    | true =>
      simp only [Bool.not_true, Bool.false_eq_true, if_false, Bool.true_and]
      have hg2 := fits_right hg
      have hh2 := fits_right hh
      have hsl : (s + 1) * l.length = s * l.length + l.length := Nat.succ_mul _ _
      have := eq_elems d e l hl hs ih m (s + 1) n (by rw [show s + 1 + m = s + (m + 1) by omega]; exact hn) g h
        (by rw [hsl]; simpa [Nat.add_assoc] using hg2) (by rw [hsl]; simpa [Nat.add_assoc] using hh2) w
      rw [hsl] at this
      simpa [Nat.add_assoc] using this

/-- TWO VALUES OF A PLAIN TYPE ARE HELD AGAINST EACH OTHER CELL BY CELL. -/
theorem run_equalIn_plain : ∀ (d : Nat) (t : TypeId) (ls : List Leaf), leaves P d t = some ls → ∀ g h, fits ls g → fits ls h → ∀ w,
    (Op.equalIn d t (vOf P t ls.length g) (vOf P t ls.length h)).run P w = .ok (eqTo g h ls.length) w
  | 0, _, _, h => by simp [leaves] at h
  | d + 1, t, ls, hl => by
    intro g h hg hh w
    obtain ⟨x, hu⟩ := leaves_under hl
    simp only [leaves, hu] at hl
    cases x <;> simp only [reduceCtorEq] at hl
    case bool =>
      obtain rfl := Option.some.inj hl
      have h1 := hg 0 _ rfl
      have h2 := hh 0 _ rfl
      have v1 : vOf P t 1 g = g 0 := by simp [vOf, hu]
      have v2 : vOf P t 1 h = h 0 := by simp [vOf, hu]
      simp only [List.length_singleton, v1, v2, eqTo, Bool.true_and]
      cases hg0 : g 0 <;> simp [Leaf.ok, hg0] at h1
      cases hh0 : h 0 <;> simp [Leaf.ok, hh0] at h2
      simp [Op.equalIn, Sem.run_bind, run_underlying hu, leafEq]
    case int k =>
      obtain rfl := Option.some.inj hl
      have h1 := hg 0 _ rfl
      have h2 := hh 0 _ rfl
      have v1 : vOf P t 1 g = g 0 := by simp [vOf, hu]
      have v2 : vOf P t 1 h = h 0 := by simp [vOf, hu]
      simp only [List.length_singleton, v1, v2, eqTo, Bool.true_and]
      cases hg0 : g 0 <;> simp [Leaf.ok, hg0] at h1
      cases hh0 : h 0 <;> simp [Leaf.ok, hh0] at h2
      subst h1; subst h2
      simp [Op.equalIn, Sem.run_bind, run_underlying hu, leafEq]
    case array m e =>
      split at hl
      · rename_i l hle
        split at hl
        · rename_i hs
          obtain rfl := Option.some.inj hl
          have v1 : ∀ f, vOf P t (List.replicate m l).flatten.length f = .agg (mkRow (m * l.length) f) := fun f => by simp [vOf, hu, flatten_replicate_length]
          rw [v1, v1, run_equalIn_array d t e m l.length _ _ hu hs w, List.range_eq_range', flatten_replicate_length]
          have := eq_elems d e l hle hs (fun g h hg hh w => run_equalIn_plain d e l hle g h hg hh w) m 0 (m * l.length) (by rw [Nat.zero_add]; exact Nat.le_refl _) g h (by simpa using hg) (by simpa using hh) w
          simpa using this
        · cases hl
      · cases hl
    case struct fs =>
      split at hl
      · cases hl
      · rename_i hst
        have hf : P.fieldsOf t = fs := by simp [Program.fieldsOf, hu]
        have v1 : ∀ f, vOf P t ls.length f = .agg (mkRow ls.length f) := fun f => by simp [vOf, hu]
        rw [v1, v1, run_equalIn_struct w d t _ _ (by rw [hf]; exact hu) (by simpa using hst), hf]
        have := eq_fields d (fun t ls h => run_equalIn_plain d t ls h) fs.toList 0 ls.length ls hl (by omega) g h (by simpa using hg) (by simpa using hh) w
        simpa using this

theorem run_equalIn_rows {t : TypeId} {ls : List Leaf} {n : Nat} (hl : leaves P 10000 t = some ls) (hn : ls.length = n) {x : TypeDesc} (hu : P.underlying t = some x) (hx : x.isRow = true) {g h : Nat → Value} (hg : fits ls g) (hh : fits ls h) {b : Bool} (hb : eqTo g h n = b) (w : World) :
    (Op.equalIn 10000 t (.agg (mkRow n g)) (.agg (mkRow n h))).run P w = .ok b w := by
  have v1 : ∀ f, vOf P t ls.length f = .agg (mkRow n f) := fun f => by subst hn; unfold vOf; rw [hu]; cases x <;> simp_all
  have := run_equalIn_plain 10000 t ls hl g h hg hh w
  rw [v1, v1, hn, hb] at this
  exact this
/-- As the walk meets it. -/
theorem run_eql_plain {t : TypeId} {ls : List Leaf} {n : Nat} (hl : leaves P 10000 t = some ls) (hn : ls.length = n) {x : TypeDesc} (hu : P.underlying t = some x) (hx : x.isRow = true) {g h : Nat → Value} (hg : fits ls g) (hh : fits ls h) (w : World) :
    (binOp .eql t (.agg (mkRow n g)) (.agg (mkRow n h))).run P w = .ok (.bool (eqTo g h n)) w := by
  have v1 : ∀ f, vOf P t ls.length f = .agg (mkRow n f) := fun f => by subst hn; unfold vOf; rw [hu]; cases x <;> simp_all
  have := run_equalIn_plain 10000 t ls hl g h hg hh w
  rw [v1, v1, hn] at this
  rw [run_eql_struct, this]; rfl
theorem run_neq_plain {t : TypeId} {ls : List Leaf} {n : Nat} (hl : leaves P 10000 t = some ls) (hn : ls.length = n) {x : TypeDesc} (hu : P.underlying t = some x) (hx : x.isRow = true) {g h : Nat → Value} (hg : fits ls g) (hh : fits ls h) (w : World) :
    (binOp .neq t (.agg (mkRow n g)) (.agg (mkRow n h))).run P w = .ok (.bool (!eqTo g h n)) w := by
  have v1 : ∀ f, vOf P t ls.length f = .agg (mkRow n f) := fun f => by subst hn; unfold vOf; rw [hu]; cases x <;> simp_all
  have := run_equalIn_plain 10000 t ls hl g h hg hh w
  rw [v1, v1, hn] at this
  rw [run_neq_struct, this]; rfl
theorem fits_ints (k : IntKind) (n : Nat) (f : Nat → Int) : fits (List.replicate n (.int k)) (fun j => .int k (f j)) := fun j l hl => by
  have := List.eq_of_mem_replicate (List.mem_of_getElem? hl)
  subst this
  simp [Leaf.ok]
theorem eqTo_ints {k : IntKind} {f g : Nat → Int} {n : Nat} : eqTo (fun j => .int k (f j)) (fun j => .int k (g j)) n = true ↔ ∀ j, j < n → f j = g j := by
  rw [eqTo_iff]
  refine forall_congr' fun j => forall_congr' fun _ => ?_
  simp [leafEq]
end Go.Proofs.YtkcambhojpafkaaDoor
