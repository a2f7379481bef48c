/- Maps whose keys are of a plain type (arrays and structs of whole numbers and bools). Over any program. -/
import Derived.Test.YtkcambhojpafkaaDoorB2
set_option linter.unusedSimpArgs false
set_option linter.unusedVariables false
namespace Go.Proofs.YtkcambhojpafkaaDoor
open Go Go.RowKit

variable {P : Program}

/-! ### The key is looked at -/
theorem run_checkKey_plain (em : Bool) : ∀ (d : Nat) (t : TypeId) (ls : List Leaf), leaves P d t = some ls → ∀ (g : Nat → Value) (w : World),
    (Instr.checkKey em d t (vOf P t ls.length g)).run P w = .ok () w
  | 0, _, _, h => by simp [leaves] at h
  | d + 1, t, ls, hl => by
    intro g w
    obtain ⟨x, hu⟩ := leaves_under hl
    have hl0 := hl
    simp only [leaves, hu] at hl
    cases x <;> simp only [reduceCtorEq] at hl
    case bool => simp [Instr.checkKey, Sem.run_bind, run_underlying hu]
    case int k => simp [Instr.checkKey, Sem.run_bind, run_underlying hu]
    case array m e =>
      split at hl
      · rename_i l hle
        split at hl
        · rename_i hs
          obtain rfl := Option.some.inj hl
          have v1 : ∀ f, vOf P t (List.replicate m l).flatten.length f = .agg (mkRow (m * l.length) f) := fun f => by simp [vOf, hu, flatten_replicate_length]
          rw [v1]
          obtain ⟨ud, hud⟩ := leaves_under hle
          have hso : ∀ w, (sizeOf e).run P w = .ok l.length w := fun w => by
            cases hq : P.info? e with
            | none => simp [hq] at hs
            | some i =>
              have hsz : i.size = l.length := by simpa [hq] using hs
              simp [sizeOf, typeInfo, hq, hsz, Sem.run_bind]
          simp only [Instr.checkKey, Sem.run_bind, run_underlying hu, Result.andThen_ok]
          rw [Std.Legacy.Range.forIn_eq_forIn_range']
          simp only [Std.Legacy.Range.size]
          rw [show (m - 0 + 1 - 1) / 1 = m by omega]
          have key : ∀ (is : List Nat), (∀ i ∈ is, i < m) → (forIn is PUnit.unit (fun i (_ : PUnit) => do
              let a ← sizeOf e
              let b ← part e (mkRow (m * l.length) g) (i * a)
              Instr.checkKey em d e b
              pure (ForInStep.yield PUnit.unit) : Nat → PUnit → Sem (ForInStep PUnit))).run P w = .ok PUnit.unit w := by
            intro is
            induction is with
            | nil => intro _; simp
            | cons i is ih =>
              intro hi
              have him := hi i (by simp)
              have hb : i * l.length + l.length ≤ m * l.length := by
                have : (i + 1) * l.length ≤ m * l.length := Nat.mul_le_mul_right _ him
                rwa [Nat.succ_mul] at this
              have p1 := run_part_row (P := P) (g := g) hud hs hb (leaves_pos hle hud) w
              have c1 := run_checkKey_plain em d e l hle (fun j => g (i * l.length + j)) w
              simp only [List.forIn_cons, Sem.run_bind, hso, Result.andThen_ok, p1, c1, Sem.run_pure]
              exact ih fun i hi' => hi i (by simp [hi'])
          refine (congrArg (fun r => Result.andThen r fun _ w' => Sem.run P (pure ()) w') (key (List.range' 0 m) fun i hi => by have := List.mem_range'_1.1 hi; omega)).trans ?_
          rfl
        · cases hl
      · cases hl
    case struct fs =>
      split at hl
      · cases hl
      · rename_i hst
        have v1 : ∀ f, vOf P t ls.length f = .agg (mkRow ls.length f) := fun f => by simp [vOf, hu]
        rw [v1]
        simp only [Instr.checkKey, Sem.run_bind, run_underlying hu, Result.andThen_ok]
        rw [← Array.forIn_toList]
        have key : ∀ (fl : List Field) (o n : Nat) (l : List Leaf), leavesOf P (leaves P d) fl o = some l → o + l.length ≤ n → (forIn fl PUnit.unit (fun (f : Field) (_ : PUnit) => do
            if f.name ≠ "_" then
              let b ← part f.type (mkRow n g) f.offset
              Instr.checkKey em d f.type b
              pure (ForInStep.yield PUnit.unit)
            else pure (ForInStep.yield PUnit.unit) : Field → PUnit → Sem (ForInStep PUnit))).run P w = .ok PUnit.unit w := by
          intro fl
          induction fl with
          | nil => intro _ _ _ _ _; simp
          | cons f fl ih =>
            intro o n l hll hn
            simp only [leavesOf] at hll
            split at hll
            · rename_i a b h1 h2
              split at hll
              · rename_i hc
                obtain ⟨hx1, hx2, hx3⟩ := hc
                obtain rfl := Option.some.inj hll
                rw [List.length_append] at hn
                obtain ⟨ud, hud⟩ := leaves_under h1
                have p1 := run_part_row (P := P) (g := g) hud hx2 (show f.offset + a.length ≤ n by omega) (leaves_pos h1 hud) w
                have c1 := run_checkKey_plain em d f.type a h1 (fun j => g (f.offset + j)) w
                simp only [List.forIn_cons, Sem.run_bind, hx3, ne_eq, not_false_eq_true, if_true, p1, Result.andThen_ok, c1, Sem.run_pure]
                have hs : o + ((P.info? f.type).map (·.size)).getD 0 = o + a.length := by rw [hx2]; rfl
                rw [hs] at h2
                exact ih (o + a.length) n b h2 (by omega)
              · cases hll
            · cases hll
        refine (congrArg (fun r => Result.andThen r fun _ w' => Sem.run P (pure ()) w') (key fs.toList 0 ls.length ls hl (by omega))).trans ?_
        rfl

/-! ### The entries -/
structure Ent where
  key : Nat → Value
  val : Value
  born : Nat
def entOf (n : Nat) (e : Ent) : MapEntry := { key := .agg (mkRow n e.key), val := e.val, born := e.born }
/-- The first entry of a key. -/
def findI (n : Nat) (g : Nat → Value) : List Ent → Nat → Option (Nat × Value)
  | [], _ => none
  | e :: es, i => if eqTo g e.key n then some (i, e.val) else findI n g es (i + 1)

structure KeyType (P : Program) (kt : TypeId) (n : Nat) (ls : List Leaf) : Prop where
  leaves : leaves P 10000 kt = some ls
  len : ls.length = n
  row : ∃ d, P.underlying kt = some d ∧ d.isRow = true

theorem KeyType.v {kt : TypeId} {n : Nat} {ls : List Leaf} (h : KeyType P kt n ls) (g : Nat → Value) : vOf P kt ls.length g = .agg (mkRow n g) := by
  obtain ⟨d, hu, hd⟩ := h.row
  have := h.len; subst this
  unfold vOf; rw [hu]; cases d <;> simp_all

theorem run_findKey {kt : TypeId} {n : Nat} {ls : List Leaf} (h : KeyType P kt n ls) {g : Nat → Value} (hg : fits ls g) {L : List Ent} (hL : ∀ e ∈ L, fits ls e.key) (w : World) :
    (Instr.findKey kt (.agg (mkRow n g)) (L.map (entOf n))).run P w = .ok (findI n g L 0) w := by
  obtain ⟨d, hu, hd⟩ := h.row
  have key : ∀ (L : List Ent) (i : Nat), (∀ e ∈ L, fits ls e.key) → (Instr.findAsking kt (.agg (mkRow n g)) (L.map (entOf n)) i).run P w = .ok (findI n g L i) w := by
    intro L
    induction L with
    | nil => intro i _; simp [Instr.findAsking, findI]
    | cons e L ih =>
      intro i hL
      have he := run_equalIn_plain 10000 kt ls h.leaves g e.key hg (hL e (by simp)) w
      rw [h.v, h.v, h.len] at he
      simp only [List.map_cons, entOf, Instr.findAsking, Sem.run_bind, Op.equal, Op.maxDepth, he, Result.andThen_ok, findI]
      cases eqTo g e.key n with
      | true => simp
      | false => simp only [Bool.false_eq_true, if_false]; exact ih (i + 1) fun e he => hL e (by simp [he])
  simp only [Instr.findKey, Sem.run_bind, run_underlying hu, Result.andThen_ok]
  cases L with
  | nil => simp [Instr.findNow, findI]
  | cons e L =>
    have hn : Instr.findNow d (.agg (mkRow n g)) ((e :: L).map (entOf n)) 0 = none := by
      simp only [List.map_cons, Instr.findNow, entOf]
      have : Instr.sameNow d (.agg (mkRow n g)) (.agg (mkRow n e.key)) = none := by cases d <;> rfl
      rw [this]
    rw [hn]
    exact key (e :: L) 0 hL

theorem sameBits_row {ls : List Leaf} {n : Nat} {g h : Nat → Value} (hn : ls.length = n) (hg : fits ls g) (hh : fits ls h) (he : eqTo g h n = true) (m : Nat) : Instr.sameBits (m + 1) (.agg (mkRow n g)) (.agg (mkRow n h)) = true := by
  simp only [Instr.sameBits, mkRow_size, beq_self_eq_true, Bool.true_and, List.all_eq_true]
  rintro ⟨x, y⟩ hxy
  obtain ⟨j, hj⟩ := List.getElem?_of_mem hxy
  rw [List.getElem?_zip_eq_some] at hj
  obtain ⟨h1, h2⟩ := hj
  have hjn : j < n := by
    have := (List.getElem?_eq_some_iff.1 h1).1
    rwa [Array.length_toList, mkRow_size] at this
  rw [Array.getElem?_toList, mkRow_get g hjn] at h1
  rw [Array.getElem?_toList, mkRow_get h hjn] at h2
  obtain rfl := Option.some.inj h1
  obtain rfl := Option.some.inj h2
  have hl := eqTo_iff.1 he j hjn
  obtain ⟨l, hlj⟩ : ∃ l, ls[j]? = some l := ⟨ls[j]'(by omega), by simp⟩
  have f1 := hg j l hlj
  have f2 := hh j l hlj
  cases l <;> cases hgj : g j <;> simp [Leaf.ok, hgj] at f1 <;> cases hhj : h j <;> simp [Leaf.ok, hhj] at f2 <;> simp [leafEq, hgj, hhj] at hl
  · subst f1; subst f2; subst hl; cases m <;> simp [Instr.sameBits]
  · subst hl; cases m <;> simp [Instr.sameBits]

/-! ### A map in memory -/
def putObj (w : World) (b : Nat) (o : Obj) : World := { w with heap := w.heap.setIfInBounds b o }
theorem putObj_same {w : World} {b : Nat} (o : Obj) (h : b < w.heap.size) : (putObj w b o).heap[b]? = some o := by
  show (w.heap.setIfInBounds b o)[b]? = _
  rw [Array.getElem?_setIfInBounds, if_pos rfl, if_pos h]
theorem putObj_other {w : World} {b c : Nat} (o : Obj) (h : c ≠ b) : (putObj w b o).heap[c]? = w.heap[c]? := by
  show (w.heap.setIfInBounds b o)[c]? = _
  rw [Array.getElem?_setIfInBounds, if_neg (by omega)]
@[simp, go_sem] theorem size_putObj (w : World) (b : Nat) (o : Obj) : (putObj w b o).heap.size = w.heap.size := by
  show (w.heap.setIfInBounds b o).size = _
  simp
theorem below_putObj {B b : Nat} {w w' : World} (h : Below B w w') (hb : B ≤ b) (o : Obj) : Below B w (putObj w' b o) :=
  h.trans ⟨rfl, rfl, rfl, by simp, fun k hk => putObj_other o (by omega)⟩
theorem XE.putObj {w w' : World} (h : XE w w') {b : Nat} (hb : w.heap.size ≤ b) (o : Obj) : XE w (putObj w' b o) := .of_below (below_putObj h.below hb o)
theorem cell?_putObj {w : World} {b : Nat} {a : Addr} (o : Obj) (h : a.block ≠ b) : (putObj w b o).cell? a = w.cell? a := World.cell?_of_block (putObj_other o h)
theorem frozen?_putObj {w : World} {b : Nat} {a : Addr} (o : Obj) (h : a.block ≠ b) : (putObj w b o).frozen? a = w.frozen? a := World.frozen?_of_block (putObj_other o h)
theorem Cells.farObj {w : World} {b n : Nat} {g : Nat → Value} (c : Cells w b n g) {b' : Nat} (h : b' ≠ b) (o : Obj) : Cells (putObj w b' o) b n g :=
  ⟨fun j hj => by rw [cell?_putObj o (by exact fun e => h e.symm)]; exact c.cell j hj, fun j hj => by rw [frozen?_putObj o (by exact fun e => h e.symm)]; exact c.free j hj⟩

def mapObj (n : Nat) (L : List Ent) (clock : Nat) : Obj := .map (L.map (entOf n)).toArray clock
/-- Block b is a map of these entries. -/
structure MapAt (w : World) (b n : Nat) (ls : List Leaf) (L : List Ent) (clock : Nat) : Prop where
  obj : w.heap[b]? = some (mapObj n L clock)
  fit : ∀ e ∈ L, fits ls e.key
theorem MapAt.lt {w : World} {b n : Nat} {ls : List Leaf} {L : List Ent} {clock : Nat} (h : MapAt w b n ls L clock) : b < w.heap.size := lt_of_some w h.obj
theorem MapAt.x {w w' : World} {b n : Nat} {ls : List Leaf} {L : List Ent} {clock : Nat} (h : MapAt w b n ls L clock) (hx : XE w w') : MapAt w' b n ls L clock := ⟨hx.obj h.obj, h.fit⟩
theorem MapAt.setCell {w : World} {b n : Nat} {ls : List Leaf} {L : List Ent} {clock : Nat} (h : MapAt w b n ls L clock) {a : Addr} (ha : a.block ≠ b) (v : Value) : MapAt (w.setCell a v) b n ls L clock :=
  ⟨by rw [Below.heap_setCell w a v b (fun e => ha e.symm)]; exact h.obj, h.fit⟩

theorem run_getMap {w : World} {b n : Nat} {ls : List Leaf} {L : List Ent} {clock : Nat} (h : MapAt w b n ls L clock) : (getObj b).run P w = .ok (mapObj n L clock) w := by
  simp [getObj, Sem.run, h.obj, mapObj]

theorem run_lookup {w : World} {b n : Nat} {ls : List Leaf} {L : List Ent} {clock : Nat} (h : MapAt w b n ls L clock) {mt kt et : TypeId} (hk : KeyType P kt n ls) (hm : P.underlying mt = some (.map kt et)) {z : Value} (hz : ∀ w, (zeroValue et).run P w = .ok z w)
    {g : Nat → Value} (hg : fits ls g) (ok : Bool) : (Instr.lookup mt (.map (some b)) (.agg (mkRow n g)) ok).run P w =
      .ok (match findI n g L 0 with | some (_, v) => if ok then .tuple #[v, .bool true] else v | none => if ok then .tuple #[z, .bool false] else z) w := by
  have hc : ∀ em, (Instr.checkKey em 10000 kt (.agg (mkRow n g))).run P w = .ok () w := fun em => by
    have := run_checkKey_plain em 10000 kt ls hk.leaves g w
    rwa [hk.v] at this
  have hf := run_findKey hk hg h.fit w
  simp only [Instr.lookup, Sem.run_bind, run_underlying hm, Result.andThen_ok, run_getMap h, mapObj, Sem.run_pure, hc, hf]
  cases findI n g L 0 with
  | none => cases ok <;> simp [Sem.run_bind, hz]
  | some p => obtain ⟨i, v⟩ := p; cases ok <;> simp

/-- An entry of a key found, and what it is turned to. -/
def turnAt (L : List Ent) (i : Nat) (g : Nat → Value) (v : Value) : List Ent := L.modify i fun e => { e with key := g, val := v }
theorem findI_spec {n : Nat} {g : Nat → Value} : ∀ {L : List Ent} {i j : Nat} {v : Value}, findI n g L i = some (j, v) → ∃ e, i ≤ j ∧ L[j - i]? = some e ∧ eqTo g e.key n = true ∧ e.val = v
  | [], _, _, _, h => by simp [findI] at h
  | e :: L, i, j, v, h => by
    simp only [findI] at h
    split at h
    · rename_i he
      simp only [Option.some.injEq, Prod.mk.injEq] at h
      obtain ⟨rfl, rfl⟩ := h
      exact ⟨e, Nat.le_refl _, by simp, he, rfl⟩
    · obtain ⟨e', h1, h2, h3, h4⟩ := findI_spec h
      refine ⟨e', by omega, ?_, h3, h4⟩
      rw [show j - i = (j - (i + 1)) + 1 by omega]
      simpa using h2
theorem map_modify_ent (n : Nat) (L : List Ent) (i : Nat) (f : Ent → Ent) (f' : MapEntry → MapEntry) (hf : ∀ e, entOf n (f e) = f' (entOf n e)) : (L.modify i f).map (entOf n) = (L.map (entOf n)).modify i f' := by
  apply List.ext_getElem?
  intro k
  simp only [List.getElem?_map, List.getElem?_modify]
  cases L[k]? with
  | none => by_cases h : i = k <;> simp [h]
  | some e => by_cases h : i = k <;> simp [h, hf]

theorem run_setMap {w : World} {b n : Nat} {ls : List Leaf} {L : List Ent} {clock : Nat} (h : MapAt w b n ls L clock) (o : Obj) : (setObj b o).run P w = .ok () (putObj w b o) := by
  simp [setObj, Sem.run, h.obj, mapObj, putObj]

theorem run_mapUpdate {w : World} {b n : Nat} {ls : List Leaf} {L : List Ent} {clock : Nat} (h : MapAt w b n ls L clock) {mt kt et : TypeId} (hk : KeyType P kt n ls) (hm : P.underlying mt = some (.map kt et))
    {g : Nat → Value} (hg : fits ls g) (v : Value) : (Instr.mapUpdate mt (.map (some b)) (.agg (mkRow n g)) v).run P w =
      .ok () (putObj w b (match findI n g L 0 with | some (i, _) => mapObj n (turnAt L i g v) clock | none => mapObj n (L ++ [⟨g, v, clock⟩]) (clock + 1))) := by
  have hc : (Instr.checkKey false 10000 kt (.agg (mkRow n g))).run P w = .ok () w := by
    have := run_checkKey_plain false 10000 kt ls hk.leaves g w
    rwa [hk.v] at this
  have hf := run_findKey hk hg h.fit w
  simp only [Instr.mapUpdate, Sem.run_bind, run_underlying hm, Result.andThen_ok, run_getMap h, mapObj, Sem.run_pure, hc, hf]
  cases hfi : findI n g L 0 with
  | none => simp only [run_setMap h]; congr 2; simp [entOf]
  | some p =>
    obtain ⟨i, u⟩ := p
    obtain ⟨e, -, he1, he2, -⟩ := findI_spec hfi
    rw [Nat.sub_zero] at he1
    have hem := List.mem_of_getElem? he1
    have hsb : Instr.sameBits 10000 (.agg (mkRow n e.key)) (.agg (mkRow n g)) = true := by
      refine sameBits_row hk.len (h.fit e hem) hg ?_ 9999
      rw [eqTo_iff] at he2 ⊢
      intro j hj
      have := he2 j hj
      cases hgj : g j <;> cases hej : e.key j <;> simp [leafEq, hgj, hej] at this ⊢ <;> exact this.symm
    have hks : ∀ w, (Instr.keyThatStays (.agg (mkRow n e.key)) (.agg (mkRow n g))).run P w = .ok (.agg (mkRow n g)) w := fun w => by simp [Instr.keyThatStays, hsb]
    have hge : (((L.map (entOf n)).toArray[i]?).map (·.key)).getD (.agg (mkRow n g)) = .agg (mkRow n e.key) := by simp [he1, entOf]
    have hmod : (turnAt L i g v).map (entOf n) = (L.map (entOf n)).modify i fun e => { e with key := .agg (mkRow n g), val := v } :=
      map_modify_ent n L i (fun e => { e with key := g, val := v }) (fun e => { e with key := .agg (mkRow n g), val := v }) (fun e => rfl)
    simp only [hge, hks, Result.andThen_ok, run_setMap h, mapObj, hmod]
    simp [hks, run_setMap h]

/-! ### An entry is found or made, and written into -/
/-- What stands behind 'm[k] = v'. -/
def putEnt (n : Nat) (L : List Ent) (c : Nat) (g : Nat → Value) (v : Value) : List Ent × Nat :=
  match findI n g L 0 with
  | some (i, _) => (turnAt L i g v, c)
  | none => (L ++ [⟨g, v, c⟩], c + 1)
theorem fits_turn {ls : List Leaf} {L : List Ent} (h : ∀ e ∈ L, fits ls e.key) {g : Nat → Value} (hg : fits ls g) (i : Nat) (v : Value) : ∀ e ∈ turnAt L i g v, fits ls e.key := fun e he => by
  obtain ⟨j, hj⟩ := List.getElem?_of_mem he
  unfold turnAt at hj
  rw [List.getElem?_modify] at hj
  cases hl : L[j]? with
  | none => rw [hl] at hj; simp at hj
  | some e0 =>
    rw [hl] at hj
    simp only [Option.map_eq_map, Option.map_some, Option.some.injEq] at hj
    by_cases hij : i = j
    · rw [if_pos hij] at hj; subst hj; exact hg
    · rw [if_neg hij] at hj; subst hj; exact h e0 (List.mem_of_getElem? hl)
theorem fits_put {n : Nat} {ls : List Leaf} {L : List Ent} (h : ∀ e ∈ L, fits ls e.key) {g : Nat → Value} (hg : fits ls g) (c : Nat) (v : Value) : ∀ e ∈ (putEnt n L c g v).1, fits ls e.key := fun e he => by
  unfold putEnt at he
  split at he
  · exact fits_turn h hg _ _ e he
  · rcases List.mem_append.1 he with he | he
    · exact h e he
    · obtain rfl := List.mem_singleton.1 he; exact hg
theorem run_mapUpdate' {w : World} {b n : Nat} {ls : List Leaf} {L : List Ent} {clock : Nat} (h : MapAt w b n ls L clock) {mt kt et : TypeId} (hk : KeyType P kt n ls) (hm : P.underlying mt = some (.map kt et))
    {g : Nat → Value} (hg : fits ls g) (v : Value) : (Instr.mapUpdate mt (.map (some b)) (.agg (mkRow n g)) v).run P w = .ok () (putObj w b (mapObj n (putEnt n L clock g v).1 (putEnt n L clock g v).2)) := by
  rw [run_mapUpdate h hk hm hg v]
  unfold putEnt
  cases findI n g L 0 <;> rfl

/-- The stamp of the entry that 'm[k]' finds or makes. -/
def stampOf (n : Nat) (L : List Ent) (c : Nat) (g : Nat → Value) : Nat :=
  match findI n g L 0 with
  | some (i, _) => ((L[i]?).map (·.born)).getD 0
  | none => c
def valOf (n : Nat) (L : List Ent) (g : Nat → Value) (z : Value) : Value :=
  match findI n g L 0 with
  | some (_, v) => v
  | none => z
theorem run_lookup1 {w : World} {b n : Nat} {ls : List Leaf} {L : List Ent} {clock : Nat} (h : MapAt w b n ls L clock) {mt kt et : TypeId} (hk : KeyType P kt n ls) (hm : P.underlying mt = some (.map kt et)) {z : Value} (hz : ∀ w, (zeroValue et).run P w = .ok z w)
    {g : Nat → Value} (hg : fits ls g) : (Instr.lookup mt (.map (some b)) (.agg (mkRow n g)) false).run P w = .ok (valOf n L g z) w := by
  rw [run_lookup h hk hm hz hg false]
  unfold valOf
  cases findI n g L 0 <;> rfl

theorem turnAt_same {L : List Ent} {i : Nat} {g : Nat → Value} {v : Value} : turnAt (turnAt L i g v) i g = fun u => turnAt L i g u := by
  funext u
  apply List.ext_getElem?
  intro k
  simp only [turnAt, List.getElem?_modify]
  cases L[k]? with
  | none => by_cases h : i = k <;> simp [h]
  | some e => by_cases h : i = k <;> simp [h]

theorem run_mapEntry {w : World} {b n : Nat} {ls : List Leaf} {L : List Ent} {clock : Nat} (h : MapAt w b n ls L clock) {mt kt et : TypeId} (hk : KeyType P kt n ls) (hm : P.underlying mt = some (.map kt et)) {z : Value} (hz : ∀ w, (zeroValue et).run P w = .ok z w)
    {g : Nat → Value} (hg : fits ls g) : (Instr.mapEntry mt (.map (some b)) (.agg (mkRow n g))).run P w =
      .ok (.tuple #[valOf n L g z, goInt (stampOf n L clock g)]) (putObj w b (mapObj n (putEnt n L clock g (valOf n L g z)).1 (putEnt n L clock g (valOf n L g z)).2)) := by
  have hc : (Instr.checkKey false 10000 kt (.agg (mkRow n g))).run P w = .ok () w := by
    have := run_checkKey_plain false 10000 kt ls hk.leaves g w
    rwa [hk.v] at this
  have hf := run_findKey hk hg h.fit w
  unfold putEnt stampOf valOf
  simp only [Instr.mapEntry, Sem.run_bind, run_underlying hm, Result.andThen_ok, run_getMap h, mapObj, Sem.run_pure, hc, hf]
  cases hfi : findI n g L 0 with
  | none =>
    simp only [hz, Result.andThen_ok, run_setMap h]
    simp [entOf, hz, run_setMap h]
  | some p =>
    obtain ⟨i, u⟩ := p
    obtain ⟨e, -, he1, he2, he3⟩ := findI_spec hfi
    rw [Nat.sub_zero] at he1
    have hem := List.mem_of_getElem? he1
    have hsb : Instr.sameBits 10000 (.agg (mkRow n e.key)) (.agg (mkRow n g)) = true := by
      refine sameBits_row hk.len (h.fit e hem) hg ?_ 9999
      rw [eqTo_iff] at he2 ⊢
      intro j hj
      have := he2 j hj
      cases hgj : g j <;> cases hej : e.key j <;> simp [leafEq, hgj, hej] at this ⊢ <;> exact this.symm
    have hks : ∀ w, (Instr.keyThatStays (.agg (mkRow n e.key)) (.agg (mkRow n g))).run P w = .ok (.agg (mkRow n g)) w := fun w => by simp [Instr.keyThatStays, hsb]
    have hge : (((L.map (entOf n)).toArray[i]?).map (·.key)).getD (.agg (mkRow n g)) = .agg (mkRow n e.key) := by simp [he1, entOf]
    have hbo : (((L.map (entOf n)).toArray[i]?).map (·.born)).getD 0 = e.born := by simp [he1, entOf]
    have hmod : (turnAt L i g u).map (entOf n) = (L.map (entOf n)).modify i fun e => { e with key := .agg (mkRow n g) } := by
      apply List.ext_getElem?
      intro k
      simp only [turnAt, List.getElem?_map, List.getElem?_modify]
      by_cases hik : i = k
      · subst hik; simp [he1, entOf, he3]
      · cases L[k]? <;> simp [hik]
    simp only [hge, Result.andThen_ok, run_setMap h, mapObj, hmod]
    simp [hks, run_setMap h, he1, hbo, entOf]

theorem run_entryStore {w : World} {b n : Nat} {ls : List Leaf} {L : List Ent} {clock : Nat} (h : MapAt w b n ls L clock) (mt : TypeId) {i st : Nat} {e : Ent} (hi : L[i]? = some e) (hb : e.born = st) (hu : ∀ j e', L[j]? = some e' → e'.born = st → j = i) (v : Value) :
    (Instr.entryStore mt (.map (some b)) (goInt st) v).run P w = .ok () (putObj w b (mapObj n (L.modify i fun e => { e with val := v }) clock)) := by
  have hfi : (L.map (entOf n)).toArray.findIdx? (fun e => (e.born : Int) == (st : Int)) = some i := by
    rw [List.findIdx?_toArray, List.findIdx?_eq_some_iff_getElem]
    have hlt := (List.getElem?_eq_some_iff.1 hi).1
    refine ⟨by simpa using hlt, ?_, ?_⟩
    · have he : L[i] = e := (List.getElem?_eq_some_iff.1 hi).2
      simp [entOf, he, hb]
    · intro j hj
      simp only [List.getElem_map, entOf]
      intro hc
      have hjl : j < L.length := by omega
      have hc' : (L[j].born : Int) = (st : Int) := by simpa using hc
      have := hu j L[j] (by simp) (by omega)
      omega
  have hmod : (L.modify i fun e => { e with val := v }).map (entOf n) = (L.map (entOf n)).modify i fun e => { e with val := v } := map_modify_ent n L i _ _ (fun e => rfl)
  simp only [Instr.entryStore, Sem.run_bind, run_getMap h, Result.andThen_ok, mapObj, goInt, asInt, asIntOf, Sem.run_pure, hfi, run_setMap h, hmod]
  simp [run_setMap h]

theorem findI_turn {n : Nat} {g : Nat → Value} (hgg : eqTo g g n = true) (v : Value) : ∀ {L : List Ent} {s i : Nat} {u : Value}, findI n g L s = some (i, u) → findI n g (turnAt L (i - s) g v) s = some (i, v)
  | [], _, _, _, h => by simp [findI] at h
  | e :: L, s, i, u, h => by
    simp only [findI] at h
    split at h
    · rename_i he
      simp only [Option.some.injEq, Prod.mk.injEq] at h
      obtain ⟨rfl, rfl⟩ := h
      simp [turnAt, findI, hgg]
    · rename_i hne
      obtain ⟨e', h1, -⟩ := findI_spec h
      have hs : i - s = (i - (s + 1)) + 1 := by omega
      have ih := findI_turn hgg v h
      unfold turnAt at *
      rw [hs, List.modify_succ_cons]
      simp only [findI, hne]
      exact ih
theorem findI_push {n : Nat} {g : Nat → Value} (hgg : eqTo g g n = true) (v : Value) (c : Nat) : ∀ {L : List Ent} {s : Nat}, findI n g L s = none → findI n g (L ++ [⟨g, v, c⟩]) s = some (s + L.length, v)
  | [], s, _ => by simp [findI, hgg]
  | e :: L, s, h => by
    simp only [findI] at h
    split at h
    · cases h
    · rename_i hne
      have ih := findI_push hgg v c h
      simp only [List.cons_append, findI, hne, List.length_cons]
      rw [ih]
      simp; omega

/-- After 'm[k]' has found or made its entry: it is one, its value stands there, and what is written into it is what 'm[k] = u' would leave. -/
theorem entry_steps {n : Nat} {L : List Ent} {clock : Nat} {g : Nat → Value} (hgg : eqTo g g n = true) (hborn : ∀ (i j : Nat) (ei ej : Ent), L[i]? = some ei → L[j]? = some ej → ei.born = ej.born → i = j) (hclock : ∀ e ∈ L, e.born < clock) (v z : Value) :
    ∃ i e, (putEnt n L clock g v).1[i]? = some e ∧ e.born = stampOf n L clock g ∧ (∀ j e', (putEnt n L clock g v).1[j]? = some e' → e'.born = stampOf n L clock g → j = i) ∧ valOf n (putEnt n L clock g v).1 g z = v ∧
      ∀ u, ((putEnt n L clock g v).1.modify i fun e => { e with val := u }) = (putEnt n L clock g u).1 ∧ (putEnt n L clock g v).2 = (putEnt n L clock g u).2 := by
  unfold putEnt stampOf valOf
  cases hf : findI n g L 0 with
  | some p =>
    obtain ⟨i, u0⟩ := p
    obtain ⟨e0, -, h1, h2, h3⟩ := findI_spec hf
    rw [Nat.sub_zero] at h1
    have hft := findI_turn hgg v hf
    rw [Nat.sub_zero] at hft
    have hget : ∀ j, (turnAt L i g v)[j]? = if i = j then (L[j]?).map fun e => { e with key := g, val := v } else L[j]? := fun j => by
      unfold turnAt
      rw [List.getElem?_modify]
      by_cases h : i = j <;> simp [h]
    refine ⟨i, { e0 with key := g, val := v }, ?_, ?_, ?_, ?_, fun u => ⟨?_, rfl⟩⟩
    · simp only [hget, if_pos, h1]; rfl
    · simp [h1]
    · intro j e' hj hb
      simp only [hget] at hj
      simp only [h1, Option.map_some, Option.getD_some] at hb
      by_cases hij : i = j
      · exact hij.symm
      · rw [if_neg hij] at hj
        exact hborn j i e' e0 hj h1 hb
    · simp only [hft]
    · apply List.ext_getElem?
      intro k
      simp only [List.getElem?_modify, turnAt]
      by_cases hik : i = k
      · subst hik; simp [h1]
      · cases L[k]? <;> simp [hik]
  | none =>
    have hft := findI_push hgg v clock hf
    refine ⟨L.length, ⟨g, v, clock⟩, by simp, rfl, ?_, ?_, fun u => ⟨?_, rfl⟩⟩
    · intro j e' hj hb
      rcases Nat.lt_or_ge j L.length with hl | hl
      · simp only at hj
        rw [List.getElem?_append_left hl] at hj
        have := hclock e' (List.mem_of_getElem? hj)
        simp only at hb
        omega
      · have := (List.getElem?_eq_some_iff.1 hj).1
        simp at this
        omega
    · simp only [hft]
    · simp only
      apply List.ext_getElem?
      intro k
      rw [List.getElem?_modify]
      rcases Nat.lt_or_ge k L.length with hl | hl
      · rw [List.getElem?_append_left hl, List.getElem?_append_left hl]
        have : L.length ≠ k := by omega
        cases L[k]? <;> simp [this]
      · by_cases hk : L.length = k
        · subst hk; simp
        · rw [List.getElem?_eq_none (by simp; omega), List.getElem?_eq_none (by simp; omega)]; simp
end Go.Proofs.YtkcambhojpafkaaDoor
