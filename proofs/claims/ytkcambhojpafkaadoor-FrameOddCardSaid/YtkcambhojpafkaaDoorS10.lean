/- Layer 15's log: what it has been told. -/
import Derived.Test.YtkcambhojpafkaaDoorProg
import Derived.Test.YtkcambhojpafkaaDoorB3
import Derived.Test.YtkcambhojpafkaaDoorS7
set_option linter.unusedSimpArgs false
set_option linter.unusedVariables false
namespace Go.Proofs.YtkcambhojpafkaaDoor
open Go Go.RowKit

/-- Five numbers are the same. -/
def same5 (k x : Nat → Int) : Prop := ∀ j, j < 5 → k j = x j
instance (k x : Nat → Int) : Decidable (same5 k x) := inferInstanceAs (Decidable (∀ j, j < 5 → k j = x j))
theorem same5.refl (k : Nat → Int) : same5 k k := fun _ _ => rfl
theorem same5.symm {k x : Nat → Int} (h : same5 k x) : same5 x k := fun j hj => (h j hj).symm
theorem same5.trans {k x y : Nat → Int} (h : same5 k x) (h' : same5 x y) : same5 k y := fun j hj => (h j hj).trans (h' j hj)
/-- How often a result is there. -/
def many (M : List (Nat → Int)) (k : Nat → Int) : Nat := (M.filter fun x => decide (same5 x k)).length
theorem many_snoc (M : List (Nat → Int)) (x k : Nat → Int) : many (M ++ [x]) k = many M k + if same5 x k then 1 else 0 := by
  unfold many
  rw [List.filter_append, List.length_append]
  congr 1
  by_cases h : same5 x k <;> simp [h]
theorem many_congr {M : List (Nat → Int)} {k k' : Nat → Int} (h : same5 k k') : many M k = many M k' := by
  unfold many
  congr 1
  apply List.filter_congr
  intro x _
  have : same5 x k ↔ same5 x k' := ⟨fun hx => hx.trans h, fun hx => hx.trans h.symm⟩
  simp [this]
theorem many_pos {M : List (Nat → Int)} {x : Nat → Int} (h : x ∈ M) : 0 < many M x := by
  unfold many
  apply List.length_pos_of_mem (a := x)
  rw [List.mem_filter]
  exact ⟨h, by simp [same5]⟩
theorem many_zero {M : List (Nat → Int)} {k : Nat → Int} (h : ∀ x ∈ M, ¬ same5 x k) : many M k = 0 := by
  unfold many
  rw [List.length_eq_zero_iff, List.filter_eq_nil_iff]
  intro x hx
  simpa using h x hx
theorem many_le (M : List (Nat → Int)) (k : Nat → Int) : many M k ≤ M.length := List.length_filter_le _ _

def fiveLs : List Leaf := List.replicate 5 (.int .i64)
theorem fiveKey : KeyType Tryd.prog 25 5 fiveLs := ⟨leaves_five, rfl, _, Tryd.underlying25, rfl⟩
theorem zero_i64 (w : World) : (zeroValue 3).run Tryd.prog w = .ok (.int .i64 0) w := by kernel_rfl
/-- Five numbers as cells. -/
def ints (k : Nat → Int) (j : Nat) : Value := .int .i64 (k j)
theorem ints_eq {k x : Nat → Int} : eqTo (ints k) (ints x) 5 = true ↔ same5 k x := eqTo_ints
theorem fits_five (k : Nat → Int) : fits fiveLs (ints k) := fits_ints .i64 5 k

/-- What the entries of a log tell of all that it has been told. -/
structure Told (L : List Ent) (c : Nat) (M : List (Nat → Int)) : Prop where
  ent : ∀ e ∈ L, ∃ k, e.key = ints k ∧ e.val = .int .i64 (many M k) ∧ 0 < many M k
  all : ∀ x ∈ M, ∃ e ∈ L, ∃ k, e.key = ints k ∧ same5 k x
  one : ∀ (i j : Nat) (ei ej : Ent), L[i]? = some ei → L[j]? = some ej → eqTo ei.key ej.key 5 = true → i = j
  born : ∀ (i j : Nat) (ei ej : Ent), L[i]? = some ei → L[j]? = some ej → ei.born = ej.born → i = j
  clock : ∀ e ∈ L, e.born < c

theorem Told.nil : Told [] 0 [] := ⟨by simp, by simp, by simp, by simp, by simp⟩
theorem Told.fit {L : List Ent} {c : Nat} {M : List (Nat → Int)} (h : Told L c M) : ∀ e ∈ L, fits fiveLs e.key := fun e he => by
  obtain ⟨k, hk, -⟩ := h.ent e he
  rw [hk]; exact fits_five k

theorem findI_none {n : Nat} {g : Nat → Value} : ∀ {L : List Ent} {i : Nat}, findI n g L i = none → ∀ e ∈ L, eqTo g e.key n = false
  | [], _, _, e, he => by cases he
  | e0 :: L, i, h, e, he => by
    simp only [findI] at h
    split at h
    · cases h
    · rename_i hne
      rcases List.mem_cons.1 he with rfl | he
      · simpa using hne
      · exact findI_none h e he

theorem Told.val {L : List Ent} {c : Nat} {M : List (Nat → Int)} (h : Told L c M) (x : Nat → Int) : valOf 5 L (ints x) (.int .i64 0) = .int .i64 (many M x) := by
  unfold valOf
  cases hf : findI 5 (ints x) L 0 with
  | some p =>
    obtain ⟨i, v⟩ := p
    obtain ⟨e, -, h1, h2, h3⟩ := findI_spec hf
    obtain ⟨k, hk, hv, -⟩ := h.ent e (List.mem_of_getElem? h1)
    rw [hk] at h2
    have := ints_eq.1 h2
    show v = _
    rw [← h3, hv, many_congr this.symm]
  | none =>
    have hz : many M x = 0 := many_zero fun y hy hs => by
      obtain ⟨e, he, k, hk, hks⟩ := h.all y hy
      have := findI_none hf e he
      rw [hk] at this
      have h2 := ints_eq.2 ((hks.trans hs).symm)
      rw [h2] at this
      cases this
    show Value.int .i64 0 = _
    rw [hz]; rfl

theorem getElem?_turn (L : List Ent) (i : Nat) (g : Nat → Value) (v : Value) (j : Nat) : (turnAt L i g v)[j]? = if i = j then (L[j]?).map fun e => { e with key := g, val := v } else L[j]? := by
  unfold turnAt
  rw [List.getElem?_modify]
  by_cases h : i = j
  · simp [h]
  · simp [h]

theorem Told.put {L : List Ent} {c : Nat} {M : List (Nat → Int)} (h : Told L c M) (x : Nat → Int) :
    Told (putEnt 5 L c (ints x) (.int .i64 (many M x + 1 : Nat))).1 (putEnt 5 L c (ints x) (.int .i64 (many M x + 1 : Nat))).2 (M ++ [x]) := by
  unfold putEnt
  cases hf : findI 5 (ints x) L 0 with
  | some p =>
    obtain ⟨i, v⟩ := p
    obtain ⟨e0, -, h1, h2, h3⟩ := findI_spec hf
    rw [Nat.sub_zero] at h1
    obtain ⟨k0, hk0, hv0, hp0⟩ := h.ent e0 (List.mem_of_getElem? h1)
    have hsame : same5 x k0 := by rw [hk0] at h2; exact ints_eq.1 h2
    simp only
    have key : ∀ (j : Nat) (e : Ent), (turnAt L i (ints x) (.int .i64 (many M x + 1 : Nat)))[j]? = some e → ∃ e' : Ent, L[j]? = some e' ∧ e.born = e'.born ∧ eqTo e.key e'.key 5 = true ∧ eqTo e'.key e.key 5 = true := fun j e he => by
      rw [getElem?_turn] at he
      by_cases hij : i = j
      · subst hij
        rw [if_pos rfl, h1] at he
        simp at he
        subst he
        exact ⟨e0, h1, rfl, h2, by rw [hk0]; exact ints_eq.2 hsame.symm⟩
      · rw [if_neg hij] at he
        obtain ⟨k, hk, -⟩ := h.ent e (List.mem_of_getElem? he)
        exact ⟨e, he, rfl, by rw [hk]; exact ints_eq.2 fun _ _ => rfl, by rw [hk]; exact ints_eq.2 fun _ _ => rfl⟩
    refine ⟨fun e he => ?_, fun y hy => ?_, fun a b ea eb ha hb hab => ?_, fun a b ea eb ha hb hab => ?_, fun e he => ?_⟩
    · obtain ⟨j, hj⟩ := List.getElem?_of_mem he
      rw [getElem?_turn] at hj
      by_cases hij : i = j
      · subst hij
        rw [if_pos rfl, h1] at hj
        simp at hj
        subst hj
        refine ⟨x, rfl, ?_, ?_⟩
        · rw [many_snoc, if_pos (same5.refl x)]; simp
        · rw [many_snoc, if_pos (same5.refl x)]; omega
      · rw [if_neg hij] at hj
        obtain ⟨k, hk, hv, hp⟩ := h.ent e (List.mem_of_getElem? hj)
        have hns : ¬ same5 x k := fun hs => hij (h.one i j e0 e h1 hj (by rw [hk0, hk]; exact ints_eq.2 (hsame.symm.trans hs)))
        exact ⟨k, hk, by rw [many_snoc, if_neg hns]; exact hv, by rw [many_snoc, if_neg hns]; exact hp⟩
    · have hin : ∀ e ∈ L, ∀ k, e.key = ints k → ∃ e' ∈ turnAt L i (ints x) (.int .i64 (many M x + 1 : Nat)), ∃ k', e'.key = ints k' ∧ same5 k' k := fun e he k hk => by
        obtain ⟨j, hj⟩ := List.getElem?_of_mem he
        by_cases hij : i = j
        · subst hij
          rw [h1] at hj
          obtain rfl := Option.some.inj hj
          refine ⟨{ e0 with key := ints x, val := .int .i64 (many M x + 1 : Nat) }, List.mem_of_getElem? (i := i) (by rw [getElem?_turn, if_pos rfl, h1]; rfl), x, rfl, ?_⟩
          rw [hk] at hk0
          have hkk : same5 k k0 := fun j _ => by have := congrFun hk0 j; simpa [ints] using this
          exact hsame.trans hkk.symm
        · exact ⟨e, List.mem_of_getElem? (i := j) (by rw [getElem?_turn, if_neg hij]; exact hj), k, hk, fun _ _ => rfl⟩
      rcases List.mem_append.1 hy with hy | hy
      · obtain ⟨e, he, k, hk, hks⟩ := h.all y hy
        obtain ⟨e', he', k', hk', hkk⟩ := hin e he k hk
        exact ⟨e', he', k', hk', hkk.trans hks⟩
      · obtain rfl := List.mem_singleton.1 hy
        obtain ⟨e', he', k', hk', hkk⟩ := hin e0 (List.mem_of_getElem? h1) k0 hk0
        exact ⟨e', he', k', hk', hkk.trans hsame.symm⟩
    · obtain ⟨ea', ha1, -, ha2, ha3⟩ := key a ea ha
      obtain ⟨eb', hb1, -, hb2, hb3⟩ := key b eb hb
      refine h.one a b ea' eb' ha1 hb1 ?_
      rw [eqTo_iff] at *
      intro j hj
      have q1 := ha3 j hj
      have q2 := hab j hj
      have q3 := hb2 j hj
      cases e1 : ea'.key j <;> cases e2 : ea.key j <;> simp [leafEq, e1, e2] at q1 <;> cases e3 : eb.key j <;> simp [leafEq, e2, e3] at q2 <;> cases e4 : eb'.key j <;> simp [leafEq, e3, e4] at q3 <;> simp [leafEq, q1, q2, q3]
    · obtain ⟨ea', ha1, ha2, -⟩ := key a ea ha
      obtain ⟨eb', hb1, hb2, -⟩ := key b eb hb
      exact h.born a b ea' eb' ha1 hb1 (by rw [← ha2, ← hb2]; exact hab)
    · obtain ⟨j, hj⟩ := List.getElem?_of_mem he
      obtain ⟨e', h1', h2', -⟩ := key j e hj
      rw [h2']; exact h.clock e' (List.mem_of_getElem? h1')
  | none =>
    simp only
    have hno := findI_none hf
    have hz : ∀ y ∈ M, ¬ same5 y x := fun y hy hs => by
      obtain ⟨e, he, k, hk, hks⟩ := h.all y hy
      have := hno e he
      rw [hk, ints_eq.2 ((hks.trans hs).symm)] at this
      cases this
    have hm0 := many_zero hz
    have key : ∀ (j : Nat) (e : Ent), (L ++ [(⟨ints x, .int .i64 (many M x + 1 : Nat), c⟩ : Ent)])[j]? = some e → (L[j]? = some e) ∨ (j = L.length ∧ e = ⟨ints x, .int .i64 (many M x + 1 : Nat), c⟩) := fun j e he => by
      rcases Nat.lt_or_ge j L.length with hl | hl
      · rw [List.getElem?_append_left hl] at he; exact .inl he
      · rw [List.getElem?_append_right hl] at he
        have : j - L.length = 0 := by
          rcases Nat.lt_or_ge (j - L.length) 1 with h0 | h0
          · omega
          · rw [List.getElem?_eq_none (by simpa using h0)] at he; cases he
        rw [this] at he
        simp at he
        exact .inr ⟨by omega, he.symm⟩
    refine ⟨fun e he => ?_, fun y hy => ?_, fun a b ea eb ha hb hab => ?_, fun a b ea eb ha hb hab => ?_, fun e he => ?_⟩
    · rcases List.mem_append.1 he with he | he
      · obtain ⟨k, hk, hv, hp⟩ := h.ent e he
        have hns : ¬ same5 x k := fun hs => by
          have := hno e he
          rw [hk, ints_eq.2 hs] at this
          cases this
        exact ⟨k, hk, by rw [many_snoc, if_neg hns]; exact hv, by rw [many_snoc, if_neg hns]; exact hp⟩
      · obtain rfl := List.mem_singleton.1 he
        exact ⟨x, rfl, by rw [many_snoc, if_pos (same5.refl x)], by rw [many_snoc, if_pos (same5.refl x)]; omega⟩
    · rcases List.mem_append.1 hy with hy | hy
      · obtain ⟨e, he, k, hk, hks⟩ := h.all y hy
        exact ⟨e, by simp [he], k, hk, hks⟩
      · obtain rfl := List.mem_singleton.1 hy
        exact ⟨_, List.mem_append.2 (.inr (List.mem_singleton.2 rfl)), y, rfl, fun _ _ => rfl⟩
    · rcases key a ea ha with ha | ⟨ha, rfl⟩ <;> rcases key b eb hb with hb | ⟨hb, rfl⟩
      · exact h.one a b ea eb ha hb hab
      · have := hno ea (List.mem_of_getElem? ha)
        obtain ⟨k, hk, -⟩ := h.ent ea (List.mem_of_getElem? ha)
        rw [hk] at hab this
        rw [ints_eq.2 (ints_eq.1 hab).symm] at this
        cases this
      · have := hno eb (List.mem_of_getElem? hb)
        simp only at hab
        rw [hab] at this
        cases this
      · omega
    · rcases key a ea ha with ha | ⟨ha, rfl⟩ <;> rcases key b eb hb with hb | ⟨hb, rfl⟩
      · exact h.born a b ea eb ha hb hab
      · have := h.clock ea (List.mem_of_getElem? ha); simp only at hab; omega
      · have := h.clock eb (List.mem_of_getElem? hb); simp only at hab; omega
      · omega
    · rcases List.mem_append.1 he with he | he
      · have := h.clock e he; omega
      · obtain rfl := List.mem_singleton.1 he; simp

/-! ### The walk of Add -/
/-- w' has grown out of w, but for block m. -/
structure XO (m : Nat) (w w' : World) : Prop where
  os : w'.os = w.os
  tape : w'.tape = w.tape
  output : w'.output = w.output
  size : w.heap.size ≤ w'.heap.size
  block : ∀ k, k < w.heap.size → k ≠ m → w'.heap[k]? = w.heap[k]?
theorem XO.refl (m : Nat) (w : World) : XO m w w := ⟨rfl, rfl, rfl, Nat.le_refl _, fun _ _ _ => rfl⟩
theorem XO.trans {m : Nat} {a b c : World} (h : XO m a b) (k : XO m b c) : XO m a c :=
  ⟨k.os.trans h.os, k.tape.trans h.tape, k.output.trans h.output, Nat.le_trans h.size k.size, fun i hi hm => (k.block i (Nat.lt_of_lt_of_le hi h.size) hm).trans (h.block i hi hm)⟩
theorem XO.of_x (m : Nat) {a b : World} (h : XE a b) : XO m a b := ⟨h.below.os, h.below.tape, h.below.output, h.size, fun i hi _ => h.heap hi⟩
theorem XO.put {m : Nat} {w w' : World} (h : XO m w w') (o : Obj) : XO m w (putObj w' m o) :=
  ⟨h.os, h.tape, h.output, by simpa using h.size, fun k hk hkm => (putObj_other _ hkm).trans (h.block k hk hkm)⟩
theorem XO.own {m : Nat} {w0 w w' : World} (h : XO m w w') (hx : XE w0 w) (hm : w0.heap.size ≤ m) : XE w0 w' := .of_below
  ⟨h.os.trans hx.below.os, h.tape.trans hx.below.tape, h.output.trans hx.below.output, Nat.le_trans hx.size h.size, fun k hk => (h.block k (Nat.lt_of_lt_of_le hk hx.size) (by omega)).trans (hx.heap hk)⟩
/-- A log at block m that has been told M. -/
def LogAt (w : World) (m : Nat) (M : List (Nat → Int)) : Prop := ∃ L c, MapAt w m 5 fiveLs L c ∧ Told L c M
theorem LogAt.lt {w : World} {m : Nat} {M : List (Nat → Int)} (h : LogAt w m M) : m < w.heap.size := by obtain ⟨L, c, h1, -⟩ := h; exact h1.lt
theorem LogAt.x {w w' : World} {m : Nat} {M : List (Nat → Int)} (h : LogAt w m M) (hx : XE w w') : LogAt w' m M := by obtain ⟨L, c, h1, h2⟩ := h; exact ⟨L, c, h1.x hx, h2⟩
theorem LogAt.ne {w : World} {m : Nat} {M : List (Nat → Int)} (h : LogAt w m M) {a : Addr} {v : Value} (hc : w.cell? a = some v) : a.block ≠ m := by
  obtain ⟨L, c, h1, -⟩ := h
  intro e; subst e
  simp [World.cell?, h1.obj, mapObj] at hc
theorem XO.cell {m : Nat} {w w' : World} (h : XO m w w') {M : List (Nat → Int)} (hl : LogAt w m M) {a : Addr} {v : Value} (hc : w.cell? a = some v) : w'.cell? a = some v := by
  rw [World.cell?_of_block (h.block a.block (World.block_lt_of_cell? w a hc) (hl.ne hc))]; exact hc

/-- Results that lie in a slice: len of them, at block b from place o on. -/
def FivesAt (w : World) (b o len : Nat) (xs : Nat → Nat → Int) : Prop := ∀ i, i < len → ∀ j, j < 5 → w.cell? ⟨b, o + i * 5 + j, none⟩ = some (.int .i64 (xs i j))

set_option maxHeartbeats 1000000 in
theorem logAdd_any (m b o len cp : Nat) (xs : Nat → Nat → Int) (a : Option Addr) (M : List (Nat → Int)) (w : World) (hl : LogAt w m M) (hlen : len ≤ 1000000) (hM : M.length ≤ 1000000) (ha : 0 < len → a = some ⟨b, o, none⟩) (hx : FivesAt w b o len xs) :
    Calls Tryd.prog 17 #[.map (some m), .slice a len cp] w fun e w' => e = .returned (.tuple #[]) ∧ LogAt w' m (M ++ (List.range len).map xs) ∧ XO m w w' := by
  have HL := Lib.hid hl; clear hl
  have HA := Lib.hid ha; clear ha
  have HX := Lib.hid hx; clear hx
  go_enter Tryd.func17, Tryd.ntmps17
  go_wp2
  go_loopw [8] (fun i wr => ∃ n : Nat, n ≤ len ∧ i = .int .i64 n ∧ LogAt wr m (M ++ (List.range n).map xs) ∧ XO m w wr) (fun i _ => len - (intOf i).toNat)
  case atStart => exact ⟨0, by omega, rfl, by simpa using HL.out, XO.refl _ _⟩
  case round =>
    obtain ⟨n, hn, rfl, hlr, hxr⟩ := hrel
    have HLR := Lib.hid hlr; clear hlr
    have HXR := Lib.hid hxr; clear hxr
    by_cases hlt : n < len
    · obtain rfl := HA.out (by omega)
      have hel : ∀ j, j < 5 → wr.cell? ⟨b, o + n * 5 + j, none⟩ = some (.int .i64 (xs n j)) := fun j hj => HXR.out.cell HL.out (HX.out n hlt j hj)
      have HEL := Lib.hid hel; clear hel
      have HZ := Lib.hid (cells_zero5 wr 25)
      go_upto_region 3 with (first
        | ((with_reducible refine wpList_load_part 25 (.tmp 10) ?_ ?_ (b) (o + n * 5) 5 ?_ (fun j => .int .i64 (xs n j)) _ (HEL.out) Tryd.underlying25 ?_ info_five ?_); (· rfl); (· rfl); (· rfl); (· rfl))
        | ((with_reducible refine wpList_store_part 25 (.tmp 5) (.tmp 11) ?_ ?_ ?_ (wr.heap.size) (0) 5 (fun j => .int .i64 (xs n j)) ?_ ?_ (HZ.out) (by omega) info_five (fun _ _ => rfl) ?_); (· rfl); (· rfl); (· rfl); (· rfl); (· rfl)))
      have hX7 : XE wr ((wr.alloc (.cells #[.int .i64 0, .int .i64 0, .int .i64 0, .int .i64 0, .int .i64 0] 25)).setCells wr.heap.size 0 (mkRow 5 fun j => .int .i64 (xs n j)).toList) := ((XE.refl wr).alloc _).setCells (Nat.le_refl _) 0 _
      have hF7 := HZ.out.putRow (o := 0) (m := 5) (f := fun j => .int .i64 (xs n j)) (g' := fun j => .int .i64 (xs n j)) (by omega) (fun i hi => by rw [if_pos ⟨by omega, by omega⟩]; rfl)
      generalize (wr.alloc (.cells #[.int .i64 0, .int .i64 0, .int .i64 0, .int .i64 0, .int .i64 0] 25)).setCells wr.heap.size 0 (mkRow 5 fun j => .int .i64 (xs n j)).toList = w7 at *
      have c0 := hF7.cell 0 (by omega)
      have c1 := hF7.cell 1 (by omega)
      have c2 := hF7.cell 2 (by omega)
      have c3 := hF7.cell 3 (by omega)
      have c4 := hF7.cell 4 (by omega)
      obtain ⟨L, cl, hmap, htold⟩ := HLR.out.x hX7
      have hmapd : MapAt w7.drew m 5 fiveLs L cl := ⟨hmap.obj, hmap.fit⟩
      have hl1 := run_lookup1 hmapd fiveKey Tryd.underlying36 zero_i64 (g := ints (xs n)) (fits_five _)
      have he1 := run_mapEntry hmapd fiveKey Tryd.underlying36 zero_i64 (g := ints (xs n)) (fits_five _)
      rw [htold.val] at hl1 he1
      have hput := htold.put (xs n)
      have hml := many_le (M ++ (List.range n).map xs) (xs n)
      rw [List.length_append, List.length_map, List.length_range] at hml
      obtain ⟨i, e, s1, s2, s3, s4, s5⟩ := entry_steps (n := 5) (L := L) (clock := cl) (g := ints (xs n)) (ints_eq.2 (same5.refl _)) htold.born htold.clock (.int .i64 (many (M ++ (List.range n).map xs) (xs n))) (.int .i64 0)
      have hm8 : MapAt (putObj w7.drew m (mapObj 5 (putEnt 5 L cl (ints (xs n)) (.int .i64 (many (M ++ (List.range n).map xs) (xs n)))).1 (putEnt 5 L cl (ints (xs n)) (.int .i64 (many (M ++ (List.range n).map xs) (xs n)))).2)) m 5 fiveLs
          (putEnt 5 L cl (ints (xs n)) (.int .i64 (many (M ++ (List.range n).map xs) (xs n)))).1 (putEnt 5 L cl (ints (xs n)) (.int .i64 (many (M ++ (List.range n).map xs) (xs n)))).2 :=
        ⟨putObj_same _ hmapd.lt, fits_put hmapd.fit (fits_five _) _ _⟩
      have hl2 := run_lookup1 hm8 fiveKey Tryd.underlying36 zero_i64 (g := ints (xs n)) (fits_five _)
      rw [s4] at hl2
      have hs := run_entryStore (P := Tryd.prog) hm8 36 s1 s2 s3 (.int .i64 ((many (M ++ (List.range n).map xs) (xs n) : Int) + 1))
      have hput' : Told ((putEnt 5 L cl (ints (xs n)) (.int .i64 (many (M ++ (List.range n).map xs) (xs n)))).1.modify i fun e => { e with val := .int .i64 ((many (M ++ (List.range n).map xs) (xs n) : Int) + 1) }) (putEnt 5 L cl (ints (xs n)) (.int .i64 (many (M ++ (List.range n).map xs) (xs n)))).2 (M ++ (List.range (n + 1)).map xs) := by
        rw [(s5 (.int .i64 ((many (M ++ (List.range n).map xs) (xs n) : Int) + 1))).1, (s5 (.int .i64 ((many (M ++ (List.range n).map xs) (xs n) : Int) + 1))).2, List.range_succ, List.map_append, ← List.append_assoc]
        exact hput
      have hX8 := ((XO.refl m w7).trans (XO.of_x m ((XE.refl w7).drew))).put (mapObj 5 (putEnt 5 L cl (ints (xs n)) (.int .i64 (many (M ++ (List.range n).map xs) (xs n)))).1 (putEnt 5 L cl (ints (xs n)) (.int .i64 (many (M ++ (List.range n).map xs) (xs n)))).2)
      have hfit9 : ∀ e ∈ ((putEnt 5 L cl (ints (xs n)) (.int .i64 (many (M ++ (List.range n).map xs) (xs n)))).1.modify i fun e => { e with val := .int .i64 ((many (M ++ (List.range n).map xs) (xs n) : Int) + 1) }), fits fiveLs e.key := hput'.fit
      have hlt8 := hm8.lt
      generalize putEnt 5 L cl (ints (xs n)) (.int .i64 (many (M ++ (List.range n).map xs) (xs n))) = pe at *
      generalize many (M ++ (List.range n).map xs) (xs n) = v at *
      generalize hw8 : putObj w7.drew m (mapObj 5 pe.1 pe.2) = w8 at *
      have HW8 := Lib.hid hw8; clear hw8
      have hl9 : LogAt (putObj w8 m (mapObj 5 (pe.1.modify i fun e => { e with val := .int .i64 ((v : Int) + 1) }) pe.2)) m (M ++ (List.range (n + 1)).map xs) := ⟨_, _, ⟨putObj_same _ hlt8, hfit9⟩, hput'⟩
      have hX9 := hX8.put (mapObj 5 (pe.1.modify i fun e => { e with val := .int .i64 ((v : Int) + 1) }) pe.2)
      generalize hw9 : putObj w8 m (mapObj 5 (pe.1.modify i fun e => { e with val := .int .i64 ((v : Int) + 1) }) pe.2) = w9 at *
      have HW9 := Lib.hid hw9; clear hw9
      generalize stampOf 5 L cl (ints (xs n)) = st at *
      have L1 : (Instr.lookup 36 (.map (some m)) (.agg #[.int .i64 (xs n 0), .int .i64 (xs n 1), .int .i64 (xs n 2), .int .i64 (xs n 3), .int .i64 (xs n 4)]) false).run Tryd.prog w7.drew = .ok (.int .i64 v) w7.drew := hl1
      have L2 : (Instr.lookup 36 (.map (some m)) (.agg #[.int .i64 (xs n 0), .int .i64 (xs n 1), .int .i64 (xs n 2), .int .i64 (xs n 3), .int .i64 (xs n 4)]) false).run Tryd.prog w8 = .ok (.int .i64 v) w8 := hl2
      have E1 : (Instr.mapEntry 36 (.map (some m)) (.agg #[.int .i64 (xs n 0), .int .i64 (xs n 1), .int .i64 (xs n 2), .int .i64 (xs n 3), .int .i64 (xs n 4)])).run Tryd.prog w7.drew = .ok (.tuple #[.int .i64 v, .int .i64 st]) w8 := he1
      have T1 : (Instr.entryStore 36 (.map (some m)) (.int .i64 st) (.int .i64 ((v : Int) + 1))).run Tryd.prog w8 = .ok () w9 := hs
      have HL9 := Lib.hid hl9
      have HX9 := Lib.hid hX9
      have HX7 := Lib.hid hX7
      clear hl1 hl2 he1 hs hput hput' hm8 hmapd hmap htold s1 s2 s3 s4 s5 hfit9 hX8 hX9 hl9 hF7 hX7
      go_region
      all_goals
        go_wp2
        go_roundw
        case rel => exact ⟨n + 1, by omega, by go_num, HL9.out, (HXR.out.trans (XO.of_x m HX7.out)).trans HX9.out⟩
        case measure => simp [intOf]; omega
    · obtain rfl : n = len := by omega
      go_wp2
      exact bodyPost_end (results_none rfl _ _ _) rfl ⟨rfl, HLR.out, HXR.out⟩
end Go.Proofs.YtkcambhojpafkaaDoor
