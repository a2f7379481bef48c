/- Layer 10's book: what it notes is right; the walk of V. -/
import Derived.Test.YtkcambhojpafkaaDoorProg
import Derived.Test.YtkcambhojpafkaaDoorB3
import Derived.Test.YtkcambhojpafkaaDoorM2
import Derived.Test.YtkcambhojpafkaaDoorS1
import Derived.Deep.DeepCutAuto
set_option linter.unusedSimpArgs false
set_option linter.unusedVariables false
namespace Go.Proofs.YtkcambhojpafkaaDoor
open Go Go.RowKit

def pairLs : List Leaf := [.int .i64, .int .i64]
theorem pairKey : KeyType Tryd.prog 171 2 pairLs := ⟨by kernel_rfl, rfl, _, Tryd.underlying171, rfl⟩
theorem zero_u64 (w : World) : (zeroValue 127).run Tryd.prog w = .ok (.int .u64 0) w := by kernel_rfl

/-- All that is noted is right. -/
def BookOk (L : List Ent) : Prop := ∀ e ∈ L, ∃ n k : Nat, n ≤ 16 ∧ k ≤ 32 ∧ e.key 0 = .int .i64 n ∧ e.key 1 = .int .i64 k ∧ e.val = .int .u64 (V n k)
theorem fits_pair (g : Nat → Value) (a b : Int) (h0 : g 0 = .int .i64 a) (h1 : g 1 = .int .i64 b) : fits pairLs g := fun j l hl => by
  match j with
  | 0 => simp [pairLs] at hl; subst hl; simp [Leaf.ok, h0]
  | 1 => simp [pairLs] at hl; subst hl; simp [Leaf.ok, h1]
  | j + 2 => simp [pairLs] at hl
theorem BookOk.fit {L : List Ent} (h : BookOk L) : ∀ e ∈ L, fits pairLs e.key := fun e he => by
  obtain ⟨n, k, -, -, h0, h1, -⟩ := h e he
  exact fits_pair _ _ _ h0 h1

/-- w' has grown out of w, but for the book's map at block m, which notes other things now, and all of them right. -/
structure XB (m : Nat) (w w' : World) : Prop where
  os : w'.os = w.os
  tape : w'.tape = w.tape
  output : w'.output = w.output
  size : w.heap.size ≤ w'.heap.size
  block : ∀ k, k < w.heap.size → k ≠ m → w'.heap[k]? = w.heap[k]?
  map : ∃ L c, w'.heap[m]? = some (mapObj 2 L c) ∧ BookOk L
/-- A book at block b, its map at block m. -/
structure BookAt (w : World) (b m : Nat) : Prop where
  ptr : w.cell? ⟨b, 0, none⟩ = some (.map (some m))
  map : ∃ L c, w.heap[m]? = some (mapObj 2 L c) ∧ BookOk L

theorem BookAt.self {w : World} {b m : Nat} (h : BookAt w b m) : XB m w w := ⟨rfl, rfl, rfl, Nat.le_refl _, fun _ _ _ => rfl, h.map⟩
theorem BookAt.lt {w : World} {b m : Nat} (h : BookAt w b m) : m < w.heap.size := by obtain ⟨L, c, h1, -⟩ := h.map; exact lt_of_some w h1
theorem XB.trans {m : Nat} {a b c : World} (h : XB m a b) (k : XB m b c) : XB m a c :=
  ⟨k.os.trans h.os, k.tape.trans h.tape, k.output.trans h.output, Nat.le_trans h.size k.size, fun i hi hm => (k.block i (Nat.lt_of_lt_of_le hi h.size) hm).trans (h.block i hi hm), k.map⟩
theorem XB.x {m : Nat} {a b c : World} (h : XB m a b) (k : XE b c) : XB m a c := by
  have hb := k.below
  obtain ⟨L, cl, h1, h2⟩ := h.map
  exact ⟨hb.os.trans h.os, hb.tape.trans h.tape, hb.output.trans h.output, Nat.le_trans h.size hb.size, fun i hi hm => (hb.block i (Nat.lt_of_lt_of_le hi h.size)).trans (h.block i hi hm), L, cl, k.obj h1, h2⟩
theorem block_of_cell {w : World} {a : Addr} {v : Value} (h : w.cell? a = some v) {m n : Nat} {L : List Ent} {c : Nat} (hm : w.heap[m]? = some (mapObj n L c)) : a.block ≠ m := by
  intro e
  subst e
  simp [World.cell?, hm, mapObj] at h
theorem XB.cell {b m : Nat} {w w' : World} (h : XB m w w') (hb : BookAt w b m) {a : Addr} {v : Value} (hc : w.cell? a = some v) : w'.cell? a = some v := by
  obtain ⟨L, c, h1, -⟩ := hb.map
  rw [World.cell?_of_block (h.block a.block (World.block_lt_of_cell? w a hc) (block_of_cell hc h1))]
  exact hc
theorem XB.frozen {b m : Nat} {w w' : World} (h : XB m w w') (hb : BookAt w b m) {a : Addr} {v : Value} (hc : w.cell? a = some v) : w'.frozen? a = w.frozen? a := by
  obtain ⟨L, c, h1, -⟩ := hb.map
  exact World.frozen?_of_block (h.block a.block (World.block_lt_of_cell? w a hc) (block_of_cell hc h1))
theorem XB.book {b m : Nat} {w w' : World} (h : XB m w w') (hb : BookAt w b m) : BookAt w' b m := ⟨h.cell hb hb.ptr, h.map⟩
theorem XB.cells {b m : Nat} {w w' : World} (h : XB m w w') (hb : BookAt w b m) {c n : Nat} {g : Nat → Value} (hc : Cells w c n g) : Cells w' c n g :=
  ⟨fun j hj => h.cell hb (hc.cell j hj), fun j hj => by rw [h.frozen hb (hc.cell j hj)]; exact hc.free j hj⟩
theorem XB.wid {b m : Nat} {w w' : World} (h : XB m w w') (hb : BookAt w b m) (hw : Wid w) : Wid w' := fun k hk => h.cell hb (hw k hk)
/-- A book of one's own: nothing that was there has turned. -/
theorem XB.own {m : Nat} {w0 w w' : World} (h : XB m w w') (hx : XE w0 w) (hm : w0.heap.size ≤ m) : XE w0 w' := .of_below
  ⟨h.os.trans hx.below.os, h.tape.trans hx.below.tape, h.output.trans hx.below.output, Nat.le_trans hx.size h.size, fun k hk => (h.block k (Nat.lt_of_lt_of_le hk hx.size) (by omega)).trans (hx.heap hk)⟩

/-- What a call comes to that answers v and may note in the book. -/
def RetB (m : Nat) (v : Value) (w : World) (e : Ending) (w' : World) : Prop := e = .returned v ∧ XB m w w'
def VZ (n k : Int) : Int := if 0 ≤ n ∧ n ≤ 16 ∧ 0 ≤ k ∧ k ≤ 32 then (V n.toNat k.toNat : Int) else 0
def pRight (n k : Int) : Bool := decide (0 ≤ n) && decide (n ≤ 16) && decide (0 ≤ k) && decide (k ≤ 32)
theorem pRight_iff {n k : Int} : pRight n k = true ↔ 0 ≤ n ∧ n ≤ 16 ∧ 0 ≤ k ∧ k ≤ 32 := by unfold pRight; simp [and_assoc]

theorem pairRight_any (n k : Int) (w : World) : Calls Tryd.prog 91 #[.agg #[.int .i64 n, .int .i64 k]] w (RetE (.bool (pRight n k)) w) := by
  by_cases hc : 0 ≤ n ∧ n ≤ 16 ∧ 0 ≤ k ∧ k ≤ 32
  · have hr : pRight n k = true := pRight_iff.2 hc
    obtain ⟨h1, h2, h3, h4⟩ := hc
    go_enter Tryd.func91, Tryd.ntmps91
    go_wp2
    go_ret
    exact ⟨by first | rfl | simp [hr], (by repeat (first | exact XE.refl _ | apply XE.ext | apply XE.alloc | apply XE.drew | apply XE.drewN))⟩
  · have hr : pRight n k = false := by
      cases h : pRight n k with
      | false => rfl
      | true => exact absurd (pRight_iff.1 h) hc
    go_enter Tryd.func91, Tryd.ntmps91
    go_wp2
    all_goals
      go_ret
      exact ⟨rb (by first | rfl | (simp [hr]; done) | (simp [hr]; omega)), (by repeat (first | exact XE.refl _ | apply XE.ext | apply XE.alloc | apply XE.drew | apply XE.drewN))⟩

/-- What is found of a pair is right. -/
theorem find_right {L : List Ent} (h : BookOk L) (n k : Nat) {i : Nat} {v : Value} (hf : findI 2 (fun j => if j = 0 then .int .i64 (n : Int) else .int .i64 (k : Int)) L 0 = some (i, v)) : v = .int .u64 (V n k) := by
  obtain ⟨e, -, h1, h2, h3⟩ := findI_spec hf
  obtain ⟨n', k', -, -, k0, k1, hv⟩ := h e (List.mem_of_getElem? h1)
  have a0 := eqTo_iff.1 h2 0 (by omega)
  have a1 := eqTo_iff.1 h2 1 (by omega)
  simp [leafEq, k0] at a0
  simp [leafEq, k1] at a1
  have b0 : n = n' := by omega
  have b1 : k = k' := by omega
  subst b0; subst b1
  rw [← h3, hv]

theorem BookOk.turn {L : List Ent} (h : BookOk L) {n k : Nat} (hn : n ≤ 16) (hk : k ≤ 32) {g : Nat → Value} (g0 : g 0 = .int .i64 n) (g1 : g 1 = .int .i64 k) (i : Nat) : BookOk (turnAt L i g (.int .u64 (V n k))) := fun e he => by
  obtain ⟨j, hj⟩ := List.getElem?_of_mem he
  unfold turnAt at hj
  rw [List.getElem?_modify] at hj
  cases hl : L[j]? with
  | none => rw [hl] at hj; simp at hj
  | some e0 =>
    rw [hl] at hj
    simp only [Option.map_eq_map, Option.map_some, Option.some.injEq] at hj
    by_cases hij : i = j
    · rw [if_pos hij] at hj; subst hj; exact ⟨n, k, hn, hk, g0, g1, rfl⟩
    · rw [if_neg hij] at hj; subst hj; exact h e0 (List.mem_of_getElem? hl)
theorem BookOk.push {L : List Ent} (h : BookOk L) {n k : Nat} (hn : n ≤ 16) (hk : k ≤ 32) {g : Nat → Value} (g0 : g 0 = .int .i64 n) (g1 : g 1 = .int .i64 k) (c : Nat) : BookOk (L ++ [⟨g, .int .u64 (V n k), c⟩]) := fun e he => by
  rcases List.mem_append.1 he with he | he
  · exact h e he
  · obtain rfl := List.mem_singleton.1 he; exact ⟨n, k, hn, hk, g0, g1, rfl⟩
theorem XB.put {m : Nat} {w w' : World} (h : XB m w w') {L : List Ent} {c : Nat} (hok : BookOk L) (hm : m < w'.heap.size) : XB m w (putObj w' m (mapObj 2 L c)) :=
  ⟨h.os, h.tape, h.output, by simpa using h.size, fun k hk hkm => (putObj_other _ hkm).trans (h.block k hk hkm), L, c, putObj_same _ hm, hok⟩

set_option maxHeartbeats 1000000 in
theorem bookV_in (b m : Nat) : ∀ (s n k : Nat), n + k = s → n ≤ 16 → k ≤ 32 → ∀ w, BookAt w b m → Calls Tryd.prog 60 #[.pointer (some ⟨b, 0, none⟩), .int .i64 n, .int .i64 k] w (RetB m (.int .u64 (V n k)) w) := by
  intro s
  induction s using Nat.strongRecOn with
  | _ s ih =>
    intro n k hs hn hk w hb
    have hp : pRight n k = true := pRight_iff.2 ⟨by omega, by omega, by omega, by omega⟩
    have IH := Lib.hid ih; clear ih
    have HB := Lib.hid hb; clear hb
    have HS := Lib.hid hs; clear hs
    by_cases k0 : k = 0
    · subst k0
      have hv := V_zero hn
      have HV := Lib.hid hv; clear hv
      change Calls Tryd.prog 60 #[.pointer (some ⟨b, 0, none⟩), .int .i64 n, .int .i64 0] w _
      have hp' : pRight n 0 = true := hp
      go_enter Tryd.func60, Tryd.ntmps60
      go_wp2_with (go_at_call 91; (with_reducible refine (pairRight_any _ _ _).mono ?_); rintro e w1 ⟨rfl, hx1⟩)
      go_ret
      exact ⟨ri (by rw [HV.out]; rfl), HB.out.self.x (((XE.refl w).alloc _).trans hx1)⟩
    · obtain ⟨q, rfl⟩ : ∃ q, k = q + 1 := ⟨k - 1, by omega⟩
      by_cases n0 : n = 0
      · subst n0
        have hv := V_none q
        have HV := Lib.hid hv; clear hv
        change Calls Tryd.prog 60 #[.pointer (some ⟨b, 0, none⟩), .int .i64 0, .int .i64 (q + 1 : Nat)] w _
        have hp' : pRight 0 ((q : Int) + 1) = true := hp
        have hq0 : ((q : Int) + 1 == 0) = false := by simp; omega
        go_enter Tryd.func60, Tryd.ntmps60
        go_wp2_with (go_at_call 91; (with_reducible refine (pairRight_any _ _ _).mono ?_); rintro e w1 ⟨rfl, hx1⟩)
        go_ret
        exact ⟨ri (by rw [HV.out]; rfl), HB.out.self.x (((XE.refl w).alloc _).trans hx1)⟩
      · obtain ⟨p, rfl⟩ : ∃ p, n = p + 1 := ⟨n - 1, by omega⟩
        have hp' : pRight ((p : Int) + 1) ((q : Int) + 1) = true := hp
        have hq0 : ((q : Int) + 1 == 0) = false := by simp; omega
        have hp0 : ((p : Int) + 1 == 0) = false := by simp; omega
        go_enter Tryd.func60, Tryd.ntmps60
        go_upto_region 8 with (go_at_call 91; (with_reducible refine (pairRight_any _ _ _).mono ?_); rintro e w1 ⟨rfl, hx1⟩)
        have hXw := ((XE.refl w).alloc (.cells #[.int .i64 ((p : Int) + 1), .int .i64 ((q : Int) + 1)] 171)).trans hx1
        have hb1 : BookAt w1 b m := (HB.out.self.x hXw).book HB.out
        have hP : Cells w1 w.heap.size 2 (fun j => if j = 0 then .int .i64 ((p : Int) + 1) else .int .i64 ((q : Int) + 1)) := (Cells.made (n := 2) rfl fun j hj => by
          have : j = 0 ∨ j = 1 := by omega
          rcases this with rfl | rfl <;> rfl).x hx1
        clear hx1
        have cb := hb1.ptr
        have c0 := hP.cell 0 (by omega)
        have c1 := hP.cell 1 (by omega)
        simp only [if_true, show (1 : Nat) ≠ 0 by omega, if_false] at c0 c1
        obtain ⟨L, cl, hobj, hok⟩ := hb1.map
        have hmap : MapAt w1 m 2 pairLs L cl := ⟨hobj, hok.fit⟩
        have hlook := fun d => run_lookup (hmap.x (xe_ext w1 d)) pairKey Tryd.underlying118 zero_u64 (g := fun j => if j = 0 then .int .i64 ((p : Int) + 1) else .int .i64 ((q : Int) + 1)) (fits_pair _ _ _ rfl rfl) true
        have HOK := Lib.hid hok; clear hok
        have HB1 := Lib.hid hb1; clear hb1
        have HPc := Lib.hid hP; clear hP
        clear hmap hobj
        cases hf : findI 2 (fun j => if j = 0 then .int .i64 ((p : Int) + 1) else .int .i64 ((q : Int) + 1)) L 0 with
        | some r =>
          obtain ⟨i, v⟩ := r
          rw [hf] at hlook
          have hv := find_right HOK.out (p + 1) (q + 1) hf
          subst hv
          have HL : ∀ d, (Instr.lookup 118 (.map (some m)) (.agg #[.int .i64 ((p : Int) + 1), .int .i64 ((q : Int) + 1)]) true).run Tryd.prog (ext w1 d) = .ok (.tuple #[.int .u64 (V (p + 1) (q + 1)), .bool true]) (ext w1 d) := hlook
          clear hlook hf
          refine wp_region_grown (by kernel_rfl) (by kernel_rfl) ?_; (repeat (go_big_quiet_step (fail))); refine wpQuiet_nil ?_; rintro _ ⟨dq, rfl⟩
          go_wp2
          go_ret
          exact ⟨rfl, HB.out.self.x (hXw.ext dq)⟩
        | none =>
          rw [hf] at hlook
          have HL : ∀ d, (Instr.lookup 118 (.map (some m)) (.agg #[.int .i64 ((p : Int) + 1), .int .i64 ((q : Int) + 1)]) true).run Tryd.prog (ext w1 d) = .ok (.tuple #[.int .u64 0, .bool false]) (ext w1 d) := hlook
          clear hlook hf
          refine wp_region_grown (by kernel_rfl) (by kernel_rfl) ?_; (repeat (go_big_quiet_step (fail))); refine wpQuiet_nil ?_; rintro _ ⟨dq, rfl⟩
          clear HL c0 c1 cb
          have hb2 := (HB1.out.self.x (xe_ext w1 dq)).book HB1.out
          have hP2 := HPc.out.x (xe_ext w1 dq)
          have hX2 := hXw.ext dq
          generalize ext w1 dq = w2 at *
          have HB2 := Lib.hid hb2; clear hb2
          have HP2 := Lib.hid hP2; clear hP2
          go_wp2_with fail
          refine (IH.out (p + (q + 1)) (by have := HS.out; omega) p (q + 1) rfl (by omega) (by omega) _ HB2.out).mono ?_
          rintro e w3 ⟨rfl, hb3⟩
          have HB3 := Lib.hid (hb3.book HB2.out)
          go_wp2_with fail
          refine (IH.out (p + 1 + q) (by have := HS.out; omega) (p + 1) q rfl (by omega) (by omega) _ HB3.out).mono ?_
          rintro e w4 ⟨rfl, hb4⟩
          have HB4 := Lib.hid (hb4.book HB3.out)
          go_wp2_with fail
          refine (IH.out (p + q) (by have := HS.out; omega) p q rfl (by omega) (by omega) _ HB4.out).mono ?_
          rintro e w5 ⟨rfl, hb5⟩
          have HB5 := Lib.hid (hb5.book HB4.out)
          have hsum := V_succ (n := p) (k := q) (by omega) (by omega)
          have v1 := @V_lt p (q + 1)
          have v2 := @V_lt (p + 1) q
          have v3 := @V_lt p q
          have HSUM := Lib.hid hsum; clear hsum
          go_wp2_with fail
          obtain ⟨L5, c5, hobj5, hok5⟩ := HB5.out.map
          have hmap5 : MapAt w5 m 2 pairLs L5 c5 := ⟨hobj5, hok5.fit⟩
          have hupd : ∀ d, ∃ L6 c6, (Instr.mapUpdate 118 (.map (some m)) (.agg #[.int .i64 ((p : Int) + 1), .int .i64 ((q : Int) + 1)]) (.int .u64 ((V p (q + 1) : Int) + (V (p + 1) q : Int) + (V p q : Int)))).run Tryd.prog (ext w5 d) =
              .ok () (putObj (ext w5 d) m (mapObj 2 L6 c6)) ∧ BookOk L6 := fun d => by
            have hu := run_mapUpdate (hmap5.x (xe_ext w5 d)) pairKey Tryd.underlying118 (g := fun j => if j = 0 then .int .i64 ((p : Int) + 1) else .int .i64 ((q : Int) + 1)) (fits_pair _ _ _ rfl rfl) (.int .u64 ((V p (q + 1) : Int) + (V (p + 1) q : Int) + (V p q : Int)))
            have hval : (V p (q + 1) : Int) + (V (p + 1) q : Int) + (V p q : Int) = ((V (p + 1) (q + 1) : Nat) : Int) := by rw [HSUM.out]; omega
            rw [hval] at hu ⊢
            cases hf5 : findI 2 (fun j => if j = 0 then .int .i64 ((p : Int) + 1) else .int .i64 ((q : Int) + 1)) L5 0 with
            | some r => rw [hf5] at hu; exact ⟨_, _, hu, hok5.turn (by omega) (by omega) rfl rfl _⟩
            | none => rw [hf5] at hu; exact ⟨_, _, hu, hok5.push (by omega) (by omega) rfl rfl _⟩
          have cb := HB5.out.ptr
          have hP5 := hb5.cells HB4.out (hb4.cells HB3.out (hb3.cells HB2.out HP2.out))
          have c0 := hP5.cell 0 (by omega)
          have c1 := hP5.cell 1 (by omega)
          simp only [if_true, show (1 : Nat) ≠ 0 by omega, if_false] at c0 c1
          have HX5 := Lib.hid (((HB.out.self.x hX2).trans (hb3.trans (hb4.trans hb5))))
          have HU := Lib.hid hupd
          clear hupd hmap5 hobj5 hok5 hP5
          refine wp_region_grown_tail 6 (by kernel_rfl) (by kernel_rfl) ?_; simp only [List.take_succ_cons, List.take_zero, List.drop_succ_cons, List.drop_zero]; (repeat (go_big_quiet_step (fail))); refine wpQuiet_nil ?_; rintro _ ⟨dq, rfl⟩
          obtain ⟨L6, c6, hu6, hok6⟩ := HU.out dq
          have HOK6 := Lib.hid hok6; clear hok6
          go_wp2
          go_ret
          have hlt : m < (ext w5 dq).heap.size := by have := HB5.out.lt; have := (xe_ext w5 dq).size; omega
          exact ⟨ri (by rw [HSUM.out]; simp), (HX5.out.x (xe_ext w5 dq)).put HOK6.out hlt⟩

theorem bookV_any (b m : Nat) (n k : Int) (w : World) (hb : BookAt w b m) : Calls Tryd.prog 60 #[.pointer (some ⟨b, 0, none⟩), .int .i64 n, .int .i64 k] w (RetB m (.int .u64 (VZ n k)) w) := by
  by_cases h : 0 ≤ n ∧ n ≤ 16 ∧ 0 ≤ k ∧ k ≤ 32
  · obtain ⟨n, rfl⟩ := Int.eq_ofNat_of_zero_le h.1
    obtain ⟨k, rfl⟩ := Int.eq_ofNat_of_zero_le h.2.2.1
    have := bookV_in b m (n + k) n k rfl (by omega) (by omega) w hb
    rw [VZ, if_pos h]
    simpa using this
  · have hp : pRight n k = false := by
      cases hr : pRight n k with
      | false => rfl
      | true => exact absurd (pRight_iff.1 hr) h
    have hv : VZ n k = 0 := if_neg h
    have HV := Lib.hid hv; clear hv
    have HB := Lib.hid hb; clear hb
    go_enter Tryd.func60, Tryd.ntmps60
    go_wp2_with (go_at_call 91; (with_reducible refine (pairRight_any _ _ _).mono ?_); rintro e w1 ⟨rfl, hx1⟩)
    go_ret
    exact ⟨ri HV.out.symm, HB.out.self.x (((XE.refl w).alloc _).trans hx1)⟩
end Go.Proofs.YtkcambhojpafkaaDoor
