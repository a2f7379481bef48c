/- Layer 7's reader: bytes of its own, what it takes, what is left. -/
import Derived.Test.YtkcambhojpafkaaDoorProg
import Derived.Test.YtkcambhojpafkaaDoorB6
import Derived.Test.YtkcambhojpafkaaDoorS10
import Derived.WalkSpells
import Derived.Deep.RegionHeld3
import Derived.Deep.RegionWith
set_option linter.unusedSimpArgs false
set_option linter.unusedVariables false
namespace Go.Proofs.YtkcambhojpafkaaDoor
open Go Go.RowKit

/-- sl is a slice of n bytes, in a block of which ok holds. -/
def BytesIn (w : World) (ok : Nat → Prop) (sl : Value) (n : Nat) (bs : Nat → Int) : Prop :=
  ∃ a cp, sl = .slice a n cp ∧ n ≤ cp ∧ (a = none → n = 0 ∧ cp = 0) ∧ (∀ x, a = some x → ∃ b o, x = ⟨b, o, none⟩ ∧ ok b ∧ ∀ i, i < n → w.cell? ⟨b, o + i, none⟩ = some (.int .u8 (bs i)))
theorem BytesIn.x {w w' : World} {ok : Nat → Prop} {sl : Value} {n : Nat} {bs : Nat → Int} (h : BytesIn w ok sl n bs) (hx : XE w w') : BytesIn w' ok sl n bs := by
  obtain ⟨a, cp, h1, h2, h3, h4⟩ := h
  refine ⟨a, cp, h1, h2, h3, fun x hx' => ?_⟩
  obtain ⟨b, o, e1, e2, e3⟩ := h4 x hx'
  exact ⟨b, o, e1, e2, fun i hi => hx.cell (e3 i hi)⟩
/-- .. wherever it lies. -/
def BytesAt (w : World) (sl : Value) (n : Nat) (bs : Nat → Int) : Prop :=
  ∃ a cp, sl = .slice a n cp ∧ n ≤ cp ∧ (a = none → n = 0 ∧ cp = 0) ∧ (∀ x, a = some x → ∀ i, i < n → w.cell? (x.add i) = some (.int .u8 (bs i)))
theorem BytesIn.at {w : World} {ok : Nat → Prop} {sl : Value} {n : Nat} {bs : Nat → Int} (h : BytesIn w ok sl n bs) : BytesAt w sl n bs := by
  obtain ⟨a, cp, h1, h2, h3, h4⟩ := h
  refine ⟨a, cp, h1, h2, h3, fun x hx' i hi => ?_⟩
  obtain ⟨b, o, e1, e2, e3⟩ := h4 x hx'
  rw [e1, add_none]; exact e3 i hi
theorem BytesAt.x {w w' : World} {sl : Value} {n : Nat} {bs : Nat → Int} (h : BytesAt w sl n bs) (hx : XE w w') : BytesAt w' sl n bs := by
  obtain ⟨a, cp, h1, h2, h3, h4⟩ := h
  exact ⟨a, cp, h1, h2, h3, fun x hx' i hi => hx.cell (h4 x hx' i hi)⟩
theorem u8_info : ∃ i z, Tryd.prog.info? 5 = some i ∧ i.zero = some z ∧ i.size = 1 ∧ i.bytes = 1 ∧ z.cells.size = 1 := by
  have h : (Tryd.prog.info? 5).map (fun i => (i.zero.map (·.cells.size), i.size, i.bytes)) = some (some 1, 1, 1) := by kernel_rfl
  cases hi : Tryd.prog.info? 5 with
  | none => rw [hi] at h; simp at h
  | some i =>
    rw [hi] at h
    simp only [Option.map_some, Option.some.injEq, Prod.mk.injEq] at h
    obtain ⟨h1, h2, h3⟩ := h
    cases hz : i.zero with
    | none => rw [hz] at h1; simp at h1
    | some z => rw [hz] at h1; simp at h1; exact ⟨i, z, rfl, hz, h2, h3, h1⟩

theorem clone_any (sl : Value) (n : Nat) (bs : Nat → Int) (w : World) (hs : BytesAt w sl n bs) (hn : n ≤ 1300) :
    Calls Tryd.prog 74 #[sl] w (fun e w' => ∃ v, e = .returned v ∧ BytesIn w' (fun b => w.heap.size ≤ b ∧ b < w'.heap.size) v n bs ∧ XE w w') := by
  obtain ⟨a, cp, rfl, hcp, hnone, hsome⟩ := hs
  cases a with
  | none =>
    obtain ⟨rfl, rfl⟩ := hnone rfl
    have hq := fun w => Lib.run_eql_slice_nil (P := Tryd.prog) w 85 5 none 0 0 0 0 Tryd.underlying85
    go_enter Tryd.func74, Tryd.ntmps74
    go_wp2
    go_ret
    exact ⟨_, rfl, ⟨none, 0, rfl, Nat.le_refl _, fun _ => ⟨rfl, rfl⟩, fun x hx => by cases hx⟩, XE.refl _⟩
  | some x =>
    have hc := hsome x rfl
    obtain ⟨inf, z, hi1, hi2, hi3, hi4, hi5⟩ := u8_info
    have HI1 := Lib.hid hi1; have HI2 := Lib.hid hi2; have HI3 := Lib.hid hi3; have HI4 := Lib.hid hi4; have HI5 := Lib.hid hi5
    clear hi1 hi2 hi3 hi4 hi5
    have hq := fun w => Lib.run_eql_slice_nil (P := Tryd.prog) w 85 5 (some x) n cp 0 0 Tryd.underlying85
    have hown : (w.alloc (.cells #[] 5)).ownsRow w.heap.size 5 1 (.slice (some ⟨w.heap.size, 0, none⟩) 0 0) 0 [] :=
      ⟨rfl, Or.inr ⟨w.heap.size, 0, #[], rfl, Nat.le_refl _, heap_alloc_new _ _, Nat.le_refl _, Nat.zero_le _, rfl, rfl⟩⟩
    have hxa : XE w (w.alloc (.cells #[] 5)) := (XE.refl w).alloc _
    have hnews : ∀ (j : Nat) (u : Value), ((List.range n).map fun i => Value.int .u8 (bs i))[j]? = some u → (w.alloc (.cells #[] 5)).cell? (x.add j) = some u := fun j u hu => by
      simp only [List.getElem?_map] at hu
      rcases Nat.lt_or_ge j n with hj | hj
      · rw [List.getElem?_range hj] at hu
        simp at hu
        rw [← hu]; exact hxa.cell (hc j hj)
      · rw [List.getElem?_eq_none (by simpa using hj)] at hu; simp at hu
    have hlen : ((List.range n).map fun i => Value.int .u8 (bs i)).length = n * 1 := by simp
    have hone : ∀ u ∈ (List.range n).map fun i => Value.int .u8 (bs i), u.oneCell' = true := fun u hu => by
      obtain ⟨j, -, rfl⟩ := List.mem_map.1 hu; rfl
    have h63 : 0 + n ≤ maxLen := by unfold maxLen; omega
    have hfin : ∀ v' w', w'.ownsRow w.heap.size 5 1 v' (0 + n) ([] ++ (List.range n).map fun i => Value.int .u8 (bs i)) → v' ≠ .slice none 0 0 → XE w w' → BytesIn w' (fun b => w.heap.size ≤ b ∧ b < w'.heap.size) v' n bs ∧ XE w w' := fun v' w' h2 hne hx => by
      refine ⟨?_, hx⟩
      obtain ⟨-, h2⟩ := h2
      rw [Nat.zero_add] at h2
      rcases h2 with ⟨h0, -⟩ | ⟨g, cap, cur, e1, e2, e3, e4, e5, e6, e7⟩
      · exact absurd h0 hne
      · refine ⟨some ⟨g, 0, none⟩, cap, e1, e4, (fun h => by cases h), fun y hx' => ?_⟩
        obtain rfl := Option.some.inj hx'
        refine ⟨g, 0, rfl, ⟨e2, lt_of_some w' e3⟩, fun i hi => ?_⟩
        have e8 := congrArg (fun l => l[i]?) e7
        simp only [List.getElem?_take, List.nil_append, Nat.mul_one, hi, if_true, List.getElem?_map, List.getElem?_range hi, Option.map_some] at e8
        rw [Nat.zero_add]
        simp [World.cell?, e3]
        rw [← Array.getElem?_toList, e8]
    have HOWN := Lib.hid hown; have HXA := Lib.hid hxa; have HNE := Lib.hid hnews; have HLE := Lib.hid hlen; have HON := Lib.hid hone; have H63 := Lib.hid h63; have HFIN := Lib.hid hfin
    clear hown hxa hnews hlen hone h63 hfin hc hnone hsome
    go_enter Tryd.func74, Tryd.ntmps74
    go_wp2_with (at_builtin; (with_reducible refine wpList_append_own _ ?_ (.tmp 5) (.tmp 6) 85 ?_ w.heap.size 5 inf z 1 1 Tryd.underlying85 HI1.out HI2.out HI3.out HI4.out HI5.out (by omega) _ 0 [] ?_ HOWN.out x n cp _ ?_ HLE.out HNE.out HON.out H63.out (by omega) (by simp) ?_); (· rfl); (· rfl); (· rfl); (· rfl); intro v' w' h2 h3 h4)
    go_ret
    obtain ⟨r1, r2⟩ := HFIN.out v' w' h2 (fun h => by have := (h4.1 h).1; cases this) (HXA.out.grownBy h3 fun k hk => by simp [Value.ownBlock] at hk; omega)
    exact ⟨_, rfl, r1, r2⟩

/-! ### The reader -/
structure RS where
  sl : Value
  taken : Int
  raws : Int
  rng : Int
  val : Int
def RS.cell (s : RS) : Nat → Value
  | 0 => s.sl
  | 1 => .int .i64 s.taken
  | 2 => .int .i64 s.raws
  | 3 => .int .u32 s.rng
  | _ => .int .u32 s.val
/-- A reader at block r, over n bytes in another block. -/
structure ReadAt (w : World) (r : Nat) (s : RS) (n : Nat) (bs : Nat → Int) : Prop where
  cells : Cells w r 5 s.cell
  bytes : BytesIn w (· ≠ r) s.sl n bs
theorem ReadAt.x {w w' : World} {r : Nat} {s : RS} {n : Nat} {bs : Nat → Int} (h : ReadAt w r s n bs) (hx : XE w w') : ReadAt w' r s n bs := ⟨h.cells.x hx, h.bytes.x hx⟩
theorem ReadAt.lt {w : World} {r : Nat} {s : RS} {n : Nat} {bs : Nat → Int} (h : ReadAt w r s n bs) : r < w.heap.size := h.cells.lt (by omega)
theorem ReadAt.five {w : World} {r : Nat} {s : RS} {n : Nat} {bs : Nat → Int} (h : ReadAt w r s n bs) :
    w.cell? ⟨r, 0, none⟩ = some s.sl ∧ w.cell? ⟨r, 1, none⟩ = some (.int .i64 s.taken) ∧ w.cell? ⟨r, 2, none⟩ = some (.int .i64 s.raws) ∧ w.cell? ⟨r, 3, none⟩ = some (.int .u32 s.rng) ∧ w.cell? ⟨r, 4, none⟩ = some (.int .u32 s.val) :=
  ⟨h.cells.cell 0 (by omega), h.cells.cell 1 (by omega), h.cells.cell 2 (by omega), h.cells.cell 3 (by omega), h.cells.cell 4 (by omega)⟩
/-- One cell of it turns. -/
theorem ReadAt.put {w : World} {r : Nat} {s s' : RS} {n : Nat} {bs : Nat → Int} (h : ReadAt w r s n bs) (j : Nat) (hj : j < 5) (v : Value) (hs : s'.sl = s.sl) (he : ∀ i, i < 5 → (if i = j then v else s.cell i) = s'.cell i) : ReadAt (w.setCell ⟨r, j, none⟩ v) r s' n bs := by
  refine ⟨h.cells.put hj v he, ?_⟩
  rw [hs]
  obtain ⟨a, cp, h1, h2, h3, h4⟩ := h.bytes
  refine ⟨a, cp, h1, h2, h3, fun x hx => ?_⟩
  obtain ⟨b, o, e1, e2, e3⟩ := h4 x hx
  exact ⟨b, o, e1, e2, fun i hi => by rw [World.cell?_setCell_other w _ _ v (fun e => e2 (by injection e with e _; exact e.symm))]; exact e3 i hi⟩
theorem XO.set {r : Nat} {w w' : World} (h : XO r w w') (o : Nat) (v : Value) : XO r w (w'.setCell ⟨r, o, none⟩ v) :=
  ⟨h.os, h.tape, h.output, by simpa using h.size, fun k hk hkr => by rw [Below.heap_setCell w' _ v k hkr]; exact h.block k hk hkr⟩
theorem XO.x {r : Nat} {a b c : World} (h : XO r a b) (k : XE b c) : XO r a c := h.trans (XO.of_x r k)

/-- The next byte. -/
def nxt (n : Nat) (bs : Nat → Int) (t : Int) : Int := if (n : Int) ≤ t then 0 else bs t.toNat
set_option maxRecDepth 100000 in
set_option maxHeartbeats 400000 in
theorem next_any (r : Nat) (s : RS) (n : Nat) (bs : Nat → Int) (w : World) (h : ReadAt w r s n bs) (h0 : 0 ≤ s.taken) (h1 : s.taken ≤ 100000) (hb : ∀ i, i < n → 0 ≤ bs i ∧ bs i ≤ 255) :
    Calls Tryd.prog 75 #[.pointer (some ⟨r, 0, none⟩)] w (fun e w' => e = .returned (.int .u32 (nxt n bs s.taken)) ∧ ReadAt w' r { s with taken := s.taken + 1 } n bs ∧ XO r w w') := by
  obtain ⟨c0, c1, c2, c3, c4⟩ := h.five
  obtain ⟨a, cp, e1, e2, e3, e4⟩ := h.bytes
  rw [e1] at c0
  have E1 := Lib.hid e1
  have f1 := h.cells.free 1 (by omega)
  have hput := h.put (s' := { s with taken := s.taken + 1 }) 1 (by omega) (.int .i64 (s.taken + 1)) rfl (fun i hi => by
    have : i = 0 ∨ i = 1 ∨ i = 2 ∨ i = 3 ∨ i = 4 := by omega
    rcases this with rfl | rfl | rfl | rfl | rfl <;> rfl)
  have HP := Lib.hid hput; have HX := Lib.hid ((XO.refl r w).set 1 (.int .i64 (s.taken + 1)))
  obtain ⟨t, ht⟩ := Int.eq_ofNat_of_zero_le h0
  have HT := Lib.hid ht
  clear hput
  rw [ht] at c1 h1 HP HX ⊢
  clear h ht h0 e1
  by_cases hlt : t < n
  · have hne : a ≠ none := fun h => by have := (e3 h).1; omega
    obtain ⟨x, rfl⟩ := Option.ne_none_iff_exists'.1 hne
    obtain ⟨b, o, rfl, hbr, hc⟩ := e4 x rfl
    have hby : w.cell? ⟨b, o + t, none⟩ = some (.int .u8 (bs t)) := hc t hlt
    obtain ⟨b0, b1⟩ := hb t hlt
    have hv : nxt n bs (t : Int) = bs t := by unfold nxt; rw [if_neg (by omega)]; simp
    have HV := Lib.hid hv
    clear hc hv hne e4 e3
    have hby1 : (w.setCell ⟨r, 1, none⟩ (.int .i64 ((t : Int) + 1))).cell? ⟨b, o + t, none⟩ = some (.int .u8 (bs t)) := by rw [World.cell?_setCell_other w _ _ _ (fun e => hbr (by injection e with e _; exact e.symm))]; exact hby
    obtain ⟨d0, d1, d2, d3, d4⟩ := HP.out.five
    have d0' : (w.setCell ⟨r, 1, none⟩ (.int .i64 ((t : Int) + 1))).cell? ⟨r, 0, none⟩ = some (.slice (some ⟨b, o, none⟩) n cp) := d0.trans (by rw [← E1.out])
    have hD := And.intro d0' (And.intro d1 hby1)
    have HD := Lib.hid hD
    clear hby hby1 d0 d0' d1 d2 d3 d4 hD
    go_enter Tryd.func75, Tryd.ntmps75
    go_upto_region 2 with (fail)
    generalize w.setCell ⟨r, 1, none⟩ (.int .i64 ((t : Int) + 1)) = w1 at *
    obtain ⟨d0, d1, hby1⟩ := HD.out
    clear c0 c1 c2 c3 c4 f1
    refine wp_region_grown (by kernel_rfl) (by kernel_rfl) ?_; (repeat (go_big_quiet_step (fail))); refine wpQuiet_nil ?_; rintro _ ⟨dq, rfl⟩
    go_wp2
    refine wp_region_grown (by kernel_rfl) (by kernel_rfl) ?_; (repeat (go_big_quiet_step (fail))); refine wpQuiet_nil ?_; rintro _ ⟨dq, rfl⟩
    go_wp2
    go_ret
    exact ⟨ri HV.out.symm, HP.out.x ((xe_ext _ _).ext _), HX.out.x ((xe_ext _ _).ext _)⟩
  · have hv : nxt n bs (t : Int) = 0 := by unfold nxt; rw [if_pos (by omega)]
    obtain ⟨d0, d1, d2, d3, d4⟩ := HP.out.five
    have d0' : (w.setCell ⟨r, 1, none⟩ (.int .i64 ((t : Int) + 1))).cell? ⟨r, 0, none⟩ = some (.slice a n cp) := d0.trans (by rw [← E1.out])
    have hD := And.intro d0' d1
    have HD := Lib.hid hD; have HV := Lib.hid hv
    clear d0 d0' d1 d2 d3 d4 hD hv
    go_enter Tryd.func75, Tryd.ntmps75
    go_upto_region 2 with (fail)
    generalize w.setCell ⟨r, 1, none⟩ (.int .i64 ((t : Int) + 1)) = w1 at *
    obtain ⟨d0, d1⟩ := HD.out
    clear c0 c1 c2 c3 c4 f1
    refine wp_region_grown (by kernel_rfl) (by kernel_rfl) ?_; (repeat (go_big_quiet_step (fail))); refine wpQuiet_nil ?_; rintro _ ⟨dq, rfl⟩
    go_wp2
    go_ret
    exact ⟨ri HV.out.symm, HP.out.x (xe_ext _ _), HX.out.x (xe_ext _ _)⟩

theorem readerRng_any (r : Nat) (s : RS) (n : Nat) (bs : Nat → Int) (w : World) (h : ReadAt w r s n bs) : Calls Tryd.prog 159 #[.pointer (some ⟨r, 0, none⟩)] w (RetE (.int .u32 s.rng) w) := by
  obtain ⟨c0, c1, c2, c3, c4⟩ := h.five
  clear h c0 c1 c2 c4
  go_enter Tryd.func159, Tryd.ntmps159
  go_wp2
  go_ret
  exact ⟨rfl, (by repeat (first | exact XE.refl _ | apply XE.ext | apply XE.alloc | apply XE.drew | apply XE.drewN))⟩
set_option maxRecDepth 100000 in
theorem readerLeft_any (r : Nat) (s : RS) (n : Nat) (bs : Nat → Int) (w : World) (h : ReadAt w r s n bs) (hn : n ≤ 1300) (h0 : 0 ≤ s.taken) (h1 : s.taken ≤ 100000) (h2 : 0 ≤ s.raws) (h3 : s.raws ≤ 100000) :
    Calls Tryd.prog 45 #[.pointer (some ⟨r, 0, none⟩)] w (RetE (.int .i64 (8 * ((n : Int) - s.taken) - s.raws)) w) := by
  obtain ⟨c0, c1, c2, c3, c4⟩ := h.five
  obtain ⟨a, cp, e1, -, -, -⟩ := h.bytes
  rw [e1] at c0
  clear h c3 c4 e1
  go_enter Tryd.func45, Tryd.ntmps45
  go_wp2
  refine wp_region_grown (by kernel_rfl) (by kernel_rfl) ?_; (repeat (go_big_quiet_step (fail))); refine wpQuiet_nil ?_; rintro _ ⟨dq, rfl⟩
  go_wp2
  go_ret
  exact ⟨rfl, xe_ext _ _⟩

/-- What stands in the window behind so many bytes. -/
def win (n : Nat) (bs : Nat → Int) : Nat → Int
  | 0 => 0
  | i + 1 => bits .or .u32 (IntKind.u32.wrap (win n bs i * 256)) (nxt n bs i)
def RetRd (n : Nat) (bs : Nat → Int) (w : World) (e : Ending) (w' : World) : Prop := ∃ r v, e = .returned (.pointer (some ⟨r, 0, none⟩)) ∧ w.heap.size ≤ r ∧ ReadAt w' r ⟨v, 3, 0, 16777216, win n bs 3⟩ n bs ∧ XE w w'
set_option maxRecDepth 100000 in
set_option maxHeartbeats 1000000 in
theorem readerNew_any (sl : Value) (n : Nat) (bs : Nat → Int) (w : World) (hs : BytesAt w sl n bs) (hn : n ≤ 1300) (hb : ∀ i, i < n → 0 ≤ bs i ∧ bs i ≤ 255) :
    Calls Tryd.prog 44 #[sl] w (RetRd n bs w) := by
  have HS := Lib.hid hs; clear hs
  have HB := Lib.hid hb; clear hb
  go_enter Tryd.func44, Tryd.ntmps44
  go_wp2_with (go_at_call 74; (refine (clone_any sl n bs _ HS.out hn).mono ?_); rintro e w1 ⟨v, rfl, ⟨a, cp, rfl, q2, q3, q4⟩, hx1⟩; have HQ := Lib.hid (And.intro q2 (And.intro q3 q4)); clear q2 q3 q4; have HX1 := Lib.hid hx1; clear hx1)
  have hr0 : ReadAt (w1.alloc (.cells #[.slice a n cp, .int .i64 0, .int .i64 0, .int .u32 16777216, .int .u32 0] 146)) w1.heap.size ⟨.slice a n cp, 0, 0, 16777216, 0⟩ n bs := by
    obtain ⟨q2, q3, q4⟩ := HQ.out
    refine ⟨.made rfl fun j hj => ?_, a, cp, rfl, q2, q3, fun x hx => ?_⟩
    · have : j = 0 ∨ j = 1 ∨ j = 2 ∨ j = 3 ∨ j = 4 := by omega
      rcases this with rfl | rfl | rfl | rfl | rfl <;> rfl
    · obtain ⟨b, o, e1, ⟨e2, e3⟩, e4⟩ := q4 x hx
      exact ⟨b, o, e1, by omega, fun i hi => ((XE.refl w1).alloc _).cell (e4 i hi)⟩
  have HR0 := Lib.hid hr0; clear hr0
  have hx1 := HX1.out.alloc (.cells #[.slice a n cp, .int .i64 0, .int .i64 0, .int .u32 16777216, .int .u32 0] 146)
  have hsz := HX1.out.size
  have HXA := Lib.hid hx1; clear hx1 HX1 HQ
  generalize w1.alloc (.cells #[.slice a n cp, .int .i64 0, .int .i64 0, .int .u32 16777216, .int .u32 0] 146) = w2 at *
  generalize w1.heap.size = r at *
  go_loopw [8] (fun i wr => ∃ t : Nat, t ≤ 3 ∧ i = .int .i64 t ∧ ReadAt wr r ⟨.slice a n cp, t, 0, 16777216, win n bs t⟩ n bs ∧ XE w wr) (fun i _ => 3 - (intOf i).toNat)
  case atStart => exact ⟨0, by omega, rfl, HR0.out, HXA.out⟩
  case round =>
    clear HR0 HXA
    obtain ⟨t, ht, rfl, hr, hx⟩ := hrel
    have HR := Lib.hid hr; have HX := Lib.hid hx; clear hr hx
    by_cases hlt : t < 3
    · have h4 : wr.cell? ⟨r, 4, none⟩ = some (.int .u32 (win n bs t)) := HR.out.five.2.2.2.2
      have hnx := next_any r ⟨.slice a n cp, t, 0, 16777216, win n bs t⟩ n bs wr.drew (HR.out.x ((XE.refl _).drew)) (by simp) (by simp; omega) HB.out
      have HNX := Lib.hid hnx; clear hnx
      go_upto_region 4 with (fail)
      go_region_with (go_at_call 75; (refine HNX.out.mono ?_); rintro e w3 ⟨rfl, hr3, hx3⟩; have h43 := hr3.five.2.2.2.2; have f43 := hr3.cells.free 4 (by omega))
      all_goals
        have hr5 := hr3.put (s' := ⟨.slice a n cp, ((t + 1 : Nat) : Int), 0, 16777216, win n bs (t + 1)⟩) 4 (by omega) (.int .u32 (win n bs (t + 1))) rfl (fun i hi => by
          have : i = 0 ∨ i = 1 ∨ i = 2 ∨ i = 3 ∨ i = 4 := by omega
          rcases this with rfl | rfl | rfl | rfl | rfl <;> rfl)
        have hx5 := (((XO.of_x r (XE.refl wr).drew).trans hx3).set 4 (.int .u32 (win n bs (t + 1)))).own HX.out hsz
        have HR5 := Lib.hid hr5; have HX5 := Lib.hid hx5
        clear hr5 hx5 hr3 hx3 h43 f43 h4
        go_wp2
        go_roundw
        case rel => exact ⟨t + 1, by omega, by go_num, HR5.out, HX5.out⟩
        case measure => simp [intOf]; omega
    · obtain rfl : t = 3 := by omega
      go_wp2
      go_ret
      exact ⟨r, _, rfl, hsz, HR.out, HX.out⟩
end Go.Proofs.YtkcambhojpafkaaDoor
