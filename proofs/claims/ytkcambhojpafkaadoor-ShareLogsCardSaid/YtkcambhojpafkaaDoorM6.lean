/- Layer 15's log, the plain law: the sum of all that has been counted. -/
import Derived.Test.YtkcambhojpafkaaDoorS12
set_option linter.unusedSimpArgs false
set_option linter.unusedVariables false
namespace Go.Proofs.YtkcambhojpafkaaDoor
open Go Go.RowKit

def cntOf (e : Ent) : Int := intOf e.val
def keyOfE (e : Ent) (j : Nat) : Int := intOf (e.key j)
theorem keyOfE_ints {e : Ent} {k : Nat → Int} (h : e.key = ints k) : keyOfE e = k := by
  funext j; unfold keyOfE; rw [h]; rfl
/-- What has been summed of the entries that have been seen. -/
def seenSum (L : List Ent) (seen : Array Nat) : Int := ((L.filter fun e => seen.contains e.born).map cntOf).sum
theorem seenSum_start (L : List Ent) : seenSum L #[] = 0 := by
  unfold seenSum
  rw [List.filter_eq_nil_iff.2 (by simp)]; rfl
theorem seenSum_all {L : List Ent} {seen : Array Nat} (h : ∀ e ∈ L, seen.contains e.born = true) : seenSum L seen = (L.map cntOf).sum := by
  unfold seenSum
  rw [List.filter_eq_self.2 h]
theorem seenSum_push {seen : Array Nat} {e : Ent} (hs : seen.contains e.born = false) : ∀ {L : List Ent}, e ∈ L → (L.map (·.born)).Nodup → seenSum L (seen.push e.born) = seenSum L seen + cntOf e
  | a :: L, he, hn => by
    simp only [List.map_cons, List.nodup_cons, List.mem_map, not_exists, not_and] at hn
    have hc := contains_push' seen e.born a.born
    unfold seenSum
    simp only [List.filter_cons, hc]
    by_cases hae : a.born = e.born
    · have hl : e ∉ L := fun h => hn.1 e h hae.symm
      have hea : e = a := by
        rcases List.mem_cons.1 he with h | h
        · exact h
        · exact absurd h hl
      subst hea
      have hrest : (L.filter fun x => (seen.push e.born).contains x.born) = L.filter fun x => seen.contains x.born := by
        apply List.filter_congr
        intro x hx
        rw [contains_push']
        have : (x.born == e.born) = false := by simpa using hn.1 x hx
        rw [this, Bool.or_false]
      rw [hrest]
      simp only [beq_self_eq_true, Bool.or_true, if_true, hs, Bool.false_eq_true, if_false, List.map_cons, List.sum_cons]
      omega
    · have hel : e ∈ L := by
        rcases List.mem_cons.1 he with h | h
        · exact absurd (congrArg Ent.born h).symm hae
        · exact h
      have ih := seenSum_push hs hel hn.2
      unfold seenSum at ih
      have hb : (a.born == e.born) = false := by simpa using hae
      rw [hb, Bool.or_false]
      split
      · simp only [List.map_cons, List.sum_cons, ih]; omega
      · exact ih
/-- Each of a list counts once. -/
theorem sum_many : ∀ {M K : List (Nat → Int)}, (∀ x ∈ M, ∃ k ∈ K, same5 k x) → K.Pairwise (fun a b => ¬ same5 a b) → ((K.map fun k => (many M k : Int))).sum = M.length
  | [], K, _, _ => by
    have : ∀ K : List (Nat → Int), (K.map fun k => (many [] k : Int)).sum = 0 := by
      intro K
      induction K with
      | nil => rfl
      | cons k K ih => simp only [List.map_cons, List.sum_cons, ih]; rfl
    simpa using this K
  | x :: M, K, hx, hp => by
    have ih := sum_many (M := M) (K := K) (fun y hy => hx y (by simp [hy])) hp
    have hstep : ∀ k, (many (x :: M) k : Int) = (many M k : Int) + if same5 x k then 1 else 0 := fun k => by
      unfold many
      rw [List.filter_cons]
      by_cases h : same5 x k
      · simp [h]
      · simp [h]
    have hone : ∀ K : List (Nat → Int), K.Pairwise (fun a b => ¬ same5 a b) → ((∃ k ∈ K, same5 k x) → (K.map fun k => (if same5 x k then 1 else 0 : Int)).sum = 1) ∧ ((¬ ∃ k ∈ K, same5 k x) → (K.map fun k => (if same5 x k then 1 else 0 : Int)).sum = 0) := by
      intro K
      induction K with
      | nil => intro _; exact ⟨fun ⟨k, hk, _⟩ => by simp at hk, fun _ => rfl⟩
      | cons k K ih =>
        intro hp
        rw [List.pairwise_cons] at hp
        have ih := ih hp.2
        simp only [List.map_cons, List.sum_cons]
        by_cases h : same5 x k
        · rw [if_pos h]
          have hno : ¬ ∃ k' ∈ K, same5 k' x := fun ⟨k', hk', hs⟩ => hp.1 k' hk' ((hs.trans h).symm)
          refine ⟨fun _ => by rw [ih.2 hno]; rfl, fun hn => absurd ⟨k, by simp, h.symm⟩ hn⟩
        · rw [if_neg h]
          refine ⟨fun ⟨k', hk', hs⟩ => ?_, fun hn => ?_⟩
          · rcases List.mem_cons.1 hk' with rfl | hk'
            · exact absurd hs.symm h
            · rw [ih.1 ⟨k', hk', hs⟩]; rfl
          · rw [ih.2 fun ⟨k', hk', hs⟩ => hn ⟨k', by simp [hk'], hs⟩]; rfl
    have hsum : ∀ K : List (Nat → Int), (K.map fun k => (many (x :: M) k : Int)).sum = (K.map fun k => (many M k : Int)).sum + (K.map fun k => (if same5 x k then 1 else 0 : Int)).sum := by
      intro K
      induction K with
      | nil => rfl
      | cons k K ih =>
        simp only [List.map_cons, List.sum_cons]
        rw [ih, hstep k]; omega
    rw [hsum, ih, (hone K hp).1 (hx x (by simp))]
    simp
theorem Told.sum {L : List Ent} {c : Nat} {M : List (Nat → Int)} (h : Told L c M) : (L.map cntOf).sum = M.length := by
  have e : L.map cntOf = (L.map keyOfE).map fun k => (many M k : Int) := by
    rw [List.map_map]
    refine List.map_congr_left fun x hx => ?_
    obtain ⟨k, hk, hv, -⟩ := h.ent x hx
    show cntOf x = (many M (keyOfE x) : Int)
    rw [keyOfE_ints hk]; unfold cntOf; rw [hv]; rfl
  rw [e]
  refine sum_many (fun x hx => ?_) ?_
  · obtain ⟨en, hen, k, hk, hs⟩ := h.all x hx
    exact ⟨keyOfE en, List.mem_map.2 ⟨en, hen, rfl⟩, by rw [keyOfE_ints hk]; exact hs⟩
  · refine List.pairwise_iff_getElem.2 fun i j hi hj hij hs => ?_
    rw [List.length_map] at hi hj
    rw [List.getElem_map, List.getElem_map] at hs
    obtain ⟨k1, hk1, -⟩ := h.ent L[i] (List.getElem_mem _)
    obtain ⟨k2, hk2, -⟩ := h.ent L[j] (List.getElem_mem _)
    rw [keyOfE_ints hk1, keyOfE_ints hk2] at hs
    have := h.one i j _ _ (List.getElem?_eq_getElem hi) (List.getElem?_eq_getElem hj) (by rw [hk1, hk2]; exact ints_eq.2 hs)
    omega
theorem seenSum_bd {L : List Ent} {c : Nat} {M : List (Nat → Int)} (h : Told L c M) (seen : Array Nat) : 0 ≤ seenSum L seen ∧ seenSum L seen ≤ M.length := by
  have hnn : ∀ e ∈ L, 0 ≤ cntOf e := fun e he => by
    obtain ⟨k, -, hv, -⟩ := h.ent e he
    unfold cntOf; rw [hv]; exact Int.natCast_nonneg _
  rw [← h.sum]
  unfold seenSum
  have key : ∀ L : List Ent, (∀ e ∈ L, 0 ≤ cntOf e) → 0 ≤ ((L.filter fun e => seen.contains e.born).map cntOf).sum ∧ ((L.filter fun e => seen.contains e.born).map cntOf).sum ≤ (L.map cntOf).sum := by
    intro L
    induction L with
    | nil => intro _; simp
    | cons a L ih =>
      intro hn
      have ih := ih fun e he => hn e (by simp [he])
      have ha := hn a (by simp)
      simp only [List.filter_cons, List.map_cons, List.sum_cons]
      split
      · simp only [List.map_cons, List.sum_cons]; omega
      · omega
  exact key L hnn
end Go.Proofs.YtkcambhojpafkaaDoor
