/- FrameGuesses: for every input, whatever it is: the law returns true, and the input reads as it did: the row and its tied card, proved. -/
import Derived.Test.YtkcambhojpafkaaDoorP5
import Derived.Test.YtkcambhojpafkaaDoorL8
import Derived.Test.YtkcambhojpafkaaDoorCards
set_option linter.unusedSimpArgs false
set_option linter.unusedVariables false
namespace Go.Proofs.YtkcambhojpafkaaDoor
open Go Go.ChangeShapes Go.WideShapes Go.ChangeAt Go.RowKit

set_option maxRecDepth 100000 in
theorem guesses_lifted (os : Os) (started : os.Started) (H : Type) (enc : TypeId × Value → H) :
    ReturnsInHanded {} Tryd.checked os 10 .any (fun w args => (Rows.frameGuessesSpec.pre enc Tryd.prog Tryd.f10 [] false w args ∧ laidMetH Tryd.prog laid2 w) ∧ sizedMet enc Tryd.prog Tryd.f10 (OpenSpec.ofChange Rows.frameGuessesSpec) false w args)
      (Rows.frameGuessesSpec.post enc Tryd.prog Tryd.f10 false true false false) := by
  refine returnsInHanded_of_change_and (C := Tryd.checked) (X := fun w _ => laidMetH Tryd.prog laid2 w) (fun _ _ _ hh h => h.of_heap hh) own started (by kernel_rfl) Tryd.func10
    (ChangeSpec.witness_shaped (enc := enc) (C := Tryd.checked) (os := os) (X := fun w _ => laidMetH Tryd.prog laid2 w) false (World.doorLaid Tryd.prog 400 os) #[.agg #[.slice none 0 0, .int .u8 0, .int .u8 0, .int .u8 0, .int .u8 0, .int .u8 0, .int .u8 0, .int .u8 0, .int .u8 0, .int .u8 0, .int .u8 0, .int .u8 0, .int .u8 0], .bool false, .agg #[.int .i64 0, .int .i64 0, .int .i64 0, .int .i64 0]] 8 rfl (World.shaped_of_RefB (by kernel_rfl) (by kernel_rfl)) (by kernel_rfl) (by kernel_rfl) (by kernel_rfl) (widths2Door os _)) ?_
  intro W base args ds gs before hval0 hW _ _ hL _
  have hval : ∀ (j : Nat) t v, Tryd.f10.params[j]? = some t → args[j]? = some v → Value.okWide Tryd.prog W .any base t v := hval0
  have hW' := hW
  obtain ⟨p, q, hA0, hV, rfl, hfz, hnd⟩ := hW
  have hA : DataW.TrodAll enc Tryd.prog W 0 (fun _ => true) true Tryd.f10.params.toList args.toList ds p := hA0
  rw [Tryd.params10] at hA hval
  obtain ⟨v0, v1, v2, d0, d1, d2, p0, p1, p2, rfl, rfl, rfl, h0, h1, h2⟩ := trodAll_three hA
  obtain ⟨rfl, rfl⟩ := trodVars_none hV
  obtain ⟨sl, z, c, n, bs, pv, rfl, hp, -, -, -⟩ := open_ask (okWide_struct Tryd.underlying89 (hval 0 89 v0 rfl rfl)) h0
  obtain ⟨b, rfl, rfl, rfl⟩ := open_bool Tryd.underlying4 (hval 1 4 v1 rfl rfl) h1
  obtain ⟨g, rfl, hg⟩ := open_plain (ls := List.replicate 4 (.int .i64)) (d := 5) (by kernel_rfl) (by kernel_rfl) (okWide_array Tryd.underlying90 (hval 2 90 v2 rfl rfl)) h2
  have hg' : ∀ j, j < 4 → ∃ o, g j = .int .i64 o ∧ -9223372036854775808 ≤ o ∧ o ≤ 9223372036854775807 := fun j hj => by
    obtain ⟨o, ho, hw⟩ := hg j (.int .i64) (by rw [List.getElem?_replicate, if_pos hj])
    exact ⟨o, ho, wf_i64 hw⟩
  obtain ⟨o0, q0, -⟩ := hg' 0 (by omega)
  obtain ⟨o1, q1, -⟩ := hg' 1 (by omega)
  obtain ⟨o2, q2, -, hl⟩ := hg' 2 (by omega)
  obtain ⟨o3, q3, -, hc⟩ := hg' 3 (by omega)
  have hrow : mkRow (List.replicate 4 (Leaf.int .i64)).length g = #[.int .i64 o0, .int .i64 o1, .int .i64 o2, .int .i64 o3] := by
    show mkRow 4 g = _
    rw [← q0, ← q1, ← q2, ← q3]; rfl
  rw [hrow] at hW' ⊢
  refine (frameGuesses_any sl z c pv b o0 o1 o2 o3 W hp hl hc).mono fun e W' ⟨he, hx⟩ => ?_
  subst he
  exact ⟨_, rfl, post_law laidOut hW' hx rfl (by kernel_rfl) Tryd.underlying4 (by rw [Tryd.params10]; intro t ht; simp at ht; rcases ht with rfl | rfl | rfl <;> exact ⟨by kernel_rfl, of_decide_eq_true (by kernel_rfl)⟩) rfl rfl rfl⟩

theorem frameGuesses_holds : Rows.FrameGuessesSaid :=
  OpenClaim.holds_of_wide 10 Tryd.f10 rfl rfl rfl rfl rfl rfl rfl ⟨rfl, rfl, rfl, rfl, rfl⟩ rfl rfl rfl rfl rfl (by kernel_rfl) Tryd.func10 (by kernel_rfl)
    (of_decide_eq_true (by kernel_rfl)) (by unfold Func.isWrapper; first | (rw [if_pos (by decide +kernel)]; kernel_rfl) | (rw [if_neg (by decide +kernel)]; exact ⟨rfl, rfl⟩))
    (fun os started H enc _ => guesses_lifted os started H enc)

theorem frameGuesses_card : Rows.FrameGuessesCardSaid :=
  Claim7.holds_tied_plain_at .later [] [.data, .data] true (true, "56a79592d24ef0c7688ce38b7795ce9123dad47eda87b49882692c532ed86fb4") false
    frameGuesses_holds (fun _ h => by cases h) (by kernel_rfl) (fun _ h => by cases h) frameGuesses_row_tie rfl ⟨rfl, rfl⟩ (by kernel_rfl) rfl
    (fun f fn hf hfn => by
      obtain rfl : f = 10 := Option.some.inj ((show Tryd.prog.funcNamed "spinet/spinetlaw16.FrameGuesses" = some 10 by kernel_rfl).symm.trans hf) |>.symm
      obtain rfl : fn = Tryd.f10 := (Option.some.inj (Tryd.func10.symm.trans hfn)).symm
      exact ⟨by kernel_rfl, fun j t ht => by
        rw [Tryd.params10] at ht
        have hm : t ∈ [89, 4, 90] := by simpa using Array.mem_of_getElem? ht
        have hall : ([89, 4, 90].all fun u => !Tryd.prog.wantsStandIn u) = true := by kernel_rfl
        exact (show Tryd.prog.wantsStandIn t = false by simpa using List.all_eq_true.1 hall t hm)⟩)
    (by kernel_rfl)
#print axioms frameGuesses_card
end Go.Proofs.YtkcambhojpafkaaDoor
