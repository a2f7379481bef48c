/- ShareAlike: for every input, whatever it is: the law returns true, and the input reads as it did: the row and its tied card, proved. -/
import Derived.Test.YtkcambhojpafkaaDoorP2
import Derived.Test.YtkcambhojpafkaaDoorL6
import Derived.Test.YtkcambhojpafkaaDoorP4
import Derived.Test.YtkcambhojpafkaaDoorCards
set_option linter.unusedSimpArgs false
set_option linter.unusedVariables false
namespace Go.Proofs.YtkcambhojpafkaaDoor
open Go Go.ChangeShapes Go.WideShapes Go.ChangeAt Go.RowKit

set_option maxRecDepth 100000 in
theorem alike_lifted (os : Os) (started : os.Started) (H : Type) (enc : TypeId × Value → H) :
    ReturnsInHanded {} Tryd.checked os 6 .any (fun w args => (Rows.shareAlikeSpec.pre enc Tryd.prog Tryd.f6 [] false w args ∧ laidMetH Tryd.prog [("spinet/mode.widths", Rows.laid_spinet_mode_widths)] w) ∧ sizedMet enc Tryd.prog Tryd.f6 (OpenSpec.ofChange Rows.shareAlikeSpec) false w args)
      (Rows.shareAlikeSpec.post enc Tryd.prog Tryd.f6 false true false false) := by
  refine returnsInHanded_of_change_and (C := Tryd.checked) (X := fun w _ => laidMetH Tryd.prog [("spinet/mode.widths", Rows.laid_spinet_mode_widths)] w) (fun _ _ _ hh h => h.of_heap hh) own started (by kernel_rfl) Tryd.func6
    (ChangeSpec.witness_shaped (enc := enc) (C := Tryd.checked) (os := os) (X := fun w _ => laidMetH Tryd.prog [("spinet/mode.widths", Rows.laid_spinet_mode_widths)] w) false (World.doorLaid Tryd.prog 400 os) #[.slice none 0 0] 8 rfl (World.shaped_of_RefB (by kernel_rfl) (by kernel_rfl)) (by kernel_rfl) (by kernel_rfl) (by kernel_rfl) (widthsDoor os _)) ?_
  intro W base args ds gs before hval0 hW _ _ hL _
  have hval : ∀ (j : Nat) t v, Tryd.f6.params[j]? = some t → args[j]? = some v → Value.okWide Tryd.prog W .any base t v := hval0
  have hW' := hW
  obtain ⟨p, q, hA0, hV, rfl, hfz, hnd⟩ := hW
  have hA : DataW.TrodAll enc Tryd.prog W 0 (fun _ => true) true Tryd.f6.params.toList args.toList ds p := hA0
  rw [Tryd.params6] at hA hval
  obtain ⟨v0, d0, rfl, rfl, h0⟩ := trodAll_one hA
  obtain ⟨rfl, rfl⟩ := trodVars_none hV
  obtain ⟨a, b, o, len, cp, g, rfl, hcp, haddr, hcell⟩ := open_plains (ls := List.replicate 4 (.int .i64)) (d := 5) Tryd.underlying52 (by kernel_rfl) (by kernel_rfl) (by decide) (okWide_slice Tryd.underlying52 (hval 0 52 v0 rfl rfl)) h0
  refine (shareAlike_any a b o len cp (fun q j => intOf (g q j)) W (widthsMet hL) ⟨haddr, fun q hq j hj => by
    obtain ⟨h1, h2⟩ := hcell q hq j hj
    obtain ⟨z, hz, -⟩ := h2 (.int .i64) (by rw [List.getElem?_replicate, if_pos hj])
    simp only [List.length_replicate] at h1
    rw [h1, hz]; rfl⟩).mono fun e W' ⟨he, hx⟩ => ?_
  subst he
  exact ⟨_, rfl, post_law laidOut hW' hx rfl (by kernel_rfl) Tryd.underlying4 (by rw [Tryd.params6]; intro t ht; simp at ht; subst ht; exact ⟨by kernel_rfl, of_decide_eq_true (by kernel_rfl)⟩) rfl rfl rfl⟩

theorem shareAlike_holds : Rows.ShareAlikeSaid :=
  OpenClaim.holds_of_wide 6 Tryd.f6 rfl rfl rfl rfl rfl rfl rfl ⟨rfl, rfl, rfl, rfl, rfl⟩ rfl rfl rfl rfl rfl (by kernel_rfl) Tryd.func6 (by kernel_rfl)
    (of_decide_eq_true (by kernel_rfl)) (by unfold Func.isWrapper; first | (rw [if_pos (by decide +kernel)]; kernel_rfl) | (rw [if_neg (by decide +kernel)]; exact ⟨rfl, rfl⟩))
    (fun os started H enc _ => alike_lifted os started H enc)

theorem shareAlike_card : Rows.ShareAlikeCardSaid :=
  Claim7.holds_tied_plain_at .later [] [.data] true (true, "56a79592d24ef0c7688ce38b7795ce9123dad47eda87b49882692c532ed86fb4") false
    shareAlike_holds (fun _ h => by cases h) (by kernel_rfl) (fun _ h => by cases h) shareAlike_row_tie rfl ⟨rfl, rfl⟩ (by kernel_rfl) rfl
    (fun f fn hf hfn => by
      obtain rfl : f = 6 := Option.some.inj ((show Tryd.prog.funcNamed "spinet/spinetlaw15.ShareAlike" = some 6 by kernel_rfl).symm.trans hf) |>.symm
      obtain rfl : fn = Tryd.f6 := (Option.some.inj (Tryd.func6.symm.trans hfn)).symm
      exact ⟨by kernel_rfl, fun j t ht => by
        rw [Tryd.params6] at ht
        have hm : t ∈ [52] := by simpa using Array.mem_of_getElem? ht
        have hall : ([52].all fun u => !Tryd.prog.wantsStandIn u) = true := by kernel_rfl
        exact (show Tryd.prog.wantsStandIn t = false by simpa using List.all_eq_true.1 hall t hm)⟩)
    (by kernel_rfl)
#print axioms shareAlike_card
end Go.Proofs.YtkcambhojpafkaaDoor
