/-
  MessageParses: the row and its tied card.
-/
import Derived.Test.YtkmkpdmjdfbpjaaGreatDoorJ17
import Derived.Test.YtkmkpdmjdfbpjaaGreatDoorKMsgParsesW
namespace Go.Proofs.YtkmkpdmjdfbpjaaGreatDoor
set_option linter.unusedSimpArgs false
set_option linter.unusedVariables false
open Go.ChangeShapes Go.WideShapes Go.RowKit Go.Deep
namespace cardMessageParses
theorem own : ownKnob Tryz.prog.godebug = none := by kernel_rfl
theorem laidOut : laidOutB Tryz.prog = true := by kernel_rfl
theorem reads : ∀ t ∈ Tryz.f4.params.toList, Tryz.prog.readableRec t = true ∧ t < Tryz.prog.types.size := by
  have h : (Tryz.f4.params.toList.all fun t => Tryz.prog.readableRec t && decide (t < Tryz.prog.types.size)) = true := by kernel_rfl
  intro t ht
  have := List.all_eq_true.1 h t ht
  simpa using this
set_option maxRecDepth 100000 in
theorem witness (os : Os) (H : Type) (enc : TypeId × Value → H) : ∃ (w : World) (tape : Tape) (i : Input), w.os = os ∧ (w.forCall tape i).Shaped Tryz.checked.prog ∧ i.vars = [] ∧ Input.okWide Tryz.checked.prog (w.forCall tape i) .any w.heap.size 4 i ∧
      ((Rows.messageParsesSpec.pre enc Tryz.checked.prog Tryz.f4 [] false (w.forCall tape i).memory i.args ∧ laidMetH Tryz.prog Evt.laidT (w.forCall tape i).memory) ∧ sizedMet enc Tryz.checked.prog Tryz.f4 (OpenSpec.ofChange Rows.messageParsesSpec) false (w.forCall tape i).memory i.args) ∧
      ({ modest := false } : Assume).holds Tryz.checked.prog (lone (Frame.enter Tryz.checked.prog 4 i.args .normal) [] (w.forCall tape i)) :=
  ChangeSpec.witness_shaped (enc := enc) (C := Tryz.checked) (os := os) (s := Rows.messageParsesSpec) (X := fun w _ => laidMetH Tryz.prog Evt.laidT w) false (World.laidAll Tryz.prog os Evt.laidT) #[.slice none 0 0] 60 (World.laidAll_os _ _ _)
    (World.shaped_of_ZipB (by kernel_rfl) (by kernel_rfl)) (by kernel_rfl) (by kernel_rfl) (by kernel_rfl)
    (by rw [MakeChecks.laidMetH_plain _ _ _ (by kernel_rfl)]; exact laidMet_laidAll _ (by kernel_rfl) (by kernel_rfl))
set_option maxRecDepth 100000 in
theorem lifted (os : Os) (started : os.Started) (H : Type) (enc : TypeId × Value → H) :
    ReturnsInHanded {} Tryz.checked os 4 .any (fun w args => (Rows.messageParsesSpec.pre enc Tryz.prog Tryz.f4 [] false w args ∧ laidMetH Tryz.prog Evt.laidT w) ∧ sizedMet enc Tryz.prog Tryz.f4 (OpenSpec.ofChange Rows.messageParsesSpec) false w args)
      (Rows.messageParsesSpec.post enc Tryz.prog Tryz.f4 false true false false) := by
  refine Evt.returns_laid (C := Tryz.checked) (X := fun w _ => laidMetH Tryz.prog Evt.laidT w) own started (by kernel_rfl) Tryz.func4 (witness os H enc) ?_
  intro W base args ds gs before hval0 hW hwt hsh
  have hval : ∀ (j : Nat) t v, Tryz.f4.params[j]? = some t → args[j]? = some v → Value.okWide Tryz.prog W .any base t v := hval0
  have hW1 : DataW.Whole enc Tryz.prog Tryz.f4.params.toList Rows.messageParsesSpec.vars false W args.toList ds gs before := hW
  obtain ⟨p, q, hA0, hV, _⟩ := id hW1
  have hA : DataW.TrodAll enc Tryz.prog W 0 (fun _ => true) true Tryz.f4.params.toList args.toList ds p := hA0
  rw [Tryz.params4] at hA hval
  obtain ⟨v0, d0, rfl, rfl, h0⟩ := trodAll_one hA
  obtain ⟨rfl, rfl⟩ := trodVars_none hV
  have hwt2 : ∀ (j : Nat) t d, (Tryz.f4.params.toList ++ Rows.messageParsesSpec.plain.varTypes Tryz.prog)[j]? = some t → ([d0] ++ [] : List (DataW H))[j]? = some d → ∀ x ∈ d.weights Tryz.prog t, x ≤ reachBytes := fun j t d ht hd x hx => by
    have := List.all_eq_true.1 hwt x (DataW.weights_mem_each ht hd x hx)
    simpa using this
  obtain ⟨D, m, cm, qs, rfl, hq1, hq2, hq3, hq4⟩ := open_u8s Tryz.underlying29 Tryz.underlying5 (by kernel_rfl) (by kernel_rfl) (cells_slice Tryz.underlying29 (hval 0 _ v0 rfl rfl)) (hwt2 0 _ d0 (by kernel_rfl) rfl) h0
  refine (Msg.parsesW Val.joins W (Evt.maxAt hsh) D m cm qs hq4 hq2 hq3).mono fun e W' ⟨he, hn⟩ => ?_
  exact ⟨_, he, law_post laidOut (tb := 4) rfl Tryz.underlying4 reads rfl hW1 rfl hn.below⟩
theorem holds : Rows.MessageParsesSaid :=
  OpenClaim.holds_of_wide 4 Tryz.f4 rfl rfl rfl rfl rfl rfl rfl ⟨rfl, rfl, rfl, rfl, rfl⟩ rfl rfl rfl rfl rfl (by kernel_rfl) Tryz.func4 (by kernel_rfl)
    (of_decide_eq_true (by kernel_rfl)) (by unfold Func.isWrapper; first | (rw [if_pos (by decide +kernel)]; kernel_rfl) | (rw [if_neg (by decide +kernel)]; exact ⟨rfl, rfl⟩))
    (fun os started H enc _ => lifted os started H enc)
theorem proved : Rows.MessageParsesCardSaid :=
  Claim7.holds_tied_plain_at .later [] [.data, .pinned] true (true, "dd2cbbf751cd068ad162288338ffecabaa1014f24e37d8c90c5d57ccabf73e99") false holds (fun _ h => by cases h) (by kernel_rfl) (fun _ h => by cases h) messageParses_row_tie rfl ⟨rfl, rfl⟩ (by kernel_rfl) rfl
    (fun f fn hf hfn => by
      obtain rfl : f = 4 := Option.some.inj ((show Tryz.prog.funcNamed "hedgerow/hedgerowlaw14.MessageParses" = some 4 by kernel_rfl).symm.trans hf) |>.symm
      obtain rfl : fn = Tryz.f4 := (Option.some.inj (Tryz.func4.symm.trans hfn)).symm
      exact ⟨by kernel_rfl, fun j t ht => by
        have hm : t ∈ Tryz.f4.params.toList := by simpa using Array.mem_of_getElem? ht
        have hall : (Tryz.f4.params.toList.all fun u => !Tryz.prog.wantsStandIn u) = true := by kernel_rfl
        exact (show Tryz.prog.wantsStandIn t = false by simpa using List.all_eq_true.1 hall t hm)⟩)
    (by kernel_rfl)
end cardMessageParses
end Go.Proofs.YtkmkpdmjdfbpjaaGreatDoor
