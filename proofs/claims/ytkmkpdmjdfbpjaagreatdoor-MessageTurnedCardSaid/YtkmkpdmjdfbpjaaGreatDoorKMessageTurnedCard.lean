/-
  MessageTurned: the row and its tied card.
-/
import Derived.Test.YtkmkpdmjdfbpjaaGreatDoorJ17
import Derived.Test.YtkmkpdmjdfbpjaaGreatDoorKMsgTurnW
namespace Go.Proofs.YtkmkpdmjdfbpjaaGreatDoor
set_option linter.unusedSimpArgs false
set_option linter.unusedVariables false
open Go.ChangeShapes Go.WideShapes Go.RowKit Go.Deep
namespace cardMessageTurned
theorem trodAll_five {H : Type} {enc : TypeId × Value → H} {P : Program} {w : World} {base : Nat} {spare : Nat → Bool} {held : Bool} {t0 t1 t2 t3 t4 : TypeId} {args : Array Value} {ds : List (DataW H)} {ps : List MemPlace} (h : DataW.TrodAll enc P w base spare held [t0, t1, t2, t3, t4] args.toList ds ps) :
    ∃ v0 v1 v2 v3 v4 d0 d1 d2 d3 d4 p0 p1 p2 p3 p4, args = #[v0, v1, v2, v3, v4] ∧ ds = [d0, d1, d2, d3, d4] ∧ ps = p0 ++ p1 ++ p2 ++ p3 ++ p4 ∧ DataW.Trod enc P w base spare held t0 v0 d0 p0 ∧ DataW.Trod enc P w base spare held t1 v1 d1 p1 ∧ DataW.Trod enc P w base spare held t2 v2 d2 p2 ∧ DataW.Trod enc P w base spare held t3 v3 d3 p3 ∧ DataW.Trod enc P w base spare held t4 v4 d4 p4 := by
  obtain ⟨v0, vs0, d0, ds0, p0, q0, hargs, rfl, rfl, h0, r0⟩ := trodAll_cons h
  obtain ⟨v1, vs1, d1, ds1, p1, q1, rfl, rfl, rfl, h1, r1⟩ := trodAll_cons r0
  obtain ⟨v2, vs2, d2, ds2, p2, q2, rfl, rfl, rfl, h2, r2⟩ := trodAll_cons r1
  obtain ⟨v3, vs3, d3, ds3, p3, q3, rfl, rfl, rfl, h3, r3⟩ := trodAll_cons r2
  obtain ⟨v4, vs4, d4, ds4, p4, q4, rfl, rfl, rfl, h4, r4⟩ := trodAll_cons r3
  obtain ⟨rfl, rfl, rfl⟩ := trodAll_nil r4
  exact ⟨v0, v1, v2, v3, v4, d0, d1, d2, d3, d4, p0, p1, p2, p3, p4, by cases args; simp_all, rfl, by simp, h0, h1, h2, h3, h4⟩
theorem own : ownKnob Tryz.prog.godebug = none := by kernel_rfl
theorem laidOut : laidOutB Tryz.prog = true := by kernel_rfl
theorem reads : ∀ t ∈ Tryz.f5.params.toList, Tryz.prog.readableRec t = true ∧ t < Tryz.prog.types.size := by
  have h : (Tryz.f5.params.toList.all fun t => Tryz.prog.readableRec t && decide (t < Tryz.prog.types.size)) = true := by kernel_rfl
  intro t ht
  have := List.all_eq_true.1 h t ht
  simpa using this
set_option maxRecDepth 100000 in
theorem witness (os : Os) (H : Type) (enc : TypeId × Value → H) : ∃ (w : World) (tape : Tape) (i : Input), w.os = os ∧ (w.forCall tape i).Shaped Tryz.checked.prog ∧ i.vars = [] ∧ Input.okWide Tryz.checked.prog (w.forCall tape i) .any w.heap.size 5 i ∧
      ((Rows.messageTurnedSpec.pre enc Tryz.checked.prog Tryz.f5 [] false (w.forCall tape i).memory i.args ∧ laidMetH Tryz.prog Evt.laidT (w.forCall tape i).memory) ∧ sizedMet enc Tryz.checked.prog Tryz.f5 (OpenSpec.ofChange Rows.messageTurnedSpec) false (w.forCall tape i).memory i.args) ∧
      ({ modest := false } : Assume).holds Tryz.checked.prog (lone (Frame.enter Tryz.checked.prog 5 i.args .normal) [] (w.forCall tape i)) :=
  ChangeSpec.witness_shaped (enc := enc) (C := Tryz.checked) (os := os) (s := Rows.messageTurnedSpec) (X := fun w _ => laidMetH Tryz.prog Evt.laidT w) false (World.laidAll Tryz.prog os Evt.laidT) #[.agg #[.int .i64 0, .int .i64 0, .int .i64 0, .int .i64 0, .int .i64 0, .int .i64 0, .int .i64 0, .int .i64 0, .int .i64 0, .int .i64 0, .int .i64 0, .int .i64 0, .int .i64 0, .int .i64 0, .int .i64 0, .int .i64 0, .int .i64 0, .int .i64 0, .int .i64 0, .slice none 0 0], .int .u16 0, .int .u8 0, .int .u16 0, .slice none 0 0] 60 (World.laidAll_os _ _ _)
    (World.shaped_of_ZipB (by kernel_rfl) (by kernel_rfl)) (by kernel_rfl) (by kernel_rfl) (by kernel_rfl)
    (by rw [MakeChecks.laidMetH_plain _ _ _ (by kernel_rfl)]; exact laidMet_laidAll _ (by kernel_rfl) (by kernel_rfl))
set_option maxRecDepth 100000 in
theorem lifted (os : Os) (started : os.Started) (H : Type) (enc : TypeId × Value → H) :
    ReturnsInHanded {} Tryz.checked os 5 .any (fun w args => (Rows.messageTurnedSpec.pre enc Tryz.prog Tryz.f5 [] false w args ∧ laidMetH Tryz.prog Evt.laidT w) ∧ sizedMet enc Tryz.prog Tryz.f5 (OpenSpec.ofChange Rows.messageTurnedSpec) false w args)
      (Rows.messageTurnedSpec.post enc Tryz.prog Tryz.f5 false true false false) := by
  refine Evt.returns_laid (C := Tryz.checked) (X := fun w _ => laidMetH Tryz.prog Evt.laidT w) own started (by kernel_rfl) Tryz.func5 (witness os H enc) ?_
  intro W base args ds gs before hval0 hW hwt hsh
  have hval : ∀ (j : Nat) t v, Tryz.f5.params[j]? = some t → args[j]? = some v → Value.okWide Tryz.prog W .any base t v := hval0
  have hW1 : DataW.Whole enc Tryz.prog Tryz.f5.params.toList Rows.messageTurnedSpec.vars false W args.toList ds gs before := hW
  obtain ⟨p, q, hA0, hV, _⟩ := id hW1
  have hA : DataW.TrodAll enc Tryz.prog W 0 (fun _ => true) true Tryz.f5.params.toList args.toList ds p := hA0
  rw [Tryz.params5] at hA hval
  obtain ⟨v0, v1, v2, v3, v4, d0, d1, d2, d3, d4, p0, p1, p2, p3, p4, rfl, rfl, rfl, h0, h1, h2, h3, h4⟩ := trodAll_five hA
  obtain ⟨rfl, rfl⟩ := trodVars_none hV
  have hwt2 : ∀ (j : Nat) t d, (Tryz.f5.params.toList ++ Rows.messageTurnedSpec.plain.varTypes Tryz.prog)[j]? = some t → ([d0, d1, d2, d3, d4] ++ [] : List (DataW H))[j]? = some d → ∀ x ∈ d.weights Tryz.prog t, x ≤ reachBytes := fun j t d ht hd x hx => by
    have := List.all_eq_true.1 hwt x (DataW.weights_mem_each ht hd x hx)
    simpa using this
  obtain ⟨m0, u0, rfl, r0, l0, c0⟩ := Msg.open_ms (hval 0 _ v0 rfl rfl) (hwt2 0 _ d0 (by kernel_rfl) rfl) h0
  obtain ⟨at_, rfl, hat⟩ := open_u16 Tryz.underlying39 (hval 1 _ v1 rfl rfl) h1
  obtain ⟨y, rfl⟩ := open_u8 Tryz.underlying5 (hval 2 _ v2 rfl rfl) h2
  obtain ⟨cut, rfl, hcut⟩ := open_u16 Tryz.underlying39 (hval 3 _ v3 rfl rfl) h3
  obtain ⟨D, m, cm, qs, rfl, hq1, hq2, hq3, hq4⟩ := open_u8s Tryz.underlying29 Tryz.underlying5 (by kernel_rfl) (by kernel_rfl) (cells_slice Tryz.underlying29 (hval 4 _ v4 rfl rfl)) (hwt2 4 _ d4 (by kernel_rfl) rfl) h4
  refine (Msg.turnW Val.joins W (Evt.maxAt hsh) _ m0 u0 r0 (fun b hb => hb) c0 l0 at_ hat y cut hcut D m cm qs hq4 hq2).mono fun e W' ⟨he, hn⟩ => ?_
  exact ⟨_, he, law_post laidOut (tb := 4) rfl Tryz.underlying4 reads rfl hW1 rfl hn.below⟩
theorem holds : Rows.MessageTurnedSaid :=
  OpenClaim.holds_of_wide 5 Tryz.f5 rfl rfl rfl rfl rfl rfl rfl ⟨rfl, rfl, rfl, rfl, rfl⟩ rfl rfl rfl rfl rfl (by kernel_rfl) Tryz.func5 (by kernel_rfl)
    (of_decide_eq_true (by kernel_rfl)) (by unfold Func.isWrapper; first | (rw [if_pos (by decide +kernel)]; kernel_rfl) | (rw [if_neg (by decide +kernel)]; exact ⟨rfl, rfl⟩))
    (fun os started H enc _ => lifted os started H enc)
theorem proved : Rows.MessageTurnedCardSaid :=
  Claim7.holds_tied_plain_at .later [] [.data, .pinned] true (true, "dd2cbbf751cd068ad162288338ffecabaa1014f24e37d8c90c5d57ccabf73e99") false holds (fun _ h => by cases h) (by kernel_rfl) (fun _ h => by cases h) messageTurned_row_tie rfl ⟨rfl, rfl⟩ (by kernel_rfl) rfl
    (fun f fn hf hfn => by
      obtain rfl : f = 5 := Option.some.inj ((show Tryz.prog.funcNamed "hedgerow/hedgerowlaw14.MessageTurned" = some 5 by kernel_rfl).symm.trans hf) |>.symm
      obtain rfl : fn = Tryz.f5 := (Option.some.inj (Tryz.func5.symm.trans hfn)).symm
      exact ⟨by kernel_rfl, fun j t ht => by
        have hm : t ∈ Tryz.f5.params.toList := by simpa using Array.mem_of_getElem? ht
        have hall : (Tryz.f5.params.toList.all fun u => !Tryz.prog.wantsStandIn u) = true := by kernel_rfl
        exact (show Tryz.prog.wantsStandIn t = false by simpa using List.all_eq_true.1 hall t hm)⟩)
    (by kernel_rfl)
end cardMessageTurned
end Go.Proofs.YtkmkpdmjdfbpjaaGreatDoor
