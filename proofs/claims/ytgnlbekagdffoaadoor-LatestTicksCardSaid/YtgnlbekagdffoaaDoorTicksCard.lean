/-
  LatestTicks: the row and its tied card.
-/
import Derived.Test.YtgnlbekagdffoaaDoorTicks
import Derived.Test.YtgnlbekagdffoaaDoorSort
import Derived.Test.YtgnlbekagdffoaaDoorCards
import Derived.Test.YtgnlbekagdffoaaDoorTie
import Derived.Handed
import Derived.Lay
import Derived.LaidMore
import Derived.LaidOnce
import Derived.OpenShut
import Derived.SevenTiedAt
import Derived.Shelf.Vars
import Derived.ProofKit
namespace Go.Proofs.YtgnlbekagdffoaaDoor
set_option linter.unusedSimpArgs false
set_option linter.unusedVariables false
open Go.ChangeShapes Go.WideShapes Go.RowKit Go.Deep
namespace Lat
section
variable {H : Type} {enc : TypeId × Value → H} {P : Program} {w w0 : World} {base b0 : Nat} {r : Reach} {spare : Nat → Bool} {held : Bool}
theorem okWide_struct {t : TypeId} {fs : Array Field} {v : Value} (ht : P.underlying t = some (.struct fs)) (hval : Value.okWide P w0 r b0 t v) : ∃ cs, v = .agg cs := by
  unfold Value.okWide at hval
  rw [ht] at hval
  obtain ⟨cs, rfl, _⟩ := hval
  exact ⟨cs, rfl⟩
set_option maxRecDepth 100000 in
theorem open_stamp {v : Value} {d : DataW H} {ps : List MemPlace} (hval : Value.okWide Tryd.prog w0 r b0 29 v) (hd : DataW.Trod enc Tryd.prog w base spare held 29 v d ps) :
    ∃ x y : Int, v = .agg #[.int .i64 x, .int .i64 y] ∧ -9223372036854775808 ≤ x ∧ x ≤ 9223372036854775807 := by
  obtain ⟨cs, rfl⟩ := okWide_struct Tryd.underlying29 hval
  obtain ⟨fuel, hf⟩ := hd
  obtain ⟨ys, m, _, _, hyc, hyl, hg⟩ := DataW.trod_struct Tryd.underlying29 hf
  have hcs : (Value.agg cs).cells.toList = cs.toList := rfl
  rw [hcs] at hyc hg
  have g0 : DataW.trod enc Tryd.prog w base spare held m 3 ((cs.toList.drop 0).take (Tryd.prog.cellsOf 3)) = ys[0]? := hg 0 _ rfl
  have g1 : DataW.trod enc Tryd.prog w base spare held m 3 ((cs.toList.drop 1).take (Tryd.prog.cellsOf 3)) = ys[1]? := hg 1 _ rfl
  rw [show Tryd.prog.cellsOf 3 = 1 by kernel_rfl] at g0 g1
  rw [List.getElem?_eq_getElem (by rw [hyl]; simp)] at g0 g1
  have hlen : cs.toList.length = 2 := by rw [hyc]; kernel_rfl
  obtain ⟨l⟩ := cs
  match l, hlen with
  | [a, b], _ =>
    obtain ⟨x, hx, _, hw⟩ := DataW.trod_int Tryd.underlying3 g0
    obtain ⟨y, hy, _⟩ := DataW.trod_int Tryd.underlying3 g1
    have hx' : a = .int .i64 x := by simpa using hx
    have hy' : b = .int .i64 y := by simpa using hy
    subst hx' hy'
    simp [Lit.wf, IntKind.min, IntKind.max, IntKind.signed, IntKind.bits] at hw
    exact ⟨x, y, rfl, by omega, by omega⟩
end
theorem maxAt {W : World} (h : W.ShapedOpen Tryd.prog) : Val.MaxAt W :=
  cell_of_shapedOpen_int (P := Tryd.prog) (g := 0) (t := 3) (zero := #[.int .i64 0]) h (of_decide_eq_true (by kernel_rfl)) (by kernel_rfl) rfl (by kernel_rfl) (by kernel_rfl) Tryd.underlying3
abbrev laidT : List (String × DataW Unit) := [("unicode/utf8.acceptRanges", Rows.laid_unicode_utf8_acceptRanges), ("unicode/utf8.first", Rows.laid_unicode_utf8_first)]
theorem returns_laid {H : Type} {enc : TypeId × Value → H} {a : Assume} {C : Checked} {os : Os} {f : FuncId} {fn : Func} {s : ChangeSpec} {conds : List PathCond} {apart fresh handsOn again : Bool} {X : World → Array Value → Prop}
    (own : ownKnob C.prog.godebug = none) (started : os.Started) (noInit : C.prog.inits.idxOf? f = none) (hfn : C.prog.funcs[f]? = some fn)
    (witness : ∃ (w : World) (tape : Tape) (i : Input), w.os = os ∧ (w.forCall tape i).Shaped C.prog ∧ i.vars = [] ∧ Input.okWide C.prog (w.forCall tape i) .any w.heap.size f i ∧
      ((s.pre enc C.prog fn conds apart (w.forCall tape i).memory i.args ∧ X (w.forCall tape i).memory i.args) ∧ sizedMet enc C.prog fn (OpenSpec.ofChange s) apart (w.forCall tape i).memory i.args) ∧ a.holds C.prog (lone (Frame.enter C.prog f i.args .normal) [] (w.forCall tape i)))
    (contract : ∀ (W : World) (base : Nat) (args : Array Value) (ds gs : List (DataW H)) (before : List MemPlace),
      (∀ (j : Nat) t v, fn.params[j]? = some t → args[j]? = some v → Value.okWide C.prog W .any base t v) →
      DataW.Whole enc C.prog fn.params.toList s.vars apart W args.toList ds gs before →
      (DataW.weightsEach C.prog (fn.params.toList ++ s.plain.varTypes C.prog) (ds ++ gs)).all (· ≤ reachBytes) = true →
      W.ShapedOpen C.prog →
      Calls C.prog f args W fun e W' => ∃ v, e = .returned v ∧ s.post enc C.prog fn apart fresh handsOn again W args v W') :
    ReturnsInHanded a C os f .any (fun w args => (s.pre enc C.prog fn conds apart w args ∧ X w args) ∧ sizedMet enc C.prog fn (OpenSpec.ofChange s) apart w args) (s.post enc C.prog fn apart fresh handsOn again) := by
  refine returnsInHanded_of_calls own started noInit witness ?_
  intro w tape i _ hsh _ hok hpre _
  obtain ⟨_, _, _, fn', hfn', _, _, _, _, hval⟩ := hok
  have e : fn' = fn := Option.some.inj (hfn'.symm.trans hfn)
  subst e
  obtain ⟨⟨⟨ds, gs, before, hw, _⟩, _⟩, hz⟩ := hpre
  have hw' := DataW.Whole.of_heap (w' := w.forCall tape i) (by rfl) hw
  refine (contract (w.forCall tape i) w.heap.size i.args ds gs before hval hw' (hz.weights hw) hsh).mono fun e W' ⟨v, he, hp⟩ => ?_
  subst he
  exact ChangeSpec.post_blind hp
end Lat
namespace cardLatestTicks
theorem own : ownKnob Tryd.prog.godebug = none := by kernel_rfl
theorem laidOut : laidOutB Tryd.prog = true := by kernel_rfl
theorem reads : ∀ t ∈ Tryd.f5.params.toList, Tryd.prog.readableRec t = true ∧ t < Tryd.prog.types.size := by
  have h : (Tryd.f5.params.toList.all fun t => Tryd.prog.readableRec t && decide (t < Tryd.prog.types.size)) = true := by kernel_rfl
  intro t ht
  have := List.all_eq_true.1 h t ht
  simpa using this
set_option maxRecDepth 100000 in
theorem witness (os : Os) (H : Type) (enc : TypeId × Value → H) : ∃ (w : World) (tape : Tape) (i : Input), w.os = os ∧ (w.forCall tape i).Shaped Tryd.checked.prog ∧ i.vars = [] ∧ Input.okWide Tryd.checked.prog (w.forCall tape i) .any w.heap.size 5 i ∧
      ((Rows.latestTicksSpec.pre enc Tryd.checked.prog Tryd.f5 [] false (w.forCall tape i).memory i.args ∧ laidMetH Tryd.prog Lat.laidT (w.forCall tape i).memory) ∧ sizedMet enc Tryd.checked.prog Tryd.f5 (OpenSpec.ofChange Rows.latestTicksSpec) false (w.forCall tape i).memory i.args) ∧
      ({ modest := false } : Assume).holds Tryd.checked.prog (lone (Frame.enter Tryd.checked.prog 5 i.args .normal) [] (w.forCall tape i)) :=
  ChangeSpec.witness_shaped (enc := enc) (C := Tryd.checked) (os := os) (s := Rows.latestTicksSpec) (X := fun w _ => laidMetH Tryd.prog Lat.laidT w) false (World.laidAll Tryd.prog os Lat.laidT) #[.agg #[.int .i64 0, .int .i64 0], .agg #[.int .i64 0, .int .i64 0], .int .i64 0] 60 (World.laidAll_os _ _ _)
    (World.shaped_of_ZipB (by kernel_rfl) (by kernel_rfl)) (by kernel_rfl) (by kernel_rfl) (by kernel_rfl)
    (by rw [MakeChecks.laidMetH_plain _ _ _ (by kernel_rfl)]; exact laidMet_laidAll _ (by kernel_rfl) (by kernel_rfl))
set_option maxRecDepth 100000 in
theorem lifted (os : Os) (started : os.Started) (H : Type) (enc : TypeId × Value → H) :
    ReturnsInHanded {} Tryd.checked os 5 .any (fun w args => (Rows.latestTicksSpec.pre enc Tryd.prog Tryd.f5 [] false w args ∧ laidMetH Tryd.prog Lat.laidT w) ∧ sizedMet enc Tryd.prog Tryd.f5 (OpenSpec.ofChange Rows.latestTicksSpec) false w args)
      (Rows.latestTicksSpec.post enc Tryd.prog Tryd.f5 false true false false) := by
  refine Lat.returns_laid (C := Tryd.checked) (X := fun w _ => laidMetH Tryd.prog Lat.laidT w) own started (by kernel_rfl) Tryd.func5 (witness os H enc) ?_
  intro W base args ds gs before hval0 hW _ hsh
  have hval : ∀ (j : Nat) t v, Tryd.f5.params[j]? = some t → args[j]? = some v → Value.okWide Tryd.prog W .any base t v := hval0
  have hW1 : DataW.Whole enc Tryd.prog Tryd.f5.params.toList Rows.latestTicksSpec.vars false W args.toList ds gs before := hW
  obtain ⟨p, q, hA0, hV, _⟩ := id hW1
  have hA : DataW.TrodAll enc Tryd.prog W 0 (fun _ => true) true Tryd.f5.params.toList args.toList ds p := hA0
  rw [Tryd.params5] at hA hval
  obtain ⟨v0, v1, v2, d0, d1, d2, p0, p1, p2, rfl, rfl, rfl, h0, h1, h2⟩ := trodAll_three hA
  obtain ⟨rfl, rfl⟩ := trodVars_none hV
  obtain ⟨a, b, rfl, ha⟩ := Lat.open_stamp (hval 0 _ v0 rfl rfl) h0
  obtain ⟨c, d, rfl, hc⟩ := Lat.open_stamp (hval 1 _ v1 rfl rfl) h1
  obtain ⟨r, rfl, _⟩ := open_int Tryd.underlying3 (hval 2 _ v2 rfl rfl) h2
  refine (Lat.ticks Lat.sorts W (Lat.maxAt hsh) a b c d r ⟨ha.1, ha.2, hc.1, hc.2⟩).mono fun e W' ⟨he, hn⟩ => ?_
  exact ⟨_, he, law_post laidOut (tb := 4) rfl Tryd.underlying4 reads rfl hW1 rfl hn.below⟩
theorem holds : Rows.LatestTicksSaid :=
  OpenClaim.holds_of_wide 5 Tryd.f5 rfl rfl rfl rfl rfl rfl rfl ⟨rfl, rfl, rfl, rfl, rfl⟩ rfl rfl rfl rfl rfl (by kernel_rfl) Tryd.func5 (by kernel_rfl)
    (of_decide_eq_true (by kernel_rfl)) (by unfold Func.isWrapper; first | (rw [if_pos (by decide +kernel)]; kernel_rfl) | (rw [if_neg (by decide +kernel)]; exact ⟨rfl, rfl⟩))
    (fun os started H enc _ => lifted os started H enc)
theorem proved : Rows.LatestTicksCardSaid :=
  Claim7.holds_tied_plain_at .later [] [.data, .pinned] true (true, "3cb0ed3278146e370e21927e578cc0d57e27e62d0a1a72eb17c43da8e58a0fc0") false holds (fun _ h => by cases h) (by kernel_rfl) (fun _ h => by cases h) latestTicks_row_tie rfl ⟨rfl, rfl⟩ (by kernel_rfl) rfl
    (fun f fn hf hfn => by
      obtain rfl : f = 5 := Option.some.inj ((show Tryd.prog.funcNamed "hedgerow/hedgerowlaw36.LatestTicks" = some 5 by kernel_rfl).symm.trans hf) |>.symm
      obtain rfl : fn = Tryd.f5 := (Option.some.inj (Tryd.func5.symm.trans hfn)).symm
      exact ⟨by kernel_rfl, fun j t ht => by
        have hm : t ∈ Tryd.f5.params.toList := by simpa using Array.mem_of_getElem? ht
        have hall : (Tryd.f5.params.toList.all fun u => !Tryd.prog.wantsStandIn u) = true := by kernel_rfl
        exact (show Tryd.prog.wantsStandIn t = false by simpa using List.all_eq_true.1 hall t hm)⟩)
    (by kernel_rfl)
end cardLatestTicks
end Go.Proofs.YtgnlbekagdffoaaDoor
