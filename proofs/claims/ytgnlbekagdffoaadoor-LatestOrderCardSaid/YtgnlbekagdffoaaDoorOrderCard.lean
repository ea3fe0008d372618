/-
  LatestOrder: the row and its tied card.
-/
import Derived.Test.YtgnlbekagdffoaaDoorOrderW
import Derived.Test.YtgnlbekagdffoaaDoorLatCard
namespace Go.Proofs.YtgnlbekagdffoaaDoor
set_option linter.unusedSimpArgs false
set_option linter.unusedVariables false
open Go.ChangeShapes Go.WideShapes Go.RowKit Go.Deep
namespace Lat
theorem open_bools {H : Type} {enc : TypeId × Value → H} {w : World} {base : Nat} {held : Bool} {v : Value} {d : DataW H} {ps : List MemPlace} (hv : v.cells = #[v]) (hd : DataW.Trod enc Tryd.prog w base (fun _ => true) held 43 v d ps) :
    ∃ (D : Option Addr) (z cp : Nat) (bs : Nat → Bool), v = .slice D z cp ∧ ∀ p, p < z → ∃ ad, D = some ad ∧ w.cell? (ad.add p) = some (.bool (bs p)) := by
  obtain ⟨fuel, hf⟩ := hd
  rw [hv] at hf
  rcases open_slice1 Tryd.underlying43 (by kernel_rfl) hf with ⟨h, _⟩ | ⟨a, len, cap, m, n, V, D, Pl, h, _, hl, hm, hmm, hdd, hx⟩
  · have hv' : v = .slice none 0 0 := by simpa using h
    exact ⟨none, 0, 0, fun _ => false, hv', fun p hp => absurd hp (by omega)⟩
  · have hv' : v = .slice (some a) len cap := by simpa using h
    have hle : len ≤ m := by simp at hmm; omega
    have hone : ∀ i, i < len → ∃ b : Bool, V i = .bool b := fun i hi => by
      obtain ⟨b, hb, _⟩ := DataW.trod_bool Tryd.underlying4 (hx i (by omega)).2
      exact ⟨b, by simpa using hb⟩
    obtain ⟨f, hf'⟩ := Deep.choose_lt hone
    exact ⟨some a, len, cap, f, hv', fun p hp => ⟨a, rfl, by rw [(hx p (by omega)).1, hf' p hp]⟩⟩
end Lat
namespace cardLatestOrder
theorem own : ownKnob Tryd.prog.godebug = none := by kernel_rfl
theorem laidOut : laidOutB Tryd.prog = true := by kernel_rfl
theorem reads : ∀ t ∈ Tryd.f4.params.toList, Tryd.prog.readableRec t = true ∧ t < Tryd.prog.types.size := by
  have h : (Tryd.f4.params.toList.all fun t => Tryd.prog.readableRec t && decide (t < Tryd.prog.types.size)) = true := by kernel_rfl
  intro t ht
  have := List.all_eq_true.1 h t ht
  simpa using this
set_option maxRecDepth 100000 in
theorem witness (os : Os) (H : Type) (enc : TypeId × Value → H) : ∃ (w : World) (tape : Tape) (i : Input), w.os = os ∧ (w.forCall tape i).Shaped Tryd.checked.prog ∧ i.vars = [] ∧ Input.okWide Tryd.checked.prog (w.forCall tape i) .any w.heap.size 4 i ∧
      ((Rows.latestOrderSpec.pre enc Tryd.checked.prog Tryd.f4 [] false (w.forCall tape i).memory i.args ∧ laidMetH Tryd.prog Lat.laidT (w.forCall tape i).memory) ∧ sizedMet enc Tryd.checked.prog Tryd.f4 (OpenSpec.ofChange Rows.latestOrderSpec) false (w.forCall tape i).memory i.args) ∧
      ({ modest := false } : Assume).holds Tryd.checked.prog (lone (Frame.enter Tryd.checked.prog 4 i.args .normal) [] (w.forCall tape i)) :=
  ChangeSpec.witness_shaped (enc := enc) (C := Tryd.checked) (os := os) (s := Rows.latestOrderSpec) (X := fun w _ => laidMetH Tryd.prog Lat.laidT w) false (World.laidAll Tryd.prog os Lat.laidT) #[.slice none 0 0, .slice none 0 0] 60 (World.laidAll_os _ _ _)
    (World.shaped_of_ZipB (by kernel_rfl) (by kernel_rfl)) (by kernel_rfl) (by kernel_rfl) (by kernel_rfl)
    (by rw [MakeChecks.laidMetH_plain _ _ _ (by kernel_rfl)]; exact laidMet_laidAll _ (by kernel_rfl) (by kernel_rfl))
set_option maxRecDepth 100000 in
theorem lifted (os : Os) (started : os.Started) (H : Type) (enc : TypeId × Value → H) :
    ReturnsInHanded {} Tryd.checked os 4 .any (fun w args => (Rows.latestOrderSpec.pre enc Tryd.prog Tryd.f4 [] false w args ∧ laidMetH Tryd.prog Lat.laidT w) ∧ sizedMet enc Tryd.prog Tryd.f4 (OpenSpec.ofChange Rows.latestOrderSpec) false w args)
      (Rows.latestOrderSpec.post enc Tryd.prog Tryd.f4 false true false false) := by
  refine Lat.returns_laid (C := Tryd.checked) (X := fun w _ => laidMetH Tryd.prog Lat.laidT w) own started (by kernel_rfl) Tryd.func4 (witness os H enc) ?_
  intro W base args ds gs before hval0 hW hwt hsh
  have hval : ∀ (j : Nat) t v, Tryd.f4.params[j]? = some t → args[j]? = some v → Value.okWide Tryd.prog W .any base t v := hval0
  have hW1 : DataW.Whole enc Tryd.prog Tryd.f4.params.toList Rows.latestOrderSpec.vars false W args.toList ds gs before := hW
  obtain ⟨p, q, hA0, hV, _⟩ := id hW1
  have hA : DataW.TrodAll enc Tryd.prog W 0 (fun _ => true) true Tryd.f4.params.toList args.toList ds p := hA0
  rw [Tryd.params4] at hA hval
  obtain ⟨v0, v1, d0, d1, p0, p1, rfl, rfl, rfl, h0, h1⟩ := trodAll_two hA
  obtain ⟨rfl, rfl⟩ := trodVars_none hV
  obtain ⟨D, z, cp2, bs, rfl, hd⟩ := Lat.open_bools (cells_slice Tryd.underlying43 (hval 1 _ v1 rfl rfl)) h1
  obtain ⟨A, cp, l, rfl, hl, hs, hr⟩ := Lat.open_cells (cells_slice Tryd.underlying22 (hval 0 _ v0 rfl rfl)) (fun x hx => by
    have := List.all_eq_true.1 hwt x (DataW.weights_mem_each (j := 0) (t := 22) (d := d0) (by kernel_rfl) rfl x hx)
    simpa using this) h0
  refine (Lat.orders Lat.sorts W (Lat.maxAt hsh) A _ cp l hr hl (fun c hc => (hs c hc).1) (fun c hc => (hs c hc).2) D z cp2 bs hd).mono fun e W' ⟨he, hn⟩ => ?_
  exact ⟨_, he, law_post laidOut (tb := 4) rfl Tryd.underlying4 reads rfl hW1 rfl hn.below⟩
theorem holds : Rows.LatestOrderSaid :=
  OpenClaim.holds_of_wide 4 Tryd.f4 rfl rfl rfl rfl rfl rfl rfl ⟨rfl, rfl, rfl, rfl, rfl⟩ rfl rfl rfl rfl rfl (by kernel_rfl) Tryd.func4 (by kernel_rfl)
    (of_decide_eq_true (by kernel_rfl)) (by unfold Func.isWrapper; first | (rw [if_pos (by decide +kernel)]; kernel_rfl) | (rw [if_neg (by decide +kernel)]; exact ⟨rfl, rfl⟩))
    (fun os started H enc _ => lifted os started H enc)
theorem proved : Rows.LatestOrderCardSaid :=
  Claim7.holds_tied_plain_at .later [] [.data, .pinned] true (true, "3cb0ed3278146e370e21927e578cc0d57e27e62d0a1a72eb17c43da8e58a0fc0") false holds (fun _ h => by cases h) (by kernel_rfl) (fun _ h => by cases h) latestOrder_row_tie rfl ⟨rfl, rfl⟩ (by kernel_rfl) rfl
    (fun f fn hf hfn => by
      obtain rfl : f = 4 := Option.some.inj ((show Tryd.prog.funcNamed "hedgerow/hedgerowlaw36.LatestOrder" = some 4 by kernel_rfl).symm.trans hf) |>.symm
      obtain rfl : fn = Tryd.f4 := (Option.some.inj (Tryd.func4.symm.trans hfn)).symm
      exact ⟨by kernel_rfl, fun j t ht => by
        have hm : t ∈ Tryd.f4.params.toList := by simpa using Array.mem_of_getElem? ht
        have hall : (Tryd.f4.params.toList.all fun u => !Tryd.prog.wantsStandIn u) = true := by kernel_rfl
        exact (show Tryd.prog.wantsStandIn t = false by simpa using List.all_eq_true.1 hall t hm)⟩)
    (by kernel_rfl)
end cardLatestOrder
end Go.Proofs.YtgnlbekagdffoaaDoor
