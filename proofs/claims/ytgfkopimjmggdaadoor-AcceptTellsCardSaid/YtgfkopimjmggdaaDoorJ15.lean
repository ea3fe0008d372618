/-
  A row gone through seven by seven is the row in another order, in plain words (no condition).
-/
import Derived.Test.YtgfkopimjmggdaaDoorJ14
import Derived.Test.YtgfkopimjmggdaaDoorCards
import Derived.Test.YtgfkopimjmggdaaDoorTie
import Derived.Handed
import Derived.Lay
import Derived.LaidMore
import Derived.LaidOnce
import Derived.OpenShut
import Derived.SevenTiedAt
import Derived.Shelf.Vars
import Derived.ProofKit
/- Events' laws: an event as an argument, opened; what the tied cards need (no condition beyond the sizes). -/
namespace Go.Proofs.YtgfkopimjmggdaaDoor
set_option linter.unusedSimpArgs false
set_option linter.unusedVariables false
open Go.ChangeShapes Go.WideShapes Go.RowKit Go.Deep
namespace Evt
theorem okWide_struct {P : Program} {w0 : World} {r : Reach} {b0 : Nat} {t : TypeId} {fs : Array Field} {v : Value} (ht : P.underlying t = some (.struct fs)) (hval : Value.okWide P w0 r b0 t v) : ∃ cs, v = .agg cs := by
  unfold Value.okWide at hval
  rw [ht] at hval
  obtain ⟨cs, rfl, _⟩ := hval
  exact ⟨cs, rfl⟩
section
variable {H : Type} {enc : TypeId × Value → H} {w : World} {base : Nat} {held : Bool}
theorem trod_i {m : Nat} {a : Value} {x : DataW H × List MemPlace} (h : DataW.trod enc Tryd.prog w base (fun _ => true) held m 3 [a] = some x) : ∃ v : Int, a = .int .i64 v ∧ -9223372036854775808 ≤ v ∧ v ≤ 9223372036854775807 := by
  obtain ⟨v, hv, _, hw⟩ := DataW.trod_int Tryd.underlying3 h
  simp [Lit.wf, IntKind.min, IntKind.max, IntKind.signed, IntKind.bits] at hw
  exact ⟨v, by simpa using hv, by omega, by omega⟩
theorem trod_s {m : Nat} {a : Value} {x : DataW H × List MemPlace} (h : DataW.trod enc Tryd.prog w base (fun _ => true) held m 9 [a] = some x) : ∃ s : ByteArray, a = .string s ∧ x.1 = .lit (.string s.data.toList) := by
  obtain ⟨s, hs, rfl, _⟩ := DataW.trod_string Tryd.underlying9 h
  exact ⟨s, by simpa using hs, rfl⟩
set_option maxHeartbeats 4000000 in
set_option maxRecDepth 100000 in
theorem open_cells27 {cs : List Value} {fuel : Nat} {x : DataW H × List MemPlace} (h : DataW.trod enc Tryd.prog w base (fun _ => true) held fuel 35 cs = some x) (hw : ∀ y ∈ x.1.weights Tryd.prog 35, y ≤ 140737488351232) :
    ∃ e : Ev, cs = e.cs ∧ Came e := by
  obtain ⟨xs, m, _, rfl, hl, hxl, hf⟩ := DataW.trod_struct Tryd.underlying35 h
  have hlen : cs.length = 27 := by rw [hl]; kernel_rfl
  have hxl5 : xs.length = 5 := hxl
  have k1 : Tryd.prog.cellsOf 3 = 1 := by kernel_rfl
  have k2 : Tryd.prog.cellsOf 9 = 1 := by kernel_rfl
  have k3 : Tryd.prog.cellsOf 29 = 2 := by kernel_rfl
  have k4 : Tryd.prog.cellsOf 23 = 16 := by kernel_rfl
  have k5 : Tryd.prog.cellsOf 31 = 5 := by kernel_rfl
  have k6 : Tryd.prog.cellsOf 33 = 3 := by kernel_rfl
  have e0 : DataW.trod enc Tryd.prog w base (fun _ => true) held m 29 ((cs.drop 0).take (Tryd.prog.cellsOf 29)) = xs[0]? := hf 0 _ rfl
  have e1 : DataW.trod enc Tryd.prog w base (fun _ => true) held m 23 ((cs.drop 2).take (Tryd.prog.cellsOf 23)) = xs[1]? := hf 1 _ rfl
  have e2 : DataW.trod enc Tryd.prog w base (fun _ => true) held m 3 ((cs.drop 18).take (Tryd.prog.cellsOf 3)) = xs[2]? := hf 2 _ rfl
  have e3 : DataW.trod enc Tryd.prog w base (fun _ => true) held m 31 ((cs.drop 19).take (Tryd.prog.cellsOf 31)) = xs[3]? := hf 3 _ rfl
  have e4 : DataW.trod enc Tryd.prog w base (fun _ => true) held m 33 ((cs.drop 24).take (Tryd.prog.cellsOf 33)) = xs[4]? := hf 4 _ rfl
  rw [k3] at e0
  rw [k4] at e1
  rw [k1] at e2
  rw [k5] at e3
  rw [k6] at e4
  match xs, hxl5, cs, hlen with
  | [x0, x1, x2, x3, x4], _, [c0, c1, c2, c3, c4, c5, c6, c7, c8, c9, c10, c11, c12, c13, c14, c15, c16, c17, c18, c19, c20, c21, c22, c23, c24, c25, c26], _ =>
    obtain ⟨ys, p, _, rfl, _, hyl, hg⟩ := DataW.trod_struct Tryd.underlying29 (show DataW.trod enc Tryd.prog w base (fun _ => true) held m 29 [c0, c1] = some x0 from e0)
    have u0 : DataW.trod enc Tryd.prog w base (fun _ => true) held p 3 (([c0, c1].drop 0).take (Tryd.prog.cellsOf 3)) = ys[0]? := hg 0 _ rfl
    rw [k1, List.getElem?_eq_getElem (by rw [hyl]; simp)] at u0
    obtain ⟨a0, hh0, b0⟩ := trod_i (show DataW.trod enc Tryd.prog w base (fun _ => true) held p 3 [c0] = some _ from u0)
    have u1 : DataW.trod enc Tryd.prog w base (fun _ => true) held p 3 (([c0, c1].drop 1).take (Tryd.prog.cellsOf 3)) = ys[1]? := hg 1 _ rfl
    rw [k1, List.getElem?_eq_getElem (by rw [hyl]; simp)] at u1
    obtain ⟨a1, hh1, b1⟩ := trod_i (show DataW.trod enc Tryd.prog w base (fun _ => true) held p 3 [c1] = some _ from u1)
    obtain ⟨zs, q, _, rfl, _, hzl, hk⟩ := DataW.trod_array Tryd.underlying23 (show DataW.trod enc Tryd.prog w base (fun _ => true) held m 23 [c2, c3, c4, c5, c6, c7, c8, c9, c10, c11, c12, c13, c14, c15, c16, c17] = some x1 from e1)
    rw [k1] at hk
    have r0 := hk 0 (by decide)
    rw [List.getElem?_eq_getElem (by rw [hzl]; decide)] at r0
    obtain ⟨a2, hh2, b2⟩ := trod_i (show DataW.trod enc Tryd.prog w base (fun _ => true) held q 3 [c2] = some _ from r0)
    have r1 := hk 1 (by decide)
    rw [List.getElem?_eq_getElem (by rw [hzl]; decide)] at r1
    obtain ⟨a3, hh3, b3⟩ := trod_i (show DataW.trod enc Tryd.prog w base (fun _ => true) held q 3 [c3] = some _ from r1)
    have r2 := hk 2 (by decide)
    rw [List.getElem?_eq_getElem (by rw [hzl]; decide)] at r2
    obtain ⟨a4, hh4, b4⟩ := trod_i (show DataW.trod enc Tryd.prog w base (fun _ => true) held q 3 [c4] = some _ from r2)
    have r3 := hk 3 (by decide)
    rw [List.getElem?_eq_getElem (by rw [hzl]; decide)] at r3
    obtain ⟨a5, hh5, b5⟩ := trod_i (show DataW.trod enc Tryd.prog w base (fun _ => true) held q 3 [c5] = some _ from r3)
    have r4 := hk 4 (by decide)
    rw [List.getElem?_eq_getElem (by rw [hzl]; decide)] at r4
    obtain ⟨a6, hh6, b6⟩ := trod_i (show DataW.trod enc Tryd.prog w base (fun _ => true) held q 3 [c6] = some _ from r4)
    have r5 := hk 5 (by decide)
    rw [List.getElem?_eq_getElem (by rw [hzl]; decide)] at r5
    obtain ⟨a7, hh7, b7⟩ := trod_i (show DataW.trod enc Tryd.prog w base (fun _ => true) held q 3 [c7] = some _ from r5)
    have r6 := hk 6 (by decide)
    rw [List.getElem?_eq_getElem (by rw [hzl]; decide)] at r6
    obtain ⟨a8, hh8, b8⟩ := trod_i (show DataW.trod enc Tryd.prog w base (fun _ => true) held q 3 [c8] = some _ from r6)
    have r7 := hk 7 (by decide)
    rw [List.getElem?_eq_getElem (by rw [hzl]; decide)] at r7
    obtain ⟨a9, hh9, b9⟩ := trod_i (show DataW.trod enc Tryd.prog w base (fun _ => true) held q 3 [c9] = some _ from r7)
    have r8 := hk 8 (by decide)
    rw [List.getElem?_eq_getElem (by rw [hzl]; decide)] at r8
    obtain ⟨a10, hh10, b10⟩ := trod_i (show DataW.trod enc Tryd.prog w base (fun _ => true) held q 3 [c10] = some _ from r8)
    have r9 := hk 9 (by decide)
    rw [List.getElem?_eq_getElem (by rw [hzl]; decide)] at r9
    obtain ⟨a11, hh11, b11⟩ := trod_i (show DataW.trod enc Tryd.prog w base (fun _ => true) held q 3 [c11] = some _ from r9)
    have r10 := hk 10 (by decide)
    rw [List.getElem?_eq_getElem (by rw [hzl]; decide)] at r10
    obtain ⟨a12, hh12, b12⟩ := trod_i (show DataW.trod enc Tryd.prog w base (fun _ => true) held q 3 [c12] = some _ from r10)
    have r11 := hk 11 (by decide)
    rw [List.getElem?_eq_getElem (by rw [hzl]; decide)] at r11
    obtain ⟨a13, hh13, b13⟩ := trod_i (show DataW.trod enc Tryd.prog w base (fun _ => true) held q 3 [c13] = some _ from r11)
    have r12 := hk 12 (by decide)
    rw [List.getElem?_eq_getElem (by rw [hzl]; decide)] at r12
    obtain ⟨a14, hh14, b14⟩ := trod_i (show DataW.trod enc Tryd.prog w base (fun _ => true) held q 3 [c14] = some _ from r12)
    have r13 := hk 13 (by decide)
    rw [List.getElem?_eq_getElem (by rw [hzl]; decide)] at r13
    obtain ⟨a15, hh15, b15⟩ := trod_i (show DataW.trod enc Tryd.prog w base (fun _ => true) held q 3 [c15] = some _ from r13)
    have r14 := hk 14 (by decide)
    rw [List.getElem?_eq_getElem (by rw [hzl]; decide)] at r14
    obtain ⟨a16, hh16, b16⟩ := trod_i (show DataW.trod enc Tryd.prog w base (fun _ => true) held q 3 [c16] = some _ from r14)
    have r15 := hk 15 (by decide)
    rw [List.getElem?_eq_getElem (by rw [hzl]; decide)] at r15
    obtain ⟨a17, hh17, b17⟩ := trod_i (show DataW.trod enc Tryd.prog w base (fun _ => true) held q 3 [c17] = some _ from r15)
    obtain ⟨a18, hh18, b18⟩ := trod_i (show DataW.trod enc Tryd.prog w base (fun _ => true) held m 3 [c18] = some x2 from e2)
    obtain ⟨vs, o, _, rfl, _, hvl, hv⟩ := DataW.trod_struct Tryd.underlying31 (show DataW.trod enc Tryd.prog w base (fun _ => true) held m 31 [c19, c20, c21, c22, c23] = some x3 from e3)
    have hvl5 : vs.length = 5 := hvl
    obtain ⟨us, n, _, rfl, _, hul, hu⟩ := DataW.trod_struct Tryd.underlying33 (show DataW.trod enc Tryd.prog w base (fun _ => true) held m 33 [c24, c25, c26] = some x4 from e4)
    have hul3 : us.length = 3 := hul
    match vs, hvl5, us, hul3 with
    | [v0, v1, v2, v3, v4], _, [u0, u1, u2], _ =>
      have g0 : DataW.trod enc Tryd.prog w base (fun _ => true) held o 3 (([c19, c20, c21, c22, c23].drop 0).take (Tryd.prog.cellsOf 3)) = [v0, v1, v2, v3, v4][0]? := hv 0 _ rfl
      rw [k1] at g0
      have g1 : DataW.trod enc Tryd.prog w base (fun _ => true) held o 9 (([c19, c20, c21, c22, c23].drop 1).take (Tryd.prog.cellsOf 9)) = [v0, v1, v2, v3, v4][1]? := hv 1 _ rfl
      rw [k2] at g1
      have g2 : DataW.trod enc Tryd.prog w base (fun _ => true) held o 9 (([c19, c20, c21, c22, c23].drop 2).take (Tryd.prog.cellsOf 9)) = [v0, v1, v2, v3, v4][2]? := hv 2 _ rfl
      rw [k2] at g2
      have g3 : DataW.trod enc Tryd.prog w base (fun _ => true) held o 9 (([c19, c20, c21, c22, c23].drop 3).take (Tryd.prog.cellsOf 9)) = [v0, v1, v2, v3, v4][3]? := hv 3 _ rfl
      rw [k2] at g3
      have g4 : DataW.trod enc Tryd.prog w base (fun _ => true) held o 9 (([c19, c20, c21, c22, c23].drop 4).take (Tryd.prog.cellsOf 9)) = [v0, v1, v2, v3, v4][4]? := hv 4 _ rfl
      rw [k2] at g4
      obtain ⟨a19, hh19, b19⟩ := trod_i (show DataW.trod enc Tryd.prog w base (fun _ => true) held o 3 [c19] = some v0 from g0)
      obtain ⟨s20, hh20, w20⟩ := trod_s (show DataW.trod enc Tryd.prog w base (fun _ => true) held o 9 [c20] = some v1 from g1)
      obtain ⟨s21, hh21, w21⟩ := trod_s (show DataW.trod enc Tryd.prog w base (fun _ => true) held o 9 [c21] = some v2 from g2)
      obtain ⟨s22, hh22, w22⟩ := trod_s (show DataW.trod enc Tryd.prog w base (fun _ => true) held o 9 [c22] = some v3 from g3)
      obtain ⟨s23, hh23, w23⟩ := trod_s (show DataW.trod enc Tryd.prog w base (fun _ => true) held o 9 [c23] = some v4 from g4)
      have f0 : DataW.trod enc Tryd.prog w base (fun _ => true) held n 3 (([c24, c25, c26].drop 0).take (Tryd.prog.cellsOf 3)) = [u0, u1, u2][0]? := hu 0 _ rfl
      rw [k1] at f0
      have f1 : DataW.trod enc Tryd.prog w base (fun _ => true) held n 3 (([c24, c25, c26].drop 1).take (Tryd.prog.cellsOf 3)) = [u0, u1, u2][1]? := hu 1 _ rfl
      rw [k1] at f1
      have f2 : DataW.trod enc Tryd.prog w base (fun _ => true) held n 9 (([c24, c25, c26].drop 2).take (Tryd.prog.cellsOf 9)) = [u0, u1, u2][2]? := hu 2 _ rfl
      rw [k2] at f2
      obtain ⟨a24, hh24, b24⟩ := trod_i (show DataW.trod enc Tryd.prog w base (fun _ => true) held n 3 [c24] = some u0 from f0)
      obtain ⟨a25, hh25, b25⟩ := trod_i (show DataW.trod enc Tryd.prog w base (fun _ => true) held n 3 [c25] = some u1 from f1)
      obtain ⟨s26, hh26, w26⟩ := trod_s (show DataW.trod enc Tryd.prog w base (fun _ => true) held n 9 [c26] = some u2 from f2)
      subst hh0 hh1 hh2 hh3 hh4 hh5 hh6 hh7 hh8 hh9 hh10 hh11 hh12 hh13 hh14 hh15 hh16 hh17 hh18 hh19 hh20 hh21 hh22 hh23 hh24 hh25 hh26
      simp only [DataW.weights, Tryd.underlying35, Tryd.underlying31, Tryd.underlying33, List.map_cons, List.map_nil, DataW.weightsEach, List.mem_append, w20, w21, w22, w23, w26, List.mem_cons, List.not_mem_nil, or_false] at hw
      refine ⟨⟨fun i => match i with | 0 => a0 | 1 => a1 | 2 => a2 | 3 => a3 | 4 => a4 | 5 => a5 | 6 => a6 | 7 => a7 | 8 => a8 | 9 => a9 | 10 => a10 | 11 => a11 | 12 => a12 | 13 => a13 | 14 => a14 | 15 => a15 | 16 => a16 | 17 => a17 | 18 => a18 | 19 => a19 | 24 => a24 | 25 => a25 | _ => 0, fun i => match i with | 20 => s20 | 21 => s21 | 22 => s22 | 23 => s23 | 26 => s26 | _ => ⟨#[]⟩⟩, rfl, ⟨fun i => ?_, b25, fun i h1 h2 h3 h4 h5 => ?_, fun i => ?_⟩⟩
      · dsimp only
        split
        · have := hw s20.data.toList.length (by simp)
          rwa [Array.length_toList] at this
        · have := hw s21.data.toList.length (by simp)
          rwa [Array.length_toList] at this
        · have := hw s22.data.toList.length (by simp)
          rwa [Array.length_toList] at this
        · have := hw s23.data.toList.length (by simp)
          rwa [Array.length_toList] at this
        · have := hw s26.data.toList.length (by simp)
          rwa [Array.length_toList] at this
        · decide
      · dsimp only
        split <;> first | omega | rfl
      · dsimp only
        split <;> omega
set_option maxRecDepth 100000 in
theorem open_ev {w0 : World} {r : Reach} {b0 : Nat} {v : Value} {d : DataW H} {ps : List MemPlace} (hval : Value.okWide Tryd.prog w0 r b0 35 v) (hw : ∀ x ∈ d.weights Tryd.prog 35, x ≤ reachBytes) (hd : DataW.Trod enc Tryd.prog w base (fun _ => true) held 35 v d ps) :
    ∃ e : Ev, v = e.val ∧ Came e := by
  obtain ⟨cs, rfl⟩ := okWide_struct Tryd.underlying35 hval
  obtain ⟨fuel, hf⟩ := hd
  have hcs : (Value.agg cs).cells.toList = cs.toList := rfl
  rw [hcs] at hf
  obtain ⟨e, he, hc⟩ := open_cells27 hf hw
  refine ⟨e, ?_, hc⟩
  unfold Ev.val
  rw [← he]
end
theorem maxAt {W : World} (h : W.ShapedOpen Tryd.prog) : Val.MaxAt W :=
  cell_of_shapedOpen_int (P := Tryd.prog) (g := 0) (t := 3) (zero := #[.int .i64 0]) h (of_decide_eq_true (by kernel_rfl)) (by kernel_rfl) rfl (by kernel_rfl) (by kernel_rfl) Tryd.underlying3
abbrev laidT : List (String × DataW Unit) := [("unicode/utf8.acceptRanges", Rows.laid_unicode_utf8_acceptRanges), ("unicode/utf8.first", Rows.laid_unicode_utf8_first)]
theorem returns_laid {H : Type} {enc : TypeId × Value → H} {a : Assume} {C : Checked} {os : Os} {f : FuncId} {fn : Func} {s : ChangeSpec} {conds : List PathCond} {apart fresh handsOn again : Bool} {X : World → Array Value → Prop}
    (own : ownKnob C.prog.godebug = none) (started : os.Started) (noInit : C.prog.inits.idxOf? f = none) (hfn : C.prog.funcs[f]? = some fn)
    (witness : ∃ (w : World) (tape : Tape) (i : Input), w.os = os ∧ (w.forCall tape i).Shaped C.prog ∧ i.vars = [] ∧ Input.okWide C.prog (w.forCall tape i) .any w.heap.size f i ∧
      ((s.pre enc C.prog fn conds apart (w.forCall tape i).memory i.args ∧ X (w.forCall tape i).memory i.args) ∧ sizedMet enc C.prog fn (OpenSpec.ofChange s) apart (w.forCall tape i).memory i.args) ∧ a.holds C.prog (lone (Frame.enter C.prog f i.args .normal) [] (w.forCall tape i)))
    (contract : ∀ (W : World) (base : Nat) (args : Array Value) (ds gs : List (DataW H)) (before : List MemPlace),
      (∀ (j : Nat) t v, fn.params[j]? = some t → args[j]? = some v → Value.okWide C.prog W .any base t v) →
      DataW.Whole enc C.prog fn.params.toList s.vars apart W args.toList ds gs before →
      (DataW.weightsEach C.prog (fn.params.toList ++ s.plain.varTypes C.prog) (ds ++ gs)).all (· ≤ reachBytes) = true →
      W.ShapedOpen C.prog →
      Calls C.prog f args W fun e W' => ∃ v, e = .returned v ∧ s.post enc C.prog fn apart fresh handsOn again W args v W') :
    ReturnsInHanded a C os f .any (fun w args => (s.pre enc C.prog fn conds apart w args ∧ X w args) ∧ sizedMet enc C.prog fn (OpenSpec.ofChange s) apart w args) (s.post enc C.prog fn apart fresh handsOn again) := by
  refine returnsInHanded_of_calls own started noInit witness ?_
  intro w tape i _ hsh _ hok hpre _
  obtain ⟨_, _, _, fn', hfn', _, _, _, _, hval⟩ := hok
  have e : fn' = fn := Option.some.inj (hfn'.symm.trans hfn)
  subst e
  obtain ⟨⟨⟨ds, gs, before, hw, _⟩, _⟩, hz⟩ := hpre
  have hw' := DataW.Whole.of_heap (w' := w.forCall tape i) (by rfl) hw
  refine (contract (w.forCall tape i) w.heap.size i.args ds gs before hval hw' (hz.weights hw) hsh).mono fun e W' ⟨v, he, hp⟩ => ?_
  subst he
  exact ChangeSpec.post_blind hp
end Evt
end Go.Proofs.YtgfkopimjmggdaaDoor

/- A row of events as an argument, opened (no condition beyond the sizes). -/
namespace Go.Proofs.YtgfkopimjmggdaaDoor
set_option linter.unusedSimpArgs false
set_option linter.unusedVariables false
open Go.ChangeShapes Go.WideShapes Go.RowKit Go.Deep
namespace Evt
theorem weights_all {H : Type} {P : Program} {e : TypeId} : ∀ {l : List (DataW H)} {d : DataW H}, d ∈ l → ∀ y ∈ d.weights P e, y ∈ DataW.weightsAll P e l
  | x :: l, d, h, y, hy => by
    simp only [DataW.weightsAll, List.mem_append]
    rcases List.mem_cons.1 h with rfl | h
    · exact .inl hy
    · exact .inr (weights_all h y hy)
section
variable {H : Type} {enc : TypeId × Value → H} {w : World} {base : Nat} {held : Bool}
set_option maxRecDepth 100000 in
/-- an argument []api.Event -/
theorem open_evs {v : Value} {fuel : Nat} {x : DataW H × List MemPlace} (hf : DataW.trod enc Tryd.prog w base (fun _ => true) held fuel 24 [v] = some x) (hw : ∀ y ∈ x.1.weights Tryd.prog 24, y ≤ 140737488351232) :
    ∃ es : List Ev, RowE w (fun b => b < w.heap.size) v es ∧ es.length ≤ 140737488351232 ∧ (∀ e ∈ es, Came e) := by
  rcases open_slice Tryd.underlying24 hf with ⟨h, _⟩ | ⟨a, len, cap, m, n, D, Pl, h, _, hl, hm, hmm, hdd, hx⟩
  · have hv' : v = .slice none 0 0 := by simpa using h
    exact ⟨[], by rw [hv']; exact RowE.nil _ _, by simp, fun e he => by cases he⟩
  · have hv' : v = .slice (some a) len cap := by simpa using h
    have hmc : m = cap := by simpa using hmm
    have hd' : x.1 = .slice ((List.range len).map D) ((List.range (m - len)).map fun j => D (len + j)) := congrArg Prod.fst hdd
    have hcap : len ≤ 140737488351232 := by
      have := hw (cap * Tryd.prog.bytesOf 35) (by
        rw [hd']
        simp only [DataW.weights, Tryd.underlying24]
        refine List.mem_cons.2 (.inl ?_)
        simp only [List.length_map, List.length_range]
        rw [show len + (m - len) = cap by omega])
      rw [show Tryd.prog.bytesOf 35 = 256 by kernel_rfl] at this
      omega
    have hone : ∀ i, i < len → ∃ e : Ev, Came e ∧ a.block < w.heap.size ∧ ∀ j u, e.cs[j]? = some u → w.cell? (a.add (i * 27 + j)) = some u := fun i hi => by
      obtain ⟨cs', hc, ht⟩ := hx i (by omega)
      rw [show Tryd.prog.cellsOf 35 = 27 by kernel_rfl] at hc
      obtain ⟨_, hcl, hat⟩ := World.cells?_some hc
      obtain ⟨e, rfl, hself⟩ := open_cells27 ht fun y hy => hw y (by
        rw [hd']
        simp only [DataW.weights, Tryd.underlying24]
        refine List.mem_cons_of_mem _ (List.mem_append_left _ (weights_all (List.mem_map.2 ⟨i, List.mem_range.2 hi, rfl⟩) y hy)))
      have hcell : ∀ j u, e.cs[j]? = some u → w.cell? (a.add (i * 27 + j)) = some u := fun j u hu => by
        have hj : j < 27 := by
          have := (List.getElem?_eq_some_iff.1 hu).1
          rwa [e.cs_len] at this
        rw [← Go.Deep.add_add, hat j hj]
        exact hu
      refine ⟨e, hself, ?_, hcell⟩
      have := block_lt_of_cell (hcell 0 _ rfl)
      rwa [block_of_add] at this
    obtain ⟨f, hf'⟩ := Deep.choose_lt hone
    have hlen : ((List.range len).map f).length = len := by simp
    refine ⟨(List.range len).map f, ⟨some a, cap, by rw [hv', hlen], ⟨rowE_length _, fun hn => ⟨a, rfl, (hf' 0 (by rw [hlen] at hn; exact hn)).2.1, fun j u hu => ?_⟩⟩⟩, by rw [hlen]; exact hcap, fun e he => ?_⟩
    · have hj : j < len * 27 := by
        have := (List.getElem?_eq_some_iff.1 hu).1
        rwa [rowE_length, hlen] at this
      have hi : j / 27 < len := by omega
      have hdm : j / 27 * 27 + j % 27 = j := by omega
      have hg := rowE_get (l := (List.range len).map f) (i := j / 27) (j := j % 27) (e := f (j / 27)) (by simp [hi]) (by omega)
      rw [hdm] at hg
      have := (hf' _ hi).2.2 (j % 27) u (by rw [← hg]; exact hu)
      rwa [hdm] at this
    · obtain ⟨i, hi, rfl⟩ := List.mem_map.1 he
      exact (hf' i (List.mem_range.1 hi)).1
end
end Evt
end Go.Proofs.YtgfkopimjmggdaaDoor

/- A row of events as a law's own argument, opened (no condition beyond the sizes). -/
namespace Go.Proofs.YtgfkopimjmggdaaDoor
set_option linter.unusedSimpArgs false
set_option linter.unusedVariables false
open Go.ChangeShapes Go.WideShapes Go.RowKit Go.Deep
namespace Acc
open Evt Vec
section
variable {H : Type} {enc : TypeId × Value → H} {w : World} {base : Nat} {held : Bool}
set_option maxRecDepth 100000 in
/-- an argument []api.Event -/
theorem open_row {w0 : World} {r : Reach} {b0 : Nat} {v : Value} {d : DataW H} {ps : List MemPlace} (hval : Value.okWide Tryd.prog w0 r b0 24 v) (hw : ∀ x ∈ d.weights Tryd.prog 24, x ≤ reachBytes) (hd : DataW.Trod enc Tryd.prog w base (fun _ => true) held 24 v d ps) :
    ∃ (es : List Ev) (A : Option Addr) (c : Nat), v = .slice A es.length c ∧ Reads w (fun b => b < w.heap.size) 27 A es.length (rowE es) ∧ es.length ≤ 140737488351232 ∧ (∀ e ∈ es, Came e) := by
  have hc := cells_slice Tryd.underlying24 hval
  obtain ⟨fuel, hf⟩ := hd
  rw [hc] at hf
  obtain ⟨es, ⟨A, c, hv, hr⟩, hl, hcm⟩ := open_evs (show DataW.trod enc Tryd.prog w base (fun _ => true) held fuel 24 [v] = some (d, ps) from hf) hw
  exact ⟨es, A, c, hv, hr, hl, hcm⟩
end
end Acc
end Go.Proofs.YtgfkopimjmggdaaDoor

/- A row gone through seven by seven is the row in another order, in plain words (no condition). -/
namespace Go.Proofs.YtgfkopimjmggdaaDoor
set_option linter.unusedSimpArgs false
set_option linter.unusedVariables false
namespace Acc
theorem perm_of_sub : ∀ (l k : List Nat), l.Nodup → k.Nodup → (∀ x ∈ l, x ∈ k) → k.length ≤ l.length → l.Perm k
  | [], k, _, _, _, h => by
    have : k = [] := List.eq_nil_of_length_eq_zero (by simpa using h)
    rw [this]
  | a :: l, k, hl, hk, hs, h => by
    have ha : a ∈ k := hs a (List.mem_cons_self ..)
    have hal : a ∉ l := (List.nodup_cons.1 hl).1
    have h1 := List.perm_cons_erase ha
    refine List.Perm.trans (List.Perm.cons a ?_) h1.symm
    refine perm_of_sub l (k.erase a) (List.nodup_cons.1 hl).2 (hk.erase a) (fun x hx => ?_) ?_
    · refine (List.mem_erase_of_ne ?_).2 (hs x (List.mem_cons_of_mem _ hx))
      rintro rfl
      exact hal hx
    · rw [List.length_erase_of_mem ha]
      rw [List.length_cons] at h
      omega
theorem seven {n k : Nat} (hn : n % 7 ≠ 0) (h : n * k % 7 = 0) : k % 7 = 0 := by
  rw [Nat.mul_mod] at h
  have h1 : n % 7 < 7 := Nat.mod_lt _ (by decide)
  have h2 : k % 7 < 7 := Nat.mod_lt _ (by decide)
  generalize n % 7 = x at *
  generalize k % 7 = y at *
  have : ∀ x : Fin 7, ∀ y : Fin 7, x.val ≠ 0 → x.val * y.val % 7 = 0 → y.val = 0 := by decide
  exact this ⟨x, h1⟩ ⟨y, h2⟩ hn h
theorem turn_inj {n t i j : Nat} (hn : n % 7 ≠ 0) (hij : i < j) (hj : j < n) : (i * 7 + t) % n ≠ (j * 7 + t) % n := by
  intro h
  have h1 : (j * 7 + t - (i * 7 + t)) % n = 0 := Nat.sub_mod_eq_zero_of_mod_eq h.symm
  have h2 : j * 7 + t - (i * 7 + t) = (j - i) * 7 := by omega
  rw [h2] at h1
  obtain ⟨k, hk⟩ := Nat.dvd_of_mod_eq_zero h1
  have h3 : n * k % 7 = 0 := by rw [← hk]; exact Nat.mul_mod_left _ _
  have h4 := seven hn h3
  obtain ⟨q, hq⟩ := Nat.dvd_of_mod_eq_zero h4
  subst hq
  have h5 : j - i = n * q := by
    have : (j - i) * 7 = (n * q) * 7 := by rw [hk, Nat.mul_assoc, Nat.mul_comm q 7]
    exact Nat.eq_of_mul_eq_mul_right (by decide) this
  rcases Nat.eq_zero_or_pos q with h6 | h6
  · rw [h6] at h5; omega
  · have : n * 1 ≤ n * q := Nat.mul_le_mul_left n h6
    omega
theorem turn_perm {n t : Nat} (hn : n % 7 ≠ 0) : ((List.range n).map fun i => (i * 7 + t) % n).Perm (List.range n) := by
  have h0 : 0 < n := by omega
  refine perm_of_sub _ _ ?_ List.nodup_range (fun x hx => ?_) (by simp)
  · rw [List.Nodup, List.pairwise_map]
    refine List.Pairwise.imp_of_mem (R := (· < ·)) (fun {a b} ha hb hab => ?_) List.pairwise_lt_range
    exact turn_inj hn hab (List.mem_range.1 hb)
  · obtain ⟨i, _, rfl⟩ := List.mem_map.1 hx
    exact List.mem_range.2 (Nat.mod_lt _ h0)
theorem turned_perm {α : Type} (row : List α) (d : α) (t : Nat) (hn : row.length % 7 ≠ 0) : ((List.range row.length).map fun i => row.getD ((i * 7 + t) % row.length) d).Perm row := by
  have h := (turn_perm (t := t) hn).map fun i => row.getD i d
  rw [List.map_map] at h
  have e : (List.range row.length).map (fun i => row.getD i d) = row := by
    apply List.ext_getElem
    · simp
    · intro i h1 h2
      simp only [List.getElem_map, List.getElem_range, List.getD_eq_getElem?_getD]
      rw [List.getElem?_eq_getElem h2, Option.getD_some]
  rw [e] at h
  exact h
end Acc
end Go.Proofs.YtgfkopimjmggdaaDoor
