/-
  message.Right: which messages may be (no condition beyond the sizes, and that MaxLen holds a number).
-/
import Derived.Test.YtkmkpdmjdfbpjaaGreatDoorJ7
import Derived.Test.YtkmkpdmjdfbpjaaGreatDoorCards
import Derived.Test.YtkmkpdmjdfbpjaaGreatDoorTie
import Derived.Handed
import Derived.Lay
import Derived.LaidMore
import Derived.LaidOnce
import Derived.OpenShut
import Derived.SevenTiedAt
import Derived.Shelf.Vars
import Derived.ProofKit
import Derived.Lib.SliceRun
/- Events' laws: an event as an argument, opened; what the tied cards need (no condition beyond the sizes). -/
namespace Go.Proofs.YtkmkpdmjdfbpjaaGreatDoor
set_option linter.unusedSimpArgs false
set_option linter.unusedVariables false
open Go.ChangeShapes Go.WideShapes Go.RowKit Go.Deep
namespace Evt
theorem okWide_struct {P : Program} {w0 : World} {r : Reach} {b0 : Nat} {t : TypeId} {fs : Array Field} {v : Value} (ht : P.underlying t = some (.struct fs)) (hval : Value.okWide P w0 r b0 t v) : ∃ cs, v = .agg cs := by
  unfold Value.okWide at hval
  rw [ht] at hval
  obtain ⟨cs, rfl, _⟩ := hval
  exact ⟨cs, rfl⟩
section
variable {H : Type} {enc : TypeId × Value → H} {w : World} {base : Nat} {held : Bool}
theorem trod_i {m : Nat} {a : Value} {x : DataW H × List MemPlace} (h : DataW.trod enc Tryz.prog w base (fun _ => true) held m 3 [a] = some x) : ∃ v : Int, a = .int .i64 v ∧ -9223372036854775808 ≤ v ∧ v ≤ 9223372036854775807 := by
  obtain ⟨v, hv, _, hw⟩ := DataW.trod_int Tryz.underlying3 h
  simp [Lit.wf, IntKind.min, IntKind.max, IntKind.signed, IntKind.bits] at hw
  exact ⟨v, by simpa using hv, by omega, by omega⟩
theorem trod_s {m : Nat} {a : Value} {x : DataW H × List MemPlace} (h : DataW.trod enc Tryz.prog w base (fun _ => true) held m 9 [a] = some x) : ∃ s : ByteArray, a = .string s ∧ x.1 = .lit (.string s.data.toList) := by
  obtain ⟨s, hs, rfl, _⟩ := DataW.trod_string Tryz.underlying9 h
  exact ⟨s, by simpa using hs, rfl⟩
set_option maxHeartbeats 4000000 in
set_option maxRecDepth 100000 in
theorem open_cells27 {cs : List Value} {fuel : Nat} {x : DataW H × List MemPlace} (h : DataW.trod enc Tryz.prog w base (fun _ => true) held fuel 48 cs = some x) (hw : ∀ y ∈ x.1.weights Tryz.prog 48, y ≤ 140737488351232) :
    ∃ e : Ev, cs = e.cs ∧ Came e := by
  obtain ⟨xs, m, _, rfl, hl, hxl, hf⟩ := DataW.trod_struct Tryz.underlying48 h
  have hlen : cs.length = 27 := by rw [hl]; kernel_rfl
  have hxl5 : xs.length = 5 := hxl
  have k1 : Tryz.prog.cellsOf 3 = 1 := by kernel_rfl
  have k2 : Tryz.prog.cellsOf 9 = 1 := by kernel_rfl
  have k3 : Tryz.prog.cellsOf 42 = 2 := by kernel_rfl
  have k4 : Tryz.prog.cellsOf 23 = 16 := by kernel_rfl
  have k5 : Tryz.prog.cellsOf 44 = 5 := by kernel_rfl
  have k6 : Tryz.prog.cellsOf 46 = 3 := by kernel_rfl
  have e0 : DataW.trod enc Tryz.prog w base (fun _ => true) held m 42 ((cs.drop 0).take (Tryz.prog.cellsOf 42)) = xs[0]? := hf 0 _ rfl
  have e1 : DataW.trod enc Tryz.prog w base (fun _ => true) held m 23 ((cs.drop 2).take (Tryz.prog.cellsOf 23)) = xs[1]? := hf 1 _ rfl
  have e2 : DataW.trod enc Tryz.prog w base (fun _ => true) held m 3 ((cs.drop 18).take (Tryz.prog.cellsOf 3)) = xs[2]? := hf 2 _ rfl
  have e3 : DataW.trod enc Tryz.prog w base (fun _ => true) held m 44 ((cs.drop 19).take (Tryz.prog.cellsOf 44)) = xs[3]? := hf 3 _ rfl
  have e4 : DataW.trod enc Tryz.prog w base (fun _ => true) held m 46 ((cs.drop 24).take (Tryz.prog.cellsOf 46)) = xs[4]? := hf 4 _ rfl
  rw [k3] at e0
  rw [k4] at e1
  rw [k1] at e2
  rw [k5] at e3
  rw [k6] at e4
  match xs, hxl5, cs, hlen with
  | [x0, x1, x2, x3, x4], _, [c0, c1, c2, c3, c4, c5, c6, c7, c8, c9, c10, c11, c12, c13, c14, c15, c16, c17, c18, c19, c20, c21, c22, c23, c24, c25, c26], _ =>
    obtain ⟨ys, p, _, rfl, _, hyl, hg⟩ := DataW.trod_struct Tryz.underlying42 (show DataW.trod enc Tryz.prog w base (fun _ => true) held m 42 [c0, c1] = some x0 from e0)
    have u0 : DataW.trod enc Tryz.prog w base (fun _ => true) held p 3 (([c0, c1].drop 0).take (Tryz.prog.cellsOf 3)) = ys[0]? := hg 0 _ rfl
    rw [k1, List.getElem?_eq_getElem (by rw [hyl]; simp)] at u0
    obtain ⟨a0, hh0, _⟩ := trod_i (show DataW.trod enc Tryz.prog w base (fun _ => true) held p 3 [c0] = some _ from u0)
    have u1 : DataW.trod enc Tryz.prog w base (fun _ => true) held p 3 (([c0, c1].drop 1).take (Tryz.prog.cellsOf 3)) = ys[1]? := hg 1 _ rfl
    rw [k1, List.getElem?_eq_getElem (by rw [hyl]; simp)] at u1
    obtain ⟨a1, hh1, _⟩ := trod_i (show DataW.trod enc Tryz.prog w base (fun _ => true) held p 3 [c1] = some _ from u1)
    obtain ⟨zs, q, _, rfl, _, hzl, hk⟩ := DataW.trod_array Tryz.underlying23 (show DataW.trod enc Tryz.prog w base (fun _ => true) held m 23 [c2, c3, c4, c5, c6, c7, c8, c9, c10, c11, c12, c13, c14, c15, c16, c17] = some x1 from e1)
    rw [k1] at hk
    have r0 := hk 0 (by decide)
    rw [List.getElem?_eq_getElem (by rw [hzl]; decide)] at r0
    obtain ⟨a2, hh2, _⟩ := trod_i (show DataW.trod enc Tryz.prog w base (fun _ => true) held q 3 [c2] = some _ from r0)
    have r1 := hk 1 (by decide)
    rw [List.getElem?_eq_getElem (by rw [hzl]; decide)] at r1
    obtain ⟨a3, hh3, _⟩ := trod_i (show DataW.trod enc Tryz.prog w base (fun _ => true) held q 3 [c3] = some _ from r1)
    have r2 := hk 2 (by decide)
    rw [List.getElem?_eq_getElem (by rw [hzl]; decide)] at r2
    obtain ⟨a4, hh4, _⟩ := trod_i (show DataW.trod enc Tryz.prog w base (fun _ => true) held q 3 [c4] = some _ from r2)
    have r3 := hk 3 (by decide)
    rw [List.getElem?_eq_getElem (by rw [hzl]; decide)] at r3
    obtain ⟨a5, hh5, _⟩ := trod_i (show DataW.trod enc Tryz.prog w base (fun _ => true) held q 3 [c5] = some _ from r3)
    have r4 := hk 4 (by decide)
    rw [List.getElem?_eq_getElem (by rw [hzl]; decide)] at r4
    obtain ⟨a6, hh6, _⟩ := trod_i (show DataW.trod enc Tryz.prog w base (fun _ => true) held q 3 [c6] = some _ from r4)
    have r5 := hk 5 (by decide)
    rw [List.getElem?_eq_getElem (by rw [hzl]; decide)] at r5
    obtain ⟨a7, hh7, _⟩ := trod_i (show DataW.trod enc Tryz.prog w base (fun _ => true) held q 3 [c7] = some _ from r5)
    have r6 := hk 6 (by decide)
    rw [List.getElem?_eq_getElem (by rw [hzl]; decide)] at r6
    obtain ⟨a8, hh8, _⟩ := trod_i (show DataW.trod enc Tryz.prog w base (fun _ => true) held q 3 [c8] = some _ from r6)
    have r7 := hk 7 (by decide)
    rw [List.getElem?_eq_getElem (by rw [hzl]; decide)] at r7
    obtain ⟨a9, hh9, _⟩ := trod_i (show DataW.trod enc Tryz.prog w base (fun _ => true) held q 3 [c9] = some _ from r7)
    have r8 := hk 8 (by decide)
    rw [List.getElem?_eq_getElem (by rw [hzl]; decide)] at r8
    obtain ⟨a10, hh10, _⟩ := trod_i (show DataW.trod enc Tryz.prog w base (fun _ => true) held q 3 [c10] = some _ from r8)
    have r9 := hk 9 (by decide)
    rw [List.getElem?_eq_getElem (by rw [hzl]; decide)] at r9
    obtain ⟨a11, hh11, _⟩ := trod_i (show DataW.trod enc Tryz.prog w base (fun _ => true) held q 3 [c11] = some _ from r9)
    have r10 := hk 10 (by decide)
    rw [List.getElem?_eq_getElem (by rw [hzl]; decide)] at r10
    obtain ⟨a12, hh12, _⟩ := trod_i (show DataW.trod enc Tryz.prog w base (fun _ => true) held q 3 [c12] = some _ from r10)
    have r11 := hk 11 (by decide)
    rw [List.getElem?_eq_getElem (by rw [hzl]; decide)] at r11
    obtain ⟨a13, hh13, _⟩ := trod_i (show DataW.trod enc Tryz.prog w base (fun _ => true) held q 3 [c13] = some _ from r11)
    have r12 := hk 12 (by decide)
    rw [List.getElem?_eq_getElem (by rw [hzl]; decide)] at r12
    obtain ⟨a14, hh14, _⟩ := trod_i (show DataW.trod enc Tryz.prog w base (fun _ => true) held q 3 [c14] = some _ from r12)
    have r13 := hk 13 (by decide)
    rw [List.getElem?_eq_getElem (by rw [hzl]; decide)] at r13
    obtain ⟨a15, hh15, _⟩ := trod_i (show DataW.trod enc Tryz.prog w base (fun _ => true) held q 3 [c15] = some _ from r13)
    have r14 := hk 14 (by decide)
    rw [List.getElem?_eq_getElem (by rw [hzl]; decide)] at r14
    obtain ⟨a16, hh16, _⟩ := trod_i (show DataW.trod enc Tryz.prog w base (fun _ => true) held q 3 [c16] = some _ from r14)
    have r15 := hk 15 (by decide)
    rw [List.getElem?_eq_getElem (by rw [hzl]; decide)] at r15
    obtain ⟨a17, hh17, _⟩ := trod_i (show DataW.trod enc Tryz.prog w base (fun _ => true) held q 3 [c17] = some _ from r15)
    obtain ⟨a18, hh18, _⟩ := trod_i (show DataW.trod enc Tryz.prog w base (fun _ => true) held m 3 [c18] = some x2 from e2)
    obtain ⟨vs, o, _, rfl, _, hvl, hv⟩ := DataW.trod_struct Tryz.underlying44 (show DataW.trod enc Tryz.prog w base (fun _ => true) held m 44 [c19, c20, c21, c22, c23] = some x3 from e3)
    have hvl5 : vs.length = 5 := hvl
    obtain ⟨us, n, _, rfl, _, hul, hu⟩ := DataW.trod_struct Tryz.underlying46 (show DataW.trod enc Tryz.prog w base (fun _ => true) held m 46 [c24, c25, c26] = some x4 from e4)
    have hul3 : us.length = 3 := hul
    match vs, hvl5, us, hul3 with
    | [v0, v1, v2, v3, v4], _, [u0, u1, u2], _ =>
      have g0 : DataW.trod enc Tryz.prog w base (fun _ => true) held o 3 (([c19, c20, c21, c22, c23].drop 0).take (Tryz.prog.cellsOf 3)) = [v0, v1, v2, v3, v4][0]? := hv 0 _ rfl
      rw [k1] at g0
      have g1 : DataW.trod enc Tryz.prog w base (fun _ => true) held o 9 (([c19, c20, c21, c22, c23].drop 1).take (Tryz.prog.cellsOf 9)) = [v0, v1, v2, v3, v4][1]? := hv 1 _ rfl
      rw [k2] at g1
      have g2 : DataW.trod enc Tryz.prog w base (fun _ => true) held o 9 (([c19, c20, c21, c22, c23].drop 2).take (Tryz.prog.cellsOf 9)) = [v0, v1, v2, v3, v4][2]? := hv 2 _ rfl
      rw [k2] at g2
      have g3 : DataW.trod enc Tryz.prog w base (fun _ => true) held o 9 (([c19, c20, c21, c22, c23].drop 3).take (Tryz.prog.cellsOf 9)) = [v0, v1, v2, v3, v4][3]? := hv 3 _ rfl
      rw [k2] at g3
      have g4 : DataW.trod enc Tryz.prog w base (fun _ => true) held o 9 (([c19, c20, c21, c22, c23].drop 4).take (Tryz.prog.cellsOf 9)) = [v0, v1, v2, v3, v4][4]? := hv 4 _ rfl
      rw [k2] at g4
      obtain ⟨a19, hh19, _⟩ := trod_i (show DataW.trod enc Tryz.prog w base (fun _ => true) held o 3 [c19] = some v0 from g0)
      obtain ⟨s20, hh20, w20⟩ := trod_s (show DataW.trod enc Tryz.prog w base (fun _ => true) held o 9 [c20] = some v1 from g1)
      obtain ⟨s21, hh21, w21⟩ := trod_s (show DataW.trod enc Tryz.prog w base (fun _ => true) held o 9 [c21] = some v2 from g2)
      obtain ⟨s22, hh22, w22⟩ := trod_s (show DataW.trod enc Tryz.prog w base (fun _ => true) held o 9 [c22] = some v3 from g3)
      obtain ⟨s23, hh23, w23⟩ := trod_s (show DataW.trod enc Tryz.prog w base (fun _ => true) held o 9 [c23] = some v4 from g4)
      have f0 : DataW.trod enc Tryz.prog w base (fun _ => true) held n 3 (([c24, c25, c26].drop 0).take (Tryz.prog.cellsOf 3)) = [u0, u1, u2][0]? := hu 0 _ rfl
      rw [k1] at f0
      have f1 : DataW.trod enc Tryz.prog w base (fun _ => true) held n 3 (([c24, c25, c26].drop 1).take (Tryz.prog.cellsOf 3)) = [u0, u1, u2][1]? := hu 1 _ rfl
      rw [k1] at f1
      have f2 : DataW.trod enc Tryz.prog w base (fun _ => true) held n 9 (([c24, c25, c26].drop 2).take (Tryz.prog.cellsOf 9)) = [u0, u1, u2][2]? := hu 2 _ rfl
      rw [k2] at f2
      obtain ⟨a24, hh24, _⟩ := trod_i (show DataW.trod enc Tryz.prog w base (fun _ => true) held n 3 [c24] = some u0 from f0)
      obtain ⟨a25, hh25, b25⟩ := trod_i (show DataW.trod enc Tryz.prog w base (fun _ => true) held n 3 [c25] = some u1 from f1)
      obtain ⟨s26, hh26, w26⟩ := trod_s (show DataW.trod enc Tryz.prog w base (fun _ => true) held n 9 [c26] = some u2 from f2)
      subst hh0 hh1 hh2 hh3 hh4 hh5 hh6 hh7 hh8 hh9 hh10 hh11 hh12 hh13 hh14 hh15 hh16 hh17 hh18 hh19 hh20 hh21 hh22 hh23 hh24 hh25 hh26
      simp only [DataW.weights, Tryz.underlying48, Tryz.underlying44, Tryz.underlying46, List.map_cons, List.map_nil, DataW.weightsEach, List.mem_append, w20, w21, w22, w23, w26, List.mem_cons, List.not_mem_nil, or_false] at hw
      refine ⟨⟨fun i => match i with | 0 => a0 | 1 => a1 | 2 => a2 | 3 => a3 | 4 => a4 | 5 => a5 | 6 => a6 | 7 => a7 | 8 => a8 | 9 => a9 | 10 => a10 | 11 => a11 | 12 => a12 | 13 => a13 | 14 => a14 | 15 => a15 | 16 => a16 | 17 => a17 | 18 => a18 | 19 => a19 | 24 => a24 | 25 => a25 | _ => 0, fun i => match i with | 20 => s20 | 21 => s21 | 22 => s22 | 23 => s23 | 26 => s26 | _ => ⟨#[]⟩⟩, rfl, ⟨fun i => ?_, b25, fun i h1 h2 h3 h4 h5 => ?_⟩⟩
      · dsimp only
        split
        · have := hw s20.data.toList.length (by simp)
          rwa [Array.length_toList] at this
        · have := hw s21.data.toList.length (by simp)
          rwa [Array.length_toList] at this
        · have := hw s22.data.toList.length (by simp)
          rwa [Array.length_toList] at this
        · have := hw s23.data.toList.length (by simp)
          rwa [Array.length_toList] at this
        · have := hw s26.data.toList.length (by simp)
          rwa [Array.length_toList] at this
        · decide
      · dsimp only
        split <;> first | omega | rfl
set_option maxRecDepth 100000 in
theorem open_ev {w0 : World} {r : Reach} {b0 : Nat} {v : Value} {d : DataW H} {ps : List MemPlace} (hval : Value.okWide Tryz.prog w0 r b0 48 v) (hw : ∀ x ∈ d.weights Tryz.prog 48, x ≤ reachBytes) (hd : DataW.Trod enc Tryz.prog w base (fun _ => true) held 48 v d ps) :
    ∃ e : Ev, v = e.val ∧ Came e := by
  obtain ⟨cs, rfl⟩ := okWide_struct Tryz.underlying48 hval
  obtain ⟨fuel, hf⟩ := hd
  have hcs : (Value.agg cs).cells.toList = cs.toList := rfl
  rw [hcs] at hf
  obtain ⟨e, he, hc⟩ := open_cells27 hf hw
  refine ⟨e, ?_, hc⟩
  unfold Ev.val
  rw [← he]
end
theorem maxAt {W : World} (h : W.ShapedOpen Tryz.prog) : Val.MaxAt W :=
  cell_of_shapedOpen_int (P := Tryz.prog) (g := 0) (t := 3) (zero := #[.int .i64 0]) h (of_decide_eq_true (by kernel_rfl)) (by kernel_rfl) rfl (by kernel_rfl) (by kernel_rfl) Tryz.underlying3
abbrev laidT : List (String × DataW Unit) := [("unicode/utf8.acceptRanges", Rows.laid_unicode_utf8_acceptRanges), ("unicode/utf8.first", Rows.laid_unicode_utf8_first)]
theorem returns_laid {H : Type} {enc : TypeId × Value → H} {a : Assume} {C : Checked} {os : Os} {f : FuncId} {fn : Func} {s : ChangeSpec} {conds : List PathCond} {apart fresh handsOn again : Bool} {X : World → Array Value → Prop}
    (own : ownKnob C.prog.godebug = none) (started : os.Started) (noInit : C.prog.inits.idxOf? f = none) (hfn : C.prog.funcs[f]? = some fn)
    (witness : ∃ (w : World) (tape : Tape) (i : Input), w.os = os ∧ (w.forCall tape i).Shaped C.prog ∧ i.vars = [] ∧ Input.okWide C.prog (w.forCall tape i) .any w.heap.size f i ∧
      ((s.pre enc C.prog fn conds apart (w.forCall tape i).memory i.args ∧ X (w.forCall tape i).memory i.args) ∧ sizedMet enc C.prog fn (OpenSpec.ofChange s) apart (w.forCall tape i).memory i.args) ∧ a.holds C.prog (lone (Frame.enter C.prog f i.args .normal) [] (w.forCall tape i)))
    (contract : ∀ (W : World) (base : Nat) (args : Array Value) (ds gs : List (DataW H)) (before : List MemPlace),
      (∀ (j : Nat) t v, fn.params[j]? = some t → args[j]? = some v → Value.okWide C.prog W .any base t v) →
      DataW.Whole enc C.prog fn.params.toList s.vars apart W args.toList ds gs before →
      (DataW.weightsEach C.prog (fn.params.toList ++ s.plain.varTypes C.prog) (ds ++ gs)).all (· ≤ reachBytes) = true →
      W.ShapedOpen C.prog →
      Calls C.prog f args W fun e W' => ∃ v, e = .returned v ∧ s.post enc C.prog fn apart fresh handsOn again W args v W') :
    ReturnsInHanded a C os f .any (fun w args => (s.pre enc C.prog fn conds apart w args ∧ X w args) ∧ sizedMet enc C.prog fn (OpenSpec.ofChange s) apart w args) (s.post enc C.prog fn apart fresh handsOn again) := by
  refine returnsInHanded_of_calls own started noInit witness ?_
  intro w tape i _ hsh _ hok hpre _
  obtain ⟨_, _, _, fn', hfn', _, _, _, _, hval⟩ := hok
  have e : fn' = fn := Option.some.inj (hfn'.symm.trans hfn)
  subst e
  obtain ⟨⟨⟨ds, gs, before, hw, _⟩, _⟩, hz⟩ := hpre
  have hw' := DataW.Whole.of_heap (w' := w.forCall tape i) (by rfl) hw
  refine (contract (w.forCall tape i) w.heap.size i.args ds gs before hval hw' (hz.weights hw) hsh).mono fun e W' ⟨v, he, hp⟩ => ?_
  subst he
  exact ChangeSpec.post_blind hp
end Evt
end Go.Proofs.YtkmkpdmjdfbpjaaGreatDoor

/- Messages: which may be, their payload's bytes, and how it is read, in plain words (no condition). -/
namespace Go.Proofs.YtkmkpdmjdfbpjaaGreatDoor
set_option linter.unusedSimpArgs false
set_option linter.unusedVariables false
namespace Msg
open Num Evt
/-- a message: its 19 numbers (kind, from, to, what is known), and its events -/
structure Ms where
  n : Nat → Int
  es : List Ev
def known (m : Ms) : List Int := [m.n 3, m.n 4, m.n 5, m.n 6, m.n 7, m.n 8, m.n 9, m.n 10, m.n 11, m.n 12, m.n 13, m.n 14, m.n 15, m.n 16, m.n 17, m.n 18]
def heads (m : Ms) : List It := [.n (m.n 0), .n (m.n 1), .n (m.n 2), .n (m.n 3), .n (m.n 4), .n (m.n 5), .n (m.n 6), .n (m.n 7), .n (m.n 8), .n (m.n 9), .n (m.n 10), .n (m.n 11), .n (m.n 12), .n (m.n 13), .n (m.n 14), .n (m.n 15), .n (m.n 16), .n (m.n 17), .n (m.n 18)]
def endsB (f t : Int) : Bool := (decide (0 ≤ f) && decide (f < 16)) && (decide (0 ≤ t) && decide (t < 16)) && decide (f ≠ t)
def mostB (k : Int) : Int := if k = 1 then 0 else if k = 2 then 200 else -1
def oddB (m : Ms) (e : Ev) : Bool := !rightE e || !Vec.knowsF (known m) (e.n 0) (e.n 1)
def rightM (m : Ms) : Bool := endsB (m.n 1) (m.n 2) && Vec.rightF (known m) && decide ((m.es.length : Int) ≤ mostB (m.n 0)) && !(m.es.any (oddB m))
def payload (m : Ms) : List UInt8 := putAll (heads m) ++ putB m.es.length ++ m.es.flatMap Ev.bytes
/-- k events, one behind the other, each of which may be -/
def readEs : Nat → Rd → Option (List Ev × Rd)
  | 0, s => some ([], s)
  | k + 1, s => if (nextP s).2.bad = true ∨ ¬ rightE (nextP s).1 = true then none else (readEs k (nextP s).2).map fun p => ((nextP s).1 :: p.1, p.2)
theorem readEs_put : ∀ {es : List Ev}, (∀ e ∈ es, rightE e = true) → ∀ rest, readEs es.length ⟨es.flatMap Ev.bytes ++ rest, false⟩ = some (es.map fun e => evOf e.items, ⟨rest, false⟩)
  | [], _, rest => rfl
  | e :: es, h, rest => by
    have he := h e (List.mem_cons_self ..)
    have ih := readEs_put (fun x hx => h x (List.mem_cons_of_mem _ hx)) rest
    have hn := next_bytes he (es.flatMap Ev.bytes ++ rest)
    rw [List.flatMap_cons, List.append_assoc, List.length_cons]
    unfold readEs
    rw [hn]
    dsimp only
    rw [if_neg (by rw [right_evOf]; simp [he]), ih]
    rfl
theorem heads_ok {m : Ms} (h : rightM m = true) : ∀ x ∈ heads m, x.ok := by
  unfold rightM at h
  simp only [Bool.and_eq_true, decide_eq_true_eq] at h
  obtain ⟨⟨⟨h1, h2⟩, h3⟩, _⟩ := h
  unfold endsB at h1
  simp only [Bool.and_eq_true, decide_eq_true_eq] at h1
  have hk : m.n 0 = 1 ∨ m.n 0 = 2 := by
    unfold mostB at h3
    split at h3
    · exact .inl (by assumption)
    · split at h3
      · exact .inr (by assumption)
      · omega
  have hp : ∀ i, 3 ≤ i → i < 19 → 0 ≤ m.n i ∧ m.n i ≤ 1048576 := fun i hi hj => by
    unfold Vec.rightF at h2
    rw [List.all_eq_true] at h2
    have := h2 (m.n i) (by
      rcases (show i = 3 ∨ i = 4 ∨ i = 5 ∨ i = 6 ∨ i = 7 ∨ i = 8 ∨ i = 9 ∨ i = 10 ∨ i = 11 ∨ i = 12 ∨ i = 13 ∨ i = 14 ∨ i = 15 ∨ i = 16 ∨ i = 17 ∨ i = 18 by omega) with rfl | rfl | rfl | rfl | rfl | rfl | rfl | rfl | rfl | rfl | rfl | rfl | rfl | rfl | rfl | rfl <;> simp [known])
    simpa using this
  intro x hx
  simp only [heads, List.mem_cons, List.not_mem_nil, or_false] at hx
  rcases hx with rfl | rfl | rfl | rfl | rfl | rfl | rfl | rfl | rfl | rfl | rfl | rfl | rfl | rfl | rfl | rfl | rfl | rfl | rfl
  · exact ⟨by omega, by omega⟩
  · exact ⟨by omega, by omega⟩
  · exact ⟨by omega, by omega⟩
  · have := hp 3 (by decide) (by decide); exact ⟨by omega, by omega⟩
  · have := hp 4 (by decide) (by decide); exact ⟨by omega, by omega⟩
  · have := hp 5 (by decide) (by decide); exact ⟨by omega, by omega⟩
  · have := hp 6 (by decide) (by decide); exact ⟨by omega, by omega⟩
  · have := hp 7 (by decide) (by decide); exact ⟨by omega, by omega⟩
  · have := hp 8 (by decide) (by decide); exact ⟨by omega, by omega⟩
  · have := hp 9 (by decide) (by decide); exact ⟨by omega, by omega⟩
  · have := hp 10 (by decide) (by decide); exact ⟨by omega, by omega⟩
  · have := hp 11 (by decide) (by decide); exact ⟨by omega, by omega⟩
  · have := hp 12 (by decide) (by decide); exact ⟨by omega, by omega⟩
  · have := hp 13 (by decide) (by decide); exact ⟨by omega, by omega⟩
  · have := hp 14 (by decide) (by decide); exact ⟨by omega, by omega⟩
  · have := hp 15 (by decide) (by decide); exact ⟨by omega, by omega⟩
  · have := hp 16 (by decide) (by decide); exact ⟨by omega, by omega⟩
  · have := hp 17 (by decide) (by decide); exact ⟨by omega, by omega⟩
  · have := hp 18 (by decide) (by decide); exact ⟨by omega, by omega⟩
end Msg
end Go.Proofs.YtkmkpdmjdfbpjaaGreatDoor

/- event.Read: the next event, if it may be (no condition beyond the sizes, and that MaxLen holds a number). -/
namespace Go.Proofs.YtkmkpdmjdfbpjaaGreatDoor
set_option linter.unusedSimpArgs false
set_option linter.unusedVariables false
open Go.ChangeShapes Go.WideShapes Go.RowKit Go.Deep
namespace Evt
open Val (elemB rightB JoinC)
open Vec Num
attribute [local go_sem ↓] loadDot loadVec loadRow0 storeRow0 loadOnly0 loadOnly1 loadOnly2
/-- may what is next be? -/
def nextB (s : Rd) : Bool := !(nextP s).2.bad && rightE (nextP s).1
theorem maxAt_rd {w w' : World} {F : Nat → Prop} {gr : Nat} {s : Rd} (h : Val.MaxAt w) (hr : RdAt w F gr s) (hc : Chg (fun b => b = gr) w w') : Val.MaxAt w' := by
  obtain ⟨x, hx⟩ := h
  refine ⟨x, (hc.cell (block_lt_of_cell hx) fun e => ?_).trans hx⟩
  obtain ⟨A, n, cp, h1, _⟩ := hr.ex
  have e : 0 = gr := e
  subst e
  rw [h1.cell 0] at hx
  simp at hx
set_option maxHeartbeats 8000000 in
set_option maxRecDepth 20000 in
theorem readE (hJ : JoinC) (w : World) (F : Nat → Prop) (gr : Nat) (s : Rd) (h : RdAt w F gr s) (hl : s.l.length ≤ 1000000) (hm : Val.MaxAt w) :
    Calls Tryz.prog 52 #[.pointer (some ⟨gr, 0, none⟩)] w fun x w' => x = .returned (.tuple #[(if nextB s = true then (nextP s).1 else zero).val, .bool (nextB s)]) ∧ RdAt w' F gr (nextP s).2 ∧ Chg (fun b => b = gr) w w' := by
  have hz : ∀ W, (zeroValue 48).run Tryz.prog W = .ok (.agg zero.cs.toArray) W := fun W => by kernel_rfl
  have a1 := (Chg.refl (fun _ => False) w).alloc (.cells zero.cs.toArray 48)
  have B1 := Blk.new w 48 zero.cs.toArray
  have hgr : gr < w.heap.size := by obtain ⟨A, n, cp, h1, _⟩ := h.ex; exact h1.lt
  have C1 := Lib.hid (next _ F gr s (h.new a1))
  have HF := Lib.hid (And.intro (next_fit s hl) (And.intro hm (And.intro h a1)))
  have HB := Lib.hid B1
  have hP : ∃ P : Ev × Bool, P = (if nextB s = true then (nextP s).1 else zero, nextB s) := ⟨_, rfl⟩
  obtain ⟨P, hP⟩ := hP
  have hPg : (Value.tuple #[(if nextB s = true then (nextP s).1 else zero).val, .bool (nextB s)]) = .tuple #[P.1.val, .bool P.2] := by rw [hP]
  rw [hPg]
  have HP := Lib.hid (show P = (if (!(nextP s).2.bad && rightE (nextP s).1) = true then (nextP s).1 else zero, (!(nextP s).2.bad && rightE (nextP s).1)) from hP)
  have g1 := B1.lt
  clear a1 B1 h hl hm hP hPg
  obtain ⟨e, he⟩ : ∃ e, (nextP s).1 = e := ⟨_, rfl⟩
  obtain ⟨s2, hs2⟩ : ∃ x, (nextP s).2 = x := ⟨_, rfl⟩
  rw [he, hs2] at HP C1
  rw [hs2]
  rw [he] at HF
  clear he hs2
  obtain ⟨g, hg⟩ : ∃ g, w.heap.size = g := ⟨_, rfl⟩
  have HG := Lib.hid hg
  go_enter Tryz.func52, Tryz.ntmps52
  go_upto_region 1 with fail
  generalize hw1 : w.alloc (.cells zero.cs.toArray 48) = w1 at *
  rw [hg] at HB g1
  clear hw1 hg
  go_wp2_with fail
  with_reducible refine C1.out.mono ?_
  rintro x w2 ⟨rfl, hr2, c2⟩
  have hggr : ¬ (g = gr) := by have := HG.out; omega
  have HB2 := Lib.hid (HB.out.chg c2 hggr)
  have N2 := HF.out.2.2.2.mono (S' := fun b => b = gr) (fun _ _ => False.elim) |>.trans c2 fun _ _ e => e
  have hm2 := maxAt_rd HF.out.2.1 HF.out.2.2.1 N2
  obtain ⟨w3, hst, b3, n3, g3⟩ := new_ev w2 e
  have CF := Lib.hid (fail w3 F gr s2 (hr2.new n3))
  have CR := Lib.hid (right hJ w3 e HF.out.1 (hm2.new n3))
  have HE := Lib.hid (And.intro b3 (And.intro (HB2.out.chg n3 id) (And.intro (hr2.new n3) (N2.trans n3 fun _ _ => False.elim))))
  obtain ⟨ge, hge⟩ : ∃ q, w2.heap.size = q := ⟨_, rfl⟩
  rw [hge] at HE hst g3
  have hle := ldE HE.out.1
  have gg1 := HE.out.1.lt
  have gg2 := HE.out.2.1.lt
  have hs0 := stE zero zero HE.out.2.1
  have hs1 := hs0.1
  have c5 := Chg.setCells (S := fun b => b = gr) (a := w) (g := g) zero.cs 0 _ HE.out.2.2.2 (fun h => by have := HG.out; omega)
  have c6 := Chg.setCells (S := fun b => b = g) (a := w3) (g := g) zero.cs 0 _ (Chg.refl _ _) (fun _ => rfl)
  have HZ := Lib.hid (And.intro hs0.2 (And.intro c5 (HE.out.2.2.1.chg c6 (fun e => hggr e.symm) (fun b hb e => by have := (HF.out.2.2.1.far b hb).1; have := HG.out; omega))))
  clear c2 N2 hm2 n3 b3 hr2 hs0 c5 c6 C1
  obtain ⟨bd, hbd⟩ : ∃ b, s2.bad = b := ⟨_, rfl⟩
  rw [hbd] at CF HP
  clear hbd
  cases bd
  · obtain ⟨rb, hrb⟩ : ∃ b, rightE e = b := ⟨_, rfl⟩
    rw [hrb] at CR HP
    clear hrb
    cases rb
    · have HT := Lib.hid (show P = (zero, false) from HP.out)
      go_wp2_with fail
      with_reducible refine CF.out.mono ?_
      rintro x w4 ⟨rfl, rfl⟩
      go_wp2_with fail
      with_reducible refine CR.out.mono ?_
      rintro x w5 ⟨rfl, n5⟩
      have hs6 := stE zero zero (HE.out.2.1.chg n5 id)
      have hs7 := hs6.1
      have gg6 := (HE.out.2.1.chg n5 id).lt
      have c7 := Chg.setCells (S := fun b => b = gr) (a := w) (g := g) zero.cs 0 _ (HE.out.2.2.2.trans n5 fun _ _ => False.elim) (fun h => by have := HG.out; omega)
      have c8 := Chg.setCells (S := fun b => b = g) (a := w5) (g := g) zero.cs 0 _ (Chg.refl _ _) (fun _ => rfl)
      have HY := Lib.hid (And.intro hs6.2 (And.intro c7 ((HE.out.2.2.1.new n5).chg c8 (fun e => hggr e.symm) (fun b hb e => by have := (HF.out.2.2.1.far b hb).1; have := HG.out; omega))))
      clear n5 hs6 c7 c8
      go_wp2_with fail
      refine bodyPost_ret (resEI rfl _ _ g 48 zero rfl ?hblk) rfl ?hpost
      case hblk => exact HY.out.1
      case hpost => exact ⟨by rw [HT.out]; rfl, HY.out.2.2, HY.out.2.1⟩
    · have HT := Lib.hid (show P = (e, true) from HP.out)
      go_wp2_with fail
      with_reducible refine CF.out.mono ?_
      rintro x w4 ⟨rfl, rfl⟩
      go_wp2_with fail
      with_reducible refine CR.out.mono ?_
      rintro x w5 ⟨rfl, n5⟩
      have hs6 := stE zero e (HE.out.2.1.chg n5 id)
      have hs7 := hs6.1
      have hl7 := ldE (HE.out.1.chg n5 id)
      have gg6 := (HE.out.2.1.chg n5 id).lt
      have gg7 := (HE.out.1.chg n5 id).lt
      have c7 := Chg.setCells (S := fun b => b = gr) (a := w) (g := g) e.cs 0 _ (HE.out.2.2.2.trans n5 fun _ _ => False.elim) (fun h => by have := HG.out; omega)
      have c8 := Chg.setCells (S := fun b => b = g) (a := w5) (g := g) e.cs 0 _ (Chg.refl _ _) (fun _ => rfl)
      have HY := Lib.hid (And.intro hs6.2 (And.intro c7 ((HE.out.2.2.1.new n5).chg c8 (fun e => hggr e.symm) (fun b hb e => by have := (HF.out.2.2.1.far b hb).1; have := HG.out; omega))))
      clear n5 hs6 c7 c8
      go_wp2_with fail
      refine bodyPost_ret (resEI rfl _ _ g 48 e rfl ?hblk) rfl ?hpost
      case hblk => exact HY.out.1
      case hpost => exact ⟨by rw [HT.out]; rfl, HY.out.2.2, HY.out.2.1⟩
  · have HT := Lib.hid (show P = (zero, false) from HP.out)
    go_wp2_with fail
    with_reducible refine CF.out.mono ?_
    rintro x w4 ⟨rfl, rfl⟩
    go_wp2_with fail
    refine bodyPost_ret (resEI rfl _ _ g 48 zero rfl ?hblk) rfl ?hpost
    case hblk => exact HZ.out.1
    case hpost => exact ⟨by rw [HT.out]; rfl, HZ.out.2.2, HZ.out.2.1⟩
end Evt
end Go.Proofs.YtkmkpdmjdfbpjaaGreatDoor

/- vector.Knows (no condition beyond the row's length). -/
namespace Go.Proofs.YtkmkpdmjdfbpjaaGreatDoor
set_option linter.unusedSimpArgs false
set_option linter.unusedVariables false
open Go.ChangeShapes Go.WideShapes Go.RowKit
namespace Vec
attribute [local go_sem ↓] loadRow0 storeRow0
set_option maxRecDepth 20000 in
set_option maxHeartbeats 1000000 in
theorem knows_ (w : World) (xs : List Int) (r n : Int) (hx : xs.length = 16) : Calls Tryz.prog 27 #[vec xs, dotV r n] w fun e w' => e = .returned (.bool (knowsF xs r n)) ∧ New w w' := by
  have b1 := (Blk.new w 23 (ints xs).toArray).alloc (.cells #[.int .i64 r, .int .i64 n] 42)
  have b2 := Blk.new1 w (.cells (ints xs).toArray 23) 42 #[.int .i64 r, .int .i64 n]
  have d0 := fun x : ChgW (fun _ => False) ((w.alloc (.cells (ints xs).toArray 23)).alloc (.cells #[.int .i64 r, .int .i64 n] 42)) => (b2.chg x.chg id).cell 0
  have d1 := fun x : ChgW (fun _ => False) ((w.alloc (.cells (ints xs).toArray 23)).alloc (.cells #[.int .i64 r, .int .i64 n] 42)) => (b2.chg x.chg id).cell 1
  simp only [List.getElem?_toArray, List.getElem?_cons_zero, List.getElem?_cons_succ] at d0 d1
  cases hd : dotF r n with
  | false =>
    have hk : knowsF xs r n = false := by simp [knowsF, hd]
    rw [hk]
    have HC := Lib.hid (fun W => dot_new W r n)
    rw [hd] at HC
    clear hd hk b1 b2
    go_enter Tryz.func27, Tryz.ntmps27
    go_wp2_with fail
    refine wp_region_chg (fun _ => False) (by kernel_rfl) (by kernel_rfl) ?_
    repeat (go_big_quiet_step ((go_at_call 47; exact calls_new (HC.out _))))
    refine wpQuiet_nil ?_
    rintro ⟨wq, hq⟩
    simp only []
    go_wp2
    go_ret
    exact ⟨rfl, ((Chg.refl _ _).alloc _).alloc _ |>.trans hq (fun _ _ => False.elim)⟩
  | true =>
    obtain ⟨h1, h2, h3, h4⟩ := dotF_true.1 hd
    obtain ⟨i, rfl⟩ := Int.eq_ofNat_of_zero_le h1
    have hk : knowsF xs i n = decide (n ≤ xs.getD i 0) := by simp [knowsF, hd]
    rw [hk]
    have HC := Lib.hid (fun W => dot_new W i n)
    rw [hd] at HC
    have ca := fun x : ChgW (fun _ => False) ((w.alloc (.cells (ints xs).toArray 23)).alloc (.cells #[.int .i64 i, .int .i64 n] 42)) => (b1.chg x.chg id).cell i
    rw [List.getElem?_toArray, ints_get, get_getD (by omega)] at ca
    simp only [Option.map_some] at ca
    generalize xs.getD i 0 = x at *
    clear hd hk h1 hx b1 b2
    go_enter Tryz.func27, Tryz.ntmps27
    go_wp2_with fail
    refine wp_region_chg (fun _ => False) (by kernel_rfl) (by kernel_rfl) ?_
    repeat (go_big_quiet_step ((go_at_call 47; exact calls_new (HC.out _))))
    refine wpQuiet_nil ?_
    rintro ⟨wq, hq⟩
    simp only []
    go_wp2
    go_ret
    exact ⟨rfl, ((Chg.refl _ _).alloc _).alloc _ |>.trans hq (fun _ _ => False.elim)⟩
end Vec
end Go.Proofs.YtkmkpdmjdfbpjaaGreatDoor

/- Messages: their ends, and how many events a kind may have; the test of an event (no condition beyond the sizes, and that MaxLen holds a number). -/
namespace Go.Proofs.YtkmkpdmjdfbpjaaGreatDoor
set_option linter.unusedSimpArgs false
set_option linter.unusedVariables false
open Go.ChangeShapes Go.WideShapes Go.RowKit Go.Deep
namespace Msg
open Val (JoinC)
open Num Evt Vec
theorem loadRow0 (p : Value) : Instr.loadAt 26 p = LoadRowV 26 p := rfl
theorem storeRow0 (p v : Value) : Instr.storeAt 26 p v = StoreRowV 26 p v := rfl
attribute [local go_sem ↓] loadRow0 storeRow0
attribute [local go_sem ↓] Evt.loadDot Evt.loadVec Evt.loadRow0 Evt.storeRow0 Evt.loadOnly0 Evt.loadOnly1 Evt.loadOnly2
/-- a message's cells -/
def Ms.cs (m : Ms) (v : Value) : List Value := [.int .i64 (m.n 0), .int .i64 (m.n 1), .int .i64 (m.n 2), .int .i64 (m.n 3), .int .i64 (m.n 4), .int .i64 (m.n 5), .int .i64 (m.n 6), .int .i64 (m.n 7), .int .i64 (m.n 8), .int .i64 (m.n 9), .int .i64 (m.n 10), .int .i64 (m.n 11), .int .i64 (m.n 12), .int .i64 (m.n 13), .int .i64 (m.n 14), .int .i64 (m.n 15), .int .i64 (m.n 16), .int .i64 (m.n 17), .int .i64 (m.n 18), v]
abbrev Ms.val (m : Ms) (v : Value) : Value := .agg (m.cs v).toArray
abbrev Ms.knownV (m : Ms) : Value := .agg #[.int .i64 (m.n 3), .int .i64 (m.n 4), .int .i64 (m.n 5), .int .i64 (m.n 6), .int .i64 (m.n 7), .int .i64 (m.n 8), .int .i64 (m.n 9), .int .i64 (m.n 10), .int .i64 (m.n 11), .int .i64 (m.n 12), .int .i64 (m.n 13), .int .i64 (m.n 14), .int .i64 (m.n 15), .int .i64 (m.n 16), .int .i64 (m.n 17), .int .i64 (m.n 18)]
theorem Ms.cs_len (m : Ms) (v : Value) : (m.cs v).length = 20 := rfl
theorem blk_ms {w : World} {g : Nat} {t : TypeId} {m : Ms} {v : Value} (h : Blk w g t (m.cs v).toArray) :
    (LoadRow 26 ⟨g, 0, none⟩).run Tryz.prog w = .ok (m.val v) w ∧ (LoadRow 23 ⟨g, 3, none⟩).run Tryz.prog w = .ok m.knownV w ∧ w.cell? ⟨g, 0, none⟩ = some (.int .i64 (m.n 0)) ∧ w.cell? ⟨g, 1, none⟩ = some (.int .i64 (m.n 1)) ∧ w.cell? ⟨g, 2, none⟩ = some (.int .i64 (m.n 2)) ∧ w.cell? ⟨g, 19, none⟩ = some v := by
  refine ⟨?_, ?_, h.cell 0, h.cell 1, h.cell 2, h.cell 19⟩
  · exact run_LoadRow (P := Tryz.prog) (n := 20) (cs := m.cs v) Tryz.underlying26 rfl (by kernel_rfl) rfl h.range_all
  · exact run_LoadRow (P := Tryz.prog) (n := 16) (cs := ((m.cs v).drop 3).take 16) Tryz.underlying23 rfl (by kernel_rfl) rfl (sub_range h 3 16)
theorem in_ (w : World) (n : Int) : Calls Tryz.prog 43 #[.int .i64 n] w fun x w' => x = .returned (.bool (decide (0 ≤ n) && decide (n < 16))) ∧ w' = w := by
  by_cases h0 : 0 ≤ n
  · by_cases h1 : n < 16
    · go_enter Tryz.func43, Tryz.ntmps43
      go_wp2_with fail
      go_ret
      exact ⟨by simp [h0, h1], rfl⟩
    · go_enter Tryz.func43, Tryz.ntmps43
      go_wp2_with fail
      go_ret
      exact ⟨by simp [h1], rfl⟩
  · go_enter Tryz.func43, Tryz.ntmps43
    go_wp2_with fail
    go_ret
    exact ⟨by simp [h0] <;> intros <;> omega, rfl⟩
theorem most_ (w : World) (k : Int) : Calls Tryz.prog 24 #[.int .i64 k] w fun x w' => x = .returned (.int .i64 (mostB k)) ∧ w' = w := by
  by_cases h1 : k = 1
  · subst h1
    go_enter Tryz.func24, Tryz.ntmps24
    go_wp2_with fail
    go_ret
    exact ⟨rfl, rfl⟩
  · have b1 : (k == 1) = false := by simpa using h1
    by_cases h2 : k = 2
    · subst h2
      go_enter Tryz.func24, Tryz.ntmps24
      go_wp2_with fail
      go_ret
      exact ⟨rfl, rfl⟩
    · have b2 : (k == 2) = false := by simpa using h2
      rw [show mostB k = -1 by unfold mostB; rw [if_neg h1, if_neg h2]]
      go_enter Tryz.func24, Tryz.ntmps24
      go_wp2_with fail
      go_ret
      exact ⟨rfl, rfl⟩
set_option maxHeartbeats 4000000 in
set_option maxRecDepth 20000 in
theorem ends_ (w : World) (m : Ms) (v : Value) : Calls Tryz.prog 22 #[m.val v] w fun x w' => x = .returned (.bool (endsB (m.n 1) (m.n 2))) ∧ New w w' := by
  have B1 := Blk.new w 26 (m.cs v).toArray
  obtain ⟨_, _, _, c1, c2, _⟩ := blk_ms B1
  have N1 := Lib.hid ((Chg.refl (fun _ => False) w).alloc (.cells (m.cs v).toArray 26))
  have g1 := B1.lt
  have C1 := Lib.hid fun W => in_ W (m.n 1)
  have C2 := Lib.hid fun W => in_ W (m.n 2)
  obtain ⟨r, hr⟩ : ∃ r, endsB (m.n 1) (m.n 2) = r := ⟨_, rfl⟩
  rw [hr]
  unfold endsB at hr
  obtain ⟨a, ha⟩ : ∃ a, (decide (0 ≤ m.n 1) && decide (m.n 1 < 16)) = a := ⟨_, rfl⟩
  obtain ⟨b, hb⟩ : ∃ b, (decide (0 ≤ m.n 2) && decide (m.n 2 < 16)) = b := ⟨_, rfl⟩
  rw [ha, hb] at hr
  simp only [ha] at C1
  simp only [hb] at C2
  have HR := Lib.hid hr.symm
  clear B1 hr ha hb
  cases a
  · go_enter Tryz.func22, Tryz.ntmps22
    go_wp2_with fail
    with_reducible refine (C1.out _).mono ?_
    rintro x w2 ⟨rfl, rfl⟩
    go_wp2_with fail
    go_ret
    exact ⟨by rw [HR.out] <;> simp [*], N1.out⟩
  cases b
  · go_enter Tryz.func22, Tryz.ntmps22
    go_wp2_with fail
    with_reducible refine (C1.out _).mono ?_
    rintro x w2 ⟨rfl, rfl⟩
    go_wp2_with fail
    with_reducible refine (C2.out _).mono ?_
    rintro x w3 ⟨rfl, rfl⟩
    go_wp2_with fail
    go_ret
    exact ⟨by rw [HR.out] <;> simp [*], N1.out⟩
  by_cases hne : m.n 1 = m.n 2
  · have hnb : (m.n 1 == m.n 2) = true := by simpa using hne
    have HR := Lib.hid (show r = false by rw [HR.out]; simp [hne])
    have HX := Lib.hid hne
    clear hne
    go_enter Tryz.func22, Tryz.ntmps22
    go_wp2_with fail
    with_reducible refine (C1.out _).mono ?_
    rintro x w2 ⟨rfl, rfl⟩
    go_wp2_with fail
    with_reducible refine (C2.out _).mono ?_
    rintro x w3 ⟨rfl, rfl⟩
    go_wp2_with fail
    go_ret
    exact ⟨by rw [HR.out] <;> simp [HX.out], N1.out⟩
  · have hnb : (m.n 1 == m.n 2) = false := by simpa using hne
    have HR := Lib.hid (show r = true by rw [HR.out]; simp [hne])
    go_enter Tryz.func22, Tryz.ntmps22
    go_wp2_with fail
    with_reducible refine (C1.out _).mono ?_
    rintro x w2 ⟨rfl, rfl⟩
    go_wp2_with fail
    with_reducible refine (C2.out _).mono ?_
    rintro x w3 ⟨rfl, rfl⟩
    go_wp2_with fail
    go_ret
    exact ⟨by rw [HR.out] <;> simp [hne], N1.out⟩
end Msg
end Go.Proofs.YtkmkpdmjdfbpjaaGreatDoor

/- Rows of events (no condition beyond the sizes). -/
namespace Go.Proofs.YtkmkpdmjdfbpjaaGreatDoor
set_option linter.unusedSimpArgs false
set_option linter.unusedVariables false
open Go.ChangeShapes Go.WideShapes Go.RowKit Go.Deep
namespace Evt
def rowE (es : List Ev) : List Value := es.flatMap Ev.cs
theorem rowE_append (l k : List Ev) : rowE (l ++ k) = rowE l ++ rowE k := by simp [rowE]
theorem rowE_length (l : List Ev) : (rowE l).length = l.length * 27 := by
  induction l with
  | nil => rfl
  | cons e l ih =>
    unfold rowE at ih ⊢
    rw [List.flatMap_cons, List.length_append, ih, e.cs_len, List.length_cons]
    omega
theorem rowE_one (l : List Ev) : ∀ u ∈ rowE l, u.oneCell' = true := by
  intro u hu
  obtain ⟨e, _, h⟩ := List.mem_flatMap.1 hu
  exact e.cs_one u h
theorem rowE_get : ∀ {l : List Ev} {i j : Nat} {e : Ev}, l[i]? = some e → j < 27 → (rowE l)[i * 27 + j]? = e.cs[j]?
  | x :: l, 0, j, e, h, hj => by
    injection h with h
    subst h
    unfold rowE
    rw [List.flatMap_cons, List.getElem?_append_left (by rw [x.cs_len]; omega), Nat.zero_mul, Nat.zero_add]
  | x :: l, i + 1, j, e, h, hj => by
    have ih := rowE_get (l := l) (i := i) (j := j) (e := e) (by simpa using h) hj
    unfold rowE at ih ⊢
    rw [List.flatMap_cons, List.getElem?_append_right (by rw [x.cs_len]; omega), x.cs_len, show (i + 1) * 27 + j - 27 = i * 27 + j by omega]
    exact ih
theorem rowE_take (l : List Ev) (k : Nat) : (rowE l).take (k * 27) = rowE (l.take k) := by
  induction l generalizing k with
  | nil => simp [rowE]
  | cons e l ih =>
    cases k with
    | zero => simp [rowE]
    | succ k =>
      unfold rowE at ih ⊢
      rw [List.take_succ_cons, List.flatMap_cons, List.flatMap_cons, List.take_append, e.cs_len, List.take_of_length_le (by rw [e.cs_len]; omega), show (k + 1) * 27 - 27 = k * 27 by omega, ih]
/-- v is a slice of the call's own whose events are l -/
abbrev OwnE (w : World) (base : Nat) (v : Value) (l : List Ev) : Prop := w.ownsRow base 48 27 v l.length (rowE l)
theorem OwnE.form {w : World} {base : Nat} {v : Value} {l : List Ev} (h : OwnE w base v l) : ∃ A c, v = .slice A l.length c := by
  rcases h.2 with ⟨rfl, h0⟩ | ⟨g, cap, cur, rfl, _⟩
  · exact ⟨none, 0, by rw [h0]⟩
  · exact ⟨_, cap, rfl⟩
theorem OwnE.nil (w : World) (base : Nat) : OwnE w base (.slice none 0 0) [] := World.ownsRow_nil _ _ _ _
def zeroE : Array Value := (List.replicate 20 (Value.int .i64 0) ++ List.replicate 4 (Value.string ⟨#[]⟩) ++ [Value.int .i64 0, Value.int .i64 0, Value.string ⟨#[]⟩]).toArray
theorem evInfo : (Tryz.prog.info? 48).map (fun i => (i.zero, i.size, i.bytes)) = some (some (.agg zeroE), 27, 256) := by kernel_rfl
theorem append_ev (w : World) {ops : Array Oper} {rest : List Oper} {o : Oper} {a : Act} {Q : Exit → Act → World → Prop} (hgd : o.guard = none) (s x : Operand)
    (ho : o.op = .call { callee := .builtin .append, args := #[s, x], argTypes := #[24, 24] })
    (base : Nat) (v : Value) (l : List Ev) (hs : a.eval s = v) (hown : OwnE w base v l)
    (F : Nat → Prop) (A : Option Addr) (m c : Nat) (k : List Ev) (hx : a.eval x = .slice A m c) (hr : Reads w F 27 A m (rowE k))
    (hb : l.length + m ≤ 1000000000) (hbase : base ≤ w.heap.size)
    (h : ∀ v' w', OwnE w' base v' (l ++ k) → w.grownBy w' v.ownBlock → (v'.ownBlock = v.ownBlock ∨ v'.ownBlock = some w.heap.size) → wpList Tryz.prog ops Q rest (a.put o.dst v') w') : wpList Tryz.prog ops Q (o :: rest) a w := by
  obtain ⟨i, hi, hz0, hz1, hz2⟩ := info_parts evInfo
  refine wpList_append_any w hgd s x _ ho base _ i _ 27 256 Tryz.underlying24 hi hz0 hz1 hz2 rfl (by omega) v l.length (rowE l) hs hown F A m c (rowE k) hx hr (rowE_one k) (by simp only [maxLen]; omega) (by omega) hbase ?_
  intro v' w' ho' hg hat
  refine h v' w' ?_ hg hat
  have hl := hr.len
  rw [rowE_length] at hl
  unfold OwnE
  rw [rowE_append, List.length_append, show k.length = m by omega]
  exact ho'
theorem wp_append_ev (w : World) {o : Oper} {a : Act} {K : Act → World → Prop} {Q : Exit → Act → World → Prop} (s x : Operand)
    (ho : o.op = .call { callee := .builtin .append, args := #[s, x], argTypes := #[24, 24] })
    (base : Nat) (v : Value) (l : List Ev) (hs : a.eval s = v) (hown : OwnE w base v l)
    (F : Nat → Prop) (A : Option Addr) (m c : Nat) (k : List Ev) (hx : a.eval x = .slice A m c) (hr : Reads w F 27 A m (rowE k))
    (hb : l.length + m ≤ 1000000000) (hbase : base ≤ w.heap.size)
    (h : ∀ v' w', OwnE w' base v' (l ++ k) → w.grownBy w' v.ownBlock → (v'.ownBlock = v.ownBlock ∨ v'.ownBlock = some w.heap.size) → K (a.put o.dst v') w') : o.wp Tryz.prog a w K Q := by
  obtain ⟨i, hi, hz0, hz1, hz2⟩ := info_parts evInfo
  refine wp_append_any w s x _ ho base _ i _ 27 256 Tryz.underlying24 hi hz0 hz1 hz2 rfl (by omega) v l.length (rowE l) hs hown F A m c (rowE k) hx hr (rowE_one k) (by simp only [maxLen]; omega) (by omega) hbase ?_
  intro v' w' ho' hg hat
  refine h v' w' ?_ hg hat
  have hl := hr.len
  rw [rowE_length] at hl
  unfold OwnE
  rw [rowE_append, List.length_append, show k.length = m by omega]
  exact ho'
theorem step_append_ev {w : World} {ops : Array Oper} {o : Oper} {a : Act} {K : Act → World → Prop} {Q : Exit → Act → World → Prop} {E : Prop} (hgd : o.guard = none) (s x : Operand)
    (ho : o.op = .call { callee := .builtin .append, args := #[s, x], argTypes := #[24, 24] })
    (base : Nat) (v : Value) (l : List Ev) (hs : a.eval s = v) (hown : OwnE w base v l)
    (F : Nat → Prop) (A : Option Addr) (m c : Nat) (k : List Ev) (hx : a.eval x = .slice A m c) (hr : Reads w F 27 A m (rowE k))
    (hb : l.length + m ≤ 1000000000) (hbase : base ≤ w.heap.size)
    (h : ∀ v' w', OwnE w' base v' (l ++ k) → w.grownBy w' v.ownBlock → (v'.ownBlock = v.ownBlock ∨ v'.ownBlock = some w.heap.size) → K (a.put o.dst v') w') : if Region.wanted o (yielded ops a.tmps) = true then Oper.wp Tryz.prog o a w K Q else E := by
  have hw : Region.wanted o (yielded ops a.tmps) = true := by simp [Region.wanted, hgd]
  rw [if_pos hw]
  exact wp_append_ev w s x ho base v l hs hown F A m c k hx hr hb hbase h
/-- event i of a row that can be read -/
theorem ld_ev {w : World} {F : Nat → Prop} {A : Option Addr} {n : Nat} {l : List Ev} (h : Reads w F 27 A n (rowE l)) {i : Nat} {e : Ev} (he : l[i]? = some e) : ∃ ad, A = some ad ∧ (LoadRow 48 (ad.add (i * 27))).run Tryz.prog w = .ok e.val w := by
  have hl := h.len
  rw [rowE_length] at hl
  have hi := (List.getElem?_eq_some_iff.1 he).1
  obtain ⟨ad, rfl, _, hc⟩ := h.2 (by omega)
  refine ⟨ad, rfl, ?_⟩
  refine run_LoadRow_at (P := Tryz.prog) (t := 48) Tryz.underlying48 rfl (n := 27) (by kernel_rfl) e.cs_len fun j u hu => ?_
  have hj : j < 27 := by
    have := (List.getElem?_eq_some_iff.1 hu).1
    rwa [e.cs_len] at this
  rw [add_of_add]
  exact hc _ _ (by rw [rowE_get he hj]; exact hu)
/-- v is a slice that can be read, in blocks that meet F, whose events are l -/
def RowE (w : World) (F : Nat → Prop) (v : Value) (l : List Ev) : Prop := ∃ A c, v = .slice A l.length c ∧ Reads w F 27 A l.length (rowE l)
theorem RowE.nil (w : World) (F : Nat → Prop) : RowE w F (.slice none 0 0) [] := ⟨none, 0, rfl, Reads.none_ _⟩
theorem RowE.chg {w w' : World} {F S : Nat → Prop} {v : Value} {l : List Ev} (h : RowE w F v l) (hc : Chg S w w') (hF : ∀ b, F b → ¬ S b) : RowE w' F v l := by
  obtain ⟨A, c, rfl, hr⟩ := h
  exact ⟨A, c, rfl, hr.chg' hc hF (by omega)⟩
theorem RowE.new {w w' : World} {F : Nat → Prop} {v : Value} {l : List Ev} (h : RowE w F v l) (hc : New w w') : RowE w' F v l := h.chg hc fun _ _ => id
theorem RowE.mono {w : World} {F G : Nat → Prop} {v : Value} {l : List Ev} (h : RowE w F v l) (hF : ∀ b, F b → G b) : RowE w G v l := by
  obtain ⟨A, c, rfl, hr⟩ := h
  exact ⟨A, c, rfl, hr.mono hF⟩
theorem RowE.of_own {w : World} {base : Nat} {v : Value} {l : List Ev} (h : OwnE w base v l) : RowE w (fun b => base ≤ b ∧ b < w.heap.size ∧ v.ownBlock = some b) v l := by
  obtain ⟨A, c, hv⟩ := h.form
  subst hv
  exact ⟨A, c, rfl, Reads.of_own h⟩
end Evt
end Go.Proofs.YtkmkpdmjdfbpjaaGreatDoor

/- message.Right: which messages may be (no condition beyond the sizes, and that MaxLen holds a number). -/
namespace Go.Proofs.YtkmkpdmjdfbpjaaGreatDoor
set_option linter.unusedSimpArgs false
set_option linter.unusedVariables false
open Go.ChangeShapes Go.WideShapes Go.RowKit Go.Deep
namespace Msg
open Val (JoinC)
open Num Evt Vec
attribute [local go_sem ↓] loadRow0 storeRow0
attribute [local go_sem ↓] Evt.loadDot Evt.loadVec Evt.loadRow0 Evt.storeRow0 Evt.loadOnly0 Evt.loadOnly1 Evt.loadOnly2
variable {α : Type}
/-- the first one that meets p -/
def idxOf (l : List α) (p : α → Bool) : Int := match l.findIdx? p with | some i => (i : Int) | none => -1
theorem idx_before {l : List α} {p : α → Bool} {k : Nat} (h : ∀ x ∈ l.take k, p x = false) {x : α} (hx : l[k]? = some x) (hp : p x = true) : idxOf l p = (k : Int) := by
  unfold idxOf
  have hk := (List.getElem?_eq_some_iff.1 hx).1
  have : l.findIdx? p = some k := by
    rw [List.findIdx?_eq_some_iff_getElem]
    refine ⟨hk, ?_, fun j hj => ?_⟩
    · have := (List.getElem?_eq_some_iff.1 hx).2
      rw [this]
      exact hp
    · have hjl : j < l.length := by omega
      have := h l[j] (List.mem_take_iff_getElem.2 ⟨j, by omega, rfl⟩)
      simp [this]
  rw [this]
theorem idx_none {l : List α} {p : α → Bool} (h : ∀ x ∈ l, p x = false) : idxOf l p = -1 := by
  unfold idxOf
  have : l.findIdx? p = none := by
    rw [List.findIdx?_eq_none_iff]
    exact h
  rw [this]
theorem idx_some {l : List α} {p : α → Bool} (h : ∃ x ∈ l, p x = true) : ∃ (k : Nat) (x : α), idxOf l p = (k : Int) ∧ l[k]? = some x ∧ p x = true ∧ (∀ y ∈ l.take k, p y = false) := by
  cases hf : l.findIdx? p with
  | none =>
    rw [List.findIdx?_eq_none_iff] at hf
    obtain ⟨x, hx, hp⟩ := h
    rw [hf x hx] at hp
    cases hp
  | some k =>
    have hf2 := hf
    rw [List.findIdx?_eq_some_iff_getElem] at hf
    obtain ⟨hk, hp, hb⟩ := hf
    refine ⟨k, l[k], by unfold idxOf; rw [hf2], List.getElem?_eq_getElem hk, hp, fun y hy => ?_⟩
    obtain ⟨j, hj, rfl⟩ := List.mem_take_iff_getElem.1 hy
    have := hb j (by omega)
    simpa using this
/-- the test , with what it has caught, tells p of all of l, as long as only S has changed -/
def Tests (w : World) (c1 : Value) (S : Nat → Prop) (l : List Ev) (p : Ev → Bool) : Prop := ∀ x ∈ l, ∀ W, Chg S w W → Calls Tryz.prog 25 #[x.val, c1] W fun e W' => e = .returned (.bool (p x)) ∧ New W W'
set_option maxHeartbeats 2000000 in
set_option maxRecDepth 100000 in
theorem index (w : World) (F : Nat → Prop) (v : Value) (l : List Ev) (h : RowE w F v l) (c1 : Value) (p : Ev → Bool) (ht : Tests w c1 (fun _ => False) l p) (hn : l.length ≤ 1000000) :
    Calls Tryz.prog 48 #[v, .func (.func 25) #[] #[c1]] w fun e w' => e = .returned (.int .i64 (idxOf l p)) ∧ New w w' := by
  have HT := Lib.hid ht
  obtain ⟨n, hn2⟩ : ∃ n, l.length = n := ⟨_, rfl⟩
  obtain ⟨A, c, hv, hr⟩ := h
  rw [hn2] at hv hn hr
  have H := Lib.hid hr
  have HN := Lib.hid hn2
  clear hr ht hn2
  subst hv
  go_enter Tryz.func48, Tryz.ntmps48
  go_wp2_with fail
  go_loopw [5, 8] (fun _ i wr => ∃ (k : Nat), k ≤ n ∧ i = .int .i64 k ∧ (∀ x ∈ l.take k, p x = false) ∧ New w wr) (fun _ i _ => n - (intOf i).toNat)
  case atStart => exact ⟨0, by omega, rfl, fun x hx => by simp at hx, Chg.refl _ _⟩
  case round =>
    obtain ⟨k, hk, rfl, hp, hnw⟩ := hrel
    by_cases hlt : k < n
    · obtain ⟨x, hx⟩ : ∃ x, l[k]? = some x := ⟨_, List.getElem?_eq_getElem (by rw [HN.out]; exact hlt)⟩
      have ho := H.out.chg' hnw (fun _ _ => id) (by omega)
      obtain ⟨ad, rfl, hld⟩ := ld_ev ho hx
      have C := HT.out x (List.mem_of_getElem? hx) wr hnw
      obtain ⟨X, hX⟩ : ∃ X, x.cs.toArray = X := ⟨_, rfl⟩
      rw [show x.val = .agg X by rw [← hX]] at hld C
      have HP := Lib.hid (And.intro hp (And.intro hx hnw))
      have hkp : (k : Int) < n := by omega
      obtain ⟨q, hq⟩ : ∃ q, p x = q := ⟨_, rfl⟩
      rw [hq] at C
      have HQ := Lib.hid hq
      have C := Lib.hid C
      clear hp hx hnw ho hq hX
      cases q
      · go_wp2_with fail
        refine C.out.mono ?_
        rintro e w2 ⟨rfl, n2⟩
        have HZ := Lib.hid (HP.out.2.2.trans n2 fun _ _ => id)
        clear n2 C
        go_wp2_with fail
        go_roundw
        case rel => exact ⟨k + 1, by omega, by go_num, fun y hy => by
          rw [List.take_add_one, HP.out.2.1] at hy
          rcases List.mem_append.1 hy with h | h
          · exact HP.out.1 y h
          · simp at h
            rw [h]
            exact HQ.out, HZ.out⟩
        case measure => simp [intOf]; omega
      · go_wp2_with fail
        refine C.out.mono ?_
        rintro e w2 ⟨rfl, n2⟩
        have HZ := Lib.hid (HP.out.2.2.trans n2 fun _ _ => id)
        clear n2 C
        go_wp2_with fail
        go_ret
        exact ⟨by rw [idx_before HP.out.1 HP.out.2.1 HQ.out]; first | rfl | skip, HZ.out⟩
    · obtain rfl : k = n := by omega
      rw [List.take_of_length_le (by rw [HN.out]; omega)] at hp
      have HP := Lib.hid (And.intro hp hnw)
      clear hp hnw
      go_wp2_with fail
      go_ret
      exact ⟨by rw [idx_none HP.out.1]; rfl, HP.out.2⟩

theorem idx_any {l : List α} {p : α → Bool} : decide (idxOf l p ≥ 0) = l.any p := by
  cases h : l.any p with
  | true =>
    obtain ⟨x, hx, hp⟩ := List.any_eq_true.1 h
    obtain ⟨k, _, hk, _⟩ := idx_some ⟨x, hx, hp⟩
    rw [hk]
    simp
  | false =>
    rw [idx_none (by simpa using h)]
    rfl
theorem contains_ (w : World) (F : Nat → Prop) (v : Value) (l : List Ev) (h : RowE w F v l) (c1 : Value) (p : Ev → Bool) (ht : Tests w c1 (fun _ => False) l p) (hn : l.length ≤ 1000000) :
    Calls Tryz.prog 28 #[v, .func (.func 25) #[] #[c1]] w fun e w' => e = .returned (.bool (l.any p)) ∧ New w w' := by
  have C := Lib.hid (index w F v l h c1 p ht hn)
  have HE := Lib.hid (idx_any (l := l) (p := p))
  clear h ht hn
  generalize idxOf l p = i at *
  go_enter Tryz.func28, Tryz.ntmps28
  go_wp2_with fail
  with_reducible refine C.out.mono ?_
  rintro x w2 ⟨rfl, n2⟩
  go_wp2_with fail
  go_ret
  exact ⟨by rw [← HE.out] <;> simp, n2⟩
set_option maxHeartbeats 4000000 in
set_option maxRecDepth 20000 in
theorem odd_ (hJ : JoinC) (w : World) (g : Nat) (m : Ms) (v : Value) (hB : Blk w g 26 (m.cs v).toArray) (e : Ev) (he : Fit e) (hm : Val.MaxAt w) :
    Calls Tryz.prog 25 #[e.val, .pointer (some ⟨g, 0, none⟩)] w fun x w' => x = .returned (.bool (oddB m e)) ∧ New w w' := by
  have n1 := (Chg.refl (fun _ => False) w).alloc (.cells e.cs.toArray 48)
  have B1 := Blk.new w 48 e.cs.toArray
  have N1 := Lib.hid n1
  have le := ldE B1
  have CR := right hJ _ e he (hm.new n1)
  have HB := Lib.hid (And.intro (hB.chg n1 id) B1)
  have gg := (hB.chg n1 id).lt
  have g1 := B1.lt
  have CK : ∀ W, Calls Tryz.prog 27 #[m.knownV, e.dot] W fun x w' => x = .returned (.bool (knowsF (known m) (e.n 0) (e.n 1))) ∧ New W w' := fun W => Vec.knows_ W (known m) (e.n 0) (e.n 1) rfl
  obtain ⟨r, hr⟩ : ∃ r, rightE e = r := ⟨_, rfl⟩
  obtain ⟨q, hq⟩ : ∃ q, knowsF (known m) (e.n 0) (e.n 1) = q := ⟨_, rfl⟩
  rw [show oddB m e = (!r || !q) by unfold oddB; rw [hr, hq]]
  rw [hr] at CR
  simp only [hq] at CK
  have CR := Lib.hid CR
  have CK := Lib.hid CK
  clear n1 B1 hB hr hq he hm
  cases r
  · go_enter Tryz.func25, Tryz.ntmps25
    go_wp2_with fail
    with_reducible refine CR.out.mono ?_
    rintro x w2 ⟨rfl, n2⟩
    go_wp2_with fail
    go_ret
    exact ⟨rfl, N1.out.trans n2 fun _ _ => id⟩
  · go_enter Tryz.func25, Tryz.ntmps25
    go_wp2_with fail
    with_reducible refine CR.out.mono ?_
    rintro x w2 ⟨rfl, n2⟩
    have l1 := (blk_ms (HB.out.1.chg n2 id)).2.1
    have l2 := (blk_ev (HB.out.2.chg n2 id)).1
    have g2 := (HB.out.1.chg n2 id).lt
    have g3 := (HB.out.2.chg n2 id).lt
    have N2 := Lib.hid (N1.out.trans n2 fun _ _ => id)
    clear n2
    go_wp2_with fail
    with_reducible refine (CK.out _).mono ?_
    rintro x w3 ⟨rfl, n3⟩
    go_wp2_with fail
    go_ret
    exact ⟨rfl, N2.out.trans n3 fun _ _ => id⟩
end Msg
end Go.Proofs.YtkmkpdmjdfbpjaaGreatDoor
