/-
  Registers' laws: their arguments opened, and what the tied cards need (no condition beyond the sizes).
-/
import Derived.Test.YtgnlbekagdffoaaDoorLawFix
import Derived.Test.YtgnlbekagdffoaaDoorSort
import Derived.Test.YtgnlbekagdffoaaDoorCards
import Derived.Test.YtgnlbekagdffoaaDoorTie
import Derived.Handed
import Derived.Lay
import Derived.LaidMore
import Derived.LaidOnce
import Derived.OpenShut
import Derived.SevenTiedAt
import Derived.Shelf.Vars
import Derived.ProofKit
namespace Go.Proofs.YtgnlbekagdffoaaDoor
set_option linter.unusedSimpArgs false
set_option linter.unusedVariables false
open Go.ChangeShapes Go.WideShapes Go.RowKit Go.Deep
namespace Lat
theorem weights_all {H : Type} {P : Program} {e : TypeId} : ∀ {l : List (DataW H)} {d : DataW H}, d ∈ l → ∀ y ∈ d.weights P e, y ∈ DataW.weightsAll P e l
  | x :: l, d, h, y, hy => by
    simp only [DataW.weightsAll, List.mem_append]
    rcases List.mem_cons.1 h with rfl | h
    · exact .inl hy
    · exact .inr (weights_all h y hy)
section
variable {H : Type} {enc : TypeId × Value → H} {w : World} {base : Nat} {held : Bool}
set_option maxRecDepth 100000 in
theorem open_cell {cs : List Value} {fuel : Nat} {x : DataW H × List MemPlace} (h : DataW.trod enc Tryd.prog w base (fun _ => true) held fuel 33 cs = some x) (hw : ∀ y ∈ x.1.weights Tryd.prog 33, y ≤ 140737488351232) :
    ∃ c : Cl, cs = c.cs ∧ (c.name.size ≤ 140737488351232 ∧ c.txt.size ≤ 140737488351232) ∧ (-9223372036854775808 ≤ c.n ∧ c.n ≤ 9223372036854775807) := by
  obtain ⟨xs, m, _, rfl, hl, hxl, hf⟩ := DataW.trod_struct Tryd.underlying33 h
  have e0 : DataW.trod enc Tryd.prog w base (fun _ => true) held m 9 ((cs.drop 0).take (Tryd.prog.cellsOf 9)) = xs[0]? := hf 0 _ rfl
  have e1 : DataW.trod enc Tryd.prog w base (fun _ => true) held m 29 ((cs.drop 1).take (Tryd.prog.cellsOf 29)) = xs[1]? := hf 1 _ rfl
  have e2 : DataW.trod enc Tryd.prog w base (fun _ => true) held m 31 ((cs.drop 3).take (Tryd.prog.cellsOf 31)) = xs[2]? := hf 2 _ rfl
  rw [show Tryd.prog.cellsOf 9 = 1 by kernel_rfl] at e0
  rw [show Tryd.prog.cellsOf 29 = 2 by kernel_rfl] at e1
  rw [show Tryd.prog.cellsOf 31 = 3 by kernel_rfl] at e2
  have hlen : cs.length = 6 := by rw [hl]; kernel_rfl
  have hxl3 : xs.length = 3 := hxl
  match xs, hxl3, cs, hlen with
  | [x0, x1, x2], _, [a, b, c, d, f, g], _ =>
    have e0 : DataW.trod enc Tryd.prog w base (fun _ => true) held m 9 [a] = some x0 := e0
    have e1 : DataW.trod enc Tryd.prog w base (fun _ => true) held m 29 [b, c] = some x1 := e1
    have e2 : DataW.trod enc Tryd.prog w base (fun _ => true) held m 31 [d, f, g] = some x2 := e2
    obtain ⟨s, hs, rfl, _⟩ := DataW.trod_string Tryd.underlying9 e0
    obtain ⟨ys, p, _, rfl, _, hyl, hg⟩ := DataW.trod_struct Tryd.underlying29 e1
    have u0 : DataW.trod enc Tryd.prog w base (fun _ => true) held p 3 (([b, c].drop 0).take (Tryd.prog.cellsOf 3)) = ys[0]? := hg 0 _ rfl
    have u1 : DataW.trod enc Tryd.prog w base (fun _ => true) held p 3 (([b, c].drop 1).take (Tryd.prog.cellsOf 3)) = ys[1]? := hg 1 _ rfl
    obtain ⟨zs, q, _, rfl, _, hzl, hk⟩ := DataW.trod_struct Tryd.underlying31 e2
    have v0 : DataW.trod enc Tryd.prog w base (fun _ => true) held q 3 (([d, f, g].drop 0).take (Tryd.prog.cellsOf 3)) = zs[0]? := hk 0 _ rfl
    have v1 : DataW.trod enc Tryd.prog w base (fun _ => true) held q 3 (([d, f, g].drop 1).take (Tryd.prog.cellsOf 3)) = zs[1]? := hk 1 _ rfl
    have v2 : DataW.trod enc Tryd.prog w base (fun _ => true) held q 9 (([d, f, g].drop 2).take (Tryd.prog.cellsOf 9)) = zs[2]? := hk 2 _ rfl
    rw [show Tryd.prog.cellsOf 3 = 1 by kernel_rfl] at u0 u1 v0 v1
    rw [show Tryd.prog.cellsOf 9 = 1 by kernel_rfl] at v2
    have hyl2 : ys.length = 2 := hyl
    have hzl3 : zs.length = 3 := hzl
    match ys, hyl2, zs, hzl3 with
    | [y0, y1], _, [z0, z1, z2], _ =>
      obtain ⟨t, ht, _⟩ := DataW.trod_int Tryd.underlying3 (show DataW.trod enc Tryd.prog w base (fun _ => true) held p 3 [b] = some y0 from u0)
      obtain ⟨r, hr, _⟩ := DataW.trod_int Tryd.underlying3 (show DataW.trod enc Tryd.prog w base (fun _ => true) held p 3 [c] = some y1 from u1)
      obtain ⟨k, hkk, _⟩ := DataW.trod_int Tryd.underlying3 (show DataW.trod enc Tryd.prog w base (fun _ => true) held q 3 [d] = some z0 from v0)
      obtain ⟨n, hn, _, hnw⟩ := DataW.trod_int Tryd.underlying3 (show DataW.trod enc Tryd.prog w base (fun _ => true) held q 3 [f] = some z1 from v1)
      obtain ⟨tx, htx, rfl, _⟩ := DataW.trod_string Tryd.underlying9 (show DataW.trod enc Tryd.prog w base (fun _ => true) held q 9 [g] = some z2 from v2)
      simp [Lit.wf, IntKind.min, IntKind.max, IntKind.signed, IntKind.bits] at hnw
      injection hs with hs
      injection ht with ht
      injection hr with hr
      injection hkk with hkk
      injection hn with hn
      injection htx with htx
      subst hs ht hr hkk hn htx
      simp only [DataW.weights, Tryd.underlying33, Tryd.underlying31, List.map_cons, List.map_nil, DataW.weightsEach, List.mem_append, List.mem_cons, List.not_mem_nil, or_false] at hw
      have hb : -9223372036854775808 ≤ n ∧ n ≤ 9223372036854775807 := by omega
      refine ⟨⟨s, t, r, k, n, tx⟩, rfl, ⟨?_, ?_⟩, hb.1, hb.2⟩
      · have := hw s.data.toList.length (by simp)
        rwa [Array.length_toList] at this
      · have := hw tx.data.toList.length (by simp)
        rwa [Array.length_toList] at this
set_option maxRecDepth 100000 in
/-- an argument []latest.Cell -/
theorem open_cells {v : Value} {d : DataW H} {ps : List MemPlace} (hv : v.cells = #[v]) (hw : ∀ x ∈ d.weights Tryd.prog 22, x ≤ reachBytes) (hd : DataW.Trod enc Tryd.prog w base (fun _ => true) held 22 v d ps) :
    ∃ (A : Option Addr) (c : Nat) (es : List Cl), v = .slice A es.length c ∧ es.length ≤ 140737488351232 ∧ (∀ e ∈ es, (e.name.size ≤ 140737488351232 ∧ e.txt.size ≤ 140737488351232) ∧ (-9223372036854775808 ≤ e.n ∧ e.n ≤ 9223372036854775807)) ∧ Reads w (fun b => b < w.heap.size) 6 A es.length (rowC es) := by
  obtain ⟨fuel, hf⟩ := hd
  rw [hv] at hf
  rcases open_slice Tryd.underlying22 hf with ⟨h, _⟩ | ⟨a, len, cap, m, n, D, Pl, h, _, hl, hm, hmm, hdd, hx⟩
  · have hv' : v = .slice none 0 0 := by simpa using h
    exact ⟨none, 0, [], hv', by simp, (fun e he => by cases he), Reads.none_ _⟩
  · have hv' : v = .slice (some a) len cap := by simpa using h
    have hmc : m = cap := by simpa using hmm
    have hd' : d = .slice ((List.range len).map D) ((List.range (m - len)).map fun j => D (len + j)) := congrArg Prod.fst hdd
    have hcap : len ≤ 140737488351232 := by
      have := hw (cap * Tryd.prog.bytesOf 33) (by
        rw [hd']
        simp only [DataW.weights, Tryd.underlying22]
        refine List.mem_cons.2 (.inl ?_)
        simp only [List.length_map, List.length_range]
        rw [show len + (m - len) = cap by omega])
      rw [show Tryd.prog.bytesOf 33 = 64 by kernel_rfl] at this
      simp [reachBytes] at this
      omega
    have hone : ∀ i, i < len → ∃ e : Cl, ((e.name.size ≤ 140737488351232 ∧ e.txt.size ≤ 140737488351232) ∧ (-9223372036854775808 ≤ e.n ∧ e.n ≤ 9223372036854775807)) ∧ a.block < w.heap.size ∧ ∀ j u, e.cs[j]? = some u → w.cell? (a.add (i * 6 + j)) = some u := fun i hi => by
      obtain ⟨cs', hc, ht⟩ := hx i (by omega)
      rw [show Tryd.prog.cellsOf 33 = 6 by kernel_rfl] at hc
      obtain ⟨_, hcl, hat⟩ := World.cells?_some hc
      obtain ⟨e, rfl, hself⟩ := open_cell ht fun y hy => hw y (by
        rw [hd']
        simp only [DataW.weights, Tryd.underlying22]
        refine List.mem_cons_of_mem _ (List.mem_append_left _ (weights_all (List.mem_map.2 ⟨i, List.mem_range.2 hi, rfl⟩) y hy)))
      have hcell : ∀ j u, e.cs[j]? = some u → w.cell? (a.add (i * 6 + j)) = some u := fun j u hu => by
        have hj : j < 6 := by
          have := (List.getElem?_eq_some_iff.1 hu).1
          rwa [e.cs_len] at this
        rw [← Go.Deep.add_add, hat j hj]
        exact hu
      refine ⟨e, hself, ?_, hcell⟩
      have := block_lt_of_cell (hcell 0 _ rfl)
      rwa [block_of_add] at this
    obtain ⟨f, hf'⟩ := Deep.choose_lt hone
    have hlen : ((List.range len).map f).length = len := by simp
    refine ⟨some a, cap, (List.range len).map f, by rw [hv', hlen], by rw [hlen]; exact hcap, fun e he => ?_, ⟨rowC_length _, fun hn => ⟨a, rfl, (hf' 0 (by rw [hlen] at hn; exact hn)).2.1, fun j u hu => ?_⟩⟩⟩
    · obtain ⟨i, hi, rfl⟩ := List.mem_map.1 he
      exact (hf' i (List.mem_range.1 hi)).1
    · have hj : j < len * 6 := by
        have := (List.getElem?_eq_some_iff.1 hu).1
        rwa [rowC_length, hlen] at this
      have hi : j / 6 < len := by omega
      have hdm : j / 6 * 6 + j % 6 = j := by omega
      have hg := rowC_get (l := (List.range len).map f) (i := j / 6) (j := j % 6) (e := f (j / 6)) (by simp [hi]) (by omega)
      rw [hdm] at hg
      have := (hf' _ hi).2.2 (j % 6) u (by rw [← hg]; exact hu)
      rwa [hdm] at this
end
theorem maxAt {W : World} (h : W.ShapedOpen Tryd.prog) : Val.MaxAt W :=
  cell_of_shapedOpen_int (P := Tryd.prog) (g := 0) (t := 3) (zero := #[.int .i64 0]) h (of_decide_eq_true (by kernel_rfl)) (by kernel_rfl) rfl (by kernel_rfl) (by kernel_rfl) Tryd.underlying3
abbrev laidT : List (String × DataW Unit) := [("unicode/utf8.acceptRanges", Rows.laid_unicode_utf8_acceptRanges), ("unicode/utf8.first", Rows.laid_unicode_utf8_first)]
theorem returns_laid {H : Type} {enc : TypeId × Value → H} {a : Assume} {C : Checked} {os : Os} {f : FuncId} {fn : Func} {s : ChangeSpec} {conds : List PathCond} {apart fresh handsOn again : Bool} {X : World → Array Value → Prop}
    (own : ownKnob C.prog.godebug = none) (started : os.Started) (noInit : C.prog.inits.idxOf? f = none) (hfn : C.prog.funcs[f]? = some fn)
    (witness : ∃ (w : World) (tape : Tape) (i : Input), w.os = os ∧ (w.forCall tape i).Shaped C.prog ∧ i.vars = [] ∧ Input.okWide C.prog (w.forCall tape i) .any w.heap.size f i ∧
      ((s.pre enc C.prog fn conds apart (w.forCall tape i).memory i.args ∧ X (w.forCall tape i).memory i.args) ∧ sizedMet enc C.prog fn (OpenSpec.ofChange s) apart (w.forCall tape i).memory i.args) ∧ a.holds C.prog (lone (Frame.enter C.prog f i.args .normal) [] (w.forCall tape i)))
    (contract : ∀ (W : World) (base : Nat) (args : Array Value) (ds gs : List (DataW H)) (before : List MemPlace),
      (∀ (j : Nat) t v, fn.params[j]? = some t → args[j]? = some v → Value.okWide C.prog W .any base t v) →
      DataW.Whole enc C.prog fn.params.toList s.vars apart W args.toList ds gs before →
      (DataW.weightsEach C.prog (fn.params.toList ++ s.plain.varTypes C.prog) (ds ++ gs)).all (· ≤ reachBytes) = true →
      W.ShapedOpen C.prog →
      Calls C.prog f args W fun e W' => ∃ v, e = .returned v ∧ s.post enc C.prog fn apart fresh handsOn again W args v W') :
    ReturnsInHanded a C os f .any (fun w args => (s.pre enc C.prog fn conds apart w args ∧ X w args) ∧ sizedMet enc C.prog fn (OpenSpec.ofChange s) apart w args) (s.post enc C.prog fn apart fresh handsOn again) := by
  refine returnsInHanded_of_calls own started noInit witness ?_
  intro w tape i _ hsh _ hok hpre _
  obtain ⟨_, _, _, fn', hfn', _, _, _, _, hval⟩ := hok
  have e : fn' = fn := Option.some.inj (hfn'.symm.trans hfn)
  subst e
  obtain ⟨⟨⟨ds, gs, before, hw, _⟩, _⟩, hz⟩ := hpre
  have hw' := DataW.Whole.of_heap (w' := w.forCall tape i) (by rfl) hw
  refine (contract (w.forCall tape i) w.heap.size i.args ds gs before hval hw' (hz.weights hw) hsh).mono fun e W' ⟨v, he, hp⟩ => ?_
  subst he
  exact ChangeSpec.post_blind hp
end Lat
end Go.Proofs.YtgnlbekagdffoaaDoor
