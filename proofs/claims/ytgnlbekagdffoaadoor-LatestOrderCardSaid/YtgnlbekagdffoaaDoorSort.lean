/-
  The sort of Register.All sorts: slices.SortFunc at cells, by the shelf's contract.
-/
import Derived.Test.YtgnlbekagdffoaaDoorAll
import Derived.Shelf.SlSortCmp.NoneTotal
import Derived.Sort.OwnSortedInts
namespace Go.Proofs.YtgnlbekagdffoaaDoor
set_option linter.unusedSimpArgs false
set_option linter.unusedVariables false
open Go.ChangeShapes Go.WideShapes Go.RowKit Go.Sort Go.Shelf
def Srt.lays_ren : Go.Shelf.Ren := ⟨fun | 6 => 25 | 15 => 34 | 14 => 33 | 28 => 50 | 29 => 51 | 20 => 42 | 21 => 43 | 22 => 44 | 23 => 45 | 24 => 46 | 25 => 47 | 26 => 48 | 27 => 49 | 46 => 54 | 47 => 55 | 48 => 56 | 49 => 57 | 50 => 58 | 57 => 60 | n => n, fun | 22 => 22 | 24 => 33 | 25 => 58 | 3 => 3 | 39 => 67 | 0 => 0 | 53 => 82 | 55 => 84 | 4 => 4 | 46 => 75 | 45 => 74 | 50 => 79 | 5 => 5 | 9 => 9 | 66 => 87 | 70 => 91 | 76 => 94 | 77 => 95 | n => n, fun | n => n⟩
theorem Srt.lays : Go.Proofs.SlLaysF0.n6 Tryd.prog Srt.lays_ren := {
  mixed := by kernel_rfl
  f6 := ⟨Tryd.f25.name, by decide, Tryd.func25.trans (congrArg some (by kernel_rfl))⟩
  f14 := ⟨Tryd.f33.name, by decide, Tryd.func33.trans (congrArg some (by kernel_rfl))⟩
  f15 := Tryd.func34.trans (congrArg some (by kernel_rfl))
  f20 := ⟨Tryd.f42.name, by decide, Tryd.func42.trans (congrArg some (by kernel_rfl))⟩
  f21 := ⟨Tryd.f43.name, by decide, Tryd.func43.trans (congrArg some (by kernel_rfl))⟩
  f22 := ⟨Tryd.f44.name, by decide, Tryd.func44.trans (congrArg some (by kernel_rfl))⟩
  f23 := ⟨Tryd.f45.name, by decide, Tryd.func45.trans (congrArg some (by kernel_rfl))⟩
  f24 := ⟨Tryd.f46.name, by decide, Tryd.func46.trans (congrArg some (by kernel_rfl))⟩
  f25 := ⟨Tryd.f47.name, by decide, Tryd.func47.trans (congrArg some (by kernel_rfl))⟩
  f26 := ⟨Tryd.f48.name, by decide, Tryd.func48.trans (congrArg some (by kernel_rfl))⟩
  f27 := ⟨Tryd.f49.name, by decide, Tryd.func49.trans (congrArg some (by kernel_rfl))⟩
  f28 := Tryd.func50.trans (congrArg some (by kernel_rfl))
  f29 := Tryd.func51.trans (congrArg some (by kernel_rfl))
  f46 := ⟨Tryd.f54.name, by decide, Tryd.func54.trans (congrArg some (by kernel_rfl))⟩
  f47 := Tryd.func55.trans (congrArg some (by kernel_rfl))
  f48 := Tryd.func56.trans (congrArg some (by kernel_rfl))
  f49 := ⟨Tryd.f57.name, by decide, Tryd.func57.trans (congrArg some (by kernel_rfl))⟩
  f50 := ⟨Tryd.f58.name, by decide, Tryd.func58.trans (congrArg some (by kernel_rfl))⟩
  f57 := ⟨Tryd.f60.name, by decide, Tryd.func60.trans (congrArg some (by kernel_rfl))⟩
  t0 := Tryd.underlying0
  a0 := Tryd.isAgg0
  z0 := Tryd.sizeOf0
  v0 := Tryd.zeroValue0
  t3 := Tryd.underlying3
  a3 := Tryd.isAgg3
  z3 := Tryd.sizeOf3
  v3 := Tryd.zeroValue3
  t4 := Tryd.underlying4
  a4 := Tryd.isAgg4
  z4 := Tryd.sizeOf4
  v4 := Tryd.zeroValue4
  t5 := Tryd.underlying5
  a5 := Tryd.isAgg5
  z5 := Tryd.sizeOf5
  v5 := Tryd.zeroValue5
  t9 := Tryd.underlying9
  a9 := Tryd.isAgg9
  z9 := Tryd.sizeOf9
  v9 := Tryd.zeroValue9
  t22 := Tryd.underlying22
  a22 := Tryd.isAgg22
  z22 := Tryd.sizeOf22
  v22 := Tryd.zeroValue22
  t25 := Tryd.underlying58
  a25 := Tryd.isAgg58
  z25 := Tryd.sizeOf58
  v25 := Tryd.zeroValue58
  t39 := Tryd.underlying67
  a39 := Tryd.isAgg67
  z39 := Tryd.sizeOf67
  v39 := Tryd.zeroValue67
  t45 := Tryd.underlying74
  a45 := Tryd.isAgg74
  z45 := Tryd.sizeOf74
  v45 := Tryd.zeroValue74
  t46 := Tryd.underlying75
  a46 := Tryd.isAgg75
  z46 := Tryd.sizeOf75
  v46 := Tryd.zeroValue75
  t50 := Tryd.underlying79
  a50 := Tryd.isAgg79
  z50 := Tryd.sizeOf79
  v50 := Tryd.zeroValue79
  t53 := Tryd.underlying82
  a53 := Tryd.isAgg82
  z53 := Tryd.sizeOf82
  v53 := Tryd.zeroValue82
  t55 := Tryd.underlying84
  a55 := Tryd.isAgg84
  z55 := Tryd.sizeOf84
  v55 := Tryd.zeroValue84
  t66 := Tryd.underlying87
  a66 := Tryd.isAgg87
  z66 := Tryd.sizeOf87
  v66 := Tryd.zeroValue87
  t70 := Tryd.underlying91
  a70 := Tryd.isAgg91
  z70 := Tryd.sizeOf91
  v70 := Tryd.zeroValue91
  t76 := Tryd.underlying94
  a76 := Tryd.isAgg94
  z76 := Tryd.sizeOf94
  v76 := Tryd.zeroValue94
  t77 := Tryd.underlying95
  a77 := Tryd.isAgg95
  z77 := Tryd.sizeOf95
  v77 := Tryd.zeroValue95 }
namespace Srt
theorem holdsV {w : World} {g : Nat} {cur : Array Value} {e : TypeId} {xs : List Value} (hb : w.heap[g]? = some (.cells cur e (0, 0))) (ht : cur.toList.take xs.length = xs) : Holds id w g 0 xs.toArray := by
  intro j hj
  have hj' : j < xs.length := by simpa using hj
  refine ⟨?_, by simp [World.frozen?, hb]⟩
  have h1 : (cur.toList.take xs.length)[j]? = xs[j]? := by rw [ht]
  rw [List.getElem?_take_of_lt hj'] at h1
  simp only [World.cell?, hb, Nat.zero_add]
  simp only [Option.isSome_none, Bool.false_eq_true, if_false]
  rw [← Array.getElem?_toList, h1]
  simp [hj']
theorem heapV {w : World} {g n : Nat} {os : Array Obj} {cur : Array Value} {e : TypeId} {fr : Nat × Nat} (d : Array Value) (hb : w.heap[g]? = some (.cells cur e fr)) :
    (grow (putRow id (Sort.ahead w n) g 0 d) os).heap[g]? = some (.cells (putCells id 0 d cur) e fr) := by
  have hg : g < w.heap.size := (Array.getElem?_eq_some_iff.1 hb).1
  rw [heap_grow_old _ _ (by simpa using hg)]
  simp [putRow, mapBlock, Sort.ahead, Array.getElem?_modify, hb, onCells]
theorem grownV {w : World} {g n : Nat} {os : Array Obj} (d : Array Value) : w.grownBy (grow (putRow id (Sort.ahead w n) g 0 d) os) (some g) := by
  refine ⟨rfl, rfl, rfl, by simp, fun k hk hne => ?_⟩
  rw [heap_grow_old _ _ (by simpa using hk)]
  have : g ≠ k := fun e => hne (by rw [e])
  simp [putRow, mapBlock, Sort.ahead, Array.getElem?_modify, this]
theorem takeV (cur : Array Value) (ts : List Value) (h : ts.length ≤ cur.size) : (putCells id 0 ts.toArray cur).toList.take ts.length = ts := by
  apply List.ext_getElem?
  intro j
  by_cases hj : j < ts.length
  · rw [List.getElem?_take_of_lt hj, Array.getElem?_toList]
    simp [putCells, hj, show j < cur.size by omega]
  · rw [List.getElem?_take_eq_none (by omega), List.getElem?_eq_none (by omega)]
end Srt
namespace Lat
theorem flat_rowC (l : List Cl) : flatK Cl.cs 6 l.toArray = (rowC l).toArray := by
  apply Array.ext
  · simp [rowC_length]
  · intro t h1 h2
    have ht : t < l.length * 6 := by simpa using h1
    have hi : t / 6 < l.length := by omega
    have hg := rowC_get (l := l) (i := t / 6) (j := t % 6) (List.getElem?_eq_getElem hi) (by omega)
    rw [show t / 6 * 6 + t % 6 = t by omega] at hg
    have hj : t % 6 < (l[t / 6]).cs.length := by rw [Cl.cs_len]; omega
    rw [List.getElem?_eq_getElem (by rw [rowC_length]; exact ht), List.getElem?_eq_getElem hj] at hg
    injection hg with hg
    have e1 := get_flatK Cl.cs 6 l.toArray t (by simpa using ht)
    rw [getElem!_pos _ t h1] at e1
    rw [e1, List.getElem_toArray, hg, getElem!_pos l.toArray (t / 6) (by simpa using hi), List.getElem_toArray, getElem!_pos _ (t % 6) hj]
theorem ltC (x y : Cl) : ltOf (fun x y : Cl => cmpS x.name y.name) x y = decide (nameC x y = -1) := by
  show decide (nameC x y < 0) = _
  have a := cmpL_range (nums x.name.data.toList) (nums y.name.data.toList)
  rw [decide_eq_decide]
  unfold nameC
  omega
theorem cmpWeak : SWO (ltOf fun x y : Cl => cmpS x.name y.name) where
  irrefl x := by rw [ltC]; simp [nameC, cmpL_self]
  trans x y z h1 h2 := by
    rw [ltC, decide_eq_true_eq] at *
    exact cmpL_trans h1 h2
  ntrans x y z h1 h2 := by
    rw [ltC, decide_eq_false_iff_not] at *
    unfold nameC at *
    have a := cmpL_range (nums x.name.data.toList) (nums y.name.data.toList)
    have b := cmpL_range (nums y.name.data.toList) (nums z.name.data.toList)
    have a' := cmpL_neg (nums x.name.data.toList) (nums y.name.data.toList)
    have b' := cmpL_neg (nums y.name.data.toList) (nums z.name.data.toList)
    intro h3
    rcases a with a | a | a
    · omega
    · rw [cmpL_eq a] at h3; omega
    · rcases b with b | b | b
      · omega
      · rw [← cmpL_eq b] at h3; omega
      · have := cmpL_trans (x := nums z.name.data.toList) (y := nums y.name.data.toList) (z := nums x.name.data.toList) (by omega) (by omega)
        have := cmpL_neg (nums x.name.data.toList) (nums z.name.data.toList)
        omega
set_option maxHeartbeats 1000000 in
theorem closure (x y : Cl) (W : World) : Calls Tryd.prog 26 #[x.val, y.val] W fun e w' => e = .returned (.int .i64 (cmpS x.name y.name)) ∧ ∃ q os', w' = grow (W.drewN q) os' := by
  have C := Lib.hid fun W => compS W x.name y.name
  generalize cmpS x.name y.name = r at C ⊢
  unfold Cl.val
  go_enter Tryd.func26, Tryd.ntmps26
  go_wp2_with fail
  refine (C.out _).mono ?_
  rintro e w1 ⟨rfl, rfl⟩
  go_wp2_with fail
  go_ret
  exact ⟨rfl, 0, _, by rw [alloc_eq_grow, alloc_eq_grow, grow_grow]; rfl⟩
abbrev CmpLaysH : Prop := ∀ (blk off size : Nat) (W : World), CmpLays Tryd.prog 26 #[] Cl.cs 6 (fun x y : Cl => cmpS x.name y.name) blk off size W
theorem sorts : SortsC := by
  intro w base v l h hl
  have hlay : CmpLaysH := fun blk off size W m os dk _ x y => closure x y _
  rcases h.2 with ⟨rfl, h0⟩ | ⟨g, cap, cur, rfl, hbg, hg, hn, hcap, hcs, htk⟩
  · obtain rfl : l = [] := List.eq_nil_of_length_eq_zero h0
    have hS := AnyF.slices_SortFunc_none (P := Tryd.prog) (ρ := Srt.lays_ren) { Srt.lays with } none 0 (.func (.func 26) #[] #[]) w
    change Calls Tryd.prog 25 _ _ _ at hS
    refine hS.mono ?_
    rintro e w' ⟨rfl, rfl⟩
    exact ⟨rfl, [], List.Perm.refl _, List.Pairwise.nil, OwnC.nil _ _, Chg.refl _ _⟩
  · have eg : ∀ args W, (callFunc 26 args).run Tryd.prog W = .ok (.enter 26 args) W := enters_of Tryd.func26 (by kernel_rfl) rfl
    have hH : HoldsK Cl.cs 6 w g 0 l.toArray := by
      unfold HoldsK
      rw [flat_rowC]
      exact Srt.holdsV hg (by rw [rowC_length]; exact htk)
    have hS := AnyQ.slices_SortFunc Srt.lays 6 (fun W => by kernel_rfl) (fun W => by kernel_rfl) Cl.cs Cl.cs_len Cl.cs_one (fun x y : Cl => cmpS x.name y.name) cmpWeak 26 #[] g 0 cap l.toArray w eg (hlay _ _ _ _) hH (Array.getElem?_eq_some_iff.1 hg).1 (by simp; omega)
    change Calls Tryd.prog 25 _ _ _ at hS
    rw [List.size_toArray] at hS
    refine hS.mono ?_
    rintro e w' ⟨rfl, d', n, os, hp, hs, rfl⟩
    have hd : d'.size = l.length := by simpa using hp.1
    have hpm : d'.toList.Perm l := by
      have := hp.2.2
      simp [← hd] at this
      rwa [hd, List.take_length] at this
    refine ⟨rfl, d'.toList, hpm, ?_, ?_, ?_⟩
    · rw [List.pairwise_iff_getElem]
      intro i j hi hj hij
      have := hs i j (by omega) hij (by simpa [hd] using hj)
      rw [ltC, decide_eq_false_iff_not] at this
      rw [getElem!_pos d' i (by simpa using hi), getElem!_pos d' j (by simpa using hj)] at this
      simpa using this
    · have hl2 : d'.toList.length = l.length := by simpa using hd
      have e1 : sortWorldK Cl.cs 6 w g 0 n d' os = grow (putRow id (Sort.ahead w n) g 0 (rowC d'.toList).toArray) os := by
        unfold sortWorldK putRowK
        rw [← flat_rowC]
      unfold OwnC
      rw [e1, hl2]
      refine ⟨by rw [rowC_length, hl2], .inr ⟨g, cap, _, rfl, hbg, Srt.heapV _ hg, hn, hcap, by simp [putCells, hcs], ?_⟩⟩
      have := Srt.takeV cur (rowC d'.toList) (by rw [rowC_length, hl2, hcs]; omega)
      rwa [rowC_length, hl2] at this
    · unfold sortWorldK putRowK
      exact Chg.grown (Chg.refl _ w) (Srt.grownV _) fun k hk _ => hk
end Lat
end Go.Proofs.YtgnlbekagdffoaaDoor
