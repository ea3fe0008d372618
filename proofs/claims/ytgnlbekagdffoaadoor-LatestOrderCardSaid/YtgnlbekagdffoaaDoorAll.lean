/-
  Register.All: what it computes, if the sort sorts.
-/
import Derived.Test.YtgnlbekagdffoaaDoorCells
namespace Go.Proofs.YtgnlbekagdffoaaDoor
set_option linter.unusedSimpArgs false
set_option linter.unusedVariables false
open Go.ChangeShapes Go.WideShapes Go.RowKit Go.Deep
namespace Lat
open MapR (MapAt KeyOk Rng)
attribute [local go_sem ↓] loadOnly0 loadOnly1 loadOnly2
local instance : LawfulBEq ByteArray where
  eq_of_beq h := (MapKept.bytes_beq ..).1 h
  rfl := (MapKept.bytes_beq ..).2 rfl
/-- no more than N count -/
def Few (M : St) (N : Nat) : Prop := ∀ L : List ByteArray, L.Nodup → (∀ x ∈ L, (M x).isSome = true) → L.length ≤ N
theorem Few.none : Few none_ 0 := fun L _ h => by
  cases L with
  | nil => simp
  | cons x L => have := h x (List.mem_cons_self ..); simp [none_] at this
theorem Few.put {M : St} {N : Nat} (h : Few M N) (c : Cl) : Few (put M c) (N + 1) := by
  intro L hd hL
  have h1 := h (L.erase c.name) (hd.erase _) (fun x hx => by
    have hx2 : x ∈ L := List.mem_of_mem_erase hx
    have hne : x ≠ c.name := fun e => by rw [e] at hx; exact absurd hx (List.Nodup.not_mem_erase hd)
    have := hL x hx2
    unfold Lat.put at this
    split at this
    · unfold upd at this
      rwa [if_neg hne] at this
    · exact this)
  have := List.length_erase_le (a := c.name) (l := L)
  have h3 : L.length ≤ (L.erase c.name).length + 1 := by
    by_cases hm : c.name ∈ L
    · rw [List.length_erase_of_mem hm]; omega
    · rw [List.erase_of_not_mem hm]; omega
  omega
theorem strInj : ∀ x y : ByteArray, Value.string x = Value.string y → x = y := fun x y h => by injection h
theorem valOf_some {M : St} {x : ByteArray} {c : Cl} (h : M x = some c) : valOf M x = c.val := by unfold valOf; rw [h]
theorem length_fm {M : St} : ∀ (l : List ByteArray), (∀ x ∈ l, (M x).isSome = true) → (l.filterMap M).length = l.length
  | [], _ => rfl
  | x :: l, h => by
    obtain ⟨c, hc⟩ := Option.isSome_iff_exists.1 (h x (List.mem_cons_self ..))
    rw [List.filterMap_cons_some hc, List.length_cons, length_fm l fun y hy => h y (List.mem_cons_of_mem _ hy), List.length_cons]
theorem allOf_fm {M : St} {l : List ByteArray} {L : List Cl} (hinv : ∀ x c, M x = some c → c.name = x) (hl : ∀ x, x ∈ l ↔ (M x).isSome = true) (nd : l.Nodup) (hp : L.Perm (l.filterMap M)) (hs : L.Pairwise fun a b => nameC b a ≠ -1) : AllOf M L := by
  have hmem : ∀ c, c ∈ L ↔ M c.name = some c := fun c => by
    rw [hp.mem_iff, List.mem_filterMap]
    constructor
    · rintro ⟨x, _, hx⟩
      rw [hinv x c hx]
      exact hx
    · exact fun h => ⟨c.name, (hl _).2 (by rw [h]; rfl), h⟩
  refine ⟨hmem, ?_⟩
  have nd2 : (l.filterMap M).Pairwise fun a b => a.name ≠ b.name := by
    rw [List.pairwise_filterMap]
    exact nd.imp fun {x y} hxy a ha c hc e => hxy (by rw [← hinv x a ha, ← hinv y c hc, e])
  have nd3 : L.Pairwise fun a b => a.name ≠ b.name := (hp.pairwise_iff fun {a b} h e => h e.symm).2 nd2
  refine (hs.and nd3).imp fun {a b} ⟨h1, h2⟩ => ?_
  have h3 := cmpL_neg (nums a.name.data.toList) (nums b.name.data.toList)
  rcases cmpL_range (nums a.name.data.toList) (nums b.name.data.toList) with h | h | h
  · exact h
  · exact (h2 (name_inj (cmpL_eq h))).elim
  · exact (h1 (by unfold nameC; omega)).elim
set_option maxHeartbeats 4000000 in
set_option maxRecDepth 20000 in
theorem all (hS : SortsC) (w : World) (lo b m : Nat) (M : St) (h : At w lo b m M) (N : Nat) (hF : Few M N) (hN : N ≤ 1000) :
    Calls Tryd.prog 13 #[.pointer (some ⟨b, 0, none⟩)] w fun e w' => ∃ u L, e = .returned u ∧ OwnC w' w.heap.size u L ∧ AllOf M L ∧ L.length ≤ N ∧ New w w' := by
  obtain ⟨ks, hm, hks⟩ := h.map
  have hc := h.blk.cell 0
  simp only [List.getElem?_toArray, List.getElem?_cons_zero] at hc
  obtain ⟨w1, hrun, hR, hn1, hs1⟩ := Rng.start (P := Tryd.prog) hm Tryd.underlying27
  have hinv := h.inv
  have hml := hm.lt
  have hlen : ∀ l : List ByteArray, l.Nodup → (∀ x ∈ l, x ∈ ks) → (l.filterMap M).length ≤ N := fun l nd hl => by
    rw [length_fm l fun x hx => (hks x).1 (hl x hx)]
    exact hF l nd fun x hx => (hks x).1 (hl x hx)
  have H := Lib.hid (And.intro hR (And.intro hn1 (And.intro hs1 (And.intro hml (And.intro hlen (And.intro hinv hks))))))
  obtain ⟨g, hg⟩ : ∃ g, w.heap.size = g := ⟨_, rfl⟩
  have HS := Lib.hid hS
  have HG := Lib.hid hg
  rw [hg] at hrun
  clear h hm hR hn1 hs1 hml hlen hinv hks hF hS hg
  go_enter Tryd.func13, Tryd.ntmps13
  go_wp2_with fail
  go_loopw [3] (fun u wr => ∃ done : List ByteArray, Rng Value.string wr m g ks (valOf M) done ∧ OwnC wr (g + 1) u (done.filterMap M) ∧ New w wr ∧ g + 1 ≤ wr.heap.size) (fun _ wr => MapR.left wr m g)
  case atStart => exact ⟨[], by rw [← HG.out]; exact H.out.1, OwnC.nil _ _, H.out.2.1, by rw [← HG.out, H.out.2.2.1]; exact Nat.le_refl _⟩
  case round =>
    obtain ⟨done, hR, ho, nw, hsz⟩ := hrel
    rcases hR.next (P := Tryd.prog) strInj with ⟨hall, hnx⟩ | ⟨k, hk, hkd, w2, hnx, hR2, hc2, hs2, hl2, hen⟩
    · have hp : (done.filterMap M).length ≤ N := H.out.2.2.2.2.1 done hR.dn hR.sub
      have C := Lib.hid (HS.out _ _ _ _ (own_chg ho (Chg.refl (fun _ => False) wr) fun _ _ => id) (by omega))
      have HD := Lib.hid (And.intro hR (And.intro hall (And.intro ho (And.intro nw hp))))
      clear hR hall ho nw hc hrun
      go_wp2_with fail
      refine C.out.mono ?_
      rintro e w3 ⟨rfl, L, hpm, hst, ho3, hc3⟩
      have hA : AllOf M L := allOf_fm (fun x c hx => (H.out.2.2.2.2.2.1 x c hx).1) (fun x => ⟨fun hx => (H.out.2.2.2.2.2.2 x).1 (HD.out.1.sub x hx), fun hx => HD.out.2.1 x ((H.out.2.2.2.2.2.2 x).2 hx)⟩) HD.out.1.dn hpm hst
      have hn3 : New w w3 := HD.out.2.2.2.1.trans hc3 fun i hi e => by
        have := (own_lt HD.out.2.2.1 e).1
        have := HG.out
        omega
      have HE := Lib.hid (And.intro (own_mono (base' := w.heap.size) ho3 (by have := HG.out; omega)) (And.intro hA (And.intro (show L.length ≤ N by rw [hpm.length_eq]; exact hp) hn3)))
      clear hA hn3 ho3 hc3 hpm hst C hnx
      go_wp2_with fail
      go_ret
      exact ⟨_, L, rfl, HE.out⟩
    · obtain ⟨c, hMc⟩ := Option.isSome_iff_exists.1 ((H.out.2.2.2.2.2.2 k).1 hk)
      obtain ⟨rfl, hcr⟩ := H.out.2.2.2.2.2.1 k c hMc
      rw [valOf_some hMc] at hnx hen
      have hld := (blk_cell (Blk.new w2 33 #[.string c.name, .int .i64 c.t, .int .i64 c.r, .int .i64 c.k, .int .i64 c.n, .string c.txt])).2.2.1
      unfold Cl.val at hnx hen hld
      have hlen : (done.filterMap M).length ≤ N := H.out.2.2.2.2.1 done hR.dn hR.sub
      have hfm : (done ++ [c.name]).filterMap M = done.filterMap M ++ [c] := by rw [List.filterMap_append, List.filterMap_cons_some hMc]; rfl
      have hoff : ¬ (u3.ownBlock = some g) := fun e => by have := (own_lt ho e).1; omega
      have hofm : ¬ (u3.ownBlock = some m) := fun e => by have := (own_lt ho e).1; have := H.out.2.2.2.1; have := HG.out; omega
      have hmg : ¬ (m = g) := fun e => by have := H.out.2.2.2.1; have := HG.out; omega
      have o2 : OwnC w2 (g + 1) u3 (done.filterMap M) := own_chg ho hc2 fun j hj e => hoff (e ▸ hj)
      have n2 : New w w2 := nw.trans hc2 fun i hi e => by have := HG.out; omega
      have HD := Lib.hid (And.intro o2 (And.intro n2 (And.intro hR2 (And.intro hl2 (And.intro hlen (And.intro hfm (And.intro hoff (And.intro hofm hmg))))))))
      have hen2 := hen w2 rfl rfl
      have hmw : m < w2.heap.size ∧ g < w2.heap.size := ⟨hR2.lt.1, hR2.lt.2.1⟩
      have HW := Lib.hid (And.intro hmw hs2)
      have hsz2 : g + 1 ≤ w2.heap.size := by omega
      clear hR ho nw hR2 n2 hc2 hl2 hMc hc hrun o2 hlen hfm hoff hofm hmg hcr hkd hk hen hmw hs2 hsz
      go_wp2_with (at_builtin; refine stop ?_)
      delta Stop
      have HRD : Reads ((w2.alloc (.cells #[.string c.name, .int .i64 c.t, .int .i64 c.r, .int .i64 c.k, .int .i64 c.n, .string c.txt] 33)).alloc (.cells #[.string c.name, .int .i64 c.t, .int .i64 c.r, .int .i64 c.k, .int .i64 c.n, .string c.txt] 33)) (fun b => b = w2.heap.size + 1) 6 (some ⟨w2.heap.size + 1, 0, none⟩) 1 (rowC [c]) := by
        have := Reads.of_blk (n := 1) (size := 6) (Blk.new1 w2 (.cells #[.string c.name, .int .i64 c.t, .int .i64 c.r, .int .i64 c.k, .int .i64 c.n, .string c.txt] 33) 33 #[.string c.name, .int .i64 c.t, .int .i64 c.r, .int .i64 c.k, .int .i64 c.n, .string c.txt]) rfl
        simpa [rowC, Cl.cs] using this
      refine append_cl _ rfl _ _ rfl (g + 1) _ (done.filterMap M) rfl (World.ownsRow.alloc (World.ownsRow.alloc HD.out.1 _) _) _ _ _ _ [c] rfl HRD (by have := HD.out.2.2.2.2.1; omega) (by simp; omega) ?_
      intro v6 w6 o6 g6 a6
      rw [← HD.out.2.2.2.2.2.1] at o6
      have c6 : Chg (fun k => u3.ownBlock = some k) w2 w6 := Chg.grown (((Chg.refl _ w2).alloc _).alloc _) g6 fun k hk _ => hk
      have n6 : New w w6 := HD.out.2.1.trans c6 fun i hi e => by have := (own_lt HD.out.1 e).1; have := HG.out; omega
      have hR6 := HD.out.2.2.1.chg c6 HD.out.2.2.2.2.2.2.2.1 HD.out.2.2.2.2.2.2.1
      have hl6 : MapR.left w6 m g < MapR.left wr m g := by
        rw [MapR.left_chg c6 HD.out.2.2.2.2.2.2.2.1 HD.out.2.2.2.2.2.2.1 HW.out.1.1 HW.out.1.2]
        exact HD.out.2.2.2.1
      have HE := Lib.hid (And.intro hR6 (And.intro o6 (And.intro n6 (And.intro (show g + 1 ≤ w6.heap.size by have := c6.size; omega) hl6))))
      clear hR6 o6 n6 c6 hl6 g6 a6 HRD hld hnx hen2
      go_wp2_with fail
      go_roundw
      case rel => exact ⟨_, HE.out.1, HE.out.2.1, HE.out.2.2.1, HE.out.2.2.2.1⟩
      case measure => exact HE.out.2.2.2.2
end Lat
end Go.Proofs.YtgnlbekagdffoaaDoor
