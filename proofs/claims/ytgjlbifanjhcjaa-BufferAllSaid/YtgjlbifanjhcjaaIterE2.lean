/-
  One event stored over another in a row of the call's own; a row's tail cleared (no condition beyond the sizes).
-/
import Derived.Test.YtgjlbifanjhcjaaIterE
namespace Go.Proofs.Ytgjlbifanjhcjaa
open Go.ChangeShapes Go.WideShapes Go.RowKit Go.Deep
namespace IterE
open Buf
theorem rowE_set (l : List Ev) (a : Nat) (ha : a < l.length) (x : Ev) : rowE (l.set a x) = (rowE l).take (a * 27) ++ x.cs ++ (rowE l).drop (a * 27 + 27) := by
  induction l generalizing a with
  | nil => simp at ha
  | cons e l ih =>
    cases a with
    | zero =>
      rw [List.set_cons_zero]
      unfold rowE
      rw [List.flatMap_cons, List.flatMap_cons, Nat.zero_mul, List.take_zero, List.nil_append, Nat.zero_add, List.drop_append, e.cs_len, List.drop_of_length_le (by rw [e.cs_len]; omega), Nat.sub_self, List.drop_zero, List.nil_append]
    | succ a =>
      have ih := ih a (by simpa using ha)
      rw [List.set_cons_succ]
      unfold rowE at ih ⊢
      have t1 : e.cs.take ((a + 1) * 27) = e.cs := List.take_of_length_le (by rw [e.cs_len]; omega)
      have t2 : e.cs.drop ((a + 1) * 27 + 27) = [] := List.drop_of_length_le (by rw [e.cs_len]; omega)
      rw [List.flatMap_cons, List.flatMap_cons, ih, List.take_append, e.cs_len, t1, List.drop_append, e.cs_len, t2, show (a + 1) * 27 - 27 = a * 27 by omega, show (a + 1) * 27 + 27 - 27 = a * 27 + 27 by omega]
      simp
theorem OwnE.stored {w : World} {base g c : Nat} {r : List Ev} (h : OwnE w base (.slice (some ⟨g, 0, none⟩) r.length c) r) {a : Nat} (ha : a < r.length) (x : Ev) :
    OwnE (w.setCells g (a * 27) x.cs) base (.slice (some ⟨g, 0, none⟩) r.length c) (r.set a x) ∧ (StoreRow 35 ⟨g, a * 27, none⟩ x.val).run Try.prog w = .ok () (w.setCells g (a * 27) x.cs) := by
  rcases h.2 with ⟨h0, _⟩ | ⟨g', cap, cur, hv, hb, hg, h1, h2, h3, h4⟩
  · cases h0
  · injection hv with hv1 hv2 hv3
    injection hv1 with hv1
    injection hv1 with hv1 _ _
    subst hv1 hv3
    have hblk : Blk w g 35 cur.toList.toArray := by unfold Blk; rw [Array.toArray_toList]; exact hg
    have hcs : cur.toList.length = c * 27 := by rw [Array.length_toList]; omega
    have hb2 := Blk.setCells x.cs (a * 27) w cur.toList hblk (by rw [x.cs_len, hcs]; omega)
    refine ⟨⟨by rw [rowE_length], .inr ⟨g, c, _, by rw [List.length_set], hb, hb2, by rw [List.length_set]; omega, h2, ?_, ?_⟩⟩, ?_⟩
    · rw [List.size_toArray, List.length_append, List.length_append, List.length_take, List.length_drop, x.cs_len, hcs]; omega
    · rw [List.length_set, rowE_set r a ha x, ← h4, x.cs_len]
      simp only [List.take_append, List.take_take, List.length_append, List.length_take, List.length_drop, x.cs_len, hcs, List.drop_take]
      rw [show min (a * 27) (c * 27) = a * 27 by omega, show min (r.length * 27) (a * 27) = a * 27 by omega, show min (a * 27) (r.length * 27) = a * 27 by omega, List.take_of_length_le (l := x.cs) (by rw [x.cs_len]; omega), show r.length * 27 - (a * 27 + 27) = r.length * 27 - (a * 27 + 27) from rfl]
    · exact run_StoreRow (P := Try.prog) (t := 35) (n := 27) (by kernel_rfl) x.cs_len x.cs_one hblk (by rw [hcs]; omega)
theorem OwnE.storeC {w : World} {base g c : Nat} {r : List Ev} (h : OwnE w base (.slice (some ⟨g, 0, none⟩) r.length c) r) {a : Nat} (ha : a < r.length) (x : Ev) (X : Array Value) (hX : x.cs.toArray = X) :
    (storeCells ⟨g, a * 27, none⟩ X.toList).run Try.prog w = .ok () (w.setCells g (a * 27) x.cs) := by
  subst hX
  rcases h.2 with ⟨h0, _⟩ | ⟨g', cap, cur, hv, hb, hg, h1, h2, h3, h4⟩
  · cases h0
  · injection hv with hv1 hv2 hv3
    injection hv1 with hv1
    injection hv1 with hv1 _ _
    subst hv1 hv3
    have hblk : Blk w g 35 cur.toList.toArray := by unfold Blk; rw [Array.toArray_toList]; exact hg
    have hcs : cur.toList.length = c * 27 := by rw [Array.length_toList]; omega
    have := run_storeCells_cells (P := Try.prog) g (a * 27) x.cs 0 w (fun j hj => by
      rw [x.cs_len] at hj
      rw [hblk.cell, List.getElem?_toArray, List.getElem?_eq_getElem (by omega)]
      rfl) (fun j _ => hblk.frozen _) x.cs_one
    simpa using this
theorem run_clear_many {P : Program} (w : World) (t e ty : TypeId) (z : Value) (ht : P.underlying t = some (.slice e)) (hv : ∀ w, (zeroValue e).run P w = .ok z w) (b o n c : Nat) (hn : 0 < n) (zs : List Value) (hz : (Builtin.zeroCells z.cells n).toList = zs) (h1 : ∀ u ∈ zs, u.oneCell' = true)
    (hc : ∀ j, j < zs.length → (w.cell? ⟨b, o + j, none⟩).isSome = true) (hf : ∀ j, j < zs.length → w.frozen? ⟨b, o + j, none⟩ = false) :
    (Builtin.clear_ #[t] ty #[.slice (some ⟨b, o, none⟩) n c]).run P w = .ok (.tuple #[]) (w.setCells b o zs) := by
  have hst := run_storeCells_cells (P := P) b o zs 0 w (by simpa using hc) (by simpa using hf) h1
  simp only [Nat.add_zero] at hst
  obtain ⟨q, rfl⟩ : ∃ q, n = q + 1 := ⟨n - 1, by omega⟩
  simp [Builtin.clear_, run_underlying ht, hv, hz, hst]
end IterE
end Go.Proofs.Ytgjlbifanjhcjaa
