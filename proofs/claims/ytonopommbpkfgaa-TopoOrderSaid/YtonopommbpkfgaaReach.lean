/-
  topo's Reach: its blocks (no condition beyond the sizes).
-/
import Derived.Test.YtonopommbpkfgaaLeft
import Derived.Test.YtonopommbpkfgaaQue
import Derived.Test.YtonopommbpkfgaaTopoPlain
namespace Go.Proofs.Ytonopommbpkfgaa
open Go.ChangeShapes Go.WideShapes Go.RowKit Go.Deep Heap
def bools (l : List Bool) : List Value := l.map Value.bool
theorem bools_get (l : List Bool) (k : Nat) : (bools l)[k]? = l[k]?.map Value.bool := by simp [bools]
theorem bools_set (l : List Bool) (k : Nat) (c : Bool) : (bools l).set k (.bool c) = bools (l.set k c) := by simp [bools, List.map_set]
theorem boolInfo : (Try.prog.info? 4).map (fun i => (i.zero, i.size, i.bytes)) = some (some (.bool false), 1, 1) := by kernel_rfl
theorem make_bool (m : Nat) (hm : m ≤ 17592186044416) (W : World) : (Instr.makeSlice 31 (.int .i64 (m : Int)) (.int .i64 (m : Int))).run Try.prog W = .ok (.slice (some ⟨W.heap.size, 0, none⟩) m m) (W.alloc (.cells (bools (List.replicate m false)).toArray 4)) := by
  obtain ⟨i, hi, hz0, hz1, hz2⟩ := info_parts boolInfo
  have := run_make (P := Try.prog) W 31 4 i _ Try.underlying31 hi hz0 .i64 .i64 m m (by omega) (Int.le_refl _) (by rw [hz2]; omega) (by omega)
  rw [this, hz1, Int.toNat_natCast, Nat.mul_one]
  congr 3
  rw [show bools (List.replicate m false) = List.replicate m (.bool false) by simp [bools], ← toList_madeCells_one]
  rfl
theorem bool_cell {w : World} {g : Nat} {B : List Bool} (h : Blk w g 4 (bools B).toArray) {k : Nat} (hk : k < B.length) : w.cell? ⟨g, k, none⟩ = some (.bool (B.getD k false)) := by
  rw [h.cell, List.getElem?_toArray, bools_get, List.getElem?_eq_getElem hk]
  simp [List.getD_eq_getElem?_getD, List.getElem?_eq_getElem hk]
namespace Topo
/-- the web, what is seen, and what is to do -/
structure RS (w : World) (lo b gn ga n : Nat) (rv : Nat → Value) (N : Nat → List Int) (A : List Int) (gs : Nat) (B : List Bool) (vt : Value) (todo : List Int) : Prop where
  web : WAt w lo b gn ga n rv N A
  seen : Blk w gs 4 (bools B).toArray
  low : lo ≤ gs
  que : Que w lo vt todo
  q1 : vt.ownBlock ≠ some ga
  q2 : ∀ k g, k < n → (rv k).ownBlock = some g → vt.ownBlock ≠ some g
section
variable {w w' : World} {lo b gn ga n : Nat} {rv : Nat → Value} {N : Nat → List Int} {A : List Int} {gs : Nat} {B : List Bool} {vt : Value} {todo : List Int} {S : Nat → Prop}
theorem RS.new (h : RS w lo b gn ga n rv N A gs B vt todo) (hc : New w w') : RS w' lo b gn ga n rv N A gs B vt todo := ⟨h.web.new hc, h.seen.chg hc id, h.low, h.que.chg hc fun _ _ => id, h.q1, h.q2⟩
theorem RS.mark' (h : RS w lo b gn ga n rv N A gs B vt todo) (k : Nat) :
    RS (w.setCell ⟨gs, k, none⟩ (.bool true)) lo b gn ga n rv N A gs (B.set k true) vt todo ∧ Chg (fun g => g = gs) w (w.setCell ⟨gs, k, none⟩ (.bool true)) := by
  have cs := (Chg.refl (fun g => g = gs) w).setCell (p := ⟨gs, k, none⟩) (fun _ => rfl) (.bool true)
  have hs := h.seen.set_ k (.bool true)
  rw [setIfInBounds_toArray, bools_set] at hs
  exact ⟨⟨h.web.chg cs (h.web.blk.ne_ h.seen (by decide)) (h.web.nxt.ne_ h.seen (by decide)) (fun e => own_ne h.web.ahd h.seen (by decide) (by rw [e]; rfl)) fun i g hi e e2 => own_ne (h.web.rows i hi) h.seen (by decide) (by rw [e, e2]),
    hs, h.low, h.que.chg cs fun k hk e => h.que.ne h.seen (by decide) (by rw [hk, e]), h.q1, h.q2⟩, cs⟩
theorem RS.que' (h : RS w lo b gn ga n rv N A gs B vt todo) {vt' : Value} {todo' : List Int} (hq : Que w' lo vt' todo') (hc : Chg (fun k => vt.ownBlock = some k) w w') (ha : vt'.ownBlock = vt.ownBlock ∨ ∃ k, vt'.ownBlock = some k ∧ w.heap.size ≤ k) :
    RS w' lo b gn ga n rv N A gs B vt' todo' := by
  have key : ∀ g, g < w.heap.size → vt.ownBlock ≠ some g → vt'.ownBlock ≠ some g := fun g hlt hne e => by
    rcases ha with e2 | ⟨g2, e2, h2⟩
    · exact hne (by rw [← e2]; exact e)
    · rw [e2] at e
      injection e with e
      omega
  exact ⟨h.web.chg hc (h.que.ne h.web.blk (by decide)) (h.que.ne h.web.nxt (by decide)) h.q1 fun k g hk e => h.q2 k g hk e, h.seen.chg hc (h.que.ne h.seen (by decide)), h.low, hq, key _ (own_lt h.web.ahd rfl).2 h.q1, fun k g hk e => key _ (own_lt (h.web.rows k hk) e).2 (h.q2 k g hk e)⟩
/-- how many are not seen -/
def unW (w : World) (gs n : Nat) : Nat := (List.range n).countP fun j => match w.cell? ⟨gs, j, none⟩ with | some (.bool true) => false | _ => true
theorem unW_eq (h : Blk w gs 4 (bools B).toArray) (hB : B.length = n) : unW w gs n = (List.range n).countP fun j => !B.getD j false := by
  unfold unW
  refine List.countP_congr fun j hj => ?_
  rw [bool_cell h (by rw [hB]; exact List.mem_range.1 hj)]
  cases B.getD j false <;> simp
end
end Topo
end Go.Proofs.Ytonopommbpkfgaa
