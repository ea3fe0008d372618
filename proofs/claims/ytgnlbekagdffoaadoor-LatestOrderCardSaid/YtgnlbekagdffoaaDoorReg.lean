/-
  Registers of cells: New, Put, Get: what they compute (no condition but on the texts' size and that MaxLen holds a number).
-/
import Derived.Test.YtgnlbekagdffoaaDoorLat2
import Derived.Test.YtgnlbekagdffoaaDoorMapR
namespace Go.Proofs.YtgnlbekagdffoaaDoor
set_option linter.unusedSimpArgs false
set_option linter.unusedVariables false
open Go.ChangeShapes Go.WideShapes Go.RowKit Go.Deep
namespace Lat
theorem loadOnly0 (p : Value) : Instr.loadAt 29 p = LoadRowV 29 p := rfl
attribute [local go_sem ↓] loadOnly0
theorem loadOnly1 (p : Value) : Instr.loadAt 31 p = LoadRowV 31 p := rfl
attribute [local go_sem ↓] loadOnly1
theorem loadOnly2 (p : Value) : Instr.loadAt 33 p = LoadRowV 33 p := rfl
attribute [local go_sem ↓] loadOnly2
open MapR (MapAt KeyOk)
theorem keyS : KeyOk Tryd.prog 9 Value.string := by
  refine KeyOk.of_now (kind := .string) Tryd.underlying9 (fun b k w => ?_) (fun a b => ?_) (fun k => ?_)
  · unfold Instr.checkKey
    rw [Sem.run_bind, run_underlying Tryd.underlying9 w]
    rfl
  · show some (a == b) = some (decide (a = b))
    congr 1
    rw [Bool.eq_iff_iff, MapKept.bytes_beq, decide_eq_true_iff]
  · show (k == k) = true
    rw [MapKept.bytes_beq]
def zeroC : Value := .agg #[.string ⟨#[]⟩, .int .i64 0, .int .i64 0, .int .i64 0, .int .i64 0, .string ⟨#[]⟩]
theorem zeroCell (W : World) : (zeroValue 33).run Tryd.prog W = .ok zeroC W := by kernel_rfl
def valOf (M : St) (x : ByteArray) : Value := match M x with | some c => c.val | none => zeroC
/-- block b is a register that holds M -/
structure At (w : World) (lo b m : Nat) (M : St) : Prop where
  blk : Blk w b 50 #[.map (some m)]
  map : ∃ ks, MapAt Value.string w m ks (valOf M) ∧ ∀ x, x ∈ ks ↔ (M x).isSome = true
  inv : ∀ x c, M x = some c → c.name = x ∧ c.right = true
  low : lo ≤ b ∧ lo ≤ m
section
variable {w w' : World} {lo b m : Nat} {M : St} {S : Nat → Prop}
theorem At.chg (h : At w lo b m M) (hc : Chg S w w') (hb : ¬ S b) (hm : ¬ S m) : At w' lo b m M := by
  obtain ⟨ks, h1, h2⟩ := h.map
  exact ⟨h.blk.chg hc hb, ⟨ks, h1.chg hc hm, h2⟩, h.inv, h.low⟩
theorem At.new (h : At w lo b m M) (hc : New w w') : At w' lo b m M := h.chg hc id id
theorem At.ne (h : At w lo b m M) : m ≠ b := by
  obtain ⟨ks, h1, _⟩ := h.map
  exact h1.ne_blk h.blk
theorem At.look (h : At w lo b m M) (x : ByteArray) : (Instr.lookup 27 (.map (some m)) (.string x) true).run Tryd.prog w = .ok (.tuple #[valOf M x, .bool (M x).isSome]) w := by
  obtain ⟨ks, h1, h2⟩ := h.map
  by_cases hx : x ∈ ks
  · have := (h2 x).1 hx
    rw [h1.look_in keyS Tryd.underlying27 zeroCell hx, this]
  · have : (M x).isSome = false := by
      rw [Bool.eq_false_iff]
      exact fun e => hx ((h2 x).2 e)
    rw [h1.look_out keyS Tryd.underlying27 zeroCell hx, this]
    unfold valOf
    cases hq : M x with
    | none => rfl
    | some c => rw [hq] at this; cases this
theorem valOf_upd (M : St) (c : Cl) : valOf (upd M c.name c) = MapR.upd (valOf M) c.name c.val := by
  funext x
  unfold valOf upd MapR.upd
  by_cases e : x = c.name
  · rw [if_pos e, if_pos e]
  · rw [if_neg e, if_neg e]
theorem At.store (h : At w lo b m M) (c : Cl) (hr : c.right = true) : ∃ w', (Instr.mapUpdate 27 (.map (some m)) (.string c.name) c.val).run Tryd.prog w = .ok () w' ∧ At w' lo b m (upd M c.name c) ∧ Chg (fun k => k = m) w w' := by
  obtain ⟨ks, h1, h2⟩ := h.map
  obtain ⟨w', hrun, h3, hc⟩ := h1.store keyS Tryd.underlying27 c.name c.val
  refine ⟨w', hrun, ⟨h.blk.chg hc (Ne.symm h.ne), ⟨_, by rw [valOf_upd]; exact h3, fun x => ?_⟩, fun x d hd => ?_, h.low⟩, hc⟩
  · unfold upd
    by_cases e : x = c.name
    · subst e
      rw [if_pos rfl]
      by_cases hx : c.name ∈ ks
      · rw [if_pos hx]; simp [hx]
      · rw [if_neg hx]; simp
    · rw [if_neg e, ← h2]
      by_cases hx : c.name ∈ ks
      · rw [if_pos hx]
      · rw [if_neg hx]; simp [e]
  · unfold upd at hd
    split at hd
    · next e =>
      injection hd with hd
      subst hd
      exact ⟨e.symm, hr⟩
    · exact h.inv x d hd
end
theorem new_ (w : World) : Calls Tryd.prog 9 #[] w fun e w' => e = .returned (.pointer (some ⟨w.heap.size + 1, 0, none⟩)) ∧ At w' w.heap.size (w.heap.size + 1) w.heap.size none_ ∧ New w w' := by
  have hmm := @run_makeMap Tryd.prog
  have h1 := MapAt.made (κ := ByteArray) Value.string w (valOf none_)
  have H := Lib.hid h1
  clear h1
  go_enter Tryd.func9, Tryd.ntmps9
  go_wp2_with fail
  go_ret
  exact ⟨rfl, ⟨Blk.new1 _ _ _ _, ⟨[], H.out.chg ((Chg.refl (fun _ => False) _).alloc _) id, fun x => by simp [none_]⟩, fun x c h => by simp [none_] at h, by omega, by omega⟩, ((Chg.refl _ w).alloc _).alloc _⟩
end Lat
end Go.Proofs.YtgnlbekagdffoaaDoor
