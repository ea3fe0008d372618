/-
  The law's few, walked.
-/
import Derived.Test.YtgnlbekagdffoaaDoorLawFix
namespace Go.Proofs.YtgnlbekagdffoaaDoor
set_option linter.unusedSimpArgs false
set_option linter.unusedVariables false
open Go.ChangeShapes Go.WideShapes Go.RowKit Go.Deep
namespace Lat
attribute [local go_sem ↓] loadOnly0 loadOnly1 loadOnly2
def smallB (c : Cl) : Bool := decide (c.name.size + c.txt.size ≤ 200)
def fewB (l : List Cl) : Bool := l.all smallB && decide (l.length ≤ 80)
set_option maxHeartbeats 4000000 in
set_option maxRecDepth 20000 in
theorem few (w : World) (A : Option Addr) (n cp : Nat) (l : List Cl) (hr : Reads w (fun b => b < w.heap.size) 6 A n (rowC l)) (hn : n ≤ 140737488351232) (hs : ∀ c ∈ l, c.name.size ≤ 140737488351232 ∧ c.txt.size ≤ 140737488351232) :
    Calls Tryd.prog 8 #[.slice A n cp] w fun e w' => e = .returned (.bool (fewB l)) ∧ New w w' := by
  have hl : l.length = n := by have := hr.len; rw [rowC_length] at this; omega
  have HR := Lib.hid (And.intro hr (And.intro hl hs))
  clear hr hl hs
  go_enter Tryd.func8, Tryd.ntmps8
  go_wp2_with fail
  go_loopw [7] (fun i wr => ∃ k : Nat, k ≤ n ∧ i = .int .i64 k ∧ (∀ c ∈ l.take k, smallB c = true) ∧ New w wr) (fun i _ => n - (intOf i).toNat)
  case atStart => exact ⟨0, by omega, rfl, fun x hx => by simp at hx, Chg.refl _ _⟩
  case round =>
    obtain ⟨k, hk, rfl, hp, nw⟩ := hrel
    by_cases hlt : k < n
    · obtain ⟨c, hc⟩ : ∃ c, l[k]? = some c := ⟨_, List.getElem?_eq_getElem (by rw [HR.out.2.1]; exact hlt)⟩
      obtain ⟨ad, rfl, hld⟩ := ld_cl (HR.out.1.chg nw fun b hb => ⟨hb, id⟩) hc
      have hsz := HR.out.2.2 c (List.mem_of_getElem? hc)
      have hkn : (k : Int) < n := by omega
      have HC := Lib.hid (And.intro hp (And.intro hc nw))
      obtain ⟨x, hx⟩ : ∃ x, c.name.size = x := ⟨_, rfl⟩
      obtain ⟨y, hy⟩ : ∃ y, c.txt.size = y := ⟨_, rfl⟩
      have hw : IntKind.i64.wrap ((x : Int) + y) = (x : Int) + y := IntWalk.i64_in _ (by omega)
      have hw2 : IntKind.i64.wrap ((k : Int) + 1) = (k : Int) + 1 := IntWalk.i64_in _ (by omega)
      unfold Cl.val at hld
      by_cases hq : x + y ≤ 200
      · have hq2 : ¬ ((200 : Int) < (x : Int) + y) := by omega
        have hsm : smallB c = true := by unfold smallB; rw [hx, hy]; exact decide_eq_true hq
        have HS := Lib.hid hsm
        clear hp hc nw hsm
        go_wp2_with fail
        go_roundw
        case rel => exact ⟨k + 1, by omega, by go_num, fun d hd => by
          rw [List.take_add_one, HC.out.2.1] at hd
          rcases List.mem_append.1 hd with h | h
          · exact HC.out.1 d h
          · obtain rfl : d = c := by simpa using h
            exact HS.out, (HC.out.2.2).alloc _⟩
        case measure => simp [intOf]; omega
      · have hq2 : (200 : Int) < (x : Int) + y := by omega
        have hf : fewB l = false := by
          unfold fewB
          have : l.all smallB = false := by
            rw [List.all_eq_false]
            exact ⟨c, List.mem_of_getElem? hc, by unfold smallB; rw [hx, hy]; simpa using by omega⟩
          rw [this]; rfl
        have HF := Lib.hid hf
        clear hp hc nw hf
        go_wp2_with fail
        go_ret
        exact ⟨by rw [HF.out] <;> simp, (HC.out.2.2).alloc _⟩
    · obtain rfl : k = n := by omega
      have hal : l.all smallB = true := by
        rw [List.all_eq_true]
        rw [List.take_of_length_le (by have := HR.out.2.1; omega)] at hp
        exact hp
      have hf : fewB l = decide ((k : Int) ≤ 80) := by
        unfold fewB
        rw [hal, HR.out.2.1, Bool.true_and, decide_eq_decide]
        omega
      have HF := Lib.hid hf
      have HN := Lib.hid nw
      clear nw hp hal hf
      go_wp2_with fail
      go_ret
      exact ⟨by rw [HF.out] <;> simp, HN.out⟩
end Lat
end Go.Proofs.YtgnlbekagdffoaaDoor
