/-
  slices.IndexFunc and slices.DeleteFunc on rows of events of the call's own, with a test that only reads (no condition beyond the sizes).
-/
import Derived.Test.YtgjlbifanjhcjaaBuffer3
import Derived.Lib.SliceRun
namespace Go.Proofs.Ytgjlbifanjhcjaa
open Go.ChangeShapes Go.WideShapes Go.RowKit Go.Deep
namespace IterE
open Buf
attribute [local go_sem ↓] loadOnly0
variable {α : Type}
/-- the first one that meets p -/
def idxOf (l : List α) (p : α → Bool) : Int := match l.findIdx? p with | some i => (i : Int) | none => -1
theorem idx_before {l : List α} {p : α → Bool} {k : Nat} (h : ∀ x ∈ l.take k, p x = false) {x : α} (hx : l[k]? = some x) (hp : p x = true) : idxOf l p = (k : Int) := by
  unfold idxOf
  have hk := (List.getElem?_eq_some_iff.1 hx).1
  have : l.findIdx? p = some k := by
    rw [List.findIdx?_eq_some_iff_getElem]
    refine ⟨hk, ?_, fun j hj => ?_⟩
    · have := (List.getElem?_eq_some_iff.1 hx).2
      rw [this]
      exact hp
    · have hjl : j < l.length := by omega
      have := h l[j] (List.mem_take_iff_getElem.2 ⟨j, by omega, rfl⟩)
      simp [this]
  rw [this]
theorem idx_none {l : List α} {p : α → Bool} (h : ∀ x ∈ l, p x = false) : idxOf l p = -1 := by
  unfold idxOf
  have : l.findIdx? p = none := by
    rw [List.findIdx?_eq_none_iff]
    exact h
  rw [this]
theorem idx_some {l : List α} {p : α → Bool} (h : ∃ x ∈ l, p x = true) : ∃ (k : Nat) (x : α), idxOf l p = (k : Int) ∧ l[k]? = some x ∧ p x = true ∧ (∀ y ∈ l.take k, p y = false) := by
  cases hf : l.findIdx? p with
  | none =>
    rw [List.findIdx?_eq_none_iff] at hf
    obtain ⟨x, hx, hp⟩ := h
    rw [hf x hx] at hp
    cases hp
  | some k =>
    have hf2 := hf
    rw [List.findIdx?_eq_some_iff_getElem] at hf
    obtain ⟨hk, hp, hb⟩ := hf
    refine ⟨k, l[k], by unfold idxOf; rw [hf2], List.getElem?_eq_getElem hk, hp, fun y hy => ?_⟩
    obtain ⟨j, hj, rfl⟩ := List.mem_take_iff_getElem.1 hy
    have := hb j (by omega)
    simpa using this
theorem filter_take {l : List α} {p : α → Bool} {j : Nat} {x : α} (h : l[j]? = some x) : (l.take (j + 1)).filter p = (l.take j).filter p ++ (if p x then [x] else []) := by
  rw [List.take_add_one, h, List.filter_append]
  by_cases e : p x = true <;> simp [e]
/-- the test (Ack's), with what it has caught, tells p of all of l, as long as only S has changed -/
def Tests (w : World) (c1 : Value) (S : Nat → Prop) (l : List Ev) (p : Ev → Bool) : Prop := ∀ x ∈ l, ∀ W, Chg S w W → Calls Try.prog 20 #[x.val, c1] W fun e W' => e = .returned (.bool (p x)) ∧ New W W'
set_option maxHeartbeats 2000000 in
set_option maxRecDepth 100000 in
theorem index (w : World) (base : Nat) (v : Value) (l : List Ev) (h : OwnE w base v l) (c1 : Value) (p : Ev → Bool) (ht : Tests w c1 (fun _ => False) l p) (hn : l.length ≤ 1000000) :
    Calls Try.prog 25 #[v, .func (.func 20) #[] #[c1]] w fun e w' => e = .returned (.int .i64 (idxOf l p)) ∧ New w w' := by
  have HT := Lib.hid ht
  have H := Lib.hid h
  obtain ⟨n, hn2⟩ : ∃ n, l.length = n := ⟨_, rfl⟩
  obtain ⟨A, c, hv⟩ := h.form
  rw [hn2] at hv hn
  have HN := Lib.hid hn2
  clear h ht hn2
  subst hv
  go_enter Try.func25, Try.ntmps25
  go_wp2_with fail
  go_loopw [5, 8] (fun _ i wr => ∃ (k : Nat), k ≤ n ∧ i = .int .i64 k ∧ (∀ x ∈ l.take k, p x = false) ∧ New w wr) (fun _ i _ => n - (intOf i).toNat)
  case atStart => exact ⟨0, by omega, rfl, fun x hx => by simp at hx, Chg.refl _ _⟩
  case round =>
    obtain ⟨k, hk, rfl, hp, hnw⟩ := hrel
    by_cases hlt : k < n
    · obtain ⟨x, hx⟩ : ∃ x, l[k]? = some x := ⟨_, List.getElem?_eq_getElem (by rw [HN.out]; exact hlt)⟩
      have ho := own_chg H.out hnw fun _ _ => id
      obtain ⟨ad, rfl, hld⟩ := ld_ev (Reads.of_own (by rw [HN.out] at ho; exact ho)) hx
      have C := HT.out x (List.mem_of_getElem? hx) wr hnw
      obtain ⟨X, hX⟩ : ∃ X, x.cs.toArray = X := ⟨_, rfl⟩
      rw [show x.val = .agg X by rw [← hX]] at hld C
      have HP := Lib.hid (And.intro hp (And.intro hx hnw))
      have hkp : (k : Int) < n := by omega
      obtain ⟨q, hq⟩ : ∃ q, p x = q := ⟨_, rfl⟩
      rw [hq] at C
      have HQ := Lib.hid hq
      have C := Lib.hid C
      clear hp hx hnw ho hq hX
      cases q
      · go_wp2_with fail
        refine C.out.mono ?_
        rintro e w2 ⟨rfl, n2⟩
        have HZ := Lib.hid (HP.out.2.2.trans n2 fun _ _ => id)
        clear n2 C
        go_wp2_with fail
        go_roundw
        case rel => exact ⟨k + 1, by omega, by go_num, fun y hy => by
          rw [List.take_add_one, HP.out.2.1] at hy
          rcases List.mem_append.1 hy with h | h
          · exact HP.out.1 y h
          · simp at h
            rw [h]
            exact HQ.out, HZ.out⟩
        case measure => simp [intOf]; omega
      · go_wp2_with fail
        refine C.out.mono ?_
        rintro e w2 ⟨rfl, n2⟩
        have HZ := Lib.hid (HP.out.2.2.trans n2 fun _ _ => id)
        clear n2 C
        go_wp2_with fail
        go_ret
        exact ⟨by rw [idx_before HP.out.1 HP.out.2.1 HQ.out]; first | rfl | skip, HZ.out⟩
    · obtain rfl : k = n := by omega
      rw [List.take_of_length_le (by rw [HN.out]; omega)] at hp
      have HP := Lib.hid (And.intro hp hnw)
      clear hp hnw
      go_wp2_with fail
      go_ret
      exact ⟨by rw [idx_none HP.out.1]; rfl, HP.out.2⟩
end IterE
end Go.Proofs.Ytgjlbifanjhcjaa
