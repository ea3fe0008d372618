/-
  To which pairs lead: what holds at each step of the search (plain; no condition).
-/
import Derived.Test.YtonopommbpkfgaaRunPlain
namespace Go.Proofs.Ytonopommbpkfgaa
namespace Topo
inductive Path (n : Nat) (ps : List (Int × Int)) : Int → Int → Prop
  | one {a b : Int} : (a, b) ∈ ps → okP n (a, b) = true → Path n ps a b
  | more {a b c : Int} : Path n ps a b → (b, c) ∈ ps → okP n (b, c) = true → Path n ps a c
def seenB (B : List Bool) (y : Int) : Prop := 0 ≤ y ∧ B.getD y.toNat false = true
structure RInv (n : Nat) (ps : List (Int × Int)) (fr : Int) (B : List Bool) (todo R : List Int) (x : Int) : Prop where
  len : B.length = n
  snd : ∀ y, seenB B y → Path n ps fr y
  td : ∀ y ∈ todo, y = fr ∨ seenB B y
  cl : ∀ y, (y = fr ∨ seenB B y) → y ∈ todo ∨ ∀ p ∈ ps, okP n p = true → p.1 = y → (y = x ∧ p.2 ∈ R) ∨ seenB B p.2
  xx : R ≠ [] → x = fr ∨ seenB B x
  inR : ∀ y ∈ R, (x, y) ∈ ps ∧ okP n (x, y) = true
theorem RInv.start (n : Nat) (ps : List (Int × Int)) (fr : Int) : RInv n ps fr (List.replicate n false) [fr] [] 0 := by
  have hno : ∀ y, ¬ seenB (List.replicate n false) y := fun y h => by
    have := h.2
    rw [List.getD_eq_getElem?_getD, List.getElem?_replicate] at this
    split at this <;> simp at this
  refine ⟨by simp, fun y h => (hno y h).elim, fun y hy => .inl (List.mem_singleton.1 hy), fun y hy => ?_, fun h => (h rfl).elim, fun y hy => by cases hy⟩
  rcases hy with rfl | h
  · exact .inl (List.mem_singleton_self _)
  · exact (hno y h).elim
theorem RInv.pop {n : Nat} {ps : List (Int × Int)} {fr x0 : Int} {B : List Bool} {q : Nat} {t : List Int} (h : RInv n ps fr B ((q : Int) :: t) [] x0) : RInv n ps fr B t (nextF n ps q) q := by
  refine ⟨h.len, h.snd, fun y hy => h.td y (List.mem_cons_of_mem _ hy), fun y hy => ?_, fun _ => h.td _ (List.mem_cons_self ..), fun y hy => next_pair.1 hy⟩
  by_cases e : y = (q : Int)
  · right
    intro p hp ho e2
    refine .inl ⟨e, next_pair.2 ?_⟩
    rw [← e, ← e2]
    exact ⟨hp, ho⟩
  · rcases h.cl y hy with h1 | h1
    · rcases List.mem_cons.1 h1 with h2 | h2
      · exact (e h2).elim
      · exact .inl h2
    · right
      intro p hp ho e2
      rcases h1 p hp ho e2 with ⟨_, h2⟩ | h2
      · cases h2
      · exact .inr h2
theorem RInv.skip {n : Nat} {ps : List (Int × Int)} {fr x : Int} {B : List Bool} {k : Nat} {todo R : List Int} (h : RInv n ps fr B todo ((k : Int) :: R) x) (hk : B.getD k false = true) : RInv n ps fr B todo R x := by
  have hs : seenB B (k : Int) := ⟨by omega, by rw [Int.toNat_natCast]; exact hk⟩
  refine ⟨h.len, h.snd, h.td, fun y hy => (h.cl y hy).imp id fun h1 p hp ho e => ?_, fun _ => h.xx (by simp), fun y hy => h.inR y (List.mem_cons_of_mem _ hy)⟩
  rcases h1 p hp ho e with ⟨h2, h3⟩ | h3
  · rcases List.mem_cons.1 h3 with h4 | h4
    · exact .inr (h4 ▸ hs)
    · exact .inl ⟨h2, h4⟩
  · exact .inr h3
theorem seen_set {B : List Bool} {k : Nat} (hk : k < B.length) (y : Int) : seenB (B.set k true) y ↔ y = (k : Int) ∨ seenB B y := by
  unfold seenB
  simp only [List.getD_eq_getElem?_getD, List.getElem?_set]
  by_cases e : y = (k : Int)
  · subst e; simp [hk]
  · by_cases h0 : 0 ≤ y
    · have : ¬ k = y.toNat := by omega
      simp [e, h0, this]
    · simp [e, h0]
theorem RInv.mark {n : Nat} {ps : List (Int × Int)} {fr x : Int} {B : List Bool} {k : Nat} {todo R : List Int} (h : RInv n ps fr B todo ((k : Int) :: R) x) (hk : k < n) : RInv n ps fr (B.set k true) (todo ++ [(k : Int)]) R x := by
  have hl : k < B.length := by rw [h.len]; exact hk
  have hr := h.inR (k : Int) (List.mem_cons_self ..)
  refine ⟨by rw [List.length_set, h.len], fun y hy => ?_, fun y hy => ?_, fun y hy => ?_, fun _ => (h.xx (by simp)).imp id fun e => (seen_set hl _).2 (.inr e), fun y hy => h.inR y (List.mem_cons_of_mem _ hy)⟩
  · rcases (seen_set hl y).1 hy with rfl | h1
    · rcases h.xx (by simp) with h2 | h2
      · rw [← h2]; exact .one hr.1 hr.2
      · exact .more (h.snd x h2) hr.1 hr.2
    · exact h.snd y h1
  · rcases List.mem_append.1 hy with h1 | h1
    · exact (h.td y h1).imp id fun e => (seen_set hl _).2 (.inr e)
    · exact .inr ((seen_set hl _).2 (.inl (List.mem_singleton.1 h1)))
  · have key : y ∈ todo ++ [(k : Int)] ∨ (y = fr ∨ seenB B y) := by
      rcases hy with h1 | h1
      · exact .inr (.inl h1)
      · rcases (seen_set hl y).1 h1 with h2 | h2
        · exact .inl (by rw [h2]; simp)
        · exact .inr (.inr h2)
    rcases key with h1 | h1
    · exact .inl h1
    · refine (h.cl y h1).imp (fun h2 => List.mem_append_left _ h2) fun h2 p hp ho e => ?_
      rcases h2 p hp ho e with ⟨h3, h4⟩ | h4
      · rcases List.mem_cons.1 h4 with h5 | h5
        · exact .inr ((seen_set hl _).2 (.inl h5))
        · exact .inl ⟨h3, h5⟩
      · exact .inr ((seen_set hl _).2 (.inr h4))
/-- how many are not seen -/
def unS (n : Nat) (B : List Bool) : Nat := (List.range n).countP fun j => !B.getD j false
theorem unS_set {n : Nat} {B : List Bool} {k : Nat} (hk : k < n) (hl : B.length = n) (h : B.getD k false = false) : unS n (B.set k true) + 1 = unS n B := by
  have key : ∀ m, m ≤ n → (List.range m).countP (fun j => !(B.set k true).getD j false) + (if k < m then 1 else 0) = (List.range m).countP (fun j => !B.getD j false) := by
    intro m
    induction m with
    | zero => intro _; simp
    | succ m ih =>
      intro hm
      have := ih (by omega)
      rw [List.range_succ, List.countP_append, List.countP_append, ← this]
      by_cases e : k = m
      · subst e
        have h1 : (B.set k true).getD k false = true := by simp [List.getD_eq_getElem?_getD, hl, hk]
        simp only [List.countP_singleton, h1, h]
        simp
      · have h1 : (B.set k true).getD m false = B.getD m false := by simp [List.getD_eq_getElem?_getD, List.getElem?_set_ne e]
        simp only [List.countP_singleton, h1]
        have e3 : (if k < m + 1 then 1 else 0) = (if k < m then 1 else 0) := by
          by_cases e2 : k < m
          · rw [if_pos e2, if_pos (show k < m + 1 by omega)]
          · rw [if_neg e2, if_neg (show ¬ k < m + 1 by omega)]
        rw [e3]
        omega
  have := key n (Nat.le_refl _)
  rw [if_pos hk] at this
  exact this
theorem RInv.done {n : Nat} {ps : List (Int × Int)} {fr x : Int} {B : List Bool} (h : RInv n ps fr B [] [] x) (y : Int) : seenB B y ↔ Path n ps fr y := by
  refine ⟨h.snd y, fun hp => ?_⟩
  have key : ∀ z, (z = fr ∨ seenB B z) → ∀ w, (z, w) ∈ ps → okP n (z, w) = true → seenB B w := fun z hz w hm ho => by
    rcases h.cl z hz with h1 | h1
    · cases h1
    · rcases h1 _ hm ho rfl with ⟨_, h2⟩ | h2
      · cases h2
      · exact h2
  induction hp with
  | one hm ho => exact key _ (.inl rfl) _ hm ho
  | more _ hm ho ih => exact key _ (.inr ih) _ hm ho
end Topo
end Go.Proofs.Ytonopommbpkfgaa
