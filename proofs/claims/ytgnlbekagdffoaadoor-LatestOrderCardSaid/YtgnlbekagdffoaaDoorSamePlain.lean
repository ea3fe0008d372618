/-
  Cells in whatever order, in two parts that are joined: the same, in plain words (no condition).
-/
import Derived.Test.YtgnlbekagdffoaaDoorBest
namespace Go.Proofs.YtgnlbekagdffoaaDoor
set_option linter.unusedSimpArgs false
set_option linter.unusedVariables false
namespace Lat
theorem cmpL_le {x y z : List Int} (h : cmpL x y ≤ 0) (k : cmpL y z ≤ 0) : cmpL x z ≤ 0 := by
  rcases cmpL_range x y with h1 | h1 | h1
  · rcases cmpL_range y z with h2 | h2 | h2
    · rw [cmpL_trans h1 h2]; decide
    · rw [← cmpL_eq h2]; exact h
    · omega
  · rw [cmpL_eq h1]; exact k
  · omega
theorem Best.cover {k l : List Cl} {x : ByteArray} {o : Option Cl} (h : Best k x o) (hs : ∀ c ∈ k, c ∈ l) (hc : ∀ d ∈ l, d.right = true → d.name = x → ∃ e ∈ k, e.right = true ∧ e.name = x ∧ cmpL d.key e.key ≤ 0) : Best l x o := by
  cases o with
  | none =>
    intro d hd hr hn
    obtain ⟨e, he, her, hen, _⟩ := hc d hd hr hn
    exact h e he her hen
  | some b =>
    refine ⟨⟨hs b h.1.1, h.1.2⟩, fun d hd hr hn => ?_⟩
    obtain ⟨e, he, her, hen, hk⟩ := hc d hd hr hn
    exact cmpL_le hk (h.2 e he her hen)
theorem Best.mem {l : List Cl} {M : St} (h : ∀ x, Best l x (M x)) {x : ByteArray} {c : Cl} (hc : M x = some c) : c ∈ l ∧ c.right = true ∧ c.name = x := by
  have := h x
  rw [hc] at this
  exact this.1
theorem Best.all {k L : List Cl} {M : St} (h : ∀ x, Best k x (M x)) (hA : AllOf M L) : (∀ e ∈ L, e ∈ k) ∧ ∀ d ∈ k, d.right = true → ∃ e ∈ L, e.right = true ∧ e.name = d.name ∧ cmpL d.key e.key ≤ 0 := by
  refine ⟨fun e he => (Best.mem h ((hA.mem e).1 he)).1, fun d hd hr => ?_⟩
  have hx := h d.name
  cases hq : M d.name with
  | none => rw [hq] at hx; exact (hx d hd hr rfl).elim
  | some e =>
    rw [hq] at hx
    exact ⟨e, (hA.mem e).2 (by rw [hx.1.2.2]; exact hq), hx.1.2.1, hx.1.2.2, hx.2 d hd hr rfl⟩
theorem Best.few {l : List Cl} {M : St} (h : ∀ x, Best l x (M x)) : Few M l.length := by
  intro K hd hK
  rw [← List.length_map (f := Cl.name)]
  refine len_sub K _ hd fun x hx => ?_
  obtain ⟨c, hc⟩ := Option.isSome_iff_exists.1 (hK x hx)
  have := Best.mem h hc
  exact List.mem_map.2 ⟨c, this.1, this.2.2⟩
theorem Best.same {l : List Cl} {M M' : St} (h : ∀ x, Best l x (M x)) (h' : ∀ x, Best l x (M' x)) : M = M' := by
  funext x
  exact (h x).uniq (h' x) fun _ _ _ => Iff.rfl
/-- what of l stands from j on was put into one of two -/
def Two (l : List Cl) (j : Nat) (Ma Mb : St) : Prop := ∃ LA LB : List Cl, (∀ x, Best LA x (Ma x)) ∧ (∀ x, Best LB x (Mb x)) ∧ ∀ c, (c ∈ LA ∨ c ∈ LB) ↔ c ∈ l.drop j
theorem Two.start (l : List Cl) : Two l l.length none_ none_ := ⟨[], [], Best.start, Best.start, fun c => by simp⟩
theorem drop_one {l : List Cl} {p : Nat} {c : Cl} (hc : l[p]? = some c) : l.drop p = c :: l.drop (p + 1) := by
  obtain ⟨h, rfl⟩ := List.getElem?_eq_some_iff.1 hc
  exact List.drop_eq_getElem_cons h
theorem Two.putA {l : List Cl} {p : Nat} {Ma Mb : St} (h : Two l (p + 1) Ma Mb) {c : Cl} (hc : l[p]? = some c) : Two l p (put Ma c) Mb := by
  obtain ⟨LA, LB, h1, h2, h3⟩ := h
  refine ⟨LA ++ [c], LB, Best.put h1 c, h2, fun d => ?_⟩
  rw [drop_one hc, List.mem_cons, ← h3 d, List.mem_append, List.mem_singleton]
  constructor
  · rintro ((h | h) | h)
    · exact .inr (.inl h)
    · exact .inl h
    · exact .inr (.inr h)
  · rintro (h | h | h)
    · exact .inl (.inr h)
    · exact .inl (.inl h)
    · exact .inr h
theorem Two.putB {l : List Cl} {p : Nat} {Ma Mb : St} (h : Two l (p + 1) Ma Mb) {c : Cl} (hc : l[p]? = some c) : Two l p Ma (put Mb c) := by
  obtain ⟨LA, LB, h1, h2, h3⟩ := h
  refine ⟨LA, LB ++ [c], h1, Best.put h2 c, fun d => ?_⟩
  rw [drop_one hc, List.mem_cons, ← h3 d, List.mem_append, List.mem_singleton]
  constructor
  · rintro (h | h | h)
    · exact .inr (.inl h)
    · exact .inr (.inr h)
    · exact .inl h
  · rintro (h | h | h)
    · exact .inr (.inr h)
    · exact .inl h
    · exact .inr (.inl h)
theorem Two.memA {l : List Cl} {j : Nat} {Ma Mb : St} (h : Two l j Ma Mb) {x : ByteArray} {c : Cl} (hc : Ma x = some c) : c ∈ l := by
  obtain ⟨LA, LB, h1, h2, h3⟩ := h
  exact List.mem_of_mem_drop ((h3 c).1 (.inl (Best.mem h1 hc).1))
theorem Two.memB {l : List Cl} {j : Nat} {Ma Mb : St} (h : Two l j Ma Mb) {x : ByteArray} {c : Cl} (hc : Mb x = some c) : c ∈ l := by
  obtain ⟨LA, LB, h1, h2, h3⟩ := h
  exact List.mem_of_mem_drop ((h3 c).1 (.inr (Best.mem h2 hc).1))
theorem few_of_mem {l : List Cl} {M : St} (hi : ∀ x c, M x = some c → c.name = x) (hm : ∀ x c, M x = some c → c ∈ l) : Few M l.length := by
  intro K hd hK
  rw [← List.length_map (f := Cl.name)]
  refine len_sub K _ hd fun x hx => ?_
  obtain ⟨c, hc⟩ := Option.isSome_iff_exists.1 (hK x hx)
  exact List.mem_map.2 ⟨c, hm x c hc, hi x c hc⟩
/-- joined: all of l -/
theorem Two.join {l : List Cl} {Ma Mb : St} (h : Two l 0 Ma Mb) {L : List Cl} (hA : AllOf Mb L) : ∀ x, Best l x (fold Ma L x) := by
  obtain ⟨LA, LB, h1, h2, h3⟩ := h
  have ha := Best.all h2 hA
  intro x
  have hm : ∀ c, (c ∈ LA ∨ c ∈ LB) ↔ c ∈ l := fun c => by have := h3 c; rwa [List.drop_zero] at this
  refine (Best.fold L LA h1 x).cover (fun c hc => ?_) fun d hd hr hn => ?_
  · rcases List.mem_append.1 hc with h | h
    · exact (hm c).1 (.inl h)
    · exact (hm c).1 (.inr (ha.1 c h))
  · rcases (hm d).2 hd with h | h
    · exact ⟨d, List.mem_append_left _ h, hr, hn, by rw [cmpL_self]; exact Int.le_refl _⟩
    · obtain ⟨e, he, her, hen, hk⟩ := ha.2 d h hr
      exact ⟨e, List.mem_append_right _ he, her, hen.trans hn, hk⟩
/-- the other way round then: all of l, too -/
theorem Two.back {l : List Cl} {Ma Mb M : St} (h : Two l 0 Ma Mb) (hM : ∀ x, Best l x (M x)) {L : List Cl} (hA : AllOf M L) : ∀ x, Best l x (fold Mb L x) := by
  obtain ⟨LA, LB, h1, h2, h3⟩ := h
  have ha := Best.all hM hA
  intro x
  have hm : ∀ c, (c ∈ LA ∨ c ∈ LB) ↔ c ∈ l := fun c => by have := h3 c; rwa [List.drop_zero] at this
  refine (Best.fold L LB h2 x).cover (fun c hc => ?_) fun d hd hr hn => ?_
  · rcases List.mem_append.1 hc with h | h
    · exact (hm c).1 (.inr h)
    · exact ha.1 c h
  · obtain ⟨e, he, her, hen, hk⟩ := ha.2 d hd hr
    exact ⟨e, List.mem_append_right _ he, her, hen.trans hn, hk⟩
theorem counts_self {M : St} {c : Cl} (h : M c.name = some c) : counts M c = false := by
  unfold counts
  rw [h]
  simp [Cl.over, cmpL_self]
/-- joined again nothing counts -/
theorem none_again {M : St} : ∀ {L : List Cl}, (∀ c ∈ L, M c.name = some c) → howMany M L = 0
  | [], _ => rfl
  | c :: L, h => by
    have hc := counts_self (h c (List.mem_cons_self ..))
    unfold howMany
    rw [hc, put_no hc, none_again fun d hd => h d (List.mem_cons_of_mem _ hd)]
    rfl
theorem fold_same {M : St} : ∀ {L : List Cl}, (∀ c ∈ L, M c.name = some c) → fold M L = M
  | [], _ => rfl
  | c :: L, h => by
    have hc := counts_self (h c (List.mem_cons_self ..))
    have := fold_same fun d hd => h d (List.mem_cons_of_mem c hd)
    unfold fold at this ⊢
    rw [List.foldl_cons, put_no hc]
    exact this
end Lat
end Go.Proofs.YtgnlbekagdffoaaDoor
