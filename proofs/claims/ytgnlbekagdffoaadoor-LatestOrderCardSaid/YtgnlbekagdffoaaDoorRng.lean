/-
  Loops over maps of the call's own (MapR): the keys that came, whichever comes next (no condition).
-/
import Derived.Test.YtgnlbekagdffoaaDoorMapR
namespace Go.Proofs.YtgnlbekagdffoaaDoor
set_option linter.unusedSimpArgs false
set_option linter.unusedVariables false
open Go.ChangeShapes Go.WideShapes Go.RowKit
namespace MapR
open Go.ChangeMaps (setBlock)
/-- what is still to come, read off the world -/
def left (w : World) (b r : Nat) : Nat :=
  match w.heap[b]?, w.heap[r]? with
  | some (.map es _), some (.mapIter _ _ seen _) => (leftOf es seen).size
  | _, _ => 0
theorem left_eq {w : World} {b r : Nat} {es : Array MapEntry} {clock : Nat} {m : Option Nat} {since c0 : Nat} {seen : Array Nat} (hb : w.heap[b]? = some (.map es clock)) (hr : w.heap[r]? = some (.mapIter m since seen c0)) : left w b r = (leftOf es seen).size := by
  unfold left
  rw [hb, hr]
theorem left_chg {w w' : World} {b r : Nat} {S : Nat → Prop} (hc : Chg S w w') (hb : ¬ S b) (hr : ¬ S r) (h1 : b < w.heap.size) (h2 : r < w.heap.size) : left w' b r = left w b r := by
  unfold left
  rw [hc.block b h1 hb, hc.block r h2 hr]
set_option linter.unusedSectionVars false
section
variable {P : Program} {κ : Type} [DecidableEq κ] {K E T : TypeId} {enc : κ → Value} {w w' : World} {b r : Nat} {ks : List κ} {M : κ → Value} {done : List κ} {S : Nat → Prop}
/-- block r goes through the map in block b; the keys that have come are done -/
structure Rng (enc : κ → Value) (w : World) (b r : Nat) (ks : List κ) (M : κ → Value) (done : List κ) : Prop where
  ex : ∃ es clock since seen c0, w.heap[b]? = some (.map es clock) ∧ es.toList.map (·.key) = ks.map enc ∧ es.toList.map (·.val) = ks.map M ∧ (es.toList.map (·.born)).Nodup ∧ (∀ e ∈ es.toList, e.born < clock) ∧
    w.heap[r]? = some (.mapIter (some b) since seen c0) ∧ (∀ e ∈ es.toList, e.born < since) ∧ since ≤ c0 ∧ since ≤ clock ∧ ∀ e ∈ es.toList, e.born ∈ seen.toList ↔ ∃ k ∈ done, e.key = enc k
  nd : ks.Nodup
  dn : done.Nodup
  sub : ∀ k ∈ done, k ∈ ks
theorem Rng.chg (h : Rng enc w b r ks M done) (hc : Chg S w w') (hb : ¬ S b) (hr : ¬ S r) : Rng enc w' b r ks M done := by
  obtain ⟨es, clock, since, seen, c0, h1, h2, h3, h4, h5, h6, h7⟩ := h.ex
  exact ⟨⟨es, clock, since, seen, c0, (hc.block b (Array.getElem?_eq_some_iff.1 h1).1 hb).trans h1, h2, h3, h4, h5, (hc.block r (Array.getElem?_eq_some_iff.1 h6).1 hr).trans h6, h7⟩, h.nd, h.dn, h.sub⟩
theorem Rng.lt (h : Rng enc w b r ks M done) : b < w.heap.size ∧ r < w.heap.size ∧ b ≠ r := by
  obtain ⟨es, clock, since, seen, c0, h1, _, _, _, _, h6, _⟩ := h.ex
  refine ⟨(Array.getElem?_eq_some_iff.1 h1).1, (Array.getElem?_eq_some_iff.1 h6).1, ?_⟩
  rintro rfl
  rw [h1] at h6
  injection h6 with h6
  cases h6
theorem Rng.map (h : Rng enc w b r ks M done) : MapAt enc w b ks M := by
  obtain ⟨es, clock, since, seen, c0, h1, h2, h3, h4, h5, _⟩ := h.ex
  exact ⟨⟨es, clock, h1, h2, h3, h4, h5⟩, h.nd⟩
theorem Rng.ne_blk {g : Nat} {t : TypeId} {cs : Array Value} (h : Rng enc w b r ks M done) (hg : Blk w g t cs) : r ≠ g := by
  rintro rfl
  obtain ⟨es, clock, since, seen, c0, _, _, _, _, _, h6, _⟩ := h.ex
  unfold Blk at hg
  rw [h6] at hg
  injection hg with hg
  cases hg
theorem Rng.ne_row {base size m : Nat} {e : TypeId} {v : Value} {xs : List Value} (h : Rng enc w b r ks M done) (ho : w.ownsRow base e size v m xs) : v.ownBlock ≠ some r := by
  intro e
  rcases ho.2 with ⟨rfl, _⟩ | ⟨g, cap, cur, rfl, _, hg, _⟩
  · cases e
  · have : g = r := by simpa [Value.ownBlock] using e
    subst this
    obtain ⟨es, clock, since, seen, c0, _, _, _, _, _, h6, _⟩ := h.ex
    rw [h6] at hg
    injection hg with hg
    cases hg
theorem Rng.start (h : MapAt enc w b ks M) (hT : P.underlying T = some (.map K E)) : ∃ w', (Instr.range T (.map (some b))).run P w = .ok (.pointer (some ⟨w.heap.size, 0, none⟩)) w' ∧ Rng enc w' b w.heap.size ks M [] ∧ New w w' ∧ w'.heap.size = w.heap.size + 1 := by
  obtain ⟨es, clock, hb, hk, hv, hd, hl⟩ := h.ex
  refine ⟨_, run_range_map w T K E b es clock hT hb, ⟨⟨es, clock, clock, #[], clock, ?_, hk, hv, hd, hl, heap_alloc_new w _, hl, Nat.le_refl _, Nat.le_refl _, fun e _ => by simp⟩, h.nd, List.nodup_nil, fun k hk => by cases hk⟩, (Chg.refl _ w).alloc _, World.size_alloc ..⟩
  exact (Below.heap_alloc w _ b h.lt).trans hb
theorem mem_left {es : Array MapEntry} {seen : Array Nat} {e : MapEntry} : e ∈ (leftOf es seen).toList ↔ e ∈ es.toList ∧ e.born ∉ seen.toList := by
  unfold leftOf
  simp
theorem left_less {es : Array MapEntry} {seen : Array Nat} {e : MapEntry} (he : e ∈ (leftOf es seen).toList) : (leftOf es (seen.push e.born)).size < (leftOf es seen).size := by
  have h2 : leftOf es (seen.push e.born) = (leftOf es seen).filter fun x => !(x.born == e.born) := by
    unfold leftOf
    rw [Array.filter_filter]
    congr 1
    funext x
    simp only [Array.contains_push, Bool.not_or]
    rw [Bool.and_comm]
  rw [h2]
  rcases Nat.lt_or_ge ((leftOf es seen).filter fun x => !(x.born == e.born)).size (leftOf es seen).size with h | h
  · exact h
  · have h3 := Array.size_filter_le (p := fun x : MapEntry => !(x.born == e.born)) (xs := leftOf es seen)
    have h4 : ((leftOf es seen).filter fun x => !(x.born == e.born)).size = (leftOf es seen).size := by omega
    have h5 : ((leftOf es seen).toList.filter fun x => !(x.born == e.born)).length = (leftOf es seen).toList.length := by
      rw [← Array.toList_filter, Array.length_toList, Array.length_toList]
      exact h4
    rw [List.length_filter_eq_length_iff] at h5
    have := h5 e he
    simp at this
theorem nodup_inj {α : Type} {l : List α} (nd : l.Nodup) {i j : Nat} (hi : i < l.length) (hj : j < l.length) (h : l[i] = l[j]) : i = j := by
  have hp := List.pairwise_iff_getElem.1 nd
  rcases Nat.lt_trichotomy i j with h1 | h1 | h1
  · exact (hp i j hi hj h1 h).elim
  · exact h1
  · exact (hp j i hj hi h1 h.symm).elim
theorem inj_at {es : List MapEntry} (hk : es.map (·.key) = ks.map enc) (nd : ks.Nodup) (hinj : ∀ x y : κ, enc x = enc y → x = y) {e e' : MapEntry} (h1 : e ∈ es) (h2 : e' ∈ es) (he : e.key = e'.key) : e = e' := by
  obtain ⟨i, hi, rfl⟩ := List.mem_iff_getElem.1 h1
  obtain ⟨j, hj, rfl⟩ := List.mem_iff_getElem.1 h2
  have hl : es.length = ks.length := by simpa using congrArg List.length hk
  have hi' : enc (ks[i]'(by omega)) = (es[i]).key := by
    have := congrArg (fun l => l[i]?) hk
    simpa [List.getElem?_eq_getElem hi, List.getElem?_eq_getElem (show i < ks.length by omega)] using this.symm
  have hj' : enc (ks[j]'(by omega)) = (es[j]).key := by
    have := congrArg (fun l => l[j]?) hk
    simpa [List.getElem?_eq_getElem hj, List.getElem?_eq_getElem (show j < ks.length by omega)] using this.symm
  have := hinj _ _ (hi'.trans (he.trans hj'.symm))
  have hij := nodup_inj nd _ _ this
  subst hij
  rfl
theorem key_at {es : List MapEntry} (hk : es.map (·.key) = ks.map enc) (hv : es.map (·.val) = ks.map M) {e : MapEntry} (h1 : e ∈ es) : ∃ k ∈ ks, e.key = enc k ∧ e.val = M k := by
  obtain ⟨i, hi, rfl⟩ := List.mem_iff_getElem.1 h1
  have hl : es.length = ks.length := by simpa using congrArg List.length hk
  refine ⟨ks[i]'(by omega), List.getElem_mem _, ?_, ?_⟩
  · have := congrArg (fun l => l[i]?) hk
    simpa [List.getElem?_eq_getElem hi, List.getElem?_eq_getElem (show i < ks.length by omega)] using this
  · have := congrArg (fun l => l[i]?) hv
    simpa [List.getElem?_eq_getElem hi, List.getElem?_eq_getElem (show i < ks.length by omega)] using this
/-- the next key, whichever -/
theorem Rng.next (h : Rng enc w b r ks M done) (hinj : ∀ x y : κ, enc x = enc y → x = y) :
    ((∀ k, k ∈ ks → k ∈ done) ∧ ∀ ty, (Instr.next (.pointer (some ⟨r, 0, none⟩)) false ty).run P w = .ok (.tuple #[.bool false]) w) ∨
    ∃ k, k ∈ ks ∧ k ∉ done ∧ ∃ w', (∀ ty, (Instr.next (.pointer (some ⟨r, 0, none⟩)) false ty).run P w = .ok (.tuple #[.bool true, enc k, M k]) w') ∧ Rng enc w' b r ks M (done ++ [k]) ∧ Chg (fun g => g = r) w w' ∧ w'.heap.size = w.heap.size ∧ left w' b r < left w b r ∧
      ∀ W, W.heap[b]? = w'.heap[b]? → W.heap[r]? = w'.heap[r]? → (Instr.entry (.pointer (some ⟨r, 0, none⟩))).run P W = .ok (.tuple #[enc k, M k]) W := by
  obtain ⟨es, clock, since, seen, c0, hb, hk, hv, hd, hl, hr, hold, hsc, hs2, hm⟩ := h.ex
  have hlt := h.lt
  have step := fun ty => run_next_at (P := P) w ty r b since c0 seen es clock hr hb hold hsc
  by_cases h0 : (leftOf es seen).size = 0
  · left
    refine ⟨fun k hks => ?_, fun ty => ?_⟩
    · obtain ⟨i, e, hi, he, hek, _⟩ := at_of_mem hk hv hks
      have hem := List.mem_of_getElem? he
      have : e.born ∈ seen.toList := by
        rcases Classical.em (e.born ∈ seen.toList) with h1 | h1
        · exact h1
        · have := mem_left.2 ⟨hem, h1⟩
          rw [Array.eq_empty_of_size_eq_zero h0] at this
          cases this
      obtain ⟨k', hk', e2⟩ := (hm e hem).1 this
      rw [hinj _ _ (hek.symm.trans e2)]
      exact hk'
    · rcases step ty with ⟨_, h1⟩ | ⟨e, he, _⟩
      · exact h1
      · rw [Array.eq_empty_of_size_eq_zero h0] at he
        cases he
  · right
    rcases step 0 with ⟨h1, _⟩ | ⟨e, he, w1, hw1, hrun⟩
    · exact (h0 h1).elim
    obtain ⟨hem, hns⟩ := mem_left.1 he
    obtain ⟨k, hks, hek, hev⟩ := key_at hk hv hem
    have hkd : k ∉ done := fun hd => hns ((hm e hem).2 ⟨k, hd, hek⟩)
    have hs1 : w1.heap = w.heap := by rcases hw1 with rfl | rfl <;> rfl
    have hr1 : r < w1.heap.size := by rw [hs1]; exact hlt.2.1
    have hb1 : w1.heap[b]? = some (.map es clock) := by rw [hs1]; exact hb
    have hc1 : Chg (fun g => g = r) w w1 := by rcases hw1 with rfl | rfl <;> exact ⟨rfl, rfl, rfl, Nat.le_refl _, fun _ _ _ => rfl⟩
    have hbn : (setBlock w1 r (.mapIter (some b) since (seen.push e.born) clock)).heap[b]? = some (.map es clock) := ((chg_setBlock hr1).block b (by rw [hs1]; exact hlt.1) hlt.2.2).trans hb1
    have hrn := heap_setBlock (o := .mapIter (some b) since (seen.push e.born) clock) hr1
    refine ⟨k, hks, hkd, setBlock w1 r (.mapIter (some b) since (seen.push e.born) clock), fun ty => ?_, ⟨⟨es, clock, since, seen.push e.born, clock, hbn, hk, hv, hd, hl, hrn, hold, hs2, hs2, fun e' he' => ?_⟩, h.nd, ?_, ?_⟩, hc1.trans (chg_setBlock hr1) fun _ _ e => e, ?_, ?_, fun W h1 h2 => ?_⟩
    · rw [← hek, ← hev]
      exact hrun
    · rw [Array.toList_push, List.mem_append, List.mem_singleton]
      constructor
      · rintro (h1 | h1)
        · obtain ⟨k', hk', e2⟩ := (hm e' he').1 h1
          exact ⟨k', List.mem_append_left _ hk', e2⟩
        · have : e' = e := by
            obtain ⟨i, hi, rfl⟩ := List.mem_iff_getElem.1 he'
            obtain ⟨j, hj, rfl⟩ := List.mem_iff_getElem.1 hem
            have hij := nodup_inj hd (i := i) (j := j) (by simpa using hi) (by simpa using hj) (by simpa using h1)
            subst hij
            rfl
          subst this
          exact ⟨k, by simp, hek⟩
      · rintro ⟨k', hk', e2⟩
        rcases List.mem_append.1 hk' with h1 | h1
        · exact .inl ((hm e' he').2 ⟨k', h1, e2⟩)
        · rw [List.mem_singleton.1 h1, ← hek] at e2
          rw [inj_at hk h.nd hinj he' hem e2]
          exact .inr rfl
    · exact List.nodup_append.2 ⟨h.dn, by simp, fun a ha c hc e => by rw [List.mem_singleton.1 hc] at e; exact hkd (e ▸ ha)⟩
    · intro k' hk'
      rcases List.mem_append.1 hk' with h1 | h1
      · exact h.sub k' h1
      · rw [List.mem_singleton.1 h1]; exact hks
    · show (w1.heap.setIfInBounds r _).size = w.heap.size
      rw [Array.size_setIfInBounds, hs1]
    · rw [left_eq hbn hrn, left_eq hb hr]
      exact left_less he
    · rw [← hek, ← hev]
      exact run_entry_at W r b since seen es clock e (h2.trans hrn) (h1.trans hbn) hem hd
end
end MapR
end Go.Proofs.YtgnlbekagdffoaaDoor
