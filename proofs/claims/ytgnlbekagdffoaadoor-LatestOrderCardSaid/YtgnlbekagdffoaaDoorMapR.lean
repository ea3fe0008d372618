/-
  Maps of the call's own, keyed by whatever can be told apart: a row of keys and a function (no condition).
-/
import Derived.Test.YtgnlbekagdffoaaDoorMem
import Derived.ChangeMaps5
import Derived.Maps.RangeRun
namespace Go.Proofs.YtgnlbekagdffoaaDoor
set_option linter.unusedSimpArgs false
set_option linter.unusedVariables false
open Go.ChangeShapes Go.WideShapes Go.RowKit
namespace MapR
open Go.ChangeMaps (setBlock)
theorem map_set_keys {α β : Type} (f : α → β) : ∀ (l : List α) (i : Nat) (g : α → α), (∀ x, f (g x) = f x) → (l.modify i g).map f = l.map f
  | [], i, g, _ => by cases i <;> rfl
  | x :: l, 0, g, h => by simp [h]
  | x :: l, i + 1, g, h => by simp [map_set_keys f l i g h]
theorem map_modify {α β : Type} (f : α → β) (g : α → α) (e : α) : ∀ (l : List α) (i : Nat), l[i]? = some e → (l.modify i g).map f = (l.map f).set i (f (g e))
  | [], i, h => by simp at h
  | x :: l, 0, h => by simp at h; subst h; simp
  | x :: l, i + 1, h => by simpa using map_modify f g e l i (by simpa using h)
theorem set_same {α : Type} (e : α) : ∀ (l : List α) (i : Nat), l[i]? = some e → l.set i e = l
  | [], i, h => by simp at h
  | x :: l, 0, h => by simp at h; subst h; simp
  | x :: l, i + 1, h => by simpa using set_same e l i (by simpa using h)
theorem erase_idx {κ : Type} [DecidableEq κ] (k : κ) : ∀ (l : List κ) (i : Nat), l.Nodup → l[i]? = some k → l.erase k = l.eraseIdx i
  | [], i, _, h => by simp at h
  | x :: l, 0, _, h => by simp at h; subst h; simp
  | x :: l, i + 1, nd, h => by
    have nd := List.nodup_cons.1 nd
    have h : l[i]? = some k := by simpa using h
    have hne : x ≠ k := fun e => nd.1 (by rw [e]; exact List.mem_of_getElem? h)
    rw [List.erase_cons_tail (by simpa using hne), erase_idx k l i nd.2 h, List.eraseIdx_cons_succ]
/-- keys of type K, told apart -/
structure KeyOk (P : Program) {κ : Type} (K : TypeId) (enc : κ → Value) : Prop where
  check : ∀ b k w, (Instr.checkKey b 10000 K (enc k)).run P w = .ok () w
  miss : ∀ k (ks : List κ) (es : List MapEntry) w, es.map (·.key) = ks.map enc → k ∉ ks → (Instr.findKey K (enc k) es).run P w = .ok none w
  hit : ∀ k (ks : List κ) (es : List MapEntry) w (i : Nat) (e : MapEntry), es.map (·.key) = ks.map enc → ks.Nodup → ks[i]? = some k → es[i]? = some e → (Instr.findKey K (enc k) es).run P w = .ok (some (i, e.val)) w
  bits : ∀ k, Instr.sameBits 10000 (enc k) (enc k) = true
set_option linter.unusedSectionVars false
section
variable {P : Program} {κ : Type} [DecidableEq κ] {K E T : TypeId} {enc : κ → Value}
theorem findNow_go {kind : TypeDesc} (hs : ∀ a b, Instr.sameNow kind (enc a) (enc b) = some (a == b)) (k : κ) : ∀ (ks : List κ) (es : List MapEntry) (i : Nat), es.map (·.key) = ks.map enc →
    (k ∉ ks → Instr.findNow kind (enc k) es i = some none) ∧ (∀ j e, ks.Nodup → ks[j]? = some k → es[j]? = some e → Instr.findNow kind (enc k) es i = some (some (i + j, e.val)))
  | [], [], i, _ => ⟨fun _ => rfl, fun j e _ h => by simp at h⟩
  | [], _ :: _, _, h => by simp at h
  | _ :: _, [], _, h => by simp at h
  | a :: ks, e :: es, i, h => by
    simp only [List.map_cons, List.cons.injEq] at h
    have ih := findNow_go hs k ks es (i + 1) h.2
    unfold Instr.findNow
    rw [h.1, hs]
    by_cases hk : k = a
    · subst hk
      refine ⟨fun hn => (hn (List.mem_cons_self ..)).elim, fun j e' nd hj he => ?_⟩
      have nd := List.nodup_cons.1 nd
      cases j with
      | zero => simp at he; subst he; simp
      | succ j => exact (nd.1 (List.mem_of_getElem? (by simpa using hj))).elim
    · have : (k == a) = false := by simpa using hk
      rw [this]
      refine ⟨fun hn => ih.1 fun hm => hn (List.mem_cons_of_mem _ hm), fun j e' nd hj he => ?_⟩
      cases j with
      | zero => simp at hj; exact (hk hj.symm).elim
      | succ j =>
        have := ih.2 j e' (List.nodup_cons.1 nd).2 (by simpa using hj) (by simpa using he)
        simp only []
        rw [this]
        congr 3
        omega
theorem findAsking_go (heq : ∀ a b w, (Op.equal K (enc a) (enc b)).run P w = .ok (a == b) w) (k : κ) (w : World) : ∀ (ks : List κ) (es : List MapEntry) (i : Nat), es.map (·.key) = ks.map enc →
    (k ∉ ks → (Instr.findAsking K (enc k) es i).run P w = .ok none w) ∧ (∀ j e, ks.Nodup → ks[j]? = some k → es[j]? = some e → (Instr.findAsking K (enc k) es i).run P w = .ok (some (i + j, e.val)) w)
  | [], [], i, _ => ⟨fun _ => rfl, fun j e _ h => by simp at h⟩
  | [], _ :: _, _, h => by simp at h
  | _ :: _, [], _, h => by simp at h
  | a :: ks, e :: es, i, h => by
    simp only [List.map_cons, List.cons.injEq] at h
    have ih := findAsking_go heq k w ks es (i + 1) h.2
    unfold Instr.findAsking
    rw [h.1, Sem.run_bind, heq, Result.andThen_ok]
    by_cases hk : k = a
    · subst hk
      refine ⟨fun hn => (hn (List.mem_cons_self ..)).elim, fun j e' nd hj he => ?_⟩
      have nd := List.nodup_cons.1 nd
      cases j with
      | zero => simp at he; subst he; simp
      | succ j => exact (nd.1 (List.mem_of_getElem? (by simpa using hj))).elim
    · have : (k == a) = false := by simpa using hk
      rw [this]
      refine ⟨fun hn => by simpa using ih.1 fun hm => hn (List.mem_cons_of_mem _ hm), fun j e' nd hj he => ?_⟩
      cases j with
      | zero => simp at hj; exact (hk hj.symm).elim
      | succ j =>
        have := ih.2 j e' (List.nodup_cons.1 nd).2 (by simpa using hj) (by simpa using he)
        simp only [Bool.false_eq_true, if_false]
        rw [this, show i + 1 + j = i + (j + 1) by omega]
theorem KeyOk.of_now {kind : TypeDesc} (hu : P.underlying K = some kind) (hc : ∀ b k w, (Instr.checkKey b 10000 K (enc k)).run P w = .ok () w) (hs : ∀ a b, Instr.sameNow kind (enc a) (enc b) = some (a == b)) (hb : ∀ k, Instr.sameBits 10000 (enc k) (enc k) = true) : KeyOk P K enc := by
  refine ⟨hc, fun k ks es w h hn => ?_, fun k ks es w i e h nd hk he => ?_, hb⟩
  · unfold Instr.findKey
    rw [Sem.run_bind, run_underlying hu w, Result.andThen_ok, (findNow_go hs k ks es 0 h).1 hn]
    rfl
  · unfold Instr.findKey
    rw [Sem.run_bind, run_underlying hu w, Result.andThen_ok, (findNow_go hs k ks es 0 h).2 i e nd hk he, Nat.zero_add]
    rfl
theorem KeyOk.of_ask {kind : TypeDesc} (hu : P.underlying K = some kind) (hc : ∀ b k w, (Instr.checkKey b 10000 K (enc k)).run P w = .ok () w) (hs : ∀ a b, Instr.sameNow kind (enc a) (enc b) = none) (heq : ∀ a b w, (Op.equal K (enc a) (enc b)).run P w = .ok (a == b) w) (hb : ∀ k, Instr.sameBits 10000 (enc k) (enc k) = true) : KeyOk P K enc := by
  have hnow : ∀ k (ks : List κ) (es : List MapEntry), es.map (·.key) = ks.map enc → Instr.findNow kind (enc k) es 0 = some none ∧ es = [] ∨ Instr.findNow kind (enc k) es 0 = none := by
    intro k ks es h
    cases es with
    | nil => exact .inl ⟨rfl, rfl⟩
    | cons e es =>
      cases ks with
      | nil => simp at h
      | cons a ks =>
        simp only [List.map_cons, List.cons.injEq] at h
        right
        unfold Instr.findNow
        rw [h.1, hs]
  refine ⟨hc, fun k ks es w h hn => ?_, fun k ks es w i e h nd hk he => ?_, hb⟩
  · unfold Instr.findKey
    rw [Sem.run_bind, run_underlying hu w, Result.andThen_ok]
    rcases hnow k ks es h with ⟨e1, _⟩ | e1
    · rw [e1]; rfl
    · rw [e1]; exact (findAsking_go heq k w ks es 0 h).1 hn
  · unfold Instr.findKey
    rw [Sem.run_bind, run_underlying hu w, Result.andThen_ok]
    rcases hnow k ks es h with ⟨_, e1⟩ | e1
    · subst e1; simp at he
    · rw [e1]
      have := (findAsking_go heq k w ks es 0 h).2 i e nd hk he
      rw [Nat.zero_add] at this
      exact this
/-- block b is a map with the keys ks, at each of which it holds M -/
structure MapAt (enc : κ → Value) (w : World) (b : Nat) (ks : List κ) (M : κ → Value) : Prop where
  ex : ∃ es clock, w.heap[b]? = some (.map es clock) ∧ es.toList.map (·.key) = ks.map enc ∧ es.toList.map (·.val) = ks.map M ∧ (es.toList.map (·.born)).Nodup ∧ ∀ e ∈ es.toList, e.born < clock
  nd : ks.Nodup
def upd (M : κ → Value) (k : κ) (v : Value) : κ → Value := fun j => if j = k then v else M j
theorem upd_at (M : κ → Value) (k : κ) (v : Value) : upd M k v k = v := if_pos rfl
theorem upd_ne (M : κ → Value) {k j : κ} (v : Value) (h : j ≠ k) : upd M k v j = M j := if_neg h
theorem set_upd (M : κ → Value) (v : Value) {k : κ} : ∀ {l : List κ} {i : Nat}, l.Nodup → l[i]? = some k → (l.map M).set i v = l.map (upd M k v)
  | [], i, _, h => by simp at h
  | x :: l, 0, nd, h => by
    simp at h
    subst h
    have nd := List.nodup_cons.1 nd
    simp only [List.map_cons, List.set_cons_zero, upd_at]
    congr 1
    exact List.map_congr_left fun j hj => (upd_ne M v fun e => nd.1 (by rw [← e]; exact hj)).symm
  | x :: l, i + 1, nd, h => by
    have nd := List.nodup_cons.1 nd
    have h : l[i]? = some k := by simpa using h
    have hne : x ≠ k := fun e => nd.1 (by rw [e]; exact List.mem_of_getElem? h)
    simp only [List.map_cons, List.set_cons_succ, upd_ne M v hne]
    rw [set_upd M v nd.2 h]
variable {w w' : World} {b : Nat} {ks : List κ} {M : κ → Value} {S : Nat → Prop}
theorem MapAt.lt (h : MapAt enc w b ks M) : b < w.heap.size := by
  obtain ⟨es, clock, hb, _⟩ := h.ex
  exact (Array.getElem?_eq_some_iff.1 hb).1
theorem MapAt.chg (h : MapAt enc w b ks M) (hc : Chg S w w') (hb : ¬ S b) : MapAt enc w' b ks M := by
  obtain ⟨es, clock, hg, r⟩ := h.ex
  exact ⟨⟨es, clock, (hc.block b h.lt hb).trans hg, r⟩, h.nd⟩
theorem MapAt.made (enc : κ → Value) (w : World) (M : κ → Value) : MapAt enc (w.alloc (.map #[] 0)) w.heap.size [] M :=
  ⟨⟨#[], 0, heap_alloc_new w _, rfl, rfl, List.nodup_nil, fun e he => by simp at he⟩, List.nodup_nil⟩
theorem MapAt.ne_blk {g : Nat} {t : TypeId} {cs : Array Value} (h : MapAt enc w b ks M) (hg : Blk w g t cs) : b ≠ g := by
  rintro rfl
  obtain ⟨es, clock, hm, _⟩ := h.ex
  unfold Blk at hg
  rw [hm] at hg
  injection hg with hg
  cases hg
theorem MapAt.ne_row {base size m : Nat} {e : TypeId} {v : Value} {xs : List Value} (h : MapAt enc w b ks M) (ho : w.ownsRow base e size v m xs) : v.ownBlock ≠ some b := by
  intro e
  rcases ho.2 with ⟨rfl, _⟩ | ⟨g, cap, cur, rfl, _, hg, _⟩
  · cases e
  · have : g = b := by simpa [Value.ownBlock] using e
    subst this
    obtain ⟨es, clock, hm, _⟩ := h.ex
    rw [hm] at hg
    injection hg with hg
    cases hg
theorem MapAt.congr {M' : κ → Value} (h : MapAt enc w b ks M) (he : ∀ k ∈ ks, M k = M' k) : MapAt enc w b ks M' := by
  obtain ⟨es, clock, hb, hk, hv, r⟩ := h.ex
  exact ⟨⟨es, clock, hb, hk, by rw [hv]; exact List.map_congr_left he, r⟩, h.nd⟩
theorem at_of_mem {es : List MapEntry} {k : κ} (hk : es.map (·.key) = ks.map enc) (hv : es.map (·.val) = ks.map M) (hm : k ∈ ks) : ∃ (i : Nat) (e : MapEntry), ks[i]? = some k ∧ es[i]? = some e ∧ e.key = enc k ∧ e.val = M k := by
  obtain ⟨i, hi, hki⟩ := List.mem_iff_getElem.1 hm
  have hl : es.length = ks.length := by simpa using congrArg List.length hk
  have hki? : ks[i]? = some k := by rw [List.getElem?_eq_getElem hi, hki]
  refine ⟨i, es[i]'(by omega), hki?, List.getElem?_eq_getElem (by omega), ?_, ?_⟩
  · have := congrArg (fun l => l[i]?) hk
    simp only [List.getElem?_map, hki?, Option.map_some, List.getElem?_eq_getElem (show i < es.length by omega)] at this
    injection this
  · have := congrArg (fun l => l[i]?) hv
    simp only [List.getElem?_map, hki?, Option.map_some, List.getElem?_eq_getElem (show i < es.length by omega)] at this
    injection this
theorem run_getMap {es : Array MapEntry} {c : Nat} (hb : w.heap[b]? = some (.map es c)) : (getObj b).run P w = .ok (.map es c) w := by simp [getObj, Sem.run, hb]
theorem run_setMap {o : Obj} {es : Array MapEntry} {c : Nat} (hb : w.heap[b]? = some (.map es c)) : (setObj b o).run P w = .ok () (setBlock w b o) := by simp [setObj, Sem.run, hb, setBlock]
theorem chg_setBlock {o : Obj} (hb : b < w.heap.size) : Chg (fun k => k = b) w (setBlock w b o) :=
  ⟨rfl, rfl, rfl, by simp [setBlock], fun k hk hn => by simp only [setBlock]; rw [Array.getElem?_setIfInBounds_ne]; exact fun e => hn e.symm⟩
theorem heap_setBlock {o : Obj} (hb : b < w.heap.size) : (setBlock w b o).heap[b]? = some o := by simp [setBlock, hb]
/-- v, ok := m[k] -/
theorem MapAt.look_ok (h : MapAt enc w b ks M) (O : KeyOk P K enc) (hT : P.underlying T = some (.map K E)) {z : Value} (hz : ∀ w, (zeroValue E).run P w = .ok z w) (k : κ) :
    (Instr.lookup T (.map (some b)) (enc k) true).run P w = .ok (.tuple #[if k ∈ ks then M k else z, .bool (decide (k ∈ ks))]) w := by
  obtain ⟨es, clock, hb, hk, hv, _⟩ := h.ex
  unfold Instr.lookup
  by_cases hm : k ∈ ks
  · obtain ⟨i, e, h1, h2, _, h4⟩ := at_of_mem hk hv hm
    simp [Sem.run_bind, run_underlying hT, run_getMap hb, O.check, O.hit k ks es.toList w i e hk h.nd h1 h2, hm, h4]
  · simp [Sem.run_bind, run_underlying hT, run_getMap hb, O.check, O.miss k ks es.toList w hk hm, hm, hz]
theorem MapAt.look_in (h : MapAt enc w b ks M) (O : KeyOk P K enc) (hT : P.underlying T = some (.map K E)) {z : Value} (hz : ∀ w, (zeroValue E).run P w = .ok z w) {k : κ} (hm : k ∈ ks) :
    (Instr.lookup T (.map (some b)) (enc k) true).run P w = .ok (.tuple #[M k, .bool true]) w := by
  rw [h.look_ok O hT hz k, if_pos hm, decide_eq_true hm]
theorem MapAt.look_out (h : MapAt enc w b ks M) (O : KeyOk P K enc) (hT : P.underlying T = some (.map K E)) {z : Value} (hz : ∀ w, (zeroValue E).run P w = .ok z w) {k : κ} (hm : k ∉ ks) :
    (Instr.lookup T (.map (some b)) (enc k) true).run P w = .ok (.tuple #[z, .bool false]) w := by
  rw [h.look_ok O hT hz k, if_neg hm, decide_eq_false hm]
/-- m[k] -/
theorem MapAt.look (h : MapAt enc w b ks M) (O : KeyOk P K enc) (hT : P.underlying T = some (.map K E)) {z : Value} (hz : ∀ w, (zeroValue E).run P w = .ok z w) (k : κ) :
    (Instr.lookup T (.map (some b)) (enc k) false).run P w = .ok (if k ∈ ks then M k else z) w := by
  obtain ⟨es, clock, hb, hk, hv, _⟩ := h.ex
  unfold Instr.lookup
  by_cases hm : k ∈ ks
  · obtain ⟨i, e, h1, h2, _, h4⟩ := at_of_mem hk hv hm
    simp [Sem.run_bind, run_underlying hT, run_getMap hb, O.check, O.hit k ks es.toList w i e hk h.nd h1 h2, hm, h4]
  · simp [Sem.run_bind, run_underlying hT, run_getMap hb, O.check, O.miss k ks es.toList w hk hm, hm, hz]
/-- a map that is nil -/
theorem look_nil (O : KeyOk P K enc) (hT : P.underlying T = some (.map K E)) {z : Value} (hz : ∀ w, (zeroValue E).run P w = .ok z w) (k : κ) (w : World) :
    (Instr.lookup T (.map none) (enc k) false).run P w = .ok z w := by
  unfold Instr.lookup
  simp [Sem.run_bind, run_underlying hT, O.check, O.miss k [] [] w rfl (by simp), hz]
/-- m[k] = v -/
theorem MapAt.store (h : MapAt enc w b ks M) (O : KeyOk P K enc) (hT : P.underlying T = some (.map K E)) (k : κ) (v : Value) :
    ∃ w', (Instr.mapUpdate T (.map (some b)) (enc k) v).run P w = .ok () w' ∧ MapAt enc w' b (if k ∈ ks then ks else ks ++ [k]) (upd M k v) ∧ Chg (fun j => j = b) w w' := by
  obtain ⟨es, clock, hb, hk, hv, hn, hlt⟩ := h.ex
  have hbl := h.lt
  by_cases hm : k ∈ ks
  · obtain ⟨i, e, h1, h2, h3, h4⟩ := at_of_mem hk hv hm
    have hi : i < es.size := by
      have := (List.getElem?_eq_some_iff.1 h2).1
      simpa using this
    have hget : es[i]? = some e := by simpa using h2
    have hkey : (Instr.keyThatStays e.key (enc k)).run P w = .ok (enc k) w := by
      unfold Instr.keyThatStays
      rw [h3, O.bits]
      rfl
    refine ⟨setBlock w b (.map (es.modify i fun e => { e with key := enc k, val := v }) clock), ?_, ⟨⟨_, clock, heap_setBlock hbl, ?_, ?_, ?_, ?_⟩, by rw [if_pos hm]; exact h.nd⟩, chg_setBlock hbl⟩
    · unfold Instr.mapUpdate
      simp [Sem.run_bind, run_underlying hT, run_getMap hb, O.check, O.hit k ks es.toList w i e hk h.nd h1 h2, hget, hkey, run_setMap hb]
    · rw [if_pos hm, Array.toList_modify, map_modify _ _ e _ _ h2, hk]
      exact set_same _ _ _ (by simp [h1])
    · rw [if_pos hm, Array.toList_modify, map_modify _ _ e _ _ h2, hv]
      exact set_upd M v h.nd h1
    · rw [Array.toList_modify, map_set_keys (fun x : MapEntry => x.born) _ i (fun e => { e with key := enc k, val := v }) (fun _ => rfl)]
      exact hn
    · intro x hx
      rw [Array.toList_modify] at hx
      have := List.mem_map_of_mem (f := (·.born)) hx
      rw [map_set_keys (fun x : MapEntry => x.born) _ i (fun e => { e with key := enc k, val := v }) (fun _ => rfl)] at this
      obtain ⟨y, hy, e2⟩ := List.mem_map.1 this
      rw [← e2]
      exact hlt y hy
  · refine ⟨setBlock w b (.map (es.push { key := enc k, val := v, born := clock }) (clock + 1)), ?_, ⟨⟨_, clock + 1, heap_setBlock hbl, ?_, ?_, ?_, ?_⟩, ?_⟩, chg_setBlock hbl⟩
    · unfold Instr.mapUpdate
      simp [Sem.run_bind, run_underlying hT, run_getMap hb, O.check, O.miss k ks es.toList w hk hm, run_setMap hb]
    · rw [if_neg hm]
      simp [hk]
    · rw [if_neg hm]
      simp only [Array.toList_push, List.map_append, hv, List.map_cons, List.map_nil, upd_at]
      congr 1
      refine List.map_congr_left fun j hj => (upd_ne M v fun e => hm (by rw [← e]; exact hj)).symm
    · simp only [Array.toList_push, List.map_append, List.map_cons, List.map_nil]
      refine List.nodup_append.2 ⟨hn, by simp, fun x hx y hy e => ?_⟩
      obtain ⟨z, hz, rfl⟩ := List.mem_map.1 hx
      have := hlt z hz
      rw [List.mem_singleton.1 hy] at e
      omega
    · intro x hx
      simp only [Array.toList_push, List.mem_append, List.mem_singleton] at hx
      rcases hx with hx | rfl
      · have := hlt x hx; omega
      · exact Nat.lt_succ_self _
    · rw [if_neg hm]
      exact List.nodup_append.2 ⟨h.nd, by simp, fun x hx y hy e => hm (by rw [← List.mem_singleton.1 hy, ← e]; exact hx)⟩
/-- delete(m, k) -/
theorem MapAt.drop (h : MapAt enc w b ks M) (O : KeyOk P K enc) (hT : P.underlying T = some (.map K E)) (k : κ) :
    ∃ w', (∀ ty, (Builtin.delete_ #[T, K] ty #[.map (some b), enc k]).run P w = .ok (.tuple #[]) w') ∧ MapAt enc w' b (ks.erase k) M ∧ Chg (fun j => j = b) w w' := by
  obtain ⟨es, clock, hb, hk, hv, hn, hlt⟩ := h.ex
  have hbl := h.lt
  by_cases hm : k ∈ ks
  · obtain ⟨i, e, h1, h2, h3, h4⟩ := at_of_mem hk hv hm
    have he : ks.erase k = ks.eraseIdx i := erase_idx k ks i h.nd h1
    refine ⟨setBlock w b (.map (es.eraseIdxIfInBounds i) clock), fun ty => ?_, ⟨⟨_, clock, heap_setBlock hbl, ?_, ?_, ?_, ?_⟩, h.nd.erase _⟩, chg_setBlock hbl⟩
    · unfold Builtin.delete_
      simp [Sem.run_bind, run_underlying hT, run_getMap hb, O.check, O.hit k ks es.toList w i e hk h.nd h1 h2, run_setMap hb]
    · rw [he, Array.toList_eraseIdxIfInBounds, Go.ChangeMaps.map_eraseIdx, hk, Go.ChangeMaps.map_eraseIdx]
    · rw [he, Array.toList_eraseIdxIfInBounds, Go.ChangeMaps.map_eraseIdx, hv, Go.ChangeMaps.map_eraseIdx]
    · rw [Array.toList_eraseIdxIfInBounds, Go.ChangeMaps.map_eraseIdx]
      exact hn.sublist (List.eraseIdx_sublist _ _)
    · intro x hx
      rw [Array.toList_eraseIdxIfInBounds] at hx
      exact hlt x ((List.eraseIdx_sublist _ _).subset hx)
  · refine ⟨setBlock w b (.map es clock), fun ty => ?_, ⟨⟨es, clock, heap_setBlock hbl, ?_, ?_, hn, hlt⟩, h.nd.erase _⟩, chg_setBlock hbl⟩
    · unfold Builtin.delete_
      simp [Sem.run_bind, run_underlying hT, run_getMap hb, O.check, O.miss k ks es.toList w hk hm, run_setMap hb]
    · rw [List.erase_of_not_mem hm]; exact hk
    · rw [List.erase_of_not_mem hm]; exact hv
/-- len(m) -/
theorem MapAt.len (h : MapAt enc w b ks M) (hT : P.underlying T = some (.map K E)) (ty : TypeId) : (Builtin.len_ #[T] ty #[.map (some b)]).run P w = .ok (.int .i64 (ks.length : Int)) w := by
  obtain ⟨es, clock, hb, hk, hv, hn, hlt⟩ := h.ex
  have hl : es.size = ks.length := by simpa using congrArg List.length hk
  unfold Builtin.len_
  simp [Sem.run_bind, run_underlying hT, run_getMap hb, goInt, hl]
end
end MapR
end Go.Proofs.YtgnlbekagdffoaaDoor
