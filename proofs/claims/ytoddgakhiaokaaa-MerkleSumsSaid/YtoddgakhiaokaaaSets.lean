/-
  Sets of whole numbers of the call's own (maps from whole numbers to true), as functions (no condition beyond the kind's bounds).
-/
import Derived.Test.YtoddgakhiaokaaaKeysI
namespace Go.Proofs.Ytoddgakhiaokaaa
open Go.ChangeShapes Go.WideShapes Go.RowKit Go.Maps
section
variable {P : Program} {K E T : TypeId}
theorem elem_bool (hE : P.underlying E = some .bool) (x : Bool) : plainElem (H := Unit) P E (.bool x) = some (.lit (.bool x), []) := by simp [plainElem, hE]
theorem elem_bool_inv (hE : P.underlying E = some .bool) {v : Value} {y : DataW Unit × List MemPlace} (h : plainElem P E v = some y) : ∃ x, v = .bool x ∧ y = (.lit (.bool x), []) := by
  cases v <;> simp [plainElem, hE] at h
  exact ⟨_, rfl, h.symm⟩
/-- block b is a map that holds true at just the numbers of M -/
structure SetAt (P : Program) (K E : TypeId) (w : World) (b n : Nat) (M : Int → Bool) : Prop where
  ex : ∃ D : DataW Unit, w.ownsMap P K (plainElem P E) b n D ∧ ∀ x, inKind .i64 x → has D (.int .i64 x) = M x ∧ (M x = true → ∀ z, D.atKey (.int .i64 x) z = .lit (.bool true))
variable {w w' : World} {b n : Nat} {M : Int → Bool}
theorem SetAt.lt (h : SetAt P K E w b n M) : b < w.heap.size := by
  obtain ⟨D, ho, _⟩ := h.ex
  exact ho.lt
theorem SetAt.mono {n' : Nat} (h : SetAt P K E w b n M) (hn : n ≤ n') : SetAt P K E w b n' M := by
  obtain ⟨D, ho, hm⟩ := h.ex
  exact ⟨⟨D, ho.mono hn, hm⟩⟩
theorem SetAt.chg {S : Nat → Prop} (h : SetAt P K E w b n M) (hc : Chg S w w') (hb : ¬ S b) : SetAt P K E w' b n M := by
  obtain ⟨D, ⟨es, clock, hg, r⟩, hm⟩ := h.ex
  exact ⟨⟨D, ⟨es, clock, (hc.block b (Array.getElem?_eq_some_iff.1 hg).1 hb).trans hg, r⟩, hm⟩⟩
theorem SetAt.made (w : World) : SetAt P K E (w.alloc (.map #[] 0)) w.heap.size 0 fun _ => false :=
  ⟨⟨.map [], World.ownsMap_made _ _ _ _, fun x _ => ⟨rfl, fun h => by cases h⟩⟩⟩
theorem SetAt.ne_row {base size m : Nat} {e : TypeId} {v : Value} {xs : List Value} (h : SetAt P K E w b n M) (ho : w.ownsRow base e size v m xs) : v.ownBlock ≠ some b := by
  intro e
  rcases ho.2 with ⟨rfl, _⟩ | ⟨g, cap, cur, rfl, _, hg, _⟩
  · cases e
  · have : g = b := by simpa [Value.ownBlock] using e
    subst this
    obtain ⟨D, ⟨es, clock, hm, _⟩, _⟩ := h.ex
    rw [hm] at hg
    injection hg with hg
    cases hg
theorem SetAt.look (h : SetAt P K E w b n M) (hT : P.underlying T = some (.map K E)) (hK : P.underlying K = some (.int .i64)) (hE : P.underlying E = some .bool) (hz : ∀ w, (zeroValue E).run P w = .ok (.bool false) w) {x : Int} (hx : inKind .i64 x) :
    (Instr.lookup T (.map (some b)) (.int .i64 x) false).run P w = .ok (.bool (M x)) w := by
  obtain ⟨D, ho, hm⟩ := h.ex
  obtain ⟨v, ps, hrun, hv⟩ := ho.lookup (int_keyed hK) hT (hz w) (elem_bool hE false) (keyOf_int_mk hK hx)
  obtain ⟨c, rfl, hc⟩ := elem_bool_inv hE hv
  simp only [Prod.mk.injEq] at hc
  rw [hrun]
  obtain ⟨h1, h2⟩ := hm x hx
  cases hq : M x with
  | true =>
    have := h2 hq (.lit (.bool false))
    rw [hc.1] at this
    injection this with this
    injection this with this
    rw [this]
  | false =>
    rw [hq] at h1
    have h0 := atKey_of_not_has h1 (.lit (.bool false))
    rw [hc.1] at h0
    injection h0 with h0
    injection h0 with h0
    rw [h0]
def updB (M : Int → Bool) (x : Int) (v : Bool) : Int → Bool := fun y => if y = x then v else M y
theorem updB_or (F : Int → Bool) (x : Int) : updB F x true = fun c => F c || decide (c = x) := by
  funext c
  unfold updB
  by_cases e : c = x
  · simp [e]
  · rw [if_neg e]; simp [e]
theorem SetAt.store (h : SetAt P K E w b n M) (hT : P.underlying T = some (.map K E)) (hK : P.underlying K = some (.int .i64)) (hE : P.underlying E = some .bool) (hn : n < 1000000) {x : Int} (hx : inKind .i64 x) :
    ∃ w', (Instr.mapUpdate T (.map (some b)) (.int .i64 x) (.bool true)).run P w = .ok () w' ∧ SetAt P K E w' b (n + 1) (updB M x true) ∧ Chg (fun k => k = b) w w' := by
  obtain ⟨D, ho, hm⟩ := h.ex
  have hD := ho.isMap
  obtain ⟨w', hrun, ho', hg⟩ := ho.update (int_keyed hK) hT (by simp only [maxLen]; omega) (keyOf_int_mk hK hx) (elem_bool hE true)
  refine ⟨w', hrun, ⟨⟨_, ho', fun y hy => ?_⟩⟩, (Chg.refl _ w).grown hg fun g e _ => by injection e with e; exact e.symm⟩
  unfold updB
  by_cases e : y = x
  · subst e
    rw [if_pos rfl, has_put_same hD (keyLit .i64 y)]
    exact ⟨rfl, fun _ z => atKey_put_same hD (keyLit .i64 y) _ z⟩
  · have hne : (Lit.int .i64 y) ≠ .int .i64 x := fun h => e (by injection h)
    rw [if_neg e, has_put_other hne]
    exact ⟨(hm y hy).1, fun hq z => by rw [atKey_put_other hne]; exact (hm y hy).2 hq z⟩
theorem SetAt.drop (h : SetAt P K E w b n M) (hT : P.underlying T = some (.map K E)) (hK : P.underlying K = some (.int .i64)) {x : Int} (hx : inKind .i64 x) :
    ∃ w', (∀ ty, (Builtin.delete_ #[T, K] ty #[.map (some b), .int .i64 x]).run P w = .ok (.tuple #[]) w') ∧ SetAt P K E w' b n (updB M x false) ∧ Chg (fun k => k = b) w w' := by
  obtain ⟨D, ho, hm⟩ := h.ex
  obtain ⟨w', hrun, ho', hg⟩ := ho.drop (int_keyed hK) hT (keyOf_int_mk hK hx) 0
  refine ⟨w', fun ty => hrun, ⟨⟨_, ho', fun y hy => ?_⟩⟩, (Chg.refl _ w).grown hg.grown fun g e _ => by injection e with e; exact e.symm⟩
  unfold updB
  by_cases e : y = x
  · subst e
    rw [if_pos rfl, has_del_same]
    exact ⟨rfl, fun h => by cases h⟩
  · have hne : (Lit.int .i64 y) ≠ .int .i64 x := fun h => e (by injection h)
    rw [if_neg e, has_del_other hne]
    exact ⟨(hm y hy).1, fun hq z => by rw [atKey_del_other hne]; exact (hm y hy).2 hq z⟩
/-- how many there are: as many as on any list of them, each once -/
theorem SetAt.len (h : SetAt P K E w b n M) (hT : P.underlying T = some (.map K E)) (hK : P.underlying K = some (.int .i64)) (ks : List Int) (hnd : ks.Nodup) (hks : ∀ x, x ∈ ks ↔ (inKind .i64 x ∧ M x = true)) (ty : TypeId) :
    (Builtin.len_ #[T] ty #[.map (some b)]).run P w = .ok (.int .i64 (ks.length : Int)) w := by
  obtain ⟨D, ho, hm⟩ := h.ex
  rw [ho.len hT ty]
  obtain ⟨es, hD, hpw, _⟩ := ho.entries (int_keyed hK)
  obtain ⟨es', hD', hko⟩ := ho.keysOf
  obtain rfl : es = es' := by rw [hD] at hD'; simpa using hD'
  subst hD
  have hk : ∀ p ∈ es, ∃ x, p.1 = .int .i64 x ∧ (Lit.int .i64 x).wf = true := fun p hp => by
    obtain ⟨v, hv⟩ := hko p hp
    obtain ⟨x, _, hx, hw⟩ := Maps.keyOf_i64 hK hv
    exact ⟨x, hx, hw⟩
  have hp : ks.Perm (intKeys (.map es : DataW Unit)) := by
    refine perm_intKeys hpw (fun p hp => by obtain ⟨x, hx, _⟩ := hk p hp; exact ⟨x, hx⟩) hnd fun x => ?_
    rw [hks]
    constructor
    · rintro ⟨hi, hx⟩
      rw [(hm x hi).1, hx]
    · intro hh
      have hi : inKind .i64 x := by
        rw [has_eq, List.any_eq_true] at hh
        obtain ⟨p, hp', hs⟩ := hh
        obtain ⟨a, ha, hw⟩ := hk p hp'
        rw [ha] at hs
        have : a = x := by simpa [Lit.sameKey] using hs
        subst this
        exact hw
      exact ⟨hi, by rw [← (hm x hi).1, hh]⟩
  have hl := hp.length_eq
  rw [show (intKeys (.map es : DataW Unit)).length = es.length from List.length_map ..] at hl
  rw [hl]
  rfl
end
end Go.Proofs.Ytoddgakhiaokaaa
