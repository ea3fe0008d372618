/-
  Maps of the call's own, from whole numbers to whole numbers, as functions (no condition beyond the kinds' bounds).
-/
import Derived.Test.YtoddgakhiaokaaaMem
import Derived.Maps.OwnSet
import Derived.Maps.OwnOps
namespace Go.Proofs.Ytoddgakhiaokaaa
open Go.ChangeShapes Go.WideShapes Go.RowKit Go.Maps
section
variable {P : Program} {K E T : TypeId} {kk q : IntKind}
/-- a number of kind k -/
def inKind (k : IntKind) (x : Int) : Prop := (Lit.int k x).wf = true
/-- block b is a map, of at most n entries, that holds M -/
structure MapAt (P : Program) (K E : TypeId) (kk q : IntKind) (w : World) (b n : Nat) (M : Int → Option Int) : Prop where
  ex : ∃ D : DataW Unit, w.ownsMap P K (plainElem P E) b n D ∧ ∀ x, inKind kk x → M x = if has D (.int kk x) then (match D.atKey (.int kk x) (.lit (.int q 0)) with | .lit (.int _ c) => some c | _ => none) else none
  kind : ∀ x c, M x = some c → inKind q c
variable {w w' : World} {b n : Nat} {M : Int → Option Int}
theorem MapAt.lt (h : MapAt P K E kk q w b n M) : b < w.heap.size := by
  obtain ⟨D, ho, _⟩ := h.ex
  exact ho.lt
theorem MapAt.mono {n' : Nat} (h : MapAt P K E kk q w b n M) (hn : n ≤ n') : MapAt P K E kk q w b n' M := by
  obtain ⟨D, ho, hm⟩ := h.ex
  exact ⟨⟨D, ho.mono hn, hm⟩, h.kind⟩
theorem MapAt.chg {S : Nat → Prop} (h : MapAt P K E kk q w b n M) (hc : Chg S w w') (hb : ¬ S b) : MapAt P K E kk q w' b n M := by
  obtain ⟨D, ⟨es, clock, hg, r⟩, hm⟩ := h.ex
  exact ⟨⟨D, ⟨es, clock, (hc.block b (Array.getElem?_eq_some_iff.1 hg).1 hb).trans hg, r⟩, hm⟩, h.kind⟩
theorem MapAt.made (w : World) : MapAt P K E kk q (w.alloc (.map #[] 0)) w.heap.size 0 fun _ => none :=
  ⟨⟨.map [], World.ownsMap_made _ _ _ _, fun x _ => rfl⟩, fun _ _ h => by cases h⟩
theorem MapAt.ne_blk {g : Nat} {t : TypeId} {cs : Array Value} (h : MapAt P K E kk q w b n M) (hg : Blk w g t cs) : b ≠ g := by
  rintro rfl
  obtain ⟨D, ⟨es, clock, hm, _⟩, _⟩ := h.ex
  unfold Blk at hg
  rw [hm] at hg
  injection hg with hg
  cases hg
theorem MapAt.ne_row {base size m : Nat} {e : TypeId} {v : Value} {xs : List Value} (h : MapAt P K E kk q w b n M) (ho : w.ownsRow base e size v m xs) : v.ownBlock ≠ some b := by
  intro e
  rcases ho.2 with ⟨rfl, _⟩ | ⟨g, cap, cur, rfl, _, hg, _⟩
  · cases e
  · have : g = b := by simpa [Value.ownBlock] using e
    subst this
    obtain ⟨D, ⟨es, clock, hm, _⟩, _⟩ := h.ex
    rw [hm] at hg
    injection hg with hg
    cases hg
theorem zero_wf (q : IntKind) : (Lit.int q 0).wf = true := by cases q <;> decide
/-- v, ok := m[x] -/
theorem MapAt.look_ok (h : MapAt P K E kk q w b n M) (hT : P.underlying T = some (.map K E)) (hK : P.underlying K = some (.int kk)) (hE : P.underlying E = some (.int q)) (hz : ∀ w, (zeroValue E).run P w = .ok (.int q 0) w) {x : Int} (hx : inKind kk x) :
    (Instr.lookup T (.map (some b)) (.int kk x) true).run P w = .ok (.tuple #[.int q ((M x).getD 0), .bool (M x).isSome]) w := by
  obtain ⟨D, ho, hm⟩ := h.ex
  obtain ⟨v, ps, hrun, hv⟩ := ho.look_ok (int_keyed hK) hT (hz w) (plainElem_int hE (zero_wf q)) (keyOf_int_mk hK hx)
  obtain ⟨c, rfl, hc, _⟩ := plainElem_int_inv hE hv
  simp only [Prod.mk.injEq] at hc
  rw [hrun]
  have := hm x hx
  rw [hc.1] at this
  cases hh : has D (.int kk x) with
  | true =>
    rw [hh, if_pos rfl] at this
    rw [this]
    rfl
  | false =>
    rw [hh] at this
    have h0 := atKey_of_not_has hh (.lit (.int q 0))
    rw [hc.1] at h0
    have : M x = none := by simpa using this
    rw [this]
    injection h0 with h0
    injection h0 with _ h0
    rw [h0]
    rfl
/-- m[x] -/
theorem MapAt.look (h : MapAt P K E kk q w b n M) (hT : P.underlying T = some (.map K E)) (hK : P.underlying K = some (.int kk)) (hE : P.underlying E = some (.int q)) (hz : ∀ w, (zeroValue E).run P w = .ok (.int q 0) w) {x : Int} (hx : inKind kk x) :
    (Instr.lookup T (.map (some b)) (.int kk x) false).run P w = .ok (.int q ((M x).getD 0)) w := by
  obtain ⟨D, ho, hm⟩ := h.ex
  obtain ⟨c, hrun, hat, _⟩ := ho.lookup_int (int_keyed hK) hT hE (hz w) (keyOf_int_mk hK hx)
  rw [hrun]
  have := hm x hx
  rw [hat] at this
  cases hh : has D (.int kk x) with
  | true =>
    rw [hh, if_pos rfl] at this
    rw [this]
    rfl
  | false =>
    rw [hh] at this
    have h0 := atKey_of_not_has hh (.lit (.int q 0))
    rw [hat] at h0
    have : M x = none := by simpa using this
    rw [this]
    injection h0 with h0
    injection h0 with _ h0
    rw [h0]
    rfl
def upd (M : Int → Option Int) (x : Int) (v : Option Int) : Int → Option Int := fun y => if y = x then v else M y
theorem keyLit (kk : IntKind) (x : Int) : WideAt.IsKeyLit (.int kk x) := trivial
/-- m[x] = c -/
theorem MapAt.store (h : MapAt P K E kk q w b n M) (hT : P.underlying T = some (.map K E)) (hK : P.underlying K = some (.int kk)) (hE : P.underlying E = some (.int q)) (hn : n < 1000000) {x c : Int} (hx : inKind kk x) (hc : inKind q c) :
    ∃ w', (Instr.mapUpdate T (.map (some b)) (.int kk x) (.int q c)).run P w = .ok () w' ∧ MapAt P K E kk q w' b (n + 1) (upd M x (some c)) ∧ Chg (fun k => k = b) w w' := by
  obtain ⟨D, ho, hm⟩ := h.ex
  have hD := ho.isMap
  obtain ⟨w', hrun, ho', hg⟩ := ho.update (int_keyed hK) hT (by simp only [maxLen]; omega) (keyOf_int_mk hK hx) (plainElem_int hE hc)
  refine ⟨w', hrun, ⟨⟨_, ho', fun y hy => ?_⟩, fun y d hd => ?_⟩, (Chg.refl _ w).grown hg fun g e _ => by injection e with e; exact e.symm⟩
  · unfold upd
    by_cases e : y = x
    · subst e
      rw [if_pos rfl, has_put_same hD (keyLit kk y), if_pos rfl, atKey_put_same hD (keyLit kk y)]
    · have hne : (Lit.int kk y) ≠ .int kk x := fun h => e (by injection h)
      rw [if_neg e, has_put_other hne, atKey_put_other hne]
      exact hm y hy
  · unfold upd at hd
    split at hd
    · injection hd with hd
      exact hd ▸ hc
    · exact h.kind y d hd
/-- delete(m, x) -/
theorem MapAt.drop (h : MapAt P K E kk q w b n M) (hT : P.underlying T = some (.map K E)) (hK : P.underlying K = some (.int kk)) {x : Int} (hx : inKind kk x) :
    ∃ w', (∀ ty, (Builtin.delete_ #[T, K] ty #[.map (some b), .int kk x]).run P w = .ok (.tuple #[]) w') ∧ MapAt P K E kk q w' b n (upd M x none) ∧ Chg (fun k => k = b) w w' := by
  obtain ⟨D, ho, hm⟩ := h.ex
  obtain ⟨w', hrun, ho', hg⟩ := ho.drop (int_keyed hK) hT (keyOf_int_mk hK hx) 0
  refine ⟨w', fun ty => hrun, ⟨⟨_, ho', fun y hy => ?_⟩, fun y d hd => ?_⟩, (Chg.refl _ w).grown hg.grown fun g e _ => by injection e with e; exact e.symm⟩
  · unfold upd
    by_cases e : y = x
    · subst e
      rw [if_pos rfl, has_del_same]
      rfl
    · have hne : (Lit.int kk y) ≠ .int kk x := fun h => e (by injection h)
      rw [if_neg e, has_del_other hne, atKey_del_other hne]
      exact hm y hy
  · unfold upd at hd
    split at hd
    · cases hd
    · exact h.kind y d hd
end
end Go.Proofs.Ytoddgakhiaokaaa
