/-
  Rows of payloads: their elements, read (no condition).
-/
import Derived.Test.YthgpphedpegbgaaFrameAll
namespace Go.Proofs.Ythgpphedpegbgaa
open Go.ChangeShapes Go.WideShapes Go.RowKit
namespace Frame
/-- element i of a row of payloads: the cell, and what string(..) of it is -/
theorem PartsL.at_ {lo : Nat} {w : World} {base : Nat} {v : Value} {ps : List (List UInt8)} (h : PartsL lo w base v ps) {i : Nat} (hi : i < ps.length) : ∃ g c u, v = .slice (some ⟨g, 0, none⟩) ps.length c ∧ w.cell? ⟨g, i, none⟩ = some u ∧
    Part w (fun b => lo ≤ b ∧ b < w.heap.size ∧ v.ownBlock ≠ some b) u ps[i] := by
  obtain ⟨vs, ho, hp⟩ := h.ex
  obtain ⟨g, c, rfl, _, _⟩ := World.ownsRow.form ho (by omega)
  obtain ⟨u, hu, hq⟩ := hp i ps[i] (List.getElem?_eq_getElem hi)
  exact ⟨g, c, u, rfl, by rw [World.ownsRow.cellAt ho i (by omega), hu], hq⟩
theorem Part.str {w : World} {F : Nat → Prop} {v : Value} {p : List UInt8} (h : Part w F v p) : (convert 36 9 v).run Try.prog w = .ok (.string ⟨p.toArray⟩) w := by
  obtain ⟨A, c, rfl, _, hr⟩ := h
  exact run_str Try.underlying36 Try.underlying5 Try.underlying9 hr c
theorem PartsL.form {lo : Nat} {w : World} {base : Nat} {v : Value} {ps : List (List UInt8)} (h : PartsL lo w base v ps) : ∃ A c, v = .slice A ps.length c := by
  obtain ⟨vs, ho, _⟩ := h.ex
  rcases ho.2 with ⟨rfl, h0⟩ | ⟨g, c, _, rfl, _⟩
  · exact ⟨none, 0, by rw [h0]⟩
  · exact ⟨_, c, rfl⟩
/-- v is a slice whose elements are slices of the bytes ps -/
structure PartsR (w : World) (v : Value) (ps : List (List UInt8)) : Prop where
  ex : ∃ A c vs, v = .slice A ps.length c ∧ Reads w (fun b => b < w.heap.size) 1 A ps.length vs ∧ ∀ (i : Nat) (p : List UInt8), ps[i]? = some p → ∃ u, vs[i]? = some u ∧ Part w (fun b => b < w.heap.size) u p
theorem PartsL.toR {lo : Nat} {w : World} {base : Nat} {v : Value} {ps : List (List UInt8)} (h : PartsL lo w base v ps) : PartsR w v ps := by
  obtain ⟨A, c, rfl⟩ := h.form
  obtain ⟨vs, ho, hp⟩ := h.ex
  refine ⟨⟨A, c, vs, rfl, (Reads.of_own ho).mono fun b hb => hb.2.1, fun i p hi => ?_⟩⟩
  obtain ⟨u, hu, hq⟩ := hp i p hi
  exact ⟨u, hu, hq.mono fun b hb => hb.2.1⟩
theorem PartsR.new {w w' : World} {v : Value} {ps : List (List UInt8)} (h : PartsR w v ps) (hc : New w w') : PartsR w' v ps := by
  obtain ⟨A, c, vs, rfl, hr, hp⟩ := h.ex
  refine ⟨⟨A, c, vs, rfl, (hr.chg' hc (fun _ _ => id) (by omega)).mono fun b hb => Nat.lt_of_lt_of_le hb hc.size, fun i p hi => ?_⟩⟩
  obtain ⟨u, hu, hq⟩ := hp i p hi
  exact ⟨u, hu, (hq.new hc).mono fun b hb => Nat.lt_of_lt_of_le hb hc.size⟩
theorem PartsR.at_ {w : World} {A : Option Addr} {n c : Nat} {ps : List (List UInt8)} (h : PartsR w (.slice A n c) ps) {i : Nat} (hi : i < ps.length) : ∃ ad u, A = some ad ∧ ∀ W, New w W → W.cell? (ad.add i) = some u ∧ (convert 36 9 u).run Try.prog W = .ok (.string ⟨(ps.getD i []).toArray⟩) W := by
  obtain ⟨A', c', vs, hv, hr, hp⟩ := h.ex
  injection hv with h1 h2 h3
  subst h1
  obtain ⟨ad, u, rfl, hb, hu, hc⟩ := hr.at_ hi
  obtain ⟨u', hu', hq⟩ := hp i ps[i] (List.getElem?_eq_getElem hi)
  rw [hu] at hu'
  injection hu' with hu'
  subst hu'
  refine ⟨ad, u, rfl, fun W hW => ⟨(hW.cell (p := ad.add i) (by rw [block_of_add]; exact hb) id).trans hc, ?_⟩⟩
  have := (hq.new hW).str
  rw [show ps.getD i [] = ps[i] by simp [List.getD_eq_getElem?_getD, hi]]
  exact this
theorem PartsR.form {w : World} {v : Value} {ps : List (List UInt8)} (h : PartsR w v ps) : ∃ A c, v = .slice A ps.length c := by
  obtain ⟨A, c, _, h, _⟩ := h.ex
  exact ⟨A, c, h⟩
end Frame
end Go.Proofs.Ythgpphedpegbgaa
