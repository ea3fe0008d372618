/-
  What the document's reference computes of the payload at the beginning of any bytes: the same (no condition beyond the sizes).
-/
import Derived.Test.YthgpphedpegbgaaFrameTake
namespace Go.Proofs.Ythgpphedpegbgaa
open Go.ChangeShapes Go.WideShapes Go.RowKit
namespace Frame
/-- v is a slice of the bytes p, in blocks that meet F -/
def Part (w : World) (F : Nat → Prop) (v : Value) (p : List UInt8) : Prop := ∃ A c, v = .slice A p.length c ∧ p.length ≤ c ∧ Reads w F 1 A p.length (u8s p)
theorem Part.nil (w : World) (F : Nat → Prop) : Part w F (.slice none 0 0) [] := ⟨none, 0, rfl, Nat.le_refl _, Reads.none_ _⟩
theorem Part.of_own {w : World} {base : Nat} {v : Value} {p : List UInt8} (h : OwnB w base v p) : Part w (fun b => base ≤ b ∧ b < w.heap.size) v p := by
  obtain ⟨A, c, rfl, hl, _, _, hr⟩ := h.form
  exact ⟨A, c, rfl, hl, hr.mono fun b hb => ⟨hb.1, hb.2.1⟩⟩
theorem Part.new {w w' : World} {F : Nat → Prop} {v : Value} {p : List UInt8} (h : Part w F v p) (hc : New w w') : Part w' F v p := by
  obtain ⟨A, c, rfl, hl, hr⟩ := h
  exact ⟨A, c, rfl, hl, hr.chg' hc (fun _ _ => id) (by omega)⟩
theorem Part.mono {w : World} {F G : Nat → Prop} {v : Value} {p : List UInt8} (h : Part w F v p) (hFG : ∀ b, F b → G b) : Part w G v p := by
  obtain ⟨A, c, rfl, hl, hr⟩ := h
  exact ⟨A, c, rfl, hl, hr.mono hFG⟩
/-- string(b) of a literal that lies in block g -/
theorem lit_str {w W : World} {g n : Nat} {l : List UInt8} {t : TypeId} (hg : w.heap.size = g) (hn : l.length = n) (hW : New (w.alloc (.cells (u8s l).toArray t)) W) :
    (convert 36 9 (.slice (some ⟨g, 0, none⟩) n n)).run Try.prog W = .ok (.string ⟨l.toArray⟩) W := by
  subst hg
  subst hn
  exact run_str (P := Try.prog) Try.underlying36 Try.underlying5 Try.underlying9 ((reads_lit w l (0, 0) t).chg' hW (fun _ _ => id) (by omega)) l.length
theorem beq_bne {xs ys : List UInt8} {b : Bool} (h : (xs == ys) = b) : (xs != ys) = !b := by rw [← h]; rfl
end Frame
end Go.Proofs.Ythgpphedpegbgaa
