/-
  A disk as a list of bytes of which the first s are synced: what writing, syncing, resetting, crashing and spoiling come to (plain lists; no program).
-/
import Derived.Test.YthgpphedpegbgaaRows
namespace Go.Proofs.Ythgpphedpegbgaa
namespace Disk
structure Dsk where
  b : List UInt8
  s : Nat
def Dsk.ok (d : Dsk) : Prop := d.s ≤ d.b.length ∧ d.b.length ≤ 1048576
def fresh : Dsk := ⟨[], 0⟩
theorem fresh_ok : fresh.ok := ⟨Nat.le_refl _, by simp [fresh]⟩
def writeE (d : Dsk) (n : Nat) : Int := if 1048576 < d.b.length + n then 6 else 0
def writeF (d : Dsk) (xs : List UInt8) : Dsk := if 1048576 < d.b.length + xs.length then d else ⟨d.b ++ xs, d.s⟩
theorem write_ok {d : Dsk} (h : d.ok) (xs : List UInt8) : (writeF d xs).ok := by
  unfold writeF
  split
  · exact h
  · have h1 := h.1
    refine ⟨?_, ?_⟩ <;> simp only [List.length_append] <;> omega
def syncF (d : Dsk) : Dsk := ⟨d.b, d.b.length⟩
theorem sync_ok {d : Dsk} (h : d.ok) : (syncF d).ok := ⟨Nat.le_refl _, h.2⟩
def resetE (n : Nat) : Int := if 1048576 < n then 6 else 0
def resetF (d : Dsk) (xs : List UInt8) : Dsk := if 1048576 < xs.length then d else ⟨xs, xs.length⟩
theorem reset_ok {d : Dsk} (h : d.ok) (xs : List UInt8) : (resetF d xs).ok := by
  unfold resetF
  split
  · exact h
  · exact ⟨Nat.le_refl _, by simp only; omega⟩
/-- byte i turned -/
def turn (l : List UInt8) (i : Nat) (y : UInt8) : List UInt8 := l.set i (l.getD i 0 ^^^ y)
theorem turn_length (l : List UInt8) (i : Nat) (y : UInt8) : (turn l i y).length = l.length := by simp [turn]
/-- how many of the tail are kept -/
def keepN (d : Dsk) (keep : Int) : Nat := min keep.toNat (d.b.length - d.s)
theorem keepN_le (d : Dsk) (keep : Int) : keepN d keep ≤ d.b.length - d.s := Nat.min_le_right ..
def crashB (d : Dsk) (k : Nat) (at_ : Int) (y : UInt8) : List UInt8 := if 0 ≤ at_ ∧ at_ < k then turn d.b (d.s + at_.toNat) y else d.b
theorem crashB_length (d : Dsk) (k : Nat) (at_ : Int) (y : UInt8) : (crashB d k at_ y).length = d.b.length := by
  unfold crashB
  split
  · exact turn_length ..
  · rfl
def crashF (d : Dsk) (keep at_ : Int) (y : UInt8) : Dsk := ⟨(crashB d (keepN d keep) at_ y).take (d.s + keepN d keep), d.s⟩
theorem crash_ok {d : Dsk} (h : d.ok) (keep at_ : Int) (y : UInt8) : (crashF d keep at_ y).ok := by
  have h1 := keepN_le d keep
  have h2 := h.1
  have h3 := h.2
  refine ⟨?_, ?_⟩ <;> simp only [crashF, List.length_take, crashB_length] <;> omega
def spoilF (d : Dsk) (at_ : Int) (y : UInt8) : Dsk := if 0 ≤ at_ ∧ at_ < d.b.length then ⟨turn d.b at_.toNat y, d.s⟩ else d
theorem spoil_ok {d : Dsk} (h : d.ok) (at_ : Int) (y : UInt8) : (spoilF d at_ y).ok := by
  unfold spoilF
  split
  · exact ⟨by simp only [turn_length]; exact h.1, by simp only [turn_length]; exact h.2⟩
  · exact h
theorem u8_xor (x y : UInt8) : (x ^^^ y).toNat = x.toNat ^^^ y.toNat := by simp
end Disk
end Go.Proofs.Ythgpphedpegbgaa
