/-
  The program's num package: Signed, Text, and a reader's fields (no condition beyond the sizes).
-/
import Derived.Test.YtkmkpdmjdfbpjaaGreatDoorJ1
import Derived.Lib.AppendStr
/- Numbers and texts as bytes, and read again, in plain words (no condition). -/
namespace Go.Proofs.YtkmkpdmjdfbpjaaGreatDoor
set_option linter.unusedSimpArgs false
set_option linter.unusedVariables false
namespace Num
/-- a number's bytes, the low seven bits first -/
def digits (n : Nat) : List UInt8 := if n < 128 then [UInt8.ofNat n] else UInt8.ofNat (n % 128 + 128) :: digits (n / 128)
termination_by n
decreasing_by omega
theorem digits_low {n : Nat} (h : n < 128) : digits n = [UInt8.ofNat n] := by rw [digits, if_pos h]
theorem digits_high {n : Nat} (h : ¬ n < 128) : digits n = UInt8.ofNat (n % 128 + 128) :: digits (n / 128) := by rw [digits, if_neg h]
theorem digits_len : ∀ (k n : Nat), n < 128 ^ (k + 1) → (digits n).length ≤ k + 1
  | 0, n, h => by rw [digits_low (by simpa using h)]; simp
  | k + 1, n, h => by
    by_cases h1 : n < 128
    · rw [digits_low h1]; simp
    · rw [digits_high h1, List.length_cons]
      have := digits_len k (n / 128) (by rw [Nat.div_lt_iff_lt_mul (by decide)]; rw [Nat.pow_succ] at h; exact h)
      omega
theorem digits_pos (n : Nat) : 0 < (digits n).length := by
  by_cases h1 : n < 128
  · rw [digits_low h1]; simp
  · rw [digits_high h1]; simp
def putB (n : Int) : List UInt8 := if 0 ≤ n ∧ n ≤ 4611686018427387903 then digits n.toNat else []
theorem putB_len (n : Int) : (putB n).length ≤ 9 := by
  unfold putB
  split
  · exact digits_len 8 _ (by omega)
  · simp
theorem putB_at {n : Nat} (h : n ≤ 4611686018427387903) : putB (n : Int) = digits n := by
  unfold putB
  rw [if_pos ⟨by omega, by omega⟩, Int.toNat_natCast]
def signedB (n : Int) : List UInt8 := if n < -1152921504606846976 ∨ 1152921504606846976 < n then [] else if n < 0 then putB (-2 * n - 1) else putB (2 * n)
theorem signedB_len (n : Int) : (signedB n).length ≤ 9 := by
  unfold signedB
  split
  · simp
  · split
    · exact putB_len _
    · exact putB_len _
def textB (s : List UInt8) : List UInt8 := putB s.length ++ s
theorem textB_len (s : List UInt8) : (textB s).length ≤ s.length + 9 := by
  unfold textB
  rw [List.length_append]
  have := putB_len s.length
  omega
/-- the number at the beginning, behind i bytes that come to acc; and how many bytes it has -/
def takeGo (i acc : Nat) : List UInt8 → Option (Nat × Nat)
  | [] => none
  | c :: l => if 9 ≤ i then none else if c.toNat < 128 then (if (c.toNat = 0 ∧ 0 < i) ∨ 4611686018427387903 < acc + c.toNat % 128 * 2 ^ (7 * i) then none else some (acc + c.toNat % 128 * 2 ^ (7 * i), i + 1)) else takeGo (i + 1) (acc + c.toNat % 128 * 2 ^ (7 * i)) l
theorem take_digits (rest : List UInt8) : ∀ (k m i acc : Nat), m < k → acc + m * 2 ^ (7 * i) ≤ 4611686018427387903 → i + (digits m).length ≤ 9 → (i = 0 ∨ 0 < m) → takeGo i acc (digits m ++ rest) = some (acc + m * 2 ^ (7 * i), i + (digits m).length)
  | 0, m, i, acc, hk, _, _, _ => absurd hk (by omega)
  | k + 1, m, i, acc, hk, h, h9, h0 => by
    by_cases h1 : m < 128
    · rw [digits_low h1] at h9 ⊢
      have e : (UInt8.ofNat m).toNat = m := by simp; omega
      simp only [List.cons_append, List.nil_append, takeGo, e, List.length_cons, List.length_nil] at h9 ⊢
      rw [if_neg (by omega), if_pos h1, Nat.mod_eq_of_lt h1, if_neg (by omega)]
    · rw [digits_high h1] at h9 ⊢
      have e : (UInt8.ofNat (m % 128 + 128)).toNat = m % 128 + 128 := by simp; omega
      simp only [List.cons_append, takeGo, e, List.length_cons] at h9 ⊢
      rw [if_neg (by omega), if_neg (by omega), show (m % 128 + 128) % 128 = m % 128 by omega]
      have e2 : acc + m % 128 * 2 ^ (7 * i) + m / 128 * 2 ^ (7 * (i + 1)) = acc + m * 2 ^ (7 * i) := by
        rw [show 7 * (i + 1) = 7 * i + 7 by omega, Nat.pow_add, show (2 : Nat) ^ 7 = 128 by decide, ← Nat.mul_assoc, Nat.mul_right_comm, Nat.add_assoc, ← Nat.add_mul]
        congr 2
        omega
      rw [take_digits rest k (m / 128) (i + 1) _ (by omega) (by rw [e2]; exact h) (by omega) (.inr (by omega)), e2]
      congr 2
      omega
theorem take_put {n : Nat} (h : n ≤ 4611686018427387903) (rest : List UInt8) : takeGo 0 0 (digits n ++ rest) = some (n, (digits n).length) := by
  have := take_digits rest (n + 1) n 0 0 (by omega) (by simpa using h) (by have := digits_len 8 n (by omega); omega) (.inl rfl)
  simpa using this
theorem takeGo_app (q : List UInt8) : ∀ (l : List UInt8) (i acc : Nat) {n k : Nat}, takeGo i acc l = some (n, k) → takeGo i acc (l ++ q) = some (n, k)
  | [], _, _, _, _, h => by simp [takeGo] at h
  | c :: l, i, acc, n, k, h => by
    simp only [List.cons_append, takeGo] at h ⊢
    split at h
    · cases h
    · rename_i h1
      rw [if_neg h1]
      split at h
      · rename_i h2
        rw [if_pos h2]
        exact h
      · rename_i h2
        rw [if_neg h2]
        exact takeGo_app q l _ _ h
theorem takeGo_len : ∀ (l : List UInt8) (i acc : Nat) {n k : Nat}, takeGo i acc l = some (n, k) → i < k ∧ k ≤ i + l.length ∧ k ≤ 9 ∧ n ≤ 4611686018427387903
  | [], _, _, _, _, h => by simp [takeGo] at h
  | c :: l, i, acc, n, k, h => by
    simp only [takeGo] at h
    split at h
    · cases h
    · split at h
      · split at h
        · cases h
        · injection h with h
          injection h with h1 h2
          rw [List.length_cons]
          omega
      · have := takeGo_len l _ _ h
        rw [List.length_cons]
        omega
/-- what is left to read; whether something failed -/
structure Rd where
  l : List UInt8
  bad : Bool
def numP (most : Int) (s : Rd) : Int × Rd := if s.bad = true then (0, s) else match takeGo 0 0 s.l with
  | none => (0, ⟨s.l, true⟩)
  | some (n, k) => if most < (n : Int) then (0, ⟨s.l, true⟩) else ((n : Int), ⟨s.l.drop k, false⟩)
def signedP (s : Rd) : Int × Rd := (if (numP 2305843009213693952 s).1 % 2 = 1 then -((numP 2305843009213693952 s).1 / 2) - 1 else (numP 2305843009213693952 s).1 / 2, (numP 2305843009213693952 s).2)
def textP (most : Int) (s : Rd) : List UInt8 × Rd := if (numP most s).2.bad = true then ([], (numP most s).2) else if ((numP most s).2.l.length : Int) < (numP most s).1 then ([], ⟨(numP most s).2.l, true⟩) else
  ((numP most s).2.l.take (numP most s).1.toNat, ⟨(numP most s).2.l.drop (numP most s).1.toNat, false⟩)
theorem numP_bad {most : Int} {s : Rd} (h : s.bad = true) : numP most s = (0, s) := by unfold numP; rw [if_pos h]
theorem numP_range (most : Int) (hm : 0 ≤ most) (s : Rd) : 0 ≤ (numP most s).1 ∧ (numP most s).1 ≤ most := by
  unfold numP
  split
  · exact ⟨Int.le_refl _, hm⟩
  · split
    · exact ⟨Int.le_refl _, hm⟩
    · split
      · exact ⟨Int.le_refl _, hm⟩
      · dsimp only; omega
theorem numP_put {n most : Int} (h0 : 0 ≤ n) (h : n ≤ most) (hm : most ≤ 4611686018427387903) (rest : List UInt8) : numP most ⟨putB n ++ rest, false⟩ = (n, ⟨rest, false⟩) := by
  unfold numP putB
  rw [if_neg (by simp), if_pos ⟨h0, by omega⟩]
  dsimp only
  rw [take_put (by omega) rest]
  dsimp only
  rw [if_neg (by omega), List.drop_left]
  congr 1
  omega
theorem numP_app {most : Int} {l l' : List UInt8} {n : Int} (h : numP most ⟨l, false⟩ = (n, ⟨l', false⟩)) (q : List UInt8) : numP most ⟨l ++ q, false⟩ = (n, ⟨l' ++ q, false⟩) := by
  unfold numP at h ⊢
  rw [if_neg (by simp)] at h ⊢
  dsimp only at h ⊢
  cases ht : takeGo 0 0 l with
  | none => rw [ht] at h; simp at h
  | some p =>
    obtain ⟨m, k⟩ := p
    rw [ht] at h
    rw [takeGo_app q l 0 0 ht]
    dsimp only at h ⊢
    split at h
    · simp at h
    · rename_i hm
      rw [if_neg hm]
      simp only [Prod.mk.injEq, Rd.mk.injEq] at h ⊢
      have := takeGo_len l 0 0 ht
      exact ⟨h.1, by rw [List.drop_append_of_le_length (by omega), h.2.1], trivial⟩
theorem signedP_put {n : Int} (h0 : -1152921504606846976 ≤ n) (h : n ≤ 1152921504606846976) (rest : List UInt8) : signedP ⟨signedB n ++ rest, false⟩ = (n, ⟨rest, false⟩) := by
  have hs : signedB n = if n < 0 then putB (-2 * n - 1) else putB (2 * n) := by
    unfold signedB
    rw [if_neg (by omega)]
  unfold signedP
  rw [hs]
  by_cases hn : n < 0
  · rw [if_pos hn, numP_put (by omega) (by omega) (by decide)]
    dsimp only
    rw [if_pos (by omega)]
    congr 1
    omega
  · rw [if_neg hn, numP_put (by omega) (by omega) (by decide)]
    dsimp only
    rw [if_neg (by omega)]
    congr 1
    omega
theorem signedP_app {l l' : List UInt8} {n : Int} (h : signedP ⟨l, false⟩ = (n, ⟨l', false⟩)) (q : List UInt8) : signedP ⟨l ++ q, false⟩ = (n, ⟨l' ++ q, false⟩) := by
  unfold signedP at h ⊢
  simp only [Prod.mk.injEq] at h
  have := numP_app (most := 2305843009213693952) (n := (numP 2305843009213693952 ⟨l, false⟩).1) (Prod.ext rfl h.2) q
  rw [this]
  exact Prod.ext h.1 rfl
theorem textP_put {s : List UInt8} {most : Int} (h : (s.length : Int) ≤ most) (hm : most ≤ 4611686018427387903) (rest : List UInt8) : textP most ⟨textB s ++ rest, false⟩ = (s, ⟨rest, false⟩) := by
  unfold textP textB
  rw [List.append_assoc, numP_put (by omega) h hm]
  dsimp only
  rw [if_neg (by simp), if_neg (by rw [List.length_append]; omega), Int.toNat_natCast, List.take_left, List.drop_left]
theorem textP_app {most : Int} {l l' s : List UInt8} (h : textP most ⟨l, false⟩ = (s, ⟨l', false⟩)) (q : List UInt8) : textP most ⟨l ++ q, false⟩ = (s, ⟨l' ++ q, false⟩) := by
  unfold textP at h ⊢
  obtain ⟨n, s1⟩ : ∃ n, n = numP most ⟨l, false⟩ := ⟨_, rfl⟩
  rw [← s1] at h
  obtain ⟨a, r⟩ := n
  obtain ⟨l1, b1⟩ := r
  cases b1 with
  | true => simp at h
  | false =>
    have hr := numP_range most
    rw [numP_app s1.symm q]
    dsimp only at h ⊢
    rw [if_neg (by simp)] at h ⊢
    split at h
    · simp at h
    · rename_i hm
      rw [if_neg (by rw [List.length_append]; omega)]
      simp only [Prod.mk.injEq, Rd.mk.injEq] at h ⊢
      rw [List.take_append_of_le_length (by omega), List.drop_append_of_le_length (by omega), h.1, h.2.1]
      exact ⟨rfl, rfl, trivial⟩
theorem signedP_bad {s : Rd} (h : s.bad = true) : (signedP s).2 = s := by unfold signedP; rw [numP_bad h]
theorem textP_bad {most : Int} {s : Rd} (h : s.bad = true) : (textP most s).2 = s := by
  unfold textP
  rw [numP_bad h]
  dsimp only
  rw [if_pos h]
/-- what is put, and read -/
inductive It where
  | n (v : Int)
  | z (v : Int)
  | t (v : List UInt8)
def It.put : It → List UInt8
  | .n v => putB v
  | .z v => signedB v
  | .t v => textB v
def It.ok : It → Prop
  | .n v => 0 ≤ v ∧ v ≤ 4611686018427387903
  | .z v => -1152921504606846976 ≤ v ∧ v ≤ 1152921504606846976
  | .t v => v.length ≤ 1048576
/-- one of the same kind is read -/
def It.read : It → Rd → It × Rd
  | It.n _, s => (.n (numP 4611686018427387903 s).1, (numP 4611686018427387903 s).2)
  | .z _, s => (.z (signedP s).1, (signedP s).2)
  | It.t _, s => (.t (textP 1048576 s).1, (textP 1048576 s).2)
def putAll (xs : List It) : List UInt8 := xs.flatMap It.put
def readAll : List It → Rd → List It × Rd
  | [], s => ([], s)
  | x :: xs, s => ((x.read s).1 :: (readAll xs (x.read s).2).1, (readAll xs (x.read s).2).2)
theorem It.read_put {x : It} (h : x.ok) (rest : List UInt8) : x.read ⟨x.put ++ rest, false⟩ = (x, ⟨rest, false⟩) := by
  cases x with
  | n v => simp only [It.read, It.put]; rw [numP_put h.1 h.2 (by decide)]
  | z v => simp only [It.read, It.put]; rw [signedP_put h.1 h.2]
  | t v => simp only [It.read, It.put]; rw [textP_put (by have : v.length ≤ 1048576 := h; omega) (by decide)]
theorem It.read_bad (x : It) {s : Rd} (h : s.bad = true) : (x.read s).2 = s := by
  cases x with
  | n v => simp only [It.read]; rw [numP_bad h]
  | z v => simp only [It.read]; rw [signedP_bad h]
  | t v => simp only [It.read]; rw [textP_bad h]
theorem It.read_app (x : It) {l l' : List UInt8} {y : It} (h : x.read ⟨l, false⟩ = (y, ⟨l', false⟩)) (q : List UInt8) : x.read ⟨l ++ q, false⟩ = (y, ⟨l' ++ q, false⟩) := by
  cases x with
  | n v =>
    simp only [It.read, Prod.mk.injEq] at h ⊢
    rw [numP_app (Prod.ext rfl h.2) q]
    exact ⟨h.1, rfl⟩
  | z v =>
    simp only [It.read, Prod.mk.injEq] at h ⊢
    rw [signedP_app (Prod.ext rfl h.2) q]
    exact ⟨h.1, rfl⟩
  | t v =>
    simp only [It.read, Prod.mk.injEq] at h ⊢
    rw [textP_app (Prod.ext rfl h.2) q]
    exact ⟨h.1, rfl⟩
theorem readAll_put : ∀ {xs : List It}, (∀ x ∈ xs, x.ok) → ∀ rest, readAll xs ⟨putAll xs ++ rest, false⟩ = (xs, ⟨rest, false⟩)
  | [], _, rest => rfl
  | x :: xs, h, rest => by
    have h1 := It.read_put (h x (List.mem_cons_self ..)) (putAll xs ++ rest)
    have h2 := readAll_put (fun y hy => h y (List.mem_cons_of_mem _ hy)) rest
    have e : putAll (x :: xs) ++ rest = x.put ++ (putAll xs ++ rest) := by simp [putAll]
    rw [e]
    unfold readAll
    rw [h1, h2]
theorem readAll_bad : ∀ (xs : List It) {s : Rd}, s.bad = true → (readAll xs s).2 = s
  | [], _, _ => rfl
  | x :: xs, s, h => by
    unfold readAll
    dsimp only
    rw [x.read_bad h]
    exact readAll_bad xs h
theorem readAll_app (q : List UInt8) : ∀ (xs : List It) {l l' : List UInt8} {ys : List It}, readAll xs ⟨l, false⟩ = (ys, ⟨l', false⟩) → readAll xs ⟨l ++ q, false⟩ = (ys, ⟨l' ++ q, false⟩)
  | [], l, l', ys, h => by
    simp only [readAll, Prod.mk.injEq, Rd.mk.injEq] at h ⊢
    exact ⟨h.1, by rw [h.2.1], trivial⟩
  | x :: xs, l, l', ys, h => by
    unfold readAll at h ⊢
    obtain ⟨y, s1, hs⟩ : ∃ y s1, x.read ⟨l, false⟩ = (y, s1) := ⟨_, _, rfl⟩
    rw [hs] at h
    obtain ⟨l1, b1⟩ := s1
    cases b1 with
    | true =>
      simp only [Prod.mk.injEq] at h
      rw [readAll_bad xs rfl] at h
      have := h.2
      simp at this
    | false =>
      rw [x.read_app hs q]
      simp only [Prod.mk.injEq] at h ⊢
      have := readAll_app q xs (l := l1) (l' := l') (ys := (readAll xs ⟨l1, false⟩).1) (Prod.ext rfl h.2)
      rw [this]
      exact ⟨h.1, rfl⟩
/-- of a part of the bytes nothing is read -/
theorem readAll_cut {xs : List It} (h : ∀ x ∈ xs, x.ok) {p q : List UInt8} (hp : putAll xs = p ++ q) (hq : q ≠ []) : (readAll xs ⟨p, false⟩).2.bad = true := by
  cases hb : (readAll xs ⟨p, false⟩).2.bad with
  | true => rfl
  | false =>
    have h1 := readAll_app q xs (l := p) (l' := (readAll xs ⟨p, false⟩).2.l) (ys := (readAll xs ⟨p, false⟩).1) (Prod.ext rfl (by
      obtain ⟨r, hr⟩ : ∃ r, (readAll xs ⟨p, false⟩).2 = r := ⟨_, rfl⟩
      rw [hr] at hb ⊢
      obtain ⟨l, b⟩ := r
      cases hb
      rfl))
    have h2 := readAll_put h []
    rw [List.append_nil, hp, h1] at h2
    simp only [Prod.mk.injEq, Rd.mk.injEq, List.append_eq_nil_iff] at h2
    exact (hq h2.2.1.2).elim
end Num
end Go.Proofs.YtkmkpdmjdfbpjaaGreatDoor

/- []byte: append of bytes onto a row of the call's own; strings of bytes (no condition beyond the rows' sizes). -/
namespace Go.Proofs.YtkmkpdmjdfbpjaaGreatDoor
open Go.ChangeShapes Go.WideShapes Go.RowKit

/-- v is a slice of the call's own (its block is at least base) whose bytes are l -/
abbrev OwnB (w : World) (base : Nat) (v : Value) (l : List UInt8) : Prop := w.ownsRow base 5 1 v l.length (u8s l)

theorem u8info : (Tryz.prog.info? 5).map (fun i => (i.zero, i.size, i.bytes)) = some (some (.int .u8 0), 1, 1) := by kernel_rfl

/-- a []byte literal, empty -/
theorem OwnB.lit {w : World} {base : Nat} (l : List UInt8) (hb : base ≤ w.heap.size) (hl : l.length ≤ maxLen) : OwnB (w.alloc (.cells (u8s l).toArray 5)) base (.slice (some ⟨w.heap.size, 0, none⟩) l.length l.length) l := by
  have := World.ownsRow_lit (e := 5) (size := 1) w (u8s l).toArray l.length hb hl (by simp [u8s])
  simpa using this
theorem OwnB.empty {w : World} {base : Nat} (hb : base ≤ w.heap.size) : OwnB (w.alloc (.cells #[] 5)) base (.slice (some ⟨w.heap.size, 0, none⟩) 0 0) [] := OwnB.lit [] hb (by simp)
theorem OwnB.nil {w : World} {base : Nat} : OwnB w base (.slice none 0 0) [] := World.ownsRow_nil w base _ 1
theorem OwnB.len_le {w : World} {base : Nat} {v : Value} {l : List UInt8} (h : OwnB w base v l) : l.length ≤ maxLen := by
  rcases h.2 with ⟨_, h⟩ | ⟨_, cap, _, _, _, _, h1, h2, _⟩
  · rw [h]; exact Nat.zero_le _
  · omega
/-- the form of an owned slice -/
theorem OwnB.form {w : World} {base : Nat} {v : Value} {l : List UInt8} (h : OwnB w base v l) : ∃ A c, v = .slice A l.length c ∧ l.length ≤ c ∧ c ≤ maxLen ∧ (∀ ad, A = some ad → ∃ g, ad = ⟨g, 0, none⟩ ∧ base ≤ g ∧ g < w.heap.size) ∧
    Reads w (fun b => base ≤ b ∧ b < w.heap.size ∧ v.ownBlock = some b) 1 A l.length (u8s l) := by
  rcases h.2 with ⟨rfl, h0⟩ | ⟨g, cap, cur, rfl, hb, hg, h1, h2, _⟩
  · have hl : l = [] := List.eq_nil_of_length_eq_zero h0
    subst hl
    exact ⟨none, 0, rfl, Nat.le_refl _, by simp [maxLen], (fun _ h => (by cases h)), Reads.none_ _⟩
  · refine ⟨_, cap, rfl, h1, h2, fun ad e => ?_, Reads.of_own h⟩
    injection e with e
    exact ⟨g, e.symm, hb, (Array.getElem?_eq_some_iff.1 hg).1⟩

theorem append_u8 (w : World) {ops : Array Oper} {rest : List Oper} {o : Oper} {a : Act} {Q : Exit → Act → World → Prop} (hgd : o.guard = none) (s x : Operand)
    (ho : o.op = .call { callee := .builtin .append, args := #[s, x], argTypes := #[29, 29] })
    (base : Nat) (v : Value) (l : List UInt8) (hs : a.eval s = v) (hown : OwnB w base v l)
    (F : Nat → Prop) (A : Option Addr) (m c : Nat) (k : List UInt8) (hx : a.eval x = .slice A m c) (hr : Reads w F 1 A m (u8s k))
    (hb : l.length + m ≤ 1099511627776) (hbase : base ≤ w.heap.size)
    (h : ∀ v' w', OwnB w' base v' (l ++ k) → w.grownBy w' v.ownBlock → (v'.ownBlock = v.ownBlock ∨ v'.ownBlock = some w.heap.size) → wpList Tryz.prog ops Q rest (a.put o.dst v') w') : wpList Tryz.prog ops Q (o :: rest) a w := by
  obtain ⟨i, hi, hz0, hz1, hz2⟩ := info_parts u8info
  refine wpList_append_any w hgd s x _ ho base _ i _ 1 1 Tryz.underlying29 hi hz0 hz1 hz2 rfl (by omega) v l.length (u8s l) hs hown F A m c (u8s k) hx hr (u8s_one k) (by simp only [maxLen]; omega) (by omega) hbase ?_
  intro v' w' ho' hg hat
  refine h v' w' ?_ hg hat
  have hk := hr.u8len
  unfold OwnB
  rw [u8s_append, List.length_append, hk]
  exact ho'

/-- s[k:m], s[:k], s[k:] of bytes -/
theorem slice_u8_mid (A : Option Addr) (n c k m : Nat) (hk : k ≤ m) (hm : m ≤ c) (W : World) :
    (Instr.sliceAt 29 (.slice A n c) (some (.int .i64 (k : Int))) (some (.int .i64 (m : Int))) none).run Tryz.prog W = .ok (.slice (if c = k then A else A.map (·.add k)) (m - k) (c - k)) W := by
  obtain ⟨i, hi, hz0, hz1, hz2⟩ := info_parts u8info
  have := run_slice_mid (P := Tryz.prog) Tryz.underlying29 hi A n c k m hk hm W
  rw [hz1] at this
  simpa only [Nat.mul_one] using this
theorem slice_u8_to (A : Option Addr) (n c k : Nat) (hk : k ≤ c) (W : World) :
    (Instr.sliceAt 29 (.slice A n c) none (some (.int .i64 (k : Int))) none).run Tryz.prog W = .ok (.slice A k c) W := by
  obtain ⟨i, hi, _⟩ := info_parts u8info
  exact run_slice_to (P := Tryz.prog) Tryz.underlying29 hi A n c k hk W
theorem slice_u8_from (A : Option Addr) (n c k : Nat) (hk : k ≤ n) (W : World) :
    (Instr.sliceAt 29 (.slice A n c) (some (.int .i64 (k : Int))) none none).run Tryz.prog W = .ok (.slice (if c = k then A else A.map (·.add k)) (n - k) (c - k)) W := by
  obtain ⟨i, hi, hz0, hz1, hz2⟩ := info_parts u8info
  have := run_slice_from (P := Tryz.prog) Tryz.underlying29 hi A n c k hk W
  rw [hz1] at this
  simpa only [Nat.mul_one] using this
theorem Reads.cutB {w : World} {F : Nat → Prop} {A : Option Addr} {n k c : Nat} {l : List UInt8} (h : Reads w F 1 A n (u8s l)) (hk : k ≤ n) (hc : n ≤ c) :
    Reads w F 1 (if c = k then A else A.map (·.add k)) (n - k) (u8s (l.drop k)) := by
  have := h.cut hk hc
  simpa only [Nat.mul_one, u8s_drop] using this
theorem Reads.cutB_lt {w : World} {F : Nat → Prop} {A : Option Addr} {n k c : Nat} {l : List UInt8} (h : Reads w F 1 A n (u8s l)) (hk : k < n) (hc : n ≤ c) :
    Reads w F 1 (A.map (·.add k)) (n - k) (u8s (l.drop k)) := by
  have := h.cutB (k := k) (c := c) (by omega) hc
  rwa [if_neg (by omega)] at this
theorem Reads.takeB {w : World} {F : Nat → Prop} {A : Option Addr} {n k : Nat} {l : List UInt8} (h : Reads w F 1 A n (u8s l)) (hk : k ≤ n) : Reads w F 1 A k (u8s (l.take k)) := by
  have := h.take hk
  simpa only [Nat.mul_one, u8s_take] using this

/-! ### strings as lists of bytes -/
theorem bl_loop (b : ByteArray) : ∀ (m i : Nat) (r : List UInt8), b.size - i = m → ByteArray.toList.loop b i r = r.reverse ++ b.data.toList.drop i := by
  intro m
  induction m with
  | zero =>
    intro i r h
    rw [ByteArray.toList.loop, if_neg (by omega), List.drop_eq_nil_of_le (by have : b.data.toList.length = b.size := rfl; omega), List.append_nil]
  | succ m ih =>
    intro i r h
    have hl : b.data.toList.length = b.size := rfl
    have hi : i < b.size := by omega
    have hi' : i < b.data.size := hi
    rw [ByteArray.toList.loop, if_pos hi, ih _ _ (by omega), List.drop_eq_getElem_cons (i := i) (by omega)]
    simp [ByteArray.get!]
    exact getElem!_pos b.data i hi'
theorem bl (b : ByteArray) : b.toList = b.data.toList := by
  unfold ByteArray.toList
  rw [bl_loop b _ 0 [] rfl]
  simp
/-- (s + t)[:n] -/
theorem cut_cat (xs ys : List UInt8) (n : Nat) : ((({ data := xs.toArray } : ByteArray) ++ { data := ys.toArray }).extract 0 n).toList = (xs ++ ys).take n := by
  rw [bl, ByteArray.data_extract]
  simp
end Go.Proofs.YtkmkpdmjdfbpjaaGreatDoor

/- Rows of the call's own over changes elsewhere, of whatever elements (no condition beyond the sizes). -/
namespace Go.Proofs.YtkmkpdmjdfbpjaaGreatDoor
open Go.ChangeShapes Go.WideShapes Go.RowKit
theorem own_chg {w w' : World} {base : Nat} {e : TypeId} {size : Nat} {v : Value} {n : Nat} {xs : List Value} {S : Nat → Prop} (h : w.ownsRow base e size v n xs) (hc : Chg S w w') (hs : ∀ k, v.ownBlock = some k → ¬ S k) : w'.ownsRow base e size v n xs := by
  refine ⟨h.1, ?_⟩
  rcases h.2 with h0 | ⟨g, cap, cur, rfl, hb, hg, hr⟩
  · exact .inl h0
  · exact .inr ⟨g, cap, cur, rfl, hb, (hc.block g (Array.getElem?_eq_some_iff.1 hg).1 (hs g rfl)).trans hg, hr⟩
theorem own_mono {w : World} {base base' : Nat} {e : TypeId} {size : Nat} {v : Value} {n : Nat} {xs : List Value} (h : w.ownsRow base e size v n xs) (hb : base' ≤ base) : w.ownsRow base' e size v n xs :=
  ⟨h.1, h.2.imp id fun ⟨g, cap, cur, hv, hg, r⟩ => ⟨g, cap, cur, hv, Nat.le_trans hb hg, r⟩⟩
theorem own_lt {w : World} {base : Nat} {e : TypeId} {size : Nat} {v : Value} {n : Nat} {xs : List Value} (h : w.ownsRow base e size v n xs) {k : Nat} (hk : v.ownBlock = some k) : base ≤ k ∧ k < w.heap.size := h.lt k hk
theorem own_ne {w : World} {base : Nat} {e t : TypeId} {size n g : Nat} {v : Value} {xs : List Value} {cs : Array Value} (h : w.ownsRow base e size v n xs) (hg : Blk w g t cs) (hne : e ≠ t) : v.ownBlock ≠ some g := by
  rcases h.2 with ⟨rfl, _⟩ | ⟨g', cap, cur, rfl, _, hh, _⟩
  · simp [Value.ownBlock]
  · intro he
    have : g' = g := by simpa [Value.ownBlock] using he
    subst this
    exact Blk.ne_ (t := e) hh hg hne rfl
end Go.Proofs.YtkmkpdmjdfbpjaaGreatDoor

/- Rows of the call's own over changes elsewhere (no condition beyond the sizes). -/
namespace Go.Proofs.YtkmkpdmjdfbpjaaGreatDoor
open Go.ChangeShapes Go.WideShapes Go.RowKit
/-- one cell of an owned row of bytes -/
theorem OwnB.stored {w : World} {base g n c : Nat} {l : List UInt8} (h : OwnB w base (.slice (some ⟨g, 0, none⟩) n c) l) {i : Nat} (y : UInt8) :
    OwnB (w.setCell ⟨g, i, none⟩ (.int .u8 (y.toNat : Int))) base (.slice (some ⟨g, 0, none⟩) n c) (l.set i y) := by
  have hn : n = l.length := by
    rcases h.2 with ⟨h0, _⟩ | ⟨_, _, _, h0, _⟩
    · cases h0
    · injection h0
  subst hn
  have := World.ownsRow.stored h i (.int .u8 (y.toNat : Int))
  unfold OwnB
  rw [List.length_set, ← u8s_set]
  exact this.1
theorem reads_lit (w : World) (l : List UInt8) (fr : Nat × Nat) (t : TypeId) : Reads (w.alloc (.cells (u8s l).toArray t fr)) (fun b => b = w.heap.size) 1 (some ⟨w.heap.size, 0, none⟩) l.length (u8s l) := by
  have := Reads.of_row (n := l.length) (size := 1) (heap_alloc_new w (.cells (u8s l).toArray t fr)) (by simp [u8s])
  simpa using this
/-- string(b) of a row of the call's own -/
theorem own_str {w : World} {base : Nat} {v : Value} {l : List UInt8} (h : OwnB w base v l) {W : World} (hc : New w W) : (convert 29 9 v).run Tryz.prog W = .ok (.string ⟨l.toArray⟩) W := by
  obtain ⟨A, c, rfl, _, _, _, hr⟩ := OwnB.form (own_chg h hc fun _ _ => id : OwnB W base v l)
  exact run_str Tryz.underlying29 Tryz.underlying5 Tryz.underlying9 hr c
/-- the bits of two whole numbers -/
theorem i64_or_nat (a b : Nat) (ha : a < 4611686018427387904) (hb : b < 4611686018427387904) : bits .or .i64 (a : Int) (b : Int) = ((a ||| b : Nat) : Int) := by
  have hx : a ||| b < 2 ^ 62 := Nat.or_lt_two_pow (by omega) (by omega)
  show IntKind.i64.wrap ((BitVec.ofInt 64 (a : Int) ||| BitVec.ofInt 64 (b : Int)).toNat : Int) = _
  have h1 : ∀ x : Nat, x < 4611686018427387904 → (BitVec.ofInt 64 (x : Int)).toNat = x := fun x h => by
    rw [BitVec.ofInt_natCast, BitVec.toNat_ofNat]
    exact Nat.mod_eq_of_lt (by omega)
  rw [BitVec.toNat_or, h1 a ha, h1 b hb]
  exact IntWalk.i64_in _ (by omega)
theorem or_mul (a b i m : Nat) (hm : m = 2 ^ i) (h : a < m) : a ||| (b * m) = b * m + a := by
  subst hm
  rw [Nat.or_comm, ← Nat.shiftLeft_eq, Nat.shiftLeft_add_eq_or_of_lt h]
end Go.Proofs.YtkmkpdmjdfbpjaaGreatDoor

/- The program's num package: what it puts (no condition beyond the sizes). -/
namespace Go.Proofs.YtkmkpdmjdfbpjaaGreatDoor
set_option linter.unusedSimpArgs false
set_option linter.unusedVariables false
open Go.ChangeShapes Go.WideShapes Go.RowKit
namespace Num
theorem i64_and_nat (a b : Nat) (ha : a < 4611686018427387904) (hb : b < 4611686018427387904) : bits .and .i64 (a : Int) (b : Int) = ((a &&& b : Nat) : Int) := by
  have hx : a &&& b < 2 ^ 62 := Nat.and_lt_two_pow _ (by omega)
  show IntKind.i64.wrap ((BitVec.ofInt 64 (a : Int) &&& BitVec.ofInt 64 (b : Int)).toNat : Int) = _
  have h1 : ∀ x : Nat, x < 4611686018427387904 → (BitVec.ofInt 64 (x : Int)).toNat = x := fun x h => by
    rw [BitVec.ofInt_natCast, BitVec.toNat_ofNat]
    exact Nat.mod_eq_of_lt (by omega)
  rw [BitVec.toNat_and, h1 a ha, h1 b hb]
  exact IntWalk.i64_in _ (by omega)
theorem and127 (m : Nat) (h : m < 4611686018427387904) : bits .and .i64 (m : Int) 127 = ((m % 128 : Nat) : Int) := by
  have := i64_and_nat m 127 h (by decide)
  rw [show (127 : Nat) = 2 ^ 7 - 1 by decide, Nat.and_two_pow_sub_one_eq_mod] at this
  exact this
theorem or128 (d : Nat) (h : d < 128) : bits .or .i64 (d : Int) 128 = ((d + 128 : Nat) : Int) := by
  have := i64_or_nat d 128 (by omega) (by decide)
  rw [show (128 : Nat) = 1 * 128 by decide, or_mul d 1 7 128 (by decide) h] at this
  rw [show d + 128 = 1 * 128 + d by omega]
  exact this
/-- a value that holds some bytes is returned: x behind those that v held -/
def Puts (w : World) (base : Nat) (v : Value) (l : List UInt8) (e : Ending) (w' : World) : Prop :=
  ∃ v', e = .returned v' ∧ OwnB w' base v' l ∧ Chg (fun k => v.ownBlock = some k) w w' ∧ ∀ k, v'.ownBlock = some k → v.ownBlock = some k ∨ w.heap.size ≤ k
theorem lit1 (c : UInt8) : u8s [c] = [.int .u8 (c.toNat : Int)] := rfl
theorem of_at {v v' : Value} {w : World} (h : v'.ownBlock = v.ownBlock ∨ v'.ownBlock = some w.heap.size) : ∀ k, v'.ownBlock = some k → v.ownBlock = some k ∨ w.heap.size ≤ k := fun k hk => by
  rcases h with h | h
  · exact .inl (h ▸ hk)
  · rw [h] at hk
    injection hk with hk
    exact .inr (by omega)
theorem at_trans {v v' v'' : Value} {w w' : World} (h : ∀ k, v'.ownBlock = some k → v.ownBlock = some k ∨ w.heap.size ≤ k) (h' : ∀ k, v''.ownBlock = some k → v'.ownBlock = some k ∨ w'.heap.size ≤ k) (hs : w.heap.size ≤ w'.heap.size) :
    ∀ k, v''.ownBlock = some k → v.ownBlock = some k ∨ w.heap.size ≤ k := fun k hk => by
  rcases h' k hk with h1 | h1
  · exact h k h1
  · exact .inr (by omega)
theorem chg_trans {v v' : Value} {w w' w'' : World} (h : Chg (fun k => v.ownBlock = some k) w w') (ha : ∀ k, v'.ownBlock = some k → v.ownBlock = some k ∨ w.heap.size ≤ k) (h' : Chg (fun k => v'.ownBlock = some k) w' w'') :
    Chg (fun k => v.ownBlock = some k) w w'' := h.trans h' fun i hi e => by
  rcases ha i e with h1 | h1
  · exact h1
  · omega
set_option maxHeartbeats 4000000 in
set_option maxRecDepth 20000 in
theorem put (w : World) (base : Nat) (v : Value) (l : List UInt8) (hv : OwnB w base v l) (hbase : base ≤ w.heap.size) (hb : l.length ≤ 1000000000) (n : Int) :
    Calls Tryz.prog 18 #[v, .int .i64 n] w fun e w' => Puts w base v (l ++ putB n) e w' := by
  unfold Puts
  by_cases h0 : n < 0
  · rw [show putB n = [] by unfold putB; rw [if_neg (by omega)], List.append_nil]
    have HV := Lib.hid hv
    clear hv
    go_enter Tryz.func18, Tryz.ntmps18
    go_wp2_with fail
    go_ret
    exact ⟨_, rfl, HV.out, Chg.refl _ _, fun k hk => .inl hk⟩
  by_cases h1 : 4611686018427387903 < n
  · rw [show putB n = [] by unfold putB; rw [if_neg (by omega)], List.append_nil]
    have HV := Lib.hid hv
    clear hv
    go_enter Tryz.func18, Tryz.ntmps18
    go_wp2_with fail
    go_ret
    exact ⟨_, rfl, HV.out, Chg.refl _ _, fun k hk => .inl hk⟩
  obtain ⟨z, rfl⟩ : ∃ z : Nat, n = (z : Int) := ⟨n.toNat, by omega⟩
  rw [putB_at (by omega)]
  have hlen := digits_len 8 z (by omega)
  have HV := Lib.hid hv
  have HL := Lib.hid hlen
  clear hv hlen
  go_enter Tryz.func18, Tryz.ntmps18
  go_wp2_with fail
  go_loopw [0, 1] (fun bv nv wr => ∃ (m : Nat) (done : List UInt8) (v' : Value), bv = v' ∧ nv = .int .i64 m ∧ m ≤ 4611686018427387903 ∧ done ++ digits m = digits z ∧ OwnB wr base v' (l ++ done) ∧ Chg (fun k => v.ownBlock = some k) w wr ∧ (∀ k, v'.ownBlock = some k → v.ownBlock = some k ∨ w.heap.size ≤ k)) (fun _ nv _ => (intOf nv).toNat)
  case atStart => exact ⟨z, [], v, rfl, rfl, by omega, rfl, by rw [List.append_nil]; exact HV.out, Chg.refl _ _, fun k hk => .inl hk⟩
  case round =>
    obtain ⟨m, done, v', rfl, rfl, hm, hd, ho, hc, ha⟩ := hrel
    have hdl : done.length ≤ 9 := by
      have := congrArg List.length hd
      rw [List.length_append] at this
      have := HL.out
      omega
    have hsz := hc.size
    by_cases hlt : m < 128
    · rw [digits_low hlt] at hd
      have hmi : ¬ ((127 : Int) < m) := by omega
      have e : (UInt8.ofNat m).toNat = m := by simp; omega
      have hw : IntKind.u8.wrap (m : Int) = (m : Int) := IntWalk.u8_in _ (by omega)
      have hr := Reads.of_blk (size := 1) (n := 1) (Blk.new wr 5 #[.int .u8 (m : Int)]) rfl
      have hr2 : Reads (wr.alloc (.cells #[.int .u8 (m : Int)] 5)) (fun b => b = wr.heap.size) 1 (some ⟨wr.heap.size, 0, none⟩) 1 (u8s [UInt8.ofNat m]) := by
        rw [lit1, e]; exact hr
      have HD := Lib.hid hd
      have HA := Lib.hid (And.intro hc ha)
      clear hd hc ha hr e
      go_wp2_with (at_builtin; refine stop ?_)
      delta Stop
      refine append_u8 _ rfl _ _ rfl base _ (l ++ done) rfl (World.ownsRow.alloc ho _) _ _ 1 1 [UInt8.ofNat m] rfl hr2 (by rw [List.length_append]; omega) (by simp; omega) ?_
      intro v2 w2 o2 g2 a2
      have c2 := Chg.grown ((Chg.refl (fun k => u0.ownBlock = some k) wr).alloc (.cells #[.int .u8 (m : Int)] 5)) g2 fun g e _ => e
      have a3 : ∀ k, v2.ownBlock = some k → u0.ownBlock = some k ∨ wr.heap.size ≤ k := fun k hk => by
        rcases of_at a2 k hk with h | h
        · exact .inl h
        · exact .inr (by simp at h; omega)
      have HE := Lib.hid (And.intro o2 (And.intro (chg_trans HA.out.1 HA.out.2 c2) (at_trans HA.out.2 a3 hsz)))
      clear o2 g2 a2 c2 a3 hr2 ho
      go_wp2_with fail
      go_ret
      exact ⟨_, rfl, by have := HE.out.1; rwa [List.append_assoc, HD.out] at this, HE.out.2.1, HE.out.2.2⟩
    · rw [digits_high hlt] at hd
      have hmi : (127 : Int) < m := by omega
      have h1 := and127 m (by omega)
      obtain ⟨d, hde⟩ : ∃ d, m % 128 = d := ⟨_, rfl⟩
      have hd128 : d < 128 := by omega
      rw [hde] at h1 hd
      have h2 := or128 d hd128
      obtain ⟨q, hqe⟩ : ∃ q, d + 128 = q := ⟨_, rfl⟩
      rw [hqe] at h2 hd
      have e : (UInt8.ofNat q).toNat = q := by simp; omega
      have hw : IntKind.u8.wrap (q : Int) = (q : Int) := IntWalk.u8_in _ (by omega)
      have hr := Reads.of_blk (size := 1) (n := 1) (Blk.new wr 5 #[.int .u8 (q : Int)]) rfl
      have hr2 : Reads (wr.alloc (.cells #[.int .u8 (q : Int)] 5)) (fun b => b = wr.heap.size) 1 (some ⟨wr.heap.size, 0, none⟩) 1 (u8s [UInt8.ofNat q]) := by
        rw [lit1, e]; exact hr
      have hdv : (m : Int) / 128 = ((m / 128 : Nat) : Int) := by omega
      obtain ⟨p, hpe⟩ : ∃ p, m / 128 = p := ⟨_, rfl⟩
      rw [hpe] at hdv hd
      have hpm : p < m := by omega
      have HD := Lib.hid hd
      have HA := Lib.hid (And.intro hc ha)
      clear hd hc ha hr e hpe hqe hde
      go_wp2_with (at_builtin; refine stop ?_)
      delta Stop
      refine append_u8 _ rfl _ _ rfl base _ (l ++ done) rfl (World.ownsRow.alloc ho _) _ _ 1 1 [UInt8.ofNat q] rfl hr2 (by rw [List.length_append]; omega) (by simp; omega) ?_
      intro v2 w2 o2 g2 a2
      have c2 := Chg.grown ((Chg.refl (fun k => u0.ownBlock = some k) wr).alloc (.cells #[.int .u8 (q : Int)] 5)) g2 fun g e _ => e
      have a3 : ∀ k, v2.ownBlock = some k → u0.ownBlock = some k ∨ wr.heap.size ≤ k := fun k hk => by
        rcases of_at a2 k hk with h | h
        · exact .inl h
        · exact .inr (by simp at h; omega)
      have HE := Lib.hid (And.intro o2 (And.intro (chg_trans HA.out.1 HA.out.2 c2) (at_trans HA.out.2 a3 hsz)))
      clear o2 g2 a2 c2 a3 hr2 ho
      go_wp2_with fail
      go_roundw
      case rel => exact ⟨p, done ++ [UInt8.ofNat q], _, rfl, by first | rfl | (rw [hdv]), by omega, by rw [List.append_assoc]; exact HD.out, by have := HE.out.1; rwa [List.append_assoc] at this, HE.out.2.1, HE.out.2.2⟩
      case measure => simp [intOf]; omega
end Num
end Go.Proofs.YtkmkpdmjdfbpjaaGreatDoor

/- The program's num package: Signed, Text, and a reader's fields (no condition beyond the sizes). -/
namespace Go.Proofs.YtkmkpdmjdfbpjaaGreatDoor
set_option linter.unusedSimpArgs false
set_option linter.unusedVariables false
open Go.ChangeShapes Go.WideShapes Go.RowKit
namespace Num
set_option maxHeartbeats 4000000 in
set_option maxRecDepth 20000 in
theorem signed (w : World) (base : Nat) (v : Value) (l : List UInt8) (hv : OwnB w base v l) (hbase : base ≤ w.heap.size) (hb : l.length ≤ 1000000000) (n : Int) :
    Calls Tryz.prog 38 #[v, .int .i64 n] w fun e w' => Puts w base v (l ++ signedB n) e w' := by
  have C := Lib.hid fun m => put w base v l hv hbase hb m
  have HV := Lib.hid hv
  clear hv
  by_cases h0 : n < -1152921504606846976
  · rw [show signedB n = [] by unfold signedB; rw [if_pos (.inl h0)], List.append_nil]
    unfold Puts at C ⊢
    go_enter Tryz.func38, Tryz.ntmps38
    go_wp2_with fail
    go_ret
    exact ⟨_, rfl, HV.out, Chg.refl _ _, fun k hk => .inl hk⟩
  by_cases h1 : 1152921504606846976 < n
  · rw [show signedB n = [] by unfold signedB; rw [if_pos (.inr h1)], List.append_nil]
    unfold Puts at C ⊢
    go_enter Tryz.func38, Tryz.ntmps38
    go_wp2_with fail
    go_ret
    exact ⟨_, rfl, HV.out, Chg.refl _ _, fun k hk => .inl hk⟩
  by_cases h2 : n < 0
  · have hw1 : IntKind.i64.wrap (-2 * n) = -2 * n := IntWalk.i64_in _ (by omega)
    have hw2 : IntKind.i64.wrap (-2 * n - 1) = -2 * n - 1 := IntWalk.i64_in _ (by omega)
    rw [show signedB n = putB (-2 * n - 1) by unfold signedB; rw [if_neg (by omega), if_pos h2]]
    have C1 := Lib.hid (C.out (-2 * n - 1))
    clear C
    unfold Puts at C1 ⊢
    go_enter Tryz.func38, Tryz.ntmps38
    go_wp2_with fail
    with_reducible refine C1.out.mono ?_
    rintro e w1 ⟨v', rfl, h⟩
    have HE := Lib.hid h
    clear h C1
    go_wp2_with fail
    go_ret
    exact ⟨_, rfl, HE.out⟩
  · have hw1 : IntKind.i64.wrap (2 * n) = 2 * n := IntWalk.i64_in _ (by omega)
    rw [show signedB n = putB (2 * n) by unfold signedB; rw [if_neg (by omega), if_neg h2]]
    have C1 := Lib.hid (C.out (2 * n))
    clear C
    unfold Puts at C1 ⊢
    go_enter Tryz.func38, Tryz.ntmps38
    go_wp2_with fail
    with_reducible refine C1.out.mono ?_
    rintro e w1 ⟨v', rfl, h⟩
    have HE := Lib.hid h
    clear h C1
    go_wp2_with fail
    go_ret
    exact ⟨_, rfl, HE.out⟩
theorem run_append_str (w : World) (base : Nat) (t u ty e : TypeId) (i : TypeInfo) (ht : Tryz.prog.underlying t = some (.slice e)) (hu : Tryz.prog.underlying u = some .string) (hi : Tryz.prog.info? e = some i) (hz : i.zero = some (.int .u8 0))
    (hsize : i.size = 1) (hby : i.bytes = 1) (v : Value) (n : Nat) (xs : List Value) (hown : w.ownsRow base e 1 v n xs) (s : ByteArray) (h63 : n + s.size ≤ maxLen) (hbytes : n + s.size ≤ 140737488355328) (hbase : base ≤ w.heap.size) :
    ∃ v' w', (Builtin.append_ #[t, u] ty #[v, .string s]).run Tryz.prog w = .ok v' w' ∧ w'.ownsRow base e 1 v' (n + s.size) (xs ++ Lib.strCells s) ∧ w.grownBy w' v.ownBlock ∧ (v'.ownBlock = v.ownBlock ∨ v'.ownBlock = some w.heap.size) := by
  obtain ⟨v', w', hr, h2, h3, h4⟩ := Lib.run_append_own_string (P := Tryz.prog) w base t u ty e i ht hu hi hz hsize hby v n xs hown s h63 hbytes hbase
  refine ⟨v', w', hr, h2, h3, ?_⟩
  have hxl : xs.length = n := by simpa using hown.1
  rcases hown.2 with ⟨rfl, rfl⟩ | ⟨g, cap, cur, rfl, hbg, hg, hnc, hcm, hcs, htake⟩
  · by_cases hm : s.size = 0
    · rw [h4.2 ⟨rfl, hm⟩]; exact .inl rfl
    · have := run_append_nil_string (P := Tryz.prog) w t u ty e i (.int .u8 0) ht hu hi hz s (by omega) (by simp only [maxLen] at h63; omega) (by rw [hby]; omega)
      rw [hr] at this
      injection this with this _
      rw [this]; exact .inr rfl
  · by_cases hroom : n + s.size ≤ cap
    · have := Lib.run_append_room_string (P := Tryz.prog) w t u ty e i ht hu hi hsize g n cap cur hg s hroom (by simp only [maxLen] at h63; omega)
      rw [hr] at this
      injection this with this _
      rw [this]; exact .inl rfl
    · have holds : ∀ j u, xs[j]? = some u → w.cell? ((⟨g, 0, none⟩ : Addr).add j) = some u := hown.cells (g := g) rfl
      have := Lib.run_append_grow_string (P := Tryz.prog) w t u ty e i (.int .u8 0) ht hu hi hz ⟨g, 0, none⟩ n cap xs (by rw [hsize]; simpa using hxl) holds s (by omega) (by simp only [maxLen] at h63; omega) (by rw [hby]; exact growslice_fits (by omega) (by omega))
      rw [hr] at this
      injection this with this _
      rw [this]; exact .inr rfl
theorem strCells_u8s (s : ByteArray) : Lib.strCells s = u8s s.data.toList := by simp [Lib.strCells, u8s]
theorem append_str (w : World) {ops : Array Oper} {rest : List Oper} {o : Oper} {a : Act} {Q : Exit → Act → World → Prop} (hgd : o.guard = none) (sl x : Operand)
    (ho : o.op = .call { callee := .builtin .append, args := #[sl, x], argTypes := #[29, 9] })
    (base : Nat) (v : Value) (l : List UInt8) (hs : a.eval sl = v) (hown : OwnB w base v l) (s : ByteArray) (hx : a.eval x = .string s) (hb : l.length + s.size ≤ 1099511627776) (hbase : base ≤ w.heap.size)
    (h : ∀ v' w', OwnB w' base v' (l ++ s.data.toList) → w.grownBy w' v.ownBlock → (v'.ownBlock = v.ownBlock ∨ v'.ownBlock = some w.heap.size) → wpList Tryz.prog ops Q rest (a.put o.dst v') w') : wpList Tryz.prog ops Q (o :: rest) a w := by
  obtain ⟨i, hi, hz0, hz1, hz2⟩ := info_parts u8info
  refine wpList_plain hgd fun K hK => ?_
  obtain ⟨v', w', hr, h2, h3, h4⟩ := run_append_str w base 29 9 o.type 5 i Tryz.underlying29 Tryz.underlying9 hi hz0 hz1 hz2 v l.length (u8s l) hown s (by simp only [maxLen]; omega) (by omega) hbase
  unfold Oper.wp execOp
  simp only [ho, resolve, invoke, builtin, Sem.run_bind, Sem.run_pure, Result.andThen_ok, List.map_toArray, List.map_cons, List.map_nil, hs, hx, hr]
  refine hK _ _ (h v' w' ?_ h3 h4)
  have hl : (l ++ s.data.toList).length = l.length + s.size := by rw [List.length_append, Array.length_toList]; rfl
  unfold OwnB
  rw [hl, u8s_append, ← strCells_u8s]
  exact h2
set_option maxHeartbeats 4000000 in
set_option maxRecDepth 20000 in
theorem text (w : World) (base : Nat) (v : Value) (l : List UInt8) (hv : OwnB w base v l) (hbase : base ≤ w.heap.size) (hb : l.length ≤ 1000000000) (s : ByteArray) (hs : s.size ≤ 1000000000) :
    Calls Tryz.prog 37 #[v, .string s] w fun e w' => Puts w base v (l ++ textB s.data.toList) e w' := by
  have C := Lib.hid (put w base v l hv hbase hb s.size)
  have HT := Lib.hid (show textB s.data.toList = putB s.size ++ s.data.toList by unfold textB; rw [Array.length_toList]; rfl)
  have hpl := putB_len s.size
  have HPL := Lib.hid hpl
  clear hv hpl
  unfold Puts at C ⊢
  rw [HT.out]
  go_enter Tryz.func37, Tryz.ntmps37
  go_wp2_with fail
  refine C.out.mono ?_
  rintro e w1 ⟨v1, rfl, o1, c1, a1⟩
  have hs1 := c1.size
  have HC := Lib.hid (And.intro c1 a1)
  clear c1 a1 C
  go_wp2_with (at_builtin; refine stop ?_)
  delta Stop
  refine append_str w1 rfl _ _ rfl base _ _ rfl o1 s rfl (by rw [List.length_append]; have := HPL.out; omega) (by omega) ?_
  intro v2 w2 o2 g2 a2
  have c2 := Chg.grown (Chg.refl (fun k => v1.ownBlock = some k) w1) g2 fun g e _ => e
  have HE := Lib.hid (And.intro o2 (And.intro (chg_trans HC.out.1 HC.out.2 c2) (at_trans HC.out.2 (of_at a2) hs1)))
  clear o2 g2 a2 c2 o1
  go_wp2_with fail
  go_ret
  exact ⟨_, rfl, by have := HE.out.1; rwa [List.append_assoc] at this, HE.out.2.1, HE.out.2.2⟩
end Num
end Go.Proofs.YtkmkpdmjdfbpjaaGreatDoor
