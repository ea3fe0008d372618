/-
  Texts of printed signs, rows of names, edges' texts, values: what the program's calls compute (no condition but that MaxLen holds a number).
-/
import Derived.Test.YtgfkopimjmggdaaDoorJ1
import Derived.Lib.SplitLaws
import Derived.Lib.Join
import Derived.Lib.Strings
import Derived.Laws.RangeAny
import Derived.Shelf.Strings.Split
/- Numbers and texts as bytes, and read again, in plain words (no condition). -/
namespace Go.Proofs.YtgfkopimjmggdaaDoor
set_option linter.unusedSimpArgs false
set_option linter.unusedVariables false
namespace Num
/-- a number's bytes, the low seven bits first -/
def digits (n : Nat) : List UInt8 := if n < 128 then [UInt8.ofNat n] else UInt8.ofNat (n % 128 + 128) :: digits (n / 128)
termination_by n
decreasing_by omega
theorem digits_low {n : Nat} (h : n < 128) : digits n = [UInt8.ofNat n] := by rw [digits, if_pos h]
theorem digits_high {n : Nat} (h : ¬ n < 128) : digits n = UInt8.ofNat (n % 128 + 128) :: digits (n / 128) := by rw [digits, if_neg h]
theorem digits_len : ∀ (k n : Nat), n < 128 ^ (k + 1) → (digits n).length ≤ k + 1
  | 0, n, h => by rw [digits_low (by simpa using h)]; simp
  | k + 1, n, h => by
    by_cases h1 : n < 128
    · rw [digits_low h1]; simp
    · rw [digits_high h1, List.length_cons]
      have := digits_len k (n / 128) (by rw [Nat.div_lt_iff_lt_mul (by decide)]; rw [Nat.pow_succ] at h; exact h)
      omega
theorem digits_pos (n : Nat) : 0 < (digits n).length := by
  by_cases h1 : n < 128
  · rw [digits_low h1]; simp
  · rw [digits_high h1]; simp
def putB (n : Int) : List UInt8 := if 0 ≤ n ∧ n ≤ 4611686018427387903 then digits n.toNat else []
theorem putB_len (n : Int) : (putB n).length ≤ 9 := by
  unfold putB
  split
  · exact digits_len 8 _ (by omega)
  · simp
theorem putB_at {n : Nat} (h : n ≤ 4611686018427387903) : putB (n : Int) = digits n := by
  unfold putB
  rw [if_pos ⟨by omega, by omega⟩, Int.toNat_natCast]
def signedB (n : Int) : List UInt8 := if n < -1152921504606846976 ∨ 1152921504606846976 < n then [] else if n < 0 then putB (-2 * n - 1) else putB (2 * n)
theorem signedB_len (n : Int) : (signedB n).length ≤ 9 := by
  unfold signedB
  split
  · simp
  · split
    · exact putB_len _
    · exact putB_len _
def textB (s : List UInt8) : List UInt8 := putB s.length ++ s
theorem textB_len (s : List UInt8) : (textB s).length ≤ s.length + 9 := by
  unfold textB
  rw [List.length_append]
  have := putB_len s.length
  omega
/-- the number at the beginning, behind i bytes that come to acc; and how many bytes it has -/
def takeGo (i acc : Nat) : List UInt8 → Option (Nat × Nat)
  | [] => none
  | c :: l => if 9 ≤ i then none else if c.toNat < 128 then (if (c.toNat = 0 ∧ 0 < i) ∨ 4611686018427387903 < acc + c.toNat % 128 * 2 ^ (7 * i) then none else some (acc + c.toNat % 128 * 2 ^ (7 * i), i + 1)) else takeGo (i + 1) (acc + c.toNat % 128 * 2 ^ (7 * i)) l
theorem take_digits (rest : List UInt8) : ∀ (k m i acc : Nat), m < k → acc + m * 2 ^ (7 * i) ≤ 4611686018427387903 → i + (digits m).length ≤ 9 → (i = 0 ∨ 0 < m) → takeGo i acc (digits m ++ rest) = some (acc + m * 2 ^ (7 * i), i + (digits m).length)
  | 0, m, i, acc, hk, _, _, _ => absurd hk (by omega)
  | k + 1, m, i, acc, hk, h, h9, h0 => by
    by_cases h1 : m < 128
    · rw [digits_low h1] at h9 ⊢
      have e : (UInt8.ofNat m).toNat = m := by simp; omega
      simp only [List.cons_append, List.nil_append, takeGo, e, List.length_cons, List.length_nil] at h9 ⊢
      rw [if_neg (by omega), if_pos h1, Nat.mod_eq_of_lt h1, if_neg (by omega)]
    · rw [digits_high h1] at h9 ⊢
      have e : (UInt8.ofNat (m % 128 + 128)).toNat = m % 128 + 128 := by simp; omega
      simp only [List.cons_append, takeGo, e, List.length_cons] at h9 ⊢
      rw [if_neg (by omega), if_neg (by omega), show (m % 128 + 128) % 128 = m % 128 by omega]
      have e2 : acc + m % 128 * 2 ^ (7 * i) + m / 128 * 2 ^ (7 * (i + 1)) = acc + m * 2 ^ (7 * i) := by
        rw [show 7 * (i + 1) = 7 * i + 7 by omega, Nat.pow_add, show (2 : Nat) ^ 7 = 128 by decide, ← Nat.mul_assoc, Nat.mul_right_comm, Nat.add_assoc, ← Nat.add_mul]
        congr 2
        omega
      rw [take_digits rest k (m / 128) (i + 1) _ (by omega) (by rw [e2]; exact h) (by omega) (.inr (by omega)), e2]
      congr 2
      omega
theorem take_put {n : Nat} (h : n ≤ 4611686018427387903) (rest : List UInt8) : takeGo 0 0 (digits n ++ rest) = some (n, (digits n).length) := by
  have := take_digits rest (n + 1) n 0 0 (by omega) (by simpa using h) (by have := digits_len 8 n (by omega); omega) (.inl rfl)
  simpa using this
theorem takeGo_app (q : List UInt8) : ∀ (l : List UInt8) (i acc : Nat) {n k : Nat}, takeGo i acc l = some (n, k) → takeGo i acc (l ++ q) = some (n, k)
  | [], _, _, _, _, h => by simp [takeGo] at h
  | c :: l, i, acc, n, k, h => by
    simp only [List.cons_append, takeGo] at h ⊢
    split at h
    · cases h
    · rename_i h1
      rw [if_neg h1]
      split at h
      · rename_i h2
        rw [if_pos h2]
        exact h
      · rename_i h2
        rw [if_neg h2]
        exact takeGo_app q l _ _ h
theorem takeGo_len : ∀ (l : List UInt8) (i acc : Nat) {n k : Nat}, takeGo i acc l = some (n, k) → i < k ∧ k ≤ i + l.length ∧ k ≤ 9 ∧ n ≤ 4611686018427387903
  | [], _, _, _, _, h => by simp [takeGo] at h
  | c :: l, i, acc, n, k, h => by
    simp only [takeGo] at h
    split at h
    · cases h
    · split at h
      · split at h
        · cases h
        · injection h with h
          injection h with h1 h2
          rw [List.length_cons]
          omega
      · have := takeGo_len l _ _ h
        rw [List.length_cons]
        omega
/-- what is left to read; whether something failed -/
structure Rd where
  l : List UInt8
  bad : Bool
def numP (most : Int) (s : Rd) : Int × Rd := if s.bad = true then (0, s) else match takeGo 0 0 s.l with
  | none => (0, ⟨s.l, true⟩)
  | some (n, k) => if most < (n : Int) then (0, ⟨s.l, true⟩) else ((n : Int), ⟨s.l.drop k, false⟩)
def signedP (s : Rd) : Int × Rd := (if (numP 2305843009213693952 s).1 % 2 = 1 then -((numP 2305843009213693952 s).1 / 2) - 1 else (numP 2305843009213693952 s).1 / 2, (numP 2305843009213693952 s).2)
def textP (most : Int) (s : Rd) : List UInt8 × Rd := if (numP most s).2.bad = true then ([], (numP most s).2) else if ((numP most s).2.l.length : Int) < (numP most s).1 then ([], ⟨(numP most s).2.l, true⟩) else
  ((numP most s).2.l.take (numP most s).1.toNat, ⟨(numP most s).2.l.drop (numP most s).1.toNat, false⟩)
theorem numP_bad {most : Int} {s : Rd} (h : s.bad = true) : numP most s = (0, s) := by unfold numP; rw [if_pos h]
theorem numP_range (most : Int) (hm : 0 ≤ most) (s : Rd) : 0 ≤ (numP most s).1 ∧ (numP most s).1 ≤ most := by
  unfold numP
  split
  · exact ⟨Int.le_refl _, hm⟩
  · split
    · exact ⟨Int.le_refl _, hm⟩
    · split
      · exact ⟨Int.le_refl _, hm⟩
      · dsimp only; omega
theorem numP_put {n most : Int} (h0 : 0 ≤ n) (h : n ≤ most) (hm : most ≤ 4611686018427387903) (rest : List UInt8) : numP most ⟨putB n ++ rest, false⟩ = (n, ⟨rest, false⟩) := by
  unfold numP putB
  rw [if_neg (by simp), if_pos ⟨h0, by omega⟩]
  dsimp only
  rw [take_put (by omega) rest]
  dsimp only
  rw [if_neg (by omega), List.drop_left]
  congr 1
  omega
theorem numP_app {most : Int} {l l' : List UInt8} {n : Int} (h : numP most ⟨l, false⟩ = (n, ⟨l', false⟩)) (q : List UInt8) : numP most ⟨l ++ q, false⟩ = (n, ⟨l' ++ q, false⟩) := by
  unfold numP at h ⊢
  rw [if_neg (by simp)] at h ⊢
  dsimp only at h ⊢
  cases ht : takeGo 0 0 l with
  | none => rw [ht] at h; simp at h
  | some p =>
    obtain ⟨m, k⟩ := p
    rw [ht] at h
    rw [takeGo_app q l 0 0 ht]
    dsimp only at h ⊢
    split at h
    · simp at h
    · rename_i hm
      rw [if_neg hm]
      simp only [Prod.mk.injEq, Rd.mk.injEq] at h ⊢
      have := takeGo_len l 0 0 ht
      exact ⟨h.1, by rw [List.drop_append_of_le_length (by omega), h.2.1], trivial⟩
theorem signedP_put {n : Int} (h0 : -1152921504606846976 ≤ n) (h : n ≤ 1152921504606846976) (rest : List UInt8) : signedP ⟨signedB n ++ rest, false⟩ = (n, ⟨rest, false⟩) := by
  have hs : signedB n = if n < 0 then putB (-2 * n - 1) else putB (2 * n) := by
    unfold signedB
    rw [if_neg (by omega)]
  unfold signedP
  rw [hs]
  by_cases hn : n < 0
  · rw [if_pos hn, numP_put (by omega) (by omega) (by decide)]
    dsimp only
    rw [if_pos (by omega)]
    congr 1
    omega
  · rw [if_neg hn, numP_put (by omega) (by omega) (by decide)]
    dsimp only
    rw [if_neg (by omega)]
    congr 1
    omega
theorem signedP_app {l l' : List UInt8} {n : Int} (h : signedP ⟨l, false⟩ = (n, ⟨l', false⟩)) (q : List UInt8) : signedP ⟨l ++ q, false⟩ = (n, ⟨l' ++ q, false⟩) := by
  unfold signedP at h ⊢
  simp only [Prod.mk.injEq] at h
  have := numP_app (most := 2305843009213693952) (n := (numP 2305843009213693952 ⟨l, false⟩).1) (Prod.ext rfl h.2) q
  rw [this]
  exact Prod.ext h.1 rfl
theorem textP_put {s : List UInt8} {most : Int} (h : (s.length : Int) ≤ most) (hm : most ≤ 4611686018427387903) (rest : List UInt8) : textP most ⟨textB s ++ rest, false⟩ = (s, ⟨rest, false⟩) := by
  unfold textP textB
  rw [List.append_assoc, numP_put (by omega) h hm]
  dsimp only
  rw [if_neg (by simp), if_neg (by rw [List.length_append]; omega), Int.toNat_natCast, List.take_left, List.drop_left]
theorem textP_app {most : Int} {l l' s : List UInt8} (h : textP most ⟨l, false⟩ = (s, ⟨l', false⟩)) (q : List UInt8) : textP most ⟨l ++ q, false⟩ = (s, ⟨l' ++ q, false⟩) := by
  unfold textP at h ⊢
  obtain ⟨n, s1⟩ : ∃ n, n = numP most ⟨l, false⟩ := ⟨_, rfl⟩
  rw [← s1] at h
  obtain ⟨a, r⟩ := n
  obtain ⟨l1, b1⟩ := r
  cases b1 with
  | true => simp at h
  | false =>
    have hr := numP_range most
    rw [numP_app s1.symm q]
    dsimp only at h ⊢
    rw [if_neg (by simp)] at h ⊢
    split at h
    · simp at h
    · rename_i hm
      rw [if_neg (by rw [List.length_append]; omega)]
      simp only [Prod.mk.injEq, Rd.mk.injEq] at h ⊢
      rw [List.take_append_of_le_length (by omega), List.drop_append_of_le_length (by omega), h.1, h.2.1]
      exact ⟨rfl, rfl, trivial⟩
theorem signedP_bad {s : Rd} (h : s.bad = true) : (signedP s).2 = s := by unfold signedP; rw [numP_bad h]
theorem textP_bad {most : Int} {s : Rd} (h : s.bad = true) : (textP most s).2 = s := by
  unfold textP
  rw [numP_bad h]
  dsimp only
  rw [if_pos h]
/-- what is put, and read -/
inductive It where
  | n (v : Int)
  | z (v : Int)
  | t (v : List UInt8)
def It.put : It → List UInt8
  | .n v => putB v
  | .z v => signedB v
  | .t v => textB v
def It.ok : It → Prop
  | .n v => 0 ≤ v ∧ v ≤ 4611686018427387903
  | .z v => -1152921504606846976 ≤ v ∧ v ≤ 1152921504606846976
  | .t v => v.length ≤ 1048576
/-- one of the same kind is read -/
def It.read : It → Rd → It × Rd
  | It.n _, s => (.n (numP 4611686018427387903 s).1, (numP 4611686018427387903 s).2)
  | .z _, s => (.z (signedP s).1, (signedP s).2)
  | It.t _, s => (.t (textP 1048576 s).1, (textP 1048576 s).2)
def putAll (xs : List It) : List UInt8 := xs.flatMap It.put
def readAll : List It → Rd → List It × Rd
  | [], s => ([], s)
  | x :: xs, s => ((x.read s).1 :: (readAll xs (x.read s).2).1, (readAll xs (x.read s).2).2)
theorem It.read_put {x : It} (h : x.ok) (rest : List UInt8) : x.read ⟨x.put ++ rest, false⟩ = (x, ⟨rest, false⟩) := by
  cases x with
  | n v => simp only [It.read, It.put]; rw [numP_put h.1 h.2 (by decide)]
  | z v => simp only [It.read, It.put]; rw [signedP_put h.1 h.2]
  | t v => simp only [It.read, It.put]; rw [textP_put (by have : v.length ≤ 1048576 := h; omega) (by decide)]
theorem It.read_bad (x : It) {s : Rd} (h : s.bad = true) : (x.read s).2 = s := by
  cases x with
  | n v => simp only [It.read]; rw [numP_bad h]
  | z v => simp only [It.read]; rw [signedP_bad h]
  | t v => simp only [It.read]; rw [textP_bad h]
theorem It.read_app (x : It) {l l' : List UInt8} {y : It} (h : x.read ⟨l, false⟩ = (y, ⟨l', false⟩)) (q : List UInt8) : x.read ⟨l ++ q, false⟩ = (y, ⟨l' ++ q, false⟩) := by
  cases x with
  | n v =>
    simp only [It.read, Prod.mk.injEq] at h ⊢
    rw [numP_app (Prod.ext rfl h.2) q]
    exact ⟨h.1, rfl⟩
  | z v =>
    simp only [It.read, Prod.mk.injEq] at h ⊢
    rw [signedP_app (Prod.ext rfl h.2) q]
    exact ⟨h.1, rfl⟩
  | t v =>
    simp only [It.read, Prod.mk.injEq] at h ⊢
    rw [textP_app (Prod.ext rfl h.2) q]
    exact ⟨h.1, rfl⟩
theorem readAll_put : ∀ {xs : List It}, (∀ x ∈ xs, x.ok) → ∀ rest, readAll xs ⟨putAll xs ++ rest, false⟩ = (xs, ⟨rest, false⟩)
  | [], _, rest => rfl
  | x :: xs, h, rest => by
    have h1 := It.read_put (h x (List.mem_cons_self ..)) (putAll xs ++ rest)
    have h2 := readAll_put (fun y hy => h y (List.mem_cons_of_mem _ hy)) rest
    have e : putAll (x :: xs) ++ rest = x.put ++ (putAll xs ++ rest) := by simp [putAll]
    rw [e]
    unfold readAll
    rw [h1, h2]
theorem readAll_bad : ∀ (xs : List It) {s : Rd}, s.bad = true → (readAll xs s).2 = s
  | [], _, _ => rfl
  | x :: xs, s, h => by
    unfold readAll
    dsimp only
    rw [x.read_bad h]
    exact readAll_bad xs h
theorem readAll_app (q : List UInt8) : ∀ (xs : List It) {l l' : List UInt8} {ys : List It}, readAll xs ⟨l, false⟩ = (ys, ⟨l', false⟩) → readAll xs ⟨l ++ q, false⟩ = (ys, ⟨l' ++ q, false⟩)
  | [], l, l', ys, h => by
    simp only [readAll, Prod.mk.injEq, Rd.mk.injEq] at h ⊢
    exact ⟨h.1, by rw [h.2.1], trivial⟩
  | x :: xs, l, l', ys, h => by
    unfold readAll at h ⊢
    obtain ⟨y, s1, hs⟩ : ∃ y s1, x.read ⟨l, false⟩ = (y, s1) := ⟨_, _, rfl⟩
    rw [hs] at h
    obtain ⟨l1, b1⟩ := s1
    cases b1 with
    | true =>
      simp only [Prod.mk.injEq] at h
      rw [readAll_bad xs rfl] at h
      have := h.2
      simp at this
    | false =>
      rw [x.read_app hs q]
      simp only [Prod.mk.injEq] at h ⊢
      have := readAll_app q xs (l := l1) (l' := l') (ys := (readAll xs ⟨l1, false⟩).1) (Prod.ext rfl h.2)
      rw [this]
      exact ⟨h.1, rfl⟩
/-- of a part of the bytes nothing is read -/
theorem readAll_cut {xs : List It} (h : ∀ x ∈ xs, x.ok) {p q : List UInt8} (hp : putAll xs = p ++ q) (hq : q ≠ []) : (readAll xs ⟨p, false⟩).2.bad = true := by
  cases hb : (readAll xs ⟨p, false⟩).2.bad with
  | true => rfl
  | false =>
    have h1 := readAll_app q xs (l := p) (l' := (readAll xs ⟨p, false⟩).2.l) (ys := (readAll xs ⟨p, false⟩).1) (Prod.ext rfl (by
      obtain ⟨r, hr⟩ : ∃ r, (readAll xs ⟨p, false⟩).2 = r := ⟨_, rfl⟩
      rw [hr] at hb ⊢
      obtain ⟨l, b⟩ := r
      cases hb
      rfl))
    have h2 := readAll_put h []
    rw [List.append_nil, hp, h1] at h2
    simp only [Prod.mk.injEq, Rd.mk.injEq, List.append_eq_nil_iff] at h2
    exact (hq h2.2.1.2).elim
end Num
end Go.Proofs.YtgfkopimjmggdaaDoor

/- Events as 27 numbers and texts; their bytes; a block that is filled with what is read (no condition). -/
namespace Go.Proofs.YtgfkopimjmggdaaDoor
set_option linter.unusedSimpArgs false
set_option linter.unusedVariables false
open Go.ChangeShapes Go.WideShapes Go.RowKit
namespace Evt
open Num
/-- what an event holds, place by place -/
structure Ev where
  n : Nat → Int
  t : Nat → ByteArray
instance : Inhabited Ev := ⟨⟨fun _ => 0, fun _ => ⟨#[]⟩⟩⟩
def kinds : List Nat := [0, 0, 0, 0, 0, 0, 0, 0, 0, 0, 0, 0, 0, 0, 0, 0, 0, 0, 0, 0, 2, 2, 2, 2, 0, 1, 2]
def mk (k : Nat) (v : Int) (b : ByteArray) : It := if k = 0 then .n v else if k = 1 then .z v else .t b.data.toList
def Ev.items (e : Ev) : List It := [.n (e.n 0), .n (e.n 1), .n (e.n 2), .n (e.n 3), .n (e.n 4), .n (e.n 5), .n (e.n 6), .n (e.n 7), .n (e.n 8), .n (e.n 9), .n (e.n 10), .n (e.n 11), .n (e.n 12), .n (e.n 13), .n (e.n 14), .n (e.n 15), .n (e.n 16), .n (e.n 17), .n (e.n 18), .n (e.n 19),
  .t (e.t 20).data.toList, .t (e.t 21).data.toList, .t (e.t 22).data.toList, .t (e.t 23).data.toList, .n (e.n 24), .z (e.n 25), .t (e.t 26).data.toList]
def cell : It → Value
  | .n v => .int .i64 v
  | .z v => .int .i64 v
  | .t b => .string ⟨b.toArray⟩
def kind : It → Nat
  | .n _ => 0
  | .z _ => 1
  | .t _ => 2
def int : It → Int
  | .n v => v
  | .z v => v
  | .t _ => 0
def bytes : It → ByteArray
  | .n _ => ⟨#[]⟩
  | .z _ => ⟨#[]⟩
  | .t b => ⟨b.toArray⟩
theorem mk_self (x : It) : mk (kind x) (int x) (bytes x) = x := by cases x <;> rfl
def Ev.cs (e : Ev) : List Value := [.int .i64 (e.n 0), .int .i64 (e.n 1), .int .i64 (e.n 2), .int .i64 (e.n 3), .int .i64 (e.n 4), .int .i64 (e.n 5), .int .i64 (e.n 6), .int .i64 (e.n 7), .int .i64 (e.n 8), .int .i64 (e.n 9), .int .i64 (e.n 10), .int .i64 (e.n 11), .int .i64 (e.n 12), .int .i64 (e.n 13), .int .i64 (e.n 14), .int .i64 (e.n 15), .int .i64 (e.n 16), .int .i64 (e.n 17), .int .i64 (e.n 18), .int .i64 (e.n 19),
  .string (e.t 20), .string (e.t 21), .string (e.t 22), .string (e.t 23), .int .i64 (e.n 24), .int .i64 (e.n 25), .string (e.t 26)]
abbrev Ev.val (e : Ev) : Value := .agg e.cs.toArray
theorem Ev.cs_items (e : Ev) : e.items.map cell = e.cs := rfl
theorem Ev.cs_len (e : Ev) : e.cs.length = 27 := rfl
theorem cell_one (x : It) : (cell x).oneCell' = true := by cases x <;> rfl
theorem Ev.cs_one (e : Ev) : ∀ v ∈ e.cs, v.oneCell' = true := by
  rw [← e.cs_items]
  intro v hv
  obtain ⟨x, _, rfl⟩ := List.mem_map.1 hv
  exact cell_one x
theorem Ev.kinds (e : Ev) : e.items.map kind = Evt.kinds := rfl
/-- what has the kinds of an event is one -/
def evOf (ys : List It) : Ev := ⟨fun i => int (ys.getD i (.n 0)), fun i => bytes (ys.getD i (.n 0))⟩
theorem items_evOf {ys : List It} (h : ys.map kind = kinds) : (evOf ys).items = ys := by
  have hl : ys.length = 27 := by have := congrArg List.length h; simpa [kinds] using this
  have hk : ∀ i, i < 27 → ∀ k, kinds[i]? = some k → mk k (int (ys.getD i (.n 0))) (bytes (ys.getD i (.n 0))) = ys.getD i (.n 0) := fun i hi k hk => by
    rw [← h, List.getElem?_map, List.getElem?_eq_getElem (by omega)] at hk
    rw [List.getD_eq_getElem?_getD, List.getElem?_eq_getElem (by omega)]
    simp only [Option.map_some, Option.some.injEq] at hk
    rw [← hk]
    exact mk_self _
  refine List.ext_getElem? fun i => ?_
  rcases Nat.lt_or_ge i 27 with hi | hi
  · have e : ys[i]? = some (ys.getD i (.n 0)) := by rw [List.getD_eq_getElem?_getD, List.getElem?_eq_getElem (by omega)]; rfl
    rw [e]
    rcases (show i = 0 ∨ i = 1 ∨ i = 2 ∨ i = 3 ∨ i = 4 ∨ i = 5 ∨ i = 6 ∨ i = 7 ∨ i = 8 ∨ i = 9 ∨ i = 10 ∨ i = 11 ∨ i = 12 ∨ i = 13 ∨ i = 14 ∨ i = 15 ∨ i = 16 ∨ i = 17 ∨ i = 18 ∨ i = 19 ∨ i = 20 ∨ i = 21 ∨ i = 22 ∨ i = 23 ∨ i = 24 ∨ i = 25 ∨ i = 26 by omega) with rfl | rfl | rfl | rfl | rfl | rfl | rfl | rfl | rfl | rfl | rfl | rfl | rfl | rfl | rfl | rfl | rfl | rfl | rfl | rfl | rfl | rfl | rfl | rfl | rfl | rfl | rfl
    · exact congrArg some (hk 0 (by decide) 0 rfl)
    · exact congrArg some (hk 1 (by decide) 0 rfl)
    · exact congrArg some (hk 2 (by decide) 0 rfl)
    · exact congrArg some (hk 3 (by decide) 0 rfl)
    · exact congrArg some (hk 4 (by decide) 0 rfl)
    · exact congrArg some (hk 5 (by decide) 0 rfl)
    · exact congrArg some (hk 6 (by decide) 0 rfl)
    · exact congrArg some (hk 7 (by decide) 0 rfl)
    · exact congrArg some (hk 8 (by decide) 0 rfl)
    · exact congrArg some (hk 9 (by decide) 0 rfl)
    · exact congrArg some (hk 10 (by decide) 0 rfl)
    · exact congrArg some (hk 11 (by decide) 0 rfl)
    · exact congrArg some (hk 12 (by decide) 0 rfl)
    · exact congrArg some (hk 13 (by decide) 0 rfl)
    · exact congrArg some (hk 14 (by decide) 0 rfl)
    · exact congrArg some (hk 15 (by decide) 0 rfl)
    · exact congrArg some (hk 16 (by decide) 0 rfl)
    · exact congrArg some (hk 17 (by decide) 0 rfl)
    · exact congrArg some (hk 18 (by decide) 0 rfl)
    · exact congrArg some (hk 19 (by decide) 0 rfl)
    · exact congrArg some (hk 20 (by decide) 2 rfl)
    · exact congrArg some (hk 21 (by decide) 2 rfl)
    · exact congrArg some (hk 22 (by decide) 2 rfl)
    · exact congrArg some (hk 23 (by decide) 2 rfl)
    · exact congrArg some (hk 24 (by decide) 0 rfl)
    · exact congrArg some (hk 25 (by decide) 1 rfl)
    · exact congrArg some (hk 26 (by decide) 2 rfl)
  · rw [List.getElem?_eq_none (by show 27 ≤ i; exact hi), List.getElem?_eq_none (by omega)]
theorem cs_evOf {ys : List It} (h : ys.map kind = kinds) : (evOf ys).cs = ys.map cell := by rw [← Ev.cs_items, items_evOf h]
theorem read_kind (x : It) (s : Rd) : kind (x.read s).1 = kind x := by cases x <;> rfl
theorem readAll_kind : ∀ (xs : List It) (s : Rd), (readAll xs s).1.map kind = xs.map kind
  | [], _ => rfl
  | x :: xs, s => by
    unfold readAll
    simp only [List.map_cons]
    rw [read_kind, readAll_kind xs]
theorem readAll_snoc (x : It) : ∀ (xs : List It) (s : Rd), readAll (xs ++ [x]) s = ((readAll xs s).1 ++ [(x.read (readAll xs s).2).1], (x.read (readAll xs s).2).2)
  | [], s => rfl
  | y :: xs, s => by
    have := readAll_snoc x xs (y.read s).2
    rw [List.cons_append]
    unfold readAll
    rw [this]
    rfl
theorem readAll_len : ∀ (xs : List It) (s : Rd), (readAll xs s).1.length = xs.length
  | [], _ => rfl
  | x :: xs, s => by
    unfold readAll
    simp only [List.length_cons]
    rw [readAll_len xs]
/-- what an event's reading asks for -/
def zero : Ev := ⟨fun _ => 0, fun _ => ⟨#[]⟩⟩
def shape : List It := zero.items
/-- the event that is read, and what is left -/
def nextP (s : Rd) : Ev × Rd := (evOf (readAll shape s).1, (readAll shape s).2)
theorem nextP_items (s : Rd) : (nextP s).1.items = (readAll shape s).1 := items_evOf ((readAll_kind shape s).trans rfl)
/-- the reading of events asks for the same, whichever one's bytes they are -/
theorem read_like {x y : It} (h : kind x = kind y) (s : Rd) : x.read s = y.read s := by cases x <;> cases y <;> first | rfl | cases h
theorem readAll_like : ∀ {xs ys : List It}, xs.map kind = ys.map kind → ∀ s, readAll xs s = readAll ys s
  | [], [], _, _ => rfl
  | [], _ :: _, h, _ => by cases h
  | _ :: _, [], h, _ => by cases h
  | x :: xs, y :: ys, h, s => by
    simp only [List.map_cons, List.cons.injEq] at h
    unfold readAll
    rw [read_like h.1, readAll_like h.2]
theorem readAll_shape (e : Ev) (s : Rd) : readAll e.items s = readAll shape s := readAll_like (by rw [e.kinds]; rfl) s
def Ev.bytes (e : Ev) : List UInt8 := putAll e.items
/-- the cells: those that are known first, then zero's -/
def fillC (vs : List Value) : List Value := vs ++ zero.cs.drop vs.length
theorem fillC_nil : fillC [] = zero.cs := rfl
theorem fillC_full {vs : List Value} (h : vs.length = 27) : fillC vs = vs := by unfold fillC; rw [h, show zero.cs.drop 27 = [] from rfl, List.append_nil]
theorem fillC_len {vs : List Value} (h : vs.length ≤ 27) : (fillC vs).length = 27 := by
  unfold fillC
  rw [List.length_append, List.length_drop, zero.cs_len]
  omega
theorem fillC_set {vs : List Value} (u : Value) (h : vs.length < 27) : (fillC vs).set vs.length u = fillC (vs ++ [u]) := by
  unfold fillC
  rw [List.set_append_right _ _ (Nat.le_refl _), Nat.sub_self, List.drop_eq_getElem_cons (by rw [zero.cs_len]; exact h), List.set_cons_zero, List.length_append, List.append_assoc]
  rfl
end Evt
end Go.Proofs.YtgfkopimjmggdaaDoor

/- An event in a block of its own: its load and its store (no condition). -/
namespace Go.Proofs.YtgfkopimjmggdaaDoor
set_option linter.unusedSimpArgs false
set_option linter.unusedVariables false
open Go.ChangeShapes Go.WideShapes Go.RowKit Go.Deep
namespace Evt
open Num
theorem loadRow0 (p : Value) : Instr.loadAt 35 p = LoadRowV 35 p := rfl
theorem storeRow0 (p v : Value) : Instr.storeAt 35 p v = StoreRowV 35 p v := rfl
attribute [local go_sem ↓] loadRow0 storeRow0
theorem resE {fn : Func} {p : Tmp} (h : fn.results = #[.cell p 35]) (tmps : Array Value) (w : World) (g : Nat) (t : TypeId) (e : Ev)
    (hp : tmps.getD p undef = .pointer (some ⟨g, 0, none⟩)) (hg : Blk w g t e.cs.toArray) : (results fn tmps).run Tryd.prog w = .ok e.val w :=
  results_cell_row h tmps w g t _ (0, 0) _ hp hg Tryd.underlying35 rfl (by kernel_rfl)
theorem stE {w : World} {g : Nat} {t : TypeId} (old e : Ev) (h : Blk w g t old.cs.toArray) : (StoreRow 35 ⟨g, 0, none⟩ e.val).run Tryd.prog w = .ok () (w.setCells g 0 e.cs) ∧ Blk (w.setCells g 0 e.cs) g t e.cs.toArray := by
  refine ⟨run_StoreRow (P := Tryd.prog) (t := 35) (n := 27) (by kernel_rfl) e.cs_len e.cs_one h (by rw [old.cs_len]; exact Nat.le_refl _), ?_⟩
  have := Blk.setCells e.cs 0 _ _ h (by rw [e.cs_len, old.cs_len]; exact Nat.le_refl _)
  have h2 : old.cs.drop (0 + e.cs.length) = [] := rfl
  rw [h2] at this
  simpa using this
theorem ldE {w : World} {g : Nat} {t : TypeId} {e : Ev} (h : Blk w g t e.cs.toArray) : (LoadRow 35 ⟨g, 0, none⟩).run Tryd.prog w = .ok e.val w :=
  run_LoadRow (P := Tryd.prog) (t := 35) Tryd.underlying35 rfl (n := 27) (by kernel_rfl) e.cs_len h.range_all
theorem noF (S : Nat → Prop) (w : World) : ∀ W, Chg S w W → True := fun _ _ => trivial
def past (e : Ev) : List Int := [e.n 2, e.n 3, e.n 4, e.n 5, e.n 6, e.n 7, e.n 8, e.n 9, e.n 10, e.n 11, e.n 12, e.n 13, e.n 14, e.n 15, e.n 16, e.n 17]
theorem put_pre (e : Ev) (i : Nat) : (putAll (e.items.take i)).length ≤ e.bytes.length := by
  unfold Ev.bytes
  have h : putAll e.items = putAll (e.items.take i) ++ putAll (e.items.drop i) := by
    unfold putAll
    rw [← List.flatMap_append, List.take_append_drop]
  rw [h, List.length_append]
  omega
theorem put_one {e : Ev} {i : Nat} {x : It} (h : e.items[i]? = some x) : putAll (e.items.take (i + 1)) = putAll (e.items.take i) ++ x.put := by
  rw [List.take_add_one, h]
  simp [putAll]
end Evt
end Go.Proofs.YtgfkopimjmggdaaDoor

/- What names, texts, edges' texts, values and elements may be, in plain words (no condition). -/
namespace Go.Proofs.YtgfkopimjmggdaaDoor
namespace Val
def letterB (c : UInt8) : Bool := (decide (97 ≤ c.toNat) && decide (c.toNat ≤ 122)) || (decide (65 ≤ c.toNat) && decide (c.toNat ≤ 90))
def innerB (c : UInt8) : Bool := letterB c || (decide (48 ≤ c.toNat) && decide (c.toNat ≤ 57)) || decide (c.toNat = 95)
def nameB (l : List UInt8) : Bool := decide (l ≠ []) && decide (l.length ≤ 16) && letterB (l.getD 0 0) && l.all innerB
def signB (c : UInt8) : Bool := decide (32 ≤ c.toNat) && decide (c.toNat ≤ 126)
def plainB (l : List UInt8) : Bool := l.all signB && decide (l.length ≤ 64)
theorem letter_inner {c : UInt8} (h : letterB c = true) : innerB c = true := by simp [innerB, h]
theorem nameB_len {l : List UInt8} (h : nameB l = true) : 0 < l.length ∧ l.length ≤ 16 := by
  simp [nameB] at h
  exact ⟨List.length_pos_iff.2 h.1.1.1, h.1.1.2⟩
/-! ### cutting at a byte -/
def headCons (b : UInt8) : List (List UInt8) → List (List UInt8)
  | [] => [[b]]
  | p :: ps => (b :: p) :: ps
def cutAt (c : UInt8) : List UInt8 → List (List UInt8)
  | [] => [[]]
  | b :: l => if b = c then [] :: cutAt c l else headCons b (cutAt c l)
theorem splitK_ne {b c : UInt8} (h : b ≠ c) (l : List UInt8) : ∀ k, Lib.splitK [c] 0 k (b :: l) = headCons b (Lib.splitK [c] 0 k l)
  | 0 => rfl
  | k + 1 => by
    have hp : ([c] : List UInt8).isPrefixOf (b :: l) = false := by simp [List.isPrefixOf, Ne.symm h]
    have hix : Lib.index (b :: l) [c] = if Lib.index l [c] == -1 then -1 else Lib.index l [c] + 1 := by rw [Lib.index, hp]; simp
    unfold Lib.splitK
    by_cases hm : Lib.index l [c] = -1
    · rw [hix, hm]; rfl
    · have hge := Lib.index_ge l [c]
      obtain ⟨j, hj⟩ : ∃ j : Nat, Lib.index l [c] = j := ⟨(Lib.index l [c]).toNat, by omega⟩
      rw [hix, hj]
      have e1 : ((j : Int) == -1) = false := by simp
      have e2 : ((j : Int) + 1 == -1) = false := by simpa using (by omega : ¬ (j : Int) + 1 = -1)
      simp only [e1, Bool.false_eq_true, if_false, e2, headCons]
      have e3 : ((j : Int) + 1).toNat = j + 1 := by omega
      rw [e3, Int.toNat_natCast]
      simp
theorem split_cut (c : UInt8) : ∀ l : List UInt8, Lib.split l [c] = cutAt c l
  | [] => rfl
  | b :: l => by
    have ih := split_cut c l
    unfold Lib.split at ih ⊢
    unfold cutAt
    by_cases h : b = c
    · subst h
      rw [if_pos rfl, Lib.count_cons_eq, Nat.add_comm, ← ih]
      have hix : Lib.index (b :: l) [b] = 0 := by rw [Lib.index]; simp [List.isPrefixOf]
      conv => lhs; unfold Lib.splitK
      rw [hix]
      simp
    · rw [if_neg h, Lib.count_cons_ne b c l h, splitK_ne h, ih]
theorem cutAt_ne (c : UInt8) : ∀ l : List UInt8, cutAt c l ≠ []
  | [] => by simp [cutAt]
  | b :: l => by
    unfold cutAt
    split
    · simp
    · cases cutAt c l <;> simp [headCons]
def lastSnoc (b : UInt8) : List (List UInt8) → List (List UInt8)
  | [] => [[b]]
  | [p] => [p ++ [b]]
  | p :: ps => p :: lastSnoc b ps
theorem lastSnoc_head {b x : UInt8} : ∀ {L : List (List UInt8)}, L ≠ [] → lastSnoc b (headCons x L) = headCons x (lastSnoc b L)
  | [], h => (h rfl).elim
  | [_], _ => rfl
  | _ :: _ :: _, _ => rfl
theorem cut_snoc (c b : UInt8) : ∀ l : List UInt8, cutAt c (l ++ [b]) = if b = c then cutAt c l ++ [[]] else lastSnoc b (cutAt c l)
  | [] => by
    unfold cutAt
    simp only [List.nil_append]
    split
    · simp [cutAt]
    · simp [cutAt, headCons, lastSnoc]
  | x :: l => by
    have ih := cut_snoc c b l
    rw [List.cons_append]
    unfold cutAt
    rw [ih]
    have hne := cutAt_ne c l
    by_cases h : x = c
    · rw [if_pos h, if_pos h]
      by_cases h2 : b = c
      · rw [if_pos h2, if_pos h2]; rfl
      · rw [if_neg h2, if_neg h2]
        cases hq : cutAt c l with
        | nil => exact (hne hq).elim
        | cons p ps => rfl
    · rw [if_neg h, if_neg h]
      by_cases h2 : b = c
      · rw [if_pos h2, if_pos h2]
        cases hq : cutAt c l with
        | nil => exact (hne hq).elim
        | cons p ps => rfl
      · rw [if_neg h2, if_neg h2, lastSnoc_head hne]
theorem cut_len (c : UInt8) : ∀ l : List UInt8, ((cutAt c l).map fun p => p.length + 1).sum = l.length + 1
  | [] => rfl
  | b :: l => by
    have ih := cut_len c l
    have hne := cutAt_ne c l
    unfold cutAt
    split
    · simp only [List.map_cons, List.sum_cons, ih, List.length_cons, List.length_nil]; omega
    · cases hq : cutAt c l with
      | nil => exact (hne hq).elim
      | cons p ps =>
        rw [hq] at ih
        simp only [headCons, List.map_cons, List.sum_cons, List.length_cons] at ih ⊢
        omega
def linkB (l : List UInt8) : Bool := match cutAt 62 l with
  | [a, b, c] => nameB a && nameB b && nameB c
  | _ => false
theorem linkB_len {l : List UInt8} (h : linkB l = true) : l.length ≤ 50 := by
  have hl := cut_len 62 l
  unfold linkB at h
  split at h
  · next a b c e =>
    rw [e] at hl
    simp only [Bool.and_eq_true] at h
    have h1 := nameB_len h.1.1
    have h2 := nameB_len h.1.2
    have h3 := nameB_len h.2
    simp at hl
    omega
  · cases h
/-- may a value be? -/
def rightB (k n : Int) (t : List UInt8) : Bool :=
  if k = 0 then decide (n = 0) && decide (t = [])
  else if k = 1 then (decide (n = 0) || decide (n = 1)) && decide (t = [])
  else if k = 2 then decide (-1099511627776 ≤ n) && decide (n ≤ 1099511627776) && decide (t = [])
  else if k = 3 then decide (n = 0) && plainB t
  else if k = 4 then decide (n = 0) && nameB t
  else if k = 5 then decide (n = 0) && linkB t
  else false
/-- may an element be? -/
def elemB (k : Int) (a b c d : List UInt8) : Bool :=
  if k = 1 then nameB a && decide (b = []) && decide (c = []) && decide (d = [])
  else if k = 2 ∨ k = 4 then nameB a && decide (b = []) && decide (c = []) && nameB d
  else if k = 3 then nameB a && nameB b && nameB c && decide (d = [])
  else if k = 5 then nameB a && nameB b && nameB c && nameB d
  else false
theorem join_nil_iff : ∀ xs : List (List UInt8), Lib.join xs [] = [] ↔ ∀ x ∈ xs, x = []
  | [] => by simp [Lib.join_nil]
  | x :: r => by
    rw [Lib.join_cons]
    simp [Lib.joinTail]
end Val
end Go.Proofs.YtgfkopimjmggdaaDoor

/- Names, texts and values: what the program's calls compute (no condition). -/
namespace Go.Proofs.YtgfkopimjmggdaaDoor
open Go.ChangeShapes Go.WideShapes Go.RowKit Go.Deep
namespace Val
theorem letter (w : World) (c : UInt8) : Calls Tryd.prog 64 #[.int .u8 (c.toNat : Int)] w fun e w' => e = .returned (.bool (letterB c)) ∧ w' = w := by
  unfold letterB
  obtain ⟨x, hx⟩ : ∃ x, c.toNat = x := ⟨_, rfl⟩
  rw [hx]
  clear hx
  by_cases h1 : (97 : Int) ≤ (x : Int)
  · by_cases h2 : (x : Int) ≤ 122
    · have e1 : decide (97 ≤ x) = true := by simp; omega
      have e2 : decide (x ≤ 122) = true := by simp; omega
      rw [e1, e2]
      clear e1 e2
      go_enter Tryd.func64, Tryd.ntmps64
      go_wp2_with fail
      go_ret
      exact ⟨rfl, rfl⟩
    · have e2 : decide (x ≤ 122) = false := by simp; omega
      have e4 : decide (x ≤ 90) = false := by simp; omega
      have h3 : (65 : Int) ≤ (x : Int) := by omega
      have h4 : ¬ (x : Int) ≤ 90 := by omega
      rw [e2, e4]
      simp only [Bool.and_false, Bool.or_false]
      clear e2 e4
      go_enter Tryd.func64, Tryd.ntmps64
      go_wp2_with fail
      go_ret
      exact ⟨rfl, rfl⟩
  · have e1 : decide (97 ≤ x) = false := by simp; omega
    rw [e1]
    by_cases h3 : (65 : Int) ≤ (x : Int)
    · by_cases h4 : (x : Int) ≤ 90
      · have e3 : decide (65 ≤ x) = true := by simp; omega
        have e4 : decide (x ≤ 90) = true := by simp; omega
        rw [e3, e4]
        clear e1 e3 e4
        go_enter Tryd.func64, Tryd.ntmps64
        go_wp2_with fail
        go_ret
        exact ⟨rfl, rfl⟩
      · have e4 : decide (x ≤ 90) = false := by simp; omega
        rw [e4]
        simp only [Bool.and_false, Bool.or_false, Bool.false_and]
        clear e1 e4
        go_enter Tryd.func64, Tryd.ntmps64
        go_wp2_with fail
        go_ret
        exact ⟨rfl, rfl⟩
    · have e3 : decide (65 ≤ x) = false := by simp; omega
      rw [e3]
      simp only [Bool.false_and, Bool.or_false]
      clear e1 e3
      go_enter Tryd.func64, Tryd.ntmps64
      go_wp2_with fail
      go_ret
      exact ⟨rfl, rfl⟩
theorem inner (w : World) (c : UInt8) : Calls Tryd.prog 65 #[.int .u8 (c.toNat : Int)] w fun e w' => e = .returned (.bool (innerB c)) ∧ w' = w := by
  have C := Lib.hid (letter w c)
  unfold innerB
  obtain ⟨l, hl⟩ : ∃ l, letterB c = l := ⟨_, rfl⟩
  rw [hl] at C ⊢
  obtain ⟨x, hx⟩ : ∃ x, c.toNat = x := ⟨_, rfl⟩
  rw [hx] at C ⊢
  clear hx hl
  cases l
  · by_cases h1 : (48 : Int) ≤ (x : Int)
    · by_cases h2 : (x : Int) ≤ 57
      · have e1 : decide (48 ≤ x) = true := by simp; omega
        have e2 : decide (x ≤ 57) = true := by simp; omega
        rw [e1, e2]
        clear e1 e2
        go_enter Tryd.func65, Tryd.ntmps65
        go_wp2_with fail
        refine C.out.mono ?_
        rintro e w1 ⟨rfl, rfl⟩
        go_wp2_with fail
        go_ret
        exact ⟨rfl, rfl⟩
      · have e2 : decide (x ≤ 57) = false := by simp; omega
        rw [e2]
        by_cases h3 : x = 95
        · subst h3
          clear e2
          go_enter Tryd.func65, Tryd.ntmps65
          go_wp2_with fail
          refine C.out.mono ?_
          rintro e w1 ⟨rfl, rfl⟩
          go_wp2_with fail
          go_ret
          exact ⟨rfl, rfl⟩
        · have h4 : ((x : Int) == 95) = false := by simp; omega
          have h5 : ¬ (x : Int) = 95 := by omega
          have e3 : decide (x = 95) = false := by simpa using h3
          have h6 : decide ((x : Int) ≤ 57) = false := by simp; omega
          rw [e3]
          simp only [Bool.and_false, Bool.or_false]
          clear e2 e3 h3
          go_enter Tryd.func65, Tryd.ntmps65
          go_wp2_with fail
          refine C.out.mono ?_
          rintro e w1 ⟨rfl, rfl⟩
          go_wp2_with fail
          go_ret
          exact ⟨rfl, rfl⟩
    · have e1 : decide (48 ≤ x) = false := by simp; omega
      have h4 : ((x : Int) == 95) = false := by simp; omega
      have h5 : ¬ (x : Int) = 95 := by omega
      have e3 : decide (x = 95) = false := by simp; omega
      rw [e1, e3]
      simp only [Bool.false_and, Bool.or_false]
      clear e1 e3
      go_enter Tryd.func65, Tryd.ntmps65
      go_wp2_with fail
      refine C.out.mono ?_
      rintro e w1 ⟨rfl, rfl⟩
      go_wp2_with fail
      go_ret
      exact ⟨rfl, rfl⟩
  · simp only [Bool.true_or]
    go_enter Tryd.func65, Tryd.ntmps65
    go_wp2_with fail
    refine C.out.mono ?_
    rintro e w1 ⟨rfl, rfl⟩
    go_wp2_with fail
    go_ret
    exact ⟨rfl, rfl⟩
theorem at_list {s : ByteArray} {k : Nat} (h : k < s.size) : s.data.toList[k]? = some (s[k]'h) := by
  rw [Array.getElem?_toList]
  exact Array.getElem?_eq_getElem h
theorem toList_data (s : ByteArray) : s.toList = s.data.toList := Lib.toList_data s
theorem size_list (s : ByteArray) : s.data.toList.length = s.size := rfl
set_option maxHeartbeats 1000000 in
theorem name (w : World) (s : ByteArray) : Calls Tryd.prog 60 #[.string s] w fun e w' => e = .returned (.bool (nameB s.data.toList)) ∧ w' = w := by
  by_cases h0 : s = ⟨#[]⟩
  · subst h0
    go_enter Tryd.func60, Tryd.ntmps60
    go_wp2_with fail
    go_ret
    exact ⟨rfl, rfl⟩
  have hpos : 0 < s.size := by
    rcases Nat.eq_zero_or_pos s.size with h | h
    · exact (h0 (by apply ByteArray.ext; exact Array.eq_empty_of_size_eq_zero h)).elim
    · exact h
  have hemp : s.toList.isEmpty = false := by
    rw [toList_data]
    cases hq : s.data.toList with
    | nil => have := size_list s; rw [hq] at this; simp at this; omega
    | cons _ _ => rfl
  have hemp2 : ¬ s.toList = [] := fun e => by rw [e] at hemp; cases hemp
  have hne : s.data.toList ≠ [] := by rw [← toList_data]; exact hemp2
  have hget : s.data.toList.getD 0 0 = s[0]'hpos := by rw [List.getD_eq_getElem?_getD, at_list hpos]; rfl
  obtain ⟨n, hn⟩ : ∃ n, s.size = n := ⟨_, rfl⟩
  have hlen := size_list s
  rw [hn] at hlen
  by_cases h16 : (16 : Int) < n
  · have hr : nameB s.data.toList = false := by
      unfold nameB
      rw [hlen, decide_eq_false (show ¬ n ≤ 16 by omega)]
      simp
    have HR := Lib.hid hr
    clear hr hget hne
    go_enter Tryd.func60, Tryd.ntmps60
    go_wp2_with fail
    go_ret
    rw [HR.out]
    exact ⟨rfl, rfl⟩
  have C := Lib.hid (letter w (s[0]'hpos))
  obtain ⟨l, hl⟩ : ∃ l, letterB (s[0]'hpos) = l := ⟨_, rfl⟩
  rw [hl] at C
  cases l
  · have hr : nameB s.data.toList = false := by
      unfold nameB
      rw [hget, hl]
      simp
    have HR := Lib.hid hr
    clear hr hget hne hl
    go_enter Tryd.func60, Tryd.ntmps60
    go_wp2_with fail
    refine C.out.mono ?_
    rintro e w1 ⟨rfl, rfl⟩
    go_wp2_with fail
    go_ret
    rw [HR.out]
    exact ⟨rfl, rfl⟩
  · have hr : nameB s.data.toList = s.data.toList.all innerB := by
      unfold nameB
      rw [hget, hl, hlen, decide_eq_true (show n ≤ 16 by omega), decide_eq_true hne]
      simp
    have HR := Lib.hid hr
    clear hr hget hne hl
    go_enter Tryd.func60, Tryd.ntmps60
    go_wp2_with fail
    refine C.out.mono ?_
    rintro e w1 ⟨rfl, rfl⟩
    clear C
    go_wp2_with fail
    go_loopw [3, 19] (fun _ iv wr => ∃ i : Nat, i ≤ n ∧ iv = .int .i64 i ∧ wr = w1 ∧ (s.data.toList.take i).all innerB = true) (fun _ iv _ => n - (intOf iv).toNat)
    case atStart => exact ⟨0, by omega, by go_num, rfl, by simp⟩
    case round =>
      obtain ⟨i, hi, rfl, rfl, hall⟩ := hrel
      by_cases hlt : i < n
      · have his : i < s.size := by omega
        have C := Lib.hid (inner wr (s[i]'his))
        have htk : (s.data.toList.take (i + 1)).all innerB = ((s.data.toList.take i).all innerB && innerB (s[i]'his)) := by
          rw [List.take_add_one, at_list his, List.all_append]
          simp
        have hmem : s[i]'his ∈ s.data.toList := List.mem_of_getElem? (at_list his)
        obtain ⟨l, hl⟩ : ∃ l, innerB (s[i]'his) = l := ⟨_, rfl⟩
        rw [hl] at C htk
        have hii : (i : Int) < n := by omega
        cases l
        · have hf : s.data.toList.all innerB = false := by
            rw [List.all_eq_false]
            exact ⟨_, hmem, by rw [hl]; simp⟩
          have HF := Lib.hid (HR.out.trans hf)
          clear htk hmem hl hall hf
          go_wp2_with fail
          refine C.out.mono ?_
          rintro e w2 ⟨rfl, rfl⟩
          go_wp2_with fail
          go_ret
          rw [HF.out]
          exact ⟨rfl, rfl⟩
        · have HT := Lib.hid (show (s.data.toList.take (i + 1)).all innerB = true by rw [htk, hall]; rfl)
          clear htk hmem hl hall
          go_wp2_with fail
          refine C.out.mono ?_
          rintro e w2 ⟨rfl, rfl⟩
          go_wp2_with fail
          go_roundw
          case rel => exact ⟨i + 1, by omega, by go_num, by first | trivial | rfl, HT.out⟩
          case measure => simp [intOf]; omega
      · obtain rfl : n = i := by omega
        rw [List.take_of_length_le (by rw [hlen]; exact Nat.le_refl _)] at hall
        have HF := Lib.hid (HR.out.trans hall)
        clear hall
        go_wp2_with fail
        go_ret
        rw [HF.out]
        exact ⟨rfl, rfl⟩
end Val
end Go.Proofs.YtgfkopimjmggdaaDoor

/- Texts of printed signs, rows of names, edges' texts, values: what the program's calls compute (no condition but that MaxLen holds a number). -/
namespace Go.Proofs.YtgfkopimjmggdaaDoor
open Go.ChangeShapes Go.WideShapes Go.RowKit Go.Deep
def Spl.lays_ren : Go.Shelf.Ren := ⟨fun | 146 => 69 | 221 => 72 | 268 => 75 | 138 => 76 | 143 => 77 | 195 => 78 | 197 => 79 | 218 => 80 | 219 => 81 | 260 => 82 | 217 => 83 | 225 => 84 | 224 => 85 | 267 => 86 | 266 => 87 | 314 => 88 | n => n, fun | 9 => 9 | 31 => 80 | 3 => 3 | 4 => 4 | 0 => 0 | 105 => 104 | 21 => 21 | 5 => 5 | 46 => 78 | 119 => 108 | 139 => 111 | 138 => 110 | 146 => 113 | 51 => 112 | n => n, fun | 1 => 0 | 3 => 1 | 4 => 2 | n => n⟩
theorem Spl.lays : Go.Proofs.Lays.n146 Tryd.prog Spl.lays_ren := {
  mixed := by kernel_rfl
  f138 := Tryd.func76.trans (congrArg some (by kernel_rfl))
  f143 := Tryd.func77.trans (congrArg some (by kernel_rfl))
  f146 := Tryd.func69.trans (congrArg some (by kernel_rfl))
  f195 := Tryd.func78.trans (congrArg some (by kernel_rfl))
  f197 := Tryd.func79.trans (congrArg some (by kernel_rfl))
  f217 := Tryd.func83.trans (congrArg some (by kernel_rfl))
  f218 := Tryd.func80.trans (congrArg some (by kernel_rfl))
  f219 := Tryd.func81.trans (congrArg some (by kernel_rfl))
  f221 := Tryd.func72.trans (congrArg some (by kernel_rfl))
  f224 := Tryd.func85.trans (congrArg some (by kernel_rfl))
  f225 := Tryd.func84.trans (congrArg some (by kernel_rfl))
  f260 := Tryd.func82.trans (congrArg some (by kernel_rfl))
  f266 := Tryd.func87.trans (congrArg some (by kernel_rfl))
  f267 := Tryd.func86.trans (congrArg some (by kernel_rfl))
  f268 := Tryd.func75.trans (congrArg some (by kernel_rfl))
  f314 := Tryd.func88.trans (congrArg some (by kernel_rfl))
  t0 := Tryd.underlying0
  a0 := Tryd.isAgg0
  z0 := Tryd.sizeOf0
  v0 := Tryd.zeroValue0
  t3 := Tryd.underlying3
  a3 := Tryd.isAgg3
  z3 := Tryd.sizeOf3
  v3 := Tryd.zeroValue3
  t4 := Tryd.underlying4
  a4 := Tryd.isAgg4
  z4 := Tryd.sizeOf4
  v4 := Tryd.zeroValue4
  t5 := Tryd.underlying5
  a5 := Tryd.isAgg5
  z5 := Tryd.sizeOf5
  v5 := Tryd.zeroValue5
  t9 := Tryd.underlying9
  a9 := Tryd.isAgg9
  z9 := Tryd.sizeOf9
  v9 := Tryd.zeroValue9
  t21 := Tryd.underlying21
  a21 := Tryd.isAgg21
  z21 := Tryd.sizeOf21
  v21 := Tryd.zeroValue21
  t31 := Tryd.underlying80
  a31 := Tryd.isAgg80
  z31 := Tryd.sizeOf80
  v31 := Tryd.zeroValue80
  t46 := Tryd.underlying78
  a46 := Tryd.isAgg78
  z46 := Tryd.sizeOf78
  v46 := Tryd.zeroValue78
  t51 := Tryd.underlying112
  a51 := Tryd.isAgg112
  z51 := Tryd.sizeOf112
  v51 := Tryd.zeroValue112
  t105 := Tryd.underlying104
  a105 := Tryd.isAgg104
  z105 := Tryd.sizeOf104
  v105 := Tryd.zeroValue104
  t119 := Tryd.underlying108
  a119 := Tryd.isAgg108
  z119 := Tryd.sizeOf108
  t138 := Tryd.underlying110
  a138 := Tryd.isAgg110
  z138 := Tryd.sizeOf110
  v138 := Tryd.zeroValue110
  t139 := Tryd.underlying111
  a139 := Tryd.isAgg111
  z139 := Tryd.sizeOf111
  v139 := Tryd.zeroValue111
  t146 := Tryd.underlying113
  a146 := Tryd.isAgg113
  z146 := Tryd.sizeOf113
  v146 := Tryd.zeroValue113
  g1 := by kernel_rfl
  g3 := by kernel_rfl
  g4 := by kernel_rfl }
namespace Val
theorem New.iter {a w : World} (h : New a w) (s : ByteArray) (p : Nat) : New a (w.iter s p) := h.alloc _
set_option maxHeartbeats 1000000 in
theorem plain (w : World) (s : ByteArray) : Calls Tryd.prog 62 #[.string s] w fun e w' => e = .returned (.bool (plainB s.data.toList)) ∧ New w w' := by
  obtain ⟨n, hn⟩ : ∃ n, s.size = n := ⟨_, rfl⟩
  have hlen := size_list s
  rw [hn] at hlen
  go_enter Tryd.func62, Tryd.ntmps62
  go_wp2_with fail
  go_loopw [4] (fun _ wr => ∃ i : Nat, i ≤ n ∧ wr = w.iter s i ∧ (s.data.toList.take i).all signB = true) (fun _ wr => n - wr.iterPos w.heap.size)
  case atStart => exact ⟨0, by omega, rfl, by simp⟩
  case round =>
    obtain ⟨i, hi, rfl, hall⟩ := hrel
    by_cases hlt : i < n
    · have his : i < s.size := by omega
      have hmem : s[i]'his ∈ s.data.toList := List.mem_of_getElem? (at_list his)
      have htk : (s.data.toList.take (i + 1)).all signB = ((s.data.toList.take i).all signB && signB (s[i]'his)) := by
        rw [List.take_add_one, at_list his, List.all_append]
        simp
      by_cases hb : (s[i]'his).toNat < 128
      · have hnx := fun ty => run_next_any (P := Tryd.prog) w s i ty his
        rw [decode_ascii s i his hb] at hnx
        simp only [] at hnx
        obtain ⟨b, hbe⟩ : ∃ b, s[i]'his = b := ⟨_, rfl⟩
        rw [hbe] at hnx hmem htk hb
        by_cases h1 : (b.toNat : Int) < 32
        · have hf : s.data.toList.all signB = false := by
            rw [List.all_eq_false]
            refine ⟨b, hmem, ?_⟩
            unfold signB
            rw [decide_eq_false (show ¬ 32 ≤ b.toNat by omega)]
            simp
          have HF := Lib.hid hf
          obtain ⟨x, hx⟩ : ∃ x, b.toNat = x := ⟨_, rfl⟩
          rw [hx] at hnx h1
          clear htk hmem hall hf hbe hb hx
          go_wp2_with fail
          go_ret
          exact ⟨by rw [plainB, HF.out]; rfl, (Chg.refl _ w).alloc _⟩
        · by_cases h2 : (126 : Int) < (b.toNat : Int)
          · have hf : s.data.toList.all signB = false := by
              rw [List.all_eq_false]
              refine ⟨b, hmem, ?_⟩
              unfold signB
              rw [decide_eq_false (show ¬ b.toNat ≤ 126 by omega)]
              simp
            have HF := Lib.hid hf
            obtain ⟨x, hx⟩ : ∃ x, b.toNat = x := ⟨_, rfl⟩
            rw [hx] at hnx h1 h2
            clear htk hmem hall hf hbe hb hx
            go_wp2_with fail
            go_ret
            exact ⟨by rw [plainB, HF.out]; rfl, (Chg.refl _ w).alloc _⟩
          · have ht : (s.data.toList.take (i + 1)).all signB = true := by
              rw [htk, hall]
              unfold signB
              rw [decide_eq_true (show 32 ≤ b.toNat by omega), decide_eq_true (show b.toNat ≤ 126 by omega)]
              rfl
            have HT := Lib.hid ht
            obtain ⟨x, hx⟩ : ∃ x, b.toNat = x := ⟨_, rfl⟩
            rw [hx] at hnx h1 h2
            clear htk hmem hall ht hbe hb hx
            go_wp2_with fail
            go_roundw
            case rel => exact ⟨i + 1, by omega, by first | trivial | rfl, HT.out⟩
            case measure => simp; omega
      · have hnx := fun ty => run_next_any (P := Tryd.prog) w s i ty his
        have hh := decode_high s i his (by omega)
        obtain ⟨c, hc⟩ : ∃ c, (Utf8.decode s i).1 = c := ⟨_, rfl⟩
        rw [hc] at hnx hh
        have hf : s.data.toList.all signB = false := by
          rw [List.all_eq_false]
          refine ⟨_, hmem, ?_⟩
          unfold signB
          rw [decide_eq_false (show ¬ (s[i]'his).toNat ≤ 126 by omega)]
          simp
        have HF := Lib.hid hf
        have h1 : ¬ (c : Int) < 32 := by omega
        have h2 : (126 : Int) < (c : Int) := by omega
        obtain ⟨d, hd⟩ : ∃ d, (Utf8.decode s i).2 = d := ⟨_, rfl⟩
        rw [hd] at hnx
        clear htk hmem hall hf hb hh hc hd
        go_wp2_with fail
        go_ret
        exact ⟨by rw [plainB, HF.out]; rfl, (Chg.refl _ w).alloc _⟩
    · obtain rfl : n = i := by omega
      have hnx := fun ty => run_next_end (P := Tryd.prog) w s n ty (by omega)
      rw [List.take_of_length_le (by rw [hlen]; exact Nat.le_refl _)] at hall
      have HF := Lib.hid hall
      clear hall
      go_wp2_with fail
      go_ret
      refine ⟨?_, (Chg.refl _ w).alloc _⟩
      rw [plainB, HF.out, hlen, Bool.true_and]
      by_cases h : n ≤ 64
      · have h2 : (n : Int) ≤ 64 := by omega
        simp [h, h2]
      · have h2 : ¬ (n : Int) ≤ 64 := by omega
        simp [h, h2]
set_option maxHeartbeats 1000000 in
theorem names (w : World) (A : Option Addr) (n c : Nat) (xs : List ByteArray) (hr : Reads w (fun b => b < w.heap.size) 1 A n (xs.map Value.string)) (hn : n ≤ 100) :
    Calls Tryd.prog 55 #[.slice A n c] w fun e w' => e = .returned (.bool (xs.all fun x => nameB x.data.toList)) ∧ w' = w := by
  have hl : xs.length = n := by simpa using hr.len
  have HR := Lib.hid (And.intro hr hl)
  clear hr hl
  go_enter Tryd.func55, Tryd.ntmps55
  go_wp2_with fail
  go_loopw [4, 7] (fun _ iv wr => ∃ i : Nat, i ≤ n ∧ iv = .int .i64 i ∧ wr = w ∧ ((xs.take i).all fun x => nameB x.data.toList) = true) (fun _ iv _ => n - (intOf iv).toNat)
  case atStart => exact ⟨0, by omega, by go_num, rfl, by simp⟩
  case round =>
    obtain ⟨i, hi, rfl, rfl, hall⟩ := hrel
    by_cases hlt : i < n
    · have hix : i < xs.length := by have := HR.out.2; omega
      obtain ⟨ad, u, rfl, _, hu, hc⟩ := HR.out.1.at_ hlt
      obtain ⟨x, hx⟩ : ∃ x, xs[i]? = some x := ⟨_, List.getElem?_eq_getElem hix⟩
      rw [List.getElem?_map, hx, Option.map_some] at hu
      injection hu with hu
      subst hu
      have C := Lib.hid (name wr x)
      have htk : ((xs.take (i + 1)).all fun x => nameB x.data.toList) = (((xs.take i).all fun x => nameB x.data.toList) && nameB x.data.toList) := by
        rw [List.take_add_one, hx, List.all_append]
        simp
      have hmem : x ∈ xs := List.mem_of_getElem? hx
      obtain ⟨l, hl⟩ : ∃ l, nameB x.data.toList = l := ⟨_, rfl⟩
      rw [hl] at C htk
      have hii : (i : Int) < n := by omega
      cases l
      · have hf : (xs.all fun x => nameB x.data.toList) = false := by
          rw [List.all_eq_false]
          exact ⟨x, hmem, by rw [hl]; simp⟩
        have HF := Lib.hid hf
        clear htk hmem hall hf hl hx
        go_wp2_with fail
        refine C.out.mono ?_
        rintro e w2 ⟨rfl, rfl⟩
        go_wp2_with fail
        go_ret
        rw [HF.out]
        exact ⟨rfl, rfl⟩
      · have HT := Lib.hid (show ((xs.take (i + 1)).all fun x => nameB x.data.toList) = true by rw [htk, hall]; rfl)
        clear htk hmem hall hl hx
        go_wp2_with fail
        refine C.out.mono ?_
        rintro e w2 ⟨rfl, rfl⟩
        go_wp2_with fail
        go_roundw
        case rel => exact ⟨i + 1, by omega, by go_num, by first | trivial | rfl, HT.out⟩
        case measure => simp [intOf]; omega
    · obtain rfl : n = i := by omega
      rw [List.take_of_length_le (by rw [HR.out.2]; exact Nat.le_refl _)] at hall
      have HF := Lib.hid hall
      clear hall
      go_wp2_with fail
      go_ret
      rw [HF.out]
      exact ⟨rfl, rfl⟩
end Val
end Go.Proofs.YtgfkopimjmggdaaDoor
