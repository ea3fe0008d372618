/-
  Numbers and texts as bytes, and read again, in plain words (no condition).
-/
import Derived.Test.YtjkjbbmbfobdaaaDoorMem
namespace Go.Proofs.YtjkjbbmbfobdaaaDoor
set_option linter.unusedSimpArgs false
set_option linter.unusedVariables false
namespace Num
/-- a number's bytes, the low seven bits first -/
def digits (n : Nat) : List UInt8 := if n < 128 then [UInt8.ofNat n] else UInt8.ofNat (n % 128 + 128) :: digits (n / 128)
termination_by n
decreasing_by omega
theorem digits_low {n : Nat} (h : n < 128) : digits n = [UInt8.ofNat n] := by rw [digits, if_pos h]
theorem digits_high {n : Nat} (h : ¬ n < 128) : digits n = UInt8.ofNat (n % 128 + 128) :: digits (n / 128) := by rw [digits, if_neg h]
theorem digits_len : ∀ (k n : Nat), n < 128 ^ (k + 1) → (digits n).length ≤ k + 1
  | 0, n, h => by rw [digits_low (by simpa using h)]; simp
  | k + 1, n, h => by
    by_cases h1 : n < 128
    · rw [digits_low h1]; simp
    · rw [digits_high h1, List.length_cons]
      have := digits_len k (n / 128) (by rw [Nat.div_lt_iff_lt_mul (by decide)]; rw [Nat.pow_succ] at h; exact h)
      omega
theorem digits_pos (n : Nat) : 0 < (digits n).length := by
  by_cases h1 : n < 128
  · rw [digits_low h1]; simp
  · rw [digits_high h1]; simp
def putB (n : Int) : List UInt8 := if 0 ≤ n ∧ n ≤ 4611686018427387903 then digits n.toNat else []
theorem putB_len (n : Int) : (putB n).length ≤ 9 := by
  unfold putB
  split
  · exact digits_len 8 _ (by omega)
  · simp
theorem putB_at {n : Nat} (h : n ≤ 4611686018427387903) : putB (n : Int) = digits n := by
  unfold putB
  rw [if_pos ⟨by omega, by omega⟩, Int.toNat_natCast]
def signedB (n : Int) : List UInt8 := if n < -1152921504606846976 ∨ 1152921504606846976 < n then [] else if n < 0 then putB (-2 * n - 1) else putB (2 * n)
theorem signedB_len (n : Int) : (signedB n).length ≤ 9 := by
  unfold signedB
  split
  · simp
  · split
    · exact putB_len _
    · exact putB_len _
def textB (s : List UInt8) : List UInt8 := putB s.length ++ s
theorem textB_len (s : List UInt8) : (textB s).length ≤ s.length + 9 := by
  unfold textB
  rw [List.length_append]
  have := putB_len s.length
  omega
/-- the number at the beginning, behind i bytes that come to acc; and how many bytes it has -/
def takeGo (i acc : Nat) : List UInt8 → Option (Nat × Nat)
  | [] => none
  | c :: l => if 9 ≤ i then none else if c.toNat < 128 then (if (c.toNat = 0 ∧ 0 < i) ∨ 4611686018427387903 < acc + c.toNat % 128 * 2 ^ (7 * i) then none else some (acc + c.toNat % 128 * 2 ^ (7 * i), i + 1)) else takeGo (i + 1) (acc + c.toNat % 128 * 2 ^ (7 * i)) l
theorem take_digits (rest : List UInt8) : ∀ (k m i acc : Nat), m < k → acc + m * 2 ^ (7 * i) ≤ 4611686018427387903 → i + (digits m).length ≤ 9 → (i = 0 ∨ 0 < m) → takeGo i acc (digits m ++ rest) = some (acc + m * 2 ^ (7 * i), i + (digits m).length)
  | 0, m, i, acc, hk, _, _, _ => absurd hk (by omega)
  | k + 1, m, i, acc, hk, h, h9, h0 => by
    by_cases h1 : m < 128
    · rw [digits_low h1] at h9 ⊢
      have e : (UInt8.ofNat m).toNat = m := by simp; omega
      simp only [List.cons_append, List.nil_append, takeGo, e, List.length_cons, List.length_nil] at h9 ⊢
      rw [if_neg (by omega), if_pos h1, Nat.mod_eq_of_lt h1, if_neg (by omega)]
    · rw [digits_high h1] at h9 ⊢
      have e : (UInt8.ofNat (m % 128 + 128)).toNat = m % 128 + 128 := by simp; omega
      simp only [List.cons_append, takeGo, e, List.length_cons] at h9 ⊢
      rw [if_neg (by omega), if_neg (by omega), show (m % 128 + 128) % 128 = m % 128 by omega]
      have e2 : acc + m % 128 * 2 ^ (7 * i) + m / 128 * 2 ^ (7 * (i + 1)) = acc + m * 2 ^ (7 * i) := by
        rw [show 7 * (i + 1) = 7 * i + 7 by omega, Nat.pow_add, show (2 : Nat) ^ 7 = 128 by decide, ← Nat.mul_assoc, Nat.mul_right_comm, Nat.add_assoc, ← Nat.add_mul]
        congr 2
        omega
      rw [take_digits rest k (m / 128) (i + 1) _ (by omega) (by rw [e2]; exact h) (by omega) (.inr (by omega)), e2]
      congr 2
      omega
theorem take_put {n : Nat} (h : n ≤ 4611686018427387903) (rest : List UInt8) : takeGo 0 0 (digits n ++ rest) = some (n, (digits n).length) := by
  have := take_digits rest (n + 1) n 0 0 (by omega) (by simpa using h) (by have := digits_len 8 n (by omega); omega) (.inl rfl)
  simpa using this
theorem takeGo_app (q : List UInt8) : ∀ (l : List UInt8) (i acc : Nat) {n k : Nat}, takeGo i acc l = some (n, k) → takeGo i acc (l ++ q) = some (n, k)
  | [], _, _, _, _, h => by simp [takeGo] at h
  | c :: l, i, acc, n, k, h => by
    simp only [List.cons_append, takeGo] at h ⊢
    split at h
    · cases h
    · rename_i h1
      rw [if_neg h1]
      split at h
      · rename_i h2
        rw [if_pos h2]
        exact h
      · rename_i h2
        rw [if_neg h2]
        exact takeGo_app q l _ _ h
theorem takeGo_len : ∀ (l : List UInt8) (i acc : Nat) {n k : Nat}, takeGo i acc l = some (n, k) → i < k ∧ k ≤ i + l.length ∧ k ≤ 9 ∧ n ≤ 4611686018427387903
  | [], _, _, _, _, h => by simp [takeGo] at h
  | c :: l, i, acc, n, k, h => by
    simp only [takeGo] at h
    split at h
    · cases h
    · split at h
      · split at h
        · cases h
        · injection h with h
          injection h with h1 h2
          rw [List.length_cons]
          omega
      · have := takeGo_len l _ _ h
        rw [List.length_cons]
        omega
/-- what is left to read; whether something failed -/
structure Rd where
  l : List UInt8
  bad : Bool
def numP (most : Int) (s : Rd) : Int × Rd := if s.bad = true then (0, s) else match takeGo 0 0 s.l with
  | none => (0, ⟨s.l, true⟩)
  | some (n, k) => if most < (n : Int) then (0, ⟨s.l, true⟩) else ((n : Int), ⟨s.l.drop k, false⟩)
def signedP (s : Rd) : Int × Rd := (if (numP 2305843009213693952 s).1 % 2 = 1 then -((numP 2305843009213693952 s).1 / 2) - 1 else (numP 2305843009213693952 s).1 / 2, (numP 2305843009213693952 s).2)
def textP (most : Int) (s : Rd) : List UInt8 × Rd := if (numP most s).2.bad = true then ([], (numP most s).2) else if ((numP most s).2.l.length : Int) < (numP most s).1 then ([], ⟨(numP most s).2.l, true⟩) else
  ((numP most s).2.l.take (numP most s).1.toNat, ⟨(numP most s).2.l.drop (numP most s).1.toNat, false⟩)
theorem numP_bad {most : Int} {s : Rd} (h : s.bad = true) : numP most s = (0, s) := by unfold numP; rw [if_pos h]
theorem numP_range (most : Int) (hm : 0 ≤ most) (s : Rd) : 0 ≤ (numP most s).1 ∧ (numP most s).1 ≤ most := by
  unfold numP
  split
  · exact ⟨Int.le_refl _, hm⟩
  · split
    · exact ⟨Int.le_refl _, hm⟩
    · split
      · exact ⟨Int.le_refl _, hm⟩
      · dsimp only; omega
theorem numP_put {n most : Int} (h0 : 0 ≤ n) (h : n ≤ most) (hm : most ≤ 4611686018427387903) (rest : List UInt8) : numP most ⟨putB n ++ rest, false⟩ = (n, ⟨rest, false⟩) := by
  unfold numP putB
  rw [if_neg (by simp), if_pos ⟨h0, by omega⟩]
  dsimp only
  rw [take_put (by omega) rest]
  dsimp only
  rw [if_neg (by omega), List.drop_left]
  congr 1
  omega
theorem numP_app {most : Int} {l l' : List UInt8} {n : Int} (h : numP most ⟨l, false⟩ = (n, ⟨l', false⟩)) (q : List UInt8) : numP most ⟨l ++ q, false⟩ = (n, ⟨l' ++ q, false⟩) := by
  unfold numP at h ⊢
  rw [if_neg (by simp)] at h ⊢
  dsimp only at h ⊢
  cases ht : takeGo 0 0 l with
  | none => rw [ht] at h; simp at h
  | some p =>
    obtain ⟨m, k⟩ := p
    rw [ht] at h
    rw [takeGo_app q l 0 0 ht]
    dsimp only at h ⊢
    split at h
    · simp at h
    · rename_i hm
      rw [if_neg hm]
      simp only [Prod.mk.injEq, Rd.mk.injEq] at h ⊢
      have := takeGo_len l 0 0 ht
      exact ⟨h.1, by rw [List.drop_append_of_le_length (by omega), h.2.1], trivial⟩
theorem signedP_put {n : Int} (h0 : -1152921504606846976 ≤ n) (h : n ≤ 1152921504606846976) (rest : List UInt8) : signedP ⟨signedB n ++ rest, false⟩ = (n, ⟨rest, false⟩) := by
  have hs : signedB n = if n < 0 then putB (-2 * n - 1) else putB (2 * n) := by
    unfold signedB
    rw [if_neg (by omega)]
  unfold signedP
  rw [hs]
  by_cases hn : n < 0
  · rw [if_pos hn, numP_put (by omega) (by omega) (by decide)]
    dsimp only
    rw [if_pos (by omega)]
    congr 1
    omega
  · rw [if_neg hn, numP_put (by omega) (by omega) (by decide)]
    dsimp only
    rw [if_neg (by omega)]
    congr 1
    omega
theorem signedP_app {l l' : List UInt8} {n : Int} (h : signedP ⟨l, false⟩ = (n, ⟨l', false⟩)) (q : List UInt8) : signedP ⟨l ++ q, false⟩ = (n, ⟨l' ++ q, false⟩) := by
  unfold signedP at h ⊢
  simp only [Prod.mk.injEq] at h
  have := numP_app (most := 2305843009213693952) (n := (numP 2305843009213693952 ⟨l, false⟩).1) (Prod.ext rfl h.2) q
  rw [this]
  exact Prod.ext h.1 rfl
theorem textP_put {s : List UInt8} {most : Int} (h : (s.length : Int) ≤ most) (hm : most ≤ 4611686018427387903) (rest : List UInt8) : textP most ⟨textB s ++ rest, false⟩ = (s, ⟨rest, false⟩) := by
  unfold textP textB
  rw [List.append_assoc, numP_put (by omega) h hm]
  dsimp only
  rw [if_neg (by simp), if_neg (by rw [List.length_append]; omega), Int.toNat_natCast, List.take_left, List.drop_left]
theorem textP_app {most : Int} {l l' s : List UInt8} (h : textP most ⟨l, false⟩ = (s, ⟨l', false⟩)) (q : List UInt8) : textP most ⟨l ++ q, false⟩ = (s, ⟨l' ++ q, false⟩) := by
  unfold textP at h ⊢
  obtain ⟨n, s1⟩ : ∃ n, n = numP most ⟨l, false⟩ := ⟨_, rfl⟩
  rw [← s1] at h
  obtain ⟨a, r⟩ := n
  obtain ⟨l1, b1⟩ := r
  cases b1 with
  | true => simp at h
  | false =>
    have hr := numP_range most
    rw [numP_app s1.symm q]
    dsimp only at h ⊢
    rw [if_neg (by simp)] at h ⊢
    split at h
    · simp at h
    · rename_i hm
      rw [if_neg (by rw [List.length_append]; omega)]
      simp only [Prod.mk.injEq, Rd.mk.injEq] at h ⊢
      rw [List.take_append_of_le_length (by omega), List.drop_append_of_le_length (by omega), h.1, h.2.1]
      exact ⟨rfl, rfl, trivial⟩
theorem signedP_bad {s : Rd} (h : s.bad = true) : (signedP s).2 = s := by unfold signedP; rw [numP_bad h]
theorem textP_bad {most : Int} {s : Rd} (h : s.bad = true) : (textP most s).2 = s := by
  unfold textP
  rw [numP_bad h]
  dsimp only
  rw [if_pos h]
/-- what is put, and read -/
inductive It where
  | n (v : Int)
  | z (v : Int)
  | t (v : List UInt8)
def It.put : It → List UInt8
  | .n v => putB v
  | .z v => signedB v
  | .t v => textB v
def It.ok : It → Prop
  | .n v => 0 ≤ v ∧ v ≤ 4611686018427387903
  | .z v => -1152921504606846976 ≤ v ∧ v ≤ 1152921504606846976
  | .t v => v.length ≤ 1048576
/-- one of the same kind is read -/
def It.read : It → Rd → It × Rd
  | It.n _, s => (.n (numP 4611686018427387903 s).1, (numP 4611686018427387903 s).2)
  | .z _, s => (.z (signedP s).1, (signedP s).2)
  | It.t _, s => (.t (textP 1048576 s).1, (textP 1048576 s).2)
def putAll (xs : List It) : List UInt8 := xs.flatMap It.put
def readAll : List It → Rd → List It × Rd
  | [], s => ([], s)
  | x :: xs, s => ((x.read s).1 :: (readAll xs (x.read s).2).1, (readAll xs (x.read s).2).2)
theorem It.read_put {x : It} (h : x.ok) (rest : List UInt8) : x.read ⟨x.put ++ rest, false⟩ = (x, ⟨rest, false⟩) := by
  cases x with
  | n v => simp only [It.read, It.put]; rw [numP_put h.1 h.2 (by decide)]
  | z v => simp only [It.read, It.put]; rw [signedP_put h.1 h.2]
  | t v => simp only [It.read, It.put]; rw [textP_put (by have : v.length ≤ 1048576 := h; omega) (by decide)]
theorem It.read_bad (x : It) {s : Rd} (h : s.bad = true) : (x.read s).2 = s := by
  cases x with
  | n v => simp only [It.read]; rw [numP_bad h]
  | z v => simp only [It.read]; rw [signedP_bad h]
  | t v => simp only [It.read]; rw [textP_bad h]
theorem It.read_app (x : It) {l l' : List UInt8} {y : It} (h : x.read ⟨l, false⟩ = (y, ⟨l', false⟩)) (q : List UInt8) : x.read ⟨l ++ q, false⟩ = (y, ⟨l' ++ q, false⟩) := by
  cases x with
  | n v =>
    simp only [It.read, Prod.mk.injEq] at h ⊢
    rw [numP_app (Prod.ext rfl h.2) q]
    exact ⟨h.1, rfl⟩
  | z v =>
    simp only [It.read, Prod.mk.injEq] at h ⊢
    rw [signedP_app (Prod.ext rfl h.2) q]
    exact ⟨h.1, rfl⟩
  | t v =>
    simp only [It.read, Prod.mk.injEq] at h ⊢
    rw [textP_app (Prod.ext rfl h.2) q]
    exact ⟨h.1, rfl⟩
theorem readAll_put : ∀ {xs : List It}, (∀ x ∈ xs, x.ok) → ∀ rest, readAll xs ⟨putAll xs ++ rest, false⟩ = (xs, ⟨rest, false⟩)
  | [], _, rest => rfl
  | x :: xs, h, rest => by
    have h1 := It.read_put (h x (List.mem_cons_self ..)) (putAll xs ++ rest)
    have h2 := readAll_put (fun y hy => h y (List.mem_cons_of_mem _ hy)) rest
    have e : putAll (x :: xs) ++ rest = x.put ++ (putAll xs ++ rest) := by simp [putAll]
    rw [e]
    unfold readAll
    rw [h1, h2]
theorem readAll_bad : ∀ (xs : List It) {s : Rd}, s.bad = true → (readAll xs s).2 = s
  | [], _, _ => rfl
  | x :: xs, s, h => by
    unfold readAll
    dsimp only
    rw [x.read_bad h]
    exact readAll_bad xs h
theorem readAll_app (q : List UInt8) : ∀ (xs : List It) {l l' : List UInt8} {ys : List It}, readAll xs ⟨l, false⟩ = (ys, ⟨l', false⟩) → readAll xs ⟨l ++ q, false⟩ = (ys, ⟨l' ++ q, false⟩)
  | [], l, l', ys, h => by
    simp only [readAll, Prod.mk.injEq, Rd.mk.injEq] at h ⊢
    exact ⟨h.1, by rw [h.2.1], trivial⟩
  | x :: xs, l, l', ys, h => by
    unfold readAll at h ⊢
    obtain ⟨y, s1, hs⟩ : ∃ y s1, x.read ⟨l, false⟩ = (y, s1) := ⟨_, _, rfl⟩
    rw [hs] at h
    obtain ⟨l1, b1⟩ := s1
    cases b1 with
    | true =>
      simp only [Prod.mk.injEq] at h
      rw [readAll_bad xs rfl] at h
      have := h.2
      simp at this
    | false =>
      rw [x.read_app hs q]
      simp only [Prod.mk.injEq] at h ⊢
      have := readAll_app q xs (l := l1) (l' := l') (ys := (readAll xs ⟨l1, false⟩).1) (Prod.ext rfl h.2)
      rw [this]
      exact ⟨h.1, rfl⟩
/-- of a part of the bytes nothing is read -/
theorem readAll_cut {xs : List It} (h : ∀ x ∈ xs, x.ok) {p q : List UInt8} (hp : putAll xs = p ++ q) (hq : q ≠ []) : (readAll xs ⟨p, false⟩).2.bad = true := by
  cases hb : (readAll xs ⟨p, false⟩).2.bad with
  | true => rfl
  | false =>
    have h1 := readAll_app q xs (l := p) (l' := (readAll xs ⟨p, false⟩).2.l) (ys := (readAll xs ⟨p, false⟩).1) (Prod.ext rfl (by
      obtain ⟨r, hr⟩ : ∃ r, (readAll xs ⟨p, false⟩).2 = r := ⟨_, rfl⟩
      rw [hr] at hb ⊢
      obtain ⟨l, b⟩ := r
      cases hb
      rfl))
    have h2 := readAll_put h []
    rw [List.append_nil, hp, h1] at h2
    simp only [Prod.mk.injEq, Rd.mk.injEq, List.append_eq_nil_iff] at h2
    exact (hq h2.2.1.2).elim
end Num
end Go.Proofs.YtjkjbbmbfobdaaaDoor
