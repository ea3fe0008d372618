/-
  To which pairs lead, over and over all numbers (Warshall), and what the laws of orders need (plain; no condition).
-/
import Derived.Test.YtonopommbpkfgaaTopoPlain
namespace Go.Proofs.Ytonopommbpkfgaa
namespace Topo
inductive PK (n : Nat) (ps : List (Int × Int)) (k : Nat) : Int → Int → Prop
  | one {a b : Int} : (a, b) ∈ ps → okP n (a, b) = true → PK n ps k a b
  | join {a b c : Int} : c < (k : Int) → PK n ps k a c → PK n ps k c b → PK n ps k a b
section
variable {n : Nat} {ps : List (Int × Int)}
theorem PK.path {k : Nat} {a b : Int} (h : PK n ps k a b) : Path n ps a b := by
  induction h with
  | one hm ho => exact .one hm ho
  | join _ _ _ h1 h2 => exact h1.trans h2
theorem PK.zero {a b : Int} (h : PK n ps 0 a b) : (a, b) ∈ ps ∧ okP n (a, b) = true := by
  cases h with
  | one hm ho => exact ⟨hm, ho⟩
  | join hc h1 _ => have := h1.path.right; omega
theorem PK.succ {k : Nat} {a b : Int} (h : PK n ps (k + 1) a b) : PK n ps k a b ∨ (PK n ps k a k ∧ PK n ps k k b) := by
  induction h with
  | one hm ho => exact .inl (.one hm ho)
  | @join a b c hc _ _ h1 h2 =>
    by_cases e : c = (k : Int)
    · subst e
      exact .inr ⟨h1.elim id (·.1), h2.elim id (·.2)⟩
    · have hc : c < (k : Int) := by omega
      rcases h1 with h1 | ⟨h1, h3⟩
      · rcases h2 with h2 | ⟨h2, h4⟩
        · exact .inl (.join hc h1 h2)
        · exact .inr ⟨.join hc h1 h2, h4⟩
      · rcases h2 with h2 | ⟨h2, h4⟩
        · exact .inr ⟨h1, .join hc h3 h2⟩
        · exact .inr ⟨h1, h4⟩
theorem PK.all {a b : Int} (h : Path n ps a b) : PK n ps n a b := by
  induction h with
  | one hm ho => exact .one hm ho
  | more hp hm ho ih => exact .join hp.right.2 ih (.one hm ho)
end
/-- what row a tells of b -/
def matAt (M : Nat → List Bool) (a b : Nat) : Bool := (M a).getD b false
theorem matAt_set (M : Nat → List Bool) {n i j : Nat} (hl : (M i).length = n) (hj : j < n) (v : Bool) (a b : Nat) : matAt (upd M i ((M i).set j v)) a b = if a = i ∧ b = j then v else matAt M a b := by
  unfold matAt
  by_cases e : a = i
  · subst e
    rw [upd_at]
    by_cases e2 : b = j
    · subst e2
      simp [List.getD_eq_getElem?_getD, hl, hj]
    · rw [if_neg (fun h => e2 h.2)]
      simp [List.getD_eq_getElem?_getD, List.getElem?_set_ne (Ne.symm e2)]
  · rw [if_neg (fun h => e h.1), upd_ne _ _ e]
/-- the pairs so far -/
structure GInv (n : Nat) (pre : List (Int × Int)) (M : Nat → List Bool) : Prop where
  len : ∀ a, a < n → (M a).length = n
  iff : ∀ a b : Nat, a < n → b < n → (matAt M a b = true ↔ ((a : Int), (b : Int)) ∈ pre)
theorem GInv.start (n : Nat) : GInv n [] (fun _ => List.replicate n false) := by
  refine ⟨fun _ _ => by simp, fun a b _ hb => ?_⟩
  simp [matAt, List.getD_eq_getElem?_getD, hb]
theorem GInv.skip {n : Nat} {pre : List (Int × Int)} {M : Nat → List Bool} {p : Int × Int} (h : GInv n pre M) (hp : okP n p = false) : GInv n (pre ++ [p]) M := by
  refine ⟨h.len, fun a b ha hb => ?_⟩
  rw [h.iff a b ha hb, List.mem_append, List.mem_singleton]
  refine ⟨.inl, fun e => e.elim id fun e => ?_⟩
  subst e
  rw [show okP n ((a : Int), (b : Int)) = true from okP_iff.2 ⟨by simp only; omega, by simp only; omega, by simp only; omega, by simp only; omega⟩] at hp
  cases hp
theorem GInv.mark {n : Nat} {pre : List (Int × Int)} {M : Nat → List Bool} {x y : Nat} (h : GInv n pre M) (hx : x < n) (hy : y < n) : GInv n (pre ++ [((x : Int), (y : Int))]) (upd M x ((M x).set y true)) := by
  refine ⟨fun a ha => ?_, fun a b ha hb => ?_⟩
  · by_cases e : a = x
    · subst e; rw [upd_at, List.length_set, h.len a ha]
    · rw [upd_ne _ _ e, h.len a ha]
  · rw [matAt_set M (h.len x hx) hy, List.mem_append, List.mem_singleton]
    by_cases e : a = x ∧ b = y
    · rw [if_pos e, e.1, e.2]; simp
    · rw [if_neg e, h.iff a b ha hb]
      refine ⟨.inl, fun e2 => e2.elim id fun e2 => ?_⟩
      injection e2 with h1 h2
      exact (e ⟨by omega, by omega⟩).elim
structure WInv (n : Nat) (ps : List (Int × Int)) (k i j : Nat) (M : Nat → List Bool) : Prop where
  len : ∀ a, a < n → (M a).length = n
  snd : ∀ a b : Nat, a < n → b < n → matAt M a b = true → Path n ps a b
  old : ∀ a b : Nat, a < n → b < n → PK n ps k a b → matAt M a b = true
  new : ∀ a b : Nat, a < n → b < n → (a < i ∨ a = i ∧ b < j) → PK n ps (k + 1) a b → matAt M a b = true
section
variable {n k i j : Nat} {ps : List (Int × Int)} {M : Nat → List Bool}
theorem WInv.start (h : GInv n ps M) : WInv n ps 0 0 0 M := by
  have hok : ∀ a b : Nat, a < n → b < n → okP n ((a : Int), (b : Int)) = true := fun a b ha hb => okP_iff.2 ⟨by simp only; omega, by simp only; omega, by simp only; omega, by simp only; omega⟩
  exact ⟨h.len, fun a b ha hb e => .one ((h.iff a b ha hb).1 e) (hok a b ha hb), fun a b ha hb e => (h.iff a b ha hb).2 e.zero.1, fun a b _ _ e => by omega⟩
theorem WInv.row (h : WInv n ps k i n M) : WInv n ps k (i + 1) 0 M :=
  ⟨h.len, h.snd, h.old, fun a b ha hb e => h.new a b ha hb (by omega)⟩
theorem WInv.lvl (h : WInv n ps k n 0 M) : WInv n ps (k + 1) 0 0 M :=
  ⟨h.len, h.snd, fun a b ha hb e => h.new a b ha hb (by omega) e, fun a b _ _ e => by omega⟩
theorem WInv.set (h : WInv n ps k i j M) (hk : k < n) (hi : i < n) (hj : j < n) : WInv n ps k i (j + 1) (upd M i ((M i).set j (matAt M i j || matAt M i k && matAt M k j))) := by
  have hset := matAt_set M (h.len i hi) hj (matAt M i j || matAt M i k && matAt M k j)
  have hgrow : ∀ a b, matAt M a b = true → matAt (upd M i ((M i).set j (matAt M i j || matAt M i k && matAt M k j))) a b = true := fun a b e => by
    rw [hset]
    split
    · next e2 => rw [← e2.1, ← e2.2, e]; rfl
    · exact e
  refine ⟨fun a ha => ?_, fun a b ha hb e => ?_, fun a b ha hb e => hgrow a b (h.old a b ha hb e), fun a b ha hb e hp => ?_⟩
  · by_cases e : a = i
    · subst e; rw [upd_at, List.length_set, h.len a ha]
    · rw [upd_ne _ _ e, h.len a ha]
  · rw [hset] at e
    split at e
    · next e2 =>
      obtain ⟨rfl, rfl⟩ := e2
      rcases Bool.or_eq_true_iff.1 e with e | e
      · exact h.snd a b ha hb e
      · have := Bool.and_eq_true_iff.1 e
        exact (h.snd a k ha hk this.1).trans (h.snd k b hk hb this.2)
    · exact h.snd a b ha hb e
  · by_cases e2 : a = i ∧ b = j
    · obtain ⟨rfl, rfl⟩ := e2
      rw [hset, if_pos ⟨rfl, rfl⟩]
      rcases hp.succ with h1 | ⟨h1, h2⟩
      · rw [h.old a b ha hb h1]; rfl
      · rw [h.old a k ha hk h1, h.old k b hk hb h2]; simp
    · exact hgrow a b (h.new a b ha hb (by omega) hp)
theorem WInv.done (h : WInv n ps n 0 0 M) {a b : Nat} (ha : a < n) (hb : b < n) : matAt M a b = true ↔ Path n ps a b :=
  ⟨h.snd a b ha hb, fun e => h.old a b ha hb (.all e)⟩
end
/-! ### one pair or two -/
theorem path_row {n : Nat} {ps : List (Int × Int)} (r : Int → Int) (h : ∀ p ∈ ps, r p.1 < r p.2) {a b : Int} (hp : Path n ps a b) : r a < r b := by
  induction hp with
  | one hm _ => exact h _ hm
  | more _ hm _ ih => have := h _ hm; simp only at this; omega
theorem fix1 {out : List Int} {x : Int} {a v : Nat → Int} (h : Inv 3 [(2, 0)] out [] [] x a v) : out = [1, 2, 0] := by
  have hf : out.length = 3 := h.full_iff.2 fun i hi => by
    have := path_row (fun z => -z) (by simp) hi
    omega
  obtain ⟨p, q, r, rfl⟩ : ∃ p q r, out = [p, q, r] := by
    match out, hf with
    | [p, q, r], _ => exact ⟨p, q, r, rfl⟩
  have hok : okP 3 ((2 : Int), (0 : Int)) = true := by decide
  have h0 := h.ord [] p [q, r] rfl
  have h1 := h.ord [p] q [r] rfl
  have i0 := h.inO p (by simp)
  have i1 := h.inO q (by simp)
  have i2 := h.inO r (by simp)
  have nd := h.nd
  have p0 : p ≠ 0 := fun e => by simpa using h0.1 _ (List.mem_singleton_self _) hok (by rw [e])
  have p1 : p ≤ 1 := by simpa using h0.2 1 (by omega) (by simp) (by simp)
  obtain rfl : p = 1 := by omega
  have q0 : q ≠ 0 := fun e => by simpa using h1.1 _ (List.mem_singleton_self _) hok (by rw [e])
  simp at nd
  obtain rfl : q = 2 := by omega
  obtain rfl : r = 0 := by omega
  rfl
theorem fix2 {out : List Int} {x : Int} {a v : Nat → Int} (h : Inv 2 [(0, 1), (1, 0)] out [] [] x a v) : out.length ≠ 2 := fun e =>
  h.full_iff.1 e 0 (.more (b := 1) (.one (by simp) (by decide)) (by simp) (by decide))
theorem fix3 {out : List Int} {x : Int} {a v : Nat → Int} (h : Inv 3 [(0, 1), (1, 2)] out [] [] x a v) : out.length = 3 ∧ v 2 = 2 := by
  have hf : out.length = 3 := h.full_iff.2 fun i hi => by
    have := path_row (fun z => z) (by simp) hi
    omega
  have hin : ∀ k : Nat, k < 3 → (k : Int) ∈ out := fun k hk => Classical.byContradiction fun hn => by
    obtain ⟨i, hi, _⟩ := (h.out_iff hk).1 hn
    exact h.full_iff.1 hf i hi
  have u0 := h.up (0, 1) (by simp) (by decide) (hin 0 (by omega))
  have u1 := h.up (1, 2) (by simp) (by decide) (hin 1 (by omega))
  have b2 := h.bd1 _ (hin 2 (by omega))
  have z0 := h.pos 0 (by omega)
  have e1 : ((1 : Int)).toNat = 1 := rfl
  have e2 : ((2 : Int)).toNat = 2 := rfl
  have e0 : ((0 : Int)).toNat = 0 := rfl
  simp [e0, e1, e2, hf] at u0 u1 b2
  exact ⟨hf, by omega⟩
theorem fix4 {out : List Int} {x : Int} {a v : Nat → Int} (h : Inv 3 [(1, 1), (1, 2)] out [] [] x a v) : (0 : Int) ∈ out ∧ (1 : Int) ∉ out ∧ (2 : Int) ∉ out := by
  have p1 : Path 3 [(1, 1), (1, 2)] 1 1 := .one (by simp) (by decide)
  have p2 : Path 3 [(1, 1), (1, 2)] 1 2 := .one (by simp) (by decide)
  refine ⟨(h.in_iff (k := 0) (by omega)).2 (by simp), (h.out_iff (k := 1) (by omega)).2 ⟨1, p1, .inl rfl⟩, (h.out_iff (k := 2) (by omega)).2 ⟨1, p1, .inr p2⟩⟩
theorem fix5 {B : List Bool} {x : Int} (h : RInv 3 [(0, 1)] 0 B [] [] x) : B = [false, true, false] := by
  have hl := h.len
  obtain ⟨p, q, r, rfl⟩ : ∃ p q r, B = [p, q, r] := by
    match B, hl with
    | [p, q, r], _ => exact ⟨p, q, r, rfl⟩
  have key : ∀ y, Path 3 [(0, 1)] 0 y ↔ y = 1 := fun y => by
    constructor
    · intro hp
      cases hp with
      | one hm _ => simpa using hm
      | more _ hm _ => simp at hm; exact hm.2
    · rintro rfl
      exact .one (by simp) (by decide)
  have h0 := (h.done 0).trans (key 0)
  have h1 := (h.done 1).trans (key 1)
  have h2 := (h.done 2).trans (key 2)
  simp [seenB] at h0 h1 h2
  rw [h0, h1, h2]
/-! ### what the laws ask -/
section
variable {n : Nat} {ps : List (Int × Int)} {out : List Int} {x : Int} {a v : Nat → Int}
theorem Inv.nodup (h : Inv n ps out [] [] x a v) : out.Nodup := by have := h.nd; rwa [List.append_nil] at this
/-- the one that comes may, and those below may not -/
theorem Inv.least (h : Inv n ps out [] [] x a v) {o1 o2 : List Int} {y : Int} (e : out = o1 ++ y :: o2) :
    (0 ≤ y ∧ y < n) ∧ y ∉ o1 ∧ (∀ j : Nat, j < n → (j : Int) ∈ o1 ∨ ¬ Path n ps j y) ∧ ∀ k : Nat, (k : Int) < y → (k : Int) ∉ o1 → ∃ j : Nat, j < n ∧ (j : Int) ∉ o1 ∧ Path n ps j k := by
  have hy : 0 ≤ y ∧ y < n := h.inO y (by rw [e]; simp)
  refine ⟨hy, fun hm => ?_, fun j hj => ?_, fun k hk hno => ?_⟩
  · have := h.nodup
    rw [e] at this
    exact (List.nodup_append.1 this).2.2 y hm y (List.mem_cons_self ..) rfl
  · by_cases hp : Path n ps j y
    · exact .inl (ord_path h.ord o1.length o1 y o2 (Nat.le_refl _) e j hp)
    · exact .inr hp
  · refine Classical.byContradiction fun hall => ?_
    have := (h.ord o1 y o2 e).2 k (by omega) hno fun p hm ho e2 => Classical.byContradiction fun hn => hall ?_
    · omega
    · have hb := okP_iff.1 ho
      refine ⟨p.1.toNat, by omega, ?_, ?_⟩
      · rw [show ((p.1.toNat : Nat) : Int) = p.1 by omega]; exact hn
      · rw [show ((p.1.toNat : Nat) : Int) = p.1 by omega, ← e2]
        exact .one hm ho
/-- the level of one: one more than the greatest ahead -/
def wantF (n : Nat) (v : Nat → Int) : List (Int × Int) → Nat → Int
  | [], _ => 0
  | p :: ps, k => wantF n v ps k |> fun m => if okP n p && p.2 == (k : Int) then max m (v p.1.toNat + 1) else m
theorem wantF_ge (n : Nat) (v : Nat → Int) (ps : List (Int × Int)) (k : Nat) (p : Int × Int) (hm : p ∈ ps) (ho : okP n p = true) (e : p.2 = (k : Int)) : v p.1.toNat + 1 ≤ wantF n v ps k := by
  induction ps with
  | nil => cases hm
  | cons q ps ih =>
    unfold wantF
    simp only []
    rcases List.mem_cons.1 hm with rfl | h1
    · rw [if_pos (by simp [ho, e])]; omega
    · have := ih h1
      split <;> omega
theorem wantF_src (n : Nat) (v : Nat → Int) (ps : List (Int × Int)) (k : Nat) : wantF n v ps k = 0 ∨ ∃ p ∈ ps, okP n p = true ∧ p.2 = (k : Int) ∧ wantF n v ps k = v p.1.toNat + 1 := by
  induction ps with
  | nil => exact .inl rfl
  | cons q ps ih =>
    have hold : (wantF n v ps k = 0 ∨ ∃ p ∈ q :: ps, okP n p = true ∧ p.2 = (k : Int) ∧ wantF n v ps k = v p.1.toNat + 1) := ih.imp id fun ⟨p, h1, h2⟩ => ⟨p, List.mem_cons_of_mem _ h1, h2⟩
    show (if okP n q && q.2 == (k : Int) then max (wantF n v ps k) (v q.1.toNat + 1) else wantF n v ps k) = 0 ∨ ∃ p ∈ q :: ps, okP n p = true ∧ p.2 = (k : Int) ∧ (if okP n q && q.2 == (k : Int) then max (wantF n v ps k) (v q.1.toNat + 1) else wantF n v ps k) = v p.1.toNat + 1
    split
    · next e =>
      simp at e
      by_cases hle : wantF n v ps k ≤ v q.1.toNat + 1
      · rw [show max (wantF n v ps k) (v q.1.toNat + 1) = v q.1.toNat + 1 by omega]
        exact .inr ⟨q, List.mem_cons_self .., e.1, e.2, rfl⟩
      · rw [show max (wantF n v ps k) (v q.1.toNat + 1) = wantF n v ps k by omega]
        exact hold
    · exact hold
theorem wantF_nn (n : Nat) (v : Nat → Int) (ps : List (Int × Int)) (k : Nat) : 0 ≤ wantF n v ps k := by
  induction ps with
  | nil => exact Int.le_refl _
  | cons q ps ih =>
    show 0 ≤ (if okP n q && q.2 == (k : Int) then max (wantF n v ps k) (v q.1.toNat + 1) else wantF n v ps k)
    split <;> omega
/-- all have come: levels are as they should -/
theorem Inv.want (h : Inv n ps out [] [] x a v) (hf : out.length = n) {k : Nat} (hk : k < n) : v k = wantF n v ps k := by
  have hin : ∀ p ∈ ps, okP n p = true → p.1 ∈ out := fun p _ ho => Classical.byContradiction fun hn => by
    have hb := okP_iff.1 ho
    have hn2 : ((p.1.toNat : Nat) : Int) ∉ out := by rw [show ((p.1.toNat : Nat) : Int) = p.1 by omega]; exact hn
    obtain ⟨i, hi, _⟩ := (h.out_iff (k := p.1.toNat) (by omega)).1 hn2
    exact h.full_iff.1 hf i hi
  have hup : ∀ p ∈ ps, okP n p = true → v p.1.toNat + 1 ≤ v p.2.toNat := fun p hm ho => by
    rcases h.up p hm ho (hin p hm ho) with ⟨_, h1⟩ | h1
    · cases h1
    · exact h1
  have h1 : wantF n v ps k ≤ v k := by
    rcases wantF_src n v ps k with e | ⟨p, hm, ho, e, e2⟩
    · rw [e]; exact h.pos k hk
    · rw [e2]
      have := hup p hm ho
      rwa [e, Int.toNat_natCast] at this
  have h2 : v k ≤ wantF n v ps k := by
    rcases h.src k hk with e | ⟨p, hm, ho, e, _, e2⟩
    · rw [e]; exact wantF_nn n v ps k
    · rw [e2]; exact wantF_ge n v ps k p hm ho e
  omega
theorem wantF_snoc (n : Nat) (v : Nat → Int) (ps : List (Int × Int)) (q : Int × Int) (k : Nat) : wantF n v (ps ++ [q]) k = if okP n q && q.2 == (k : Int) then max (wantF n v ps k) (v q.1.toNat + 1) else wantF n v ps k := by
  induction ps with
  | nil => rfl
  | cons p ps ih =>
    show (if okP n p && p.2 == (k : Int) then max (wantF n v (ps ++ [q]) k) (v p.1.toNat + 1) else wantF n v (ps ++ [q]) k) = if okP n q && q.2 == (k : Int) then max (if okP n p && p.2 == (k : Int) then max (wantF n v ps k) (v p.1.toNat + 1) else wantF n v ps k) (v q.1.toNat + 1) else (if okP n p && p.2 == (k : Int) then max (wantF n v ps k) (v p.1.toNat + 1) else wantF n v ps k)
    rw [ih]
    split <;> split <;> omega
def wantL (n : Nat) (v : Nat → Int) (ps : List (Int × Int)) : List Int := (List.range n).map (wantF n v ps)
theorem wantL_len (n : Nat) (v : Nat → Int) (ps : List (Int × Int)) : (wantL n v ps).length = n := by simp [wantL]
theorem wantL_get {n : Nat} (v : Nat → Int) (ps : List (Int × Int)) {k : Nat} (h : k < n) : (wantL n v ps).getD k 0 = wantF n v ps k := by simp [wantL, List.getD_eq_getElem?_getD, h]
theorem wantL_nil (n : Nat) (v : Nat → Int) : wantL n v [] = List.replicate n 0 := by
  refine List.ext_getElem? fun i => ?_
  by_cases hi : i < n
  · simp [wantL, hi, wantF]
  · rw [List.getElem?_eq_none (by rw [wantL_len]; omega), List.getElem?_eq_none (by simp; omega)]
theorem wantL_not {n : Nat} (v : Nat → Int) {ps : List (Int × Int)} {p : Int × Int} (h : okP n p = false) : wantL n v (ps ++ [p]) = wantL n v ps := by
  unfold wantL
  congr 1
  funext k
  rw [wantF_snoc, h]
  simp
theorem wantL_yes {n : Nat} (v : Nat → Int) {ps : List (Int × Int)} {p q : Nat} (hq : q < n) (h : okP n ((p : Int), (q : Int)) = true) : wantL n v (ps ++ [((p : Int), (q : Int))]) = (wantL n v ps).set q (max (wantF n v ps q) (v p + 1)) := by
  refine List.ext_getElem? fun i => ?_
  by_cases hi : i < n
  · by_cases e : q = i
    · subst e
      rw [List.getElem?_set_self (by rw [wantL_len]; exact hq)]
      simp [wantL, hi, wantF_snoc, h]
    · rw [List.getElem?_set_ne e]
      have : ¬ (q : Int) = (i : Int) := by omega
      simp [wantL, hi, wantF_snoc, this]
  · rw [List.getElem?_eq_none (by rw [wantL_len]; omega), List.getElem?_eq_none (by rw [List.length_set, wantL_len]; omega)]
/-- where each came -/
def atP (out : List Int) (m : Nat) (T : List Int) : Prop := ∀ j, j < m → T.getD (out.getD j 0).toNat 0 = (j : Int)
theorem atP_step (h : Inv n ps out [] [] x a v) {m : Nat} {T : List Int} (ht : T.length = n) (hm : m < out.length) (hT : atP out m T) : atP out (m + 1) (T.set (out.getD m 0).toNat (m : Int)) := by
  have hget : ∀ j, j < out.length → out.getD j 0 ∈ out := fun j hj => by
    rw [List.getD_eq_getElem?_getD, List.getElem?_eq_getElem hj]; exact List.getElem_mem hj
  intro j hj
  have hr := h.inO _ (hget m hm)
  by_cases e : j = m
  · subst e
    rw [List.getD_eq_getElem?_getD, List.getElem?_set_self (by omega)]
    rfl
  · have hjl : j < out.length := by omega
    have hr2 := h.inO _ (hget j hjl)
    have hne : (out.getD m 0).toNat ≠ (out.getD j 0).toNat := fun e2 => by
      have e3 : out.getD m 0 = out.getD j 0 := by omega
      simp only [List.getD_eq_getElem?_getD, List.getElem?_eq_getElem hm, List.getElem?_eq_getElem hjl, Option.getD_some] at e3
      exact e ((List.getElem_inj h.nodup).1 e3).symm
    rw [List.getD_eq_getElem?_getD, List.getElem?_set_ne hne, ← List.getD_eq_getElem?_getD]
    exact hT j (by omega)
/-- over a pair numbers come later -/
theorem atP_lt (h : Inv n ps out [] [] x a v) (hf : out.length = n) {T : List Int} (hT : atP out out.length T) {p q : Nat} (hm : ((p : Int), (q : Int)) ∈ ps) (ho : okP n ((p : Int), (q : Int)) = true) : T.getD p 0 < T.getD q 0 := by
  have hb := okP_iff.1 ho
  simp only at hb
  have hin : ∀ k : Nat, k < n → (k : Int) ∈ out := fun k hk => Classical.byContradiction fun hn => by
    obtain ⟨i, hi, _⟩ := (h.out_iff hk).1 hn
    exact h.full_iff.1 hf i hi
  obtain ⟨s, t, e⟩ := List.append_of_mem (hin q (by omega))
  have hp := (h.ord s q t e).1 _ hm ho rfl
  obtain ⟨s1, s2, e1⟩ := List.append_of_mem hp
  have hq1 := hT s.length (by rw [e]; simp)
  have hp1 := hT s1.length (by rw [e, e1]; simp)
  rw [show out.getD s.length 0 = (q : Int) by rw [e]; simp [List.getD_eq_getElem?_getD], Int.toNat_natCast] at hq1
  rw [show out.getD s1.length 0 = (p : Int) by rw [e, e1]; simp [List.getD_eq_getElem?_getD], Int.toNat_natCast] at hp1
  rw [hq1, hp1, e1]
  simp
  omega
theorem Inv.lvl_lt (h : Inv n ps out [] [] x a v) (hf : out.length = n) {p q : Nat} (hm : ((p : Int), (q : Int)) ∈ ps) (ho : okP n ((p : Int), (q : Int)) = true) : v p < v q := by
  have hb := okP_iff.1 ho
  simp only at hb
  have hin : (p : Int) ∈ out := Classical.byContradiction fun hn => by
    obtain ⟨i, hi, _⟩ := (h.out_iff (k := p) (by omega)).1 hn
    exact h.full_iff.1 hf i hi
  rcases h.up _ hm ho hin with ⟨_, h1⟩ | h1
  · cases h1
  · simp only [Int.toNat_natCast] at h1
    omega
theorem Inv.lvl_bd (h : Inv n ps out [] [] x a v) (hf : out.length = n) {k : Nat} (hk : k < n) : 0 ≤ v k ∧ v k < n := by
  have hin : (k : Int) ∈ out := Classical.byContradiction fun hn => by
    obtain ⟨i, hi, _⟩ := (h.out_iff hk).1 hn
    exact h.full_iff.1 hf i hi
  have := h.bd1 _ hin
  rw [Int.toNat_natCast] at this
  exact ⟨h.pos k hk, by omega⟩
end
end Topo
end Go.Proofs.Ytonopommbpkfgaa
