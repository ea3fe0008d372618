/-
  How numbers come, one behind another, always the least that may: what holds at each step (plain; no condition).
-/
import Derived.Test.YtonopommbpkfgaaWebPlain
namespace Go.Proofs.Ytonopommbpkfgaa
namespace Topo
def cntO (n : Nat) (ps : List (Int × Int)) (out : List Int) (k : Nat) : Nat := ps.countP fun p => okP n p && p.2 == (k : Int) && !out.contains p.1
theorem cnt_zero {n : Nat} {ps : List (Int × Int)} {out : List Int} {k : Nat} : cntO n ps out k = 0 ↔ ∀ p ∈ ps, okP n p = true → p.2 = (k : Int) → p.1 ∈ out := by
  unfold cntO
  rw [List.countP_eq_zero]
  refine forall_congr' fun p => forall_congr' fun _ => ?_
  by_cases h1 : okP n p = true
  · by_cases h2 : p.2 = (k : Int)
    · by_cases h3 : p.1 ∈ out <;> simp [h1, h2, h3]
    · simp [h1, h2]
  · simp [h1]
theorem cnt_nil (n : Nat) (ps : List (Int × Int)) (k : Nat) : (cntO n ps [] k : Int) = aheadF n ps k := by
  unfold cntO aheadF
  rw [List.countP_eq_length_filter]
  simp
theorem cnt_snoc {n : Nat} {ps : List (Int × Int)} {out : List Int} {x : Nat} (hx : (x : Int) ∉ out) (k : Nat) : cntO n ps out k = cntO n ps (out ++ [(x : Int)]) k + (nextF n ps x).count (k : Int) := by
  unfold cntO nextF
  induction ps with
  | nil => rfl
  | cons p ps ih =>
    rw [List.countP_cons, List.countP_cons, ih, List.filter_cons]
    by_cases h1 : okP n p = true
    · by_cases h2 : p.2 = (k : Int)
      · by_cases h3 : p.1 = (x : Int)
        · simp [h1, h2, h3, hx]; omega
        · by_cases h4 : p.1 ∈ out
          · simp [h1, h2, h3, h4]
          · simp [h1, h2, h3, h4]; omega
      · by_cases h3 : p.1 = (x : Int)
        · simp [h1, h2, h3]
        · simp [h1, h2, h3]
    · simp [h1]
theorem next_pair {n : Nat} {ps : List (Int × Int)} {x : Nat} {y : Int} : y ∈ nextF n ps x ↔ ((x : Int), y) ∈ ps ∧ okP n ((x : Int), y) = true := by
  unfold nextF
  rw [List.mem_map]
  constructor
  · rintro ⟨⟨a, b⟩, hp, rfl⟩
    have := List.mem_filter.1 hp
    simp only [Bool.and_eq_true, beq_iff_eq] at this
    obtain ⟨h1, h2, h3⟩ := this
    subst h3
    exact ⟨h1, h2⟩
  · rintro ⟨h1, h2⟩
    exact ⟨_, List.mem_filter.2 ⟨h1, by simp [h2]⟩, rfl⟩
/-- each is the least that may come -/
def Ord (n : Nat) (ps : List (Int × Int)) (out : List Int) : Prop :=
  ∀ o1 x o2, out = o1 ++ x :: o2 → (∀ p ∈ ps, okP n p = true → p.2 = x → p.1 ∈ o1) ∧ ∀ k : Nat, k < n → (k : Int) ∉ o1 → (∀ p ∈ ps, okP n p = true → p.2 = (k : Int) → p.1 ∈ o1) → x ≤ (k : Int)
structure Inv (n : Nat) (ps : List (Int × Int)) (out wait R : List Int) (x : Int) (a v : Nat → Int) : Prop where
  inO : ∀ k ∈ out, 0 ≤ k ∧ k < (n : Int)
  inW : ∀ k ∈ wait, 0 ≤ k ∧ k < (n : Int)
  nd : (out ++ wait).Nodup
  cnt : ∀ k, k < n → a k = cntO n ps out k + R.count (k : Int)
  zero : ∀ k : Nat, k < n → ((k : Int) ∈ out ++ wait ↔ a k = 0)
  inR : ∀ y ∈ R, (x, y) ∈ ps ∧ okP n (x, y) = true
  xo : R ≠ [] → x ∈ out
  pos : ∀ k, k < n → 0 ≤ v k
  up : ∀ p ∈ ps, okP n p = true → p.1 ∈ out → (p.1 = x ∧ p.2 ∈ R) ∨ v p.1.toNat + 1 ≤ v p.2.toNat
  src : ∀ k, k < n → v k = 0 ∨ ∃ p ∈ ps, okP n p = true ∧ p.2 = (k : Int) ∧ p.1 ∈ out ∧ v k = v p.1.toNat + 1
  ord : Ord n ps out
  bd1 : ∀ y ∈ out, v y.toNat + 1 ≤ out.length
  bd2 : ∀ k, k < n → v k ≤ out.length
theorem Inv.perm {n : Nat} {ps : List (Int × Int)} {out wait wait' R : List Int} {x : Int} {a v : Nat → Int} (h : Inv n ps out wait R x a v) (hp : wait'.Perm wait) : Inv n ps out wait' R x a v :=
  ⟨h.inO, fun k hk => h.inW k (hp.mem_iff.1 hk), ((List.Perm.append_left out hp).nodup_iff).2 h.nd, h.cnt, fun k hk => by rw [(List.Perm.append_left out hp).mem_iff]; exact h.zero k hk, h.inR, h.xo, h.pos, h.up, h.src, h.ord, h.bd1, h.bd2⟩
def waits (n : Nat) (ps : List (Int × Int)) (i : Nat) : List Int := ((List.range i).filter fun k => aheadF n ps k == 0).map fun k : Nat => (k : Int)
theorem waits_len (n : Nat) (ps : List (Int × Int)) (i : Nat) : (waits n ps i).length ≤ i := by
  have := List.length_filter_le (fun k => aheadF n ps k == 0) (List.range i)
  simp only [List.length_range] at this
  simpa [waits] using this
theorem waits_yes {n : Nat} {ps : List (Int × Int)} {i : Nat} (h : aheadF n ps i = 0) : waits n ps (i + 1) = waits n ps i ++ [(i : Int)] := by
  simp [waits, List.range_succ, List.filter_append, h]
theorem waits_not {n : Nat} {ps : List (Int × Int)} {i : Nat} (h : aheadF n ps i ≠ 0) : waits n ps (i + 1) = waits n ps i := by
  simp [waits, List.range_succ, List.filter_append, h]
theorem Inv.start {n : Nat} {ps : List (Int × Int)} {wait : List Int} (hw : wait.Perm (waits n ps n)) : Inv n ps [] wait [] 0 (aheadF n ps) (fun _ => 0) := by
  refine Inv.perm ?_ hw
  have hm : ∀ k : Int, k ∈ waits n ps n ↔ ∃ j : Nat, j < n ∧ aheadF n ps j = 0 ∧ (j : Int) = k := fun k => by simp [waits, and_assoc]
  refine ⟨fun k hk => (by cases hk), fun k hk => ?_, ?_, fun k _ => (by rw [cnt_nil]; simp), fun k hk => ?_, fun y hy => (by cases hy), fun h => (h rfl).elim, fun _ _ => Int.le_refl _, fun p _ _ h => (by cases h), fun _ _ => .inl rfl, fun o1 x o2 e => ?_, fun y hy => (by cases hy), fun _ _ => (by simp)⟩
  · obtain ⟨j, hj, _, rfl⟩ := (hm k).1 hk
    omega
  · rw [List.nil_append]
    refine List.Pairwise.map _ (fun a b (h : a ≠ b) => ?_) (List.Pairwise.filter _ List.nodup_range)
    omega
  · rw [List.nil_append, hm]
    constructor
    · rintro ⟨j, _, h0, e⟩
      have : j = k := by omega
      rw [← this]; exact h0
    · exact fun h => ⟨k, hk, h, rfl⟩
  · have := congrArg List.length e
    simp at this
theorem set_upd {V : List Int} {k : Nat} (h : k < V.length) (x : Int) : (fun i => (V.set k x).getD i 0) = upd (fun i => V.getD i 0) k x := by
  funext i
  by_cases e : i = k
  · subst e
    rw [upd_at]
    simp [List.getD_eq_getElem?_getD, h]
  · rw [upd_ne _ _ e]
    simp [List.getD_eq_getElem?_getD, List.getElem?_set_ne (Ne.symm e)]
theorem Inv.cnt_le {n : Nat} {ps : List (Int × Int)} {out wait R : List Int} {x : Int} {a v : Nat → Int} (h : Inv n ps out wait R x a v) {k : Nat} (hk : k < n) : 0 ≤ a k ∧ a k ≤ ps.length + R.length := by
  have h1 := h.cnt k hk
  have h2 : cntO n ps out k ≤ ps.length := List.countP_le_length
  have h3 : R.count (k : Int) ≤ R.length := List.count_le_length
  omega
theorem nodup_len : ∀ (n : Nat) (l : List Int), l.Nodup → (∀ k ∈ l, 0 ≤ k ∧ k < (n : Int)) → l.length ≤ n := by
  intro n
  induction n with
  | zero =>
    intro l _ h
    cases l with
    | nil => exact Nat.le_refl _
    | cons a l => have := h a (List.mem_cons_self ..); omega
  | succ n ih =>
    intro l nd h
    by_cases hm : (n : Int) ∈ l
    · have := ih (l.erase (n : Int)) (nd.erase _) fun k hk => by
        have h1 := (nd.mem_erase_iff).1 hk
        have h2 := h k h1.2
        have := h1.1
        omega
      rw [List.length_erase_of_mem hm] at this
      omega
    · have := ih l nd fun k hk => by
        have h2 := h k hk
        have : k ≠ (n : Int) := fun e => hm (e ▸ hk)
        omega
      omega
theorem Inv.len {n : Nat} {ps : List (Int × Int)} {out wait R : List Int} {x : Int} {a v : Nat → Int} (h : Inv n ps out wait R x a v) : out.length + wait.length ≤ n := by
  rw [← List.length_append]
  exact nodup_len n _ h.nd fun k hk => (List.mem_append.1 hk).elim (h.inO k) (h.inW k)
/-- the least that may comes -/
theorem Inv.pop {n : Nat} {ps : List (Int × Int)} {out wait wait' : List Int} {x0 x : Int} {a v : Nat → Int} (h : Inv n ps out wait [] x0 a v) (hp : (wait' ++ [x]).Perm wait) (hl : ∀ y ∈ wait, x ≤ y) :
    (0 ≤ x ∧ x < (n : Int)) ∧ Inv n ps (out ++ [x]) wait' (nextF n ps x.toNat) x a v := by
  have hxw : x ∈ wait := hp.mem_iff.1 (by simp)
  have hr := h.inW x hxw
  obtain ⟨q, rfl⟩ : ∃ q : Nat, x = (q : Int) := ⟨x.toNat, by omega⟩
  have hq : q < n := by omega
  rw [Int.toNat_natCast]
  have hnd : (out ++ (wait' ++ [(q : Int)])).Nodup := ((List.Perm.append_left out hp).nodup_iff).2 h.nd
  have hxo : (q : Int) ∉ out := fun e => by
    have := (List.nodup_append.1 hnd).2.2 _ e _ (List.mem_append_right wait' (List.mem_singleton_self _))
    exact this rfl
  have hpre : cntO n ps out q = 0 := by
    have h1 := (h.zero q hq).1 (List.mem_append_right out hxw)
    have h2 := h.cnt q hq
    simp at h2
    omega
  have hmem : ∀ k, k ∈ out ++ [(q : Int)] ++ wait' ↔ k ∈ out ++ wait := fun k => by
    have := hp.mem_iff (a := k)
    simp only [List.mem_append, List.mem_singleton] at this ⊢
    rw [← this]
    constructor
    · rintro ((h | h) | h)
      · exact .inl h
      · exact .inr (.inr h)
      · exact .inr (.inl h)
    · rintro (h | h | h)
      · exact .inl (.inl h)
      · exact .inr h
      · exact .inl (.inr h)
  refine ⟨hr, ⟨fun k hk => ?_, fun k hk => h.inW k (hp.mem_iff.1 (List.mem_append_left _ hk)), ?_, fun k hk => ?_, fun k hk => ?_, fun y hy => next_pair.1 hy, fun _ => by simp, h.pos, fun p hm ho hi => ?_, fun k hk => ?_, fun o1 y o2 e => ?_, fun y hy => ?_, fun k hk => ?_⟩⟩
  · rcases List.mem_append.1 hk with h1 | h1
    · exact h.inO k h1
    · rw [List.mem_singleton.1 h1]; exact hr
  · refine (List.Perm.nodup_iff ?_).1 hnd
    rw [List.append_assoc]
    exact List.Perm.append_left out List.perm_append_comm
  · rw [h.cnt k hk, cnt_snoc hxo k]
    simp
  · rw [hmem]; exact h.zero k hk
  · rcases List.mem_append.1 hi with h1 | h1
    · rcases h.up p hm ho h1 with ⟨_, h2⟩ | h2
      · cases h2
      · exact .inr h2
    · have h1 := List.mem_singleton.1 h1
      refine .inl ⟨h1, next_pair.2 ?_⟩
      rw [← h1]
      exact ⟨hm, ho⟩
  · rcases h.src k hk with h1 | ⟨p, h1, h2, h3, h4, h5⟩
    · exact .inl h1
    · exact .inr ⟨p, h1, h2, h3, List.mem_append_left _ h4, h5⟩
  · rcases List.eq_nil_or_concat o2 with rfl | ⟨o3, z, rfl⟩
    · obtain ⟨e1, e2⟩ := List.append_inj' e rfl
      injection e2 with e2
      subst e1 e2
      refine ⟨cnt_zero.1 hpre, fun k hk hno hall => hl _ ?_⟩
      have := (h.zero k hk).2 (by rw [h.cnt k hk, cnt_zero.2 hall]; simp)
      rcases List.mem_append.1 this with h1 | h1
      · exact (hno h1).elim
      · exact h1
    · rw [List.concat_eq_append, ← List.cons_append, ← List.append_assoc] at e
      exact h.ord o1 y o3 (List.append_inj' e rfl).1
  · rw [List.length_append, List.length_singleton]
    rcases List.mem_append.1 hy with h1 | h1
    · have := h.bd1 y h1; omega
    · have := h.bd2 q hq
      rw [List.mem_singleton.1 h1, Int.toNat_natCast]
      omega
  · rw [List.length_append, List.length_singleton]
    have := h.bd2 k hk
    omega
/-- one of those behind x is told -/
theorem Inv.step {n : Nat} {ps : List (Int × Int)} {out wait wait' R : List Int} {x : Int} {a v : Nat → Int} {k : Nat} (h : Inv n ps out wait ((k : Int) :: R) x a v) (hw : wait'.Perm (if a k - 1 = 0 then wait ++ [(k : Int)] else wait)) :
    Inv n ps out wait' R x (upd a k (a k - 1)) (upd v k (max (v k) (v x.toNat + 1))) := by
  refine Inv.perm ?_ hw
  have hkr := h.inR (k : Int) (List.mem_cons_self ..)
  have hk : k < n := by have := okP_iff.1 hkr.2; simp only at this; omega
  have hxo := h.xo (by simp)
  have hc := h.cnt k hk
  simp only [List.count_cons_self] at hc
  have hkno : (k : Int) ∉ out ++ wait := fun e => by have := (h.zero k hk).1 e; omega
  have hkno1 : (k : Int) ∉ out := fun e => hkno (List.mem_append_left _ e)
  have hv : ∀ y ∈ out, upd v k (max (v k) (v x.toNat + 1)) y.toNat = v y.toNat := fun y hy => by
    refine upd_ne _ _ fun e => hkno1 ?_
    have := h.inO y hy
    rwa [show (k : Int) = y by omega]
  refine ⟨h.inO, fun y hy => ?_, ?_, fun j hj => ?_, fun j hj => ?_, fun y hy => h.inR y (List.mem_cons_of_mem _ hy), fun _ => hxo, fun j hj => ?_, fun p hm ho hi => ?_, fun j hj => ?_, h.ord, fun y hy => (by rw [hv y hy]; exact h.bd1 y hy), fun j hj => ?_⟩
  · split at hy
    · rcases List.mem_append.1 hy with h1 | h1
      · exact h.inW y h1
      · rw [List.mem_singleton.1 h1]; omega
    · exact h.inW y hy
  · split
    · rw [← List.append_assoc]
      refine List.nodup_append.2 ⟨h.nd, by simp, fun y hy z hz e => hkno ?_⟩
      rw [← List.mem_singleton.1 hz, ← e]
      exact hy
    · exact h.nd
  · have := h.cnt j hj
    by_cases e : j = k
    · subst e
      rw [upd_at]
      omega
    · rw [upd_ne _ _ e, this, List.count_cons_of_ne (by omega)]
  · have hz := h.zero j hj
    by_cases e : j = k
    · subst e
      rw [upd_at]
      split
      · next h0 => simp [h0]
      · next h0 => exact ⟨fun h1 => (hkno h1).elim, fun h1 => (h0 h1).elim⟩
    · rw [upd_ne _ _ e, ← hz]
      split
      · have : ¬ (j : Int) = k := by omega
        simp [this]
      · exact Iff.rfl
  · by_cases e : j = k
    · subst e
      rw [upd_at]
      have := h.pos j hj
      omega
    · rw [upd_ne _ _ e]; exact h.pos j hj
  · rw [hv p.1 hi]
    have hp2 := okP_iff.1 ho
    by_cases e : p.2 = (k : Int)
    · right
      rw [show p.2.toNat = k by omega, upd_at]
      rcases h.up p hm ho hi with ⟨h1, _⟩ | h1
      · rw [h1]; omega
      · rw [show p.2.toNat = k by omega] at h1
        omega
    · rw [upd_ne _ _ (by omega)]
      rcases h.up p hm ho hi with ⟨h1, h2⟩ | h1
      · rcases List.mem_cons.1 h2 with h2 | h2
        · exact (e h2).elim
        · exact .inl ⟨h1, h2⟩
      · exact .inr h1
  · by_cases e : j = k
    · subst e
      rw [upd_at]
      by_cases hmx : v j ≤ v x.toNat + 1
      · refine .inr ⟨(x, (j : Int)), hkr.1, hkr.2, rfl, hxo, ?_⟩
        show max (v j) (v x.toNat + 1) = upd v j (max (v j) (v x.toNat + 1)) x.toNat + 1
        rw [hv x hxo]
        omega
      · rcases h.src j hj with h1 | ⟨p, h1, h2, h3, h4, h5⟩
        · have := h.pos x.toNat (by have := h.inO x hxo; omega)
          omega
        · refine .inr ⟨p, h1, h2, h3, h4, ?_⟩
          rw [hv p.1 h4]
          omega
    · rw [upd_ne _ _ e]
      rcases h.src j hj with h1 | ⟨p, h1, h2, h3, h4, h5⟩
      · exact .inl h1
      · exact .inr ⟨p, h1, h2, h3, h4, by rw [hv p.1 h4]; exact h5⟩
  · by_cases e : j = k
    · subst e
      rw [upd_at]
      have := h.bd1 x hxo
      have := h.bd2 j hj
      omega
    · rw [upd_ne _ _ e]; exact h.bd2 j hj
end Topo
end Go.Proofs.Ytonopommbpkfgaa
