/-
  Cells of which the latest counts, in plain words (no condition).
-/
import Derived.Test.YtgnlbekagdffoaaDoorValPlain
import Derived.Lib.Bytealg
namespace Go.Proofs.YtgnlbekagdffoaaDoor
set_option linter.unusedSimpArgs false
set_option linter.unusedVariables false
namespace Lat
/-- rows of numbers, held against each other: the first that differ tell -/
def cmpL : List Int → List Int → Int
  | [], [] => 0
  | [], _ :: _ => -1
  | _ :: _, [] => 1
  | a :: as, b :: bs => if a < b then -1 else if b < a then 1 else cmpL as bs
theorem cmpL_self : ∀ x : List Int, cmpL x x = 0
  | [] => rfl
  | a :: as => by simp [cmpL, cmpL_self as]
theorem cmpL_eq : ∀ {x y : List Int}, cmpL x y = 0 → x = y
  | [], [], _ => rfl
  | [], _ :: _, h => by simp [cmpL] at h
  | _ :: _, [], h => by simp [cmpL] at h
  | a :: as, b :: bs, h => by
    unfold cmpL at h
    split at h
    · omega
    · split at h
      · omega
      · rw [cmpL_eq h, show a = b by omega]
theorem cmpL_neg : ∀ x y : List Int, cmpL y x = - cmpL x y
  | [], [] => rfl
  | [], _ :: _ => rfl
  | _ :: _, [] => rfl
  | a :: as, b :: bs => by
    unfold cmpL
    rw [cmpL_neg as bs]
    split <;> split <;> first | omega | (split <;> omega)
theorem cmpL_range : ∀ x y : List Int, cmpL x y = -1 ∨ cmpL x y = 0 ∨ cmpL x y = 1
  | [], [] => .inr (.inl rfl)
  | [], _ :: _ => .inl rfl
  | _ :: _, [] => .inr (.inr rfl)
  | a :: as, b :: bs => by
    unfold cmpL
    split
    · exact .inl rfl
    · split
      · exact .inr (.inr rfl)
      · exact cmpL_range as bs
theorem cmpL_trans : ∀ {x y z : List Int}, cmpL x y = -1 → cmpL y z = -1 → cmpL x z = -1
  | [], [], _, h, _ => by simp [cmpL] at h
  | [], _ :: _, [], _, h => by simp [cmpL] at h
  | [], _ :: _, _ :: _, _, _ => rfl
  | _ :: _, [], _, h, _ => by simp [cmpL] at h
  | _ :: _, _ :: _, [], _, h => by simp [cmpL] at h
  | a :: as, b :: bs, c :: cs, h, k => by
    unfold cmpL at h k ⊢
    split at h
    · split at k
      · rw [if_pos (by omega)]
      · split at k
        · omega
        · rw [if_pos (by omega)]
    · split at h
      · omega
      · split at k
        · rw [if_pos (by omega)]
        · split at k
          · omega
          · rw [if_neg (by omega), if_neg (by omega)]
            exact cmpL_trans h k
def nums (l : List UInt8) : List Int := l.map fun b => (b.toNat : Int)
theorem nums_inj {x y : List UInt8} (h : nums x = nums y) : x = y := by
  refine List.map_inj_right (f := fun b : UInt8 => (b.toNat : Int)) (fun a b e => ?_) |>.1 h
  exact UInt8.toNat_inj.1 (by have e : (a.toNat : Int) = b.toNat := e; omega)
theorem compareBytes_eq : ∀ x y : List UInt8, Lib.compareBytes x y = cmpL (nums x) (nums y)
  | [], [] => rfl
  | [], _ :: _ => rfl
  | _ :: _, [] => rfl
  | a :: as, b :: bs => by
    unfold Lib.compareBytes
    simp only [nums, List.map_cons, cmpL]
    rw [compareBytes_eq as bs]
    have e1 : (a < b) = ((a.toNat : Int) < (b.toNat : Int)) := by rw [UInt8.lt_iff_toNat_lt]; simp
    have e2 : (b < a) = ((b.toNat : Int) < (a.toNat : Int)) := by rw [UInt8.lt_iff_toNat_lt]; simp
    simp only [e1, e2, nums]
structure Cl where
  name : ByteArray
  t : Int
  r : Int
  k : Int
  n : Int
  txt : ByteArray
deriving DecidableEq
def Cl.key (c : Cl) : List Int := c.t :: c.r :: c.k :: c.n :: nums c.txt.data.toList
def Cl.right (c : Cl) : Bool := Val.nameB c.name.data.toList && Val.rightB c.k c.n c.txt.data.toList && (decide (0 ≤ c.t) && decide (c.t ≤ 1099511627776)) && (decide (0 ≤ c.r) && decide (c.r < 16))
theorem Cl.ext' {a b : Cl} (hn : a.name = b.name) (hk : a.key = b.key) : a = b := by
  cases a; cases b
  simp only [Cl.key, List.cons.injEq] at hk
  obtain ⟨h1, h2, h3, h4, h5⟩ := hk
  have h5 := nums_inj h5
  simp only at hn h1 h2 h3 h4 h5
  subst hn h1 h2 h3 h4
  congr 1
  apply ByteArray.ext
  exact Array.toList_inj.1 h5
/-- a counts ahead of b -/
def Cl.over (a b : Cl) : Bool := decide (0 < cmpL a.key b.key)
abbrev St := ByteArray → Option Cl
def upd (M : St) (x : ByteArray) (c : Cl) : St := fun y => if y = x then some c else M y
def counts (M : St) (c : Cl) : Bool := c.right && (match M c.name with | none => true | some b => c.over b)
def put (M : St) (c : Cl) : St := if counts M c then upd M c.name c else M
def fold (M : St) (l : List Cl) : St := l.foldl put M
/-- o is the best of the cells of l named x that may be -/
def Best (l : List Cl) (x : ByteArray) : Option Cl → Prop
  | none => ∀ c ∈ l, c.right = true → c.name ≠ x
  | some b => (b ∈ l ∧ b.right = true ∧ b.name = x) ∧ ∀ c ∈ l, c.right = true → c.name = x → cmpL c.key b.key ≤ 0
theorem Best.uniq {l l' : List Cl} {x : ByteArray} {o o' : Option Cl} (h : Best l x o) (h' : Best l' x o') (hm : ∀ c : Cl, c.right = true → c.name = x → (c ∈ l ↔ c ∈ l')) : o = o' := by
  cases o with
  | none => cases o' with
    | none => rfl
    | some b => exact ((h b ((hm b h'.1.2.1 h'.1.2.2).2 h'.1.1) h'.1.2.1) h'.1.2.2).elim
  | some b => cases o' with
    | none => exact ((h' b ((hm b h.1.2.1 h.1.2.2).1 h.1.1) h.1.2.1) h.1.2.2).elim
    | some d =>
      have h1 := h.2 d ((hm d h'.1.2.1 h'.1.2.2).2 h'.1.1) h'.1.2.1 h'.1.2.2
      have h2 := h'.2 b ((hm b h.1.2.1 h.1.2.2).1 h.1.1) h.1.2.1 h.1.2.2
      have h3 := cmpL_neg d.key b.key
      have : cmpL d.key b.key = 0 := by omega
      rw [Cl.ext' (h'.1.2.2.trans h.1.2.2.symm) (cmpL_eq this)]
theorem Best.put {l : List Cl} {M : St} (h : ∀ x, Best l x (M x)) (c : Cl) (x : ByteArray) : Best (l ++ [c]) x (put M c x) := by
  have hx := h x
  have hmem : ∀ d, d ∈ l ++ [c] ↔ d ∈ l ∨ d = c := fun d => by simp
  unfold Lat.put
  by_cases hc : counts M c = true
  · rw [if_pos hc]
    unfold counts at hc
    simp only [Bool.and_eq_true] at hc
    obtain ⟨hr, ho⟩ := hc
    unfold upd
    by_cases e : x = c.name
    · subst e
      rw [if_pos rfl]
      refine ⟨⟨by simp, hr, rfl⟩, fun d hd hdr hdn => ?_⟩
      rcases (hmem d).1 hd with hd | rfl
      · cases hq : M c.name with
        | none => rw [hq] at hx; exact (hx d hd hdr hdn).elim
        | some b =>
          rw [hq] at hx ho
          have h1 := hx.2 d hd hdr hdn
          simp only [Cl.over, decide_eq_true_eq] at ho
          have h2 := cmpL_neg c.key b.key
          rcases cmpL_range d.key b.key with h3 | h3 | h3
          · have h4 : cmpL b.key c.key = -1 := by have := cmpL_range b.key c.key; omega
            have := cmpL_trans h3 h4
            omega
          · rw [cmpL_eq h3]; omega
          · omega
      · rw [cmpL_self]; exact Int.le_refl _
    · rw [if_neg e]
      cases hq : M x with
      | none => rw [hq] at hx; exact fun d hd hdr => ((hmem d).1 hd).elim (fun hd => hx d hd hdr) fun e2 => by rw [e2]; exact fun e3 => e e3.symm
      | some b =>
        rw [hq] at hx
        refine ⟨⟨by simp [hx.1.1], hx.1.2⟩, fun d hd hdr hdn => ?_⟩
        rcases (hmem d).1 hd with hd | rfl
        · exact hx.2 d hd hdr hdn
        · exact (e hdn.symm).elim
  · rw [if_neg hc]
    cases hq : M x with
    | none =>
      rw [hq] at hx
      refine fun d hd hdr hdn => ?_
      rcases (hmem d).1 hd with hd | rfl
      · exact hx d hd hdr hdn
      · apply hc; unfold counts; rw [hdr, hdn, hq]; rfl
    | some b =>
      rw [hq] at hx
      refine ⟨⟨by simp [hx.1.1], hx.1.2⟩, fun d hd hdr hdn => ?_⟩
      rcases (hmem d).1 hd with hd | rfl
      · exact hx.2 d hd hdr hdn
      · unfold counts at hc
        rw [hdr, hdn, hq] at hc
        simp only [Bool.true_and, Cl.over, decide_eq_true_eq] at hc
        omega
theorem Best.fold {M : St} : ∀ (k l : List Cl), (∀ x, Best l x (M x)) → ∀ x, Best (l ++ k) x (fold M k x)
  | [], l, h, x => by simpa [Lat.fold] using h x
  | c :: k, l, h, x => by
    have := Best.fold (M := Lat.put M c) k (l ++ [c]) (Best.put h c) x
    rw [List.append_assoc] at this
    exact this
def none_ : St := fun _ => none
theorem Best.start (x : ByteArray) : Best [] x (none_ x) := fun c hc => by cases hc
/-- all that counts, by names that rise -/
structure AllOf (M : St) (L : List Cl) : Prop where
  mem : ∀ c, c ∈ L ↔ M c.name = some c
  up : L.Pairwise fun a b => cmpL (nums a.name.data.toList) (nums b.name.data.toList) = -1
theorem name_inj {a b : ByteArray} (h : nums a.data.toList = nums b.data.toList) : a = b := by
  apply ByteArray.ext
  exact Array.toList_inj.1 (nums_inj h)
theorem AllOf.uniq : ∀ {M : St} {L L' : List Cl}, AllOf M L → AllOf M L' → L = L' := by
  have key : ∀ (L L' : List Cl), (∀ c, c ∈ L ↔ c ∈ L') → L.Pairwise (fun a b => cmpL (nums a.name.data.toList) (nums b.name.data.toList) = -1) → L'.Pairwise (fun a b => cmpL (nums a.name.data.toList) (nums b.name.data.toList) = -1) → L = L' := by
    intro L
    induction L with
    | nil =>
      intro L' h _ _
      cases L' with
      | nil => rfl
      | cons b L' => have := (h b).2 (List.mem_cons_self ..); cases this
    | cons a L ih =>
      intro L' h h1 h2
      cases L' with
      | nil => have := (h a).1 (List.mem_cons_self ..); cases this
      | cons b L' =>
        have p1 := List.pairwise_cons.1 h1
        have p2 := List.pairwise_cons.1 h2
        have hab : a = b := by
          rcases List.mem_cons.1 ((h a).1 (List.mem_cons_self ..)) with e | e
          · exact e
          · rcases List.mem_cons.1 ((h b).2 (List.mem_cons_self ..)) with e2 | e2
            · exact e2.symm
            · have q1 := p2.1 a e
              have q2 := p1.1 b e2
              have q3 := cmpL_neg (nums a.name.data.toList) (nums b.name.data.toList)
              omega
        subst hab
        have hno : ∀ K : List Cl, (∀ c ∈ K, cmpL (nums a.name.data.toList) (nums c.name.data.toList) = -1) → a ∉ K := fun K hK hm => by
          have := hK a hm
          rw [cmpL_self] at this
          omega
        rw [ih L' (fun c => ?_) p1.2 p2.2]
        have := h c
        simp only [List.mem_cons] at this
        constructor
        · intro hc
          rcases this.1 (.inr hc) with e | e
          · exact (hno L p1.1 (e ▸ hc)).elim
          · exact e
        · intro hc
          rcases this.2 (.inr hc) with e | e
          · exact (hno L' p2.1 (e ▸ hc)).elim
          · exact e
  exact fun {M L L'} h h' => key L L' (fun c => (h.mem c).trans (h'.mem c).symm) h.up h'.up
end Lat
end Go.Proofs.YtgnlbekagdffoaaDoor
