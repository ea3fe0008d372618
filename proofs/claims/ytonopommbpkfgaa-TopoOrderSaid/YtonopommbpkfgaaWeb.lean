/-
  topo's web of pairs: what made computes (no condition beyond the sizes).
-/
import Derived.Test.YtonopommbpkfgaaWebPlain
import Derived.Test.YtonopommbpkfgaaHeap2
import Derived.Test.YtonopommbpkfgaaStructs
import Derived.Test.YtonopommbpkfgaaOpen
import Derived.Deep.RegionLaw
import Derived.Shelf.RegionOpenPlain
namespace Go.Proofs.Ytonopommbpkfgaa
open Go.ChangeShapes Go.WideShapes Go.RowKit Go.Deep
theorem step_append_ints {w : World} {ops : Array Oper} {o : Oper} {a : Act} {K : Act → World → Prop} {Q : Exit → Act → World → Prop} {E : Prop} (hgd : o.guard = none) (s x : Operand)
    (ho : o.op = .call { callee := .builtin .append, args := #[s, x], argTypes := #[24, 24] })
    (base : Nat) (v : Value) (l : List Int) (hs : a.eval s = v) (hown : OwnI w base v l)
    (F : Nat → Prop) (A : Option Addr) (m c : Nat) (k : List Int) (hx : a.eval x = .slice A m c) (hr : Reads w F 1 A m (ints k))
    (hb : l.length + m ≤ 1099511627776) (hbase : base ≤ w.heap.size)
    (h : ∀ v' w', OwnI w' base v' (l ++ k) → w.grownBy w' v.ownBlock → (v'.ownBlock = v.ownBlock ∨ v'.ownBlock = some w.heap.size) → K (a.put o.dst v') w') : if Region.wanted o (yielded ops a.tmps) = true then Oper.wp Try.prog o a w K Q else E := by
  have hw : Region.wanted o (yielded ops a.tmps) = true := by simp [Region.wanted, hgd]
  rw [if_pos hw]
  obtain ⟨i, hi, hz0, hz1, hz2⟩ := info_parts intInfo
  refine wp_append_any w s x _ ho base _ i _ 1 8 Try.underlying24 hi hz0 hz1 hz2 rfl (by omega) v l.length (ints l) hs hown F A m c (ints k) hx hr (ints_one k) (by simp only [maxLen]; omega) (by omega) hbase ?_
  intro v' w' ho' hg hat
  refine h v' w' ?_ hg hat
  have hk := hr.len
  unfold OwnI
  rw [show ints (l ++ k) = ints l ++ ints k by simp [ints], List.length_append, show k.length = m by simpa [ints] using hk]
  exact ho'
section
variable {P : Program} {md : Region.Mode} {ops : Array Oper} {Q : Exit → Act → World → Prop} {T : Nat → Prop}
theorem grow_two {i j : Nat} {oi oj : Oper} {fuel : Nat} {listed : Array Bool} {a : Act} {w : World} (hr : Region.ready md ops listed = [i, j]) (hi : ops[i]? = some oi) (hj : ops[j]? = some oj)
    (hwi : Region.wanted oi (yielded ops a.tmps) = true) (hwj : Region.wanted oj (yielded ops a.tmps) = true)
    (h1 : ∀ K : Act → World → Prop, (∀ a' w', Chg T w w' → wpAnyH P md ops (NoPanic Q) (Chg T w') fuel (listed.setIfInBounds i true) a' w' → K a' w') → Oper.wp P oi a w K (NoPanic Q))
    (h2 : ∀ K : Act → World → Prop, (∀ a' w', Chg T w w' → wpAnyH P md ops (NoPanic Q) (Chg T w') fuel (listed.setIfInBounds j true) a' w' → K a' w') → Oper.wp P oj a w K (NoPanic Q)) :
    wpAnyH P md ops (NoPanic Q) (Chg T w) (fuel + 1) listed a w := by
  refine wpAnyH_ready hr (by simp) (AllReadyH.cons hi (fun K hK => ?_) (AllReadyH.cons hj (fun K hK => ?_) AllReadyH.nil))
  · rw [if_pos hwi]
    exact h1 K fun a' w' hc hn => hK.out a' w' hc fun _ => wpAnyH_sub (fun W hW => hc.trans hW fun _ _ => id) _ _ _ _ hn
  · rw [if_pos hwj]
    exact h2 K fun a' w' hc hn => hK.out a' w' hc fun _ => wpAnyH_sub (fun W hW => hc.trans hW fun _ _ => id) _ _ _ _ hn
end
theorem wp_append_ints {o : Oper} {a : Act} {K : Act → World → Prop} {Q : Exit → Act → World → Prop} (w : World) (s x : Operand)
    (ho : o.op = .call { callee := .builtin .append, args := #[s, x], argTypes := #[24, 24] })
    (base : Nat) (v : Value) (l : List Int) (hs : a.eval s = v) (hown : OwnI w base v l)
    (F : Nat → Prop) (A : Option Addr) (m c : Nat) (k : List Int) (hx : a.eval x = .slice A m c) (hr : Reads w F 1 A m (ints k))
    (hb : l.length + m ≤ 1099511627776) (hbase : base ≤ w.heap.size)
    (h : ∀ v' w', OwnI w' base v' (l ++ k) → w.grownBy w' v.ownBlock → (v'.ownBlock = v.ownBlock ∨ v'.ownBlock = some w.heap.size) → K (a.put o.dst v') w') : Oper.wp Try.prog o a w K Q := by
  obtain ⟨i, hi, hz0, hz1, hz2⟩ := info_parts intInfo
  refine wp_append_any w s x _ ho base _ i _ 1 8 Try.underlying24 hi hz0 hz1 hz2 rfl (by omega) v l.length (ints l) hs hown F A m c (ints k) hx hr (ints_one k) (by simp only [maxLen]; omega) (by omega) hbase ?_
  intro v' w' ho' hg hat
  refine h v' w' ?_ hg hat
  have hk := hr.len
  unfold OwnI
  rw [show ints (l ++ k) = ints l ++ ints k by simp [ints], List.length_append, show k.length = m by simpa [ints] using hk]
  exact ho'
theorem make_int (m : Nat) (hm : m ≤ 17592186044416) (W : World) : (Instr.makeSlice 24 (.int .i64 (m : Int)) (.int .i64 (m : Int))).run Try.prog W = .ok (.slice (some ⟨W.heap.size, 0, none⟩) m m) (W.alloc (.cells (ints (List.replicate m 0)).toArray 3)) := by
  obtain ⟨i, hi, hz0, hz1, hz2⟩ := info_parts intInfo
  have := run_make (P := Try.prog) W 24 3 i _ Try.underlying24 hi hz0 .i64 .i64 m m (by omega) (Int.le_refl _) (by rw [hz2]; omega) (by omega)
  rw [this, hz1, Int.toNat_natCast, Nat.mul_one]
  congr 3
  rw [show ints (List.replicate m 0) = List.replicate m (.int .i64 0) by simp [ints], ← toList_madeCells_one]
  rfl
theorem rowInfo : (Try.prog.info? 24).map (fun i => (i.zero, i.size, i.bytes)) = some (some (.slice none 0 0), 1, 24) := by kernel_rfl
theorem make_rows (m : Nat) (hm : m ≤ 1099511627776) (W : World) : (Instr.makeSlice 42 (.int .i64 (m : Int)) (.int .i64 (m : Int))).run Try.prog W = .ok (.slice (some ⟨W.heap.size, 0, none⟩) m m) (W.alloc (.cells (List.replicate m (.slice none 0 0)).toArray 24)) := by
  obtain ⟨i, hi, hz0, hz1, hz2⟩ := info_parts rowInfo
  have := run_make (P := Try.prog) W 42 24 i _ Try.underlying42 hi hz0 .i64 .i64 m m (by omega) (Int.le_refl _) (by rw [hz2]; omega) (by omega)
  rw [this, hz1, Int.toNat_natCast, Nat.mul_one]
  congr 3
  rw [← toList_madeCells_one]
  rfl
namespace Topo
def rowsC (n : Nat) (rv : Nat → Value) : List Value := (List.range n).map rv
theorem rowsC_len (n : Nat) (rv : Nat → Value) : (rowsC n rv).length = n := by simp [rowsC]
theorem rowsC_get {n : Nat} (rv : Nat → Value) {k : Nat} (h : k < n) : (rowsC n rv)[k]? = some (rv k) := by simp [rowsC, h]
theorem rowsC_set (n : Nat) (rv : Nat → Value) (k : Nat) (v : Value) : (rowsC n rv).set k v = rowsC n (upd rv k v) := by
  refine List.ext_getElem? fun i => ?_
  by_cases hi : i < n
  · by_cases e : k = i
    · subst e
      rw [List.getElem?_set_self (by rw [rowsC_len]; exact hi), rowsC_get _ hi, upd_at]
    · rw [List.getElem?_set_ne e, rowsC_get _ hi, rowsC_get _ hi, upd_ne _ _ (Ne.symm e)]
  · rw [List.getElem?_eq_none (by rw [List.length_set, rowsC_len]; omega), List.getElem?_eq_none (by rw [rowsC_len]; omega)]
theorem rowsC_nil (n : Nat) : List.replicate n (Value.slice none 0 0) = rowsC n (fun _ => .slice none 0 0) := by
  refine List.ext_getElem? fun i => ?_
  by_cases hi : i < n
  · rw [rowsC_get _ hi]; simp [hi]
  · rw [List.getElem?_eq_none (by rw [List.length_replicate]; omega), List.getElem?_eq_none (by rw [rowsC_len]; omega)]
/-- the web at b -/
structure WAt (w : World) (lo b gn ga n : Nat) (rv : Nat → Value) (N : Nat → List Int) (A : List Int) : Prop where
  blk : Blk w b 44 #[.slice (some ⟨gn, 0, none⟩) n n, .slice (some ⟨ga, 0, none⟩) n n]
  nxt : Blk w gn 24 (rowsC n rv).toArray
  rows : ∀ k, k < n → OwnI w lo (rv k) (N k)
  dist : ∀ i j g, i < n → j < n → (rv i).ownBlock = some g → (rv j).ownBlock = some g → i = j
  ahd : OwnI w lo (.slice (some ⟨ga, 0, none⟩) n n) A
  da : ∀ i, i < n → (rv i).ownBlock ≠ some ga
  low : lo ≤ b ∧ lo ≤ gn
section
variable {w w' : World} {lo b gn ga n : Nat} {rv : Nat → Value} {N : Nat → List Int} {A : List Int} {S : Nat → Prop}
theorem WAt.ne_ba (h : WAt w lo b gn ga n rv N A) : ga ≠ b := fun e => own_ne h.ahd h.blk (by decide) (by rw [e]; rfl)
theorem WAt.ne_na (h : WAt w lo b gn ga n rv N A) : ga ≠ gn := fun e => own_ne h.ahd h.nxt (by decide) (by rw [e]; rfl)
theorem WAt.ne_nb (h : WAt w lo b gn ga n rv N A) : gn ≠ b := Blk.ne_ h.nxt h.blk (by decide)
theorem WAt.chg (h : WAt w lo b gn ga n rv N A) (hc : Chg S w w') (hb : ¬ S b) (hn : ¬ S gn) (ha : ¬ S ga) (hr : ∀ k g, k < n → (rv k).ownBlock = some g → ¬ S g) : WAt w' lo b gn ga n rv N A :=
  ⟨h.blk.chg hc hb, h.nxt.chg hc hn, fun k hk => own_chg (h.rows k hk) hc fun g hg => hr k g hk hg, h.dist, own_chg h.ahd hc fun k hk => by
    have : ga = k := by simpa [Value.ownBlock] using hk
    rw [← this]; exact ha, h.da, h.low⟩
theorem WAt.new (h : WAt w lo b gn ga n rv N A) (hc : New w w') : WAt w' lo b gn ga n rv N A := h.chg hc id id id fun _ _ _ _ => id
theorem WAt.alen (h : WAt w lo b gn ga n rv N A) : A.length = n := h.ahd.lenA.symm
/-- one more behind a -/
theorem WAt.push {w5 : World} (h : WAt w lo b gn ga n rv N A) {a : Nat} (ha : a < n) {v : Value} {l : List Int} (o5 : OwnI w5 lo v l) (g5 : w.grownBy w5 (rv a).ownBlock) (a5 : v.ownBlock = (rv a).ownBlock ∨ v.ownBlock = some w.heap.size) :
    WAt (w5.setCell ⟨gn, a, none⟩ v) lo b gn ga n (upd rv a v) (upd N a l) A ∧ Chg (fun g => g = gn ∨ (rv a).ownBlock = some g) w (w5.setCell ⟨gn, a, none⟩ v) := by
  have c5 : Chg (fun g => (rv a).ownBlock = some g) w w5 := (Chg.refl _ w).grown g5 fun k e _ => e
  have cs := (Chg.refl (fun g => g = gn) w5).setCell (p := ⟨gn, a, none⟩) (fun _ => rfl) v
  have b5 := h.blk.chg c5 (own_ne (h.rows a ha) h.blk (by decide))
  have n5 := h.nxt.chg c5 (own_ne (h.rows a ha) h.nxt (by decide))
  have n6 := n5.set_ a v
  rw [setIfInBounds_toArray, rowsC_set] at n6
  refine ⟨⟨b5.chg cs (Ne.symm h.ne_nb), n6, fun k hk => ?_, fun i j g hi hj ei ej => ?_, own_chg (own_chg h.ahd c5 fun k hk e => ?_) cs fun k hk e => ?_, fun i hi e => ?_, h.low⟩, ((c5.mono fun _ _ => Or.inr).trans cs fun _ _ => Or.inl)⟩
  · by_cases e : k = a
    · subst e
      rw [upd_at, upd_at]
      exact own_chg o5 cs fun g hg e => own_ne o5 n5 (by decide) (by rw [hg, e])
    · rw [upd_ne _ _ e, upd_ne _ _ e]
      refine own_chg (own_chg (h.rows k hk) c5 fun g hg e' => e (h.dist k a g hk ha hg e')) cs fun g hg e' => own_ne (h.rows k hk) h.nxt (by decide) (by rw [hg, e'])
  · have key : ∀ j g, j < n → j ≠ a → (rv j).ownBlock = some g → v.ownBlock = some g → False := fun j g hj hne e1 e2 => by
      rcases a5 with e | e
      · exact hne (h.dist j a g hj ha e1 (by rw [← e]; exact e2))
      · have := (own_lt (h.rows j hj) e1).2
        rw [e] at e2
        injection e2 with e2
        omega
    by_cases e1 : i = a
    · by_cases e2 : j = a
      · rw [e1, e2]
      · subst e1
        rw [upd_at] at ei
        rw [upd_ne _ _ e2] at ej
        exact (key j g hj e2 ej ei).elim
    · by_cases e2 : j = a
      · subst e2
        rw [upd_at] at ej
        rw [upd_ne _ _ e1] at ei
        exact (key i g hi e1 ei ej).elim
      · rw [upd_ne _ _ e1] at ei
        rw [upd_ne _ _ e2] at ej
        exact h.dist i j g hi hj ei ej
  · have : ga = k := by simpa [Value.ownBlock] using hk
    exact h.da a ha (by rw [this]; exact e)
  · have : ga = k := by simpa [Value.ownBlock] using hk
    exact h.ne_na (this.trans e)
  · by_cases e1 : i = a
    · subst e1
      rw [upd_at] at e
      rcases a5 with e2 | e2
      · exact h.da i ha (by rw [← e2]; exact e)
      · have := (own_lt h.ahd (k := ga) rfl).2
        rw [e2] at e
        injection e with e
        omega
    · rw [upd_ne _ _ e1] at e
      exact h.da i hi e
/-- how many are ahead of k -/
theorem WAt.count (h : WAt w lo b gn ga n rv N A) (k : Nat) (x : Int) :
    WAt (w.setCell ⟨ga, k, none⟩ (.int .i64 x)) lo b gn ga n rv N (A.set k x) ∧ Chg (fun g => g = ga) w (w.setCell ⟨ga, k, none⟩ (.int .i64 x)) := by
  have cs := (Chg.refl (fun g => g = ga) w).setCell (p := ⟨ga, k, none⟩) (fun _ => rfl) (.int .i64 x)
  refine ⟨⟨h.blk.chg cs (Ne.symm h.ne_ba), h.nxt.chg cs (Ne.symm h.ne_na), fun i hi => own_chg (h.rows i hi) cs fun g hg e => h.da i hi (by rw [hg, e]), h.dist, h.ahd.stored k x, h.da, h.low⟩, cs⟩
end
theorem web_start {W : World} {lo b gn ga n : Nat} (hn : n ≤ 99999) (hb : Blk W b 44 #[.slice (some ⟨gn, 0, none⟩) n n, .slice (some ⟨ga, 0, none⟩) n n]) (hg : Blk W gn 24 (List.replicate n (Value.slice none 0 0)).toArray) (ha : Blk W ga 3 (ints (List.replicate n 0)).toArray)
    (h1 : lo ≤ b) (h2 : lo ≤ gn) (h3 : lo ≤ ga) : WAt W lo b gn ga n (fun _ => .slice none 0 0) (nextF n []) (aheadL n []) := by
  rw [rowsC_nil] at hg
  have e : aheadL n [] = List.replicate n 0 := by
    refine List.ext_getElem? fun i => ?_
    by_cases hi : i < n
    · simp [aheadL, hi, aheadF]
    · rw [List.getElem?_eq_none (by rw [aheadL_len]; omega), List.getElem?_eq_none (by simp; omega)]
  refine ⟨hb, hg, fun k _ => OwnI.nil _ _, fun i j g _ _ h => by simp [Value.ownBlock] at h, ?_, fun i _ h => by simp [Value.ownBlock] at h, h1, h2⟩
  rw [e]
  unfold OwnI
  rw [List.length_replicate]
  refine ⟨by simp [ints], .inr ⟨ga, n, _, rfl, h3, ha, Nat.le_refl _, by simp only [maxLen]; omega, by simp [ints], ?_⟩⟩
  rw [List.toList_toArray, List.take_of_length_le (by simp [ints])]
/-- pair k of a row is p, in every world that comes behind w -/
def PAt (w : World) (A : Option Addr) (ps : List (Int × Int)) : Prop :=
  ∀ k p, ps[k]? = some p → ∃ ad, A = some ad ∧ ∀ W, New w W → (LoadRow 35 (ad.add (k * 2))).run Try.prog W = .ok (.agg #[.int .i64 p.1, .int .i64 p.2]) W
theorem PAt.new {w w' : World} {A : Option Addr} {ps : List (Int × Int)} (h : PAt w A ps) (hc : New w w') : PAt w' A ps := fun k p hp => by
  obtain ⟨ad, e, hl⟩ := h k p hp
  exact ⟨ad, e, fun W hW => hl W (hc.trans hW fun _ _ => id)⟩
end Topo
end Go.Proofs.Ytonopommbpkfgaa
