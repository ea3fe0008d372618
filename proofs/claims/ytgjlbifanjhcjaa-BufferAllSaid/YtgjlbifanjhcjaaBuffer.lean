/-
  What the program's buffer package computes: made, whether all peers know a dot (no condition beyond the sizes).
-/
import Derived.Test.YtgjlbifanjhcjaaEvent
import Derived.Test.YtgjlbifanjhcjaaVecK
namespace Go.Proofs.Ytgjlbifanjhcjaa
open Go.ChangeShapes Go.WideShapes Go.RowKit Go.Deep
namespace Buf
open Vec
attribute [local go_sem ↓] loadRow0 storeRow0
abbrev ptr (b : Nat) : Value := .pointer (some ⟨b, 0, none⟩)
/-- a buffer's cells: how many, which one, what each is known to know, the events -/
def bufC (n me : Int) (acks : List (List Int)) (v : Value) : List Value := .int .i64 n :: .int .i64 me :: (ints acks.flatten ++ [v])
theorem flat_len : ∀ {acks : List (List Int)}, (∀ a ∈ acks, a.length = 16) → acks.flatten.length = acks.length * 16
  | [], _ => rfl
  | a :: l, h => by
    rw [List.flatten_cons, List.length_append, h a (List.mem_cons_self ..), flat_len fun x hx => h x (List.mem_cons_of_mem _ hx), List.length_cons]
    omega
theorem flat_get : ∀ {acks : List (List Int)}, (∀ a ∈ acks, a.length = 16) → ∀ {p j : Nat} {a : List Int}, acks[p]? = some a → j < 16 → acks.flatten[p * 16 + j]? = a[j]?
  | x :: l, h, 0, j, a, ha, hj => by
    injection ha with ha
    subst ha
    rw [List.flatten_cons, List.getElem?_append_left (by rw [h x (List.mem_cons_self ..)]; omega), Nat.zero_mul, Nat.zero_add]
  | x :: l, h, p + 1, j, a, ha, hj => by
    have ih := flat_get (acks := l) (fun y hy => h y (List.mem_cons_of_mem _ hy)) (p := p) (j := j) (a := a) (by simpa using ha) hj
    rw [List.flatten_cons, List.getElem?_append_right (by rw [h x (List.mem_cons_self ..)]; omega), h x (List.mem_cons_self ..), show (p + 1) * 16 + j - 16 = p * 16 + j by omega]
    exact ih
/-- the buffer at b -/
structure At (w : World) (lo b n me : Nat) (acks : List (List Int)) (v : Value) (es : List Ev) : Prop where
  blk : Blk w b 49 (bufC n me acks v).toArray
  own : OwnE w lo v es
  ha : acks.length = 16
  hr : ∀ a ∈ acks, a.length = 16
  hn : n ≤ 16
  low : lo ≤ b
section
variable {w w' : World} {lo b n me : Nat} {acks : List (List Int)} {v : Value} {es : List Ev} {S : Nat → Prop}
theorem At.ne (h : At w lo b n me acks v es) : v.ownBlock ≠ some b := own_ne h.own h.blk (by decide)
theorem At.chg (h : At w lo b n me acks v es) (hc : Chg S w w') (hb : ¬ S b) (hv : ∀ g, v.ownBlock = some g → ¬ S g) : At w' lo b n me acks v es := ⟨h.blk.chg hc hb, own_chg h.own hc hv, h.ha, h.hr, h.hn, h.low⟩
theorem At.new (h : At w lo b n me acks v es) (hc : New w w') : At w' lo b n me acks v es := h.chg hc id fun _ _ => id
theorem At.cell0 (h : At w lo b n me acks v es) : w.cell? ⟨b, 0, none⟩ = some (.int .i64 (n : Int)) := h.blk.cell 0
theorem At.cell1 (h : At w lo b n me acks v es) : w.cell? ⟨b, 1, none⟩ = some (.int .i64 (me : Int)) := h.blk.cell 1
theorem At.cellE (h : At w lo b n me acks v es) : w.cell? ⟨b, 258, none⟩ = some v := by
  rw [h.blk.cell, List.getElem?_toArray, bufC, List.getElem?_cons_succ, List.getElem?_cons_succ, List.getElem?_append_right (by rw [ints_length, flat_len h.hr, h.ha]; omega), ints_length, flat_len h.hr, h.ha]
  rfl
theorem At.ack (h : At w lo b n me acks v es) {p : Nat} {a : List Int} (hp : acks[p]? = some a) {j : Nat} (hj : j < 16) : w.cell? ⟨b, 2 + (p * 16 + j), none⟩ = some (.int .i64 (a.getD j 0)) := by
  have hl : p < 16 := by
    have := (List.getElem?_eq_some_iff.1 hp).1
    rwa [h.ha] at this
  have hal := h.hr a (List.mem_of_getElem? hp)
  rw [h.blk.cell, List.getElem?_toArray, bufC, show 2 + (p * 16 + j) = p * 16 + j + 1 + 1 by omega, List.getElem?_cons_succ, List.getElem?_cons_succ, List.getElem?_append_left (by rw [ints_length, flat_len h.hr, h.ha]; omega), ints_get, flat_get h.hr hp hj, List.getElem?_eq_getElem (by omega)]
  simp [List.getD_eq_getElem?_getD, List.getElem?_eq_getElem (show j < a.length by omega)]
theorem At.ld (h : At w lo b n me acks v es) {p : Nat} {a : List Int} (hp : acks[p]? = some a) : (LoadRow 27 ⟨b, 2 + p * 16, none⟩).run Try.prog w = .ok (vec a) w := by
  have hal := h.hr a (List.mem_of_getElem? hp)
  refine run_LoadRow_at (P := Try.prog) (t := 27) Try.underlying27 rfl (n := 16) (by kernel_rfl) (by rw [ints_length, hal]) fun j u hu => ?_
  have hj : j < 16 := by
    have := (List.getElem?_eq_some_iff.1 hu).1
    rwa [ints_length, hal] at this
  rw [add_plain, Nat.add_assoc, h.ack hp hj]
  rw [ints_get, List.getElem?_eq_getElem (by omega)] at hu
  rw [← hu]
  simp [List.getD_eq_getElem?_getD, List.getElem?_eq_getElem (show j < a.length by omega)]
end
/-- the buffer's own block at b, whatever its events -/
structure Hd (w : World) (b n me : Nat) (acks : List (List Int)) (v : Value) : Prop where
  blk : Blk w b 49 (bufC n me acks v).toArray
  ha : acks.length = 16
  hr : ∀ a ∈ acks, a.length = 16
  hn : n ≤ 16
section
variable {w w' : World} {b n me : Nat} {acks : List (List Int)} {v : Value} {S : Nat → Prop}
theorem Hd.chg (h : Hd w b n me acks v) (hc : Chg S w w') (hb : ¬ S b) : Hd w' b n me acks v := ⟨h.blk.chg hc hb, h.ha, h.hr, h.hn⟩
theorem Hd.new (h : Hd w b n me acks v) (hc : New w w') : Hd w' b n me acks v := h.chg hc id
theorem Hd.cell0 (h : Hd w b n me acks v) : w.cell? ⟨b, 0, none⟩ = some (.int .i64 (n : Int)) := h.blk.cell 0
theorem Hd.cell1 (h : Hd w b n me acks v) : w.cell? ⟨b, 1, none⟩ = some (.int .i64 (me : Int)) := h.blk.cell 1
theorem Hd.ack (h : Hd w b n me acks v) {p : Nat} {a : List Int} (hp : acks[p]? = some a) {j : Nat} (hj : j < 16) : w.cell? ⟨b, 2 + (p * 16 + j), none⟩ = some (.int .i64 (a.getD j 0)) := by
  have hl : p < 16 := by
    have := (List.getElem?_eq_some_iff.1 hp).1
    rwa [h.ha] at this
  have hal := h.hr a (List.mem_of_getElem? hp)
  rw [h.blk.cell, List.getElem?_toArray, bufC, show 2 + (p * 16 + j) = p * 16 + j + 1 + 1 by omega, List.getElem?_cons_succ, List.getElem?_cons_succ, List.getElem?_append_left (by rw [ints_length, flat_len h.hr, h.ha]; omega), ints_get, flat_get h.hr hp hj, List.getElem?_eq_getElem (by omega)]
  simp [List.getD_eq_getElem?_getD, List.getElem?_eq_getElem (show j < a.length by omega)]
theorem Hd.ld (h : Hd w b n me acks v) {p : Nat} {a : List Int} (hp : acks[p]? = some a) : (LoadRow 27 ⟨b, 2 + p * 16, none⟩).run Try.prog w = .ok (vec a) w := by
  have hal := h.hr a (List.mem_of_getElem? hp)
  refine run_LoadRow_at (P := Try.prog) (t := 27) Try.underlying27 rfl (n := 16) (by kernel_rfl) (by rw [ints_length, hal]) fun j u hu => ?_
  have hj : j < 16 := by
    have := (List.getElem?_eq_some_iff.1 hu).1
    rwa [ints_length, hal] at this
  rw [add_plain, Nat.add_assoc, h.ack hp hj]
  rw [ints_get, List.getElem?_eq_getElem (by omega)] at hu
  rw [← hu]
  simp [List.getD_eq_getElem?_getD, List.getElem?_eq_getElem (show j < a.length by omega)]
end
theorem At.hd {w : World} {lo b n me : Nat} {acks : List (List Int)} {v : Value} {es : List Ev} (h : At w lo b n me acks v es) : Hd w b n me acks v := ⟨h.blk, h.ha, h.hr, h.hn⟩
/-- do all peers know a dot? -/
def allF (n me : Nat) (acks : List (List Int)) (r c : Int) : Bool := (List.range n).all fun p => decide (p = me) || knowsF (acks.getD p []) r c
def zero16 : List (List Int) := List.replicate 16 zeros
set_option maxHeartbeats 4000000 in
set_option maxRecDepth 100000 in
theorem new_nil (w : World) : Calls Try.prog 5 #[.int .i64 0, .int .i64 0] w fun e w' => e = .returned (.pointer none) ∧ w = w' := by
  go_enter Try.func5, Try.ntmps5
  go_wp2
  go_ret
  exact ⟨rfl, rfl⟩
set_option maxHeartbeats 4000000 in
set_option maxRecDepth 100000 in
theorem new_ (w : World) (n : Nat) (h1 : 1 ≤ n) (h2 : n ≤ 16) : Calls Try.prog 5 #[.int .i64 (n : Int), .int .i64 0] w fun e w' => e = .returned (ptr w.heap.size) ∧ At w' w.heap.size w.heap.size n 0 zero16 (.slice none 0 0) [] ∧ New w w' := by
  have a1 : decide ((n : Int) < 1) = false := by simp <;> omega
  have a2 : decide (16 < (n : Int)) = false := by simp <;> omega
  have a3 : decide (n = 0) = false := by simp <;> omega
  have hz : ∀ W, (zeroValue 49).run Try.prog W = .ok (.agg (bufC 0 0 zero16 (.slice none 0 0)).toArray) W := fun W => by kernel_rfl
  have hZ1 : (bufC 0 0 zero16 (.slice none 0 0)).toArray.size = 259 := by decide +kernel
  have hZ3 : ((bufC 0 0 zero16 (.slice none 0 0)).toArray.setIfInBounds 0 (.int .i64 (n : Int))).setIfInBounds 1 (.int .i64 0) = (bufC n 0 zero16 (.slice none 0 0)).toArray := by
    simp [bufC]
  generalize (bufC 0 0 zero16 (.slice none 0 0)).toArray = Z at *
  have hZ2 : ¬ Z = #[] := fun e => by rw [e] at hZ1; simp at hZ1
  have hZ4 : ¬ Z.size < 2 := by omega
  have hb := Blk.new w 49 (bufC n 0 zero16 (.slice none 0 0)).toArray
  have HB := Lib.hid hb
  obtain ⟨Y, hY⟩ : ∃ Y, (bufC n 0 zero16 (.slice none 0 0)).toArray = Y := ⟨_, rfl⟩
  rw [hY] at hZ3
  have HY := Lib.hid hY
  clear hb hY
  go_enter Try.func5, Try.ntmps5
  go_wp2
  go_ret
  rw [← HY.out]
  exact ⟨rfl, ⟨HB.out, OwnE.nil _ _, by simp [zero16], fun a ha => by rw [List.eq_of_mem_replicate ha]; simp [zeros], h2, Nat.le_refl _⟩, (Chg.refl _ _).alloc _⟩
theorem all_false {n me : Nat} {acks : List (List Int)} {r c : Int} {p : Nat} {a : List Int} (hp : p < n) (ha : acks[p]? = some a) (h1 : p ≠ me) (h2 : knowsF a r c = false) : allF n me acks r c = false := by
  unfold allF
  rw [List.all_eq_false]
  exact ⟨p, List.mem_range.2 hp, by simp [h1, List.getD_eq_getElem?_getD, ha, h2]⟩
theorem all_true {n me : Nat} {acks : List (List Int)} {r c : Int} (h : ∀ p, p < n → p = me ∨ knowsF (acks.getD p []) r c = true) : allF n me acks r c = true := by
  unfold allF
  rw [List.all_eq_true]
  intro p hp
  rcases h p (List.mem_range.1 hp) with h | h
  · rw [h]; simp
  · rw [h]; simp
set_option maxHeartbeats 4000000 in
set_option maxRecDepth 100000 in
theorem all_hd (w : World) (b n me : Nat) (acks : List (List Int)) (v : Value) (h : Hd w b n me acks v) (r c : Int) :
    Calls Try.prog 14 #[ptr b, dotV r c] w fun e w' => e = .returned (.bool (allF n me acks r c)) ∧ New w w' := by
  have hb1 := Blk.new w 29 #[.int .i64 r, .int .i64 c]
  have n1 : New w (w.alloc (.cells #[.int .i64 r, .int .i64 c] 29)) := (Chg.refl _ w).alloc _
  have h1 := h.new n1
  have c0 := h1.cell0
  have H := Lib.hid (And.intro h1 (And.intro hb1 n1))
  have hn16 := h.hn
  have ha16 := h.ha
  clear h hb1 n1 h1
  go_enter Try.func14, Try.ntmps14
  go_wp2_with fail
  go_loopw [5, 10] (fun _ i wr => ∃ (k : Nat), k ≤ n ∧ i = .int .i64 k ∧ (∀ p, p < k → p = me ∨ knowsF (acks.getD p []) r c = true) ∧ New (w.alloc (.cells #[.int .i64 r, .int .i64 c] 29)) wr) (fun _ i _ => n - (intOf i).toNat)
  case atStart => exact ⟨0, by omega, rfl, fun p hp => by omega, Chg.refl _ _⟩
  case round =>
    clear c0
    obtain ⟨k, hk, rfl, hp, nw⟩ := hrel
    by_cases hlt : k < n
    · obtain ⟨a, ha⟩ : ∃ a, acks[k]? = some a := ⟨_, List.getElem?_eq_getElem (by omega)⟩
      have hwr := H.out.1.new nw
      have hbr := H.out.2.1.chg nw id
      have f1 := fun x : ChgW (fun _ => False) wr => (hwr.new x.chg).cell1
      have f2 := fun x : ChgW (fun _ => False) wr => (hwr.new x.chg).ld ha
      have f3 := fun x : ChgW (fun _ => False) wr => (hbr.chg x.chg id).cell 0
      have f4 := fun x : ChgW (fun _ => False) wr => (hbr.chg x.chg id).cell 1
      simp only [List.getElem?_toArray, List.getElem?_cons_zero, List.getElem?_cons_succ] at f3 f4
      have C := Lib.hid (fun W => knows_ W a r c (H.out.1.hr a (List.mem_of_getElem? ha)))
      obtain ⟨q, hq⟩ : ∃ q, knowsF a r c = q := ⟨_, rfl⟩
      rw [hq] at C
      have HP := Lib.hid (And.intro hp (And.intro ha (And.intro hq nw)))
      clear hp ha hq nw hwr hbr
      by_cases hme : k = me
      · subst hme
        go_wp2_with fail
        refine wp_region_chg (fun _ => False) (by kernel_rfl) (by kernel_rfl) ?_
        repeat (go_big_quiet_step ((with_reducible exact calls_new (C.out _))))
        refine wpQuiet_nil ?_
        rintro ⟨wq, hq⟩
        simp only []
        go_wp2_with fail
        refine ⟨⟨k + 1, by omega, by go_num, fun p hpk => ?_, HP.out.2.2.2.trans hq fun _ _ => id⟩, by simp [intOf]; omega⟩
        by_cases e : p = k
        · exact .inl e
        · exact HP.out.1 p (by omega)
      · have hne : ((k : Int) != (me : Int)) = true := by simp <;> omega
        have hk16 : (k : Int) < 16 := by omega
        have hk16n : k < 16 := by omega
        cases q
        · go_wp2_with fail
          refine wp_region_chg (fun _ => False) (by kernel_rfl) (by kernel_rfl) ?_
          repeat (go_big_quiet_step ((with_reducible exact calls_new (C.out _))))
          refine wpQuiet_nil ?_
          rintro ⟨wq, hq⟩
          simp only []
          go_wp2_with fail
          go_ret
          exact ⟨by rw [all_false hlt HP.out.2.1 hme HP.out.2.2.1]; first | rfl | skip, (H.out.2.2.trans HP.out.2.2.2 fun _ _ => id).trans hq fun _ _ => id⟩
        · go_wp2_with fail
          refine wp_region_chg (fun _ => False) (by kernel_rfl) (by kernel_rfl) ?_
          repeat (go_big_quiet_step ((with_reducible exact calls_new (C.out _))))
          refine wpQuiet_nil ?_
          rintro ⟨wq, hq⟩
          simp only []
          go_wp2_with fail
          refine ⟨⟨k + 1, by omega, by go_num, fun p hpk => ?_, HP.out.2.2.2.trans hq fun _ _ => id⟩, by simp [intOf]; omega⟩
          by_cases e : p = k
          · right
            rw [e, List.getD_eq_getElem?_getD, HP.out.2.1]
            exact HP.out.2.2.1
          · exact HP.out.1 p (by omega)
    · obtain rfl : k = n := by omega
      have HP := Lib.hid (And.intro hp nw)
      clear hp nw
      go_wp2_with fail
      go_ret
      exact ⟨by rw [all_true HP.out.1]; first | rfl | skip, H.out.2.2.trans HP.out.2 fun _ _ => id⟩
theorem all_ (w : World) (lo b n me : Nat) (acks : List (List Int)) (v : Value) (es : List Ev) (h : At w lo b n me acks v es) (r c : Int) :
    Calls Try.prog 14 #[ptr b, dotV r c] w fun e w' => e = .returned (.bool (allF n me acks r c)) ∧ New w w' := all_hd w b n me acks v h.hd r c
end Buf
end Go.Proofs.Ytgjlbifanjhcjaa
