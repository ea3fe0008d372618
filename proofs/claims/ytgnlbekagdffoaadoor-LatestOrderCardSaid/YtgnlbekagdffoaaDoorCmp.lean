/-
  Comparisons: what cmp's and the program's calls compute (no condition).
-/
import Derived.Test.YtgnlbekagdffoaaDoorRef3
import Derived.Test.YtgnlbekagdffoaaDoorLatPlain
namespace Go.Proofs.YtgnlbekagdffoaaDoor
set_option linter.unusedSimpArgs false
set_option linter.unusedVariables false
open Go.ChangeShapes Go.WideShapes Go.RowKit Go.Deep
namespace Lat
def cmpI (x y : Int) : Int := if x < y then -1 else if y < x then 1 else 0
def orL : List Int → Int
  | [] => 0
  | x :: xs => if x = 0 then orL xs else x
theorem bytesLess_iff : ∀ a b : List UInt8, Op.bytesLess a b = decide (cmpL (nums a) (nums b) = -1)
  | [], [] => rfl
  | [], _ :: _ => rfl
  | _ :: _, [] => rfl
  | a :: x, b :: y => by
    unfold Op.bytesLess
    rw [bytesLess_iff x y]
    simp only [nums, List.map_cons, cmpL]
    have e1 : (a < b) = ((a.toNat : Int) < (b.toNat : Int)) := by rw [UInt8.lt_iff_toNat_lt]; simp
    by_cases h : (a.toNat : Int) < (b.toNat : Int)
    · rw [if_pos h]
      simp [e1, h]
    · rw [if_neg h]
      have e2 : decide (a < b) = false := by simp only [e1]; exact decide_eq_false h
      rw [e2, Bool.false_or]
      by_cases h2 : (b.toNat : Int) < (a.toNat : Int)
      · rw [if_pos h2]
        have : (a == b) = false := by
          simp only [beq_eq_false_iff_ne, ne_eq]
          intro e; subst e; omega
        rw [this]; rfl
      · rw [if_neg h2]
        have : a = b := UInt8.toNat_inj.1 (by omega)
        subst this
        rw [show (a == a) = true by simp, Bool.true_and]
        exact decide_eq_decide.2 Iff.rfl
theorem eq_iff (a b : List UInt8) : (a == b) = decide (cmpL (nums a) (nums b) = 0) := by
  by_cases h : a = b
  · subst h; simp [cmpL_self]
  · rw [decide_eq_false fun e => h (nums_inj (cmpL_eq e))]
    simpa using h
theorem nanI (w : World) (x : Int) : Calls Tryd.prog 41 #[.int .i64 x] w fun e w' => e = .returned (.bool false) ∧ w' = w := by
  go_enter Tryd.func41, Tryd.ntmps41
  go_wp2_with fail
  go_ret
  exact ⟨by simp, rfl⟩
theorem nanS (w : World) (x : ByteArray) : Calls Tryd.prog 35 #[.string x] w fun e w' => e = .returned (.bool false) ∧ w' = w := by
  go_enter Tryd.func35, Tryd.ntmps35
  go_wp2_with fail
  go_ret
  exact ⟨by simp, rfl⟩
theorem compI (w : World) (x y : Int) : Calls Tryd.prog 32 #[.int .i64 x, .int .i64 y] w fun e w' => e = .returned (.int .i64 (cmpI x y)) ∧ w' = w := by
  unfold cmpI
  by_cases h1 : x < y
  · rw [if_pos h1]
    go_enter Tryd.func32, Tryd.ntmps32
    go_wp2_with fail
    refine (nanI _ _).mono ?_
    rintro e w1 ⟨rfl, rfl⟩
    go_wp2_with fail
    refine (nanI _ _).mono ?_
    rintro e w2 ⟨rfl, rfl⟩
    go_wp2_with fail
    go_ret
    exact ⟨rfl, rfl⟩
  · rw [if_neg h1]
    by_cases h2 : y < x
    · rw [if_pos h2]
      go_enter Tryd.func32, Tryd.ntmps32
      go_wp2_with fail
      refine (nanI _ _).mono ?_
      rintro e w1 ⟨rfl, rfl⟩
      go_wp2_with fail
      refine (nanI _ _).mono ?_
      rintro e w2 ⟨rfl, rfl⟩
      go_wp2_with fail
      go_ret
      exact ⟨rfl, rfl⟩
    · rw [if_neg h2]
      go_enter Tryd.func32, Tryd.ntmps32
      go_wp2_with fail
      refine (nanI _ _).mono ?_
      rintro e w1 ⟨rfl, rfl⟩
      go_wp2_with fail
      refine (nanI _ _).mono ?_
      rintro e w2 ⟨rfl, rfl⟩
      go_wp2_with fail
      go_ret
      exact ⟨rfl, rfl⟩
def cmpS (x y : ByteArray) : Int := cmpL (nums x.data.toList) (nums y.data.toList)
theorem compS (w : World) (x y : ByteArray) : Calls Tryd.prog 27 #[.string x, .string y] w fun e w' => e = .returned (.int .i64 (cmpS x y)) ∧ w' = w := by
  have hl : Op.bytesLess x.toList y.toList = decide (cmpS x y = -1) := by rw [bytesLess_iff, Val.toList_data, Val.toList_data]; rfl
  have he : (x.toList == y.toList) = decide (cmpS x y = 0) := by rw [eq_iff, Val.toList_data, Val.toList_data]; rfl
  have hr := cmpL_range (nums x.data.toList) (nums y.data.toList)
  have hr : cmpS x y = -1 ∨ cmpS x y = 0 ∨ cmpS x y = 1 := hr
  obtain ⟨c, hc⟩ : ∃ c, cmpS x y = c := ⟨_, rfl⟩
  rw [hc] at hl he hr ⊢
  clear hc
  rcases hr with rfl | rfl | rfl
  · have hl : Op.bytesLess x.toList y.toList = true := by rw [hl]; rfl
    have he : (x.toList == y.toList) = false := by rw [he]; rfl
    go_enter Tryd.func27, Tryd.ntmps27
    go_wp2_with fail
    refine (nanS _ _).mono ?_
    rintro e w1 ⟨rfl, rfl⟩
    go_wp2_with fail
    refine (nanS _ _).mono ?_
    rintro e w2 ⟨rfl, rfl⟩
    go_wp2_with fail
    go_ret
    exact ⟨rfl, rfl⟩
  · have hl : Op.bytesLess x.toList y.toList = false := by rw [hl]; rfl
    have he : x.toList = y.toList := by rw [← beq_iff_eq, he]; rfl
    have hl2 : Op.bytesLess y.toList y.toList = false := by rw [← he]; rw [← he] at hl; exact hl
    go_enter Tryd.func27, Tryd.ntmps27
    go_wp2_with fail
    refine (nanS _ _).mono ?_
    rintro e w1 ⟨rfl, rfl⟩
    go_wp2_with fail
    refine (nanS _ _).mono ?_
    rintro e w2 ⟨rfl, rfl⟩
    go_wp2_with fail
    go_ret
    exact ⟨rfl, rfl⟩
  · have hl : Op.bytesLess x.toList y.toList = false := by rw [hl]; rfl
    have he2 : (x.toList == y.toList) = false := by rw [he]; rfl
    have he : ¬ x.toList = y.toList := by simpa using he2
    go_enter Tryd.func27, Tryd.ntmps27
    go_wp2_with fail
    refine (nanS _ _).mono ?_
    rintro e w1 ⟨rfl, rfl⟩
    go_wp2_with fail
    refine (nanS _ _).mono ?_
    rintro e w2 ⟨rfl, rfl⟩
    go_wp2_with fail
    go_ret
    exact ⟨rfl, rfl⟩
theorem orZ : ∀ (l : List Int) (i : Nat), (∀ j, j < i → l.getD j 0 = 0) → i ≤ l.length → orL l = orL (l.drop i)
  | l, 0, _, _ => rfl
  | [], i + 1, _, h => by simp at h
  | x :: l, i + 1, hz, h => by
    have h0 := hz 0 (by omega)
    simp at h0
    subst h0
    rw [List.drop_succ_cons, show orL (0 :: l) = orL l from if_pos rfl]
    exact orZ l i (fun j hj => by simpa using hz (j + 1) (by omega)) (by simpa using h)
theorem orI (w : World) (A : Option Addr) (n c : Nat) (l : List Int) (hr : Reads w (fun b => b < w.heap.size) 1 A n (ints l)) (hn : n ≤ 100) :
    Calls Tryd.prog 22 #[.slice A n c] w fun e w' => e = .returned (.int .i64 (orL l)) ∧ w' = w := by
  have hl : l.length = n := by simpa [ints] using hr.len
  have HR := Lib.hid (And.intro hr hl)
  have hz : ∀ W, (zeroValue 3).run Tryd.prog W = .ok (.int .i64 0) W := fun W => by kernel_rfl
  clear hr hl
  go_enter Tryd.func22, Tryd.ntmps22
  go_wp2_with fail
  go_loopw [5, 8] (fun _ iv wr => ∃ i : Nat, i ≤ n ∧ iv = .int .i64 i ∧ wr = w ∧ ∀ j, j < i → l.getD j 0 = 0) (fun _ iv _ => n - (intOf iv).toNat)
  case atStart => exact ⟨0, by omega, by go_num, rfl, fun j hj => by omega⟩
  case round =>
    obtain ⟨i, hi, rfl, rfl, hall⟩ := hrel
    by_cases hlt : i < n
    · have hix : i < l.length := by have := HR.out.2; omega
      obtain ⟨ad, u, rfl, _, hu, hc⟩ := HR.out.1.at_ hlt
      obtain ⟨x, hx⟩ : ∃ x, l[i]? = some x := ⟨_, List.getElem?_eq_getElem hix⟩
      rw [ints_get, hx, Option.map_some] at hu
      injection hu with hu
      subst hu
      have hd : orL l = orL (l.drop i) := orZ l i hall (by omega)
      have hgx : l.getD i 0 = x := by rw [List.getD_eq_getElem?_getD, hx]; rfl
      have hdr : l.drop i = x :: l.drop (i + 1) := by
        rw [List.drop_eq_getElem_cons hix]
        congr 1
        have := (List.getElem?_eq_some_iff.1 hx).2
        exact this
      rw [hdr] at hd
      have hii : (i : Int) < n := by omega
      by_cases h0 : x = 0
      · subst h0
        have HT := Lib.hid (show ∀ j, j < i + 1 → l.getD j 0 = 0 from fun j hj => by
          by_cases e : j = i
          · rw [e]; exact hgx
          · exact hall j (by omega))
        clear hd hgx hdr hall hx
        go_wp2_with fail
        go_roundw
        case rel => exact ⟨i + 1, by omega, by go_num, by first | rfl | exact True.intro, HT.out⟩
        case measure => simp [intOf]; omega
      · have h1 : (x == 0) = false := by simpa using h0
        have HF := Lib.hid (show orL l = x by rw [hd]; unfold orL; rw [if_neg h0])
        clear hd hgx hdr hall hx
        go_wp2_with fail
        go_ret
        rw [HF.out]
        exact ⟨rfl, rfl⟩
    · obtain rfl : n = i := by omega
      have HF := Lib.hid (show orL l = 0 by rw [orZ l n hall (by have := HR.out.2; omega), List.drop_of_length_le (by have := HR.out.2; omega)]; rfl)
      clear hall
      go_wp2_with fail
      go_ret
      rw [HF.out]
      exact ⟨rfl, rfl⟩
set_option maxHeartbeats 4000000 in
set_option maxRecDepth 20000 in
theorem vcomp (w : World) (k n k2 n2 : Int) (s s2 : ByteArray) : Calls Tryd.prog 24 #[.agg #[.int .i64 k, .int .i64 n, .string s], .agg #[.int .i64 k2, .int .i64 n2, .string s2]] w fun e w' => e = .returned (.int .i64 (orL [cmpI k k2, cmpI n n2, cmpS s s2])) ∧ New w w' := by
  go_enter Tryd.func24, Tryd.ntmps24
  go_wp2_with fail
  refine wp_region_tailq 15 (by kernel_rfl) (by kernel_rfl) ?_
  simp only [List.take_succ_cons, List.take_zero, List.drop_succ_cons, List.drop_zero]
  repeat (first | go_big_quiet_skip | (go_big_quiet_want; go_big_quiet_op; first | go_big_quiet_on | (apply Exists.intro; refine ⟨?_, ?_⟩; (focus (first | (go_at_call 32; exact compI _ _ _) | (go_at_call 27; exact compS _ _ _))); go_big_quiet_on)))
  refine wpQuiet_nil ?_
  have hb : Blk (((w.alloc (.cells #[.int .i64 k, .int .i64 n, .string s] 31)).alloc (.cells #[.int .i64 k2, .int .i64 n2, .string s2] 31)).alloc (.cells (ints [cmpI k k2, cmpI n n2, cmpS s s2]).toArray 3)) (w.heap.size + 2) 3 (ints [cmpI k k2, cmpI n n2, cmpS s s2]).toArray := Blk.new2 _ _ _ _ _
  have hr := (Reads.of_blk (size := 1) (n := 3) hb.drew rfl).mono (G := fun z => z < ((((w.alloc (.cells #[.int .i64 k, .int .i64 n, .string s] 31)).alloc (.cells #[.int .i64 k2, .int .i64 n2, .string s2] 31)).alloc (.cells (ints [cmpI k k2, cmpI n n2, cmpS s s2]).toArray 3))).drew.heap.size) fun z hz2 => by rw [hz2]; exact hb.drew.lt
  have HB := Lib.hid hr
  clear hb hr
  go_wp2_with fail
  refine (orI _ _ 3 3 [cmpI k k2, cmpI n n2, cmpS s s2] HB.out (by omega)).mono ?_
  rintro e w1 ⟨rfl, rfl⟩
  go_wp2_with fail
  go_ret
  exact ⟨rfl, ((((Chg.refl _ w).alloc _).alloc _).alloc _).drew⟩
set_option maxHeartbeats 4000000 in
set_option maxRecDepth 20000 in
theorem order (w : World) (a b a2 b2 : Int) : Calls Tryd.prog 23 #[.agg #[.int .i64 a, .int .i64 b], .agg #[.int .i64 a2, .int .i64 b2]] w fun e w' => e = .returned (.int .i64 (orL [cmpI a a2, cmpI b b2])) ∧ New w w' := by
  go_enter Tryd.func23, Tryd.ntmps23
  go_wp2_with fail
  refine wp_region_tailq 10 (by kernel_rfl) (by kernel_rfl) ?_
  simp only [List.take_succ_cons, List.take_zero, List.drop_succ_cons, List.drop_zero]
  repeat (first | go_big_quiet_skip | (go_big_quiet_want; go_big_quiet_op; first | go_big_quiet_on | (apply Exists.intro; refine ⟨?_, ?_⟩; (focus ((go_at_call 32; exact compI _ _ _))); go_big_quiet_on)))
  refine wpQuiet_nil ?_
  have hb : Blk (((w.alloc (.cells #[.int .i64 a, .int .i64 b] 29)).alloc (.cells #[.int .i64 a2, .int .i64 b2] 29)).alloc (.cells (ints [cmpI a a2, cmpI b b2]).toArray 3)) (w.heap.size + 2) 3 (ints [cmpI a a2, cmpI b b2]).toArray := Blk.new2 _ _ _ _ _
  have hr := (Reads.of_blk (size := 1) (n := 2) hb.drew rfl).mono (G := fun z => z < ((((w.alloc (.cells #[.int .i64 a, .int .i64 b] 29)).alloc (.cells #[.int .i64 a2, .int .i64 b2] 29)).alloc (.cells (ints [cmpI a a2, cmpI b b2]).toArray 3))).drew.heap.size) fun z hz2 => by rw [hz2]; exact hb.drew.lt
  have HB := Lib.hid hr
  clear hb hr
  go_wp2_with fail
  refine (orI _ _ 2 2 [cmpI a a2, cmpI b b2] HB.out (by omega)).mono ?_
  rintro e w1 ⟨rfl, rfl⟩
  go_wp2_with fail
  go_ret
  exact ⟨rfl, ((((Chg.refl _ w).alloc _).alloc _).alloc _).drew⟩
theorem later (w : World) (a b a2 b2 : Int) : Calls Tryd.prog 17 #[.agg #[.int .i64 a, .int .i64 b], .agg #[.int .i64 a2, .int .i64 b2]] w fun e w' => e = .returned (.bool (decide (0 < orL [cmpI a a2, cmpI b b2]))) ∧ New w w' := by
  go_enter Tryd.func17, Tryd.ntmps17
  go_wp2_with fail
  refine (order _ _ _ _ _).mono ?_
  rintro e w1 ⟨rfl, n1⟩
  have N1 := Lib.hid ((((Chg.refl (fun _ => False) w).alloc _).alloc _).trans n1 fun _ _ => id)
  clear n1
  obtain ⟨o, ho⟩ : ∃ o, orL [cmpI a a2, cmpI b b2] = o := ⟨_, rfl⟩
  rw [ho]
  go_wp2_with fail
  go_ret
  exact ⟨by rw [ho]; simp, N1.out⟩
theorem or_or (a b : Int) : orL [a, b] = if a = 0 then b else a := by
  unfold orL orL orL
  split
  · split <;> simp_all
  · rfl
theorem cmp_cons (a b : Int) (x y : List Int) : cmpL (a :: x) (b :: y) = orL [cmpI a b, cmpL x y] := by
  rw [or_or]
  show (if a < b then -1 else if b < a then 1 else cmpL x y) = _
  unfold cmpI
  by_cases h1 : a < b
  · simp [h1]
  · by_cases h2 : b < a
    · simp [h1, h2]
    · simp [h1, h2]
theorem or3 (a b c : Int) : orL [a, b, c] = orL [a, orL [b, c]] := by
  rw [or_or]
  rfl
theorem key_cmp (c d : Cl) : orL [orL [cmpI c.t d.t, cmpI c.r d.r], orL [cmpI c.k d.k, cmpI c.n d.n, cmpS c.txt d.txt]] = cmpL c.key d.key := by
  unfold Cl.key cmpS
  rw [cmp_cons, cmp_cons, cmp_cons, cmp_cons]
  simp only [or3, or_or]
  by_cases h1 : cmpI c.t d.t = 0 <;> by_cases h2 : cmpI c.r d.r = 0 <;> simp [h1, h2]
end Lat
end Go.Proofs.YtgnlbekagdffoaaDoor
