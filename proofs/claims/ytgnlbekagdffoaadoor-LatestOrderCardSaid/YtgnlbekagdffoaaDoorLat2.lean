/-
  The document's comparison, and which cell counts ahead (no condition but on the texts' size).
-/
import Derived.Test.YtgnlbekagdffoaaDoorLat
namespace Go.Proofs.YtgnlbekagdffoaaDoor
set_option linter.unusedSimpArgs false
set_option linter.unusedVariables false
open Go.ChangeShapes Go.WideShapes Go.RowKit Go.Deep
namespace Lat
theorem drop_cmp : ∀ (i : Nat) (a b : List UInt8), i ≤ a.length → i ≤ b.length → (∀ j, j < i → a[j]? = b[j]?) → cmpL (nums a) (nums b) = cmpL (nums (a.drop i)) (nums (b.drop i))
  | 0, _, _, _, _, _ => rfl
  | i + 1, [], _, h, _, _ => by simp at h
  | i + 1, _ :: _, [], _, h, _ => by simp at h
  | i + 1, x :: a, y :: b, h1, h2, h => by
    have h0 := h 0 (by omega)
    simp at h0
    subst h0
    have := drop_cmp i a b (by simpa using h1) (by simpa using h2) fun j hj => by simpa using h (j + 1) (by omega)
    simp only [List.drop_succ_cons]
    rw [← this]
    simp [nums, cmpL]
set_option maxHeartbeats 4000000 in
set_option maxRecDepth 20000 in
theorem rcomp (w : World) (k n k2 n2 : Int) (s s2 : ByteArray) (hs : s.size ≤ 1000) (hs2 : s2.size ≤ 1000) :
    Calls Tryd.prog 20 #[.agg #[.int .i64 k, .int .i64 n, .string s], .agg #[.int .i64 k2, .int .i64 n2, .string s2]] w fun e w' => e = .returned (.int .i64 (orL [cmpI k k2, orL [cmpI n n2, cmpS s s2]])) ∧ New w w' := by
  have N0 := Lib.hid ((((Chg.refl (fun _ => False) w).alloc (.cells #[.int .i64 k, .int .i64 n, .string s] 31)).alloc (.cells #[.int .i64 k2, .int .i64 n2, .string s2] 31)))
  rw [or_or]
  by_cases hk : k = k2
  · subst hk
    rw [show cmpI k k = 0 by simp [cmpI], if_pos rfl, or_or]
    by_cases hn : n = n2
    · subst hn
      rw [show cmpI n n = 0 by simp [cmpI], if_pos rfl]
      obtain ⟨l, hl⟩ : ∃ l, s.size = l := ⟨_, rfl⟩
      obtain ⟨l2, hl2⟩ : ∃ l, s2.size = l := ⟨_, rfl⟩
      have hlen := Val.size_list s
      have hlen2 := Val.size_list s2
      rw [hl] at hlen hs
      rw [hl2] at hlen2 hs2
      go_enter Tryd.func20, Tryd.ntmps20
      go_wp2_with fail
      go_loopw [5] (fun iv wr => ∃ i : Nat, i ≤ l ∧ i ≤ l2 ∧ iv = .int .i64 i ∧ (∀ j, j < i → s.data.toList[j]? = s2.data.toList[j]?) ∧ ∃ q, wr = ((w.alloc (.cells #[.int .i64 k, .int .i64 n, .string s] 31)).alloc (.cells #[.int .i64 k, .int .i64 n, .string s2] 31)).drewN q) (fun iv _ => l - (intOf iv).toNat)
      case atStart => exact ⟨0, by omega, by omega, by go_num, fun j hj => by omega, 0, rfl⟩
      case round =>
        obtain ⟨i, hi, hi2, rfl, heq, q, rfl⟩ := hrel
        have hd : cmpS s s2 = cmpL (nums (s.data.toList.drop i)) (nums (s2.data.toList.drop i)) := drop_cmp i _ _ (by omega) (by omega) heq
        have NQ := Lib.hid (N0.out.drewN q)
        by_cases h1 : i < l
        · have g1 : (i : Int) < l := by omega
          have his : i < s.size := by omega
          have hdr : s.data.toList.drop i = s[i]'his :: s.data.toList.drop (i + 1) := by
            rw [List.drop_eq_getElem_cons (by omega)]
            rfl
          by_cases h2 : i < l2
          · have g2 : (i : Int) < l2 := by omega
            have his2 : i < s2.size := by omega
            have hdr2 : s2.data.toList.drop i = s2[i]'his2 :: s2.data.toList.drop (i + 1) := by
              rw [List.drop_eq_getElem_cons (by omega)]
              rfl
            rw [hdr, hdr2] at hd
            obtain ⟨a, ha⟩ : ∃ a, s[i]'his = a := ⟨_, rfl⟩
            obtain ⟨b, hb⟩ : ∃ b, s2[i]'his2 = b := ⟨_, rfl⟩
            rw [ha, hb] at hd
            have ha2 : (s[i]'his).toNat = a.toNat := by rw [ha]
            have hb2 : (s2[i]'his2).toNat = b.toNat := by rw [hb]
            have hla : s.data.toList[i]? = some a := by rw [← ha]; exact Val.at_list his
            have hlb : s2.data.toList[i]? = some b := by rw [← hb]; exact Val.at_list his2
            have hcm : cmpL (nums (a :: s.data.toList.drop (i + 1))) (nums (b :: s2.data.toList.drop (i + 1))) = if (a.toNat : Int) < (b.toNat : Int) then -1 else if (b.toNat : Int) < (a.toNat : Int) then 1 else cmpL (nums (s.data.toList.drop (i + 1))) (nums (s2.data.toList.drop (i + 1))) := rfl
            rw [hcm] at hd
            by_cases e : a = b
            · have HT := Lib.hid (show ∀ j, j < i + 1 → s.data.toList[j]? = s2.data.toList[j]? from fun j hj => by
                by_cases e2 : j = i
                · rw [e2, hla, hlb, e]
                · exact heq j (by omega))
              subst e
              obtain ⟨x, hx⟩ : ∃ x, a.toNat = x := ⟨_, rfl⟩
              rw [hx] at ha2 hb2
              clear hd hdr hdr2 hcm hla hlb heq ha hb hx
              go_wp2_with fail
              refine wp_region_quiet1 (by kernel_rfl) (by kernel_rfl) ?_
              repeat still_step
              refine wpStill_nil ?_
              go_wp2_with fail
              go_roundw
              case rel => exact ⟨i + 1, by omega, by omega, by go_num, HT.out, q + 1, rfl⟩
              case measure => simp [intOf]; omega
            · obtain ⟨x, hx⟩ : ∃ x, a.toNat = x := ⟨_, rfl⟩
              obtain ⟨y, hy⟩ : ∃ y, b.toNat = y := ⟨_, rfl⟩
              have hxy : ¬ x = y := fun e2 => e (UInt8.toNat_inj.1 (by omega))
              rw [hx, hy] at hd
              rw [hx] at ha2
              rw [hy] at hb2
              have hxy2 : ((x : Int) == (y : Int)) = false := by simp; omega
              have hxy3 : ¬ (x : Int) = (y : Int) := by omega
              by_cases h3 : (x : Int) < y
              · rw [if_pos h3] at hd
                have HD := Lib.hid hd
                clear hd hdr hdr2 hcm hla hlb heq ha hb hx hy e
                go_wp2_with fail
                refine wp_region_quiet1 (by kernel_rfl) (by kernel_rfl) ?_
                repeat still_step
                refine wpStill_nil ?_
                go_wp2_with fail
                refine wp_region_quiet1 (by kernel_rfl) (by kernel_rfl) ?_
                repeat still_step
                refine wpStill_nil ?_
                go_wp2_with fail
                go_ret
                exact ⟨by rw [HD.out]; rfl, NQ.out.drew.drew⟩
              · rw [if_neg h3, if_pos (by omega)] at hd
                have HD := Lib.hid hd
                clear hd hdr hdr2 hcm hla hlb heq ha hb hx hy e
                go_wp2_with fail
                refine wp_region_quiet1 (by kernel_rfl) (by kernel_rfl) ?_
                repeat still_step
                refine wpStill_nil ?_
                go_wp2_with fail
                refine wp_region_quiet1 (by kernel_rfl) (by kernel_rfl) ?_
                repeat still_step
                refine wpStill_nil ?_
                go_wp2_with fail
                go_ret
                exact ⟨by rw [HD.out]; rfl, NQ.out.drew.drew⟩
          · have g2 : ¬ (i : Int) < l2 := by omega
            have g3 : ¬ (l : Int) < l2 := by omega
            have g4 : (l2 : Int) < l := by omega
            rw [hdr, List.drop_of_length_le (show s2.data.toList.length ≤ i by omega)] at hd
            have HD := Lib.hid (show cmpS s s2 = 1 from hd)
            clear hd hdr heq
            go_wp2_with fail
            go_ret
            exact ⟨by rw [HD.out]; rfl, NQ.out⟩
        · have g1 : ¬ (i : Int) < l := by omega
          rw [List.drop_of_length_le (show s.data.toList.length ≤ i by omega)] at hd
          by_cases h2 : i < l2
          · have g3 : (l : Int) < l2 := by omega
            have HD := Lib.hid (show cmpS s s2 = -1 by
              rw [hd, List.drop_eq_getElem_cons (show i < s2.data.toList.length by omega)]; rfl)
            clear hd heq
            go_wp2_with fail
            go_ret
            exact ⟨by rw [HD.out]; rfl, NQ.out⟩
          · have g3 : ¬ (l : Int) < l2 := by omega
            have g4 : ¬ (l2 : Int) < l := by omega
            rw [List.drop_of_length_le (show s2.data.toList.length ≤ i by omega)] at hd
            have HD := Lib.hid (show cmpS s s2 = 0 from hd)
            clear hd heq
            go_wp2_with fail
            go_ret
            exact ⟨by rw [HD.out]; rfl, NQ.out⟩
    · by_cases hn1 : n < n2
      · rw [show cmpI n n2 = -1 by simp [cmpI, hn1], if_neg (by decide)]
        have hn2 : (n == n2) = false := by simpa using hn
        go_enter Tryd.func20, Tryd.ntmps20
        go_wp2_with fail
        go_ret
        exact ⟨rfl, N0.out⟩
      · have hn3 : n2 < n := by omega
        rw [show cmpI n n2 = 1 by simp [cmpI, hn1, hn3], if_neg (by decide)]
        have hn2 : (n == n2) = false := by simpa using hn
        go_enter Tryd.func20, Tryd.ntmps20
        go_wp2_with fail
        go_ret
        exact ⟨rfl, N0.out⟩
  · by_cases hk1 : k < k2
    · rw [show cmpI k k2 = -1 by simp [cmpI, hk1], if_neg (by decide)]
      have hk2 : (k == k2) = false := by simpa using hk
      go_enter Tryd.func20, Tryd.ntmps20
      go_wp2_with fail
      go_ret
      exact ⟨rfl, N0.out⟩
    · have hk3 : k2 < k := by omega
      rw [show cmpI k k2 = 1 by simp [cmpI, hk1, hk3], if_neg (by decide)]
      have hk2 : (k == k2) = false := by simpa using hk
      go_enter Tryd.func20, Tryd.ntmps20
      go_wp2_with fail
      go_ret
      exact ⟨rfl, N0.out⟩
theorem over_iff (a b : Cl) : a.over b = decide (0 < orL [cmpI a.t b.t, orL [cmpI a.r b.r, orL [cmpI a.k b.k, orL [cmpI a.n b.n, cmpS a.txt b.txt]]]]) := by
  unfold Cl.over Cl.key cmpS
  rw [cmp_cons, cmp_cons, cmp_cons, cmp_cons]
set_option maxHeartbeats 4000000 in
set_option maxRecDepth 20000 in
theorem ahead (w : World) (a b : Cl) (hs : a.txt.size ≤ 1000) (hs2 : b.txt.size ≤ 1000) : Calls Tryd.prog 11 #[a.val, b.val] w fun e w' => e = .returned (.bool (a.over b)) ∧ New w w' := by
  have ho := over_iff a b
  obtain ⟨nm, t, r, k, n, tx⟩ := a
  obtain ⟨nm2, t2, r2, k2, n2, tx2⟩ := b
  simp only at hs hs2 ho
  rw [ho]
  have C := Lib.hid fun W => rcomp W k n k2 n2 tx tx2 hs hs2
  have N0 := Lib.hid ((((Chg.refl (fun _ => False) w).alloc (.cells #[.string nm, .int .i64 t, .int .i64 r, .int .i64 k, .int .i64 n, .string tx] 33)).alloc (.cells #[.string nm2, .int .i64 t2, .int .i64 r2, .int .i64 k2, .int .i64 n2, .string tx2] 33)))
  unfold Cl.val
  clear ho hs hs2
  rw [or_or]
  by_cases ht : t = t2
  · subst ht
    rw [show cmpI t t = 0 by simp [cmpI], if_pos rfl, or_or]
    by_cases hr : r = r2
    · subst hr
      rw [show cmpI r r = 0 by simp [cmpI], if_pos rfl]
      obtain ⟨o, ho⟩ : ∃ o, orL [cmpI k k2, orL [cmpI n n2, cmpS tx tx2]] = o := ⟨_, rfl⟩
      rw [ho] at C ⊢
      clear ho
      go_enter Tryd.func11, Tryd.ntmps11
      go_wp2_with fail
      refine (C.out _).mono ?_
      rintro e w1 ⟨rfl, n1⟩
      have N1 := Lib.hid (N0.out.trans n1 fun _ _ => id)
      clear n1
      go_wp2_with fail
      go_ret
      exact ⟨by first | rfl | simp, N1.out⟩
    · have hr2 : (r == r2) = false := by simpa using hr
      rw [show decide (0 < if cmpI r r2 = 0 then orL [cmpI k k2, orL [cmpI n n2, cmpS tx tx2]] else cmpI r r2) = decide (r2 < r) from decide_eq_decide.2 (by
        unfold cmpI
        by_cases h : r < r2
        · simp [h]; omega
        · have : r2 < r := by omega
          simp [h, this])]
      go_enter Tryd.func11, Tryd.ntmps11
      go_wp2_with fail
      go_ret
      exact ⟨by first | rfl | simp, N0.out⟩
  · have ht2 : (t == t2) = false := by simpa using ht
    rw [show decide (0 < if cmpI t t2 = 0 then orL [cmpI r r2, orL [cmpI k k2, orL [cmpI n n2, cmpS tx tx2]]] else cmpI t t2) = decide (t2 < t) from decide_eq_decide.2 (by
      unfold cmpI
      by_cases h : t < t2
      · simp [h]; omega
      · have : t2 < t := by omega
        simp [h, this])]
    go_enter Tryd.func11, Tryd.ntmps11
    go_wp2_with fail
    go_ret
    exact ⟨by first | rfl | simp, N0.out⟩
end Lat
end Go.Proofs.YtgnlbekagdffoaaDoor
