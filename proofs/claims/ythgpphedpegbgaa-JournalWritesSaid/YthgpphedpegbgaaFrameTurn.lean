/-
  Of frames that are cut, or of which a byte is turned, all ahead are told (plain lists; no program).
-/
import Derived.Test.YthgpphedpegbgaaFrameCat
import Derived.Test.YthgpphedpegbgaaCrcTurnPlain
namespace Go.Proofs.Ythgpphedpegbgaa
namespace Frame
/-! ### a byte turned has another sum -/
theorem updL_ne (l : List UInt8) {r r' : Nat} (h : r < 4294967296) (h' : r' < 4294967296) (hne : r ≠ r') : Crc.updL r l ≠ Crc.updL r' l := by
  intro e
  rw [Crc.updL_num, Crc.updL_num] at e
  have h1 := Crc.stpN_xor (8 * l.length) (r ^^^ Crc.num l) (r' ^^^ Crc.num l)
  rw [e, Nat.xor_self] at h1
  have h2 : (r ^^^ Crc.num l) ^^^ (r' ^^^ Crc.num l) = r ^^^ r' := by
    rw [Nat.xor_comm r' (Crc.num l), Nat.xor_assoc, ← Nat.xor_assoc (Crc.num l), Nat.xor_self, Nat.zero_xor]
  rw [h2] at h1
  refine Crc.stpN_ne (8 * l.length) (e := r ^^^ r') (Nat.xor_lt_two_pow (n := 32) h h') (fun h0 => hne ?_) h1
  have := congrArg (· ^^^ r') h0
  simpa [Nat.xor_assoc] using this
theorem upd_ne {r : Nat} {c c' : UInt8} (_h : r < 4294967296) (hne : c ≠ c') : Crc.upd r c ≠ Crc.upd r c' := by
  intro e
  rw [Crc.upd_bits, Crc.upd_bits] at e
  have h1 := Crc.stpN_xor 8 (r ^^^ c.toNat) (r ^^^ c'.toNat)
  rw [e, Nat.xor_self] at h1
  have h2 : (r ^^^ c.toNat) ^^^ (r ^^^ c'.toNat) = c.toNat ^^^ c'.toNat := by
    rw [Nat.xor_comm r c.toNat, Nat.xor_assoc, ← Nat.xor_assoc r, Nat.xor_self, Nat.zero_xor]
  rw [h2] at h1
  have hc := UInt8.toNat_lt c
  have hc' := UInt8.toNat_lt c'
  have h8 : c.toNat ^^^ c'.toNat < 2 ^ 8 := Nat.xor_lt_two_pow hc hc'
  refine Crc.stpN_ne 8 (e := c.toNat ^^^ c'.toNat) (by omega) (fun h0 => hne ?_) h1
  apply UInt8.toNat_inj.1
  have := congrArg (· ^^^ c'.toNat) h0
  simpa [Nat.xor_assoc] using this
theorem sum_ne (a b : List UInt8) {c c' : UInt8} (hne : c ≠ c') : Crc.sum (a ++ c :: b) ≠ Crc.sum (a ++ c' :: b) := by
  have h1 : ∀ d, Crc.updL 4294967295 (a ++ d :: b) = Crc.updL (Crc.upd (Crc.updL 4294967295 a) d) b := fun d => by
    rw [Crc.updL_append]
    rfl
  have hr := Crc.updL_lt a (r := 4294967295) (by omega)
  have h2 := updL_ne b (Crc.upd_lt c hr) (Crc.upd_lt c' hr) (upd_ne hr hne)
  have l1 := Crc.updL_lt (a ++ c :: b) (r := 4294967295) (by omega)
  have l2 := Crc.updL_lt (a ++ c' :: b) (r := 4294967295) (by omega)
  unfold Crc.sum
  rw [h1] at l1 ⊢
  rw [h1] at l2 ⊢
  omega
theorem sumL_inj {s t : Nat} (hs : s < 4294967296) (ht : t < 4294967296) (h : sumL s = sumL t) : s = t := by
  unfold sumL at h
  simp only [List.cons.injEq, and_true] at h
  obtain ⟨h0, h1, h2, h3⟩ := h
  have e0 := congrArg UInt8.toNat h0
  have e1 := congrArg UInt8.toNat h1
  have e2 := congrArg UInt8.toNat h2
  have e3 := congrArg UInt8.toNat h3
  simp at e0 e1 e2 e3
  omega
/-! ### a frame cut -/
theorem take_cut (p q : List UInt8) (r : Nat) (hp : p.length ≤ 1048576) (hr : r < p.length + 8) : takeE ((frameL p ++ q).take r) = 2 := by
  have hlen : ((frameL p ++ q).take r).length = r := by rw [List.length_take, List.length_append, frameL_length]; omega
  by_cases h4 : r < 4
  · exact takeE_short (by omega)
  · obtain ⟨s, rfl⟩ : ∃ s, r = s + 4 := ⟨r - 4, by omega⟩
    have hl : lenOf ((frameL p ++ q).take (s + 4)) = p.length := by
      have := frame_len p q hp
      rw [frame_cons] at this ⊢
      simp only [List.take_succ_cons, lenOf, List.getD_cons_zero, List.getD_cons_succ] at this ⊢
      exact this
    refine takeE_cut (by omega) ?_ (by omega) (by omega)
    rw [hl, List.take_take, Nat.min_eq_left (by omega), frame_take4]
/-! ### a byte turned -/
theorem xor_ne {x y : UInt8} (hy : y ≠ 0) : x ^^^ y ≠ x := fun h => hy (by
  have := congrArg (x ^^^ ·) h
  simpa [← UInt8.xor_assoc] using this)
theorem xor_cancel {a b c : UInt8} (h : a ^^^ c = b ^^^ c) : a = b := by
  have := congrArg (· ^^^ c) h
  simpa [UInt8.xor_assoc] using this
/-- a head of which a byte is turned -/
theorem head_turned {a b c d : UInt8} {t : List UInt8} (h : d ≠ 165 ^^^ a ^^^ b ^^^ c) : takeE (a :: b :: c :: d :: t) = 7 := by
  refine takeE_head (by simp) fun e => h ?_
  have hb := UInt8.toNat_lt b
  have ha := UInt8.toNat_lt a
  have hc := UInt8.toNat_lt c
  have hl : lenOf (a :: b :: c :: d :: t) = a.toNat + 256 * b.toNat + 65536 * c.toNat := by simp [lenOf]
  rw [hl] at e
  have e0 : UInt8.ofNat (a.toNat + 256 * b.toNat + 65536 * c.toNat) = a := by apply UInt8.toNat_inj.1; simp <;> omega
  have e1 : UInt8.ofNat ((a.toNat + 256 * b.toNat + 65536 * c.toNat) / 256) = b := by apply UInt8.toNat_inj.1; simp <;> omega
  have e2 : UInt8.ofNat ((a.toNat + 256 * b.toNat + 65536 * c.toNat) / 65536) = c := by apply UInt8.toNat_inj.1; simp <;> omega
  unfold headL at e
  rw [e0, e1, e2] at e
  simp at e
  exact e.symm
theorem turned_body (p q m s : List UInt8) (hp : p.length ≤ 1048576) (hm : m.length = p.length) (hs : s.length = 4) (hne : crcL m ≠ s) : takeE (headL p.length ++ (m ++ (s ++ q))) = 7 := by
  have hl : lenOf (headL p.length ++ (m ++ (s ++ q))) = p.length := by
    have := frame_len p q hp
    rw [frame_cons] at this
    simpa [headL, lenOf] using this
  have hlen : (headL p.length ++ (m ++ (s ++ q))).length = p.length + 8 + q.length := by
    simp only [List.length_append, headL_length, hm, hs]; omega
  refine takeE_sum (by omega) ?_ (by omega) (by omega) ?_
  · rw [hl]
    rfl
  · rw [hl]
    have e1 : ((headL p.length ++ (m ++ (s ++ q))).take (p.length + 4)).drop 4 = m := by
      rw [← hm]
      simp only [headL, List.cons_append, List.nil_append, List.take_succ_cons, List.drop_succ_cons, List.drop_zero]
      rw [List.take_left]
    have e2 : ((headL p.length ++ (m ++ (s ++ q))).take (p.length + 8)).drop (p.length + 4) = s := by
      rw [← hm]
      simp only [headL, List.cons_append, List.nil_append, List.take_succ_cons, List.drop_succ_cons]
      rw [show m.length + 4 = m.length + s.length by omega, List.take_length_add_append, List.drop_left, List.take_left]
    rw [e1, e2]
    exact hne
theorem set_mid {l : List UInt8} {i : Nat} (h : i < l.length) (y : UInt8) : ∃ a x b, l = a ++ x :: b ∧ l.set i y = a ++ y :: b ∧ l.getD i 0 = x ∧ a.length = i := by
  refine ⟨l.take i, l[i], l.drop (i + 1), ?_, ?_, ?_, ?_⟩
  · rw [List.getElem_cons_drop, List.take_append_drop]
  · rw [List.set_eq_take_append_cons_drop, if_pos h]
  · simp [List.getD_eq_getElem?_getD, h]
  · rw [List.length_take]; omega
/-- a frame of which byte i is turned -/
theorem frame_turned (p q : List UInt8) (hp : p.length ≤ 1048576) {i : Nat} (hi : i < p.length + 8) {y : UInt8} (hy : y ≠ 0) :
    takeE ((frameL p).set i ((frameL p).getD i 0 ^^^ y) ++ q) = 7 := by
  have hf : frameL p = headL p.length ++ (p ++ crcL p) := by simp [frameL]
  by_cases h4 : i < 4
  · have hc := frame_cons p []
    rw [List.append_nil, List.append_nil] at hc
    rw [hc]
    match i, h4 with
    | 0, _ =>
      simp only [List.set_cons_zero, List.getD_cons_zero, List.cons_append]
      refine head_turned fun e => ?_
      have e2 := xor_cancel (xor_cancel e)
      rw [← UInt8.xor_assoc] at e2
      exact xor_ne hy e2.symm
    | 1, _ =>
      simp only [List.set_cons_zero, List.set_cons_succ, List.getD_cons_zero, List.getD_cons_succ, List.cons_append]
      refine head_turned fun e => ?_
      have e2 := xor_cancel e
      rw [← UInt8.xor_assoc] at e2
      exact xor_ne hy e2.symm
    | 2, _ =>
      simp only [List.set_cons_zero, List.set_cons_succ, List.getD_cons_zero, List.getD_cons_succ, List.cons_append]
      refine head_turned fun e => ?_
      rw [← UInt8.xor_assoc] at e
      exact xor_ne hy e.symm
    | 3, _ =>
      simp only [List.set_cons_zero, List.set_cons_succ, List.getD_cons_zero, List.getD_cons_succ, List.cons_append]
      exact head_turned fun e => xor_ne hy e
  · by_cases hm : i < p.length + 4
    · obtain ⟨a, x, b, e1, e2, e3, e4⟩ := set_mid (l := p) (i := i - 4) (by omega) (p.getD (i - 4) 0 ^^^ y)
      have hg : (frameL p).getD i 0 = p.getD (i - 4) 0 := by
        rw [hf, List.getD_eq_getElem?_getD, List.getElem?_append_right (by rw [headL_length]; omega), headL_length, List.getElem?_append_left (by omega), List.getD_eq_getElem?_getD]
      have hs : (frameL p).set i (p.getD (i - 4) 0 ^^^ y) = headL p.length ++ (p.set (i - 4) (p.getD (i - 4) 0 ^^^ y) ++ crcL p) := by
        rw [hf, List.set_append_right _ _ (by rw [headL_length]; omega), headL_length, List.set_append_left _ _ (by omega)]
      rw [hg, hs]
      simp only [List.append_assoc]
      refine turned_body p q _ _ hp (by simp) rfl fun h => ?_
      have h2 := sumL_inj (Crc.sum_lt _) (Crc.sum_lt _) h
      rw [e2] at h2
      have h3 : Crc.sum p = Crc.sum (a ++ x :: b) := by rw [← e1]
      rw [h3, e3] at h2
      exact sum_ne a b (xor_ne hy) h2
    · have hg : (frameL p).getD i 0 = (crcL p).getD (i - 4 - p.length) 0 := by
        rw [hf, List.getD_eq_getElem?_getD, List.getElem?_append_right (by rw [headL_length]; omega), headL_length, List.getElem?_append_right (by omega), List.getD_eq_getElem?_getD]
      have hs : (frameL p).set i ((crcL p).getD (i - 4 - p.length) 0 ^^^ y) = headL p.length ++ (p ++ (crcL p).set (i - 4 - p.length) ((crcL p).getD (i - 4 - p.length) 0 ^^^ y)) := by
        rw [hf, List.set_append_right _ _ (by rw [headL_length]; omega), headL_length, List.set_append_right _ _ (by omega)]
      obtain ⟨a, x, b, e1, e2, e3, e4⟩ := set_mid (l := crcL p) (i := i - 4 - p.length) (by rw [crcL_length]; omega) ((crcL p).getD (i - 4 - p.length) 0 ^^^ y)
      rw [hg, hs]
      simp only [List.append_assoc]
      refine turned_body p q _ _ hp rfl (by rw [List.length_set, crcL_length]) fun h => ?_
      rw [e2, e3, e1] at h
      have := (List.append_cancel_left h)
      injection this with h1
      exact xor_ne hy h1.symm
/-! ### rows of frames -/
/-- where the first j frames end -/
def endAt (ps : List (List UInt8)) (j : Nat) : Nat := (cat (ps.take j)).length
theorem endAt_zero (ps : List (List UInt8)) : endAt ps 0 = 0 := by simp [endAt, cat]
theorem endAt_succ {ps : List (List UInt8)} {j : Nat} (h : j < ps.length) : endAt ps (j + 1) = endAt ps j + (ps[j].length + 8) := by
  unfold endAt
  rw [List.take_add_one, List.getElem?_eq_getElem h, cat_append, List.length_append]
  simp [cat, frameL_length]
theorem endAt_all {ps : List (List UInt8)} {j : Nat} (h : ps.length ≤ j) : endAt ps j = (cat ps).length := by
  unfold endAt
  rw [List.take_of_length_le h]
theorem endAt_le (ps : List (List UInt8)) (j : Nat) : endAt ps j ≤ (cat ps).length := by
  have : (cat ps).length = endAt ps j + (cat (ps.drop j)).length := by
    rw [endAt, ← List.length_append, ← cat_append, List.take_append_drop]
  omega
theorem cat_split {ps : List (List UInt8)} {j : Nat} (h : j < ps.length) : cat ps = cat (ps.take j) ++ (frameL ps[j] ++ cat (ps.drop (j + 1))) := by
  have : ps = ps.take j ++ (ps[j] :: ps.drop (j + 1)) := by
    rw [List.getElem_cons_drop, List.take_append_drop]
  conv => lhs; rw [this]
  rw [cat_append]
  rfl
/-- frames that are cut -/
theorem all_cut {ps : List (List UInt8)} (hp : ∀ p ∈ ps, p.length ≤ 1048576) {n j : Nat} (hn : n ≤ (cat ps).length) (h1 : endAt ps j ≤ n) (hj : j ≤ ps.length) (h2 : j = ps.length ∨ n < endAt ps (j + 1)) :
    allF ((cat ps).take n) = (ps.take j, endAt ps j, if n = endAt ps j then 0 else 2) := by
  have hpt : ∀ p ∈ ps.take j, p.length ≤ 1048576 := fun p h => hp p (List.mem_of_mem_take h)
  by_cases hlt : j < ps.length
  · have hn2 : n < endAt ps j + (ps[j].length + 8) := by
      rcases h2 with h2 | h2
      · omega
      · rw [endAt_succ hlt] at h2; exact h2
    have e : (cat ps).take n = cat (ps.take j) ++ (frameL ps[j] ++ cat (ps.drop (j + 1))).take (n - endAt ps j) := by
      rw [cat_split hlt, List.take_append, List.take_of_length_le (by unfold endAt at h1; exact h1)]
      rfl
    have hc := take_cut ps[j] (cat (ps.drop (j + 1))) (n - endAt ps j) (hp _ (List.getElem_mem hlt)) (by omega)
    rw [e, all_cat (ps.take j) _ hpt (.inr (by rw [hc]; omega)), hc]
    by_cases h0 : n = endAt ps j
    · rw [if_pos h0, if_pos (by rw [h0, Nat.sub_self]; rfl)]
      rfl
    · rw [if_neg h0, if_neg]
      · rfl
      · intro hnil
        have := congrArg List.length hnil
        rw [List.length_take, List.length_append, frameL_length] at this
        simp at this
        omega
  · have hjl : j = ps.length := by omega
    have he : endAt ps j = (cat ps).length := endAt_all (by omega)
    have e : (cat ps).take n = cat (ps.take j) ++ [] := by
      rw [List.take_of_length_le (by omega), List.append_nil, List.take_of_length_le (by omega)]
    rw [e, all_cat (ps.take j) [] hpt (.inl rfl), if_pos rfl, if_pos (by omega)]
    rfl
/-- frames of which a byte is turned -/
theorem all_turned {ps : List (List UInt8)} (hp : ∀ p ∈ ps, p.length ≤ 1048576) {k j : Nat} (hj : j < ps.length) (h1 : endAt ps j ≤ k) (h2 : k < endAt ps (j + 1)) {y : UInt8} (hy : y ≠ 0) :
    allF ((cat ps).set k ((cat ps).getD k 0 ^^^ y)) = (ps.take j, endAt ps j, 7) := by
  rw [endAt_succ hj] at h2
  have hs := cat_split hj
  have hla : (cat (ps.take j)).length = endAt ps j := rfl
  have hg : (cat ps).getD k 0 = (frameL ps[j]).getD (k - endAt ps j) 0 := by
    rw [hs, List.getD_eq_getElem?_getD, List.getElem?_append_right (by rw [hla]; exact h1), hla, List.getElem?_append_left (by rw [frameL_length]; omega), List.getD_eq_getElem?_getD]
  have e : (cat ps).set k ((cat ps).getD k 0 ^^^ y) = cat (ps.take j) ++ ((frameL ps[j]).set (k - endAt ps j) ((frameL ps[j]).getD (k - endAt ps j) 0 ^^^ y) ++ cat (ps.drop (j + 1))) := by
    rw [hg]
    conv => lhs; rw [hs]
    rw [List.set_append_right _ _ (by rw [hla]; exact h1), hla, List.set_append_left _ _ (by rw [frameL_length]; omega)]
  have ht := frame_turned ps[j] (cat (ps.drop (j + 1))) (hp _ (List.getElem_mem hj)) (i := k - endAt ps j) (by omega) hy
  rw [e, all_cat (ps.take j) _ (fun p h => hp p (List.mem_of_mem_take h)) (.inr (by rw [ht]; omega)), ht, if_neg]
  · rfl
  · intro hnil
    have := congrArg List.length hnil
    simp [frameL_length] at this
/-- the row of ends -/
def endsL (ps : List (List UInt8)) (k : Nat) : List Int := (List.range (k + 1)).map fun j => (endAt ps j : Int)
theorem endsL_len (ps : List (List UInt8)) (k : Nat) : (endsL ps k).length = k + 1 := by simp [endsL]
theorem endsL_get (ps : List (List UInt8)) {k j : Nat} (h : j ≤ k) : (endsL ps k)[j]? = some (endAt ps j : Int) := by
  simp [endsL, show j < k + 1 by omega]
theorem endsL_succ (ps : List (List UInt8)) (k : Nat) : endsL ps (k + 1) = endsL ps k ++ [(endAt ps (k + 1) : Int)] := by
  simp [endsL, List.range_succ]
end Frame
end Go.Proofs.Ythgpphedpegbgaa
