/-
  Records, one behind the other: which records any bytes have, and what is left of them when they are cut, and turned (plain lists; no program).
-/
import Derived.Test.YthgpphedpegbgaaFrameTurn
import Derived.Test.YthgpphedpegbgaaDiskPlain
namespace Go.Proofs.Ythgpphedpegbgaa
namespace Frame
/-! ### what any bytes tell -/
theorem takeE_inv {l : List UInt8} (h : takeE l = 0) : 4 ≤ l.length ∧ headL (lenOf l) = l.take 4 ∧ lenOf l ≤ 1048576 ∧ lenOf l + 8 ≤ l.length ∧ crcL ((l.take (lenOf l + 4)).drop 4) = (l.take (lenOf l + 8)).drop (lenOf l + 4) := by
  have h1 : ¬ l.length < 4 := fun x => by rw [takeE_short x] at h; exact absurd h (by omega)
  have h2 : headL (lenOf l) = l.take 4 := Classical.byContradiction fun x => by rw [takeE_head h1 x] at h; exact absurd h (by omega)
  have h3 : ¬ 1048576 < lenOf l := fun x => by rw [takeE_long h1 h2 x] at h; exact absurd h (by omega)
  have h4 : ¬ l.length < lenOf l + 8 := fun x => by rw [takeE_cut h1 h2 h3 x] at h; exact absurd h (by omega)
  have h5 : crcL ((l.take (lenOf l + 4)).drop 4) = (l.take (lenOf l + 8)).drop (lenOf l + 4) := Classical.byContradiction fun x => by rw [takeE_sum h1 h2 h3 h4 x] at h; exact absurd h (by omega)
  exact ⟨by omega, h2, by omega, by omega, h5⟩
/-- what is told of a frame is a frame -/
theorem take_inv {l : List UInt8} (h : takeE l = 0) : l.take (takeN l) = frameL (takeP l) ∧ takeN l = (takeP l).length + 8 ∧ (takeP l).length ≤ 1048576 ∧ takeN l ≤ l.length := by
  obtain ⟨h1, h2, h3, h4, h5⟩ := takeE_inv h
  have hN : takeN l = lenOf l + 8 := by unfold takeN; rw [if_pos h]
  have hP : takeP l = (l.take (lenOf l + 4)).drop 4 := by unfold takeP; rw [if_pos h]
  have hPl : (takeP l).length = lenOf l := by rw [hP, List.length_drop, List.length_take]; omega
  refine ⟨?_, by omega, by omega, by omega⟩
  have e1 : l.take (lenOf l + 4) = l.take 4 ++ (l.take (lenOf l + 4)).drop 4 := by
    conv => lhs; rw [← List.take_append_drop 4 (l.take (lenOf l + 4))]
    rw [List.take_take, Nat.min_eq_left (by omega)]
  have e2 : l.take (lenOf l + 8) = l.take (lenOf l + 4) ++ (l.take (lenOf l + 8)).drop (lenOf l + 4) := by
    conv => lhs; rw [← List.take_append_drop (lenOf l + 4) (l.take (lenOf l + 8))]
    rw [List.take_take, Nat.min_eq_left (by omega)]
  unfold frameL
  rw [hPl, hN, e2, ← h5, ← hP, h2]
  conv => lhs; rw [e1]
  rw [← hP]
theorem allGo_inv (l : List UInt8) : ∀ (f at_ : Nat) (out : List (List UInt8)), l.length < at_ + f → at_ ≤ l.length → l.take at_ = cat out → (∀ p ∈ out, p.length ≤ 1048576) →
    l.take (allGo l f at_ out).2.1 = cat (allGo l f at_ out).1 ∧ (allGo l f at_ out).2.1 ≤ l.length ∧ ∀ p ∈ (allGo l f at_ out).1, p.length ≤ 1048576
  | 0, at_, out, hf, ha, ht, hs => by omega
  | f + 1, at_, out, hf, ha, ht, hs => by
    rw [allGo]
    split
    · exact ⟨ht, ha, hs⟩
    · split
      · exact ⟨ht, ha, hs⟩
      · rename_i h1 h2
        obtain ⟨i1, i2, i3, i4⟩ := take_inv (Classical.not_not.1 h2)
        rw [List.length_drop] at i4
        refine allGo_inv l f _ _ (by omega) (by omega) ?_ fun p hp => ?_
        · rw [List.take_add, ht, i1, cat_append, cat_one]
        · rcases List.mem_append.1 hp with h | h
          · exact hs p h
          · rw [List.mem_singleton.1 h]; exact i3
theorem allF_inv (l : List UInt8) : l.take (allF l).2.1 = cat (allF l).1 ∧ (allF l).2.1 ≤ l.length ∧ ∀ p ∈ (allF l).1, p.length ≤ 1048576 :=
  allGo_inv l _ _ _ (by omega) (by omega) rfl (fun p hp => by cases hp)
/-- frames that are whole -/
theorem all_whole {ps : List (List UInt8)} (hp : ∀ p ∈ ps, p.length ≤ 1048576) : allF (cat ps) = (ps, (cat ps).length, 0) := by
  have := all_cat ps [] hp (.inl rfl)
  rwa [List.append_nil, if_pos rfl] at this
/-- which frames are whole below a mark -/
theorem at_of (ps : List (List UInt8)) (m : Nat) : ∃ j, j ≤ ps.length ∧ endAt ps j ≤ m ∧ (j = ps.length ∨ m < endAt ps (j + 1)) := by
  have key : ∀ d j, d = ps.length - j → j ≤ ps.length → endAt ps j ≤ m → ∃ j, j ≤ ps.length ∧ endAt ps j ≤ m ∧ (j = ps.length ∨ m < endAt ps (j + 1)) := by
    intro d
    induction d with
    | zero => intro j h1 h2 h3; exact ⟨j, h2, h3, .inl (by omega)⟩
    | succ d ih =>
      intro j h1 h2 h3
      rcases Nat.lt_or_ge m (endAt ps (j + 1)) with h | h
      · exact ⟨j, h2, h3, .inr h⟩
      · exact ih (j + 1) (by omega) (by omega) h
  exact key _ 0 rfl (Nat.zero_le _) (by rw [endAt_zero]; exact Nat.zero_le _)
theorem endAt_mono (ps : List (List UInt8)) {i j : Nat} (h : i ≤ j) : endAt ps i ≤ endAt ps j := by
  unfold endAt
  rw [show ps.take i = (ps.take j).take i by rw [List.take_take, Nat.min_eq_left h]]
  exact endAt_le (ps.take j) i
theorem endAt_lt {ps : List (List UInt8)} {i j : Nat} (h : i < j) (hj : j ≤ ps.length) : endAt ps i < endAt ps j := by
  have h1 := endAt_succ (ps := ps) (j := i) (by omega)
  have h2 := endAt_mono ps (show i + 1 ≤ j from h)
  omega
/-- a frame of which a byte is turned, and which is cut -/
theorem turned_cut (p q : List UInt8) (hp : p.length ≤ 1048576) {i r : Nat} (hi : i < p.length + 8) {y : UInt8} (hy : y ≠ 0) :
    takeE (((frameL p).set i ((frameL p).getD i 0 ^^^ y) ++ q).take r) ≠ 0 := by
  have hlen : ((frameL p).set i ((frameL p).getD i 0 ^^^ y)).length = p.length + 8 := by rw [List.length_set, frameL_length]
  by_cases hr : p.length + 8 ≤ r
  · rw [List.take_append, List.take_of_length_le (by omega), frame_turned p _ hp hi hy]
    omega
  · by_cases h4 : r < 4
    · rw [takeE_short (by rw [List.length_take]; omega)]
      omega
    · obtain ⟨s, rfl⟩ : ∃ s, r = s + 4 := ⟨r - 4, by omega⟩
      have htl : (((frameL p).set i ((frameL p).getD i 0 ^^^ y) ++ q).take (s + 4)).length = s + 4 := by rw [List.length_take, List.length_append, hlen]; omega
      by_cases hi4 : i < 4
      · suffices h : takeE (((frameL p).set i ((frameL p).getD i 0 ^^^ y) ++ q).take (s + 4)) = 7 by rw [h]; omega
        have hc := frame_cons p []
        rw [List.append_nil, List.append_nil] at hc
        rw [hc]
        match i, hi4 with
        | 0, _ =>
          simp only [List.set_cons_zero, List.getD_cons_zero, List.cons_append, List.take_succ_cons]
          refine head_turned fun e => ?_
          have e2 := xor_cancel (xor_cancel e)
          rw [← UInt8.xor_assoc] at e2
          exact xor_ne hy e2.symm
        | 1, _ =>
          simp only [List.set_cons_zero, List.set_cons_succ, List.getD_cons_zero, List.getD_cons_succ, List.cons_append, List.take_succ_cons]
          refine head_turned fun e => ?_
          have e2 := xor_cancel e
          rw [← UInt8.xor_assoc] at e2
          exact xor_ne hy e2.symm
        | 2, _ =>
          simp only [List.set_cons_zero, List.set_cons_succ, List.getD_cons_zero, List.getD_cons_succ, List.cons_append, List.take_succ_cons]
          refine head_turned fun e => ?_
          rw [← UInt8.xor_assoc] at e
          exact xor_ne hy e.symm
        | 3, _ =>
          simp only [List.set_cons_zero, List.set_cons_succ, List.getD_cons_zero, List.getD_cons_succ, List.cons_append, List.take_succ_cons]
          exact head_turned fun e => xor_ne hy e
      · have e : ((frameL p).set i ((frameL p).getD i 0 ^^^ y) ++ q).take (s + 4) = headL p.length ++ ((((p ++ crcL p).set (i - 4) ((frameL p).getD i 0 ^^^ y)) ++ q).take s) := by
          have hf : frameL p = headL p.length ++ (p ++ crcL p) := by simp [frameL]
          conv => lhs; rw [hf]
          rw [List.set_append_right _ _ (by rw [headL_length]; omega), headL_length, List.append_assoc, List.take_append, headL_length, List.take_of_length_le (by rw [headL_length]; omega), Nat.add_sub_cancel]
          rw [← hf]
        have hl : lenOf (headL p.length ++ ((((p ++ crcL p).set (i - 4) ((frameL p).getD i 0 ^^^ y)) ++ q).take s)) = p.length := by
          have := frame_len p q hp
          rw [frame_cons] at this
          simpa [headL, lenOf] using this
        rw [takeE_cut (by omega) (by rw [e, hl]; rfl) (by rw [e, hl]; omega) (by rw [htl, e, hl]; omega)]
        omega
end Frame
namespace Journal
open Go.Proofs.Ythgpphedpegbgaa.Frame
/-- a record: its kind, and what it has -/
abbrev Rec := UInt8 × List UInt8
def pay (r : Rec) : List UInt8 := r.1 :: r.2
/-- the bytes of records -/
def catR (rs : List Rec) : List UInt8 := cat (rs.map pay)
def readGo (en : Nat) (e : Int) : List (List UInt8) → Nat → List Rec → List Rec × Nat × Int
  | [], _, out => (out, en, e)
  | [] :: _, at_, out => (out, at_, 2)
  | (k :: d) :: ps, at_, out => readGo en e ps (at_ + (d.length + 9)) (out ++ [(k, d)])
def readF (l : List UInt8) : List Rec × Nat × Int := readGo (allF l).2.1 (allF l).2.2 (allF l).1 0 []
theorem readGo_pay (en : Nat) (e : Int) : ∀ (rs : List Rec) (at_ : Nat) (out : List Rec), readGo en e (rs.map pay) at_ out = (out ++ rs, en, e)
  | [], _, out => by simp [readGo]
  | r :: rs, at_, out => by
    show readGo en e ((r.1 :: r.2) :: rs.map pay) at_ out = _
    rw [readGo, readGo_pay en e rs]
    simp
theorem read_of {l : List UInt8} {rs : List Rec} {en : Nat} {e : Int} (h : allF l = (rs.map pay, en, e)) : readF l = (rs, en, e) := by
  unfold readF
  rw [h, readGo_pay]
  simp
def small (rs : List Rec) : Prop := ∀ p ∈ rs.map pay, p.length ≤ 1048576
theorem read_cat {rs : List Rec} (h : small rs) : readF (catR rs) = (rs, (catR rs).length, 0) := read_of (all_whole h)
/-- where the first j records end -/
def endR (rs : List Rec) (j : Nat) : Nat := endAt (rs.map pay) j
theorem endR_all (rs : List Rec) : endR rs rs.length = (catR rs).length := by
  unfold endR catR
  rw [endAt_all (by simp)]
theorem endR_take (rs : List Rec) (j : Nat) : endR rs j = (catR (rs.take j)).length := by
  unfold endR endAt catR
  rw [List.map_take]
theorem readGo_inv (en : Nat) (e : Int) : ∀ (ps : List (List UInt8)) (at_ : Nat) (out : List Rec), ∃ rs : List Rec, (readGo en e ps at_ out).1 = out ++ rs ∧
    ((ps = rs.map pay ∧ (readGo en e ps at_ out).2 = (en, e)) ∨ (∃ qs, ps = rs.map pay ++ qs) ∧ (readGo en e ps at_ out).2 = (at_ + (catR rs).length, 2))
  | [], at_, out => ⟨[], by simp [readGo], .inl ⟨rfl, rfl⟩⟩
  | [] :: ps, at_, out => ⟨[], by simp [readGo], .inr ⟨⟨[] :: ps, rfl⟩, by simp [readGo, catR, cat]⟩⟩
  | (k :: d) :: ps, at_, out => by
    obtain ⟨rs, h1, h2⟩ := readGo_inv en e ps (at_ + (d.length + 9)) (out ++ [(k, d)])
    refine ⟨(k, d) :: rs, by rw [readGo, h1]; simp, ?_⟩
    rcases h2 with ⟨h2, h3⟩ | ⟨⟨qs, h2⟩, h3⟩
    · exact .inl ⟨by rw [h2]; rfl, by rw [readGo, h3]⟩
    · refine .inr ⟨⟨qs, by rw [h2]; rfl⟩, ?_⟩
      rw [readGo, h3]
      have : (catR ((k, d) :: rs)).length = (d.length + 9) + (catR rs).length := by
        unfold catR
        rw [List.map_cons, show cat (pay (k, d) :: rs.map pay) = frameL (pay (k, d)) ++ cat (rs.map pay) from rfl, List.length_append, frameL_length]
        simp [pay]
      rw [this]
      congr 1
      omega
/-- what is left of bytes that are read is read once more -/
theorem read_inv (l : List UInt8) : l.take (readF l).2.1 = catR (readF l).1 ∧ (readF l).2.1 ≤ l.length ∧ small (readF l).1 := by
  obtain ⟨h1, h2, h3⟩ := allF_inv l
  obtain ⟨rs, e1, h⟩ := readGo_inv (allF l).2.1 (allF l).2.2 (allF l).1 0 []
  change (readF l).1 = _ at e1
  rw [List.nil_append] at e1
  rw [e1]
  rcases h with ⟨h4, h5⟩ | ⟨⟨qs, h4⟩, h5⟩
  · change (readF l).2 = _ at h5
    rw [h5]
    refine ⟨by rw [h1, h4]; rfl, h2, ?_⟩
    unfold small
    rw [← h4]
    exact h3
  · change (readF l).2 = _ at h5
    rw [h5]
    simp only [Nat.zero_add]
    have hle : (catR rs).length ≤ (allF l).2.1 := by
      have := congrArg List.length h1
      rw [List.length_take, h4, cat_append, List.length_append] at this
      unfold catR
      omega
    refine ⟨?_, by omega, fun p hp => h3 p (by rw [h4]; exact List.mem_append_left _ hp)⟩
    have := congrArg (List.take (catR rs).length) h1
    rw [List.take_take, Nat.min_eq_left hle, h4, cat_append] at this
    rw [this]
    exact List.take_left
theorem read_again (l : List UInt8) : readF (l.take (readF l).2.1) = ((readF l).1, (readF l).2.1, 0) := by
  obtain ⟨h1, h2, h3⟩ := read_inv l
  have hl : (catR (readF l).1).length = (readF l).2.1 := by rw [← h1, List.length_take]; omega
  rw [h1, read_cat h3, hl]
/-- of records behind a crash some of the first are left -/
theorem read_crash {rs : List Rec} (hs : small rs) {n : Nat} (hn : n ≤ rs.length) (keep at_ : Int) (y : UInt8) : ∃ (j : Nat) (e : Int), n ≤ j ∧ j ≤ rs.length ∧
    readF (Disk.crashF ⟨catR rs, endR rs n⟩ keep at_ y).b = (rs.take j, endR rs j, e) := by
  have hml : (rs.map pay).length = rs.length := by simp
  have hkl := Disk.keepN_le ⟨catR rs, endR rs n⟩ keep
  have hel : endR rs n ≤ (catR rs).length := endAt_le _ _
  have hcut : ∀ m, endR rs n ≤ m → m ≤ (catR rs).length → ∃ (j : Nat) (e : Int), n ≤ j ∧ j ≤ rs.length ∧ readF ((catR rs).take m) = (rs.take j, endR rs j, e) := fun m h1 h2 => by
    obtain ⟨j, hj, h3, h4⟩ := at_of (rs.map pay) m
    have hc := all_cut hs h2 h3 hj h4
    refine ⟨j, _, ?_, by omega, read_of (by rw [List.map_take]; exact hc)⟩
    rcases h4 with h4 | h4
    · omega
    · rcases Nat.lt_or_ge j n with h | h
      · have := endAt_mono (rs.map pay) (show j + 1 ≤ n from h)
        unfold endR at h1
        omega
      · exact h
  unfold Disk.crashF
  simp only
  simp only at hkl
  generalize Disk.keepN ⟨catR rs, endR rs n⟩ keep = k at *
  unfold Disk.crashB
  by_cases hin : 0 ≤ at_ ∧ at_ < k
  · rw [if_pos hin]
    simp only
    obtain ⟨q, rfl⟩ := Int.eq_ofNat_of_zero_le hin.1
    rw [Int.toNat_natCast]
    unfold Disk.turn
    by_cases hy : y = 0
    · subst hy
      have : (catR rs).set (endR rs n + q) ((catR rs).getD (endR rs n + q) 0 ^^^ 0) = catR rs := by
        rw [UInt8.xor_zero]
        refine List.ext_getElem? fun i => ?_
        rw [List.getElem?_set]
        split
        · rename_i h
          subst h
          split
          · rename_i h
            simp [List.getD_eq_getElem?_getD, h]
          · rename_i h
            rw [List.getElem?_eq_none (by omega)]
        · rfl
      rw [this]
      exact hcut _ (by omega) (by omega)
    · obtain ⟨j, hj, h3, h4⟩ := at_of (rs.map pay) (endR rs n + q)
      have hjl : j < (rs.map pay).length := by
        rcases h4 with h4 | h4
        · have := endAt_all (ps := rs.map pay) (j := j) (by omega)
          have e : (cat (rs.map pay)).length = (catR rs).length := rfl
          omega
        · rcases Nat.lt_or_ge j (rs.map pay).length with h | h
          · exact h
          · have := endAt_all (ps := rs.map pay) (j := j) h
            have e : (cat (rs.map pay)).length = (catR rs).length := rfl
            omega
      have h4' : endR rs n + q < endAt (rs.map pay) (j + 1) := by
        rcases h4 with h4 | h4
        · omega
        · exact h4
      have h5 := h4'
      rw [endAt_succ hjl] at h5
      have hnj : n ≤ j := by
        rcases Nat.lt_or_ge j n with h | h
        · have := endAt_mono (rs.map pay) (show j + 1 ≤ n from h)
          have e : endAt (rs.map pay) n = endR rs n := rfl
          omega
        · exact h
      refine ⟨j, _, hnj, by omega, read_of (l := _) (e := takeE (((frameL (rs.map pay)[j]).set (endR rs n + q - endAt (rs.map pay) j) ((frameL (rs.map pay)[j]).getD (endR rs n + q - endAt (rs.map pay) j) 0 ^^^ y) ++ cat ((rs.map pay).drop (j + 1))).take (endR rs n + k - endAt (rs.map pay) j))) ?_⟩
      have hsp := cat_split hjl
      have hla : (cat ((rs.map pay).take j)).length = endAt (rs.map pay) j := rfl
      have hg : (catR rs).getD (endR rs n + q) 0 = (frameL (rs.map pay)[j]).getD (endR rs n + q - endAt (rs.map pay) j) 0 := by
        unfold catR
        rw [hsp, List.getD_eq_getElem?_getD, List.getElem?_append_right (by rw [hla]; exact h3), hla, List.getElem?_append_left (by rw [frameL_length]; omega), List.getD_eq_getElem?_getD]
      have hne := turned_cut (rs.map pay)[j] (cat ((rs.map pay).drop (j + 1))) (hs _ (List.getElem_mem hjl)) (i := endR rs n + q - endAt (rs.map pay) j) (r := endR rs n + k - endAt (rs.map pay) j) (by omega) hy
      rw [hg]
      generalize ((frameL (rs.map pay)[j]).getD (endR rs n + q - endAt (rs.map pay) j) 0 ^^^ y) = z at *
      have e : ((catR rs).set (endR rs n + q) z).take (endR rs n + k) = cat ((rs.map pay).take j) ++ ((frameL (rs.map pay)[j]).set (endR rs n + q - endAt (rs.map pay) j) z ++ cat ((rs.map pay).drop (j + 1))).take (endR rs n + k - endAt (rs.map pay) j) := by
        unfold catR
        conv => lhs; rw [hsp]
        rw [List.set_append_right _ _ (by rw [hla]; exact h3), hla, List.set_append_left _ _ (by rw [frameL_length]; omega), List.take_append, List.take_of_length_le (by rw [hla]; omega), hla]
      rw [e, all_cat ((rs.map pay).take j) _ (fun p h => hs p (List.mem_of_mem_take h)) (.inr hne), if_neg]
      · rw [List.map_take]
        rfl
      · intro hnil
        have := congrArg List.length hnil
        rw [List.length_take, List.length_append, List.length_set, frameL_length] at this
        simp at this
        omega
  · rw [if_neg hin]
    exact hcut _ (by omega) (by omega)
/-- of synced records of which a byte is turned none is recovered -/
theorem read_spoilt {rs : List Rec} (hs : small rs) {k : Nat} (hk : k < (catR rs).length) {y : UInt8} (hy : y ≠ 0) : (readF (Disk.turn (catR rs) k y)).2.2 = 7 ∧ (readF (Disk.turn (catR rs) k y)).2.1 < (catR rs).length := by
  obtain ⟨j, hj, h3, h4⟩ := at_of (rs.map pay) k
  have hjl : j < (rs.map pay).length := by
    rcases Nat.lt_or_ge j (rs.map pay).length with h | h
    · exact h
    · have := endAt_all (ps := rs.map pay) (j := j) h
      have e : (cat (rs.map pay)).length = (catR rs).length := rfl
      omega
  have h4' : k < endAt (rs.map pay) (j + 1) := by
    rcases h4 with h4 | h4
    · omega
    · exact h4
  have ht := all_turned hs hjl h3 h4' hy
  rw [← List.map_take] at ht
  rw [show readF (Disk.turn (catR rs) k y) = (rs.take j, endAt (rs.map pay) j, 7) from read_of ht]
  exact ⟨rfl, by simp only; omega⟩
theorem turn_zero (l : List UInt8) (k : Nat) : Disk.turn l k 0 = l := by
  unfold Disk.turn
  rw [UInt8.xor_zero]
  refine List.ext_getElem? fun i => ?_
  rw [List.getElem?_set]
  split
  · rename_i h
    subst h
    split
    · rename_i h
      simp [List.getD_eq_getElem?_getD, h]
    · rename_i h
      rw [List.getElem?_eq_none (by omega)]
  · rfl
end Journal
end Go.Proofs.Ythgpphedpegbgaa
