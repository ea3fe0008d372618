/-
  Chapter 11's own helpers: few and laid (no condition).
-/
import Derived.Test.YthgpphedpegbgaaJournalLaw
import Derived.Test.YthgpphedpegbgaaInts
import Derived.Test.YthgpphedpegbgaaOpen
namespace Go.Proofs.Ythgpphedpegbgaa
open Go.ChangeShapes Go.WideShapes Go.RowKit Go.Deep
namespace Journal
open Go.Proofs.Ythgpphedpegbgaa.Frame (Part Parts PartsL Part.chg Part.new)
open Go.Proofs.Ythgpphedpegbgaa.Disk (Dsk At Post Foot ptr)
attribute [local go_sem ↓] loadOnly0
/-- element i of records, read: its kind, its bytes as a string -/
theorem RecsR.at_ {w : World} {A : Option Addr} {n c : Nat} {rs : List Rec} (h : RecsR w (.slice A n c) rs) {i : Nat} {r : Rec} (hi : rs[i]? = some r) : ∃ ad u, A = some ad ∧ ∀ W, New w W → W.cell? (ad.add (i * 2)) = some (.int .u8 (r.1.toNat : Int)) ∧
    W.cell? (ad.add (i * 2 + 1)) = some u ∧ (convert 36 9 u).run Try.prog W = .ok (.string ⟨r.2.toArray⟩) W := by
  obtain ⟨A', c', hv, _, hr⟩ := h.ex
  injection hv with h1 h2 h3
  subst h1
  obtain ⟨ad, A3, c3, rfl, _, hall⟩ := hr i r hi
  refine ⟨ad, .slice A3 r.2.length c3, rfl, fun W hW => ?_⟩
  obtain ⟨_, a1, a2, a3⟩ := hall W hW
  exact ⟨a1, a2, run_str Try.underlying36 Try.underlying5 Try.underlying9 a3 c3⟩
def few100 (rs : List Rec) : Prop := rs.length ≤ 20 ∧ ∀ r ∈ rs, r.2.length ≤ 100
theorem few100.few {rs : List Rec} (h : few100 rs) : few rs := ⟨by have := h.1; omega, fun r hr => by have := h.2 r hr; omega⟩
set_option maxHeartbeats 4000000 in
theorem few_ (w : World) (v : Value) (rs : List Rec) (h : RecsR w v rs) (hn47 : rs.length ≤ 140737488351232) :
    Calls Try.prog 8 #[v] w fun e w' => ∃ b, e = .returned (.bool b) ∧ (b = true → few100 rs) ∧ New w w' := by
  obtain ⟨A, c, rfl, hnc, hrec⟩ := h.ex
  obtain ⟨n, hn⟩ : ∃ n, rs.length = n := ⟨_, rfl⟩
  rw [hn] at hnc hn47 ⊢
  have HN := Lib.hid hn
  have HREC := Lib.hid hrec
  clear h hn hrec
  go_enter Try.func8, Try.ntmps8
  go_wp2_with fail
  go_loopw [2, 4, 7] (fun _ _ i wr => ∃ (k : Nat), k ≤ n ∧ i = .int .i64 k ∧ (∀ r ∈ rs.take k, r.2.length ≤ 100) ∧ New w wr) (fun _ _ i _ => n - (intOf i).toNat)
  case atStart => exact ⟨0, by omega, rfl, fun r hr => by simp at hr, Chg.refl _ _⟩
  case round =>
    obtain ⟨k, hk, rfl, h100, hnw⟩ := hrel
    have H100 := Lib.hid h100
    clear h100
    by_cases hlt : k < n
    · obtain ⟨r, hr⟩ : ∃ r, rs[k]? = some r := ⟨_, List.getElem?_eq_getElem (by rw [HN.out]; exact hlt)⟩
      have HT := Lib.hid (take_one hr)
      obtain ⟨ad, A3, c3, rfl, hl3, hall⟩ := HREC.out k r hr
      have hld := (hall wr hnw).1
      obtain ⟨kind, data⟩ := r
      simp only at hl3 hld
      have hm := hnw.alloc (.cells #[.int .u8 (kind.toNat : Int), .slice A3 data.length c3] 39)
      have HM := Lib.hid hm
      clear hall hr hm
      by_cases h1 : 100 < (data.length : Int)
      · generalize data.length = n3 at *
        go_wp2_with fail
        go_ret
        exact ⟨false, rfl, (fun h => by cases h), HM.out⟩
      · have H100' := Lib.hid (show ∀ q ∈ rs.take (k + 1), q.2.length ≤ 100 from fun q hq => by
          rw [HT.out] at hq
          rcases List.mem_append.1 hq with h | h
          · exact H100.out q h
          · rw [List.mem_singleton.1 h]; simp only; omega)
        generalize data.length = n3 at *
        go_wp2_with fail
        go_roundw
        case rel => exact ⟨k + 1, by omega, by go_num, H100'.out, HM.out⟩
        case measure => simp [intOf]; omega
    · obtain rfl : k = n := by omega
      have htk : rs.take k = rs := List.take_of_length_le (by have := HN.out; omega)
      have h100 := H100.out
      rw [htk] at h100
      have H := Lib.hid h100
      clear htk h100
      go_wp2_with fail
      go_ret
      refine ⟨_, rfl, fun h => ⟨?_, H.out⟩, hnw⟩
      rw [HN.out]
      have := of_decide_eq_true h
      omega
/-- how much is synced behind k records, if record s comes behind a sync -/
def mark (rs : List Rec) (s k : Nat) : Nat := if k ≤ s then 0 else endR rs s
theorem mark_sync {rs : List Rec} {s : Nat} : mark rs s (s + 1) = (catR (rs.take s)).length := by
  unfold mark
  rw [if_neg (by omega), endR_take]
theorem mark_step {rs : List Rec} {s k : Nat} (h : k ≠ s) : mark rs s (k + 1) = mark rs s k := by
  unfold mark
  by_cases h1 : k ≤ s
  · rw [if_pos h1, if_pos (by omega)]
  · rw [if_neg h1, if_neg (by omega)]
theorem writeF_few {rs : List Rec} (hf : few rs) {k : Nat} {r : Rec} (h : rs[k]? = some r) (m : Nat) : Disk.writeF ⟨catR (rs.take k), m⟩ (catR [r]) = ⟨catR (rs.take (k + 1)), m⟩ := by
  have h1 := few_len (few_take hf (k + 1))
  rw [take_one h, catR_append, List.length_append] at h1
  unfold Disk.writeF
  rw [if_neg (by simp only; omega), take_one h, catR_append]
theorem load_rec {W : World} {g : Nat} {a c : Value} (h : Blk W g 39 #[a, c]) : (LoadRow 39 ⟨g, 0, none⟩).run Try.prog W = .ok (.agg #[a, c]) W := load_blk h
set_option maxHeartbeats 8000000 in
theorem laid (w : World) (v : Value) (rs : List Rec) (s : Nat) (h : RecsR w v rs) (hf : few100 rs) (hs : s ≤ 140737488351232) :
    Calls Try.prog 9 #[v, .int .i64 (s : Int)] w fun e w' => ∃ b vd ve, e = .returned (.tuple #[ptr b, ve]) ∧ At w' w.heap.size b vd ⟨catR rs, endR rs (min s rs.length)⟩ ∧ OwnI w' w.heap.size ve (Frame.endsL (rs.map pay) rs.length) ∧ New w w' := by
  obtain ⟨A, c, rfl, hnc, hrec⟩ := h.ex
  obtain ⟨n, hn⟩ : ∃ n, rs.length = n := ⟨_, rfl⟩
  have hn20 := hf.1
  rw [hn] at hnc hn20 ⊢
  have HN := Lib.hid hn
  have HREC := Lib.hid hrec
  have HF := Lib.hid hf
  clear h hn hrec hf
  go_enter Try.func9, Try.ntmps9
  go_wp2_with fail
  refine (Disk.new_ w).mono ?_
  rintro e w1 ⟨rfl, h1, n1⟩
  have hs1 := n1.size
  have H1 := Lib.hid (And.intro h1 n1)
  clear h1 n1
  obtain ⟨b, hb⟩ : ∃ b, w.heap.size = b := ⟨_, rfl⟩
  have HBW := Lib.hid hb
  rw [hb] at H1 ⊢
  go_wp2_with fail
  go_loopw [7, 8, 9, 14] (fun e0 _ _ i wr => ∃ (k : Nat) (ve vd : Value), ve = e0 ∧ k ≤ n ∧ i = .int .i64 k ∧ At wr b b vd ⟨catR (rs.take k), mark rs s k⟩ ∧ OwnI wr b ve (Frame.endsL (rs.map pay) k) ∧ New w wr) (fun _ _ _ i _ => n - (intOf i).toNat)
  case atStart =>
    refine ⟨0, _, .slice none 0 0, rfl, by omega, rfl, ?_, ?_, H1.out.2.alloc _⟩
    · have := H1.out.1.new ((Chg.refl (fun _ => False) w1).alloc (.cells #[.int .i64 0] 3))
      exact this
    · have := World.ownsRow_lit (e := 3) (size := 1) (base := b) w1 (ints [0]).toArray 1 (by omega) (by simp [maxLen]) (by simp [ints])
      unfold OwnI
      simpa [Frame.endsL, Frame.endAt_zero, ints, List.range_succ] using this
  case round =>
    obtain ⟨k, ve, vd, rfl, hk, rfl, hat, hends, hnw⟩ := hrel
    by_cases hlt : k < n
    · obtain ⟨r, hr⟩ : ∃ r, rs[k]? = some r := ⟨_, List.getElem?_eq_getElem (by rw [HN.out]; exact hlt)⟩
      have hrl := HF.out.2 r (List.mem_of_getElem? hr)
      obtain ⟨ad, A3, c3, rfl, hl3, hall⟩ := HREC.out k r hr
      obtain ⟨kind, data⟩ := r
      simp only at hrl hl3 hall
      have hld := (hall wr hnw).1
      have HR := Lib.hid (fun W hW => (hall W hW).2.2.2)
      have HALL := Lib.hid hall
      have m1 := (Chg.refl (fun _ => False) wr).alloc (.cells #[.int .u8 (kind.toNat : Int), .slice A3 data.length c3] 39)
      have hbx := Blk.new wr 39 #[.int .u8 (kind.toNat : Int), .slice A3 data.length c3]
      have hat1 := hat.new m1
      have hne1 := own_chg hends m1 fun _ _ => id
      have hn1 := hnw.trans m1 fun _ _ => id
      have hlow := hat.low
      have HW := Lib.hid (writeF_few HF.out.few hr)
      have hend : (catR (rs.take (k + 1))).length = Frame.endAt (rs.map pay) (k + 1) := (endR_take rs (k + 1)).symm
      have hcl := few_len (few_take HF.out.few (k + 1))
      rw [hend] at hcl
      have HEND := Lib.hid hend
      have bbx : b ≠ wr.heap.size := by have := hat.blk.lt; omega
      have vbx : vd.ownBlock ≠ some wr.heap.size := fun e => by have := (own_lt hat.own e).2; omega
      clear hall hr hat hends hnw hend m1
      obtain ⟨n3, hn3⟩ : ∃ n3, data.length = n3 := ⟨_, rfl⟩
      rw [hn3] at hrl hl3 hld HR HALL hbx hat1 hne1 hn1
      have HN3 := Lib.hid hn3
      clear hn3
      have HVE := Lib.hid (show ve.ownBlock ≠ some b from own_ne hne1 hat1.blk (by decide))
      have HVD := Lib.hid (fun g (hg : ve.ownBlock = some g) => own_own hne1 hat1.own (by decide) hg)
      by_cases hks : (k : Int) = s
      · obtain rfl : k = s := by omega
        clear hks
        have C := Disk.sync _ _ _ _ _ hat1
        rw [show Disk.syncF ⟨catR (rs.take k), mark rs k k⟩ = ⟨catR (rs.take k), mark rs k (k + 1)⟩ by
          unfold Disk.syncF
          rw [mark_sync]] at C
        have C := Lib.hid C
        have HH := Lib.hid (And.intro hat1 (And.intro hne1 (And.intro hn1 hbx)))
        have HL := Lib.hid (fun W hW => (HALL.out W hW).1)
        clear hat1 hne1 hn1 hbx
        go_wp2_with fail
        refine C.out.mono ?_
        rintro e w3 ⟨rfl, h3, u3⟩
        have e3 := own_chg HH.out.2.1 u3 fun g hg e => HVE.out (e ▸ hg)
        have n3' := HH.out.2.2.1.trans u3 fun g hg e => by have := HBW.out; omega
        have b3 := HH.out.2.2.2.chg u3 fun e => bbx e.symm
        clear C u3 HH HL
        have hld3 := load_rec b3
        have C := append w3 b b vd _ h3 kind A3 n3 c3 data _ (HR.out w3 n3') (fun g hg => Nat.lt_of_lt_of_le hg n3'.size) hl3 (by omega)
        rw [HW.out] at C
        have C := Lib.hid C
        have vlo := fun g (hg : vd.ownBlock = some g) => (own_lt h3.own hg).1
        have E3 := Lib.hid (And.intro e3 (And.intro n3' vlo))
        clear h3 e3 n3' b3 vlo
        go_wp2_with fail
        refine C.out.mono ?_
        rintro e w4 ⟨rfl, vd4, h4, c4, k4⟩
        have e4 := own_chg E3.out.1 c4 fun g hg e => e.elim (fun e => HVE.out (e ▸ hg)) fun e => HVD.out g hg e
        have n4 := E3.out.2.1.trans c4 fun g hg e => by
          have hbw := HBW.out
          rcases e with e | e
          · omega
          · have := E3.out.2.2 g e; omega
        have hve4 : ve.ownBlock ≠ some b := HVE.out
        have CB := Lib.hid (Disk.bytes _ _ _ _ _ h4)
        have E4 := Lib.hid (And.intro h4 (And.intro e4 n4))
        clear C c4 k4 h4 e4 n4 hve4 hld3
        go_wp2_with fail
        refine CB.out.mono ?_
        rintro e w5 ⟨u5, rfl, o5, n5⟩
        obtain ⟨A5, c5, rfl, _, _, _, _⟩ := OwnB.form o5
        rw [HEND.out]
        have h5 := E4.out.1.new n5
        have e5 := own_chg E4.out.2.1 n5 fun _ _ => id
        have n5' := E4.out.2.2.trans n5 fun _ _ => id
        have ne5 := fun g (hg : ve.ownBlock = some g) => own_own e5 h5.own (by decide) hg
        have hsz := n5'.size
        have hbw := HBW.out
        have E5 := Lib.hid (And.intro h5 (And.intro e5 (And.intro n5' ne5)))
        clear o5 n5 h5 e5 n5' ne5 CB
        go_wp2_with (at_builtin; refine stop ?_)
        delta Stop
        refine append_i64 _ rfl _ _ rfl b _ (Frame.endsL (rs.map pay) k) rfl (World.ownsRow.alloc E5.out.2.1 _) _ _ _ _ [(Frame.endAt (rs.map pay) (k + 1) : Int)] rfl (Reads.of_row (n := 1) (size := 1) (heap_alloc_new w5 _) (by simp)) (by rw [Frame.endsL_len]; omega) (by simp; omega) ?_
        intro v6 w6 o6 g6 a6
        rw [← Frame.endsL_succ] at o6
        have hat6 := (E5.out.1.new ((Chg.refl (fun _ => False) w5).alloc (.cells #[.int .i64 (Frame.endAt (rs.map pay) (k + 1) : Int)] 3))).chg ((Chg.refl (fun g => ve.ownBlock = some g) _).grown g6 fun g e _ => e) (fun e => HVE.out e) (fun g hg e => E5.out.2.2.2 g e hg)
        have n6 := (E5.out.2.2.1.alloc (.cells #[.int .i64 (Frame.endAt (rs.map pay) (k + 1) : Int)] 3)).grown g6 fun g e hlt => by have := (own_lt E5.out.2.1 e).1; omega
        have H6 := Lib.hid (And.intro hat6 (And.intro o6 n6))
        clear hat6 o6 n6 g6 a6
        go_wp2_with fail
        go_roundw
        case rel => exact ⟨k + 1, v6, vd4, rfl, by omega, by go_num, H6.out.1, H6.out.2.1, H6.out.2.2⟩
        case measure => simp [intOf]; omega
      · have hmk := mark_step (rs := rs) (s := s) (k := k) (by omega)
        rw [← hmk] at hat1
        have hkf : ((k : Int) == s) = false := by simpa using hks
        clear hmk
        have h3 := hat1
        have e3 := hne1
        have n3' := hn1
        have b3 := hbx
        clear hat1 hne1 hn1 hbx
        have hld3 := load_rec b3
        have C := append (wr.alloc (.cells #[.int .u8 (kind.toNat : Int), .slice A3 n3 c3] 39)) b b vd _ h3 kind A3 n3 c3 data _ (HR.out _ n3') (fun g hg => Nat.lt_of_lt_of_le hg n3'.size) hl3 (by omega)
        rw [HW.out] at C
        have C := Lib.hid C
        have vlo := fun g (hg : vd.ownBlock = some g) => (own_lt h3.own hg).1
        have E3 := Lib.hid (And.intro e3 (And.intro n3' vlo))
        clear h3 e3 n3' b3 vlo
        go_wp2_with fail
        refine C.out.mono ?_
        rintro e w4 ⟨rfl, vd4, h4, c4, k4⟩
        have e4 := own_chg E3.out.1 c4 fun g hg e => e.elim (fun e => HVE.out (e ▸ hg)) fun e => HVD.out g hg e
        have n4 := E3.out.2.1.trans c4 fun g hg e => by
          have hbw := HBW.out
          rcases e with e | e
          · omega
          · have := E3.out.2.2 g e; omega
        have hve4 : ve.ownBlock ≠ some b := HVE.out
        have CB := Lib.hid (Disk.bytes _ _ _ _ _ h4)
        have E4 := Lib.hid (And.intro h4 (And.intro e4 n4))
        clear C c4 k4 h4 e4 n4 hve4 hld3
        go_wp2_with fail
        refine CB.out.mono ?_
        rintro e w5 ⟨u5, rfl, o5, n5⟩
        obtain ⟨A5, c5, rfl, _, _, _, _⟩ := OwnB.form o5
        rw [HEND.out]
        have h5 := E4.out.1.new n5
        have e5 := own_chg E4.out.2.1 n5 fun _ _ => id
        have n5' := E4.out.2.2.trans n5 fun _ _ => id
        have ne5 := fun g (hg : ve.ownBlock = some g) => own_own e5 h5.own (by decide) hg
        have hsz := n5'.size
        have hbw := HBW.out
        have E5 := Lib.hid (And.intro h5 (And.intro e5 (And.intro n5' ne5)))
        clear o5 n5 h5 e5 n5' ne5 CB
        go_wp2_with (at_builtin; refine stop ?_)
        delta Stop
        refine append_i64 _ rfl _ _ rfl b _ (Frame.endsL (rs.map pay) k) rfl (World.ownsRow.alloc E5.out.2.1 _) _ _ _ _ [(Frame.endAt (rs.map pay) (k + 1) : Int)] rfl (Reads.of_row (n := 1) (size := 1) (heap_alloc_new w5 _) (by simp)) (by rw [Frame.endsL_len]; omega) (by simp; omega) ?_
        intro v6 w6 o6 g6 a6
        rw [← Frame.endsL_succ] at o6
        have hat6 := (E5.out.1.new ((Chg.refl (fun _ => False) w5).alloc (.cells #[.int .i64 (Frame.endAt (rs.map pay) (k + 1) : Int)] 3))).chg ((Chg.refl (fun g => ve.ownBlock = some g) _).grown g6 fun g e _ => e) (fun e => HVE.out e) (fun g hg e => E5.out.2.2.2 g e hg)
        have n6 := (E5.out.2.2.1.alloc (.cells #[.int .i64 (Frame.endAt (rs.map pay) (k + 1) : Int)] 3)).grown g6 fun g e hlt => by have := (own_lt E5.out.2.1 e).1; omega
        have H6 := Lib.hid (And.intro hat6 (And.intro o6 n6))
        clear hat6 o6 n6 g6 a6
        go_wp2_with fail
        go_roundw
        case rel => exact ⟨k + 1, v6, vd4, rfl, by omega, by go_num, H6.out.1, H6.out.2.1, H6.out.2.2⟩
        case measure => simp [intOf]; omega
    · obtain rfl : k = n := by omega
      have htk : rs.take k = rs := List.take_of_length_le (by have := HN.out; omega)
      rw [htk] at hat
      by_cases hsn : k ≤ s
      · have C := Disk.sync _ _ _ _ _ hat
        rw [show Disk.syncF ⟨catR rs, mark rs s k⟩ = ⟨catR rs, endR rs (min s k)⟩ by
          unfold Disk.syncF
          rw [Nat.min_eq_right hsn, ← HN.out, endR_all]] at C
        have C := Lib.hid C
        have HH := Lib.hid (And.intro hat (And.intro hends hnw))
        have hge : ((s : Int) < k) = False := by simp; omega
        clear hat hends hnw htk
        go_wp2_with fail
        refine C.out.mono ?_
        rintro e w3 ⟨rfl, h3, u3⟩
        have hfin : OwnI w3 b ve (Frame.endsL (rs.map pay) k) ∧ New w w3 := ⟨own_chg HH.out.2.1 u3 fun g hg e => own_ne HH.out.2.1 HH.out.1.blk (by decide) (e ▸ hg), HH.out.2.2.trans u3 fun g hg e => by omega⟩
        have HH3 := Lib.hid (And.intro h3 hfin)
        clear h3 hfin u3
        go_wp2
        go_ret2
        exact ⟨b, vd, ve, rfl, by rw [HBW.out]; exact HH3.out.1, by rw [HBW.out]; exact HH3.out.2.1, HH3.out.2.2⟩
      · have hmk : mark rs s k = endR rs (min s k) := by
          unfold mark
          rw [if_neg hsn, Nat.min_eq_left (by omega)]
        rw [hmk] at hat
        have HH := Lib.hid (And.intro hat (And.intro hends hnw))
        clear hat hends hnw htk hmk
        go_wp2_with fail
        go_ret2
        exact ⟨b, vd, ve, rfl, by rw [HBW.out]; exact HH.out.1, by rw [HBW.out]; exact HH.out.2.1, HH.out.2.2⟩
theorem few100.small {rs : List Rec} (h : few100 rs) : small rs := fun p hp => by
  obtain ⟨r, hr, rfl⟩ := List.mem_map.1 hp
  have := h.2 r hr
  simp [pay]
  omega
theorem cat_pos {rs : List Rec} (h : 0 < rs.length) : 0 < (catR rs).length := by
  match rs, h with
  | r :: rs, _ =>
    rw [show r :: rs = [r] ++ rs from rfl, catR_append, List.length_append, catR_one, Frame.frameL_length]
    simp
    omega
theorem ends_at {w : World} {base : Nat} {E : Value} {rs : List Rec} (h : OwnI w base E (Frame.endsL (rs.map pay) rs.length)) : ∃ g c, E = .slice (some ⟨g, 0, none⟩) (rs.length + 1) c ∧ ∀ W, New w W → ∀ j, j ≤ rs.length → W.cell? ⟨g, j, none⟩ = some (.int .i64 (endR rs j : Int)) := by
  obtain ⟨g, c, rfl, hb, hg⟩ := World.ownsRow.form h (by rw [Frame.endsL_len]; omega)
  refine ⟨g, c, by rw [Frame.endsL_len], fun W hW j hj => ?_⟩
  have hc := World.ownsRow.cellAt h j (by rw [Frame.endsL_len]; omega)
  rw [show (ints (Frame.endsL (rs.map pay) rs.length))[j]? = some (.int .i64 (endR rs j : Int)) by rw [ints_get, Frame.endsL_get _ hj]; rfl] at hc
  exact (hW.cell (block_lt_of_cell hc) id).trans hc
theorem up_foot {W : World} {lo b : Nat} {v : Value} {d : Dsk} (h : At W lo b v d) {k : Nat} (e : Foot b v k) : lo ≤ k := by
  rcases e with e | e
  · rw [e]; exact h.low
  · exact (own_lt h.own e).1
section
variable {H : Type} {enc : TypeId × Value → H} {w : World} {base : Nat} {held : Bool}
/-- an argument []journal.Record -/
theorem open_recs {v : Value} {d : DataW H} {ps : List MemPlace} (hv : v.cells = #[v]) (hw : ∀ x ∈ d.weights Try.prog 22, x ≤ reachBytes) (hd : DataW.Trod enc Try.prog w base (fun _ => true) held 22 v d ps) :
    ∃ rs : List Rec, RecsR w v rs ∧ rs.length ≤ 140737488351232 := by
  obtain ⟨fuel, hf⟩ := hd
  rw [hv] at hf
  rcases open_slice_fields Try.underlying22 Try.underlying39 (by kernel_rfl) (by kernel_rfl) hf with ⟨h, _⟩ | ⟨a, len, cap, m, D, Pl, h, _, hl, hm, hmm, hdd, hx⟩
  · have hv' : v = .slice none 0 0 := by simpa using h
    exact ⟨[], hv' ▸ recs_nil w, by simp⟩
  · have hv' : v = .slice (some a) len cap := by simpa using h
    have hmc : m = cap := by simpa using hmm
    have hcap : len ≤ 140737488351232 := by
      have hd' : d = .slice ((List.range len).map D) ((List.range (m - len)).map fun j => D (len + j)) := congrArg Prod.fst hdd
      have := hw (cap * Try.prog.bytesOf 39) (by
        rw [hd']
        simp only [DataW.weights, Try.underlying22]
        refine List.mem_cons.2 (.inl ?_)
        simp only [List.length_map, List.length_range]
        rw [show len + (m - len) = cap by omega])
      rw [show Try.prog.bytesOf 39 = 32 by kernel_rfl] at this
      simp [reachBytes] at this
      omega
    have hone : ∀ k, k < len → ∃ r : Rec, RecAt w (some a) k r := fun k hk => by
      obtain ⟨ys, q, _, _, _, hg⟩ := hx k (by omega)
      obtain ⟨v0, y0, c0, _, t0⟩ := hg 0 _ rfl
      obtain ⟨v1, y1, c1, _, t1⟩ := hg 1 _ rfl
      obtain ⟨kind, rfl⟩ := trod_u8 Try.underlying5 t0
      obtain ⟨A, n, c, bs, rfl, hbn, hnc, hr⟩ := trod_bytes Try.underlying36 Try.underlying5 (by kernel_rfl) t1
      subst hbn
      exact ⟨(kind, bs), RecAt.of (F := fun b => b < w.heap.size) c0 c1 ⟨A, c, rfl, hnc, hr⟩ fun b hb => hb⟩
    obtain ⟨f, hf'⟩ := Deep.choose_lt hone
    refine ⟨(List.range len).map f, ⟨⟨some a, cap, by rw [hv']; simp, by simpa using hl, fun i r hi => ?_⟩⟩, by simpa using hcap⟩
    have hlt : i < len := by
      have := (List.getElem?_eq_some_iff.1 hi).1
      simpa using this
    have : r = f i := by
      simp [hlt] at hi
      exact hi.symm
    rw [this]
    exact hf' i hlt
end
end Journal
end Go.Proofs.Ythgpphedpegbgaa
