/-
  What the program's frame package and the document's reference make of a payload: its frame behind what is there (no condition beyond the sizes).
-/
import Derived.Test.YthgpphedpegbgaaFrameAll
namespace Go.Proofs.Ythgpphedpegbgaa
open Go.ChangeShapes Go.WideShapes Go.RowKit
namespace Frame
theorem Reads.kept {w w' : World} {F : Nat → Prop} {A : Option Addr} {n : Nat} {l : List UInt8} {row : Option Nat} (h : Reads w F 1 A n (u8s l)) (hg : w.grownBy w' row) (hF : ∀ b, F b → b < w.heap.size ∧ row ≠ some b) : Reads w' F 1 A n (u8s l) :=
  h.keep fun b hb => hg.block b (hF b hb).1 fun e => (hF b hb).2 e.symm
set_option maxHeartbeats 4000000 in
theorem put (w : World) (base : Nat) (v : Value) (bs : List UInt8) (F : Nat → Prop) (A : Option Addr) (n c : Nat) (p : List UInt8) (hv : OwnB w base v bs) (hbase : base ≤ w.heap.size) (hl : Reads w F 1 A n (u8s p)) (hF : ∀ b, F b → b < w.heap.size ∧ v.ownBlock ≠ some b)
    (hb : bs.length + n + 8 ≤ 1099511627776) :
    Calls Try.prog 34 #[v, .slice A n c] w fun e w' => ∃ v', e = .returned v' ∧ OwnB w' base v' (bs ++ frameL p) ∧ Chg (fun k => v.ownBlock = some k) w w' ∧ ∀ k, v'.ownBlock = some k → v.ownBlock = some k ∨ w.heap.size ≤ k := by
  have hln := hl.u8len
  have HV := Lib.hid hv
  have HLn := Lib.hid hln
  have hvlt := fun k hk => (own_lt hv (k := k) hk).2
  have hfr : frameL p = headL n ++ p ++ crcL p := by unfold frameL; rw [hln]
  have HFR := Lib.hid hfr
  clear hv hln hfr
  go_enter Try.func34, Try.ntmps34
  go_wp2_with fail
  refine (head _ n).mono ?_
  rintro e w1 ⟨rfl, rfl⟩
  have hn1 : New w (w.alloc (.cells (u8s (headL n)).toArray 5)) := (Chg.refl _ _).alloc _
  have ho1 := own_chg HV.out hn1 fun _ _ => id
  have hr1 := reads_lit w (headL n) (0, 0) 5
  have hl1 := hl.chg' hn1 (fun _ _ => id) (by omega)
  have hsz1 : (w.alloc (.cells (u8s (headL n)).toArray 5)).heap.size = w.heap.size + 1 := by simp
  generalize w.alloc (.cells (u8s (headL n)).toArray 5) = w1 at *
  go_wp2_with (at_builtin; refine stop ?_)
  delta Stop
  refine append_u8 _ rfl _ _ rfl base v bs rfl ho1 (fun b => b = w.heap.size) (some ⟨w.heap.size, 0, none⟩) 4 4 (headL n) rfl hr1 (by omega) (by omega) ?_
  intro v2 w2 ho2 hg2 hat2
  have hc2 : Chg (fun k => v.ownBlock = some k) w w2 := (hn1.mono fun _ _ => False.elim).grown hg2 fun g e _ => e
  have hv2 : ∀ k, v2.ownBlock = some k → v.ownBlock = some k ∨ w.heap.size ≤ k := fun k hk => by
    rcases hat2 with e | e
    · exact .inl (e ▸ hk)
    · rw [e] at hk
      injection hk with hk
      exact .inr (by omega)
  have hl2 : Reads w2 F 1 A n (u8s p) := Reads.kept hl1 hg2 fun b hb => ⟨by have := (hF b hb).1; omega, (hF b hb).2⟩
  have hF2 : ∀ b, F b → b < w2.heap.size ∧ v2.ownBlock ≠ some b := fun b hb => ⟨by have := (hF b hb).1; have := hg2.size; omega, fun e => by
    rcases hv2 b e with h | h
    · exact (hF b hb).2 h
    · have := (hF b hb).1; omega⟩
  have hs2 := hc2.size
  clear hn1 ho1 hr1 hl1 hg2 hat2 hsz1
  have hlen2 : (bs ++ headL n).length = bs.length + 4 := by rw [List.length_append]; rfl
  have HLEN2 := Lib.hid hlen2
  clear hlen2
  go_wp2_with (at_builtin; refine stop ?_)
  delta Stop
  refine append_u8 _ rfl _ _ rfl base v2 (bs ++ headL n) rfl ho2 F A n c p rfl hl2 (by rw [HLEN2.out]; omega) (by omega) ?_
  intro v3 w3 ho3 hg3 hat3
  have hc3 : Chg (fun k => v.ownBlock = some k) w w3 := hc2.grown hg3 fun g e hlt => by
    rcases hv2 g e with h | h
    · exact h
    · omega
  have hv3 : ∀ k, v3.ownBlock = some k → v.ownBlock = some k ∨ w.heap.size ≤ k := fun k hk => by
    rcases hat3 with e | e
    · exact hv2 k (e ▸ hk)
    · rw [e] at hk
      injection hk with hk
      exact .inr (by omega)
  have hl3 : Reads w3 F 1 A n (u8s p) := Reads.kept hl2 hg3 hF2
  have hs3 := hg3.size
  have hF3 : ∀ b, F b → b < w3.heap.size ∧ v3.ownBlock ≠ some b := fun b hb => ⟨by have := (hF2 b hb).1; omega, fun e => by
    rcases hv3 b e with h | h
    · exact (hF b hb).2 h
    · have := (hF b hb).1; omega⟩
  clear hc2 hv2 hl2 hF2 ho2 hg3 hat3
  go_wp2_with fail
  refine (Crc.of_ w3 F A n c p hl3 (fun b hb => (hF3 b hb).1) (by simp only [maxLen]; omega)).mono ?_
  rintro e w4 ⟨rfl, hn4⟩
  have hc4 := hc3.trans hn4 fun _ _ => False.elim
  have ho4 := own_chg ho3 hn4 fun _ _ => id
  have hs4 := hn4.size
  go_wp2_with fail
  refine (Crc.bytes w4 _ (Crc.sum_lt p)).mono ?_
  rintro e w5 ⟨rfl, rfl⟩
  have hr5 := reads_lit w4 (Crc.sumBytes (Crc.sum p)) (0, 0) 70
  have hn5 : New w4 (w4.alloc (.cells (u8s (Crc.sumBytes (Crc.sum p))).toArray 70)) := (Chg.refl _ _).alloc _
  have hc5 := hc4.trans hn5 fun _ _ => False.elim
  have ho5 := own_chg ho4 hn5 fun _ _ => id
  have hs5 := hn5.size
  have hlen3 : (bs ++ headL n ++ p).length = bs.length + 4 + n := by rw [List.length_append, HLEN2.out, HLn.out]
  have HLEN3 := Lib.hid hlen3
  clear hlen3 hc4 ho4 hn4 hn5 hc3 ho3 hl3 hF3
  generalize w4.alloc (.cells (u8s (Crc.sumBytes (Crc.sum p))).toArray 70) = w5 at *
  go_wp2_with (at_builtin; refine stop ?_)
  delta Stop
  refine append_u8 _ rfl _ _ rfl base v3 (bs ++ headL n ++ p) rfl ho5 (fun b => b = w4.heap.size) (some ⟨w4.heap.size, 0, none⟩) 4 4 (Crc.sumBytes (Crc.sum p)) rfl hr5 (by rw [HLEN3.out]; omega) (by omega) ?_
  intro v6 w6 ho6 hg6 hat6
  have hc6 : Chg (fun k => v.ownBlock = some k) w w6 := hc5.grown hg6 fun g e hlt => by
    rcases hv3 g e with h | h
    · exact h
    · omega
  have hv6 : ∀ k, v6.ownBlock = some k → v.ownBlock = some k ∨ w.heap.size ≤ k := fun k hk => by
    rcases hat6 with e | e
    · exact hv3 k (e ▸ hk)
    · rw [e] at hk
      injection hk with hk
      exact .inr (by omega)
  clear hg6 hat6 hr5 ho5 hc5 hv3
  go_wp2
  go_ret
  refine ⟨v6, rfl, ?_, hc6, hv6⟩
  have e : bs ++ frameL p = bs ++ headL n ++ p ++ Crc.sumBytes (Crc.sum p) := by
    rw [HFR.out]
    simp only [List.append_assoc]
    rfl
  rw [e]
  exact ho6

set_option maxHeartbeats 4000000 in
theorem ref_put (w : World) (F G : Nat → Prop) (B A : Option Addr) (m d n c : Nat) (bs p : List UInt8) (hb : Reads w G 1 B m (u8s bs)) (hl : Reads w F 1 A n (u8s p)) (hG : ∀ b, G b → b < w.heap.size) (hF : ∀ b, F b → b < w.heap.size)
    (hbd : m + n + 8 ≤ 1099511627776) :
    Calls Try.prog 12 #[.slice B m d, .slice A n c] w fun e w' => ∃ v', e = .returned v' ∧ OwnB w' w.heap.size v' (bs ++ frameL p) ∧ New w w' := by
  have hln := hl.u8len
  have hbn := hb.u8len
  have hfr : frameL p = headL n ++ p ++ crcL p := by unfold frameL; rw [hln]
  have HFR := Lib.hid hfr
  have HLn := Lib.hid hln
  have HBn := Lib.hid hbn
  clear hln hfr hbn
  go_enter Try.func12, Try.ntmps12
  go_wp2_with fail
  refine (ref_head _ n (by omega)).mono ?_
  rintro e w1 ⟨rfl, rfl⟩
  have hn1 : New w (w.alloc (.cells (u8s (headL n)).toArray 5)) := (Chg.refl _ _).alloc _
  have ho1 : OwnB (w.alloc (.cells (u8s (headL n)).toArray 5)) w.heap.size (.slice (some ⟨w.heap.size, 0, none⟩) 4 4) (headL n) := OwnB.lit (headL n) (Nat.le_refl _) (by simp [headL, maxLen])
  have hs1 : (w.alloc (.cells (u8s (headL n)).toArray 5)).heap.size = w.heap.size + 1 := by simp
  have hl1 := hl.chg' hn1 (fun _ _ => id) (by omega)
  have hb1 := hb.chg' hn1 (fun _ _ => id) (by omega)
  generalize w.alloc (.cells (u8s (headL n)).toArray 5) = w1 at *
  go_wp2_with (at_builtin; refine stop ?_)
  delta Stop
  refine append_u8 _ rfl _ _ rfl w.heap.size _ (headL n) rfl ho1 F A n c p rfl hl1 (by rw [headL_length]; omega) (by omega) ?_
  intro v2 w2 ho2 hg2 hat2
  have hn2 : New w w2 := hn1.grown hg2 fun g e hlt => by
    have := (own_lt ho1 e).1
    omega
  have hl2 := hl.chg' hn2 (fun _ _ => id) (by omega)
  have hb2 := hb.chg' hn2 (fun _ _ => id) (by omega)
  have hs2 := hn2.size
  clear hl1 hb1 hn1 ho1 hg2 hat2
  obtain ⟨A2, c2, hv2, _, _, _, hr2⟩ := ho2.form
  have hl2n : (headL n ++ p).length = 4 + n := by rw [List.length_append, headL_length, HLn.out]
  rw [hl2n] at hv2 hr2
  subst hv2
  have HL2 := Lib.hid hl2n
  clear hl2n
  go_wp2_with (at_builtin; refine stop ?_)
  delta Stop
  refine append_u8 _ rfl _ _ rfl w2.heap.size _ [] rfl (OwnB.empty (Nat.le_refl _)) G B m d bs rfl (hb2.chg' ((Chg.refl (fun _ => False) w2).alloc _) (fun _ _ => id) (by omega)) (by simp; omega) (by simp) ?_
  intro v3 w3 ho3 hg3 hat3
  rw [List.nil_append] at ho3
  have hn3 : New w2 w3 := ((Chg.refl (fun _ => False) w2).alloc _).grown hg3 fun g e hlt => by
    have := ((OwnB.empty (w := w2) (Nat.le_refl _)).lt g e).1
    omega
  have hr3 := hr2.chg' hn3 (fun _ _ => id) (by omega)
  have hl3 := hl2.chg' hn3 (fun _ _ => id) (by omega)
  have hs3 := hn3.size
  have hnn3 := hn2.trans hn3 fun _ _ => id
  clear hr2 hg3 hat3 hl2 hb2 ho2
  go_wp2_with (at_builtin; refine stop ?_)
  delta Stop
  refine append_u8 _ rfl _ _ rfl w2.heap.size v3 bs rfl ho3 _ A2 (4 + n) c2 (headL n ++ p) rfl hr3 (by rw [HBn.out]; omega) (by omega) ?_
  intro v4 w4 ho4 hg4 hat4
  have hn4 : New w w4 := hnn3.grown hg4 fun g e hlt => by
    have := (own_lt ho3 e).1
    omega
  have hl4 := hl.chg' hn4 (fun _ _ => id) (by omega)
  have hs4 := hn4.size
  have hs34 := hg4.size
  clear hr3 hl3 hg4 hat4 hnn3 hn3 ho3 hn2
  go_wp2_with fail
  refine (Crc.ref_of w4 F A n c p hl4 (by simp only [maxLen]; omega)).mono ?_
  rintro e w5 ⟨rfl, hw5⟩
  have hn5 : New w4 w5 := hw5 ▸ Chg.refl _ _
  have ho5 := own_chg ho4 hn5 fun _ _ => id
  clear hw5 ho4
  have hnn5 := hn4.trans hn5 fun _ _ => id
  have hs5 := hnn5.size
  have hs45 := hn5.size
  clear hn4 hn5
  go_wp2_with fail
  refine (Crc.ref_bytes w5 _ (Crc.sum_lt p)).mono ?_
  rintro e w6 ⟨rfl, rfl⟩
  have hr6 := reads_lit w5 (Crc.sumBytes (Crc.sum p)) (0, 0) 5
  have hn6 : New w5 (w5.alloc (.cells (u8s (Crc.sumBytes (Crc.sum p))).toArray 5)) := (Chg.refl _ _).alloc _
  have ho6 := own_chg ho5 hn6 fun _ _ => id
  have hnn6 := hnn5.trans hn6 fun _ _ => id
  have hs6 := hn6.size
  have hl6 : (bs ++ (headL n ++ p)).length = m + (4 + n) := by rw [List.length_append, HL2.out, HBn.out]
  have HL6 := Lib.hid hl6
  clear hl6 ho5 hn6 hnn5
  generalize w5.alloc (.cells (u8s (Crc.sumBytes (Crc.sum p))).toArray 5) = w6 at *
  go_wp2_with (at_builtin; refine stop ?_)
  delta Stop
  refine append_u8 _ rfl _ _ rfl w2.heap.size v4 (bs ++ (headL n ++ p)) rfl ho6 (fun b => b = w5.heap.size) (some ⟨w5.heap.size, 0, none⟩) 4 4 (Crc.sumBytes (Crc.sum p)) rfl hr6 (by rw [HL6.out]; omega) (by omega) ?_
  intro v7 w7 ho7 hg7 hat7
  have hn7 : New w w7 := hnn6.grown hg7 fun g e hlt => by
    have := (own_lt ho6 e).1
    omega
  clear hr6 hg7 hat7 ho6 hnn6
  go_wp2
  go_ret
  refine ⟨v7, rfl, ?_, hn7⟩
  have e : bs ++ frameL p = bs ++ (headL n ++ p) ++ Crc.sumBytes (Crc.sum p) := by
    rw [HFR.out]
    simp only [List.append_assoc]
    rfl
  rw [e]
  exact own_mono ho7 hs2

end Frame
end Go.Proofs.Ythgpphedpegbgaa
