/-
  EventCuts, walked: true.
-/
import Derived.Test.YtjkjbbmbfobdaaaDoorShort
namespace Go.Proofs.YtjkjbbmbfobdaaaDoor
set_option linter.unusedSimpArgs false
set_option linter.unusedVariables false
open Go.ChangeShapes Go.WideShapes Go.RowKit Go.Deep
namespace Evt
open Val (JoinC)
open Vec Num
attribute [local go_sem ↓] loadDot loadVec loadRow0 storeRow0 loadOnly0 loadOnly1 loadOnly2
set_option maxHeartbeats 20000000 in
set_option maxRecDepth 100000 in
theorem cuts (hJ : JoinC) (w : World) (hm : Val.MaxAt w) (e : Ev) (hc : Came e) (cut : Nat) (hcut : cut < 65536) (D : Option Addr) (m cm : Nat) (q : List UInt8) (hq : Reads w (fun b => b < w.heap.size) 1 D m (u8s q)) (hmc : m ≤ cm) :
    Calls Tryd.prog 5 #[e.val, .int .u16 (cut : Int), .slice D m cm] w fun x w' => x = .returned (.bool true) ∧ New w w' := by
  have a1 := (Chg.refl (fun _ => False) w).alloc (.cells e.cs.toArray 31)
  have B1 := Blk.new w 31 e.cs.toArray
  have hz : ∀ W, (zeroValue 31).run Tryd.prog W = .ok (.agg zero.cs.toArray) W := fun W => by kernel_rfl
  have CF := Lib.hid (fixed hJ _ (hm.new a1))
  have H1 := Lib.hid (And.intro B1 a1)
  have HM := Lib.hid (And.intro hm (And.intro hJ hc))
  have hml := hq.u8len
  have HQ := Lib.hid (And.intro hq hml)
  have g1 := B1.lt
  clear a1 B1 hm hJ hc hq hml
  go_enter Tryd.func5, Tryd.ntmps5
  go_wp2_with fail
  with_reducible refine CF.out.mono ?_
  rintro x w2 ⟨rfl, n2⟩
  have H2 := Lib.hid (And.intro (H1.out.1.chg n2 id) (H1.out.2.trans n2 fun _ _ => id))
  have CS := Lib.hid (short w2 e HM.out.2.2)
  have l2 := ldE H2.out.1
  have g2 := H2.out.1.lt
  clear n2 CF
  go_wp2_with fail
  with_reducible refine CS.out.mono ?_
  rintro x w3 ⟨rfl, n3⟩
  have H3 := Lib.hid (And.intro (H2.out.1.chg n3 id) (H2.out.2.trans n3 fun _ _ => id))
  have l3 := ldE H3.out.1
  have g3 := H3.out.1.lt
  clear n3 CS l2 g2
  obtain ⟨sh, hsh⟩ : ∃ b, decide (total e ≤ 300) = b := ⟨_, rfl⟩
  rw [hsh]
  cases sh
  · clear hsh
    go_wp2_with fail
    go_ret
    exact ⟨rfl, H3.out.2⟩
  have htot : total e ≤ 300 := by simpa using hsh
  have HT := Lib.hid htot
  clear hsh htot
  by_cases hm100 : (100 : Int) < m
  · go_wp2_with fail
    go_ret
    exact ⟨rfl, H3.out.2⟩
  have hlen := short_len HT.out
  by_cases hr : rightE e = true
  · have hpos := bytes_pos e hr
    have CB := Lib.hid (bytes_yes HM.out.2.1 w3 e (HM.out.2.2.fit HT.out) (HM.out.1.new H3.out.2) (by omega) hr)
    have HR := Lib.hid hr
    clear hr
    obtain ⟨L, hL⟩ : ∃ L, e.bytes.length = L := ⟨_, rfl⟩
    rw [hL] at CB hpos hlen
    have HL := Lib.hid hL
    clear hL
    go_wp2_with fail
    with_reducible refine CB.out.mono ?_
    rintro x w4 ⟨A, c, rfl, o4, n4⟩
    have hr4 : Reads w4 (fun b => b < w4.heap.size) 1 A L (u8s e.bytes) := by
      have h := Reads.of_own (show w4.ownsRow w3.heap.size 5 1 (.slice A L c) L (u8s e.bytes) from by have := o4; unfold OwnB at this; rw [HL.out] at this; exact this)
      exact h.mono fun b hb => hb.2.1
    have hcL : L ≤ c := by
      obtain ⟨A2, c2, h1, h2, _⟩ := o4.form
      injection h1 with _ h3 h4
      rw [HL.out] at h2
      omega
    have H4 := Lib.hid (And.intro (H3.out.1.chg n4 id) (H3.out.2.trans n4 fun _ _ => id))
    obtain ⟨k, hk⟩ : ∃ k, cut % L = k := ⟨_, rfl⟩
    have hkL : k < L := by rw [← hk]; exact Nat.mod_lt _ hpos
    have hw1 : IntKind.i64.wrap (cut : Int) = (cut : Int) := IntWalk.i64_in _ (by omega)
    have hrem : (cut : Int).tmod (L : Int) = (k : Int) := by rw [Int.tmod_eq_emod_of_nonneg (by omega), ← hk]; rfl
    have hL0 : ¬ (L : Int) = 0 := by omega
    have hL1 : ((L : Int) == 0) = false := by simpa using hL0
    have hsl := slice_u8_to A L c k (by omega)
    have hsplit : e.bytes = e.bytes.take k ++ e.bytes.drop k := (List.take_append_drop k e.bytes).symm
    have hdne : e.bytes.drop k ≠ [] := by
      intro h
      have := congrArg List.length h
      rw [List.length_drop, HL.out] at this
      simp at this
      omega
    have CP := parse HM.out.2.1 w4 _ A k c (e.bytes.take k) (Reads.takeB hr4 (by omega)) (fun b hb => hb) (by omega) (by omega) (HM.out.1.new H4.out.2)
    rw [parse_cut HR.out hsplit hdne] at CP
    have CP := Lib.hid CP
    have HR4 := Lib.hid hr4
    clear o4 n4 hr4 CB hsplit hdne hk l3 g3
    go_wp2_with fail
    with_reducible refine CP.out.mono ?_
    rintro x w5 ⟨rfl, n5⟩
    obtain ⟨w6, hst6, b6, n6, g6⟩ := new_ev w5 zero
    have n56 := n5.trans n6 fun _ _ => id
    have H6 := Lib.hid (And.intro (H4.out.1.chg n56 id) (H4.out.2.trans n56 fun _ _ => id))
    obtain ⟨ga, hga⟩ : ∃ g, w5.heap.size = g := ⟨_, rfl⟩
    rw [hga] at hst6 g6
    have hr6 := HR4.out.chg n56 fun b hb => ⟨hb, id⟩
    have hr6 := hr6.mono (G := fun b => b < w6.heap.size) fun b hb => Nat.lt_of_lt_of_le hb n56.size
    have a7 := (Chg.refl (fun _ => False) w6).alloc (.cells #[] 5)
    have hr7 := hr6.chg a7 fun b hb => ⟨hb, id⟩
    have o7 := OwnB.empty (w := w6) (base := w6.heap.size) (Nat.le_refl _)
    have hq7 := HQ.out.1.chg (H6.out.2.trans a7 fun _ _ => id) fun b hb => ⟨hb, id⟩
    have HA7 := Lib.hid (And.intro hq7 a7)
    have hs7 : (w6.alloc (.cells #[] 5)).heap.size = w6.heap.size + 1 := by simp
    clear n5 n6 n56 b6 hr6 CP HR4 hq7 a7
    go_wp2_with (at_builtin; refine stop ?_)
    delta Stop
    refine append_u8 _ rfl _ _ rfl w6.heap.size _ [] rfl o7 _ A L c e.bytes rfl hr7 (by simp; omega) (by omega) ?_
    intro v8 w8 o8 g8 at8
    have hw8 := H6.out.2.size
    have c8 : New w6 w8 := HA7.out.2.grown g8 fun k e hk => by have := (own_lt o7 e).1; omega
    have hq8 : Reads w8 (fun b => b < w.heap.size) 1 D m (u8s q) := HQ.out.1.chg (H6.out.2.trans c8 fun _ _ => id) fun b hb => ⟨hb, id⟩
    rw [List.nil_append] at o8
    have hs8 := c8.size
    have HL8 := Lib.hid HL.out
    clear o7 hr7 g8 at8
    go_wp2_with (at_builtin; refine stop ?_)
    delta Stop
    refine append_u8 _ rfl _ _ rfl w6.heap.size _ e.bytes rfl o8 _ D m cm q rfl hq8 (by rw [HL8.out]; omega) (by omega) ?_
    intro v9 w9 o9 g9 at9
    have c9 : New w6 w9 := c8.grown g9 fun k e hk => by have := (own_lt o8 e).1; omega
    obtain ⟨A9, c9p, rfl, hc9, _⟩ := o9.form
    obtain ⟨n9, hn9⟩ : ∃ n, (e.bytes ++ q).length = n := ⟨_, rfl⟩
    have hn9' : n9 = L + m := by rw [← hn9, List.length_append, HL8.out, HQ.out.2]
    rw [hn9] at hc9 ⊢
    have hr9 : Reads w9 (fun b => b < w9.heap.size) 1 A9 n9 (u8s (e.bytes ++ q)) := by
      have h := Reads.of_own (show w9.ownsRow w6.heap.size 5 1 (.slice A9 n9 c9p) n9 (u8s (e.bytes ++ q)) from by have := o9; unfold OwnB at this; rw [hn9] at this; exact this)
      exact h.mono fun b hb => hb.2.1
    have H9 := Lib.hid (And.intro (H6.out.1.chg c9 id) (H6.out.2.trans c9 fun _ _ => id))
    have CP := parse HM.out.2.1 w9 _ A9 n9 c9p (e.bytes ++ q) hr9 (fun b hb => hb) (by omega) hc9 (HM.out.1.new H9.out.2)
    have HQL := Lib.hid HQ.out.2
    clear o9 o8 hq8 g9 at9 c8 c9 hr9 hn9 hc9 hs8 hw8
    by_cases hq0 : q = []
    · subst hq0
      obtain rfl : m = 0 := by have := HQL.out; simpa using this.symm
      rw [List.append_nil, parse_bytes HR.out, val_evOf] at CP
      have CP := Lib.hid CP
      clear hn9'
      go_wp2_with fail
      with_reducible refine CP.out.mono ?_
      rintro x w10 ⟨rfl, n10⟩
      obtain ⟨w11, hst11, b11, n11, g11⟩ := new_ev w10 e
      have n1011 := n10.trans n11 fun _ _ => id
      have H11 := Lib.hid (And.intro (H9.out.1.chg n1011 id) (H9.out.2.trans n1011 fun _ _ => id))
      obtain ⟨gb, hgb⟩ : ∃ g, w10.heap.size = g := ⟨_, rfl⟩
      rw [hgb] at hst11 g11 b11
      have l11 := ldE b11
      have l12 := ldE H11.out.1
      have hself := selfEv e
      have gg1 := b11.lt
      have gg2 := H11.out.1.lt
      clear n10 n11 n1011 b11 CP
      go_wp2_with fail
      go_ret
      exact ⟨rfl, H11.out.2⟩
    · rw [parse_more HR.out hq0] at CP
      have CP := Lib.hid CP
      have hm0 : ((m : Int) == 0) = false := by
        have : m ≠ 0 := fun h => hq0 (by have := HQL.out; rw [h] at this; exact List.eq_nil_of_length_eq_zero this)
        simpa using this
      have hm1 : ¬ m = 0 := by simpa using hm0
      clear hn9' hq0
      go_wp2_with fail
      with_reducible refine CP.out.mono ?_
      rintro x w10 ⟨rfl, n10⟩
      obtain ⟨w11, hst11, b11, n11, g11⟩ := new_ev w10 zero
      have n1011 := n10.trans n11 fun _ _ => id
      have N11 := Lib.hid (H9.out.2.trans n1011 fun _ _ => id)
      obtain ⟨gb, hgb⟩ : ∃ g, w10.heap.size = g := ⟨_, rfl⟩
      rw [hgb] at hst11 g11
      clear n10 n11 n1011 b11 CP
      go_wp2_with fail
      go_ret
      exact ⟨rfl, N11.out⟩
  · have CB := Lib.hid (bytes_no HM.out.2.1 w3 e (HM.out.2.2.fit HT.out) (HM.out.1.new H3.out.2) (by omega) hr)
    clear hr
    go_wp2_with fail
    with_reducible refine CB.out.mono ?_
    rintro x w4 ⟨rfl, n4⟩
    have N4 := Lib.hid (H3.out.2.trans n4 fun _ _ => id)
    clear n4
    go_wp2_with fail
    go_ret
    exact ⟨rfl, N4.out⟩
end Evt
end Go.Proofs.YtjkjbbmbfobdaaaDoor
