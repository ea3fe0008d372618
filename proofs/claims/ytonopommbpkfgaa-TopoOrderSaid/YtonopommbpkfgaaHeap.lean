/-
  What container/heap computes on topo's heap of numbers (no condition beyond the sizes).
-/
import Derived.Test.YtonopommbpkfgaaHeapPlain
namespace Go.Proofs.Ytonopommbpkfgaa
open Go.ChangeShapes Go.WideShapes Go.RowKit
namespace Heap
abbrev ptr (b : Nat) : Value := .pointer (some ⟨b, 0, none⟩)
abbrev face (b : Nat) : Value := .iface 45 (ptr b)
theorem m_push (w : World) (b : Nat) : (method 176 45 (ptr b) "Push").run Try.prog w = .ok (41, ptr b) w := by kernel_rfl
theorem m_pop (w : World) (b : Nat) : (method 176 45 (ptr b) "Pop").run Try.prog w = .ok (40, ptr b) w := by kernel_rfl
/-- a method of the value itself, called through the pointer -/
theorem m_value {P : Program} (w : World) (b : Nat) (tp tv : TypeId) (nm : String) (f : FuncId) (v : Value)
    (hi : ((P.info? tp).bind fun i => i.methods.find? fun m => m.name == nm).map (fun m => (m.path, m.func)) = some (#[], some (f, false))) (hu : P.underlying tp = some (.pointer tv))
    (hl : (loadVar tv ⟨b, 0, none⟩).run P w = .ok v w) : (method 176 tp (ptr b) nm).run P w = .ok (f, v) w := by
  obtain ⟨m, hm, hm2⟩ := Option.map_eq_some_iff.1 hi
  obtain ⟨i, hi1, hi2⟩ := Option.bind_eq_some_iff.1 hm
  injection hm2 with hp hf
  have hwn : ∀ x y, (Builtin.ssaWrapNilChk_ #[tp] tp #[ptr b, strVal x, strVal y]).run P w = .ok (ptr b) w := fun x y => by
    rw [show Builtin.ssaWrapNilChk_ #[tp] tp #[ptr b, strVal x, strVal y] = pure (ptr b) from rfl, Sem.run_pure]
  unfold method
  simp [Sem.run_bind, typeInfo, hi1, hi2, hp, hf, follow, receiverAt, run_underlying hu, Place.get, hwn, asAddr, hl]
theorem ld_wait (w : World) (b : Nat) (A : Option Addr) (n c : Nat) (hb : Blk w b 46 #[.slice A n c]) : (loadVar 46 ⟨b, 0, none⟩).run Try.prog w = .ok (.slice A n c) w := by
  have hc := hb.cell 0
  simp only [List.getElem?_toArray, List.getElem?_cons_zero] at hc
  have hagg : (isAgg 46).run Try.prog w = .ok false w := by
    unfold isAgg
    rw [Sem.run_bind, run_underlying Try.underlying46]
    rfl
  simp [loadVar, Sem.run_bind, hagg, hc]
theorem m_less (w : World) (b : Nat) (A : Option Addr) (n c : Nat) (hb : Blk w b 46 #[.slice A n c]) : (method 176 45 (ptr b) "Less").run Try.prog w = .ok (39, .slice A n c) w :=
  m_value w b _ 46 "Less" _ _ (by kernel_rfl) Try.underlying45 (ld_wait w b A n c hb)
theorem m_swap (w : World) (b : Nat) (A : Option Addr) (n c : Nat) (hb : Blk w b 46 #[.slice A n c]) : (method 176 45 (ptr b) "Swap").run Try.prog w = .ok (42, .slice A n c) w :=
  m_value w b _ 46 "Swap" _ _ (by kernel_rfl) Try.underlying45 (ld_wait w b A n c hb)
theorem m_len (w : World) (b : Nat) (A : Option Addr) (n c : Nat) (hb : Blk w b 46 #[.slice A n c]) : (method 176 45 (ptr b) "Len").run Try.prog w = .ok (18, .slice A n c) w :=
  m_value w b _ 46 "Len" _ _ (by kernel_rfl) Try.underlying45 (ld_wait w b A n c hb)
/-- a heap's n numbers at b -/
structure HAt (w : World) (lo b : Nat) (g c n : Nat) (l : List Int) : Prop where
  blk : Blk w b 46 #[.slice (some ⟨g, 0, none⟩) n c]
  own : OwnI w lo (.slice (some ⟨g, 0, none⟩) n c) l
  low : lo ≤ b
  len : l.length = n
theorem HAt.ne {w : World} {lo b g c n : Nat} {l : List Int} (h : HAt w lo b g c n l) : g ≠ b := fun e => own_ne h.own h.blk (by decide) (by rw [e]; rfl)
theorem HAt.chg {w w' : World} {lo b g c n : Nat} {l : List Int} {S : Nat → Prop} (h : HAt w lo b g c n l) (hc : Chg S w w') (hb : ¬ S b) (hg : ¬ S g) : HAt w' lo b g c n l :=
  ⟨h.blk.chg hc hb, own_chg h.own hc fun k hk e => hg (by have : g = k := by simpa [Value.ownBlock] using hk
                                                          rw [this]; exact e), h.low, h.len⟩
theorem HAt.new {w w' : World} {lo b g c n : Nat} {l : List Int} (h : HAt w lo b g c n l) (hc : New w w') : HAt w' lo b g c n l := h.chg hc id id
set_option maxHeartbeats 1000000 in
theorem less (w : World) (lo b g c n : Nat) (l : List Int) (h : HAt w lo b g c n l) (i j : Nat) (hi : i < n) (hj : j < n) (hf : n ≤ 100000) :
    Calls Try.prog 39 #[.slice (some ⟨g, 0, none⟩) n c, .int .i64 (i : Int), .int .i64 (j : Int)] w fun e w' => e = .returned (.bool (decide (l.getD i 0 < l.getD j 0))) ∧ New w w' := by
  have ci := h.own.cell (i := i) (by rw [h.len]; exact hi)
  have cj := h.own.cell (i := j) (by rw [h.len]; exact hj)
  generalize l.getD i 0 = x at *
  generalize l.getD j 0 = y at *
  have hii : (i : Int) < n := by omega
  have hjj : (j : Int) < n := by omega
  clear h
  go_enter Try.func39, Try.ntmps39
  go_wp2_with fail
  go_quiet (fail)
  go_wp2_with fail
  go_ret
  exact ⟨rfl, (Chg.refl _ w).drewN _⟩
theorem len_ (w : World) (A : Option Addr) (n c : Nat) : Calls Try.prog 18 #[.slice A n c] w fun e w' => e = .returned (.int .i64 (n : Int)) ∧ w' = w := by
  go_enter Try.func18, Try.ntmps18
  go_wp2
  go_ret
  exact ⟨rfl, rfl⟩
set_option maxHeartbeats 2000000 in
theorem swap (w : World) (lo b g c n : Nat) (l : List Int) (h : HAt w lo b g c n l) (i j : Nat) (hi : i < n) (hj : j < n) (hf : n ≤ 100000) :
    Calls Try.prog 42 #[.slice (some ⟨g, 0, none⟩) n c, .int .i64 (i : Int), .int .i64 (j : Int)] w fun e w' => e = .returned (.tuple #[]) ∧ HAt w' lo b g c n (swapL l i j) ∧ Chg (fun k => k = g) w w' := by
  have ci := h.own.cell (i := i) (by rw [h.len]; exact hi)
  have cj := h.own.cell (i := j) (by rw [h.len]; exact hj)
  have fi := h.own.frozen i
  have fj := h.own.frozen j
  have o1 := h.own.stored i (l.getD j 0)
  have o2 := o1.stored j (l.getD i 0)
  have hP : HAt ((w.setCell ⟨g, i, none⟩ (.int .i64 (l.getD j 0))).setCell ⟨g, j, none⟩ (.int .i64 (l.getD i 0))) lo b g c n (swapL l i j) ∧ Chg (fun k => k = g) w ((w.setCell ⟨g, i, none⟩ (.int .i64 (l.getD j 0))).setCell ⟨g, j, none⟩ (.int .i64 (l.getD i 0))) :=
    ⟨⟨(h.blk.far (fun e => h.ne e.symm) _).far (fun e => h.ne e.symm) _, o2, h.low, by rw [swap_len]; exact h.len⟩, (((Chg.refl (fun k => k = g) w)).setCell (p := ⟨g, i, none⟩) (fun _ => rfl) _).setCell (p := ⟨g, j, none⟩) (fun _ => rfl) _⟩
  have HP := Lib.hid hP
  have c1 : ∃ u, (w.setCell ⟨g, i, none⟩ (.int .i64 (l.getD j 0))).cell? ⟨g, j, none⟩ = some u := ⟨_, o1.cell (i := j) (by rw [List.length_set, h.len]; exact hj)⟩
  have f1 := o1.frozen j
  obtain ⟨u, c1⟩ := c1
  generalize l.getD i 0 = x at *
  generalize l.getD j 0 = y at *
  have hii : (i : Int) < n := by omega
  have hjj : (j : Int) < n := by omega
  clear h o1 o2 hP
  go_enter Try.func42, Try.ntmps42
  go_wp2_with fail
  go_region
  go_wp2_with fail
  go_end0
  exact ⟨rfl, ⟨HP.out.1.blk, HP.out.1.own, HP.out.1.low, HP.out.1.len⟩, HP.out.2.drew⟩
set_option maxHeartbeats 4000000 in
theorem up (w : World) (lo b g c n : Nat) (l : List Int) (h : HAt w lo b g c n l) (j : Nat) (hj : j < n) (hf : n ≤ 100000) (hu : Up l j) :
    Calls Try.prog 21 #[face b, .int .i64 (j : Int)] w fun e w' => e = .returned (.tuple #[]) ∧ ∃ l', HAt w' lo b g c n l' ∧ l'.Perm l ∧ OK l' n ∧ Chg (fun k => k = g) w w' := by
  have H := Lib.hid (And.intro h hu)
  clear h hu
  go_enter Try.func21, Try.ntmps21
  go_wp2_with fail
  go_loopw [1, 4] (fun jv _ wr => ∃ (j : Nat) (l' : List Int), j < n ∧ jv = .int .i64 j ∧ HAt wr lo b g c n l' ∧ l'.Perm l ∧ Up l' j ∧ Chg (fun k => k = g) w wr) (fun jv _ _ => (intOf jv).toNat)
  case atStart => exact ⟨j, l, hj, rfl, H.out.1, List.Perm.refl _, H.out.2, Chg.refl _ _⟩
  case round =>
    clear H
    obtain ⟨j, l', hj, rfl, ha, hp, hu, hc⟩ := hrel
    rcases Nat.eq_zero_or_pos j with h0 | h0
    · subst h0
      have HZ := Lib.hid (And.intro ha (And.intro hp (And.intro (up_end hu (.inl rfl)) hc)))
      clear ha hp hu hc
      go_wp2_with fail
      go_end0
      exact ⟨rfl, l', HZ.out.1, HZ.out.2.1, by have := HZ.out.2.2.1; rwa [HZ.out.1.len] at this, HZ.out.2.2.2⟩
    · obtain ⟨q, rfl⟩ : ∃ q, j = q + 1 := ⟨j - 1, by omega⟩
      have hm := m_less wr b (some ⟨g, 0, none⟩) n c ha.blk
      have hpar : par (q + 1) = q / 2 := rfl
      have CL := less wr lo b g c n l' ha (q + 1) (q / 2) hj (by omega) hf
      obtain ⟨t, ht⟩ : ∃ t, decide (l'.getD (q + 1) 0 < l'.getD (q / 2) 0) = t := ⟨_, rfl⟩
      rw [ht] at CL
      have CL := Lib.hid (show Calls Try.prog 39 #[.slice (some ⟨g, 0, none⟩) n c, .int .i64 ((q : Int) + 1), .int .i64 ((q : Int) / 2)] wr fun e w' => e = .returned (.bool t) ∧ New wr w' from CL)
      have hne : ((q : Int) / 2 == (q : Int) + 1) = false := by simp; omega
      have hqb : (q : Int) < 100000 := by omega
      have HS := Lib.hid (And.intro ha (And.intro hp (And.intro hu (And.intro hc ht))))
      clear ha hp hu hc ht
      go_wp2_with fail
      refine CL.out.mono ?_
      rintro e w1 ⟨rfl, n1⟩
      have ha := HS.out.1.new n1
      have hc := HS.out.2.2.2.1.trans (n1.to _) fun _ _ => id
      cases t
      · have HZ := Lib.hid (And.intro ha (And.intro hc (up_end HS.out.2.2.1 (.inr (by rw [hpar]; have := HS.out.2.2.2.2; simp at this; exact this)))))
        clear ha hc CL
        go_wp2_with fail
        go_end0
        exact ⟨rfl, l', HZ.out.1, HS.out.2.1, by have := HZ.out.2.2; rwa [HZ.out.1.len] at this, HZ.out.2.1⟩
      · have CS := swap w1 lo b g c n l' ha (q / 2) (q + 1) (by omega) hj hf
        have CS := Lib.hid (show Calls Try.prog 42 #[.slice (some ⟨g, 0, none⟩) n c, .int .i64 ((q : Int) / 2), .int .i64 ((q : Int) + 1)] w1 fun e w' => e = .returned (.tuple #[]) ∧ HAt w' lo b g c n (swapL l' (q / 2) (q + 1)) ∧ Chg (fun k => k = g) w1 w' from CS)
        have hm := m_swap w1 b (some ⟨g, 0, none⟩) n c ha.blk
        have hstep := up_step HS.out.2.2.1 (by omega) (by rw [HS.out.1.len]; exact hj) (by rw [hpar]; have := HS.out.2.2.2.2; simpa using this)
        rw [hpar] at hstep
        have HC := Lib.hid (And.intro hc (And.intro hstep (swap_perm (l := l') (i := q / 2) (j := q + 1) (by rw [HS.out.1.len]; omega) (by rw [HS.out.1.len]; exact hj))))
        clear ha hc CL hstep
        go_wp2_with fail
        refine CS.out.mono ?_
        rintro e w2 ⟨rfl, h2, c2⟩
        have H2 := Lib.hid (And.intro h2 (HC.out.1.trans c2 fun _ _ => id))
        clear h2 c2 CS hm
        go_wp2_with fail
        go_roundw
        case rel => exact ⟨q / 2, _, by omega, by go_num, H2.out.1, HC.out.2.2.trans HS.out.2.1, HC.out.2.1, H2.out.2⟩
        case measure => simp [intOf]; omega
set_option maxHeartbeats 8000000 in
theorem down (w : World) (lo b g c n : Nat) (l : List Int) (h : HAt w lo b g c n l) (m : Nat) (hmn : m < n) (hf : n ≤ 100000) (hd : Down l 0 m) :
    Calls Try.prog 22 #[face b, .int .i64 0, .int .i64 (m : Int)] w fun e w' => ∃ r, e = .returned (.bool r) ∧ ∃ l', HAt w' lo b g c n l' ∧ l'.Perm l ∧ OK l' m ∧ (∀ k, m ≤ k → l'.getD k 0 = l.getD k 0) ∧ Chg (fun k => k = g) w w' := by
  have H := Lib.hid (And.intro h hd)
  clear h hd
  go_enter Try.func22, Try.ntmps22
  go_wp2_with fail
  go_loopw [7, 8, 9, 10] (fun iv _ _ _ wr => ∃ (i : Nat) (l2 : List Int), i ≤ m ∧ iv = .int .i64 i ∧ HAt wr lo b g c n l2 ∧ l2.Perm l ∧ Down l2 i m ∧ (∀ k, m ≤ k → l2.getD k 0 = l.getD k 0) ∧ Chg (fun k => k = g) w wr) (fun iv _ _ _ _ => m - (intOf iv).toNat)
  case atStart => exact ⟨0, l, by omega, rfl, H.out.1, List.Perm.refl _, H.out.2, fun _ _ => rfl, Chg.refl _ _⟩
  case round =>
    clear H
    obtain ⟨i, l2, hi, rfl, ha2, hp, hd, hsm, hc2⟩ := hrel
    have hib : (i : Int) < 100000 := by omega
    have HS := Lib.hid (And.intro ha2 (And.intro hp (And.intro hd (And.intro hsm hc2))))
    by_cases h1 : m ≤ 2 * i + 1
    · have e1 : decide ((m : Int) ≤ 2 * (i : Int) + 1) = true := by simp; omega
      have HZ := Lib.hid (down_end hd (fun k k0 k1 k2 => by have := par_kid k0 k2; omega))
      clear ha2 hp hd hsm hc2 h1
      go_wp2_with fail
      go_ret
      exact ⟨_, rfl, l2, HS.out.1, HS.out.2.1, HZ.out, HS.out.2.2.2.1, HS.out.2.2.2.2⟩
    · have e1 : decide ((m : Int) ≤ 2 * (i : Int) + 1) = false := by simp; omega
      have e2 : decide (2 * (i : Int) + 1 < 0) = false := by simp; omega
      have h1' : 2 * i + 1 < m := by omega
      by_cases h2 : 2 * i + 2 < m
      · have e3 : decide (2 * (i : Int) + 1 + 1 < (m : Int)) = true := by simp; omega
        have CL := less wr lo b g c n l2 ha2 (2 * i + 1 + 1) (2 * i + 1) (by omega) (by omega) hf
        obtain ⟨t, ht⟩ : ∃ t, decide (l2.getD (2 * i + 1 + 1) 0 < l2.getD (2 * i + 1) 0) = t := ⟨_, rfl⟩
        rw [ht] at CL
        have CL := Lib.hid (show Calls Try.prog 39 #[.slice (some ⟨g, 0, none⟩) n c, .int .i64 (2 * (i : Int) + 1 + 1), .int .i64 (2 * (i : Int) + 1)] wr fun e w' => e = .returned (.bool t) ∧ New wr w' from CL)
        have hm := m_less wr b (some ⟨g, 0, none⟩) n c ha2.blk
        have HT := Lib.hid ht
        clear ha2 hp hd hsm hc2 h1 ht
        go_wp2_with fail
        refine CL.out.mono ?_
        rintro e w3 ⟨rfl, n3⟩
        clear hm CL
        have ha2 := HS.out.1.new n3
        have hc2 := HS.out.2.2.2.2.trans (n3.to _) fun _ _ => id
        generalize wr = wo at *
        generalize w3 = wr at *
        cases t
        · have hmin : ∀ k, 0 < k → k < m → par k = i → l2.getD (2 * i + 1) 0 ≤ l2.getD k 0 := fun k k0 k1 k2 => by
            have h := of_decide_eq_false HT.out
            rcases par_kid k0 k2 with rfl | rfl
            · exact Int.le_refl _
            · show l2.getD (2 * i + 1) 0 ≤ l2.getD (2 * i + 1 + 1) 0
              omega
          have CL2 := less wr lo b g c n l2 ha2 (2 * i + 1) i (by omega) (by omega) hf
          obtain ⟨t2, ht2⟩ : ∃ t2, decide (l2.getD (2 * i + 1) 0 < l2.getD i 0) = t2 := ⟨_, rfl⟩
          rw [ht2] at CL2
          have CL2 := Lib.hid (show Calls Try.prog 39 #[.slice (some ⟨g, 0, none⟩) n c, .int .i64 (2 * (i : Int) + 1), .int .i64 (i : Int)] wr fun e w' => e = .returned (.bool t2) ∧ New wr w' from CL2)
          have hm := m_less wr b (some ⟨g, 0, none⟩) n c ha2.blk
          have HW := Lib.hid (And.intro ha2 (And.intro hc2 (And.intro hmin ht2)))
          clear ha2 hc2 hmin ht2
          go_wp2_with fail
          refine CL2.out.mono ?_
          rintro e w4 ⟨rfl, n4⟩
          have ha4 := HW.out.1.new n4
          have hc4 := HW.out.2.1.trans (n4.to _) fun _ _ => id
          clear CL2 hm
          cases t2
          · have HZ := Lib.hid (And.intro ha4 (And.intro hc4 (down_end HS.out.2.2.1 (fun k k0 k1 k2 => by
              have h1 := HW.out.2.2.1 k k0 k1 k2
              have h2 := of_decide_eq_false HW.out.2.2.2
              omega))))
            clear ha4 hc4
            go_wp2_with fail
            go_ret
            exact ⟨_, rfl, l2, HZ.out.1, HS.out.2.1, HZ.out.2.2, HS.out.2.2.2.1, HZ.out.2.1⟩
          · have CS := swap w4 lo b g c n l2 ha4 i (2 * i + 1) (by omega) (by omega) hf
            have CS := Lib.hid (show Calls Try.prog 42 #[.slice (some ⟨g, 0, none⟩) n c, .int .i64 (i : Int), .int .i64 (2 * (i : Int) + 1)] w4 fun e w' => e = .returned (.tuple #[]) ∧ HAt w' lo b g c n (swapL l2 i (2 * i + 1)) ∧ Chg (fun k => k = g) w4 w' from CS)
            have hm := m_swap w4 b (some ⟨g, 0, none⟩) n c ha4.blk
            have hlen := ha4.len
            have hstep := down_step HS.out.2.2.1 (by omega) (by omega) (by omega) (show par (2 * i + 1) = i by unfold par; omega) HW.out.2.2.1 (of_decide_eq_true HW.out.2.2.2)
            have hsame : ∀ k, m ≤ k → (swapL l2 i (2 * i + 1)).getD k 0 = l.getD k 0 := fun k hk => by
              rw [swap_get (by omega) (by omega), if_neg (by omega), if_neg (by omega)]
              exact HS.out.2.2.2.1 k hk
            have HC := Lib.hid (And.intro hc4 (And.intro hstep (And.intro (swap_perm (l := l2) (i := i) (j := (2 * i + 1)) (by omega) (by omega)) hsame)))
            clear ha4 hc4 hstep hsame
            go_wp2_with fail
            refine CS.out.mono ?_
            rintro e w5 ⟨rfl, h5, c5⟩
            have H5 := Lib.hid (And.intro h5 (HC.out.1.trans c5 fun _ _ => id))
            clear h5 c5 CS hm
            go_wp2_with fail
            go_roundw
            case rel => exact ⟨(2 * i + 1), _, by omega, by go_num, H5.out.1, HC.out.2.2.1.trans HS.out.2.1, HC.out.2.1, HC.out.2.2.2, H5.out.2⟩
            case measure => simp [intOf]; omega
        · have hmin : ∀ k, 0 < k → k < m → par k = i → l2.getD (2 * i + 1 + 1) 0 ≤ l2.getD k 0 := fun k k0 k1 k2 => by
            have h := of_decide_eq_true HT.out
            rcases par_kid k0 k2 with rfl | rfl
            · omega
            · exact Int.le_refl _
          have CL2 := less wr lo b g c n l2 ha2 (2 * i + 1 + 1) i (by omega) (by omega) hf
          obtain ⟨t2, ht2⟩ : ∃ t2, decide (l2.getD (2 * i + 1 + 1) 0 < l2.getD i 0) = t2 := ⟨_, rfl⟩
          rw [ht2] at CL2
          have CL2 := Lib.hid (show Calls Try.prog 39 #[.slice (some ⟨g, 0, none⟩) n c, .int .i64 (2 * (i : Int) + 1 + 1), .int .i64 (i : Int)] wr fun e w' => e = .returned (.bool t2) ∧ New wr w' from CL2)
          have hm := m_less wr b (some ⟨g, 0, none⟩) n c ha2.blk
          have HW := Lib.hid (And.intro ha2 (And.intro hc2 (And.intro hmin ht2)))
          clear ha2 hc2 hmin ht2
          go_wp2_with fail
          refine CL2.out.mono ?_
          rintro e w4 ⟨rfl, n4⟩
          have ha4 := HW.out.1.new n4
          have hc4 := HW.out.2.1.trans (n4.to _) fun _ _ => id
          clear CL2 hm
          cases t2
          · have HZ := Lib.hid (And.intro ha4 (And.intro hc4 (down_end HS.out.2.2.1 (fun k k0 k1 k2 => by
              have h1 := HW.out.2.2.1 k k0 k1 k2
              have h2 := of_decide_eq_false HW.out.2.2.2
              omega))))
            clear ha4 hc4
            go_wp2_with fail
            go_ret
            exact ⟨_, rfl, l2, HZ.out.1, HS.out.2.1, HZ.out.2.2, HS.out.2.2.2.1, HZ.out.2.1⟩
          · have CS := swap w4 lo b g c n l2 ha4 i (2 * i + 1 + 1) (by omega) (by omega) hf
            have CS := Lib.hid (show Calls Try.prog 42 #[.slice (some ⟨g, 0, none⟩) n c, .int .i64 (i : Int), .int .i64 (2 * (i : Int) + 1 + 1)] w4 fun e w' => e = .returned (.tuple #[]) ∧ HAt w' lo b g c n (swapL l2 i (2 * i + 1 + 1)) ∧ Chg (fun k => k = g) w4 w' from CS)
            have hm := m_swap w4 b (some ⟨g, 0, none⟩) n c ha4.blk
            have hlen := ha4.len
            have hstep := down_step HS.out.2.2.1 (by omega) (by omega) (by omega) (show par (2 * i + 1 + 1) = i by unfold par; omega) HW.out.2.2.1 (of_decide_eq_true HW.out.2.2.2)
            have hsame : ∀ k, m ≤ k → (swapL l2 i (2 * i + 1 + 1)).getD k 0 = l.getD k 0 := fun k hk => by
              rw [swap_get (by omega) (by omega), if_neg (by omega), if_neg (by omega)]
              exact HS.out.2.2.2.1 k hk
            have HC := Lib.hid (And.intro hc4 (And.intro hstep (And.intro (swap_perm (l := l2) (i := i) (j := (2 * i + 1 + 1)) (by omega) (by omega)) hsame)))
            clear ha4 hc4 hstep hsame
            go_wp2_with fail
            refine CS.out.mono ?_
            rintro e w5 ⟨rfl, h5, c5⟩
            have H5 := Lib.hid (And.intro h5 (HC.out.1.trans c5 fun _ _ => id))
            clear h5 c5 CS hm
            go_wp2_with fail
            go_roundw
            case rel => exact ⟨(2 * i + 1 + 1), _, by omega, by go_num, H5.out.1, HC.out.2.2.1.trans HS.out.2.1, HC.out.2.1, HC.out.2.2.2, H5.out.2⟩
            case measure => simp [intOf]; omega
      · have e3 : decide (2 * (i : Int) + 1 + 1 < (m : Int)) = false := by simp; omega
        have hmin : ∀ k, 0 < k → k < m → par k = i → l2.getD (2 * i + 1) 0 ≤ l2.getD k 0 := fun k k0 k1 k2 => by
          rcases par_kid k0 k2 with rfl | rfl
          · exact Int.le_refl _
          · omega
        clear hp hd hsm h1
        have CL2 := less wr lo b g c n l2 ha2 (2 * i + 1) i (by omega) (by omega) hf
        obtain ⟨t2, ht2⟩ : ∃ t2, decide (l2.getD (2 * i + 1) 0 < l2.getD i 0) = t2 := ⟨_, rfl⟩
        rw [ht2] at CL2
        have CL2 := Lib.hid (show Calls Try.prog 39 #[.slice (some ⟨g, 0, none⟩) n c, .int .i64 (2 * (i : Int) + 1), .int .i64 (i : Int)] wr fun e w' => e = .returned (.bool t2) ∧ New wr w' from CL2)
        have hm := m_less wr b (some ⟨g, 0, none⟩) n c ha2.blk
        have HW := Lib.hid (And.intro ha2 (And.intro hc2 (And.intro hmin ht2)))
        clear ha2 hc2 hmin ht2
        go_wp2_with fail
        refine CL2.out.mono ?_
        rintro e w4 ⟨rfl, n4⟩
        have ha4 := HW.out.1.new n4
        have hc4 := HW.out.2.1.trans (n4.to _) fun _ _ => id
        clear CL2 hm
        cases t2
        · have HZ := Lib.hid (And.intro ha4 (And.intro hc4 (down_end HS.out.2.2.1 (fun k k0 k1 k2 => by
            have h1 := HW.out.2.2.1 k k0 k1 k2
            have h2 := of_decide_eq_false HW.out.2.2.2
            omega))))
          clear ha4 hc4
          go_wp2_with fail
          go_ret
          exact ⟨_, rfl, l2, HZ.out.1, HS.out.2.1, HZ.out.2.2, HS.out.2.2.2.1, HZ.out.2.1⟩
        · have CS := swap w4 lo b g c n l2 ha4 i (2 * i + 1) (by omega) (by omega) hf
          have CS := Lib.hid (show Calls Try.prog 42 #[.slice (some ⟨g, 0, none⟩) n c, .int .i64 (i : Int), .int .i64 (2 * (i : Int) + 1)] w4 fun e w' => e = .returned (.tuple #[]) ∧ HAt w' lo b g c n (swapL l2 i (2 * i + 1)) ∧ Chg (fun k => k = g) w4 w' from CS)
          have hm := m_swap w4 b (some ⟨g, 0, none⟩) n c ha4.blk
          have hlen := ha4.len
          have hstep := down_step HS.out.2.2.1 (by omega) (by omega) (by omega) (show par (2 * i + 1) = i by unfold par; omega) HW.out.2.2.1 (of_decide_eq_true HW.out.2.2.2)
          have hsame : ∀ k, m ≤ k → (swapL l2 i (2 * i + 1)).getD k 0 = l.getD k 0 := fun k hk => by
            rw [swap_get (by omega) (by omega), if_neg (by omega), if_neg (by omega)]
            exact HS.out.2.2.2.1 k hk
          have HC := Lib.hid (And.intro hc4 (And.intro hstep (And.intro (swap_perm (l := l2) (i := i) (j := (2 * i + 1)) (by omega) (by omega)) hsame)))
          clear ha4 hc4 hstep hsame
          go_wp2_with fail
          refine CS.out.mono ?_
          rintro e w5 ⟨rfl, h5, c5⟩
          have H5 := Lib.hid (And.intro h5 (HC.out.1.trans c5 fun _ _ => id))
          clear h5 c5 CS hm
          go_wp2_with fail
          go_roundw
          case rel => exact ⟨(2 * i + 1), _, by omega, by go_num, H5.out.1, HC.out.2.2.1.trans HS.out.2.1, HC.out.2.1, HC.out.2.2.2, H5.out.2⟩
          case measure => simp [intOf]; omega
end Heap
end Go.Proofs.Ytonopommbpkfgaa
