/-
  What the program's journal package reads: of any bytes all records that are whole, where they end, and what is wrong there (no condition beyond the sizes).
-/
import Derived.Test.YthgpphedpegbgaaJournal2
import Derived.Test.YthgpphedpegbgaaFrameParts
namespace Go.Proofs.Ythgpphedpegbgaa
open Go.ChangeShapes Go.WideShapes Go.RowKit Go.Deep
namespace Journal
open Go.Proofs.Ythgpphedpegbgaa.Frame (Part Parts PartsL Part.chg Part.new)
open Go.Proofs.Ythgpphedpegbgaa.Disk (Dsk At Post Foot ptr)
attribute [local go_sem ↓] loadOnly0
theorem Recs.row {w : World} {base : Nat} {v : Value} {rs : List Rec} (h : Recs w base v rs) : ∃ kv, w.ownsRow base 39 2 v rs.length (recCells kv) := by
  obtain ⟨kv, _, ho, _⟩ := h.ex
  exact ⟨kv, ho⟩
theorem Recs.lt {w : World} {base : Nat} {v : Value} {rs : List Rec} (h : Recs w base v rs) {k : Nat} (hk : v.ownBlock = some k) : base ≤ k ∧ k < w.heap.size := by
  obtain ⟨kv, ho⟩ := h.row
  exact own_lt ho hk
set_option maxHeartbeats 8000000 in
theorem read (w : World) (F : Nat → Prop) (A : Option Addr) (n c : Nat) (l : List UInt8) (hl : Reads w F 1 A n (u8s l)) (hF : ∀ b, F b → b < w.heap.size) (hnc : n ≤ c) (hn : n ≤ 1048576) :
    Calls Try.prog 26 #[.slice A n c] w fun e w' => ∃ v, e = .returned (.tuple #[v, .int .i64 ((readF l).2.1 : Int), .int .i64 (readF l).2.2]) ∧ Recs w' w.heap.size v (readF l).1 ∧ New w w' := by
  have hln := hl.u8len
  have C := Lib.hid (Frame.all_ w F A n c l hl hF hnc (by omega) (by omega))
  obtain ⟨_, _, hsmall⟩ := Frame.allF_inv l
  have hmany := Frame.allF_len l
  have hRF : readF l = readGo (Frame.allF l).2.1 (Frame.allF l).2.2 (Frame.allF l).1 0 [] := rfl
  rw [hln] at hmany
  generalize (Frame.allF l).2.1 = en at *
  generalize (Frame.allF l).2.2 = er at *
  generalize (Frame.allF l).1 = ps at *
  generalize readF l = R at *
  have HRF := Lib.hid hRF
  have HSM := Lib.hid hsmall
  clear hl hRF hsmall hln
  go_enter Try.func26, Try.ntmps26
  go_wp2_with fail
  refine C.out.mono ?_
  rintro e w1 ⟨v, rfl, hp, n1⟩
  obtain ⟨m, hm⟩ : ∃ m, ps.length = m := ⟨_, rfl⟩
  have HM := Lib.hid hm
  obtain ⟨Ap, cp, hvf⟩ := hp.form
  rw [hm] at hmany hvf
  subst hvf
  have HP := Lib.hid hp
  clear C hp hm
  go_wp2_with fail
  have hs1 := n1.size
  go_loopw [2, 3, 4, 8, 9, 11, 20] (fun _ _ _ o0 at0 _ i wr => ∃ (k at_ : Nat) (vo : Value) (out : List Rec), vo = o0 ∧ k ≤ m ∧ i = .int .i64 k ∧ at0 = .int .i64 at_ ∧ at_ ≤ k * 1048585 ∧ out.length ≤ k ∧ readGo en er (ps.drop k) at_ out = R ∧ Recs wr w.heap.size vo out ∧ (∀ g, vo.ownBlock = some g → w1.heap.size ≤ g) ∧ New w1 wr) (fun _ _ _ _ _ _ i _ => m - (intOf i).toNat)
  case atStart => exact ⟨0, 0, _, [], rfl, by omega, rfl, rfl, by omega, by simp, HRF.out.symm, Recs.nil _ _, (fun g h => by cases h), Chg.refl _ _⟩
  case round =>
    obtain ⟨k, at_, vo, out, rfl, hk, rfl, rfl, hat, hol, hgo, hrec, hvo, hnw⟩ := hrel
    by_cases hlt : k < m
    · obtain ⟨g, cg, u, hv, hcell, hu⟩ := HP.out.at_ (i := k) (by rw [HM.out]; exact hlt)
      have hkl : k < ps.length := by rw [HM.out]; exact hlt
      have hsmk := HSM.out ps[k] (List.getElem_mem hkl)
      have hdr : ps.drop k = ps[k] :: ps.drop (k + 1) := (List.getElem_cons_drop hkl).symm
      rw [hdr] at hgo
      clear hdr
      generalize ps[k] = p at *
      injection hv with hA hn2 hc2
      subst hA
      clear hn2 hc2
      have hcw := (hnw.cell (p := ⟨g, k, none⟩) (block_lt_of_cell hcell) id).trans hcell
      have hu2 := hu.new hnw
      obtain ⟨A3, c3, rfl, hl3, hr3⟩ := hu2
      obtain ⟨n3, hn3⟩ : ∃ n3, p.length = n3 := ⟨_, rfl⟩
      rw [hn3] at hl3 hr3 hcw hsmk
      clear hu hcell
      cases p with
      | nil =>
        obtain rfl : n3 = 0 := hn3.symm
        have hR : R = (out, at_, 2) := hgo.symm
        subst hR
        have HQ := Lib.hid (And.intro hrec (n1.trans hnw fun _ _ => id))
        clear hrec hnw hgo hr3
        go_wp2_with fail
        go_ret3
        exact ⟨_, rfl, HQ.out⟩
      | cons k0 d =>
        obtain ⟨nd, hnd⟩ : ∃ nd, d.length = nd := ⟨_, rfl⟩
        have h31 : n3 = nd + 1 := by rw [← hn3, ← hnd]; rfl
        subst h31
        obtain ⟨ad3, ch, rfl, hFb, hch, hc0⟩ := hr3.byte (k := 0) (by omega)
        injection hch with hch
        subst hch
        have hc0' : wr.cell? ad3 = some (.int .u8 (k0.toNat : Int)) := by rw [← hc0]; simp [Addr.add]
        have hcut := hr3.cutB (k := 1) (c := c3) (by omega) hl3
        have hsl0 := fun W => slice_u8_from (some ad3) (nd + 1) c3 1 (by omega) W
        rw [Nat.add_sub_cancel] at hcut
        rw [Nat.add_sub_cancel] at hsl0
        obtain ⟨A1, hA1⟩ : ∃ A1, (if c3 = 1 then some ad3 else (some ad3).map (·.add 1)) = A1 := ⟨_, rfl⟩
        rw [hA1] at hcut
        have hsl : ∀ W, (Instr.sliceAt 36 (.slice (some ad3) (nd + 1) c3) (some (.int .i64 1)) none none).run Try.prog W = .ok (.slice A1 nd (c3 - 1)) W := fun W => by
          have h := hsl0 W
          rw [hA1] at h
          exact h
        have HU := Lib.hid (show Part wr.drew (fun b => w.heap.size ≤ b ∧ b < w1.heap.size) (.slice A1 nd (c3 - 1)) d from ⟨A1, c3 - 1, by rw [hnd], by rw [hnd]; omega, by rw [hnd]; exact (show Reads wr.drew (fun b => w.heap.size ≤ b ∧ b < w1.heap.size ∧ (Value.slice (some ⟨g, 0, none⟩) m cp).ownBlock ≠ some b) 1 A1 nd (u8s d) from ⟨hcut.len, hcut.at0⟩).mono fun b hb => ⟨hb.1, hb.2.1⟩⟩)
        obtain ⟨c4, hc4⟩ : ∃ c4, c3 - 1 = c4 := ⟨_, rfl⟩
        rw [hc4] at HU
        simp only [hc4] at hsl
        have F := Lib.hid (fun W (hW : Chg (fun g => vo.ownBlock = some g) wr.drew W) => And.intro ((hW.cell (p := ad3) (block_lt_of_cell hc0') (fun e => by have := hvo _ e; have := hFb.2.1; omega)).trans (show wr.drew.cell? ad3 = _ from hc0')) (hsl W))
        have HG := Lib.hid hgo
        have HRC := Lib.hid hrec
        have hswr := hnw.size
        have HNWd := Lib.hid (show New wr wr.drew from (Chg.refl _ _).drew)
        have HNW2 := Lib.hid (show New w1 wr.drew from hnw.drew)
        have HGG := Lib.hid (show ∀ b, w.heap.size ≤ b ∧ b < w1.heap.size → w.heap.size ≤ b ∧ b < (wr.drew.alloc (.cells #[.int .u8 (k0.toNat : Int), .slice A1 nd c4] 39)).heap.size ∧ vo.ownBlock ≠ some b from fun b hb => ⟨hb.1, by rw [World.size_alloc]; exact Nat.lt_succ_of_lt (Nat.lt_of_lt_of_le hb.2 hswr), fun e => by have := hvo _ e; omega⟩)
        have HSZ := Lib.hid (show w.heap.size ≤ wr.drew.heap.size + 1 from Nat.le_succ_of_le (Nat.le_trans hs1 hswr))
        have HVO := Lib.hid hvo
        clear hr3 hcut hsl hsl0 hA1 hc4 hc0 hc0' hgo
        go_wp2_with fail
        refine grow_start (fun g => vo.ownBlock = some g) (by kernel_rfl) ?_
        refine grow_take (i := 0) (oi := { dst := some 29, op := Op.move (Operand.tmp 8), type := 22, pos := "journal.go:40", after := #[], guard := none }) (v := ?_) rfl (by kernel_rfl) (by kernel_rfl) (by kernel_rfl) (by rfl) ?_ ?_; rotate_left; focus ((intro W hW; go_simp) <;> with_reducible rfl)
        simp only [Act.put, List.setIfInBounds_toArray, List.set_cons_zero, List.set_cons_succ]
        refine grow_take (i := 1) (oi := { dst := some 30, op := Op.move (Operand.tmp 11), type := 36, pos := "journal.go:40", after := #[], guard := none }) (v := ?_) rfl (by kernel_rfl) (by kernel_rfl) (by kernel_rfl) (by rfl) ?_ ?_; rotate_left; focus ((intro W hW; go_simp) <;> with_reducible rfl)
        simp only [Act.put, List.setIfInBounds_toArray, List.set_cons_zero, List.set_cons_succ]
        refine grow_take (i := 2) (oi := { dst := some 31, op := Op.indexAddr 36 (Operand.tmp 30) (Operand.const (Value.int IntKind.i64 0)), type := 0, pos := "journal.go:40", after := #[{ on := 1, ground := Ground.data }], guard := none }) (v := ?_) rfl (by kernel_rfl) (by kernel_rfl) (by kernel_rfl) (by rfl) ?_ ?_; rotate_left; focus ((intro W hW; have fct := F.out W hW; go_simp) <;> with_reducible rfl)
        simp only [Act.put, List.setIfInBounds_toArray, List.set_cons_zero, List.set_cons_succ]
        refine grow_take (i := 3) (oi := { dst := some 32, op := Op.load 5 (Operand.tmp 31), type := 5, pos := "journal.go:40", after := #[{ on := 2, ground := Ground.data }], guard := none }) (v := ?_) rfl (by kernel_rfl) (by kernel_rfl) (by kernel_rfl) (by rfl) ?_ ?_; rotate_left; focus ((intro W hW; have fct := F.out W hW; go_simp) <;> with_reducible rfl)
        simp only [Act.put, List.setIfInBounds_toArray, List.set_cons_zero, List.set_cons_succ]
        refine grow_take (i := 4) (oi := { dst := some 33, op := Op.move (Operand.tmp 11), type := 36, pos := "journal.go:40", after := #[], guard := none }) (v := ?_) rfl (by kernel_rfl) (by kernel_rfl) (by kernel_rfl) (by rfl) ?_ ?_; rotate_left; focus ((intro W hW; go_simp) <;> with_reducible rfl)
        simp only [Act.put, List.setIfInBounds_toArray, List.set_cons_zero, List.set_cons_succ]
        refine grow_take (i := 5) (oi := { dst := some 34, op := Op.slice 36 (Operand.tmp 33) (some (Operand.const (Value.int IntKind.i64 1))) none none, type := 36, pos := "journal.go:40", after := #[{ on := 4, ground := Ground.data }], guard := none }) (v := ?_) rfl (by kernel_rfl) (by kernel_rfl) (by kernel_rfl) (by rfl) ?_ ?_; rotate_left; focus ((intro W hW; have fct := F.out W hW; go_simp) <;> with_reducible rfl)
        simp only [Act.put, List.setIfInBounds_toArray, List.set_cons_zero, List.set_cons_succ]
        refine grow_take (i := 6) (oi := { dst := some 35, op := Op.build 39 #[(0, Operand.tmp 32), (1, Operand.tmp 34)], type := 39, pos := "journal.go:40", after := #[{ on := 3, ground := Ground.data }, { on := 5, ground := Ground.data }], guard := none }) (v := ?_) rfl (by kernel_rfl) (by kernel_rfl) (by kernel_rfl) (by rfl) ?_ ?_; rotate_left; focus ((intro W hW; go_simp) <;> with_reducible rfl)
        simp only [Act.put, List.setIfInBounds_toArray, List.set_cons_zero, List.set_cons_succ]
        refine grow_next (i := 7) (oi := { dst := some 36, op := Op.buildSlice 22 1 #[(0, Operand.tmp 35)], type := 22, pos := "journal.go:40", after := #[{ on := 6, ground := Ground.data }], guard := none }) (by kernel_rfl) rfl (by rfl) (fun K hK => ?_)
        go_simp
        refine hK _ _ ((Chg.refl _ _).alloc _) ?_
        clear hK K
        try simp only [Act.put, List.setIfInBounds_toArray, List.set_cons_zero, List.set_cons_succ]
        have m5 := ((Chg.refl (fun _ => False) wr.drew).alloc (.cells #[.int .u8 (k0.toNat : Int), .slice A1 nd c4] 39))
        refine grow_next (i := 8) (oi := { dst := some 37, op := Op.call { callee := Callee.builtin Builtin.append, args := #[Operand.tmp 29, Operand.tmp 36], argTypes := #[22, 22] }, type := 22, pos := "journal.go:40", after := #[{ on := 0, ground := Ground.data }, { on := 7, ground := Ground.data }], guard := none }) (by kernel_rfl) rfl (by rfl) (fun K hK => ?_)
        refine wp_append_rec _ (.tmp 29) (.tmp 36) rfl w.heap.size vo out (by rfl) ((HRC.out.new (HNWd.out)).new m5) (.slice A1 nd c4) (k0, d) _ (Part.new HU.out m5) (fun b hb => HGG.out b hb) _ 1 (by rfl) (Reads.of_row (n := 1) (size := 2) (heap_alloc_new wr.drew _) (by simp)) (by omega) (by simpa using HSZ.out) ?_
        intro v6 w6 o6 g6 a6
        refine hK _ _ ((Chg.refl _ _).grown g6 fun g e _ => e) ?_
        clear hK K
        try simp only [Act.put, List.setIfInBounds_toArray, List.set_cons_zero, List.set_cons_succ]
        have m6 : New w1 w6 := (HNW2.out.trans m5 fun _ _ => id).grown g6 fun g e hlt => by have := HVO.out _ e; omega
        refine grow_take (i := 9) (oi := { dst := some 8, op := Op.assign (Operand.tmp 37), type := 22, pos := "journal.go:40", after := #[{ on := 8, ground := Ground.data }, { on := 8, ground := Ground.chain }, { on := 0, ground := Ground.phase }, { on := 1, ground := Ground.phase }, { on := 2, ground := Ground.phase }, { on := 3, ground := Ground.phase }, { on := 4, ground := Ground.phase }, { on := 5, ground := Ground.phase }, { on := 6, ground := Ground.phase }, { on := 7, ground := Ground.phase }, { on := 8, ground := Ground.phase }], guard := none }) (v := ?_) rfl (by kernel_rfl) (by kernel_rfl) (by kernel_rfl) (by rfl) ?_ ?_; rotate_left; focus ((intro W hW; go_simp) <;> with_reducible rfl)
        simp only [Act.put, List.setIfInBounds_toArray, List.set_cons_zero, List.set_cons_succ]
        refine grow_done (by kernel_rfl) ?_ _
        have hgo2 : readGo en er (ps.drop (k + 1)) (at_ + (nd + 9)) (out ++ [(k0, d)]) = R := by
          have h := HG.out
          rw [readGo, hnd] at h
          exact h
        have k1 := Frame.size w6 ((nd : Int) + 1) (by omega)
        rw [if_pos (by omega)] at k1
        have K1 := Lib.hid k1
        have hs6 := HNW2.out.size
        have hvo6 : ∀ g, v6.ownBlock = some g → w1.heap.size ≤ g := fun g e => by
          rcases a6 with h | h
          · exact HVO.out g (h ▸ e)
          · rw [e] at h
            injection h with h
            rw [h]
            simp only [World.drew, World.size_alloc] at hs6 ⊢
            omega
        have H6 := Lib.hid (And.intro hgo2 (And.intro o6 (And.intro hvo6 m6)))
        clear hgo2 k1 o6 g6 a6 m6 m5 hrec hnw
        go_wp2_with fail
        refine K1.out.mono ?_
        rintro e w7 ⟨rfl, rfl⟩
        go_wp2_with fail
        go_roundw
        case rel =>
          exact ⟨k + 1, at_ + (nd + 9), v6, out ++ [(k0, d)], rfl, by omega, by go_num, by go_num, by omega, by simp; omega, H6.out.1, H6.out.2.1, H6.out.2.2.1, H6.out.2.2.2⟩
        case measure => simp [intOf]; omega
    · obtain rfl : k = m := by omega
      rw [List.drop_eq_nil_of_le (by have := HM.out; omega)] at hgo
      have hR : R = (out, en, er) := hgo.symm
      subst hR
      have HQ := Lib.hid (And.intro hrec (n1.trans hnw fun _ _ => id))
      clear hrec hnw hgo
      go_wp2_with fail
      go_ret3
      exact ⟨_, rfl, HQ.out⟩
end Journal
end Go.Proofs.Ythgpphedpegbgaa
