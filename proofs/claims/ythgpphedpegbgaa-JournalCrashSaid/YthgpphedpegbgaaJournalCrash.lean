/-
  hedgerowlaw11.JournalCrash returns true for every input: a crash leaves all synced records, and some of the first of the others (no condition).
-/
import Derived.Test.YthgpphedpegbgaaJournalLaid
namespace Go.Proofs.Ythgpphedpegbgaa
open Go.ChangeShapes Go.WideShapes Go.RowKit Go.Deep
namespace Journal
open Go.Proofs.Ythgpphedpegbgaa.Frame (Part Parts PartsL Part.chg Part.new)
open Go.Proofs.Ythgpphedpegbgaa.Disk (Dsk At Post Foot ptr)
attribute [local go_sem ↓] loadOnly0
theorem endR_mono (rs : List Rec) {i j : Nat} (h : i ≤ j) : endR rs i ≤ endR rs j := Frame.endAt_mono _ h
theorem RecsR.rec_ {w : World} {A : Option Addr} {n c : Nat} {rs : List Rec} (h : RecsR w (.slice A n c) rs) {i : Nat} {r : Rec} (hi : rs[i]? = some r) : RecAt w A i r := by
  obtain ⟨A', c', hv, _, hr⟩ := h.ex
  injection hv with h1 h2 h3
  subst h1
  exact hr i r hi
set_option maxHeartbeats 20000000 in
set_option maxRecDepth 100000 in
theorem crashes (w : World) (v : Value) (rs : List Rec) (h : RecsR w v rs) (hn : rs.length ≤ 140737488351232) (S : Nat) (hS : S < 256) (kp at_ : Nat) (hkp : kp < 65536) (hat : at_ < 65536) (y : UInt8) :
    Calls Try.prog 6 #[v, .int .u8 (S : Int), .int .u16 (kp : Int), .int .u16 (at_ : Int), .int .u8 (y.toNat : Int)] w fun e w' => LawEnd w e w' := by
  have h0 := h
  obtain ⟨A, c, rfl, hnc, _⟩ := h0.ex
  clear h0
  go_enter Try.func6, Try.ntmps6
  go_wp2_with fail
  refine (fixed _).mono ?_
  rintro e w1 ⟨rfl, n1⟩
  have H0 := Lib.hid h
  have R1 := Lib.hid (h.new n1)
  have N1 := Lib.hid n1
  clear h n1
  go_wp2_with fail
  refine (few_ w1 _ _ R1.out hn).mono ?_
  rintro e w2 ⟨ok, rfl, hok, n2⟩
  have R2 := Lib.hid (R1.out.new n2)
  have N2 := Lib.hid (N1.out.trans n2 fun _ _ => id)
  have HOK := Lib.hid hok
  clear R1 N1 n2 hok
  cases ok with
  | false =>
    go_wp2_with fail
    go_ret
    exact ⟨rfl, N2.out⟩
  | true =>
    have hf := HOK.out rfl
    have hsm := hf.small
    obtain ⟨n, hnn⟩ : ∃ n, rs.length = n := ⟨_, rfl⟩
    have HN := Lib.hid hnn
    obtain ⟨s, hs⟩ : ∃ s, S % (n + 1) = s := ⟨_, rfl⟩
    have hsn : s ≤ n := by rw [← hs]; exact Nat.le_of_lt_succ (Nat.mod_lt _ (by omega))
    have hmod : (S : Int) % ((n : Int) + 1) = (s : Int) := by rw [← hs]; rfl
    have C := laid w2 _ rs s R2.out hf (by omega)
    have hmk : endR rs (min s rs.length) = endR rs s := by rw [Nat.min_eq_left (by omega)]
    have hn20 := hf.1
    rw [hmk] at C
    rw [hnn] at hn hnc hn20 C
    rw [hnn]
    have CL := Lib.hid C
    have HF := Lib.hid hf
    clear hnn hf HOK hs hmk C
    go_wp2_with fail
    refine CL.out.mono ?_
    rintro e w3 ⟨b, vd, ve, rfl, h3, e3, n3⟩
    obtain ⟨K, hK⟩ : ∃ K, kp % 600 = K := ⟨_, rfl⟩
    obtain ⟨P, hP⟩ : ∃ P, at_ % 600 = P := ⟨_, rfl⟩
    have hmK : (kp : Int) % 600 = (K : Int) := by omega
    have hmP : (at_ : Int) % 600 = (P : Int) := by omega
    have hKl : K < 600 := by omega
    have hPl : P < 600 := by omega
    have C2 := Lib.hid (Disk.crash _ _ _ _ _ h3 (K : Int) (P : Int) y (by omega) (by omega))
    have H3 := Lib.hid (And.intro h3 (And.intro e3 (N2.out.trans n3 fun _ _ => id)))
    have HMOD := Lib.hid hmod
    clear h3 e3 n3 hK hP CL hmod
    try rw [HMOD.out]
    go_wp2_with fail
    refine C2.out.mono ?_
    rintro e w4 ⟨rfl, v4, hv4, h4, c4⟩
    clear hmK hmP
    have e4 := own_chg H3.out.2.1 c4 fun g hg e => e.elim (fun e => own_ne H3.out.2.1 H3.out.1.blk (by decide) (e ▸ hg)) fun e => own_own H3.out.2.1 H3.out.1.own (by decide) hg e
    have n4 := H3.out.2.2.trans c4 fun k hk e => by have h1 := up_foot H3.out.1 e; have h2 := N2.out.size; omega
    obtain ⟨j, er, hsj, hjn, hrd⟩ := read_crash hsm (n := s) (by rw [HN.out]; exact hsn) (K : Int) (P : Int) y
    have hds : (Disk.crashF ⟨catR rs, endR rs s⟩ (K : Int) (P : Int) y).s = endR rs s := by unfold Disk.crashF; rfl
    have hmono := endR_mono rs hsj
    obtain ⟨_, hlen, _⟩ := read_inv (Disk.crashF ⟨catR rs, endR rs s⟩ (K : Int) (P : Int) y).b
    have C3 := recover _ _ _ _ _ h4 h4.blk.lt (.inr (by rw [hds, hrd]; exact hmono))
    rw [hrd] at hlen
    simp only [hrd] at C3 hlen
    have C3 := Lib.hid C3
    have hel : ((Disk.crashF ⟨catR rs, endR rs s⟩ (K : Int) (P : Int) y).b.take (endR rs j)).length = endR rs j := by rw [List.length_take, Nat.min_eq_left hlen]
    have HEL := Lib.hid hel
    have H4 := Lib.hid (And.intro h4 (And.intro e4 n4))
    rw [HN.out] at hjn
    have HSM := Lib.hid hsm
    clear h4 e4 n4 c4 hrd hds hmono hlen hel C2 hsm
    go_wp2_with fail
    refine C3.out.mono ?_
    rintro e w5 ⟨u, rfl, hrec, v5, h5, c5, k5⟩
    have n5 := H4.out.2.2.trans c5 fun k hk e => by have h1 := up_foot H4.out.1 e; have h2 := N2.out.size; omega
    have e5 := own_chg H4.out.2.1 c5 fun g hg e => e.elim (fun e => own_ne H4.out.2.1 H4.out.1.blk (by decide) (e ▸ hg)) fun e => own_own H4.out.2.1 H4.out.1.own (by decide) hg e
    have hlr : (rs.take j).length = j := by rw [List.length_take, HN.out]; omega
    obtain ⟨Au, cu, rfl, hcu, _⟩ := hrec.toR.ex
    rw [hlr] at hrec hcu ⊢
    obtain ⟨g, ce, rfl, hcell⟩ := ends_at (rs := rs) (by rw [HN.out]; exact e5)
    rw [HN.out] at hcell ⊢
    have C4 := Lib.hid (Disk.bytes _ _ _ _ _ h5.drew)
    have RG := Lib.hid (hrec.toR)
    have hlj : (rs.take j).length = j := hlr
    have N5 := Lib.hid n5
    obtain ⟨E, hE⟩ : ∃ E, endR rs j = E := ⟨_, rfl⟩
    have F := Lib.hid (fun W (hW : New w5.drew W) => show W.cell? ⟨g, j, none⟩ = some (.int .i64 (E : Int)) by rw [← hE]; exact hcell W ((Chg.refl _ w5).drew.trans hW fun _ _ => id) j hjn)
    have HEL2 := Lib.hid (HEL.out.trans hE)
    have hltj : (j : Int) < n + 1 := by omega
    have hgj : decide (n < j) = false := by simp; omega
    have hgs : decide (j < s) = false := by simp; omega
    have hgj2 : decide ((n : Int) < j) = false := by simp; omega
    have hgs2 : decide ((j : Int) < s) = false := by simp; omega
    clear hrec h5 c5 k5 n5 e5 hlr hcell C3 hE
    have HLJ := Lib.hid hlj
    clear hlj
    have hd5 := (Chg.refl (fun _ => False) w5).drew
    go_wp2_with fail
    try rw [HMOD.out]
    refine grow_start (fun _ => False) (by kernel_rfl) ?_
    refine grow_take (i := 0) (oi := { dst := some 49, op := Op.move (Operand.tmp 15), type := 31, pos := "law.go:106", after := #[], guard := none }) (v := ?_) rfl (by kernel_rfl) (by kernel_rfl) (by kernel_rfl) (by rfl) ?_ ?_; rotate_left; focus ((intro W hW; go_simp) <;> with_reducible rfl)
    simp only [Act.put, List.setIfInBounds_toArray, List.set_cons_zero, List.set_cons_succ]
    refine grow_take (i := 1) (oi := { dst := some 50, op := Op.binOp BinOp.neq 31 (Operand.tmp 49) (Operand.const (Value.int IntKind.i64 0)) 31, type := 4, pos := "law.go:106", after := #[{ on := 0, ground := Ground.data }], guard := none }) (v := ?_) rfl (by kernel_rfl) (by kernel_rfl) (by kernel_rfl) (by rfl) ?_ ?_; rotate_left; focus ((intro W hW; have fct := F.out W hW; go_simp) <;> with_reducible rfl)
    simp only [Act.put, List.setIfInBounds_toArray, List.set_cons_zero, List.set_cons_succ]
    refine grow_take (i := 2) (oi := { dst := some 51, op := Op.move (Operand.tmp 50), type := 4, pos := "law.go:106", after := #[{ on := 1, ground := Ground.data }], guard := none }) (v := ?_) rfl (by kernel_rfl) (by kernel_rfl) (by kernel_rfl) (by rfl) ?_ ?_; rotate_left; focus ((intro W hW; go_simp) <;> with_reducible rfl)
    simp only [Act.put, List.setIfInBounds_toArray, List.set_cons_zero, List.set_cons_succ]
    first | (refine grow_take (i := 3) (oi := { dst := some 52, op := Op.move (Operand.tmp 14), type := 22, pos := "law.go:106", after := #[{ on := 2, ground := Ground.guard }], guard := some (2, false) }) (v := ?_) rfl (by kernel_rfl) (by kernel_rfl) (by kernel_rfl) (by rfl) ?_ ?_; rotate_left; focus ((intro W hW; go_simp) <;> with_reducible rfl)) | refine grow_skip (i := 3) (oi := { dst := some 52, op := Op.move (Operand.tmp 14), type := 22, pos := "law.go:106", after := #[{ on := 2, ground := Ground.guard }], guard := some (2, false) }) rfl (by kernel_rfl) (by kernel_rfl) (by kernel_rfl) (by rfl) ?_ | fail "op 3"
    simp only [Act.put, List.setIfInBounds_toArray, List.set_cons_zero, List.set_cons_succ]
    first | (refine grow_take (i := 4) (oi := { dst := some 53, op := Op.call { callee := Callee.builtin Builtin.len, args := #[Operand.tmp 52], argTypes := #[22] }, type := 3, pos := "law.go:106", after := #[{ on := 3, ground := Ground.data }, { on := 2, ground := Ground.guard }], guard := some (2, false) }) (v := ?_) rfl (by kernel_rfl) (by kernel_rfl) (by kernel_rfl) (by rfl) ?_ ?_; rotate_left; focus ((intro W hW; have fct := F.out W hW; go_simp) <;> with_reducible rfl)) | refine grow_skip (i := 4) (oi := { dst := some 53, op := Op.call { callee := Callee.builtin Builtin.len, args := #[Operand.tmp 52], argTypes := #[22] }, type := 3, pos := "law.go:106", after := #[{ on := 3, ground := Ground.data }, { on := 2, ground := Ground.guard }], guard := some (2, false) }) rfl (by kernel_rfl) (by kernel_rfl) (by kernel_rfl) (by rfl) ?_ | fail "op 4"
    simp only [Act.put, List.setIfInBounds_toArray, List.set_cons_zero, List.set_cons_succ]
    first | (refine grow_take (i := 5) (oi := { dst := some 54, op := Op.move (Operand.tmp 11), type := 3, pos := "law.go:106", after := #[{ on := 2, ground := Ground.guard }], guard := some (2, false) }) (v := ?_) rfl (by kernel_rfl) (by kernel_rfl) (by kernel_rfl) (by rfl) ?_ ?_; rotate_left; focus ((intro W hW; go_simp) <;> with_reducible rfl)) | refine grow_skip (i := 5) (oi := { dst := some 54, op := Op.move (Operand.tmp 11), type := 3, pos := "law.go:106", after := #[{ on := 2, ground := Ground.guard }], guard := some (2, false) }) rfl (by kernel_rfl) (by kernel_rfl) (by kernel_rfl) (by rfl) ?_ | fail "op 5"
    simp only [Act.put, List.setIfInBounds_toArray, List.set_cons_zero, List.set_cons_succ]
    first | (refine grow_take (i := 6) (oi := { dst := some 55, op := Op.binOp BinOp.lss 3 (Operand.tmp 53) (Operand.tmp 54) 3, type := 4, pos := "law.go:106", after := #[{ on := 4, ground := Ground.data }, { on := 5, ground := Ground.data }, { on := 2, ground := Ground.guard }], guard := some (2, false) }) (v := ?_) rfl (by kernel_rfl) (by kernel_rfl) (by kernel_rfl) (by rfl) ?_ ?_; rotate_left; focus ((intro W hW; have fct := F.out W hW; go_simp) <;> with_reducible rfl)) | refine grow_skip (i := 6) (oi := { dst := some 55, op := Op.binOp BinOp.lss 3 (Operand.tmp 53) (Operand.tmp 54) 3, type := 4, pos := "law.go:106", after := #[{ on := 4, ground := Ground.data }, { on := 5, ground := Ground.data }, { on := 2, ground := Ground.guard }], guard := some (2, false) }) rfl (by kernel_rfl) (by kernel_rfl) (by kernel_rfl) (by rfl) ?_ | fail "op 6"
    simp only [Act.put, List.setIfInBounds_toArray, List.set_cons_zero, List.set_cons_succ]
    refine grow_take (i := 7) (oi := { dst := some 56, op := Op.pick (Operand.tmp 51) (Operand.const (Value.bool true)) (Operand.tmp 55), type := 4, pos := "law.go:106", after := #[{ on := 2, ground := Ground.data }, { on := 6, ground := Ground.data }], guard := none }) (v := ?_) rfl (by kernel_rfl) (by kernel_rfl) (by kernel_rfl) (by rfl) ?_ ?_; rotate_left; focus ((intro W hW; go_simp) <;> with_reducible rfl)
    simp only [Act.put, List.setIfInBounds_toArray, List.set_cons_zero, List.set_cons_succ]
    refine grow_take (i := 8) (oi := { dst := some 57, op := Op.move (Operand.tmp 56), type := 4, pos := "law.go:106", after := #[{ on := 7, ground := Ground.data }, { on := 2, ground := Ground.chain }], guard := none }) (v := ?_) rfl (by kernel_rfl) (by kernel_rfl) (by kernel_rfl) (by rfl) ?_ ?_; rotate_left; focus ((intro W hW; go_simp) <;> with_reducible rfl)
    simp only [Act.put, List.setIfInBounds_toArray, List.set_cons_zero, List.set_cons_succ]
    first | (refine grow_take (i := 9) (oi := { dst := some 58, op := Op.move (Operand.tmp 14), type := 22, pos := "law.go:106", after := #[{ on := 8, ground := Ground.guard }], guard := some (8, false) }) (v := ?_) rfl (by kernel_rfl) (by kernel_rfl) (by kernel_rfl) (by rfl) ?_ ?_; rotate_left; focus ((intro W hW; go_simp) <;> with_reducible rfl)) | refine grow_skip (i := 9) (oi := { dst := some 58, op := Op.move (Operand.tmp 14), type := 22, pos := "law.go:106", after := #[{ on := 8, ground := Ground.guard }], guard := some (8, false) }) rfl (by kernel_rfl) (by kernel_rfl) (by kernel_rfl) (by rfl) ?_ | fail "op 9"
    simp only [Act.put, List.setIfInBounds_toArray, List.set_cons_zero, List.set_cons_succ]
    first | (refine grow_take (i := 10) (oi := { dst := some 59, op := Op.call { callee := Callee.builtin Builtin.len, args := #[Operand.tmp 58], argTypes := #[22] }, type := 3, pos := "law.go:106", after := #[{ on := 9, ground := Ground.data }, { on := 8, ground := Ground.guard }], guard := some (8, false) }) (v := ?_) rfl (by kernel_rfl) (by kernel_rfl) (by kernel_rfl) (by rfl) ?_ ?_; rotate_left; focus ((intro W hW; have fct := F.out W hW; go_simp) <;> with_reducible rfl)) | refine grow_skip (i := 10) (oi := { dst := some 59, op := Op.call { callee := Callee.builtin Builtin.len, args := #[Operand.tmp 58], argTypes := #[22] }, type := 3, pos := "law.go:106", after := #[{ on := 9, ground := Ground.data }, { on := 8, ground := Ground.guard }], guard := some (8, false) }) rfl (by kernel_rfl) (by kernel_rfl) (by kernel_rfl) (by rfl) ?_ | fail "op 10"
    simp only [Act.put, List.setIfInBounds_toArray, List.set_cons_zero, List.set_cons_succ]
    first | (refine grow_take (i := 11) (oi := { dst := some 60, op := Op.move (Operand.tmp 0), type := 22, pos := "law.go:106", after := #[{ on := 8, ground := Ground.guard }], guard := some (8, false) }) (v := ?_) rfl (by kernel_rfl) (by kernel_rfl) (by kernel_rfl) (by rfl) ?_ ?_; rotate_left; focus ((intro W hW; go_simp) <;> with_reducible rfl)) | refine grow_skip (i := 11) (oi := { dst := some 60, op := Op.move (Operand.tmp 0), type := 22, pos := "law.go:106", after := #[{ on := 8, ground := Ground.guard }], guard := some (8, false) }) rfl (by kernel_rfl) (by kernel_rfl) (by kernel_rfl) (by rfl) ?_ | fail "op 11"
    simp only [Act.put, List.setIfInBounds_toArray, List.set_cons_zero, List.set_cons_succ]
    first | (refine grow_take (i := 12) (oi := { dst := some 61, op := Op.call { callee := Callee.builtin Builtin.len, args := #[Operand.tmp 60], argTypes := #[22] }, type := 3, pos := "law.go:106", after := #[{ on := 11, ground := Ground.data }, { on := 8, ground := Ground.guard }], guard := some (8, false) }) (v := ?_) rfl (by kernel_rfl) (by kernel_rfl) (by kernel_rfl) (by rfl) ?_ ?_; rotate_left; focus ((intro W hW; have fct := F.out W hW; go_simp) <;> with_reducible rfl)) | refine grow_skip (i := 12) (oi := { dst := some 61, op := Op.call { callee := Callee.builtin Builtin.len, args := #[Operand.tmp 60], argTypes := #[22] }, type := 3, pos := "law.go:106", after := #[{ on := 11, ground := Ground.data }, { on := 8, ground := Ground.guard }], guard := some (8, false) }) rfl (by kernel_rfl) (by kernel_rfl) (by kernel_rfl) (by rfl) ?_ | fail "op 12"
    simp only [Act.put, List.setIfInBounds_toArray, List.set_cons_zero, List.set_cons_succ]
    first | (refine grow_take (i := 13) (oi := { dst := some 62, op := Op.binOp BinOp.gtr 3 (Operand.tmp 59) (Operand.tmp 61) 3, type := 4, pos := "law.go:106", after := #[{ on := 10, ground := Ground.data }, { on := 12, ground := Ground.data }, { on := 8, ground := Ground.guard }], guard := some (8, false) }) (v := ?_) rfl (by kernel_rfl) (by kernel_rfl) (by kernel_rfl) (by rfl) ?_ ?_; rotate_left; focus ((intro W hW; have fct := F.out W hW; go_simp) <;> with_reducible rfl)) | refine grow_skip (i := 13) (oi := { dst := some 62, op := Op.binOp BinOp.gtr 3 (Operand.tmp 59) (Operand.tmp 61) 3, type := 4, pos := "law.go:106", after := #[{ on := 10, ground := Ground.data }, { on := 12, ground := Ground.data }, { on := 8, ground := Ground.guard }], guard := some (8, false) }) rfl (by kernel_rfl) (by kernel_rfl) (by kernel_rfl) (by rfl) ?_ | fail "op 13"
    simp only [Act.put, List.setIfInBounds_toArray, List.set_cons_zero, List.set_cons_succ]
    refine grow_take (i := 14) (oi := { dst := some 63, op := Op.pick (Operand.tmp 57) (Operand.const (Value.bool true)) (Operand.tmp 62), type := 4, pos := "law.go:106", after := #[{ on := 8, ground := Ground.data }, { on := 13, ground := Ground.data }], guard := none }) (v := ?_) rfl (by kernel_rfl) (by kernel_rfl) (by kernel_rfl) (by rfl) ?_ ?_; rotate_left; focus ((intro W hW; go_simp) <;> with_reducible rfl)
    simp only [Act.put, List.setIfInBounds_toArray, List.set_cons_zero, List.set_cons_succ]
    refine grow_take (i := 15) (oi := { dst := some 64, op := Op.move (Operand.tmp 63), type := 4, pos := "law.go:106", after := #[{ on := 14, ground := Ground.data }, { on := 8, ground := Ground.chain }], guard := none }) (v := ?_) rfl (by kernel_rfl) (by kernel_rfl) (by kernel_rfl) (by rfl) ?_ ?_; rotate_left; focus ((intro W hW; go_simp) <;> with_reducible rfl)
    simp only [Act.put, List.setIfInBounds_toArray, List.set_cons_zero, List.set_cons_succ]
    first | (refine grow_take (i := 16) (oi := { dst := some 65, op := Op.move (Operand.tmp 12), type := 26, pos := "law.go:106", after := #[{ on := 15, ground := Ground.guard }], guard := some (15, false) }) (v := ?_) rfl (by kernel_rfl) (by kernel_rfl) (by kernel_rfl) (by rfl) ?_ ?_; rotate_left; focus ((intro W hW; go_simp) <;> with_reducible rfl)) | refine grow_skip (i := 16) (oi := { dst := some 65, op := Op.move (Operand.tmp 12), type := 26, pos := "law.go:106", after := #[{ on := 15, ground := Ground.guard }], guard := some (15, false) }) rfl (by kernel_rfl) (by kernel_rfl) (by kernel_rfl) (by rfl) ?_ | fail "op 16"
    simp only [Act.put, List.setIfInBounds_toArray, List.set_cons_zero, List.set_cons_succ]
    first | (refine grow_take (i := 19) (oi := { dst := some 68, op := Op.move (Operand.tmp 13), type := 27, pos := "law.go:106", after := #[{ on := 15, ground := Ground.guard }], guard := some (15, false) }) (v := ?_) rfl (by kernel_rfl) (by kernel_rfl) (by kernel_rfl) (by rfl) ?_ ?_; rotate_left; focus ((intro W hW; go_simp) <;> with_reducible rfl)) | refine grow_skip (i := 19) (oi := { dst := some 68, op := Op.move (Operand.tmp 13), type := 27, pos := "law.go:106", after := #[{ on := 15, ground := Ground.guard }], guard := some (15, false) }) rfl (by kernel_rfl) (by kernel_rfl) (by kernel_rfl) (by rfl) ?_ | fail "op 19"
    simp only [Act.put, List.setIfInBounds_toArray, List.set_cons_zero, List.set_cons_succ]
    first | (refine grow_take (i := 20) (oi := { dst := some 69, op := Op.move (Operand.tmp 14), type := 22, pos := "law.go:106", after := #[{ on := 15, ground := Ground.guard }], guard := some (15, false) }) (v := ?_) rfl (by kernel_rfl) (by kernel_rfl) (by kernel_rfl) (by rfl) ?_ ?_; rotate_left; focus ((intro W hW; go_simp) <;> with_reducible rfl)) | refine grow_skip (i := 20) (oi := { dst := some 69, op := Op.move (Operand.tmp 14), type := 22, pos := "law.go:106", after := #[{ on := 15, ground := Ground.guard }], guard := some (15, false) }) rfl (by kernel_rfl) (by kernel_rfl) (by kernel_rfl) (by rfl) ?_ | fail "op 20"
    simp only [Act.put, List.setIfInBounds_toArray, List.set_cons_zero, List.set_cons_succ]
    first | (refine grow_take (i := 21) (oi := { dst := some 70, op := Op.call { callee := Callee.builtin Builtin.len, args := #[Operand.tmp 69], argTypes := #[22] }, type := 3, pos := "law.go:106", after := #[{ on := 20, ground := Ground.data }, { on := 15, ground := Ground.guard }], guard := some (15, false) }) (v := ?_) rfl (by kernel_rfl) (by kernel_rfl) (by kernel_rfl) (by rfl) ?_ ?_; rotate_left; focus ((intro W hW; have fct := F.out W hW; go_simp) <;> with_reducible rfl)) | refine grow_skip (i := 21) (oi := { dst := some 70, op := Op.call { callee := Callee.builtin Builtin.len, args := #[Operand.tmp 69], argTypes := #[22] }, type := 3, pos := "law.go:106", after := #[{ on := 20, ground := Ground.data }, { on := 15, ground := Ground.guard }], guard := some (15, false) }) rfl (by kernel_rfl) (by kernel_rfl) (by kernel_rfl) (by rfl) ?_ | fail "op 21"
    simp only [Act.put, List.setIfInBounds_toArray, List.set_cons_zero, List.set_cons_succ]
    first | (refine grow_take (i := 22) (oi := { dst := some 71, op := Op.indexAddr 27 (Operand.tmp 68) (Operand.tmp 70), type := 0, pos := "law.go:106", after := #[{ on := 19, ground := Ground.data }, { on := 21, ground := Ground.data }, { on := 15, ground := Ground.guard }], guard := some (15, false) }) (v := ?_) rfl (by kernel_rfl) (by kernel_rfl) (by kernel_rfl) (by rfl) ?_ ?_; rotate_left; focus ((intro W hW; have fct := F.out W hW; go_simp) <;> with_reducible rfl)) | refine grow_skip (i := 22) (oi := { dst := some 71, op := Op.indexAddr 27 (Operand.tmp 68) (Operand.tmp 70), type := 0, pos := "law.go:106", after := #[{ on := 19, ground := Ground.data }, { on := 21, ground := Ground.data }, { on := 15, ground := Ground.guard }], guard := some (15, false) }) rfl (by kernel_rfl) (by kernel_rfl) (by kernel_rfl) (by rfl) ?_ | fail "op 22"
    simp only [Act.put, List.setIfInBounds_toArray, List.set_cons_zero, List.set_cons_succ]
    first | (refine grow_take (i := 23) (oi := { dst := some 72, op := Op.load 3 (Operand.tmp 71), type := 3, pos := "law.go:106", after := #[{ on := 22, ground := Ground.data }, { on := 15, ground := Ground.guard }], guard := some (15, false) }) (v := ?_) rfl (by kernel_rfl) (by kernel_rfl) (by kernel_rfl) (by rfl) ?_ ?_; rotate_left; focus ((intro W hW; have fct := F.out W hW; go_simp) <;> with_reducible rfl)) | refine grow_skip (i := 23) (oi := { dst := some 72, op := Op.load 3 (Operand.tmp 71), type := 3, pos := "law.go:106", after := #[{ on := 22, ground := Ground.data }, { on := 15, ground := Ground.guard }], guard := some (15, false) }) rfl (by kernel_rfl) (by kernel_rfl) (by kernel_rfl) (by rfl) ?_ | fail "op 23"
    simp only [Act.put, List.setIfInBounds_toArray, List.set_cons_zero, List.set_cons_succ]
    refine grow_next (i := 17) (oi := { dst := some 66, op := Op.call { callee := Callee.value (Operand.func 15), args := #[Operand.tmp 65], argTypes := #[26] }, type := 36, pos := "law.go:106", after := #[{ on := 16, ground := Ground.data }, { on := 15, ground := Ground.chain }, { on := 15, ground := Ground.guard }], guard := some (15, false) }) (by kernel_rfl) rfl (by rfl) (fun K hK => ?_)
    go_simp
    refine C4.out.mono ?_
    rintro e w6 ⟨x6, rfl, ho, n6⟩
    obtain ⟨A6, c6, rfl, _, _, _, _⟩ := OwnB.form ho
    rw [HEL2.out]
    refine hK _ _ n6 ?_
    clear hK K
    try simp only [Act.put, List.setIfInBounds_toArray, List.set_cons_zero, List.set_cons_succ]
    have n6' := hd5.trans n6 fun _ _ => id
    have F6 := Lib.hid (fun W (_ : New w6 W) => True.intro)
    clear ho n6
    first | (refine grow_take (i := 18) (oi := { dst := some 67, op := Op.call { callee := Callee.builtin Builtin.len, args := #[Operand.tmp 66], argTypes := #[36] }, type := 3, pos := "law.go:106", after := #[{ on := 17, ground := Ground.data }, { on := 15, ground := Ground.guard }], guard := some (15, false) }) (v := ?_) rfl (by kernel_rfl) (by kernel_rfl) (by kernel_rfl) (by rfl) ?_ ?_; rotate_left; focus ((intro W hW; have fct := F6.out W hW; go_simp) <;> with_reducible rfl)) | refine grow_skip (i := 18) (oi := { dst := some 67, op := Op.call { callee := Callee.builtin Builtin.len, args := #[Operand.tmp 66], argTypes := #[36] }, type := 3, pos := "law.go:106", after := #[{ on := 17, ground := Ground.data }, { on := 15, ground := Ground.guard }], guard := some (15, false) }) rfl (by kernel_rfl) (by kernel_rfl) (by kernel_rfl) (by rfl) ?_ | fail "op 18"
    simp only [Act.put, List.setIfInBounds_toArray, List.set_cons_zero, List.set_cons_succ]
    first | (refine grow_take (i := 24) (oi := { dst := some 73, op := Op.binOp BinOp.neq 3 (Operand.tmp 67) (Operand.tmp 72) 3, type := 4, pos := "law.go:106", after := #[{ on := 18, ground := Ground.data }, { on := 23, ground := Ground.data }, { on := 15, ground := Ground.guard }], guard := some (15, false) }) (v := ?_) rfl (by kernel_rfl) (by kernel_rfl) (by kernel_rfl) (by rfl) ?_ ?_; rotate_left; focus ((intro W hW; have fct := F6.out W hW; go_simp) <;> with_reducible rfl)) | refine grow_skip (i := 24) (oi := { dst := some 73, op := Op.binOp BinOp.neq 3 (Operand.tmp 67) (Operand.tmp 72) 3, type := 4, pos := "law.go:106", after := #[{ on := 18, ground := Ground.data }, { on := 23, ground := Ground.data }, { on := 15, ground := Ground.guard }], guard := some (15, false) }) rfl (by kernel_rfl) (by kernel_rfl) (by kernel_rfl) (by rfl) ?_ | fail "op 24"
    simp only [Act.put, List.setIfInBounds_toArray, List.set_cons_zero, List.set_cons_succ]
    refine grow_take (i := 25) (oi := { dst := some 74, op := Op.pick (Operand.tmp 64) (Operand.const (Value.bool true)) (Operand.tmp 73), type := 4, pos := "law.go:106", after := #[{ on := 15, ground := Ground.data }, { on := 24, ground := Ground.data }], guard := none }) (v := ?_) rfl (by kernel_rfl) (by kernel_rfl) (by kernel_rfl) (by rfl) ?_ ?_; rotate_left; focus ((intro W hW; go_simp) <;> with_reducible rfl)
    simp only [Act.put, List.setIfInBounds_toArray, List.set_cons_zero, List.set_cons_succ]
    refine grow_done (by kernel_rfl) ?_ _
    have RG6 := Lib.hid (RG.out.new n6')
    have N6 := Lib.hid (N5.out.trans n6' fun _ _ => id)
    have RL6 := Lib.hid (H0.out.new N6.out)
    clear n6' hd5 F
    go_wp2_with fail
    go_loopw [16, 17, 77] (fun _ _ i wr => ∃ (q : Nat), q ≤ j ∧ i = .int .i64 q ∧ New w6 wr) (fun _ _ i _ => j - (intOf i).toNat)
    case atStart => exact ⟨0, by omega, rfl, Chg.refl _ _⟩
    case round =>
      obtain ⟨q, hq, rfl, hnw⟩ := hrel
      by_cases hlt : q < j
      · obtain ⟨r, hr⟩ : ∃ r, rs[q]? = some r := ⟨_, List.getElem?_eq_getElem (by rw [HN.out]; omega)⟩
        have hr2 : (rs.take j)[q]? = some r := by rw [List.getElem?_take, if_pos hlt]; exact hr
        obtain ⟨a2, u2, rfl, f2⟩ := RL6.out.at_ hr
        obtain ⟨a1, A3, c3, rfl, hl3, hall⟩ := RG6.out.rec_ hr2
        obtain ⟨kind, data⟩ := r
        simp only at f2 hl3 hall
        have hld := (hall wr hnw).1
        have hbx := Blk.new wr 39 #[.int .u8 (kind.toNat : Int), .slice A3 data.length c3]
        have m1 := hnw.alloc (.cells #[.int .u8 (kind.toNat : Int), .slice A3 data.length c3] 39)
        obtain ⟨X2, hX2⟩ : ∃ X, a2.add (q * 2) = X := ⟨_, rfl⟩
        have F := Lib.hid (fun W (hW : New (wr.alloc (.cells #[.int .u8 (kind.toNat : Int), .slice A3 data.length c3] 39)).drew W) => by
          have hW1 := (Chg.refl (fun _ => False) (wr.alloc (.cells #[.int .u8 (kind.toNat : Int), .slice A3 data.length c3] 39))).drew.trans hW fun _ _ => id
          have hW6 := m1.trans hW1 fun _ _ => id
          obtain ⟨b1, b2, b3⟩ := f2 W hW6
          rw [hX2] at b1
          rw [← add_of_add, hX2] at b2
          have hb := hbx.chg hW1 id
          exact (show (W.cell? ⟨wr.heap.size, 0, none⟩ = some (.int .u8 (kind.toNat : Int)) ∧ W.cell? ⟨wr.heap.size, 1, none⟩ = some (.slice A3 data.length c3)) ∧
            (convert 36 9 (.slice A3 data.length c3)).run Try.prog W = .ok (.string ⟨data.toArray⟩) W ∧ a2.add (q * 2) = X2 ∧ W.cell? X2 = some (.int .u8 (kind.toNat : Int)) ∧ W.cell? ⟨X2.block, X2.off + 1, none⟩ = some u2 ∧ (convert 36 9 u2).run Try.prog W = .ok (.string ⟨data.toArray⟩) W from
            ⟨⟨hb.cell 0, hb.cell 1⟩, run_str Try.underlying36 Try.underlying5 Try.underlying9 (hall W hW6).2.2.2 c3, hX2, b1, b2, b3⟩))
        have M1 := Lib.hid m1
        have hltn : (q : Int) < n := by omega
        have hltp : (q : Int) < j := by omega
        clear f2 hall hr hr2 hX2 hbx m1
        generalize data.length = n3 at *
        go_wp2_with fail
        refine grow_start (fun _ => False) (by kernel_rfl) ?_
        refine grow_take (i := 0) (oi := { dst := some 82, op := Op.fieldAddr 39 (Operand.tmp 17) 0, type := 0, pos := "law.go:110", after := #[], guard := none }) (v := ?_) rfl (by kernel_rfl) (by kernel_rfl) (by kernel_rfl) (by rfl) ?_ ?_; rotate_left; focus ((intro W hW; go_simp) <;> with_reducible rfl)
        simp only [Act.put, List.setIfInBounds_toArray, List.set_cons_zero, List.set_cons_succ]
        refine grow_take (i := 1) (oi := { dst := some 83, op := Op.load 5 (Operand.tmp 82), type := 5, pos := "law.go:110", after := #[{ on := 0, ground := Ground.data }], guard := none }) (v := ?_) rfl (by kernel_rfl) (by kernel_rfl) (by kernel_rfl) (by rfl) ?_ ?_; rotate_left; focus ((intro W hW; have fct := F.out W hW; go_simp) <;> with_reducible rfl)
        simp only [Act.put, List.setIfInBounds_toArray, List.set_cons_zero, List.set_cons_succ]
        refine grow_take (i := 2) (oi := { dst := some 84, op := Op.move (Operand.tmp 0), type := 22, pos := "law.go:110", after := #[], guard := none }) (v := ?_) rfl (by kernel_rfl) (by kernel_rfl) (by kernel_rfl) (by rfl) ?_ ?_; rotate_left; focus ((intro W hW; go_simp) <;> with_reducible rfl)
        simp only [Act.put, List.setIfInBounds_toArray, List.set_cons_zero, List.set_cons_succ]
        refine grow_take (i := 3) (oi := { dst := some 85, op := Op.move (Operand.tmp 16), type := 3, pos := "law.go:110", after := #[], guard := none }) (v := ?_) rfl (by kernel_rfl) (by kernel_rfl) (by kernel_rfl) (by rfl) ?_ ?_; rotate_left; focus ((intro W hW; go_simp) <;> with_reducible rfl)
        simp only [Act.put, List.setIfInBounds_toArray, List.set_cons_zero, List.set_cons_succ]
        refine grow_take (i := 4) (oi := { dst := some 86, op := Op.indexAddr 22 (Operand.tmp 84) (Operand.tmp 85), type := 0, pos := "law.go:110", after := #[{ on := 2, ground := Ground.data }, { on := 3, ground := Ground.data }], guard := none }) (v := ?_) rfl (by kernel_rfl) (by kernel_rfl) (by kernel_rfl) (by rfl) ?_ ?_; rotate_left; focus ((intro W hW; have fct := F.out W hW; go_simp) <;> with_reducible rfl)
        simp only [Act.put, List.setIfInBounds_toArray, List.set_cons_zero, List.set_cons_succ]
        refine grow_take (i := 5) (oi := { dst := some 87, op := Op.fieldAddr 39 (Operand.tmp 86) 0, type := 0, pos := "law.go:110", after := #[{ on := 4, ground := Ground.data }], guard := none }) (v := ?_) rfl (by kernel_rfl) (by kernel_rfl) (by kernel_rfl) (by rfl) ?_ ?_; rotate_left; focus ((intro W hW; go_simp) <;> with_reducible rfl)
        simp only [Act.put, List.setIfInBounds_toArray, List.set_cons_zero, List.set_cons_succ]
        refine grow_take (i := 6) (oi := { dst := some 88, op := Op.load 5 (Operand.tmp 87), type := 5, pos := "law.go:110", after := #[{ on := 5, ground := Ground.data }], guard := none }) (v := ?_) rfl (by kernel_rfl) (by kernel_rfl) (by kernel_rfl) (by rfl) ?_ ?_; rotate_left; focus ((intro W hW; have fct := F.out W hW; go_simp) <;> with_reducible rfl)
        simp only [Act.put, List.setIfInBounds_toArray, List.set_cons_zero, List.set_cons_succ]
        refine grow_take (i := 7) (oi := { dst := some 89, op := Op.binOp BinOp.neq 5 (Operand.tmp 83) (Operand.tmp 88) 5, type := 4, pos := "law.go:110", after := #[{ on := 1, ground := Ground.data }, { on := 6, ground := Ground.data }], guard := none }) (v := ?_) rfl (by kernel_rfl) (by kernel_rfl) (by kernel_rfl) (by rfl) ?_ ?_; rotate_left; focus ((intro W hW; have fct := F.out W hW; go_simp) <;> with_reducible rfl)
        simp only [Act.put, List.setIfInBounds_toArray, List.set_cons_zero, List.set_cons_succ]
        refine grow_take (i := 8) (oi := { dst := some 90, op := Op.move (Operand.tmp 89), type := 4, pos := "law.go:110", after := #[{ on := 7, ground := Ground.data }], guard := none }) (v := ?_) rfl (by kernel_rfl) (by kernel_rfl) (by kernel_rfl) (by rfl) ?_ ?_; rotate_left; focus ((intro W hW; go_simp) <;> with_reducible rfl)
        simp only [Act.put, List.setIfInBounds_toArray, List.set_cons_zero, List.set_cons_succ]
        first | (refine grow_take (i := 9) (oi := { dst := some 91, op := Op.fieldAddr 39 (Operand.tmp 17) 1, type := 0, pos := "law.go:110", after := #[{ on := 8, ground := Ground.guard }], guard := some (8, false) }) (v := ?_) rfl (by kernel_rfl) (by kernel_rfl) (by kernel_rfl) (by rfl) ?_ ?_; rotate_left; focus ((intro W hW; go_simp) <;> with_reducible rfl)) | refine grow_skip (i := 9) (oi := { dst := some 91, op := Op.fieldAddr 39 (Operand.tmp 17) 1, type := 0, pos := "law.go:110", after := #[{ on := 8, ground := Ground.guard }], guard := some (8, false) }) rfl (by kernel_rfl) (by kernel_rfl) (by kernel_rfl) (by rfl) ?_ | fail "op 9"
        simp only [Act.put, List.setIfInBounds_toArray, List.set_cons_zero, List.set_cons_succ]
        first | (refine grow_take (i := 10) (oi := { dst := some 92, op := Op.load 36 (Operand.tmp 91), type := 36, pos := "law.go:110", after := #[{ on := 9, ground := Ground.data }, { on := 8, ground := Ground.guard }], guard := some (8, false) }) (v := ?_) rfl (by kernel_rfl) (by kernel_rfl) (by kernel_rfl) (by rfl) ?_ ?_; rotate_left; focus ((intro W hW; have fct := F.out W hW; go_simp) <;> with_reducible rfl)) | refine grow_skip (i := 10) (oi := { dst := some 92, op := Op.load 36 (Operand.tmp 91), type := 36, pos := "law.go:110", after := #[{ on := 9, ground := Ground.data }, { on := 8, ground := Ground.guard }], guard := some (8, false) }) rfl (by kernel_rfl) (by kernel_rfl) (by kernel_rfl) (by rfl) ?_ | fail "op 10"
        simp only [Act.put, List.setIfInBounds_toArray, List.set_cons_zero, List.set_cons_succ]
        first | (refine grow_take (i := 11) (oi := { dst := some 93, op := Op.convert 36 9 (Operand.tmp 92), type := 9, pos := "law.go:110", after := #[{ on := 10, ground := Ground.data }, { on := 8, ground := Ground.guard }], guard := some (8, false) }) (v := ?_) rfl (by kernel_rfl) (by kernel_rfl) (by kernel_rfl) (by rfl) ?_ ?_; rotate_left; focus ((intro W hW; have fct := F.out W hW; go_simp) <;> with_reducible rfl)) | refine grow_skip (i := 11) (oi := { dst := some 93, op := Op.convert 36 9 (Operand.tmp 92), type := 9, pos := "law.go:110", after := #[{ on := 10, ground := Ground.data }, { on := 8, ground := Ground.guard }], guard := some (8, false) }) rfl (by kernel_rfl) (by kernel_rfl) (by kernel_rfl) (by rfl) ?_ | fail "op 11"
        simp only [Act.put, List.setIfInBounds_toArray, List.set_cons_zero, List.set_cons_succ]
        first | (refine grow_take (i := 12) (oi := { dst := some 94, op := Op.move (Operand.tmp 0), type := 22, pos := "law.go:110", after := #[{ on := 8, ground := Ground.guard }], guard := some (8, false) }) (v := ?_) rfl (by kernel_rfl) (by kernel_rfl) (by kernel_rfl) (by rfl) ?_ ?_; rotate_left; focus ((intro W hW; go_simp) <;> with_reducible rfl)) | refine grow_skip (i := 12) (oi := { dst := some 94, op := Op.move (Operand.tmp 0), type := 22, pos := "law.go:110", after := #[{ on := 8, ground := Ground.guard }], guard := some (8, false) }) rfl (by kernel_rfl) (by kernel_rfl) (by kernel_rfl) (by rfl) ?_ | fail "op 12"
        simp only [Act.put, List.setIfInBounds_toArray, List.set_cons_zero, List.set_cons_succ]
        first | (refine grow_take (i := 13) (oi := { dst := some 95, op := Op.move (Operand.tmp 16), type := 3, pos := "law.go:110", after := #[{ on := 8, ground := Ground.guard }], guard := some (8, false) }) (v := ?_) rfl (by kernel_rfl) (by kernel_rfl) (by kernel_rfl) (by rfl) ?_ ?_; rotate_left; focus ((intro W hW; go_simp) <;> with_reducible rfl)) | refine grow_skip (i := 13) (oi := { dst := some 95, op := Op.move (Operand.tmp 16), type := 3, pos := "law.go:110", after := #[{ on := 8, ground := Ground.guard }], guard := some (8, false) }) rfl (by kernel_rfl) (by kernel_rfl) (by kernel_rfl) (by rfl) ?_ | fail "op 13"
        simp only [Act.put, List.setIfInBounds_toArray, List.set_cons_zero, List.set_cons_succ]
        first | (refine grow_take (i := 14) (oi := { dst := some 96, op := Op.indexAddr 22 (Operand.tmp 94) (Operand.tmp 95), type := 0, pos := "law.go:110", after := #[{ on := 12, ground := Ground.data }, { on := 13, ground := Ground.data }, { on := 8, ground := Ground.guard }], guard := some (8, false) }) (v := ?_) rfl (by kernel_rfl) (by kernel_rfl) (by kernel_rfl) (by rfl) ?_ ?_; rotate_left; focus ((intro W hW; have fct := F.out W hW; go_simp) <;> with_reducible rfl)) | refine grow_skip (i := 14) (oi := { dst := some 96, op := Op.indexAddr 22 (Operand.tmp 94) (Operand.tmp 95), type := 0, pos := "law.go:110", after := #[{ on := 12, ground := Ground.data }, { on := 13, ground := Ground.data }, { on := 8, ground := Ground.guard }], guard := some (8, false) }) rfl (by kernel_rfl) (by kernel_rfl) (by kernel_rfl) (by rfl) ?_ | fail "op 14"
        simp only [Act.put, List.setIfInBounds_toArray, List.set_cons_zero, List.set_cons_succ]
        first | (refine grow_take (i := 15) (oi := { dst := some 97, op := Op.fieldAddr 39 (Operand.tmp 96) 1, type := 0, pos := "law.go:110", after := #[{ on := 14, ground := Ground.data }, { on := 8, ground := Ground.guard }], guard := some (8, false) }) (v := ?_) rfl (by kernel_rfl) (by kernel_rfl) (by kernel_rfl) (by rfl) ?_ ?_; rotate_left; focus ((intro W hW; go_simp) <;> with_reducible rfl)) | refine grow_skip (i := 15) (oi := { dst := some 97, op := Op.fieldAddr 39 (Operand.tmp 96) 1, type := 0, pos := "law.go:110", after := #[{ on := 14, ground := Ground.data }, { on := 8, ground := Ground.guard }], guard := some (8, false) }) rfl (by kernel_rfl) (by kernel_rfl) (by kernel_rfl) (by rfl) ?_ | fail "op 15"
        simp only [Act.put, List.setIfInBounds_toArray, List.set_cons_zero, List.set_cons_succ]
        first | (refine grow_take (i := 16) (oi := { dst := some 98, op := Op.load 36 (Operand.tmp 97), type := 36, pos := "law.go:110", after := #[{ on := 15, ground := Ground.data }, { on := 8, ground := Ground.guard }], guard := some (8, false) }) (v := ?_) rfl (by kernel_rfl) (by kernel_rfl) (by kernel_rfl) (by rfl) ?_ ?_; rotate_left; focus ((intro W hW; have fct := F.out W hW; go_simp) <;> with_reducible rfl)) | refine grow_skip (i := 16) (oi := { dst := some 98, op := Op.load 36 (Operand.tmp 97), type := 36, pos := "law.go:110", after := #[{ on := 15, ground := Ground.data }, { on := 8, ground := Ground.guard }], guard := some (8, false) }) rfl (by kernel_rfl) (by kernel_rfl) (by kernel_rfl) (by rfl) ?_ | fail "op 16"
        simp only [Act.put, List.setIfInBounds_toArray, List.set_cons_zero, List.set_cons_succ]
        first | (refine grow_take (i := 17) (oi := { dst := some 99, op := Op.convert 36 9 (Operand.tmp 98), type := 9, pos := "law.go:110", after := #[{ on := 16, ground := Ground.data }, { on := 8, ground := Ground.guard }], guard := some (8, false) }) (v := ?_) rfl (by kernel_rfl) (by kernel_rfl) (by kernel_rfl) (by rfl) ?_ ?_; rotate_left; focus ((intro W hW; have fct := F.out W hW; go_simp) <;> with_reducible rfl)) | refine grow_skip (i := 17) (oi := { dst := some 99, op := Op.convert 36 9 (Operand.tmp 98), type := 9, pos := "law.go:110", after := #[{ on := 16, ground := Ground.data }, { on := 8, ground := Ground.guard }], guard := some (8, false) }) rfl (by kernel_rfl) (by kernel_rfl) (by kernel_rfl) (by rfl) ?_ | fail "op 17"
        simp only [Act.put, List.setIfInBounds_toArray, List.set_cons_zero, List.set_cons_succ]
        first | (refine grow_take (i := 18) (oi := { dst := some 100, op := Op.binOp BinOp.neq 9 (Operand.tmp 93) (Operand.tmp 99) 9, type := 4, pos := "law.go:110", after := #[{ on := 11, ground := Ground.data }, { on := 17, ground := Ground.data }, { on := 8, ground := Ground.guard }], guard := some (8, false) }) (v := ?_) rfl (by kernel_rfl) (by kernel_rfl) (by kernel_rfl) (by rfl) ?_ ?_; rotate_left; focus ((intro W hW; have fct := F.out W hW; go_simp) <;> with_reducible rfl)) | refine grow_skip (i := 18) (oi := { dst := some 100, op := Op.binOp BinOp.neq 9 (Operand.tmp 93) (Operand.tmp 99) 9, type := 4, pos := "law.go:110", after := #[{ on := 11, ground := Ground.data }, { on := 17, ground := Ground.data }, { on := 8, ground := Ground.guard }], guard := some (8, false) }) rfl (by kernel_rfl) (by kernel_rfl) (by kernel_rfl) (by rfl) ?_ | fail "op 18"
        simp only [Act.put, List.setIfInBounds_toArray, List.set_cons_zero, List.set_cons_succ]
        refine grow_take (i := 19) (oi := { dst := some 101, op := Op.pick (Operand.tmp 90) (Operand.const (Value.bool true)) (Operand.tmp 100), type := 4, pos := "law.go:110", after := #[{ on := 8, ground := Ground.data }, { on := 18, ground := Ground.data }], guard := none }) (v := ?_) rfl (by kernel_rfl) (by kernel_rfl) (by kernel_rfl) (by rfl) ?_ ?_; rotate_left; focus ((intro W hW; go_simp) <;> with_reducible rfl)
        simp only [Act.put, List.setIfInBounds_toArray, List.set_cons_zero, List.set_cons_succ]
        refine grow_done (by kernel_rfl) ?_ _
        go_wp2
        go_roundw
        case rel => exact ⟨q + 1, by omega, by go_num, M1.out.drew⟩
        case measure => simp [intOf]; omega
      · go_wp2
        go_ret
        exact ⟨rfl, N6.out.trans hnw fun _ _ => id⟩
theorem crash_args {H : Type} {enc : TypeId × Value → H} {W : World} {base : Nat} {args : Array Value} {ds : List (DataW H)} {ps : List MemPlace}
    (hval : ∀ (j : Nat) t v, Try.f6.params[j]? = some t → args[j]? = some v → Value.okWide Try.prog W .any base t v)
    (hw : ∀ (j : Nat) t d, Try.f6.params.toList[j]? = some t → ds[j]? = some d → ∀ n ∈ d.weights Try.prog t, n ≤ reachBytes)
    (hA : DataW.TrodAll enc Try.prog W 0 (fun _ => true) true Try.f6.params.toList args.toList ds ps) :
    Calls Try.prog 6 args W fun e w' => LawEnd W e w' := by
  rw [Try.params6] at hA hval hw
  obtain ⟨v0, vs0, d0, ds0, p0, ps0, ha0, rfl, rfl, h0, hr0⟩ := trodAll_cons hA
  obtain ⟨v1, vs1, d1, ds1, p1, ps1, rfl, rfl, rfl, h1, hr1⟩ := trodAll_cons hr0
  obtain ⟨v2, vs2, d2, ds2, p2, ps2, rfl, rfl, rfl, h2, hr2⟩ := trodAll_cons hr1
  obtain ⟨v3, vs3, d3, ds3, p3, ps3, rfl, rfl, rfl, h3, hr3⟩ := trodAll_cons hr2
  obtain ⟨v4, vs4, d4, ds4, p4, ps4, rfl, rfl, rfl, h4, hr4⟩ := trodAll_cons hr3
  obtain ⟨rfl, rfl, rfl⟩ := trodAll_nil hr4
  obtain rfl : args = #[v0, v1, v2, v3, v4] := by cases args; simp_all
  have o0 := hval 0 _ v0 rfl rfl
  have q0 := hw 0 _ d0 rfl rfl
  have o1 := hval 1 _ v1 rfl rfl
  have q1 := hw 1 _ d1 rfl rfl
  have o2 := hval 2 _ v2 rfl rfl
  have q2 := hw 2 _ d2 rfl rfl
  have o3 := hval 3 _ v3 rfl rfl
  have q3 := hw 3 _ d3 rfl rfl
  have o4 := hval 4 _ v4 rfl rfl
  have q4 := hw 4 _ d4 rfl rfl
  obtain ⟨rs, hr, hn⟩ := open_recs (cells_slice Try.underlying22 o0) q0 h0
  obtain ⟨sy, rfl⟩ := open_u8 Try.underlying5 o1 h1
  obtain ⟨kp, rfl, hk⟩ := open_u16 Try.underlying23 o2 h2
  obtain ⟨at_, rfl, ha⟩ := open_u16 Try.underlying23 o3 h3
  obtain ⟨y, rfl⟩ := open_u8 Try.underlying5 o4 h4
  exact crashes W _ rs hr hn sy.toNat (UInt8.toNat_lt sy) kp at_ hk ha y
end Journal

namespace lawJournalCrash
theorem own : ownKnob Try.prog.godebug = none := by kernel_rfl
theorem laidOut : laidOutB Try.prog = true := by kernel_rfl
theorem reads : ∀ t ∈ Try.f6.params.toList, Try.prog.readableRec t = true ∧ t < Try.prog.types.size := by
  have h : (Try.f6.params.toList.all fun t => Try.prog.readableRec t && decide (t < Try.prog.types.size)) = true := by kernel_rfl
  intro t ht
  have := List.all_eq_true.1 h t ht
  simpa using this
theorem spec {H : Type} (ds : List (DataW H)) (h : ds.length = 5) : Rows.journalCrashSpec.fn H ds = { results := [.lit (.bool true)], args := ds } := by
  match ds, h with
  | [d1, d2, d3, d4, d5], _ => rfl
theorem trodAll_len {H : Type} {enc : TypeId × Value → H} {P : Program} {w : World} {base : Nat} {sp : Nat → Bool} {held : Bool} : ∀ (ts : List TypeId) (vs : List Value) (ds : List (DataW H)) (ps : List MemPlace),
    DataW.TrodAll enc P w base sp held ts vs ds ps → ds.length = ts.length
  | [], _, _, _, h => by
    obtain ⟨_, rfl, _⟩ := trodAll_nil h
    rfl
  | _ :: ts, _, _, _, h => by
    obtain ⟨_, vs, _, ds, _, _, _, rfl, _, _, hr⟩ := trodAll_cons h
    simp [trodAll_len ts vs ds _ hr]
theorem contract (H : Type) (enc : TypeId × Value → H) (W : World) (base : Nat) (args : Array Value) (ds gs : List (DataW H)) (before : List MemPlace)
    (hval : ∀ (j : Nat) t v, Try.f6.params[j]? = some t → args[j]? = some v → Value.okWide Try.prog W .any base t v)
    (hW : DataW.Whole enc Try.prog Try.f6.params.toList Rows.journalCrashSpec.vars false W args.toList ds gs before)
    (hz : (DataW.weightsEach Try.prog (Try.f6.params.toList ++ Rows.journalCrashSpec.plain.varTypes Try.prog) (ds ++ gs)).all (· ≤ reachBytes) = true) :
    Calls Try.prog 6 args W fun e W' => ∃ v, e = .returned v ∧ Rows.journalCrashSpec.post enc Try.prog Try.f6 false true false false W args v W' := by
  obtain ⟨p, q, hA, hV, _⟩ := id hW
  have hlen : ds.length = 5 := (trodAll_len _ _ _ _ hA).trans (by kernel_rfl)
  have hV1 : DataW.TrodVars enc Try.prog W (fun _ => true) [] gs q := hV
  obtain ⟨rfl, rfl⟩ := trodVars_none hV1
  have hw : ∀ (j : Nat) t d, Try.f6.params.toList[j]? = some t → ds[j]? = some d → ∀ n ∈ d.weights Try.prog t, n ≤ reachBytes := by
    intro j t d ht hd n hn
    rw [List.append_nil] at hz
    have hlt : j < Try.f6.params.toList.length := (List.getElem?_eq_some_iff.1 ht).1
    have := List.all_eq_true.1 hz n (DataW.weights_mem_each (by rw [List.getElem?_append_left hlt]; exact ht) hd n hn)
    simpa using this
  refine (Journal.crash_args hval hw hA).mono fun e W' ⟨he, hn⟩ => ?_
  exact ⟨_, he, law_post laidOut (tb := 4) rfl Try.underlying4 reads rfl hW (spec ds hlen) hn.below⟩
set_option maxRecDepth 100000 in
theorem lifted (os : Os) (started : os.Started) (H : Type) (enc : TypeId × Value → H) :
    ReturnsInHanded {} Try.checked os 6 .any (Rows.journalCrashSpec.pre6 enc Try.prog Try.f6 Rows.journalCrashRow.domain false) (Rows.journalCrashSpec.post enc Try.prog Try.f6 false true false false) := by
  refine returnsInHanded_of_change_sized (C := Try.checked) own started (by kernel_rfl) Try.func6
    (ChangeSpec.witness6 (enc := enc) (C := Try.checked) (s := Rows.journalCrashSpec) false ⟨#[], #[.slice none 0 0, .int .u8 0, .int .u16 0, .int .u16 0, .int .u8 0], []⟩ 60 (by kernel_rfl) (by kernel_rfl) (by kernel_rfl) (by kernel_rfl)) ?_
  intro W base args ds gs before hval hW _ hz _
  exact contract H enc W base args ds gs before hval hW hz
theorem proved : Rows.JournalCrashSaid :=
  OpenClaim.holds_of_wide 6 Try.f6 rfl rfl rfl rfl rfl rfl rfl ⟨rfl, rfl, rfl, rfl, rfl⟩ rfl rfl rfl rfl rfl (by kernel_rfl) Try.func6 (by kernel_rfl)
    (of_decide_eq_true (by kernel_rfl)) (by unfold Func.isWrapper; first | (rw [if_pos (by decide +kernel)]; kernel_rfl) | (rw [if_neg (by decide +kernel)]; exact ⟨rfl, rfl⟩))
    (fun os started H enc _ => lifted os started H enc)
end lawJournalCrash
end Go.Proofs.Ythgpphedpegbgaa
