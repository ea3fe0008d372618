/-
  What the program's merkle package computes: a node's sum reckoned anew, a key put and dropped (no condition beyond the numbers' bounds).
-/
import Derived.Test.YtoddgakhiaokaaaMerkle
import Derived.Deep.Draws
namespace Go.Proofs.Ytoddgakhiaokaaa
open Go.ChangeShapes Go.WideShapes Go.RowKit Go.Maps
namespace Merkle
/-- the bytes of the sums of the first i nodes below one -/
def chB (L : Int → Option Int) (x : Int) (i : Nat) : List UInt8 := (List.range i).flatMap fun (j : Nat) => Crc.sumBytes ((L (x * 16 + j)).getD 0).toNat
theorem chB_succ (L : Int → Option Int) (x : Int) (i : Nat) : chB L x (i + 1) = chB L x i ++ Crc.sumBytes ((L (x * 16 + i)).getD 0).toNat := by simp [chB, List.range_succ]
def ns : Ns := fun L x => (Crc.sum (chB L x 16) : Int)
def anyB (L : Int → Option Int) (x : Int) (k : Nat) : Bool := (List.range k).any fun (i : Nat) => (L (x * 16 + i)).isSome
theorem anyB_succ (L : Int → Option Int) (x : Int) (k : Nat) : anyB L x (k + 1) = (anyB L x k || (L (x * 16 + k)).isSome) := by simp [anyB, List.range_succ]
theorem At.turned {w w' : World} {lo b n : Nat} {gs : Nat → Nat} {T T' : Lv} (h : At w lo b gs n T) {l : Nat} (hl : l ≤ 4) (hc : Chg (fun k => k = gs l) w w') (hm : MapU w' (gs l) (n + 1) (T' l)) (hT : ∀ m, m ≠ l → T' m = T m) : At w' lo b gs (n + 1) T' := by
  refine ⟨h.blk.chg hc fun e => (h.maps l hl).ne_blk h.blk e.symm, fun m hm' => ?_, h.inj, h.low⟩
  by_cases e : m = l
  · subst e
    exact hm
  · rw [hT m e]
    exact ((h.maps m hm').chg hc fun e2 => e (h.inj m l hm' hl e2)).mono (Nat.le_succ _)
set_option maxHeartbeats 4000000 in
set_option maxRecDepth 100000 in
theorem reckon (w : World) (lo b n : Nat) (gs : Nat → Nat) (T : Lv) (h : At w lo b gs n T) (hlo : ∀ l, l ≤ 4 → gs l < w.heap.size) (l : Nat) (hl : l < 4) (x : Nat) (hx : x < 4096) (hn : n < 100000) :
    Calls Try.prog 24 #[ptr b, .int .i64 (l : Int), .int .i64 (x : Int)] w fun e w' => e = .returned (.tuple #[]) ∧ At w' lo b gs (n + 1) (reckonF ns T l x) ∧ Chg (fun k => k = gs l) w w' := by
  have H := Lib.hid h
  clear h
  go_enter Try.func24, Try.ntmps24
  go_wp2_with fail
  refine (Crc.new_ _).mono ?_
  rintro e w1 ⟨s, rfl, hsl, hsum, n1⟩
  go_wp2_with fail
  go_loopw [7, 8, 9, 10, 12] (fun sm _ _ _ i wr => ∃ (k : Nat), k ≤ 16 ∧ i = .int .i64 k ∧ sm = .bool (anyB (T (l + 1)) x k) ∧ Crc.SumAt wr s (Crc.updL 4294967295 (chB (T (l + 1)) x k)) ∧ New w wr) (fun _ _ _ _ i _ => 16 - (intOf i).toNat)
  case atStart => exact ⟨0, by omega, rfl, rfl, hsum, n1⟩
  case round =>
    clear hsum n1
    obtain ⟨k, hk, rfl, rfl, hsum, hnw⟩ := hrel
    by_cases hlt : k < 16
    · have hw := H.out.new hnw
      have hc := hw.cell (l := l + 1) (by omega)
      obtain ⟨xk, hxk⟩ : ∃ xk : Nat, x * 16 + k = xk := ⟨_, rfl⟩
      have hor : bits .or .i64 ((x : Int) * 16) (k : Int) = (xk : Int) := by
        rw [show (x : Int) * 16 = ((x * 16 : Nat) : Int) by omega, i64_or_nat _ _ (by omega) (by omega), ← hxk, Nat.or_comm, or_mul k x 4 16 rfl hlt]
      have hlook := (hw.maps (l + 1) (by omega)).look_ok Try.underlying39 Try.underlying3 Try.underlying24 zero_u32 (x := (xk : Int)) (inI64 (by omega) (by omega))
      have hsk := hw.sum_kind (l := l + 1) (by omega) (xk : Int)
      have exk : (x : Int) * 16 + (k : Int) = (xk : Int) := by omega
      have hany := anyB_succ (T (l + 1)) (x : Int) k
      have hch := chB_succ (T (l + 1)) (x : Int) k
      rw [exk] at hany hch
      unfold sumAt at hsk
      obtain ⟨v, hv⟩ : ∃ v : Nat, (T (l + 1) (xk : Int)).getD 0 = (v : Int) := ⟨_, (Int.toNat_of_nonneg hsk.1).symm⟩
      rw [hv] at hlook hsk hch
      obtain ⟨p, hp⟩ : ∃ p, (T (l + 1) (xk : Int)).isSome = p := ⟨_, rfl⟩
      rw [hp] at hlook hany
      have hl1 : (l : Int) + 1 < 5 := by omega
      have htn : ((l : Int) + 1).toNat = l + 1 := by omega
      have HS := Lib.hid (And.intro hsum (And.intro hany (And.intro hch hnw)))
      have hvb : v < 4294967296 := by omega
      have hkp : (k : Int) < 16 := by omega
      clear hsum hany hch hw hv hp hsk exk hnw hxk
      obtain ⟨sm, hsm⟩ : ∃ sm, anyB (T (l + 1)) (x : Int) k = sm := ⟨_, rfl⟩
      rw [hsm] at HS ⊢
      clear hsm
      cases sm
      all_goals
        go_wp2_with fail
        refine (Crc.bytes wr v hvb).mono ?_
        rintro e w2 ⟨rfl, rfl⟩
        have m2 := (Chg.refl (fun _ => False) wr).alloc (.cells (u8s (Crc.sumBytes v)).toArray 73)
        have hsl2 := HS.out.2.2.2.size
        have hrd : Reads (wr.alloc (.cells (u8s (Crc.sumBytes v)).toArray 73)) (fun b => b = wr.heap.size) 1 (some ⟨wr.heap.size, 0, none⟩) 4 (u8s (Crc.sumBytes v)) := Reads.of_row (n := 4) (size := 1) (heap_alloc_new wr _) (by simp [Crc.sumBytes, u8s])
        have C := Lib.hid (Crc.add (wr.alloc (.cells (u8s (Crc.sumBytes v)).toArray 73)) s _ _ _ 4 4 _ (HS.out.1.new m2) (Crc.updL_lt _ (by omega)) hrd (fun e => by have := HS.out.1.lt; omega) (by simp [maxLen]))
        have HN := Lib.hid (HS.out.2.2.2.trans m2 fun _ _ => id)
        clear m2 hrd
        go_wp2_with fail
        refine C.out.mono ?_
        rintro e w3 ⟨rfl, hs3, u3⟩
        rw [← Crc.updL_append, ← Int.toNat_natCast v, ← HS.out.2.2.1] at hs3
        have HZ := Lib.hid (And.intro hs3 (HN.out.trans u3 fun g hg e => by omega))
        clear hs3 u3 C
        go_wp2_with fail
        go_roundw
        case rel => exact ⟨k + 1, by omega, by go_num, by rw [HS.out.2.1]; first | rfl | simp, HZ.out.1, HZ.out.2⟩
        case measure => simp [intOf]; omega
    · obtain rfl : k = 16 := by omega
      have hw := H.out.new hnw
      have hsome : someIn (T (l + 1)) (x : Int) = anyB (T (l + 1)) (x : Int) 16 := rfl
      have hlt : gs l < wr.heap.size := Nat.lt_of_lt_of_le (hlo l (by omega)) hnw.size
      obtain ⟨sm, hsm⟩ : ∃ sm, anyB (T (l + 1)) (x : Int) 16 = sm := ⟨_, rfl⟩
      rw [hsm] at hsome ⊢
      cases sm with
      | false =>
        have hc := hw.cell (l := l) (by omega)
        obtain ⟨w2, hdel, hm2, c2⟩ := (hw.maps l (by omega)).drop Try.underlying39 Try.underlying3 (x := (x : Int)) (inI64 (by omega) (by omega))
        have hat := hw.turned (T' := reckonF ns T l x) (l := l) (by omega) c2 (by
          show MapU w2 (gs l) (n + 1) (reckonF ns T l x l)
          have e : reckonF ns T l x l = upd (T l) x none := by unfold reckonF; rw [if_pos rfl, hsome]; rfl
          rw [e]
          exact hm2.mono (Nat.le_succ _)) (fun m hm => by unfold reckonF; rw [if_neg hm])
        have HZ := Lib.hid (And.intro hat ((hnw.mono (S' := fun k => k = gs l) fun _ _ => False.elim).trans c2 fun _ _ => id))
        have hl4 : (l : Int) < 5 := by omega
        clear hw hsome hsm hsum hnw hm2 c2 hat
        go_wp2_with fail
        go_end0
        exact ⟨rfl, HZ.out⟩
      | true =>
        have hd := (Chg.refl (fun _ => False) wr).drew
        have hwd := hw.new hd
        have hc := hwd.cell (l := l) (by omega)
        have hsd := hsum.new hd
        have hcl : Crc.updL 4294967295 (chB (T (l + 1)) x 16) < 4294967296 := Crc.updL_lt _ (by omega)
        obtain ⟨w2, hst, hm2, c2⟩ := (hwd.maps l (by omega)).store Try.underlying39 Try.underlying3 Try.underlying24 (by omega) (x := (x : Int)) (c := ((4294967295 - Crc.updL 4294967295 (chB (T (l + 1)) x 16) : Nat) : Int)) (inI64 (by omega) (by omega)) (inU32 (by omega) (by omega))
        have hat := hwd.turned (T' := reckonF ns T l x) (l := l) (by omega) c2 (by
          show MapU w2 (gs l) (n + 1) (reckonF ns T l x l)
          have e : reckonF ns T l x l = upd (T l) x (some ((4294967295 - Crc.updL 4294967295 (chB (T (l + 1)) x 16) : Nat) : Int)) := by unfold reckonF; rw [if_pos rfl, hsome]; rfl
          rw [e]
          exact hm2) (fun m hm => by unfold reckonF; rw [if_neg hm])
        have HZ := Lib.hid (And.intro hat (((hnw.trans hd fun _ _ => id).mono (S' := fun k => k = gs l) fun _ _ => False.elim).trans c2 fun _ _ => id))
        have CV := Lib.hid (Crc.value wr.drew s _ hsd hcl)
        have hl4 : (l : Int) < 5 := by omega
        clear hw hsome hsm hsum hnw hm2 c2 hat hwd hsd hd hcl
        generalize Crc.updL 4294967295 (chB (T (l + 1)) x 16) = r at *
        go_wp2_with fail
        refine wp_region_tail 9 (by kernel_rfl) (by kernel_rfl) ?_
        simp only [List.take_succ_cons, List.take_zero, List.drop_succ_cons, List.drop_zero]
        repeat (first | still_step | still_call (CV.out.mono fun e w' h => ⟨h.1, h.2.symm⟩))
        refine wpStill_nil ?_
        go_wp2_with fail
        go_end0
        exact ⟨rfl, HZ.out⟩
end Merkle
end Go.Proofs.Ytoddgakhiaokaaa
