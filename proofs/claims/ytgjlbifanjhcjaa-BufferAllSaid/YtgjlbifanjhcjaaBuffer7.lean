/-
  What the program's buffer package computes: what a peer is known to know; the fixed facts of chapter 13's statements (no condition).
-/
import Derived.Test.YtgjlbifanjhcjaaBuffer6
import Derived.Laws.ResultCell
namespace Go.Proofs.Ytgjlbifanjhcjaa
open Go.ChangeShapes Go.WideShapes Go.RowKit Go.Deep
namespace Buf
open Vec
attribute [local go_sem ↓] loadRow0 storeRow0 loadOnly0
theorem resVB {fn : Func} {p u : Tmp} (h : fn.results = #[.cell p 27, .tmp u]) (tmps : Array Value) (w : World) (g : Nat) (t : TypeId) (xs : List Int) (r : Value) (hl : xs.length = 16)
    (hp : tmps.getD p undef = .pointer (some ⟨g, 0, none⟩)) (hu : tmps.getD u undef = r) (hg : Blk w g t (ints xs).toArray) : (results fn tmps).run Try.prog w = .ok (.tuple #[vec xs, r]) w := by
  rw [results_cell_tmp h, hp]
  have hv : (loadVar 27 ⟨g, 0, none⟩).run Try.prog w = .ok (vec xs) w := ldB hl hg
  simp only [asAddr, Sem.run_bind, Sem.run_pure, Result.andThen_ok, hv, hu]
set_option maxHeartbeats 4000000 in
set_option maxRecDepth 100000 in
theorem acked (w : World) (lo b n me : Nat) (acks : List (List Int)) (v : Value) (es : List Ev) (h : At w lo b n me acks v es) (p : Nat) (hp : p < n) (hne : p ≠ me) (a : List Int) (ha : acks[p]? = some a) :
    Calls Try.prog 13 #[ptr b, .int .i64 (p : Int)] w fun e w' => e = .returned (.tuple #[vec a, .bool true]) ∧ New w w' := by
  have m1 := (Chg.refl (fun _ => False) w).alloc (.cells (ints zeros).toArray 27)
  have b1 := Blk.new w 27 (ints zeros).toArray
  have h1 := h.new m1
  have C := Lib.hid (peer_yes _ _ _ _ _ _ _ _ h1 p hp hne)
  have l1 := h1.ld ha
  have hal := h.hr a (List.mem_of_getElem? ha)
  obtain ⟨hst, b2⟩ := stB (show zeros.length = 16 by simp [zeros]) hal b1
  have c2 : Chg (fun g => g = w.heap.size) (w.alloc (.cells (ints zeros).toArray 27)) ((w.alloc (.cells (ints zeros).toArray 27)).setCells w.heap.size 0 (ints a)) := Chg.setCells _ _ _ (Chg.refl _ _) fun _ => rfl
  have N := Lib.hid (And.intro b2 (And.intro (m1.trans c2 fun g hg e => by omega) hal))
  have hp16 : (p : Int) < 16 := by have := h.hn; omega
  clear h m1 b1 h1 ha b2 c2 hal
  go_enter Try.func13, Try.ntmps13
  go_wp2_with fail
  refine C.out.mono ?_
  rintro e w3 ⟨rfl, rfl⟩
  go_wp2_with fail
  exact bodyPost_ret (resVB rfl _ _ w.heap.size _ _ _ N.out.2.2 rfl rfl N.out.1) rfl ⟨rfl, N.out.2.1⟩
def one1 : List Int := 1 :: List.replicate 15 0
def acksF : List (List Int) := zero16.set 1 one1
theorem fix_join : join (zero16.getD 1 []) one1 = one1 := by decide +kernel
theorem fix_stab : stab 0 acksF 2 = one1 := by decide +kernel
def e1 : Ev := ⟨0, 1, zeroE.toList.drop 2, rfl, by decide +kernel⟩
theorem e1_val : e1.val = .agg ((zeroE.set! 1 (.int .i64 1))) := rfl
theorem fix_all : allF 2 0 acksF 0 1 = true := by decide +kernel
theorem fix_filter : (([] : List Ev) ++ [e1]).filter (fun (e : Ev) => !allF 2 0 acksF e.r e.c) = [] := by
  rw [List.nil_append, List.filter_cons, if_neg]
  · rfl
  · rw [show allF 2 0 acksF e1.r e1.c = true from fix_all]
    simp
set_option maxHeartbeats 8000000 in
set_option maxRecDepth 100000 in
theorem fixed (w : World) : Calls Try.prog 4 #[] w fun e w' => LawEnd w e w' := by
  have hz : ∀ W, (zeroValue 35).run Try.prog W = .ok (.agg zeroE) W := fun W => by kernel_rfl
  have hX : (zeroE.setIfInBounds 0 (.int .i64 0)).setIfInBounds 1 (.int .i64 1) = e1.cs.toArray := rfl
  have hZs : zeroE.size = 27 := by decide +kernel
  have hst := fun W => run_storeCells_new (P := Try.prog) W 35 zeroE e1.cs.toArray (by kernel_rfl) (by kernel_rfl) (all_oneCell_toArray e1.cs_one)
  obtain ⟨X, hXX⟩ : ∃ X, e1.cs.toArray = X := ⟨_, rfl⟩
  have HX := Lib.hid hXX
  rw [hXX] at hX hst
  have hXs : X.size = 27 := by rw [← hXX]; simp [e1.cs_len]
  generalize zeroE = Z at *
  have hZ2 : ¬ Z = #[] := fun e => by rw [e] at hZs; simp at hZs
  have hZ4 : ¬ Z.size < 2 := by omega
  clear hXX
  go_enter Try.func4, Try.ntmps4
  go_wp2_with fail
  refine (new_ w 2 (by omega) (by omega)).mono ?_
  rintro e w1 ⟨rfl, h1, n1⟩
  have hld : ∀ W, New (w1.alloc (.cells X 35)) W → (LoadRow 35 ⟨w1.heap.size, 0, none⟩).run Try.prog W = .ok (.agg X) W := fun W hW => by
    have := ev_blk (e := e1) (W := W) (g := w1.heap.size) (by rw [HX.out]; exact (Blk.new w1 _ _).chg hW id)
    rwa [show e1.val = .agg X by rw [← HX.out]] at this
  have ld1 := hld _ (Chg.refl _ _)
  have a1 := h1.new ((Chg.refl (fun _ => False) w1).alloc (.cells X 35))
  have C := add _ _ _ _ _ _ _ _ a1 e1 (by decide +kernel) (by simp)
  rw [show e1.val = .agg X by rw [← HX.out]] at C
  have C := Lib.hid C
  have HL := Lib.hid (And.intro hld (And.intro h1 n1))
  clear hld a1 h1 n1
  go_wp2_with fail
  refine C.out.mono ?_
  rintro e w2 ⟨rfl, v2, h2, c2⟩
  have n2 := (HL.out.2.2.alloc (.cells X 35)).trans c2 fun g hg e => by
    rcases e with e | e
    · omega
    · cases e
  obtain ⟨B, hB⟩ : ∃ B, w.heap.size = B := ⟨_, rfl⟩
  rw [hB] at h2 ⊢
  have CL := Lib.hid (len_ _ _ _ _ _ _ _ _ h2 (by simp))
  have HB := Lib.hid hB
  have H2 := Lib.hid (And.intro h2 n2)
  clear hB C h2 n2 c2 ld1 HL hX hZs hXs hst hz hZ2 hZ4
  go_wp2_with fail
  refine CL.out.mono ?_
  rintro e w3 ⟨rfl, n3⟩
  have h3 := H2.out.1.new n3
  have n3 := H2.out.2.trans n3 fun _ _ => id
  have CL := Lib.hid (lacks _ _ _ _ _ _ _ _ h3 (by simp) zeros (by simp [zeros]) (fun e he => by simp at he; subst he; decide +kernel) 5 (by simp))
  have H3 := Lib.hid (And.intro h3 n3)
  clear h3 n3 H2
  have hzv := zero_vec
  go_wp2_with fail
  refine CL.out.mono ?_
  rintro e w4 ⟨u4, rfl, o4, n4⟩
  have h4 := H3.out.1.new n4
  have n4 := H3.out.2.trans n4 fun _ _ => id
  obtain ⟨A4, c4, rfl⟩ := o4.form
  have CA := ack _ _ _ _ _ _ _ _ h4 1 (by omega) (by omega) one1 (by simp [one1]) (by simp) (zero16.getD 1 []) (by decide +kernel)
  rw [fix_join, show zero16.set 1 one1 = acksF from rfl, fix_filter] at CA
  have CA := Lib.hid CA
  have H4 := Lib.hid n4
  have hlo := h4.own
  have hS : (ints zeros).toArray.setIfInBounds 0 (.int .i64 1) = (ints one1).toArray := rfl
  have hS2 : ¬ (ints zeros).toArray = #[] := by simp [ints, zeros]
  have hS3 : (ints zeros).toArray.size = 16 := by decide +kernel
  obtain ⟨V1, hV1⟩ : ∃ V1, (ints one1).toArray = V1 := ⟨_, rfl⟩
  have HV1 := Lib.hid hV1
  rw [hV1] at hS
  rw [show vec one1 = .agg V1 by rw [← hV1]] at CA
  have HO := Lib.hid (And.intro hlo h4.low)
  clear hV1 h4 n4 H3 o4 hlo
  obtain ⟨ZV, hZV⟩ : ∃ ZV, (ints zeros).toArray = ZV := ⟨_, rfl⟩
  have HZV := Lib.hid hZV
  rw [hZV] at hS hS2 hS3
  clear hzv
  have hzv : ∀ W, (zeroValue 27).run Try.prog W = .ok (.agg ZV) W := fun W => by rw [← hZV]; exact zero_vec W
  rw [hZV]
  clear hZV
  go_wp2_with fail
  refine CA.out.mono ?_
  rintro e w5 ⟨rfl, v5, h5, ho5, c5⟩
  have n5 : New w w5 := H4.out.trans c5 fun g hg e => by
    have := HB.out
    rcases e with e | e
    · omega
    · have := (own_lt HO.out.1 e).1
      omega
  have CA := acked _ _ _ _ _ _ _ _ h5 1 (by omega) (by omega) one1 rfl
  rw [show vec one1 = .agg V1 by rw [← HV1.out]] at CA
  have CA := Lib.hid CA
  have H5 := Lib.hid (And.intro h5 n5)
  clear h5 n5 c5 ho5 H4 HO CL
  go_wp2_with fail
  refine CA.out.mono ?_
  rintro e w6 ⟨rfl, n6⟩
  obtain ⟨hst, b7⟩ := stB (old := zeros) (xs := one1) (w := w6.alloc (.cells ZV 27)) (b := w6.heap.size) (t := 27) (by simp [zeros]) (by simp [one1]) (by rw [HZV.out]; exact Blk.new w6 _ _)
  have c7 : Chg (fun g => g = w6.heap.size) (w6.alloc (.cells ZV 27)) ((w6.alloc (.cells ZV 27)).setCells w6.heap.size 0 (ints one1)) := Chg.setCells _ _ _ (Chg.refl _ _) fun _ => rfl
  have c67 := ((Chg.refl (fun _ => False) w6).alloc (.cells ZV 27)).trans c7 fun g hg e => by omega
  rw [show vec one1 = .agg V1 by rw [← HV1.out]] at hst
  generalize (w6.alloc (.cells ZV 27)).setCells w6.heap.size 0 (ints one1) = w7 at *
  have h7 := (H5.out.1.new n6).new c67
  have n7 := (H5.out.2.trans n6 fun _ _ => id).trans c67 fun _ _ => id
  have ld7 : ∀ W, New w7 W → (LoadRow 27 ⟨w6.heap.size, 0, none⟩).run Try.prog W = .ok (.agg V1) W := fun W hW => by
    have := ldB (xs := one1) (by simp [one1]) (b7.chg hW id)
    rwa [show vec one1 = .agg V1 by rw [← HV1.out]] at this
  have heq : ∀ W, (binOp .eql 27 (.agg V1) (.agg V1)).run Try.prog W = .ok (.bool true) W := fun W => by
    have := eqV (xs := one1) (ys := one1) (by simp [one1]) (by simp [one1]) W
    rw [show vec one1 = .agg V1 by rw [← HV1.out], show (one1 == one1) = true by decide +kernel] at this
    exact this
  have heg := fun (x : Operand) (y : Operand) (W : World) => run_eqGuard_agg (P := Try.prog) (t := 27) (by kernel_rfl) x y V1 V1 W
  have CL := Lib.hid (len_ _ _ _ _ _ _ _ _ h7 (by simp))
  have H7 := Lib.hid (And.intro h7 (And.intro n7 (And.intro b7 ld7)))
  clear h7 n7 b7 ld7 c7 c67 n6 CA
  go_wp2_with fail
  refine CL.out.mono ?_
  rintro e w8 ⟨rfl, n8⟩
  have ld8 := H7.out.2.2.2 w8 n8
  have CM := ack_me _ _ _ _ _ _ _ (H7.out.1.new n8) (by omega) one1
  rw [show vec one1 = .agg V1 by rw [← HV1.out]] at CM
  have CM := Lib.hid CM
  have H8 := Lib.hid n8
  clear n8 CL
  go_wp2_with fail
  refine CM.out.mono ?_
  rintro e w9 ⟨rfl, n9⟩
  have n9 := H8.out.trans n9 fun _ _ => id
  have ld9 := H7.out.2.2.2 w9 n9
  have CM := ack_nil w9 (.int .i64 0) one1
  rw [show vec one1 = .agg V1 by rw [← HV1.out]] at CM
  have CM := Lib.hid CM
  have H9 := Lib.hid n9
  clear n9 ld8
  go_wp2_with fail
  refine CM.out.mono ?_
  rintro e w10 ⟨rfl, n10⟩
  have n10 := H9.out.trans n10 fun _ _ => id
  have CS := stable _ _ _ _ _ _ _ _ (H7.out.1.new n10)
  rw [fix_stab, show vec one1 = .agg V1 by rw [← HV1.out]] at CS
  have CS := Lib.hid CS
  have H10 := Lib.hid n10
  clear n10 ld9
  go_wp2_with fail
  refine (new_nil _).mono ?_
  rintro e w11 ⟨rfl, rfl⟩
  go_wp2_with fail
  refine CS.out.mono ?_
  rintro e w11 ⟨rfl, n11⟩
  have N := Lib.hid (H7.out.2.1.trans (H10.out.trans n11 fun _ _ => id) fun _ _ => id)
  clear n11
  go_wp2_with fail
  go_ret
  exact ⟨rfl, N.out⟩
end Buf
end Go.Proofs.Ytgjlbifanjhcjaa
