/-
  hedgerowlaw13.BufferAll returns true for every input: one that knows nothing lacks all that is there, in order; when each peer knows all, nothing is left (no condition).
-/
import Derived.Test.YtgjlbifanjhcjaaBuffer8
namespace Go.Proofs.Ytgjlbifanjhcjaa
open Go.ChangeShapes Go.WideShapes Go.RowKit Go.Deep
namespace Buf
open Vec
attribute [local go_sem ↓] loadRow0 storeRow0 loadOnly0
set_option maxHeartbeats 20000000 in
set_option maxRecDepth 100000 in
theorem law (w : World) (A : Option Addr) (c : Nat) (es : List Ev) (hn : es.length ≤ 140737488351232) (hself : ∀ e ∈ es, e.Self) (hr : Reads w (fun b => b < w.heap.size) 27 A es.length (rowE es)) (n : Nat) (hn8 : n < 256) :
    Calls Try.prog 3 #[.int .u8 (n : Int), .slice A es.length c] w fun e w' => LawEnd w e w' := by
  obtain ⟨L, hL⟩ : ∃ L, es.length = L := ⟨_, rfl⟩
  have HL := Lib.hid hL
  rw [hL] at hn hr
  rw [hL]
  by_cases hbig : 60 < (L : Int)
  · clear hr hself hL
    go_enter Try.func3, Try.ntmps3
    go_wp2_with fail
    refine (fixed _).mono ?_
    rintro e w1 ⟨rfl, n1⟩
    go_wp2
    go_ret
    exact ⟨rfl, n1⟩
  · have hL60 : L ≤ 60 := by omega
    have hd : decide (60 < (L : Int)) = false := by simp; omega
    have HR := Lib.hid (And.intro hr hself)
    clear hr hself hL
    go_enter Try.func3, Try.ntmps3
    go_wp2_with fail
    refine (fixed _).mono ?_
    rintro e w1 ⟨rfl, n1⟩
    have N1 := Lib.hid n1
    clear n1
    go_wp2_with fail
    obtain ⟨k, hk⟩ : ∃ k : Nat, 2 + n % 14 = k := ⟨_, rfl⟩
    rw [show (2 : Int) + (n : Int) % 14 = (k : Int) by omega]
    have hk2 : 2 ≤ k := by omega
    have hk16 : k < 16 := by omega
    clear hk hd
    refine (new_ w1 k (by omega) (by omega)).mono ?_
    rintro e w2 ⟨rfl, h2, n2⟩
    obtain ⟨B, hB⟩ : ∃ B, w1.heap.size = B := ⟨_, rfl⟩
    rw [hB] at h2 ⊢
    have hBw : w.heap.size ≤ B := by have := N1.out.size; omega
    have N2 := N1.out.trans n2 fun _ _ => id
    obtain ⟨G, hG⟩ : ∃ G, w2.heap.size = G := ⟨_, rfl⟩
    have hBG : B < G := by have := h2.blk.lt; omega
    have H2 := Lib.hid (And.intro h2 N2)
    clear h2 n2 N2 hB
    have hzv := zero_vec
    go_wp2_with fail
    go_loopw [8, 27] (fun _ i wr => ∃ (j : Nat), j ≤ 16 ∧ i = .int .i64 j ∧ At wr B B k 0 zero16 (.slice none 0 0) [] ∧ Blk wr G 27 (ints (fillL 1048576 j)).toArray ∧ New w wr) (fun _ i _ => 16 - (intOf i).toNat)
    case atStart =>
      refine ⟨0, by omega, rfl, H2.out.1.new ((Chg.refl _ _).alloc _), ?_, H2.out.2.alloc _⟩
      rw [fill_zero, ← hG]
      exact Blk.new w2 27 (ints zeros).toArray
    case round =>
      obtain ⟨j, hj, rfl, ha, bv, nw⟩ := hrel
      by_cases hlt : j < 16
      · obtain ⟨u, hc⟩ : ∃ u, wr.cell? ⟨G, j, none⟩ = some u := ⟨_, (bv.cell j).trans (by rw [List.getElem?_toArray, List.getElem?_eq_getElem (by rw [ints_length, fill_len]; exact hlt)])⟩
        have hf := bv.frozen j
        have hb2 := bv.set_ j (.int .i64 1048576)
        rw [fill_set _ _ hlt] at hb2
        have cs := (Chg.refl (fun g => g = G) wr).setCell (p := ⟨G, j, none⟩) (fun _ => rfl) (.int .i64 1048576)
        have HS := Lib.hid (And.intro (ha.chg cs (by omega) (fun g hg => by cases hg)) (And.intro hb2 (nw.trans cs fun g hg e => by omega)))
        have hji : (j : Int) < 16 := by omega
        clear ha bv nw hb2 cs
        go_wp2_with fail
        go_roundw
        case rel => exact ⟨j + 1, by omega, by go_num, HS.out⟩
        case measure => simp [intOf]; omega
      · obtain rfl : j = 16 := by omega
        rw [allV_fill] at bv
        have H3 := Lib.hid (And.intro ha (And.intro bv nw))
        clear ha bv nw hG H2
        generalize wr = w3 at *
        have hz : ∀ W, (zeroValue 35).run Try.prog W = .ok (.agg zeroE) W := fun W => by kernel_rfl
        have hZs : zeroE.size = 27 := by decide +kernel
        obtain ⟨Z, hZ⟩ : ∃ Z, zeroE = Z := ⟨_, rfl⟩
        have hst : ∀ (e : Ev) (W : World) (X : Array Value), e.cs.toArray = X → (storeCells ⟨W.heap.size, 0, none⟩ X.toList 0).run Try.prog (W.alloc (.cells Z 35)) = .ok () (W.alloc (.cells X 35)) := by
          intro e W X hX
          have hs : X.size = 27 := by rw [← hX]; simp [e.cs_len]
          rw [← hZ]
          exact run_storeCells_new (P := Try.prog) W 35 zeroE X (by rw [hs]; kernel_rfl) (by rw [hs, hZs]) (by rw [← hX]; exact all_oneCell_toArray e.cs_one)
        rw [hZ] at hz hZs
        have hZ2 : ¬ Z = #[] := fun e => by rw [e] at hZs; simp at hZs
        have HST := Lib.hid hst
        clear hst hZ
        go_wp2_with fail
        go_loopw [9, 11, 35] (fun sv _ iv wr => ∃ (i : Nat) (v : Value), i ≤ L ∧ iv = .int .i64 i ∧ sv = .int .i64 (someN (es.take i) : Int) ∧ At wr B B k 0 zero16 v (es.take i) ∧ Blk wr G 27 (ints allV).toArray ∧ New w wr) (fun _ _ iv _ => L - (intOf iv).toNat)
        case atStart => exact ⟨0, _, by omega, rfl, rfl, by rw [List.take_zero]; exact H3.out.1, H3.out.2.1, H3.out.2.2⟩
        case round =>
          clear H3
          obtain ⟨i, v, hi, rfl, rfl, ha, bv, nw⟩ := hrel
          by_cases hlt : i < L
          · obtain ⟨e, he⟩ : ∃ e, es[i]? = some e := ⟨_, List.getElem?_eq_getElem (by have := HL.out; omega)⟩
            obtain ⟨ad, rfl, hld⟩ := ld_ev (HR.out.1.chg nw fun _ hb => ⟨hb, id⟩) he
            have hsome := some_succ he
            have htk : es.take (i + 1) = es.take i ++ [e] := by rw [List.take_add_one, he]; rfl
            have htl : (es.take i).length = i := by rw [List.length_take, Nat.min_eq_left (by have := HL.out; omega)]
            have mb := (Chg.refl (fun _ => False) wr).alloc (.cells e.cs.toArray 35)
            have hbb := Blk.new wr 35 e.cs.toArray
            have ha1 := ha.new mb
            have hv1 := bv.chg mb id
            have CA := add _ _ _ _ _ _ _ _ ha1 e (by rw [← acksL_one]; exact allF_not (j := 1) (by omega) (by omega) hk16 e.r e.c) (by rw [htl]; omega)
            rw [← htk] at CA
            obtain ⟨X, hX⟩ : ∃ X, e.cs.toArray = X := ⟨_, rfl⟩
            have hst := HST.out e wr X hX
            have hXs : X.size = 27 := by rw [← hX]; simp [e.cs_len]
            have HX := Lib.hid hX
            have hldb := ev_blk hbb
            rw [hX] at hldb
            rw [show e.val = .agg X by rw [← hX]] at hld hldb CA
            rw [hX] at CA
            have hown : ∀ g, v.ownBlock = some g → g < wr.heap.size ∧ g ≠ G := fun g hg => ⟨(own_lt ha.own hg).2, fun e => own_ne ha.own bv (by decide) (e ▸ hg)⟩
            have hbl := ha.blk.lt
            have hgl := bv.lt
            have hlo : ∀ g, v.ownBlock = some g → B ≤ g := fun g hg => (own_lt ha.own hg).1
            have HS := Lib.hid (And.intro hv1 (And.intro (nw.trans mb fun _ _ => id) (And.intro hbb (And.intro hsome (And.intro hown (And.intro hbl (And.intro hgl hlo)))))))
            have CA := Lib.hid CA
            obtain ⟨s, hs⟩ : ∃ s, someN (es.take i) = s := ⟨_, rfl⟩
            rw [hs] at HS
            have hsb : s ≤ i := by rw [← hs]; exact Nat.le_trans List.countP_le_length (by rw [htl]; exact Nat.le_refl _)
            rw [hs]
            have hil : (i : Int) < L := by omega
            clear ha bv nw mb hbb ha1 hv1 hsome htk htl hX hown hbl hgl hlo hs he
            go_wp2_with fail
            refine CA.out.mono ?_
            rintro x w4 ⟨rfl, v4, h4, c4⟩
            rw [← HX.out] at c4
            have bv4 := HS.out.1.chg c4 (fun e => by
              rcases e with e | e
              · omega
              · exact (HS.out.2.2.2.2.1 _ e).2 rfl)
            have n4 := HS.out.2.1.trans c4 (fun g hg e => by
              rcases e with e | e
              · omega
              · have := HS.out.2.2.2.2.2.2.2 _ e; omega)
            have bb4 := HS.out.2.2.1.chg c4 (fun e => by
              rcases e with e | e
              · have := HS.out.2.2.2.2.2.1; omega
              · have := (HS.out.2.2.2.2.1 _ e).1; omega)
            have d4 : w4.cell? ⟨wr.heap.size, 0, none⟩ = some (.int .i64 e.r) := bb4.cell 0
            have d5 : w4.cell? ⟨wr.heap.size, 1, none⟩ = some (.int .i64 e.c) := bb4.cell 1
            have lv4 := ldB allV_len bv4
            have CK := Lib.hid (lknows w4 allV e.r e.c allV_len)
            have H4 := Lib.hid (And.intro h4 (And.intro bv4 n4))
            clear h4 c4 bv4 n4 bb4 CA hld hldb hst
            go_wp2_with fail
            refine CK.out.mono ?_
            rintro x w5 ⟨rfl, n5⟩
            have H5 := Lib.hid (And.intro (H4.out.1.new n5) (And.intro (H4.out.2.1.chg n5 id) (H4.out.2.2.trans n5 fun _ _ => id)))
            have hsome := HS.out.2.2.2.1
            clear n5 CK lv4 d4 d5
            obtain ⟨q, hq⟩ : ∃ q, knowsF allV e.r e.c = q := ⟨_, rfl⟩
            rw [hq] at hsome ⊢
            have HSM := Lib.hid hsome
            clear hsome hq
            cases q
            · go_wp2_with fail
              go_roundw
              case rel => refine ⟨_, _, _, _, _, _, _, _, _, _, _, _, _, _, _, _, _, ?_, rfl⟩; exact ⟨i + 1, v4, by omega, by go_num, by rw [HSM.out]; go_num, H5.out⟩
              case measure => simp [intOf]; omega
            · go_wp2_with fail
              go_roundw
              case rel => refine ⟨_, _, _, _, _, _, _, _, _, _, _, _, _, _, _, _, _, ?_, rfl⟩; exact ⟨i + 1, v4, by omega, by go_num, by rw [HSM.out]; rfl, H5.out⟩
              case measure => simp [intOf]; omega
          · obtain rfl : i = L := by omega
            rw [show es.take i = es by rw [List.take_of_length_le (by have := HL.out; omega)]] at *
            have CA := Lib.hid (all _ _ _ _ _ _ _ _ ha (by have := HL.out; omega))
            have H6 := Lib.hid (And.intro ha (And.intro bv nw))
            obtain ⟨s, hs⟩ : ∃ s, someN es = s := ⟨_, rfl⟩
            have HSM := Lib.hid hs
            rw [hs]
            have hsb : s ≤ i := by rw [← hs]; exact Nat.le_trans List.countP_le_length (by have := HL.out; omega)
            clear ha bv nw hs HST hz hZs hZ2
            go_wp2_with fail
            refine CA.out.mono ?_
            rintro x w7 ⟨u7, rfl, o7, n7⟩
            have CK := Lib.hid (lacks _ _ _ _ _ _ _ _ (H6.out.1.new n7) (by have := HL.out; omega) zeros (by simp [zeros]) (fun e _ => knows_zeros e.r e.c) (i : Int) (by have := HL.out; omega))
            have H7 := Lib.hid (And.intro o7 n7)
            clear o7 n7 CA
            go_wp2_with fail
            refine CK.out.mono ?_
            rintro x w8 ⟨u8, rfl, o8, n8⟩
            obtain ⟨A7, c7, rfl⟩ := H7.out.1.form
            obtain ⟨A8, c8, rfl⟩ := o8.form
            have H8 := Lib.hid (And.intro (own_chg H7.out.1 n8 fun _ _ => id) (And.intro o8 (And.intro (H6.out.1.new (H7.out.2.trans n8 fun _ _ => id)) (And.intro (H6.out.2.1.chg (H7.out.2.trans n8 fun _ _ => id) id) (H6.out.2.2.trans (H7.out.2.trans n8 fun _ _ => id) fun _ _ => id)))))
            clear o8 n8 CK H7 H6
            rw [HL.out]
            go_wp2_with fail
            go_loopw [14, 71] (fun _ jv wr => ∃ j : Nat, j ≤ i ∧ jv = .int .i64 j ∧ New w8 wr) (fun _ jv _ => i - (intOf jv).toNat)
            case atStart => exact ⟨0, by omega, rfl, Chg.refl _ _⟩
            case round =>
              obtain ⟨j, hj, rfl, nr⟩ := hrel
              generalize wr = wo at *
              by_cases hlt : j < i
              · obtain ⟨e, he⟩ : ∃ e, es[j]? = some e := ⟨_, List.getElem?_eq_getElem (by have := HL.out; omega)⟩
                obtain ⟨X, hX⟩ : ∃ X, e.cs.toArray = X := ⟨_, rfl⟩
                have heS : e.Self := HR.out.2 e (List.mem_of_getElem? he)
                have l1 : ∃ ad, A7 = some ad ∧ ∀ x : ChgW (fun _ => False) wo, (LoadRow 35 (ad.add (j * 27))).run Try.prog x.W = .ok e.val x.W := by
                  obtain ⟨ad, h1, _⟩ := ld_ev (Reads.of_own H8.out.1) he
                  refine ⟨ad, h1, fun x => ?_⟩
                  obtain ⟨ad', h1', h2⟩ := ld_ev (Reads.of_own (own_chg H8.out.1 (nr.trans x.chg fun _ _ => id) fun _ _ => id)) he
                  rw [h1] at h1'
                  injection h1' with h1'
                  exact h1' ▸ h2
                have l2 : ∃ ad, A8 = some ad ∧ ∀ x : ChgW (fun _ => False) wo, (LoadRow 35 (ad.add (j * 27))).run Try.prog x.W = .ok e.val x.W := by
                  obtain ⟨ad, h1, _⟩ := ld_ev (Reads.of_own H8.out.2.1) he
                  refine ⟨ad, h1, fun x => ?_⟩
                  obtain ⟨ad', h1', h2⟩ := ld_ev (Reads.of_own (own_chg H8.out.2.1 (nr.trans x.chg fun _ _ => id) fun _ _ => id)) he
                  rw [h1] at h1'
                  injection h1' with h1'
                  exact h1' ▸ h2
                have l3 : ∃ ad, A = some ad ∧ ∀ x : ChgW (fun _ => False) wo, (LoadRow 35 (ad.add (j * 27))).run Try.prog x.W = .ok e.val x.W := by
                  have nn := H8.out.2.2.2.2.trans nr fun _ _ => id
                  obtain ⟨ad, h1, _⟩ := ld_ev HR.out.1 he
                  refine ⟨ad, h1, fun x => ?_⟩
                  obtain ⟨ad', h1', h2⟩ := ld_ev (HR.out.1.chg (nn.trans x.chg fun _ _ => id) fun _ hb => ⟨hb, id⟩) he
                  rw [h1] at h1'
                  injection h1' with h1'
                  exact h1' ▸ h2
                obtain ⟨ad1, rfl, l1⟩ := l1
                obtain ⟨ad2, rfl, l2⟩ := l2
                obtain ⟨ad3, rfl, l3⟩ := l3
                have hne := fun W => Ev.Self.ne heS W
                have heg := fun (x y : Operand) (W : World) => neGuard (e := e) x y W
                rw [show e.val = .agg X by rw [← hX]] at l1 l2 l3 hne heg
                have hji : (j : Int) < i := by omega
                have HN := Lib.hid nr
                clear nr he heS hX
                go_wp2_with fail
                refine wp_region_chg (fun _ => False) (by kernel_rfl) (by kernel_rfl) ?_
                repeat (go_big_quiet_step ((fail)))
                refine wpQuiet_nil ?_
                rintro ⟨wq, hq⟩
                simp only []
                have HQ := Lib.hid (HN.out.trans hq fun _ _ => id)
                clear hq l1 l2 l3 HN
                go_wp2_with fail
                go_roundw
                case rel => exact ⟨j + 1, by omega, by go_num, HQ.out⟩
                case measure => simp [intOf]; omega
              · obtain rfl : j = i := by omega
                have hat := H8.out.2.2.1.new nr
                have bv := H8.out.2.2.2.1.chg nr id
                have nw := H8.out.2.2.2.2.trans nr fun _ _ => id
                have H9 := Lib.hid (And.intro hat (And.intro bv nw))
                clear hat bv nw nr
                generalize wo = w9 at *
                clear H8
                go_wp2_with fail
                go_loopw [15] (fun pv wr => ∃ (p : Nat) (v : Value), 1 ≤ p ∧ p ≤ k ∧ pv = .int .i64 p ∧ At wr B B k 0 (acksL p) v (left k p es) ∧ Blk wr G 27 (ints allV).toArray ∧ New w wr) (fun pv _ => k - (intOf pv).toNat)
                case atStart => exact ⟨1, v, by omega, by omega, rfl, by rw [acksL_one, left, if_pos (by omega)]; exact H9.out.1, H9.out.2.1, H9.out.2.2⟩
                case round =>
                  clear H9
                  obtain ⟨p, v, h1p, hpk, rfl, ha, bv, nw⟩ := hrel
                  by_cases hlt : p < k
                  · have hle : left k p es = es := by rw [left, if_pos hlt]
                    rw [hle] at ha
                    have CL := len_ _ _ _ _ _ _ _ _ ha (by have := HL.out; omega)
                    rw [HL.out] at CL
                    have CL := Lib.hid CL
                    have H10 := Lib.hid (And.intro ha (And.intro bv nw))
                    have hpi : (p : Int) < k := by omega
                    clear ha bv nw hle
                    go_wp2_with fail
                    refine CL.out.mono ?_
                    rintro x w10 ⟨rfl, n10⟩
                    have ha := H10.out.1.new n10
                    have bv := H10.out.2.1.chg n10 id
                    have nw := H10.out.2.2.trans n10 fun _ _ => id
                    have lv := ldB allV_len bv
                    have CA := ack _ _ _ _ _ _ _ _ ha p hlt (by omega) allV allV_len (by have := HL.out; omega) zeros (by rw [acksL_get (by omega), if_neg (by omega)])
                    rw [join_allV, acksL_set p h1p (by omega), left_step h1p hlt hk16] at CA
                    have CA := Lib.hid CA
                    have H11 := Lib.hid (And.intro ha (And.intro bv nw))
                    clear ha bv nw n10 CL H10
                    go_wp2_with fail
                    refine CA.out.mono ?_
                    rintro x w11 ⟨rfl, v11, h11, _, c11⟩
                    have bv := H11.out.2.1.chg c11 (fun e => by
                      rcases e with e | e
                      · omega
                      · exact own_ne H11.out.1.own H11.out.2.1 (by decide) e)
                    have nw := H11.out.2.2.trans c11 (fun g hg e => by
                      rcases e with e | e
                      · omega
                      · have := (own_lt H11.out.1.own e).1; omega)
                    have H12 := Lib.hid (And.intro h11 (And.intro bv nw))
                    clear h11 bv nw c11 lv CA
                    go_wp2_with fail
                    go_roundw
                    case rel => exact ⟨p + 1, v11, by omega, by omega, by go_num, H12.out⟩
                    case measure => simp [intOf]; omega
                  · obtain rfl : p = k := by omega
                    have HB := Lib.hid (And.intro ha (And.intro bv nw))
                    have C1 := Lib.hid (fun x : ChgW (fun _ => False) wr => by
                      have := len_ _ _ _ _ _ _ _ _ (HB.out.1.new x.chg) (by have := left_end hk2 hk16 es; have : someN es ≤ es.length := List.countP_le_length; have := HL.out; omega)
                      rw [left_end hk2 hk16, HSM.out] at this
                      exact this)
                    have C2 := Lib.hid (fun x : ChgW (fun _ => False) wr => by
                      have := stable _ _ _ _ _ _ _ _ (HB.out.1.new x.chg)
                      rw [stab_allV p hk2 hk16] at this
                      exact this)
                    have l7 := fun x : ChgW (fun _ => False) wr => ldB allV_len (HB.out.2.1.chg x.chg id)
                    have heq := fun W => eqV allV_len allV_len W
                    rw [show (allV == allV) = true by decide +kernel] at heq
                    have heg := fun (x : Operand) (y : Operand) (W : World) => run_eqGuard_agg (P := Try.prog) (t := 27) (by kernel_rfl) x y (ints allV).toArray (ints allV).toArray W
                    clear ha bv nw
                    go_wp2_with fail
                    refine wp_region_chg (fun _ => False) (by kernel_rfl) (by kernel_rfl) ?_
                    repeat (go_big_quiet_step ((first | (go_at_call 10; exact calls_new (C1.out _)) | (go_at_call 12; exact calls_new (C2.out _)))))
                    refine wpQuiet_nil ?_
                    rintro ⟨wq, hq⟩
                    simp only []
                    go_wp2_with fail
                    go_ret
                    exact ⟨rfl, HB.out.2.2.trans hq fun _ _ => id⟩
theorem open_u8b {H : Type} {enc : TypeId × Value → H} {P : Program} {w : World} {base : Nat} {spare : Nat → Bool} {held : Bool} {r : Reach} {b0 : Nat} {t : TypeId} {v : Value} {d : DataW H} {ps : List MemPlace} (ht : P.underlying t = some (.int .u8)) (hval : Value.okWide P w r b0 t v) (hd : DataW.Trod enc P w base spare held t v d ps) :
    ∃ c : UInt8, v = .int .u8 (c.toNat : Int) := by
  obtain ⟨n, rfl, _, _, h⟩ := open_int ht hval hd
  simp [Lit.wf, IntKind.min, IntKind.max, IntKind.signed, IntKind.bits] at h
  refine ⟨UInt8.ofNat n.toNat, ?_⟩
  congr 1
  simp
  omega
theorem law_args {H : Type} {enc : TypeId × Value → H} {W : World} {base : Nat} {args : Array Value} {ds : List (DataW H)} {ps : List MemPlace}
    (hval : ∀ (j : Nat) t v, Try.f3.params[j]? = some t → args[j]? = some v → Value.okWide Try.prog W .any base t v)
    (hw : ∀ (j : Nat) t d, Try.f3.params.toList[j]? = some t → ds[j]? = some d → ∀ n ∈ d.weights Try.prog t, n ≤ reachBytes)
    (hA : DataW.TrodAll enc Try.prog W 0 (fun _ => true) true Try.f3.params.toList args.toList ds ps) :
    Calls Try.prog 3 args W fun e w' => LawEnd W e w' := by
  rw [Try.params3] at hA hval hw
  obtain ⟨v0, v1, d0, d1, p0, p1, rfl, rfl, rfl, h0, h1⟩ := trodAll_two hA
  have o0 := hval 0 _ v0 rfl rfl
  have q0 := hw 0 _ d0 rfl rfl
  have o1 := hval 1 _ v1 rfl rfl
  have q1 := hw 1 _ d1 rfl rfl
  obtain ⟨n, rfl⟩ := open_u8b Try.underlying5 o0 h0
  obtain ⟨A, c, es, rfl, hl, hs, hr⟩ := open_events (cells_slice Try.underlying22 o1) q1 h1
  exact law W A c es hl hs hr n.toNat (UInt8.toNat_lt n)
end Buf

namespace lawBufferAll
theorem own : ownKnob Try.prog.godebug = none := by kernel_rfl
theorem laidOut : laidOutB Try.prog = true := by kernel_rfl
theorem reads : ∀ t ∈ Try.f3.params.toList, Try.prog.readableRec t = true ∧ t < Try.prog.types.size := by
  have h : (Try.f3.params.toList.all fun t => Try.prog.readableRec t && decide (t < Try.prog.types.size)) = true := by kernel_rfl
  intro t ht
  have := List.all_eq_true.1 h t ht
  simpa using this
theorem spec {H : Type} (ds : List (DataW H)) (h : ds.length = 2) : Rows.bufferAllSpec.fn H ds = { results := [.lit (.bool true)], args := ds } := by
  match ds, h with
  | [d1, d2], _ => rfl
theorem trodAll_len {H : Type} {enc : TypeId × Value → H} {P : Program} {w : World} {base : Nat} {sp : Nat → Bool} {held : Bool} : ∀ (ts : List TypeId) (vs : List Value) (ds : List (DataW H)) (ps : List MemPlace),
    DataW.TrodAll enc P w base sp held ts vs ds ps → ds.length = ts.length
  | [], _, _, _, h => by
    obtain ⟨_, rfl, _⟩ := trodAll_nil h
    rfl
  | _ :: ts, _, _, _, h => by
    obtain ⟨_, vs, _, ds, _, _, _, rfl, _, _, hr⟩ := trodAll_cons h
    simp [trodAll_len ts vs ds _ hr]
theorem contract (H : Type) (enc : TypeId × Value → H) (W : World) (base : Nat) (args : Array Value) (ds gs : List (DataW H)) (before : List MemPlace)
    (hval : ∀ (j : Nat) t v, Try.f3.params[j]? = some t → args[j]? = some v → Value.okWide Try.prog W .any base t v)
    (hW : DataW.Whole enc Try.prog Try.f3.params.toList Rows.bufferAllSpec.vars false W args.toList ds gs before)
    (hz : (DataW.weightsEach Try.prog (Try.f3.params.toList ++ Rows.bufferAllSpec.plain.varTypes Try.prog) (ds ++ gs)).all (· ≤ reachBytes) = true) :
    Calls Try.prog 3 args W fun e W' => ∃ v, e = .returned v ∧ Rows.bufferAllSpec.post enc Try.prog Try.f3 false true false false W args v W' := by
  obtain ⟨p, q, hA, hV, _⟩ := id hW
  have hlen : ds.length = 2 := (trodAll_len _ _ _ _ hA).trans (by kernel_rfl)
  have hV1 : DataW.TrodVars enc Try.prog W (fun _ => true) [] gs q := hV
  obtain ⟨rfl, rfl⟩ := trodVars_none hV1
  have hw : ∀ (j : Nat) t d, Try.f3.params.toList[j]? = some t → ds[j]? = some d → ∀ n ∈ d.weights Try.prog t, n ≤ reachBytes := by
    intro j t d ht hd n hn
    rw [List.append_nil] at hz
    have hlt : j < Try.f3.params.toList.length := (List.getElem?_eq_some_iff.1 ht).1
    have := List.all_eq_true.1 hz n (DataW.weights_mem_each (by rw [List.getElem?_append_left hlt]; exact ht) hd n hn)
    simpa using this
  refine (Buf.law_args hval hw hA).mono fun e W' ⟨he, hn⟩ => ?_
  exact ⟨_, he, law_post laidOut (tb := 4) rfl Try.underlying4 reads rfl hW (spec ds hlen) hn.below⟩
set_option maxRecDepth 100000 in
theorem lifted (os : Os) (started : os.Started) (H : Type) (enc : TypeId × Value → H) :
    ReturnsInHanded {} Try.checked os 3 .any (Rows.bufferAllSpec.pre6 enc Try.prog Try.f3 Rows.bufferAllRow.domain false) (Rows.bufferAllSpec.post enc Try.prog Try.f3 false true false false) := by
  refine returnsInHanded_of_change_sized (C := Try.checked) own started (by kernel_rfl) Try.func3
    (ChangeSpec.witness6 (enc := enc) (C := Try.checked) (s := Rows.bufferAllSpec) false ⟨#[], #[.int .u8 0, .slice none 0 0], []⟩ 60 (by kernel_rfl) (by kernel_rfl) (by kernel_rfl) (by kernel_rfl)) ?_
  intro W base args ds gs before hval hW _ hz _
  exact contract H enc W base args ds gs before hval hW hz
theorem proved : Rows.BufferAllSaid :=
  OpenClaim.holds_of_wide 3 Try.f3 rfl rfl rfl rfl rfl rfl rfl ⟨rfl, rfl, rfl, rfl, rfl⟩ rfl rfl rfl rfl rfl (by kernel_rfl) Try.func3 (by kernel_rfl)
    (of_decide_eq_true (by kernel_rfl)) (by unfold Func.isWrapper; first | (rw [if_pos (by decide +kernel)]; kernel_rfl) | (rw [if_neg (by decide +kernel)]; exact ⟨rfl, rfl⟩))
    (fun os started H enc _ => lifted os started H enc)
end lawBufferAll
end Go.Proofs.Ytgjlbifanjhcjaa
