/-
  The law's fixed: true.
-/
import Derived.Test.YtjkjbbmbfobdaaaDoorEvFix
namespace Go.Proofs.YtjkjbbmbfobdaaaDoor
set_option linter.unusedSimpArgs false
set_option linter.unusedVariables false
open Go.ChangeShapes Go.WideShapes Go.RowKit Go.Deep
namespace Evt
open Val (JoinC)
open Vec Num
attribute [local go_sem ↓] loadDot loadVec loadRow0 storeRow0 loadOnly0 loadOnly1 loadOnly2
theorem blk_el {w : World} {g : Nat} {k : Int} {a b c d : ByteArray} (h : Blk w g 27 #[.int .i64 k, .string a, .string b, .string c, .string d]) : (LoadRow 27 ⟨g, 0, none⟩).run Tryd.prog w = .ok (elemV k a b c d) w :=
  run_LoadRow (P := Tryd.prog) (n := 5) (cs := [.int .i64 k, .string a, .string b, .string c, .string d]) Tryd.underlying27 rfl (by kernel_rfl) rfl (Blk.range_all (cs := [_, _, _, _, _]) h)
theorem bytes_yes (hJ : JoinC) (w : World) (e : Ev) (h : Fit e) (hm : Val.MaxAt w) (hb : e.bytes.length ≤ 900000000) (hr : rightE e = true) : Calls Tryd.prog 17 #[e.val] w fun x w' =>
    ∃ A c, x = .returned (.tuple #[.slice A e.bytes.length c, .int .i64 0]) ∧ OwnB w' w.heap.size (.slice A e.bytes.length c) e.bytes ∧ New w w' :=
  (bytes_ hJ w e h hm hb).mono fun x w' ⟨h1, h2⟩ => by
    rw [if_pos hr] at h1
    obtain ⟨v, rfl, ho⟩ := h1
    obtain ⟨A, c, rfl, _⟩ := ho.form
    exact ⟨A, c, rfl, ho, h2⟩
theorem bytes_no (hJ : JoinC) (w : World) (e : Ev) (h : Fit e) (hm : Val.MaxAt w) (hb : e.bytes.length ≤ 900000000) (hr : ¬ rightE e = true) : Calls Tryd.prog 17 #[e.val] w fun x w' =>
    x = .returned (.tuple #[.slice none 0 0, .int .i64 1]) ∧ New w w' :=
  (bytes_ hJ w e h hm hb).mono fun x w' ⟨h1, h2⟩ => by
    rw [if_neg hr] at h1
    exact ⟨h1, h2⟩
/-- an event stored in a variable just made -/
theorem new_ev (w : World) (e : Ev) : ∃ W, (StoreRow 31 ⟨w.heap.size, 0, none⟩ e.val).run Tryd.prog (w.alloc (.cells zero.cs.toArray 31)) = .ok () W ∧ Blk W w.heap.size 31 e.cs.toArray ∧ New w W ∧ w.heap.size < (w.alloc (.cells zero.cs.toArray 31)).heap.size := by
  have bz := Blk.new w 31 zero.cs.toArray
  have hst := stE zero e bz
  exact ⟨_, hst.1, hst.2, Chg.setCells (S := fun _ => False) (a := w) (g := w.heap.size) e.cs 0 _ ((Chg.refl (fun _ => False) w).alloc (.cells zero.cs.toArray 31)) (fun h => by omega), bz.lt⟩
set_option maxHeartbeats 20000000 in
set_option maxRecDepth 20000 in
theorem fixed (hJ : JoinC) (w : World) (hm : Val.MaxAt w) : Calls Tryd.prog 6 #[] w fun x w' => x = .returned (.bool true) ∧ New w w' := by
  have hz : ∀ W, (zeroValue 31).run Tryd.prog W = .ok (.agg zero.cs.toArray) W := fun W => by kernel_rfl
  have n1 := (Chg.refl (fun _ => False) w).alloc (.cells #[.int .i64 1, .string ⟨#[97]⟩, .string ⟨#[]⟩, .string ⟨#[]⟩, .string ⟨#[]⟩] 27)
  have B1 := Blk.new w 27 #[.int .i64 1, .string ⟨#[97]⟩, .string ⟨#[]⟩, .string ⟨#[]⟩, .string ⟨#[]⟩]
  have l1 := blk_el B1
  have CM : ∀ W, Calls Tryd.prog 14 #[.agg #[.int .i64 1, .int .i64 3], .agg #[.int .i64 5, .int .i64 2, .int .i64 0, .int .i64 0, .int .i64 0, .int .i64 0, .int .i64 0, .int .i64 0, .int .i64 0, .int .i64 0, .int .i64 0, .int .i64 0, .int .i64 0, .int .i64 0, .int .i64 0, .int .i64 0], .agg #[.int .i64 1, .int .i64 1, .string ⟨#[97]⟩, .string ⟨#[]⟩, .string ⟨#[]⟩, .string ⟨#[]⟩, .int .i64 0, .int .i64 0, .string ⟨#[]⟩]] W fun x w' => x = .returned e0.val ∧ New W w' := fun W => make_ W e0
  have CM := Lib.hid CM
  have HM := Lib.hid (And.intro hm hJ)
  have N1 := Lib.hid n1
  have HB1 := Lib.hid B1
  have g1 := B1.lt
  clear n1 B1 hm hJ
  go_enter Tryd.func6, Tryd.ntmps6
  go_wp2_with fail
  with_reducible refine (CM.out _).mono ?_
  rintro x w2 ⟨rfl, n2⟩
  obtain ⟨w3, hst, b3, n3, g3⟩ := new_ev w2 e0
  have N3 := Lib.hid ((N1.out.trans n2 fun _ _ => id).trans n3 fun _ _ => id)
  have HB3 := Lib.hid (HB1.out.chg (n2.trans n3 fun _ _ => id) id)
  obtain ⟨g, hg⟩ : ∃ g, w2.heap.size = g := ⟨_, rfl⟩
  rw [hg] at b3 hst g3
  have HE := Lib.hid b3
  have hl3 := ldE b3
  have CB := bytes_yes HM.out.2 w3 e0 fit0 (HM.out.1.new N3.out) (by rw [b0]; decide) r0
  rw [show e0.bytes.length = 28 by rw [b0]; rfl] at CB
  have CB := Lib.hid CB
  have hgl := b3.lt
  clear n2 n3 b3 CM
  go_wp2_with fail
  with_reducible refine CB.out.mono ?_
  rintro x w4 ⟨A, c, rfl, o4, n4⟩
  have hr4 := Reads.of_own (show w4.ownsRow w3.heap.size 5 1 (.slice A 28 c) 28 (u8s e0.bytes) from by have := o4; unfold OwnB at this; rw [show e0.bytes.length = 28 by rw [b0]; rfl] at this; exact this)
  have hr4 := hr4.mono (G := fun b => b < w4.heap.size) fun b hb => hb.2.1
  have hc4 : 28 ≤ c := by
    obtain ⟨A2, c2, h1, h2, _⟩ := o4.form
    injection h1 with _ h3 h4
    rw [show e0.bytes.length = 28 by rw [b0]; rfl] at h2
    omega
  have N4 := Lib.hid (N3.out.trans n4 fun _ _ => id)
  have HE := Lib.hid (HE.out.chg n4 id)
  have HB3 := Lib.hid (HB3.out.chg n4 id)
  have CP := parse HM.out.2 w4 _ A 28 c e0.bytes hr4 (fun b hb => hb) (by decide) hc4 (HM.out.1.new N4.out)
  rw [parse_bytes r0, val_evOf] at CP
  have CP := Lib.hid CP
  have HR4 := Lib.hid hr4
  clear o4 n4 hr4 CB hl3
  go_wp2_with fail
  with_reducible refine CP.out.mono ?_
  rintro x w5 ⟨rfl, n5⟩
  obtain ⟨w6, hst6, b6, n6, g6⟩ := new_ev w5 e0
  have n56 := n5.trans n6 fun _ _ => id
  have N6 := Lib.hid (N4.out.trans n56 fun _ _ => id)
  have HE := Lib.hid (HE.out.chg n56 id)
  have HB3 := Lib.hid (HB3.out.chg n56 id)
  obtain ⟨g2, hg2⟩ : ∃ g, w5.heap.size = g := ⟨_, rfl⟩
  rw [hg2] at b6 hst6 g6
  have HE2 := Lib.hid b6
  have hr6 := HR4.out.chg n56 fun b hb => ⟨hb, id⟩
  have hr6 := hr6.mono (G := fun b => b < w6.heap.size) fun b hb => Nat.lt_of_lt_of_le hb n56.size
  obtain ⟨ad, rfl, _⟩ := hr6.2 (by decide)
  have hr7 : Reads w6 (fun b => b < w6.heap.size) 1 (some ⟨ad.block, ad.off + 1, none⟩) 27 (u8s (e0.bytes.drop 1)) := Reads.cutB_lt hr6 (k := 1) (by decide) hc4
  have CQ := parse HM.out.2 w6 _ (some ⟨ad.block, ad.off + 1, none⟩) 27 (c - 1) (e0.bytes.drop 1) hr7 (fun b hb => hb) (by decide) (by omega) (HM.out.1.new N6.out)
  rw [p0] at CQ
  have CQ := Lib.hid CQ
  clear n5 n6 n56 b6 hr6 hr7 CP HR4
  go_wp2_with fail
  with_reducible refine CQ.out.mono ?_
  rintro x w7 ⟨rfl, n7⟩
  obtain ⟨w8, hst8, b8, n8, g8⟩ := new_ev w7 zero
  have n78 := n7.trans n8 fun _ _ => id
  have N8 := Lib.hid (N6.out.trans n78 fun _ _ => id)
  have HE := Lib.hid (HE.out.chg n78 id)
  have HE2 := Lib.hid (HE2.out.chg n78 id)
  have HB3 := Lib.hid (HB3.out.chg n78 id)
  obtain ⟨g3, hg3⟩ : ∃ g, w7.heap.size = g := ⟨_, rfl⟩
  rw [hg3] at hst8 g8
  have l1 := fun x : ChgW (fun _ => False) w8 => blk_el (HB3.out.chg x.chg id)
  have l2 := fun x : ChgW (fun _ => False) w8 => ldE (HE.out.chg x.chg id)
  have l3 := fun x : ChgW (fun _ => False) w8 => ldE (HE2.out.chg x.chg id)
  have hself := selfEv e0
  have hMx := fun x : ChgW (fun _ => False) w8 => HM.out.1.new (N8.out.trans x.chg fun _ _ => id)
  have C1 : ∀ x : ChgW (fun _ => False) w8, Calls Tryd.prog 11 #[.agg #[.int .i64 3, .int .i64 1, .string ⟨#[97]⟩, .string ⟨#[]⟩, .string ⟨#[]⟩, .string ⟨#[]⟩, .int .i64 0, .int .i64 0, .string ⟨#[]⟩]] x.W fun e w' => e = .returned (.int .i64 1) ∧ New x.W w' := fun x => by
    have := change HM.out.2 x.W 3 1 ⟨#[97]⟩ ⟨#[]⟩ ⟨#[]⟩ ⟨#[]⟩ 0 0 ⟨#[]⟩ (by decide) (by decide) (by decide) (hMx x)
    rw [show changeB 3 1 (⟨#[97]⟩ : ByteArray).data.toList (⟨#[]⟩ : ByteArray).data.toList (⟨#[]⟩ : ByteArray).data.toList (⟨#[]⟩ : ByteArray).data.toList 0 0 (⟨#[]⟩ : ByteArray).data.toList = false by decide +kernel] at this
    exact this
  have C2 : ∀ x : ChgW (fun _ => False) w8, Calls Tryd.prog 13 #[e0.val] x.W fun e w' => e = .returned (.agg #[.int .i64 1, .int .i64 1, .string ⟨#[97]⟩, .string ⟨#[]⟩, .string ⟨#[]⟩, .string ⟨#[]⟩, .int .i64 0, .int .i64 0, .string ⟨#[]⟩]) ∧ New x.W w' := fun x => of_ x.W e0
  have C3 : ∀ x : ChgW (fun _ => False) w8, Calls Tryd.prog 8 #[zero.val] x.W fun e w' => e = .returned (.int .i64 1) ∧ New x.W w' := fun x => by
    have := right HM.out.2 x.W zero fitz (hMx x)
    rw [rz] at this
    exact this
  have hfld : ∀ W, (Instr.field 35 (.agg #[.int .i64 1, .int .i64 1, .string ⟨#[97]⟩, .string ⟨#[]⟩, .string ⟨#[]⟩, .string ⟨#[]⟩, .int .i64 0, .int .i64 0, .string ⟨#[]⟩]) 1).run Tryd.prog W = .ok (.agg #[.int .i64 1, .string ⟨#[97]⟩, .string ⟨#[]⟩, .string ⟨#[]⟩, .string ⟨#[]⟩]) W := fun W => by kernel_rfl
  have hel : ∀ W, (binOp .eql 27 (.agg #[.int .i64 1, .string ⟨#[97]⟩, .string ⟨#[]⟩, .string ⟨#[]⟩, .string ⟨#[]⟩]) (.agg #[.int .i64 1, .string ⟨#[97]⟩, .string ⟨#[]⟩, .string ⟨#[]⟩, .string ⟨#[]⟩])).run Tryd.prog W = .ok (.bool true) W := fun W => by kernel_rfl
  have C1 := Lib.hid C1
  have C2 := Lib.hid C2
  have C3 := Lib.hid C3
  have hgl := HB3.out.lt
  have hgl2 := HE.out.lt
  have hgl3 := HE2.out.lt
  clear n7 n8 n78 b8 CQ hMx
  go_wp2_with fail
  refine wp_region_chg (fun _ => False) (by kernel_rfl) (by kernel_rfl) ?_
  repeat (go_big_quiet_step ((first | (go_at_call 11; with_reducible exact calls_new (C1.out _)) | (go_at_call 13; with_reducible exact calls_new (C2.out _)) | (go_at_call 8; with_reducible exact calls_new (C3.out _)))))
  refine wpQuiet_nil ?_
  rintro ⟨wq, hq⟩
  simp only []
  go_wp2_with fail
  go_ret
  exact ⟨rfl, N8.out.trans hq fun _ _ => id⟩
end Evt
end Go.Proofs.YtjkjbbmbfobdaaaDoor
