/-
  EventRight, walked: true.
-/
import Derived.Test.YtjkjbbmbfobdaaaDoorRefEv3
namespace Go.Proofs.YtjkjbbmbfobdaaaDoor
set_option linter.unusedSimpArgs false
set_option linter.unusedVariables false
open Go.ChangeShapes Go.WideShapes Go.RowKit Go.Deep
namespace Evt
open Val (elemB rightB nameB JoinC)
open Vec Num
attribute [local go_sem ↓] loadDot loadVec loadRow0 storeRow0 loadOnly0 loadOnly1 loadOnly2
theorem Came.small {e : Ev} (h : Came e) (hs : total e ≤ 300) : Small e := by
  refine ⟨fun i => ?_⟩
  unfold total at hs
  by_cases h1 : i = 20
  · subst h1; omega
  by_cases h2 : i = 21
  · subst h2; omega
  by_cases h3 : i = 22
  · subst h3; omega
  by_cases h4 : i = 23
  · subst h4; omega
  by_cases h5 : i = 26
  · subst h5; omega
  · rw [h.no i h1 h2 h3 h4 h5]; decide
set_option maxHeartbeats 20000000 in
set_option maxRecDepth 100000 in
theorem rights (hJ : JoinC) (w : World) (hm : Val.MaxAt w) (e : Ev) (hc : Came e) :
    Calls Tryd.prog 3 #[e.val] w fun x w' => x = .returned (.bool true) ∧ New w w' := by
  have a1 := (Chg.refl (fun _ => False) w).alloc (.cells e.cs.toArray 31)
  have B1 := Blk.new w 31 e.cs.toArray
  have hz : ∀ W, (zeroValue 31).run Tryd.prog W = .ok (.agg zero.cs.toArray) W := fun W => by kernel_rfl
  have CF := Lib.hid (fixed hJ _ (hm.new a1))
  have H1 := Lib.hid (And.intro B1 a1)
  have HM := Lib.hid (And.intro hm (And.intro hJ hc))
  have g1 := B1.lt
  clear a1 B1 hm hJ hc
  go_enter Tryd.func3, Tryd.ntmps3
  go_wp2_with fail
  with_reducible refine CF.out.mono ?_
  rintro x w2 ⟨rfl, n2⟩
  have H2 := Lib.hid (And.intro (H1.out.1.chg n2 id) (H1.out.2.trans n2 fun _ _ => id))
  have CS := Lib.hid (short w2 e HM.out.2.2)
  have l2 := ldE H2.out.1
  have g2 := H2.out.1.lt
  clear n2 CF
  go_wp2_with fail
  with_reducible refine CS.out.mono ?_
  rintro x w3 ⟨rfl, n3⟩
  have H3 := Lib.hid (And.intro (H2.out.1.chg n3 id) (H2.out.2.trans n3 fun _ _ => id))
  have l3 := ldE H3.out.1
  have g3 := H3.out.1.lt
  clear n3 CS l2 g2
  obtain ⟨sh, hsh⟩ : ∃ b, decide (total e ≤ 300) = b := ⟨_, rfl⟩
  rw [hsh]
  cases sh
  · clear hsh
    go_wp2_with fail
    go_ret
    exact ⟨rfl, H3.out.2⟩
  have htot : total e ≤ 300 := by simpa using hsh
  have HT := Lib.hid htot
  clear hsh htot
  obtain ⟨_, _, c18, l19, l24⟩ := blk_ev H3.out.1
  have a4 := (Chg.refl (fun _ => False) w3).alloc (.cells #[.int .i64 (e.n 18), .int .i64 (e.n 19), .string (e.t 20), .string (e.t 21), .string (e.t 22), .string (e.t 23), .int .i64 (e.n 24), .int .i64 (e.n 25), .string (e.t 26)] 35)
  have B4 := Blk.new w3 35 #[.int .i64 (e.n 18), .int .i64 (e.n 19), .string (e.t 20), .string (e.t 21), .string (e.t 22), .string (e.t 23), .int .i64 (e.n 24), .int .i64 (e.n 25), .string (e.t 26)]
  have hzc : ∀ W, (zeroValue 35).run Tryd.prog W = .ok (.agg #[.int .i64 0, .int .i64 0, .string ⟨#[]⟩, .string ⟨#[]⟩, .string ⟨#[]⟩, .string ⟨#[]⟩, .int .i64 0, .int .i64 0, .string ⟨#[]⟩]) W := fun W => by kernel_rfl
  have H4 := Lib.hid (And.intro (H3.out.1.chg a4 id) (And.intro B4 (H3.out.2.trans a4 fun _ _ => id)))
  have le := fun x : ChgW (fun _ => False) (w3.alloc (.cells #[.int .i64 (e.n 18), .int .i64 (e.n 19), .string (e.t 20), .string (e.t 21), .string (e.t 22), .string (e.t 23), .int .i64 (e.n 24), .int .i64 (e.n 25), .string (e.t 26)] 35)) => ldE (H4.out.1.chg x.chg id)
  have lc := fun x : ChgW (fun _ => False) (w3.alloc (.cells #[.int .i64 (e.n 18), .int .i64 (e.n 19), .string (e.t 20), .string (e.t 21), .string (e.t 22), .string (e.t 23), .int .i64 (e.n 24), .int .i64 (e.n 25), .string (e.t 26)] 35)) => (blk_ch (H4.out.2.1.chg x.chg id)).2.2.2
  have ld := fun x : ChgW (fun _ => False) (w3.alloc (.cells #[.int .i64 (e.n 18), .int .i64 (e.n 19), .string (e.t 20), .string (e.t 21), .string (e.t 22), .string (e.t 23), .int .i64 (e.n 24), .int .i64 (e.n 25), .string (e.t 26)] 35)) => (blk_ev (H4.out.1.chg x.chg id)).1
  have lv := fun x : ChgW (fun _ => False) (w3.alloc (.cells #[.int .i64 (e.n 18), .int .i64 (e.n 19), .string (e.t 20), .string (e.t 21), .string (e.t 22), .string (e.t 23), .int .i64 (e.n 24), .int .i64 (e.n 25), .string (e.t 26)] 35)) => (blk_ev (H4.out.1.chg x.chg id)).2.1
  have hfit := HM.out.2.2.fit HT.out
  have hsm := HM.out.2.2.small HT.out
  have hMx := fun x : ChgW (fun _ => False) (w3.alloc (.cells #[.int .i64 (e.n 18), .int .i64 (e.n 19), .string (e.t 20), .string (e.t 21), .string (e.t 22), .string (e.t 23), .int .i64 (e.n 24), .int .i64 (e.n 25), .string (e.t 26)] 35)) => HM.out.1.new (H4.out.2.2.trans x.chg fun _ _ => id)
  have C1 := fun x : ChgW (fun _ => False) (w3.alloc (.cells #[.int .i64 (e.n 18), .int .i64 (e.n 19), .string (e.t 20), .string (e.t 21), .string (e.t 22), .string (e.t 23), .int .i64 (e.n 24), .int .i64 (e.n 25), .string (e.t 26)] 35)) => right HM.out.2.1 x.W e hfit (hMx x)
  have C2 := fun x : ChgW (fun _ => False) (w3.alloc (.cells #[.int .i64 (e.n 18), .int .i64 (e.n 19), .string (e.t 20), .string (e.t 21), .string (e.t 22), .string (e.t 23), .int .i64 (e.n 24), .int .i64 (e.n 25), .string (e.t 26)] 35)) => rrightE x.W e hsm
  have C3 := fun x : ChgW (fun _ => False) (w3.alloc (.cells #[.int .i64 (e.n 18), .int .i64 (e.n 19), .string (e.t 20), .string (e.t 21), .string (e.t 22), .string (e.t 23), .int .i64 (e.n 24), .int .i64 (e.n 25), .string (e.t 26)] 35)) => change HM.out.2.1 x.W (e.n 18) (e.n 19) (e.t 20) (e.t 21) (e.t 22) (e.t 23) (e.n 24) (e.n 25) (e.t 26) ⟨hfit.t 20, hfit.t 21, hfit.t 22, hfit.t 23⟩ (hfit.t 26) hfit.n (hMx x)
  have C4 := fun x : ChgW (fun _ => False) (w3.alloc (.cells #[.int .i64 (e.n 18), .int .i64 (e.n 19), .string (e.t 20), .string (e.t 21), .string (e.t 22), .string (e.t 23), .int .i64 (e.n 24), .int .i64 (e.n 25), .string (e.t 26)] 35)) => rchange x.W (e.n 18) (e.n 19) (e.t 20) (e.t 21) (e.t 22) (e.t 23) (e.n 24) (e.n 25) (e.t 26) ⟨hsm.t 20, hsm.t 21, hsm.t 22, hsm.t 23⟩ (hsm.t 26)
  obtain ⟨rb, hrb⟩ : ∃ b, rightE e = b := ⟨_, rfl⟩
  obtain ⟨cb, hcb⟩ : ∃ b, changeB (e.n 18) (e.n 19) (e.t 20).data.toList (e.t 21).data.toList (e.t 22).data.toList (e.t 23).data.toList (e.n 24) (e.n 25) (e.t 26).data.toList = b := ⟨_, rfl⟩
  have C5 := fun x : ChgW (fun _ => False) (w3.alloc (.cells #[.int .i64 (e.n 18), .int .i64 (e.n 19), .string (e.t 20), .string (e.t 21), .string (e.t 22), .string (e.t 23), .int .i64 (e.n 24), .int .i64 (e.n 25), .string (e.t 26)] 35)) => code_ x.W rb
  have C6 := fun x : ChgW (fun _ => False) (w3.alloc (.cells #[.int .i64 (e.n 18), .int .i64 (e.n 19), .string (e.t 20), .string (e.t 21), .string (e.t 22), .string (e.t 23), .int .i64 (e.n 24), .int .i64 (e.n 25), .string (e.t 26)] 35)) => code_ x.W cb
  simp only [hrb] at C1 C2
  simp only [hcb] at C3 C4
  obtain ⟨q1, hq1⟩ : ∃ q : Int, (if rb = true then 0 else 1) = q := ⟨_, rfl⟩
  obtain ⟨q2, hq2⟩ : ∃ q : Int, (if cb = true then 0 else 1) = q := ⟨_, rfl⟩
  simp only [hq1] at C1 C5
  simp only [hq2] at C3 C6
  have C1 := Lib.hid C1
  have C2 := Lib.hid C2
  have C3 := Lib.hid C3
  have C4 := Lib.hid C4
  have C5 := Lib.hid C5
  have C6 := Lib.hid C6
  have C7 := Lib.hid fun x : ChgW (fun _ => False) (w3.alloc (.cells #[.int .i64 (e.n 18), .int .i64 (e.n 19), .string (e.t 20), .string (e.t 21), .string (e.t 22), .string (e.t 23), .int .i64 (e.n 24), .int .i64 (e.n 25), .string (e.t 26)] 35)) => of_ x.W e
  have C8 := Lib.hid fun x : ChgW (fun _ => False) (w3.alloc (.cells #[.int .i64 (e.n 18), .int .i64 (e.n 19), .string (e.t 20), .string (e.t 21), .string (e.t 22), .string (e.t 23), .int .i64 (e.n 24), .int .i64 (e.n 25), .string (e.t 26)] 35)) => make_ x.W e
  have s1 := selfEv e
  have s2 := selfCh e
  have gg1 := H4.out.1.lt
  have gg2 := H4.out.2.1.lt
  clear a4 B4 hfit hsm hMx hrb hcb hq1 hq2
  go_wp2_with fail
  refine wp_region_chg (fun _ => False) (by kernel_rfl) (by kernel_rfl) ?_
  repeat (go_big_quiet_step ((first | (go_at_call 8; with_reducible exact calls_new (C1.out _)) | (go_at_call 10; with_reducible exact calls_new (C2.out _)) | (go_at_call 11; with_reducible exact calls_new (C3.out _)) | (go_at_call 12; with_reducible exact calls_new (C4.out _)) | (go_at_call 9; first | with_reducible exact calls_new (C5.out _) | with_reducible exact calls_new (C6.out _)) | (go_at_call 13; with_reducible exact calls_new (C7.out _)) | (go_at_call 14; with_reducible exact calls_new (C8.out _)))))
  refine wpQuiet_nil ?_
  rintro ⟨wq, hq⟩
  simp only []
  go_wp2_with fail
  go_ret
  exact ⟨rfl, H4.out.2.2.trans hq fun _ _ => id⟩
end Evt
end Go.Proofs.YtjkjbbmbfobdaaaDoor
