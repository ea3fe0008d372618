/-
  Which changes may be: kept, scalar, may, Change (no condition beyond the sizes, and that MaxLen holds a number).
-/
import Derived.Test.YtjkjbbmbfobdaaaDoorEvt
import Derived.Test.YtjkjbbmbfobdaaaDoorElem
import Derived.Deep.CutBlock
import Derived.Deep.DeepCutAuto
namespace Go.Proofs.YtjkjbbmbfobdaaaDoor
set_option linter.unusedSimpArgs false
set_option linter.unusedVariables false
open Go.ChangeShapes Go.WideShapes Go.RowKit Go.Deep
namespace Evt
open Val (elemB rightB JoinC)
theorem loadOnly0 (p : Value) : Instr.loadAt 27 p = LoadRowV 27 p := rfl
attribute [local go_sem ↓] loadOnly0
theorem loadOnly1 (p : Value) : Instr.loadAt 29 p = LoadRowV 29 p := rfl
attribute [local go_sem ↓] loadOnly1
theorem loadOnly2 (p : Value) : Instr.loadAt 35 p = LoadRowV 35 p := rfl
attribute [local go_sem ↓] loadOnly2
abbrev elemV (k : Int) (a b c d : ByteArray) : Value := .agg #[.int .i64 k, .string a, .string b, .string c, .string d]
abbrev valV (k n : Int) (t : ByteArray) : Value := .agg #[.int .i64 k, .int .i64 n, .string t]
abbrev chV (op k : Int) (a b c d : ByteArray) (vk vn : Int) (vt : ByteArray) : Value := .agg #[.int .i64 op, .int .i64 k, .string a, .string b, .string c, .string d, .int .i64 vk, .int .i64 vn, .string vt]
def keptB (k : Int) : Bool := decide (k = 4) || decide (k = 5)
def scalarB (k n : Int) (t : List UInt8) : Bool := decide (1 ≤ k) && decide (k ≤ 3) && rightB k n t
def noneB (k n : Int) (t : List UInt8) : Bool := decide (k = 0) && decide (n = 0) && decide (t = [])
def changeB (op k : Int) (a b c d : List UInt8) (vk vn : Int) (vt : List UInt8) : Bool :=
  elemB k a b c d && (if op = 1 ∨ op = 2 then noneB vk vn vt && !keptB k else if op = 3 then keptB k && scalarB vk vn vt else if op = 4 then noneB vk vn vt && keptB k else false)
theorem kept (w : World) (k : Int) (a b c d : ByteArray) : Calls Tryd.prog 35 #[elemV k a b c d] w fun e w' => e = .returned (.bool (keptB k)) ∧ New w w' := by
  have N1 := Lib.hid ((Chg.refl (fun _ => False) w).alloc (.cells #[.int .i64 k, .string a, .string b, .string c, .string d] 27))
  by_cases h4 : k = 4
  · subst h4
    go_enter Tryd.func35, Tryd.ntmps35
    go_wp2_with fail
    go_ret
    exact ⟨rfl, N1.out⟩
  · have b4 : (k == 4) = false := by simpa using h4
    by_cases h5 : k = 5
    · subst h5
      go_enter Tryd.func35, Tryd.ntmps35
      go_wp2_with fail
      go_ret
      exact ⟨rfl, N1.out⟩
    · have b5 : (k == 5) = false := by simpa using h5
      rw [show keptB k = false by unfold keptB; simp [h4, h5]]
      go_enter Tryd.func35, Tryd.ntmps35
      go_wp2_with fail
      go_ret
      exact ⟨by simp [h5], N1.out⟩
theorem blk_val {w : World} {g : Nat} {k n : Int} {t : ByteArray} (h : Blk w g 29 #[.int .i64 k, .int .i64 n, .string t]) : (LoadRow 29 ⟨g, 0, none⟩).run Tryd.prog w = .ok (valV k n t) w :=
  run_LoadRow (P := Tryd.prog) (n := 3) (cs := [.int .i64 k, .int .i64 n, .string t]) Tryd.underlying29 rfl (by kernel_rfl) rfl (Blk.range_all (cs := [_, _, _]) h)
set_option maxHeartbeats 4000000 in
theorem scalar (w : World) (k n : Int) (t : ByteArray) (hs : t.size < 4294967281) (hb : -9223372036854775808 ≤ n ∧ n ≤ 9223372036854775807) (hm : Val.MaxAt w) :
    Calls Tryd.prog 36 #[valV k n t] w fun e w' => e = .returned (.bool (scalarB k n t.data.toList)) ∧ New w w' := by
  have n1 := (Chg.refl (fun _ => False) w).alloc (.cells #[.int .i64 k, .int .i64 n, .string t] 29)
  have hl := blk_val (Blk.new w 29 #[.int .i64 k, .int .i64 n, .string t])
  have N1 := Lib.hid n1
  have CR := Lib.hid (Val.right _ k n t hs hb (hm.new n1))
  obtain ⟨r, hr⟩ : ∃ r, rightB k n t.data.toList = r := ⟨_, rfl⟩
  rw [hr] at CR
  have HS := Lib.hid (show scalarB k n t.data.toList = (decide (1 ≤ k) && decide (k ≤ 3) && r) by unfold scalarB; rw [hr])
  rw [HS.out]
  clear hr hs hb hm n1
  by_cases h1 : 1 ≤ k
  · by_cases h3 : k ≤ 3
    · rw [show (decide (1 ≤ k) && decide (k ≤ 3) && r) = r by simp [h1, h3]]
      go_enter Tryd.func36, Tryd.ntmps36
      go_wp2_with fail
      with_reducible refine CR.out.mono ?_
      rintro e w2 ⟨rfl, n2⟩
      have N2 := Lib.hid (N1.out.trans n2 fun _ _ => id)
      clear n2
      go_wp2_with fail
      go_ret
      exact ⟨rfl, N2.out⟩
    · rw [show (decide (1 ≤ k) && decide (k ≤ 3) && r) = false by simp [h3]]
      go_enter Tryd.func36, Tryd.ntmps36
      go_wp2_with fail
      go_ret
      exact ⟨by simp [h3], N1.out⟩
  · rw [show (decide (1 ≤ k) && decide (k ≤ 3) && r) = false by simp [h1]]
    go_enter Tryd.func36, Tryd.ntmps36
    go_wp2_with fail
    go_ret
    exact ⟨by simp [h1], N1.out⟩
theorem eql_none (k n : Int) (t : ByteArray) (W : World) : (binOp .eql 29 (.agg #[.int .i64 k, .int .i64 n, .string t]) (.agg #[.int .i64 0, .int .i64 0, .string ⟨#[]⟩])).run Tryd.prog W = .ok (.bool (noneB k n t.data.toList)) W := by
  unfold noneB
  by_cases h1 : k = 0
  · subst h1
    by_cases h2 : n = 0
    · subst h2
      by_cases h3 : t.data.toList = []
      · obtain rfl : t = ⟨#[]⟩ := by
          apply ByteArray.ext
          exact Array.toList_inj.1 (by rw [h3])
        go_simp
      · have h4 : (t.toList == (⟨#[]⟩ : ByteArray).toList) = false := by
          rw [beq_eq_false_iff_ne, Val.toList_data, Val.toList_data]
          exact h3
        have h5 : ¬ t.toList = [] := by rw [Val.toList_data]; exact h3
        go_simp
    · have h4 : (n == 0) = false := by simpa using h2
      go_simp
  · have h4 : (k == 0) = false := by simpa using h1
    go_simp
theorem blk_ch {w : World} {g : Nat} {op k : Int} {a b c d : ByteArray} {vk vn : Int} {vt : ByteArray} (h : Blk w g 35 #[.int .i64 op, .int .i64 k, .string a, .string b, .string c, .string d, .int .i64 vk, .int .i64 vn, .string vt]) :
    (LoadRow 27 ⟨g, 1, none⟩).run Tryd.prog w = .ok (elemV k a b c d) w ∧ (LoadRow 29 ⟨g, 6, none⟩).run Tryd.prog w = .ok (valV vk vn vt) w ∧ w.cell? ⟨g, 0, none⟩ = some (.int .i64 op) ∧ (LoadRow 35 ⟨g, 0, none⟩).run Tryd.prog w = .ok (chV op k a b c d vk vn vt) w := by
  refine ⟨?_, ?_, h.cell 0, ?_⟩
  · exact run_LoadRow (P := Tryd.prog) (n := 5) (cs := [.int .i64 k, .string a, .string b, .string c, .string d]) Tryd.underlying27 rfl (by kernel_rfl) rfl (Blk.range (cs := [_, _, _, _, _, _, _, _, _]) h 1 _ fun j v hj => by
      match j, hj with
      | 0, hj => simpa using hj
      | 1, hj => simpa using hj
      | 2, hj => simpa using hj
      | 3, hj => simpa using hj
      | 4, hj => simpa using hj)
  · exact run_LoadRow (P := Tryd.prog) (n := 3) (cs := [.int .i64 vk, .int .i64 vn, .string vt]) Tryd.underlying29 rfl (by kernel_rfl) rfl (Blk.range (cs := [_, _, _, _, _, _, _, _, _]) h 6 _ fun j v hj => by
      match j, hj with
      | 0, hj => simpa using hj
      | 1, hj => simpa using hj
      | 2, hj => simpa using hj)
  · exact run_LoadRow (P := Tryd.prog) (n := 9) (cs := [.int .i64 op, .int .i64 k, .string a, .string b, .string c, .string d, .int .i64 vk, .int .i64 vn, .string vt]) Tryd.underlying35 rfl (by kernel_rfl) rfl (Blk.range_all (cs := [_, _, _, _, _, _, _, _, _]) h)
set_option maxHeartbeats 20000000 in
set_option maxRecDepth 20000 in
theorem may (hJ : JoinC) (w : World) (op k : Int) (a b c d : ByteArray) (vk vn : Int) (vt : ByteArray) (hs : a.size ≤ 1000000 ∧ b.size ≤ 1000000 ∧ c.size ≤ 1000000 ∧ d.size ≤ 1000000) (ht : vt.size ≤ 1000000) (hb : -9223372036854775808 ≤ vn ∧ vn ≤ 9223372036854775807) (hm : Val.MaxAt w) :
    Calls Tryd.prog 21 #[chV op k a b c d vk vn vt] w fun e w' => e = .returned (.bool (changeB op k a.data.toList b.data.toList c.data.toList d.data.toList vk vn vt.data.toList)) ∧ New w w' := by
  have n1 := (Chg.refl (fun _ => False) w).alloc (.cells #[.int .i64 op, .int .i64 k, .string a, .string b, .string c, .string d, .int .i64 vk, .int .i64 vn, .string vt] 35)
  have B1 := Blk.new w 35 #[.int .i64 op, .int .i64 k, .string a, .string b, .string c, .string d, .int .i64 vk, .int .i64 vn, .string vt]
  have l1 := (blk_ch B1).1
  have CE := Lib.hid (Val.elem hJ (w.alloc (.cells #[.int .i64 op, .int .i64 k, .string a, .string b, .string c, .string d, .int .i64 vk, .int .i64 vn, .string vt] 35)) k a b c d hs)
  have CK := Lib.hid fun W => kept W k a b c d
  have CSc := Lib.hid fun W (hW : New w W) => scalar W vk vn vt (by omega) hb (hm.new hW)
  have hz : ∀ W, (zeroValue 29).run Tryd.prog W = .ok (.agg #[.int .i64 0, .int .i64 0, .string ⟨#[]⟩]) W := fun W => by kernel_rfl
  have hq := eql_none vk vn vt
  obtain ⟨eb, heb⟩ : ∃ x, elemB k a.data.toList b.data.toList c.data.toList d.data.toList = x := ⟨_, rfl⟩
  obtain ⟨kb, hkb⟩ : ∃ x, keptB k = x := ⟨_, rfl⟩
  obtain ⟨sb, hsb⟩ : ∃ x, scalarB vk vn vt.data.toList = x := ⟨_, rfl⟩
  obtain ⟨nb, hnb⟩ : ∃ x, noneB vk vn vt.data.toList = x := ⟨_, rfl⟩
  have HR := Lib.hid (show changeB op k a.data.toList b.data.toList c.data.toList d.data.toList vk vn vt.data.toList = (eb && (if op = 1 ∨ op = 2 then nb && !kb else if op = 3 then kb && sb else if op = 4 then nb && kb else false)) by unfold changeB; rw [heb, hkb, hsb, hnb])
  rw [HR.out]
  rw [heb] at CE
  rw [hkb] at CK
  rw [hsb] at CSc
  rw [hnb] at hq
  have N1 := Lib.hid n1
  have HB := Lib.hid B1
  have hg1 := B1.lt
  clear n1 B1 heb hkb hsb hnb hs ht hb hm
  cases eb
  · rw [Bool.false_and]
    go_enter Tryd.func21, Tryd.ntmps21
    go_wp2_with fail
    with_reducible refine CE.out.mono ?_
    rintro e w2 ⟨rfl, n2⟩
    have N2 := Lib.hid (N1.out.trans n2 fun _ _ => id)
    clear n2
    go_wp2_with fail
    go_ret
    exact ⟨rfl, N2.out⟩
  rw [Bool.true_and]
  obtain ⟨r, hr⟩ : ∃ r, (if op = 1 ∨ op = 2 then nb && !kb else if op = 3 then kb && sb else if op = 4 then nb && kb else false) = r := ⟨_, rfl⟩
  rw [hr]
  have HRr := Lib.hid hr
  clear hr HR
  go_enter Tryd.func21, Tryd.ntmps21
  go_wp2_with fail
  with_reducible refine CE.out.mono ?_
  rintro e w2 ⟨rfl, n2⟩
  have HB2 := Lib.hid (HB.out.chg n2 id)
  have N2 := Lib.hid (N1.out.trans n2 fun _ _ => id)
  have l2 := (blk_ch HB2.out).1
  have m2 := (blk_ch HB2.out).2.1
  have c2 := (blk_ch HB2.out).2.2.1
  have g2 := HB2.out.lt
  clear n2 l1 CE
  by_cases h1 : op = 1
  · subst h1
    have hr := HRr.out
    rw [if_pos (by decide)] at hr
    have HX := Lib.hid hr
    clear hr HRr
    cases nb
    · go_wp2_with fail
      go_ret
      exact ⟨by rw [← HX.out] <;> first | rfl | simp, N2.out⟩
    · go_wp2_with fail
      with_reducible refine (CK.out _).mono ?_
      rintro e w3 ⟨rfl, n3⟩
      have HB3 := Lib.hid (HB2.out.chg n3 id)
      have N3 := Lib.hid (N2.out.trans n3 fun _ _ => id)
      clear n3
      go_wp2_with fail
      go_ret
      exact ⟨by rw [← HX.out] <;> first | rfl | simp, N3.out⟩
  by_cases h2 : op = 2
  · subst h2
    have hr := HRr.out
    rw [if_pos (by decide)] at hr
    have HX := Lib.hid hr
    clear hr HRr
    cases nb
    · go_wp2_with fail
      go_ret
      exact ⟨by rw [← HX.out] <;> first | rfl | simp, N2.out⟩
    · go_wp2_with fail
      with_reducible refine (CK.out _).mono ?_
      rintro e w3 ⟨rfl, n3⟩
      have HB3 := Lib.hid (HB2.out.chg n3 id)
      have N3 := Lib.hid (N2.out.trans n3 fun _ _ => id)
      clear n3
      go_wp2_with fail
      go_ret
      exact ⟨by rw [← HX.out] <;> first | rfl | simp, N3.out⟩
  by_cases h3 : op = 3
  · subst h3
    have hr := HRr.out
    rw [if_neg (by decide), if_pos rfl] at hr
    have HX := Lib.hid hr
    clear hr HRr
    go_wp2_with fail
    with_reducible refine (CK.out _).mono ?_
    rintro e w3 ⟨rfl, n3⟩
    have HB3 := Lib.hid (HB2.out.chg n3 id)
    have N3 := Lib.hid (N2.out.trans n3 fun _ _ => id)
    clear n3
    cases kb
    · go_wp2_with fail
      go_ret
      exact ⟨by rw [← HX.out] <;> first | rfl | simp, N3.out⟩
    · have m3 := (blk_ch HB3.out).2.1
      have C4 := Lib.hid (CSc.out w3 N3.out)
      go_wp2_with fail
      with_reducible refine C4.out.mono ?_
      rintro e w4 ⟨rfl, n4⟩
      have N3 := Lib.hid (N3.out.trans n4 fun _ _ => id)
      clear n4
      go_wp2_with fail
      go_ret
      exact ⟨by rw [← HX.out] <;> first | rfl | simp, N3.out⟩
  by_cases h4 : op = 4
  · subst h4
    have hr := HRr.out
    rw [if_neg (by decide), if_neg (by decide), if_pos rfl] at hr
    have HX := Lib.hid hr
    clear hr HRr
    cases nb
    · go_wp2_with fail
      go_ret
      exact ⟨by rw [← HX.out] <;> first | rfl | simp, N2.out⟩
    · go_wp2_with fail
      with_reducible refine (CK.out _).mono ?_
      rintro e w3 ⟨rfl, n3⟩
      have HB3 := Lib.hid (HB2.out.chg n3 id)
      have N3 := Lib.hid (N2.out.trans n3 fun _ _ => id)
      clear n3
      go_wp2_with fail
      go_ret
      exact ⟨by rw [← HX.out] <;> first | rfl | simp, N3.out⟩
  have hr := HRr.out
  rw [if_neg (by omega), if_neg h3, if_neg h4] at hr
  have HX := Lib.hid hr
  have b1 : (op == 1) = false := by simpa using h1
  have b2 : (op == 2) = false := by simpa using h2
  have b3 : (op == 3) = false := by simpa using h3
  have b4 : (op == 4) = false := by simpa using h4
  clear hr HRr
  go_wp2_with fail
  go_ret
  exact ⟨by rw [← HX.out] <;> first | rfl | simp, N2.out⟩
set_option maxHeartbeats 4000000 in
set_option maxRecDepth 20000 in
theorem change (hJ : JoinC) (w : World) (op k : Int) (a b c d : ByteArray) (vk vn : Int) (vt : ByteArray) (hs : a.size ≤ 1000000 ∧ b.size ≤ 1000000 ∧ c.size ≤ 1000000 ∧ d.size ≤ 1000000) (ht : vt.size ≤ 1000000) (hb : -9223372036854775808 ≤ vn ∧ vn ≤ 9223372036854775807) (hm : Val.MaxAt w) :
    Calls Tryd.prog 11 #[chV op k a b c d vk vn vt] w fun e w' => e = .returned (.int .i64 (if changeB op k a.data.toList b.data.toList c.data.toList d.data.toList vk vn vt.data.toList = true then 0 else 1)) ∧ New w w' := by
  have n1 := (Chg.refl (fun _ => False) w).alloc (.cells #[.int .i64 op, .int .i64 k, .string a, .string b, .string c, .string d, .int .i64 vk, .int .i64 vn, .string vt] 35)
  have l1 := (blk_ch (Blk.new w 35 #[.int .i64 op, .int .i64 k, .string a, .string b, .string c, .string d, .int .i64 vk, .int .i64 vn, .string vt])).2.2.2
  have C := Lib.hid (may hJ _ op k a b c d vk vn vt hs ht hb (hm.new n1))
  obtain ⟨r, hr⟩ : ∃ r, changeB op k a.data.toList b.data.toList c.data.toList d.data.toList vk vn vt.data.toList = r := ⟨_, rfl⟩
  rw [hr] at C ⊢
  have N1 := Lib.hid n1
  clear hr hs ht hb hm n1
  cases r
  · go_enter Tryd.func11, Tryd.ntmps11
    go_wp2_with fail
    with_reducible refine C.out.mono ?_
    rintro e w2 ⟨rfl, n2⟩
    have N2 := Lib.hid (N1.out.trans n2 fun _ _ => id)
    clear n2
    go_wp2_with fail
    go_ret
    exact ⟨rfl, N2.out⟩
  · go_enter Tryd.func11, Tryd.ntmps11
    go_wp2_with fail
    with_reducible refine C.out.mono ?_
    rintro e w2 ⟨rfl, n2⟩
    have N2 := Lib.hid (N1.out.trans n2 fun _ _ => id)
    clear n2
    go_wp2_with fail
    go_ret
    exact ⟨rfl, N2.out⟩
end Evt
end Go.Proofs.YtjkjbbmbfobdaaaDoor
