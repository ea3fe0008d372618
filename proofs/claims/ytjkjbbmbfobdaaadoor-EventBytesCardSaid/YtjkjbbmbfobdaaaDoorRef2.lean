/-
  Edges' texts and values by the document's own definition: what its calls compute (no condition but on the texts' size).
-/
import Derived.Test.YtjkjbbmbfobdaaaDoorRef1
import Derived.Test.YtjkjbbmbfobdaaaDoorRowsK
namespace Go.Proofs.YtjkjbbmbfobdaaaDoor
set_option linter.unusedSimpArgs false
set_option linter.unusedVariables false
open Go.ChangeShapes Go.WideShapes Go.RowKit Go.Deep
namespace Val
def strs (l : List ByteArray) : List Value := l.map Value.string
theorem strs_one (l : List ByteArray) : ∀ u ∈ strs l, u.oneCell' = true := by
  intro u hu
  obtain ⟨c, _, rfl⟩ := List.mem_map.1 hu
  rfl
abbrev OwnS (w : World) (base : Nat) (v : Value) (l : List ByteArray) : Prop := w.ownsRow base 9 1 v l.length (strs l)
theorem strInfo : (Tryd.prog.info? 9).map (fun i => (i.zero, i.size, i.bytes)) = some (some (.string ⟨#[]⟩), 1, 16) := by kernel_rfl
theorem OwnS.form {w : World} {base : Nat} {v : Value} {l : List ByteArray} (h : OwnS w base v l) (hl : 0 < l.length) : ∃ g c, v = .slice (some ⟨g, 0, none⟩) l.length c ∧ base ≤ g ∧ g < w.heap.size := by
  rcases h.2 with ⟨_, h0⟩ | ⟨g, cap, cur, rfl, hb, hg, _⟩
  · omega
  · exact ⟨g, cap, rfl, hb, (Array.getElem?_eq_some_iff.1 hg).1⟩
theorem OwnS.cell {w : World} {base g c n : Nat} {l : List ByteArray} (h : OwnS w base (.slice (some ⟨g, 0, none⟩) n c) l) {i : Nat} {x : ByteArray} (hx : l[i]? = some x) : w.cell? ⟨g, i, none⟩ = some (.string x) := by
  have hi := (List.getElem?_eq_some_iff.1 hx).1
  have hn : n = l.length := by
    rcases h.2 with ⟨h0, h1⟩ | ⟨_, _, _, h0, _⟩
    · cases h0
    · injection h0
  subst hn
  have := World.ownsRow.cellAt h i (by omega)
  rw [show (strs l)[i]? = some (.string x) by simp [strs, hx]] at this
  exact this
theorem OwnS.frozen {w : World} {base g c n : Nat} {l : List ByteArray} (h : OwnS w base (.slice (some ⟨g, 0, none⟩) n c) l) (i : Nat) : w.frozen? ⟨g, i, none⟩ = false := by
  rcases h.2 with ⟨h0, _⟩ | ⟨g', cap, cur, hv, hb, hg, _⟩
  · cases h0
  · injection hv with hv1
    injection hv1 with hv1
    injection hv1 with hv1 _ _
    subst hv1
    exact Blk.frozen (t := 9) (cs := cur) hg i
theorem OwnS.stored {w : World} {base g c n : Nat} {l : List ByteArray} (h : OwnS w base (.slice (some ⟨g, 0, none⟩) n c) l) (i : Nat) (x : ByteArray) :
    OwnS (w.setCell ⟨g, i, none⟩ (.string x)) base (.slice (some ⟨g, 0, none⟩) n c) (l.set i x) := by
  have hn : n = l.length := by
    rcases h.2 with ⟨h0, h1⟩ | ⟨_, _, _, h0, _⟩
    · cases h0
    · injection h0
  subst hn
  have := World.ownsRow.stored h i (.string x)
  unfold OwnS
  rw [List.length_set, show strs (l.set i x) = (strs l).set i (.string x) by simp [strs, List.map_set]]
  exact this.1
theorem OwnS.one {w : World} {lo g : Nat} {x : ByteArray} (h : Blk w g 9 #[.string x]) (hlo : lo ≤ g) : OwnS w lo (.slice (some ⟨g, 0, none⟩) 1 1) [x] :=
  ⟨by simp [strs], .inr ⟨g, 1, _, rfl, hlo, h, Nat.le_refl _, by simp only [maxLen]; omega, by simp, by simp [strs]⟩⟩
theorem append_strs (w : World) {ops : Array Oper} {rest : List Oper} {o : Oper} {a : Act} {Q : Exit → Act → World → Prop} (hgd : o.guard = none) (s x : Operand)
    (ho : o.op = .call { callee := .builtin .append, args := #[s, x], argTypes := #[56, 56] })
    (base : Nat) (v : Value) (l : List ByteArray) (hs : a.eval s = v) (hown : OwnS w base v l)
    (F : Nat → Prop) (A : Option Addr) (m c : Nat) (k : List ByteArray) (hx : a.eval x = .slice A m c) (hr : Reads w F 1 A m (strs k))
    (hb : l.length + m ≤ 1000000) (hbase : base ≤ w.heap.size)
    (h : ∀ v' w', OwnS w' base v' (l ++ k) → w.grownBy w' v.ownBlock → (v'.ownBlock = v.ownBlock ∨ v'.ownBlock = some w.heap.size) → wpList Tryd.prog ops Q rest (a.put o.dst v') w') : wpList Tryd.prog ops Q (o :: rest) a w := by
  obtain ⟨i, hi, hz0, hz1, hz2⟩ := info_parts strInfo
  refine wpList_append_any w hgd s x _ ho base _ i _ 1 16 Tryd.underlying56 hi hz0 hz1 hz2 rfl (by omega) v l.length (strs l) hs hown F A m c (strs k) hx hr (strs_one k) (by simp only [maxLen]; omega) (by omega) hbase ?_
  intro v' w' ho' hg hat
  refine h v' w' ?_ hg hat
  have hk := hr.len
  unfold OwnS
  rw [show strs (l ++ k) = strs l ++ strs k by simp [strs], List.length_append, show k.length = m by simpa [strs] using hk]
  exact ho'
def toL (x : ByteArray) : List UInt8 := x.data.toList
theorem lastSnoc_set (b : UInt8) (y : ByteArray) : ∀ (xs : List ByteArray) (x : ByteArray), xs[xs.length - 1]? = some x → toL y = toL x ++ [b] → lastSnoc b (xs.map toL) = (xs.set (xs.length - 1) y).map toL
  | [], x, h, _ => by simp at h
  | [z], x, h, e => by simp at h; subst h; simp [lastSnoc, e]
  | z :: z2 :: xs, x, h, e => by
    have ih := lastSnoc_set b y (z2 :: xs) x (by simpa using h) e
    simp only [List.map_cons, lastSnoc, List.length_cons, Nat.add_sub_cancel] at ih ⊢
    rw [ih]
    simp
theorem cut_small {c : UInt8} {l p : List UInt8} (h : p ∈ cutAt c l) : p.length ≤ l.length := by
  have h1 := cut_len c l
  have h2 : ∀ L : List (List UInt8), p ∈ L → p.length + 1 ≤ (L.map fun p => p.length + 1).sum := by
    intro L
    induction L with
    | nil => intro hm; cases hm
    | cons a L ih =>
      intro hm
      simp only [List.map_cons, List.sum_cons]
      rcases List.mem_cons.1 hm with rfl | hm
      · omega
      · have := ih hm; omega
  have := h2 _ h
  omega
theorem extract_one {s : ByteArray} {i : Nat} (h : i < s.size) : toL (s.extract i (i + 1)) = [s[i]'h] := by
  unfold toL
  have := at_list h
  simp only [ByteArray.data_extract, Array.toList_extract, List.extract_eq_take_drop]
  rw [show i + 1 - i = 1 by omega, List.drop_eq_getElem_cons (by rw [size_list]; exact h)]
  simp
  have h2 := (List.getElem?_eq_some_iff.1 this).2
  simpa using h2
set_option maxHeartbeats 4000000 in
set_option maxRecDepth 20000 in
theorem rsplit (w : World) (s : ByteArray) (c : UInt8) (hs : s.size ≤ 1000) : Calls Tryd.prog 47 #[.string s, .int .u8 (c.toNat : Int)] w fun e w' => ∃ v xs, e = .returned v ∧ OwnS w' w.heap.size v xs ∧ xs.map toL = cutAt c (toL s) ∧ New w w' := by
  obtain ⟨n, hn⟩ : ∃ n, s.size = n := ⟨_, rfl⟩
  have hlen := size_list s
  rw [hn] at hlen hs
  have hs2 : (n : Int) ≤ 1000 := by omega
  obtain ⟨cx, hcx⟩ : ∃ x, c.toNat = x := ⟨_, rfl⟩
  rw [hcx]
  have hstart : OwnS (w.alloc (.cells #[.string ⟨#[]⟩] 9)) w.heap.size (.slice (some ⟨w.heap.size, 0, none⟩) 1 1) [⟨#[]⟩] := OwnS.one (Blk.new w 9 _) (Nat.le_refl _)
  have H0 := Lib.hid hstart
  clear hstart
  go_enter Tryd.func47, Tryd.ntmps47
  go_wp2_with fail
  go_loopw [5, 6] (fun v iv wr => ∃ (i : Nat) (xs : List ByteArray), i ≤ n ∧ iv = .int .i64 i ∧ OwnS wr w.heap.size v xs ∧ xs.map toL = cutAt c ((toL s).take i) ∧ xs.length ≤ i + 1 ∧ New w wr) (fun _ iv _ => n - (intOf iv).toNat)
  case atStart => exact ⟨0, _, by omega, by go_num, H0.out, rfl, by simp, (Chg.refl _ _).alloc _⟩
  case round =>
    clear H0
    obtain ⟨i, xs, hi, rfl, o, hx, hxl, nw⟩ := hrel
    have hpos : 0 < xs.length := by
      have := congrArg List.length hx
      rw [List.length_map] at this
      have h2 := List.length_pos_iff.2 (cutAt_ne c ((toL s).take i))
      omega
    by_cases hlt : i < n
    · have his : i < s.size := by omega
      have hii : (i : Int) < n := by omega
      have htk : (toL s).take (i + 1) = (toL s).take i ++ [s[i]'his] := by
        unfold toL
        rw [List.take_add_one, at_list his]
        rfl
      have hcut := cut_snoc c (s[i]'his) ((toL s).take i)
      rw [← htk, ← hx] at hcut
      have hext := extract_one his
      obtain ⟨g, cap, rfl, hlo, hgl⟩ := o.form hpos
      obtain ⟨L, hL⟩ : ∃ L, xs.length = L := ⟨_, rfl⟩
      have o : OwnS wr w.heap.size (.slice (some ⟨g, 0, none⟩) L cap) xs := by rw [← hL]; exact o
      by_cases he : s[i]'his = c
      · rw [if_pos he] at hcut
        have hb : (s[i]'his).toNat = cx := by rw [he, hcx]
        have HX := Lib.hid (And.intro o (And.intro hcut (And.intro nw hL)))
        rw [hL] at hxl hpos ⊢
        clear o hcut nw hext htk he hx hcx hL
        go_wp2_with (at_builtin; refine stop ?_)
        delta Stop
        have m3 := (Chg.refl (fun _ => False) wr).alloc (.cells #[.string ⟨#[]⟩] 9)
        have o3 := own_chg HX.out.1 m3 fun _ _ => id
        refine append_strs _ rfl _ _ rfl w.heap.size (.slice (some ⟨g, 0, none⟩) L cap) xs rfl o3 _ _ _ _ [⟨#[]⟩] rfl (Reads.of_row (n := 1) (size := 1) (heap_alloc_new wr _) (by simp)) (by rw [HX.out.2.2.2]; omega) (by have := m3.size; have := HX.out.2.2.1.size; omega) ?_
        intro v6 w6 o6 g6 a6
        have n6 := (HX.out.2.2.1.trans m3 fun _ _ => id).trans ((Chg.refl (fun k => (Value.slice (some ⟨g, 0, none⟩) L cap).ownBlock = some k) _).grown g6 fun k e _ => e) fun k hk e => by
          have : g = k := by simpa [Value.ownBlock] using e
          omega
        have hx6 : (xs ++ [(⟨#[]⟩ : ByteArray)]).map toL = cutAt c ((toL s).take (i + 1)) := by
          rw [HX.out.2.1]
          simp [toL]
        have HZ := Lib.hid (And.intro o6 (And.intro hx6 (And.intro (show (xs ++ [(⟨#[]⟩ : ByteArray)]).length ≤ i + 1 + 1 by rw [List.length_append, HX.out.2.2.2]; simp; omega) n6)))
        clear m3 o3 o6 g6 a6 n6 hx6
        go_wp2_with fail
        go_roundw
        case rel => exact ⟨i + 1, _, by omega, by go_num, HZ.out⟩
        case measure => simp [intOf]; omega
      · rw [if_neg he] at hcut
        have hb : ((s[i]'his).toNat == cx) = false := by
          rw [← hcx]
          simpa using fun e => he (UInt8.toNat_inj.1 e)
        have hb2 : ¬ (s[i]'his).toNat = cx := by simpa using hb
        obtain ⟨b, hbe⟩ : ∃ b, (s[i]'his).toNat = b := ⟨_, rfl⟩
        rw [hbe] at hb hb2
        have hb3 : ((b : Int) == (cx : Int)) = false := by simp; omega
        have hb4 : ¬ (b : Int) = (cx : Int) := by omega
        obtain ⟨x, hxx⟩ : ∃ x, xs[L - 1]? = some x := ⟨_, List.getElem?_eq_getElem (by omega)⟩
        have hxs : x.size ≤ 1000 := by
          have h1 : toL x ∈ cutAt c ((toL s).take i) := by rw [← hx]; exact List.mem_map.2 ⟨x, List.mem_of_getElem? hxx, rfl⟩
          have h2 := cut_small h1
          rw [List.length_take] at h2
          have h3 : (toL x).length = x.size := size_list x
          omega
        have hes : (s.extract i (i + 1)).size = 1 := by
          have := congrArg List.length hext
          have h3 : (toL (s.extract i (i + 1))).length = (s.extract i (i + 1)).size := size_list _
          rw [← h3, this]; rfl
        have hcell := o.cell hxx
        have hfz := o.frozen (L - 1)
        have hls := lastSnoc_set (s[i]'his) (x ++ s.extract i (i + 1)) xs x (by rw [hL]; exact hxx) (by
          rw [← hext]
          unfold toL
          simp)
        rw [hls, hL] at hcut
        have o2 := o.stored (L - 1) (x ++ s.extract i (i + 1))
        have c2 := (Chg.refl (fun k => k = g) wr).setCell (p := ⟨g, L - 1, none⟩) (fun _ => rfl) (.string (x ++ s.extract i (i + 1)))
        have n2 := nw.trans c2 fun k hk e => by omega
        have HZ := Lib.hid (And.intro o2 (And.intro hcut.symm (And.intro (show (xs.set (L - 1) (x ++ s.extract i (i + 1))).length ≤ i + 1 + 1 by rw [List.length_set]; omega) n2)))
        obtain ⟨K, rfl⟩ : ∃ K, L = K + 1 := ⟨L - 1, by omega⟩
        simp only [Nat.add_sub_cancel] at hcell hfz HZ hxx
        rw [hL] at hxl hpos ⊢
        clear o hcut nw hext htk he hx hcx hL o2 c2 n2 hls hb hb2 hxx
        go_wp2_with fail
        refine wp_region_tailq 17 (by kernel_rfl) (by kernel_rfl) ?_
        simp only [List.take_succ_cons, List.take_zero, List.drop_succ_cons, List.drop_zero]
        repeat (go_big_quiet_step (fail))
        refine wpQuiet_nil ?_
        go_wp2_with fail
        go_roundw
        case rel => exact ⟨i + 1, _, by omega, by go_num, own_chg HZ.out.1 (Chg.refl _ _).drew fun _ _ => id, HZ.out.2.1, HZ.out.2.2.1, HZ.out.2.2.2.drew⟩
        case measure => simp [intOf]; omega
    · obtain rfl : n = i := by omega
      rw [List.take_of_length_le (by unfold toL; rw [hlen]; exact Nat.le_refl _)] at hx
      have HZ := Lib.hid (And.intro o (And.intro hx nw))
      clear o hx nw
      go_wp2_with fail
      go_ret
      exact ⟨_, xs, rfl, HZ.out⟩
theorem blk3 {w : World} {g : Nat} {t : TypeId} {p q r : Value} (h : Blk w g t #[p, q, r]) (x y z : Value) : Blk (((w.setCell ⟨g, 0, none⟩ x).setCell ⟨g, 1, none⟩ y).setCell ⟨g, 2, none⟩ z) g t #[x, y, z] := by
  have := ((h.set_ 0 x).set_ 1 y).set_ 2 z
  simpa using this
theorem chg3 {a w : World} {g : Nat} (h : New a w) (hg : ¬ g < a.heap.size) (x y z : Value) : New a (((w.setCell ⟨g, 0, none⟩ x).setCell ⟨g, 1, none⟩ y).setCell ⟨g, 2, none⟩ z) :=
  ((h.setCell (p := ⟨g, 0, none⟩) (fun e => (hg e).elim) x).setCell (p := ⟨g, 1, none⟩) (fun e => (hg e).elim) y).setCell (p := ⟨g, 2, none⟩) (fun e => (hg e).elim) z
set_option maxHeartbeats 4000000 in
set_option maxRecDepth 20000 in
theorem rlink (w : World) (s : ByteArray) (hs : s.size ≤ 1000) : Calls Tryd.prog 39 #[.string s] w fun e w' => ∃ a b c, e = .returned (.tuple #[.agg #[.string a, .string b, .string c], .bool (linkB s.data.toList)]) ∧ New w w' := by
  have hz : ∀ W, (zeroValue 65).run Tryd.prog W = .ok (.agg #[.string ⟨#[]⟩, .string ⟨#[]⟩, .string ⟨#[]⟩]) W := fun W => by kernel_rfl
  obtain ⟨n, hn⟩ : ∃ n, s.size = n := ⟨_, rfl⟩
  have M1 := (Chg.refl (fun _ => False) w).alloc (.cells #[.string ⟨#[]⟩, .string ⟨#[]⟩, .string ⟨#[]⟩] 65)
  have HM := Lib.hid M1
  clear M1
  by_cases h60 : (60 : Int) < n
  · have hl : linkB s.data.toList = false := by
      cases hq : linkB s.data.toList with
      | false => rfl
      | true =>
        have := linkB_len hq
        rw [size_list, hn] at this
        omega
    have HL := Lib.hid hl
    clear hl
    go_enter Tryd.func39, Tryd.ntmps39
    go_wp2_with fail
    exact bodyPost_ret (resLk rfl _ _ w.heap.size _ _ _ _ rfl (Blk.new _ _ _)) rfl ⟨_, _, _, by rw [HL.out]; rfl, HM.out⟩
  have C := Lib.hid fun W => rsplit W s 62 hs
  go_enter Tryd.func39, Tryd.ntmps39
  go_wp2_with fail
  refine (C.out _).mono ?_
  rintro e w1 ⟨v, xs, rfl, o, hx, n1⟩
  have hb : Blk w1 w.heap.size 65 #[.string ⟨#[]⟩, .string ⟨#[]⟩, .string ⟨#[]⟩] := (Blk.new w 65 _).chg n1 id
  have HN := Lib.hid (HM.out.trans n1 fun _ _ => id)
  have HB := Lib.hid hb
  have hbl := hb.lt
  have hxl : 0 < xs.length := by
    have := congrArg List.length hx
    rw [List.length_map] at this
    have h2 := List.length_pos_iff.2 (cutAt_ne 62 (toL s))
    omega
  obtain ⟨g, cap, rfl, hlo, hgl⟩ := o.form hxl
  obtain ⟨L, hL⟩ : ∃ L, xs.length = L := ⟨_, rfl⟩
  have o : OwnS w1 (w.heap.size + 1) (.slice (some ⟨g, 0, none⟩) L cap) xs := by
    have := o
    rw [World.size_alloc] at this
    rw [← hL]
    exact this
  have hcut : linkB s.data.toList = (match xs.map toL with | [a, b, c] => nameB a && nameB b && nameB c | _ => false) := by
    rw [hx]; rfl
  have HC := Lib.hid (And.intro hcut hL)
  have HO := Lib.hid o
  have hsm := Lib.hid fun (x : ByteArray) (hm : x ∈ xs) => show x.size < 4294967281 by
    have h1 : toL x ∈ cutAt 62 (toL s) := by rw [← hx]; exact List.mem_map.2 ⟨x, hm, rfl⟩
    have h2 := cut_small h1
    have h3 : (toL x).length = x.size := size_list x
    have h4 : (toL s).length = s.size := size_list s
    omega
  have d0 := hb.cell 0
  have d1 := hb.cell 1
  have d2 := hb.cell 2
  simp only [List.getElem?_toArray, List.getElem?_cons_zero, List.getElem?_cons_succ] at d0 d1 d2
  have f0 := hb.frozen 0
  have f1 := hb.frozen 1
  have f2 := hb.frozen 2
  rw [hL]
  clear n1 hb o hcut hx C hL hxl hlo
  by_cases h3 : L = 3
  · subst h3
    obtain ⟨a, b, c, hxe⟩ : ∃ a b c, xs = [a, b, c] := by
      have := HC.out.2
      match xs, this with
      | [a, b, c], _ => exact ⟨a, b, c, rfl⟩
    subst hxe
    have ca := HO.out.cell (i := 0) (x := a) rfl
    have cb := HO.out.cell (i := 1) (x := b) rfl
    have cc := HO.out.cell (i := 2) (x := c) rfl
    have Ca := Lib.hid fun W => rname W a (hsm.out a (by simp))
    have Cb := Lib.hid fun W => rname W b (hsm.out b (by simp))
    have Cc := Lib.hid fun W => rname W c (hsm.out c (by simp))
    have hll : linkB s.data.toList = (nameB a.data.toList && nameB b.data.toList && nameB c.data.toList) := HC.out.1
    have hne : g ≠ w.heap.size := fun e => by
      have := own_lt HO.out (k := g) rfl
      omega
    obtain ⟨ra, hra⟩ : ∃ r, nameB a.data.toList = r := ⟨_, rfl⟩
    obtain ⟨rb, hrb⟩ : ∃ r, nameB b.data.toList = r := ⟨_, rfl⟩
    obtain ⟨rc, hrc⟩ : ∃ r, nameB c.data.toList = r := ⟨_, rfl⟩
    rw [hra] at Ca hll
    rw [hrb] at Cb hll
    rw [hrc] at Cc hll
    have HL := Lib.hid hll
    clear hra hrb hrc hll HC hsm
    cases ra
    · go_wp2_with fail
      refine (Ca.out _).mono ?_
      rintro e w2 ⟨rfl, rfl⟩
      clear Ca
      go_wp2_with fail
      exact bodyPost_ret (resLk rfl _ _ w.heap.size _ _ _ _ rfl (blk3 HB.out _ _ _)) rfl ⟨_, _, _, by rw [HL.out]; rfl, chg3 HN.out (Nat.lt_irrefl _) _ _ _⟩
    · go_wp2_with fail
      refine (Ca.out _).mono ?_
      rintro e w2 ⟨rfl, rfl⟩
      clear Ca
      go_wp2_with fail
      refine (Cb.out _).mono ?_
      rintro e w2 ⟨rfl, rfl⟩
      clear Cb
      cases rb
      · go_wp2_with fail
        exact bodyPost_ret (resLk rfl _ _ w.heap.size _ _ _ _ rfl (blk3 HB.out _ _ _)) rfl ⟨_, _, _, by rw [HL.out]; rfl, chg3 HN.out (Nat.lt_irrefl _) _ _ _⟩
      · go_wp2_with fail
        refine (Cc.out _).mono ?_
        rintro e w2 ⟨rfl, rfl⟩
        clear Cc
        cases rc
        · go_wp2_with fail
          exact bodyPost_ret (resLk rfl _ _ w.heap.size _ _ _ _ rfl (blk3 HB.out _ _ _)) rfl ⟨_, _, _, by rw [HL.out]; rfl, chg3 HN.out (Nat.lt_irrefl _) _ _ _⟩
        · go_wp2_with fail
          refine wp_region_tail 10 (by kernel_rfl) (by kernel_rfl) ?_
          simp only [List.take_succ_cons, List.take_zero, List.drop_succ_cons, List.drop_zero]
          repeat still_step
          refine wpStill_nil ?_
          go_wp2_with fail
          exact bodyPost_ret (resLk rfl _ _ w.heap.size _ _ _ _ rfl (blk3 HB.out _ _ _).drew) rfl ⟨_, _, _, by rw [HL.out]; rfl, (chg3 HN.out (Nat.lt_irrefl _) _ _ _).drew⟩
  · have h33 : ((L : Int) == 3) = false := by simp; omega
    have h34 : ¬ (L : Int) = 3 := by omega
    have hl : linkB s.data.toList = false := by
      rw [HC.out.1]
      split
      · next a b c e =>
        have := congrArg List.length e
        rw [List.length_map, HC.out.2] at this
        exact (h3 this).elim
      · rfl
    have HL := Lib.hid hl
    clear hl
    go_wp2_with fail
    exact bodyPost_ret (resLk rfl _ _ w.heap.size _ _ _ _ rfl (blk3 HB.out _ _ _)) rfl ⟨_, _, _, by rw [HL.out]; rfl, chg3 HN.out (Nat.lt_irrefl _) _ _ _⟩
end Val
end Go.Proofs.YtjkjbbmbfobdaaaDoor
