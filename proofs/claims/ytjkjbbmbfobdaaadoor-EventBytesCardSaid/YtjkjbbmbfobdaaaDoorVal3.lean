/-
  Edges' texts, and values: what the program's calls compute (no condition but that MaxLen holds a number, and that texts are not too long).
-/
import Derived.Test.YtjkjbbmbfobdaaaDoorVal2
namespace Go.Proofs.YtjkjbbmbfobdaaaDoor
set_option linter.unusedSimpArgs false
set_option linter.unusedVariables false
open Go.ChangeShapes Go.WideShapes Go.RowKit Go.Deep
namespace Val
/-- the package variable MaxLen holds some number -/
def MaxAt (w : World) : Prop := ∃ m : Int, w.cell? ⟨0, 0, none⟩ = some (.int .i64 m)
theorem MaxAt.new {w w' : World} (h : MaxAt w) (hc : New w w') : MaxAt w' := by
  obtain ⟨m, hm⟩ := h
  have hlt := block_lt_of_cell hm
  exact ⟨m, (hc.cell hlt id).trans hm⟩
def gt_ : ByteArray := ⟨#[62]⟩
/-- the parts of an edge's text -/
def partsOf (s : ByteArray) : List ByteArray := Lib.splitB gt_ 0 (Lib.countB s gt_) s
theorem parts_data (s : ByteArray) : (partsOf s).map (·.data.toList) = cutAt 62 s.data.toList := by
  unfold partsOf
  rw [Lib.splitB_data, ← split_cut]
  rfl
theorem parts_len (s : ByteArray) : (partsOf s).length = Lib.countB s gt_ + 1 := Lib.splitB_all gt_ (by decide) 0 _ s rfl
theorem link_parts (s : ByteArray) : linkB s.data.toList = (decide ((partsOf s).length = 3) && (partsOf s).all fun x => nameB x.data.toList) := by
  have h := parts_data s
  have hl : (cutAt 62 s.data.toList).length = (partsOf s).length := by rw [← h]; simp
  have ha : ((cutAt 62 s.data.toList).all nameB) = (partsOf s).all fun x => nameB x.data.toList := by rw [← h, List.all_map]; rfl
  rw [← hl, ← ha]
  unfold linkB
  split
  · next a b c e => rw [e]; simp [Bool.and_assoc]
  · next hno =>
    have : (cutAt 62 s.data.toList).length ≠ 3 := fun e => by
      match hq : cutAt 62 s.data.toList, e with
      | [a, b, c], _ => exact hno a b c hq
    simp [this]
theorem split (w : World) (s : ByteArray) (hs : s.size < 4294967281) (hm : MaxAt w) : Calls Tryd.prog 58 #[.string s, .string ⟨#[62]⟩] w fun e w' =>
    e = .returned (.slice (some ⟨w.heap.size, 0, none⟩) (partsOf s).length (partsOf s).length) ∧ w' = w.alloc (.cells ((partsOf s).map Value.string).toArray 9) := by
  obtain ⟨m, hm⟩ := hm
  have := Any.strings_Split Spl.lays (by kernel_rfl) s ⟨#[62]⟩ m w hs hm (by decide)
  rw [parts_len]
  exact this
theorem resLk {fn : Func} {p q : Tmp} (h : fn.results = #[.cell p 65, .tmp q]) (tmps : Array Value) (w : World) (g : Nat) (t : TypeId) (x y z : Value)
    (hp : tmps.getD p undef = .pointer (some ⟨g, 0, none⟩)) (hg : Blk w g t #[x, y, z]) : (results fn tmps).run Tryd.prog w = .ok (.tuple #[.agg #[x, y, z], tmps.getD q undef]) w := by
  rw [results_cell_tmp h, hp]
  have := run_LoadRow (P := Tryd.prog) (t := 65) Tryd.underlying65 rfl (n := 3) (cs := [x, y, z]) (by kernel_rfl) rfl (hg.range_all (cs := [x, y, z]))
  unfold LoadRow at this
  simp only [asAddr, Sem.run_pure, Result.andThen_ok, this]
set_option maxHeartbeats 4000000 in
set_option maxRecDepth 20000 in
theorem link (w : World) (k n : Int) (s : ByteArray) (hs : s.size < 4294967281) (hm : MaxAt w) :
    Calls Tryd.prog 52 #[.agg #[.int .i64 k, .int .i64 n, .string s]] w fun e w' => ∃ a b c, e = .returned (.tuple #[.agg #[.string a, .string b, .string c], .bool (decide (k = 5) && decide (n = 0) && linkB s.data.toList)]) ∧ New w w' := by
  have C := Lib.hid fun W (hW : New w W) => split W s hs (hm.new hW)
  have hz : ∀ W, (zeroValue 65).run Tryd.prog W = .ok (.agg #[.string ⟨#[]⟩, .string ⟨#[]⟩, .string ⟨#[]⟩]) W := fun W => by kernel_rfl
  have hlp := link_parts s
  have hpl := parts_len s
  obtain ⟨xs, hxs⟩ : ∃ xs, partsOf s = xs := ⟨_, rfl⟩
  rw [hxs] at C hlp hpl
  obtain ⟨L, hL⟩ : ∃ L, xs.length = L := ⟨_, rfl⟩
  rw [hL] at C hlp hpl
  have HL := Lib.hid (And.intro hlp hL)
  have hLi : (0 : Int) < L := by omega
  clear hm hlp hpl hxs hL
  by_cases hk : k = 5
  · subst hk
    by_cases hn : n = 0
    · subst hn
      by_cases h3 : L = 3
      · subst h3
        go_enter Tryd.func52, Tryd.ntmps52
        go_wp2_with fail
        have M2 := ((Chg.refl (fun _ => False) w).alloc (.cells #[.int .i64 5, .int .i64 0, .string s] 29)).alloc (.cells #[.string ⟨#[]⟩, .string ⟨#[]⟩, .string ⟨#[]⟩] 65)
        refine (C.out _ M2).mono ?_
        rintro e w1 ⟨rfl, rfl⟩
        obtain ⟨a, b, c, hx⟩ : ∃ a b c, xs = [a, b, c] := by
          have := HL.out.2
          match xs, this with
          | [a, b, c], _ => exact ⟨a, b, c, rfl⟩
        subst hx
        have hblk : Blk ((((w.alloc (.cells #[.int .i64 5, .int .i64 0, .string s] 29)).alloc (.cells #[.string ⟨#[]⟩, .string ⟨#[]⟩, .string ⟨#[]⟩] 65))).alloc (.cells (([a, b, c] : List ByteArray).map Value.string).toArray 9)) (w.heap.size + 2) 9 #[.string a, .string b, .string c] := Blk.new2 _ _ _ _ _
        have CN := Lib.hid fun W (hW : New ((((w.alloc (.cells #[.int .i64 5, .int .i64 0, .string s] 29)).alloc (.cells #[.string ⟨#[]⟩, .string ⟨#[]⟩, .string ⟨#[]⟩] 65))).alloc (.cells (([a, b, c] : List ByteArray).map Value.string).toArray 9)) W) => names W _ 3 3 [a, b, c] ((Reads.of_blk (size := 1) (hblk.chg hW id) rfl).mono fun b hb => by rw [hb]; exact (hblk.chg hW id).lt) (by omega)
        have HB := Lib.hid hblk
        have M3 := M2.alloc (.cells (([a, b, c] : List ByteArray).map Value.string).toArray 9)
        have HM := Lib.hid M3
        clear hblk M2 M3 C
        go_wp2_with fail
        refine (CN.out _ (Chg.refl _ _)).mono ?_
        rintro e w2 ⟨rfl, rfl⟩
        obtain ⟨r, hr⟩ : ∃ r, (([a, b, c] : List ByteArray).all fun x => nameB x.data.toList) = r := ⟨_, rfl⟩
        rw [hr] at HL ⊢
        have hlr : linkB s.data.toList = r := by rw [HL.out.1]; simp
        have HR := Lib.hid hlr
        have hb2 := HB.out
        have ca := hb2.cell 0
        have cb := hb2.cell 1
        have cc := hb2.cell 2
        simp only [List.getElem?_toArray, List.getElem?_cons_zero, List.getElem?_cons_succ] at ca cb cc
        clear hr hlr CN hb2
        cases r
        · go_wp2_with fail
          refine bodyPost_ret (resLk rfl _ _ (w.heap.size + 1) _ _ _ _ rfl ((Blk.new1 _ _ _ _).alloc _)) rfl ⟨_, _, _, by rw [HR.out]; rfl, HM.out⟩
        · go_wp2_with fail
          refine wp_region_tail 10 (by kernel_rfl) (by kernel_rfl) ?_
          simp only [List.take_succ_cons, List.take_zero, List.drop_succ_cons, List.drop_zero]
          repeat still_step
          refine wpStill_nil ?_
          go_wp2_with fail
          exact bodyPost_ret (resLk rfl _ _ (w.heap.size + 1) _ _ _ _ rfl ((Blk.new1 _ _ _ _).alloc _).drew) rfl ⟨_, _, _, by rw [HR.out]; rfl, ((((Chg.refl _ w).alloc _).alloc _).alloc _).drew⟩
      · have h33 : ((L : Int) == 3) = false := by simp; omega
        have h34 : ¬ (L : Int) = 3 := by omega
        have hno : (decide ((5:Int) = 5) && decide ((0:Int) = 0) && linkB s.data.toList) = false := by rw [HL.out.1, decide_eq_false h3]; simp
        have HN := Lib.hid hno
        go_enter Tryd.func52, Tryd.ntmps52
        go_wp2_with fail
        have M2 := ((Chg.refl (fun _ => False) w).alloc (.cells #[.int .i64 5, .int .i64 0, .string s] 29)).alloc (.cells #[.string ⟨#[]⟩, .string ⟨#[]⟩, .string ⟨#[]⟩] 65)
        refine (C.out _ M2).mono ?_
        rintro e w1 ⟨rfl, rfl⟩
        have M3 := M2.alloc (.cells (xs.map Value.string).toArray 9)
        have HM := Lib.hid M3
        clear M2 M3 C
        go_wp2_with fail
        exact bodyPost_ret (resLk rfl _ _ (w.heap.size + 1) _ _ _ _ rfl ((Blk.new1 _ _ _ _).alloc _)) rfl ⟨_, _, _, by rw [HN.out]; rfl, HM.out⟩
    · have hn1 : (n == 0) = false := by simpa using hn
      have hno : (decide ((5:Int) = 5) && decide (n = 0) && linkB s.data.toList) = false := by rw [decide_eq_false hn]; simp
      have HN := Lib.hid hno
      go_enter Tryd.func52, Tryd.ntmps52
      go_wp2_with fail
      have M2 := ((Chg.refl (fun _ => False) w).alloc (.cells #[.int .i64 5, .int .i64 n, .string s] 29)).alloc (.cells #[.string ⟨#[]⟩, .string ⟨#[]⟩, .string ⟨#[]⟩] 65)
      refine (C.out _ M2).mono ?_
      rintro e w1 ⟨rfl, rfl⟩
      have M3 := M2.alloc (.cells (xs.map Value.string).toArray 9)
      have HM := Lib.hid M3
      clear M2 M3 C
      go_wp2_with fail
      exact bodyPost_ret (resLk rfl _ _ (w.heap.size + 1) _ _ _ _ rfl ((Blk.new1 _ _ _ _).alloc _)) rfl ⟨_, _, _, by rw [HN.out]; rfl, HM.out⟩
  · have hk1 : (k == 5) = false := by simpa using hk
    have hno : (decide (k = 5) && decide (n = 0) && linkB s.data.toList) = false := by rw [decide_eq_false hk]; simp
    have HN := Lib.hid hno
    go_enter Tryd.func52, Tryd.ntmps52
    go_wp2_with fail
    have M2 := ((Chg.refl (fun _ => False) w).alloc (.cells #[.int .i64 k, .int .i64 n, .string s] 29)).alloc (.cells #[.string ⟨#[]⟩, .string ⟨#[]⟩, .string ⟨#[]⟩] 65)
    refine (C.out _ M2).mono ?_
    rintro e w1 ⟨rfl, rfl⟩
    have M3 := M2.alloc (.cells (xs.map Value.string).toArray 9)
    have HM := Lib.hid M3
    clear M2 M3 C
    go_wp2_with fail
    exact bodyPost_ret (resLk rfl _ _ (w.heap.size + 1) _ _ _ _ rfl ((Blk.new1 _ _ _ _).alloc _)) rfl ⟨_, _, _, by rw [HN.out]; rfl, HM.out⟩
theorem andNot1 {n : Int} (h : -9223372036854775808 ≤ n ∧ n ≤ 9223372036854775807) : (bits .andNot .i64 n 1 = 0) ↔ (n = 0 ∨ n = 1) := by
  have e0 : bits .andNot .i64 n 1 = IntKind.i64.wrap ((BitVec.ofInt 64 n &&& ~~~BitVec.ofInt 64 ((1 : Nat) : Int)).toNat : Int) := rfl
  rw [e0, BitVec.toNat_and, BitVec.toNat_not, ofInt_u64 1 (by omega), BitVec.toNat_ofInt]
  obtain ⟨m, hm⟩ : ∃ m : Nat, (n % ((2 ^ 64 : Nat) : Int)).toNat = m := ⟨_, rfl⟩
  rw [hm]
  have hm2 : m < 18446744073709551616 := by omega
  have e : 2 ^ 64 - 1 - 1 = 18446744073709551614 := by decide
  rw [e, nat_hi64_1, Nat.mod_eq_of_lt (by omega), IntKind.wrap_i64]
  omega
set_option maxHeartbeats 4000000 in
set_option maxRecDepth 20000 in
theorem right (w : World) (k n : Int) (s : ByteArray) (hs : s.size < 4294967281) (hb : -9223372036854775808 ≤ n ∧ n ≤ 9223372036854775807) (hm : MaxAt w) :
    Calls Tryd.prog 46 #[.agg #[.int .i64 k, .int .i64 n, .string s]] w fun e w' => e = .returned (.bool (rightB k n s.data.toList)) ∧ New w w' := by
  have CL := Lib.hid fun W (hW : New w W) => link W k n s hs (hm.new hW)
  have CP := Lib.hid fun W => plain W s
  have CN := Lib.hid fun W => name W s
  have hz : ∀ W, (zeroValue 65).run Tryd.prog W = .ok (.agg #[.string ⟨#[]⟩, .string ⟨#[]⟩, .string ⟨#[]⟩]) W := fun W => by kernel_rfl
  have m1 := (Chg.refl (fun _ => False) w).alloc (.cells #[.int .i64 k, .int .i64 n, .string s] 29)
  have HM := Lib.hid m1
  have han := andNot1 hb
  have HA := Lib.hid han
  obtain ⟨q, hq⟩ : ∃ q, bits .andNot .i64 n 1 = q := ⟨_, rfl⟩
  have HQ := Lib.hid hq
  rw [hq] at han
  have hemp : s.toList = [] ↔ s.data.toList = [] := by rw [toList_data]
  clear hm m1
  by_cases h0 : k = 0
  · subst h0
    clear CL CP CN han hq hz
    have hr : rightB 0 n s.data.toList = (decide (n = 0) && decide (s.data.toList = [])) := rfl
    rw [hr]
    by_cases hn : n = 0
    · subst hn
      by_cases he : s.toList = []
      · rw [decide_eq_true (hemp.1 he)]
        go_enter Tryd.func46, Tryd.ntmps46
        go_wp2_with fail
        go_ret
        exact ⟨by simp [he], HM.out⟩
      · rw [decide_eq_false (mt hemp.2 he)]
        go_enter Tryd.func46, Tryd.ntmps46
        go_wp2_with fail
        go_ret
        exact ⟨by simp [he], HM.out⟩
    · rw [decide_eq_false hn]
      go_enter Tryd.func46, Tryd.ntmps46
      go_wp2_with fail
      go_ret
      exact ⟨by simp, HM.out⟩
  by_cases h1 : k = 1
  · subst h1
    clear CL CP CN hz
    have hr : rightB 1 n s.data.toList = ((decide (n = 0) || decide (n = 1)) && decide (s.data.toList = [])) := rfl
    rw [hr]
    by_cases hn : n = 0 ∨ n = 1
    · have hq0 : q = 0 := han.2 hn
      have e1 : (decide (n = 0) || decide (n = 1)) = true := by simpa using hn
      rw [e1]
      clear hn han hb e1
      subst hq0
      by_cases he : s.toList = []
      · rw [decide_eq_true (hemp.1 he)]
        go_enter Tryd.func46, Tryd.ntmps46
        go_wp2_with fail
        go_ret
        exact ⟨by simp [he], HM.out⟩
      · rw [decide_eq_false (mt hemp.2 he)]
        go_enter Tryd.func46, Tryd.ntmps46
        go_wp2_with fail
        go_ret
        exact ⟨by simp [he], HM.out⟩
    · have hq0 : ¬ q = 0 := fun e => hn (han.1 e)
      have e1 : (decide (n = 0) || decide (n = 1)) = false := by simpa using hn
      rw [e1]
      clear hn han hb e1
      go_enter Tryd.func46, Tryd.ntmps46
      go_wp2_with fail
      go_ret
      exact ⟨by simp, HM.out⟩
  by_cases h2 : k = 2
  · subst h2
    clear CL CP CN hz han hq
    have hr : rightB 2 n s.data.toList = (decide (-1099511627776 ≤ n) && decide (n ≤ 1099511627776) && decide (s.data.toList = [])) := rfl
    rw [hr]
    by_cases hn1 : -1099511627776 ≤ n
    · by_cases hn2 : n ≤ 1099511627776
      · by_cases he : s.toList = []
        · rw [decide_eq_true (hemp.1 he), decide_eq_true hn1, decide_eq_true hn2]
          go_enter Tryd.func46, Tryd.ntmps46
          go_wp2_with fail
          go_ret
          exact ⟨by simp [he], HM.out⟩
        · rw [decide_eq_false (mt hemp.2 he)]
          go_enter Tryd.func46, Tryd.ntmps46
          go_wp2_with fail
          go_ret
          exact ⟨by simp [he], HM.out⟩
      · rw [decide_eq_false hn2]
        go_enter Tryd.func46, Tryd.ntmps46
        go_wp2_with fail
        go_ret
        exact ⟨by simp, HM.out⟩
    · rw [decide_eq_false hn1]
      go_enter Tryd.func46, Tryd.ntmps46
      go_wp2_with fail
      go_ret
      exact ⟨by simp, HM.out⟩
  by_cases h3 : k = 3
  · subst h3
    clear CL CN hz han hq
    have hr : rightB 3 n s.data.toList = (decide (n = 0) && plainB s.data.toList) := rfl
    rw [hr]
    by_cases hn : n = 0
    · subst hn
      go_enter Tryd.func46, Tryd.ntmps46
      go_wp2_with fail
      refine (CP.out _).mono ?_
      rintro e w1 ⟨rfl, n1⟩
      go_wp2_with fail
      go_ret
      exact ⟨by simp, HM.out.trans n1 fun _ _ => id⟩
    · rw [decide_eq_false hn]
      clear CP
      go_enter Tryd.func46, Tryd.ntmps46
      go_wp2_with fail
      go_ret
      exact ⟨by simp, HM.out⟩
  by_cases h4 : k = 4
  · subst h4
    clear CL CP hz han hq
    have hr : rightB 4 n s.data.toList = (decide (n = 0) && nameB s.data.toList) := rfl
    rw [hr]
    by_cases hn : n = 0
    · subst hn
      go_enter Tryd.func46, Tryd.ntmps46
      go_wp2_with fail
      refine (CN.out _).mono ?_
      rintro e w1 ⟨rfl, rfl⟩
      go_wp2_with fail
      go_ret
      exact ⟨by simp, HM.out⟩
    · rw [decide_eq_false hn]
      clear CN
      go_enter Tryd.func46, Tryd.ntmps46
      go_wp2_with fail
      go_ret
      exact ⟨by simp, HM.out⟩
  have hr : rightB k n s.data.toList = (decide (k = 5) && decide (n = 0) && linkB s.data.toList) := by
    unfold rightB
    rw [if_neg h0, if_neg h1, if_neg h2, if_neg h3, if_neg h4]
    by_cases h5 : k = 5
    · rw [if_pos h5, decide_eq_true h5]; rfl
    · rw [if_neg h5, decide_eq_false h5]; rfl
  rw [hr]
  clear CP CN han hq hr
  go_enter Tryd.func46, Tryd.ntmps46
  go_wp2_with fail
  refine (CL.out _ HM.out).mono ?_
  rintro e w1 ⟨a, b, c, rfl, n1⟩
  have HN := Lib.hid (HM.out.trans n1 fun _ _ => id)
  clear n1 CL
  go_wp2_with fail
  go_ret
  exact ⟨rfl, HN.out.alloc _⟩
end Val
end Go.Proofs.YtjkjbbmbfobdaaaDoor
