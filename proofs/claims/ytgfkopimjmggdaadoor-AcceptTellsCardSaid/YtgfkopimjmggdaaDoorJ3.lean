/-
  Arrays of whole numbers as arguments, by value (no condition beyond what can be read).
-/
import Derived.Test.YtgfkopimjmggdaaDoorJ2
import Derived.Deep.CutBlock
import Derived.Deep.DeepCutAuto
import Derived.Test.YtgfkopimjmggdaaDoorRows
import Derived.Deep.Fields
import Derived.ChangeSame
/- Edges' texts, and values: what the program's calls compute (no condition but that MaxLen holds a number, and that texts are not too long). -/
namespace Go.Proofs.YtgfkopimjmggdaaDoor
set_option linter.unusedSimpArgs false
set_option linter.unusedVariables false
open Go.ChangeShapes Go.WideShapes Go.RowKit Go.Deep
namespace Val
/-- the package variable MaxLen holds some number -/
def MaxAt (w : World) : Prop := ∃ m : Int, w.cell? ⟨0, 0, none⟩ = some (.int .i64 m)
theorem MaxAt.new {w w' : World} (h : MaxAt w) (hc : New w w') : MaxAt w' := by
  obtain ⟨m, hm⟩ := h
  have hlt := block_lt_of_cell hm
  exact ⟨m, (hc.cell hlt id).trans hm⟩
def gt_ : ByteArray := ⟨#[62]⟩
/-- the parts of an edge's text -/
def partsOf (s : ByteArray) : List ByteArray := Lib.splitB gt_ 0 (Lib.countB s gt_) s
theorem parts_data (s : ByteArray) : (partsOf s).map (·.data.toList) = cutAt 62 s.data.toList := by
  unfold partsOf
  rw [Lib.splitB_data, ← split_cut]
  rfl
theorem parts_len (s : ByteArray) : (partsOf s).length = Lib.countB s gt_ + 1 := Lib.splitB_all gt_ (by decide) 0 _ s rfl
theorem link_parts (s : ByteArray) : linkB s.data.toList = (decide ((partsOf s).length = 3) && (partsOf s).all fun x => nameB x.data.toList) := by
  have h := parts_data s
  have hl : (cutAt 62 s.data.toList).length = (partsOf s).length := by rw [← h]; simp
  have ha : ((cutAt 62 s.data.toList).all nameB) = (partsOf s).all fun x => nameB x.data.toList := by rw [← h, List.all_map]; rfl
  rw [← hl, ← ha]
  unfold linkB
  split
  · next a b c e => rw [e]; simp [Bool.and_assoc]
  · next hno =>
    have : (cutAt 62 s.data.toList).length ≠ 3 := fun e => by
      match hq : cutAt 62 s.data.toList, e with
      | [a, b, c], _ => exact hno a b c hq
    simp [this]
theorem split (w : World) (s : ByteArray) (hs : s.size < 4294967281) (hm : MaxAt w) : Calls Tryd.prog 69 #[.string s, .string ⟨#[62]⟩] w fun e w' =>
    e = .returned (.slice (some ⟨w.heap.size, 0, none⟩) (partsOf s).length (partsOf s).length) ∧ w' = w.alloc (.cells ((partsOf s).map Value.string).toArray 9) := by
  obtain ⟨m, hm⟩ := hm
  have := Any.strings_Split Spl.lays (by kernel_rfl) s ⟨#[62]⟩ m w hs hm (by decide)
  rw [parts_len]
  exact this
theorem resLk {fn : Func} {p q : Tmp} (h : fn.results = #[.cell p 75, .tmp q]) (tmps : Array Value) (w : World) (g : Nat) (t : TypeId) (x y z : Value)
    (hp : tmps.getD p undef = .pointer (some ⟨g, 0, none⟩)) (hg : Blk w g t #[x, y, z]) : (results fn tmps).run Tryd.prog w = .ok (.tuple #[.agg #[x, y, z], tmps.getD q undef]) w := by
  rw [results_cell_tmp h, hp]
  have := run_LoadRow (P := Tryd.prog) (t := 75) Tryd.underlying75 rfl (n := 3) (cs := [x, y, z]) (by kernel_rfl) rfl (hg.range_all (cs := [x, y, z]))
  unfold LoadRow at this
  simp only [asAddr, Sem.run_pure, Result.andThen_ok, this]
set_option maxHeartbeats 4000000 in
set_option maxRecDepth 20000 in
theorem link (w : World) (k n : Int) (s : ByteArray) (hs : s.size < 4294967281) (hm : MaxAt w) :
    Calls Tryd.prog 63 #[.agg #[.int .i64 k, .int .i64 n, .string s]] w fun e w' => ∃ a b c, e = .returned (.tuple #[.agg #[.string a, .string b, .string c], .bool (decide (k = 5) && decide (n = 0) && linkB s.data.toList)]) ∧ New w w' := by
  have C := Lib.hid fun W (hW : New w W) => split W s hs (hm.new hW)
  have hz : ∀ W, (zeroValue 75).run Tryd.prog W = .ok (.agg #[.string ⟨#[]⟩, .string ⟨#[]⟩, .string ⟨#[]⟩]) W := fun W => by kernel_rfl
  have hlp := link_parts s
  have hpl := parts_len s
  obtain ⟨xs, hxs⟩ : ∃ xs, partsOf s = xs := ⟨_, rfl⟩
  rw [hxs] at C hlp hpl
  obtain ⟨L, hL⟩ : ∃ L, xs.length = L := ⟨_, rfl⟩
  rw [hL] at C hlp hpl
  have HL := Lib.hid (And.intro hlp hL)
  have hLi : (0 : Int) < L := by omega
  clear hm hlp hpl hxs hL
  by_cases hk : k = 5
  · subst hk
    by_cases hn : n = 0
    · subst hn
      by_cases h3 : L = 3
      · subst h3
        go_enter Tryd.func63, Tryd.ntmps63
        go_wp2_with fail
        have M2 := ((Chg.refl (fun _ => False) w).alloc (.cells #[.int .i64 5, .int .i64 0, .string s] 33)).alloc (.cells #[.string ⟨#[]⟩, .string ⟨#[]⟩, .string ⟨#[]⟩] 75)
        refine (C.out _ M2).mono ?_
        rintro e w1 ⟨rfl, rfl⟩
        obtain ⟨a, b, c, hx⟩ : ∃ a b c, xs = [a, b, c] := by
          have := HL.out.2
          match xs, this with
          | [a, b, c], _ => exact ⟨a, b, c, rfl⟩
        subst hx
        have hblk : Blk ((((w.alloc (.cells #[.int .i64 5, .int .i64 0, .string s] 33)).alloc (.cells #[.string ⟨#[]⟩, .string ⟨#[]⟩, .string ⟨#[]⟩] 75))).alloc (.cells (([a, b, c] : List ByteArray).map Value.string).toArray 9)) (w.heap.size + 2) 9 #[.string a, .string b, .string c] := Blk.new2 _ _ _ _ _
        have CN := Lib.hid fun W (hW : New ((((w.alloc (.cells #[.int .i64 5, .int .i64 0, .string s] 33)).alloc (.cells #[.string ⟨#[]⟩, .string ⟨#[]⟩, .string ⟨#[]⟩] 75))).alloc (.cells (([a, b, c] : List ByteArray).map Value.string).toArray 9)) W) => names W _ 3 3 [a, b, c] ((Reads.of_blk (size := 1) (hblk.chg hW id) rfl).mono fun b hb => by rw [hb]; exact (hblk.chg hW id).lt) (by omega)
        have HB := Lib.hid hblk
        have M3 := M2.alloc (.cells (([a, b, c] : List ByteArray).map Value.string).toArray 9)
        have HM := Lib.hid M3
        clear hblk M2 M3 C
        go_wp2_with fail
        refine (CN.out _ (Chg.refl _ _)).mono ?_
        rintro e w2 ⟨rfl, rfl⟩
        obtain ⟨r, hr⟩ : ∃ r, (([a, b, c] : List ByteArray).all fun x => nameB x.data.toList) = r := ⟨_, rfl⟩
        rw [hr] at HL ⊢
        have hlr : linkB s.data.toList = r := by rw [HL.out.1]; simp
        have HR := Lib.hid hlr
        have hb2 := HB.out
        have ca := hb2.cell 0
        have cb := hb2.cell 1
        have cc := hb2.cell 2
        simp only [List.getElem?_toArray, List.getElem?_cons_zero, List.getElem?_cons_succ] at ca cb cc
        clear hr hlr CN hb2
        cases r
        · go_wp2_with fail
          refine bodyPost_ret (resLk rfl _ _ (w.heap.size + 1) _ _ _ _ rfl ((Blk.new1 _ _ _ _).alloc _)) rfl ⟨_, _, _, by rw [HR.out]; rfl, HM.out⟩
        · go_wp2_with fail
          refine wp_region_tail 10 (by kernel_rfl) (by kernel_rfl) ?_
          simp only [List.take_succ_cons, List.take_zero, List.drop_succ_cons, List.drop_zero]
          repeat still_step
          refine wpStill_nil ?_
          go_wp2_with fail
          exact bodyPost_ret (resLk rfl _ _ (w.heap.size + 1) _ _ _ _ rfl ((Blk.new1 _ _ _ _).alloc _).drew) rfl ⟨_, _, _, by rw [HR.out]; rfl, ((((Chg.refl _ w).alloc _).alloc _).alloc _).drew⟩
      · have h33 : ((L : Int) == 3) = false := by simp; omega
        have h34 : ¬ (L : Int) = 3 := by omega
        have hno : (decide ((5:Int) = 5) && decide ((0:Int) = 0) && linkB s.data.toList) = false := by rw [HL.out.1, decide_eq_false h3]; simp
        have HN := Lib.hid hno
        go_enter Tryd.func63, Tryd.ntmps63
        go_wp2_with fail
        have M2 := ((Chg.refl (fun _ => False) w).alloc (.cells #[.int .i64 5, .int .i64 0, .string s] 33)).alloc (.cells #[.string ⟨#[]⟩, .string ⟨#[]⟩, .string ⟨#[]⟩] 75)
        refine (C.out _ M2).mono ?_
        rintro e w1 ⟨rfl, rfl⟩
        have M3 := M2.alloc (.cells (xs.map Value.string).toArray 9)
        have HM := Lib.hid M3
        clear M2 M3 C
        go_wp2_with fail
        exact bodyPost_ret (resLk rfl _ _ (w.heap.size + 1) _ _ _ _ rfl ((Blk.new1 _ _ _ _).alloc _)) rfl ⟨_, _, _, by rw [HN.out]; rfl, HM.out⟩
    · have hn1 : (n == 0) = false := by simpa using hn
      have hno : (decide ((5:Int) = 5) && decide (n = 0) && linkB s.data.toList) = false := by rw [decide_eq_false hn]; simp
      have HN := Lib.hid hno
      go_enter Tryd.func63, Tryd.ntmps63
      go_wp2_with fail
      have M2 := ((Chg.refl (fun _ => False) w).alloc (.cells #[.int .i64 5, .int .i64 n, .string s] 33)).alloc (.cells #[.string ⟨#[]⟩, .string ⟨#[]⟩, .string ⟨#[]⟩] 75)
      refine (C.out _ M2).mono ?_
      rintro e w1 ⟨rfl, rfl⟩
      have M3 := M2.alloc (.cells (xs.map Value.string).toArray 9)
      have HM := Lib.hid M3
      clear M2 M3 C
      go_wp2_with fail
      exact bodyPost_ret (resLk rfl _ _ (w.heap.size + 1) _ _ _ _ rfl ((Blk.new1 _ _ _ _).alloc _)) rfl ⟨_, _, _, by rw [HN.out]; rfl, HM.out⟩
  · have hk1 : (k == 5) = false := by simpa using hk
    have hno : (decide (k = 5) && decide (n = 0) && linkB s.data.toList) = false := by rw [decide_eq_false hk]; simp
    have HN := Lib.hid hno
    go_enter Tryd.func63, Tryd.ntmps63
    go_wp2_with fail
    have M2 := ((Chg.refl (fun _ => False) w).alloc (.cells #[.int .i64 k, .int .i64 n, .string s] 33)).alloc (.cells #[.string ⟨#[]⟩, .string ⟨#[]⟩, .string ⟨#[]⟩] 75)
    refine (C.out _ M2).mono ?_
    rintro e w1 ⟨rfl, rfl⟩
    have M3 := M2.alloc (.cells (xs.map Value.string).toArray 9)
    have HM := Lib.hid M3
    clear M2 M3 C
    go_wp2_with fail
    exact bodyPost_ret (resLk rfl _ _ (w.heap.size + 1) _ _ _ _ rfl ((Blk.new1 _ _ _ _).alloc _)) rfl ⟨_, _, _, by rw [HN.out]; rfl, HM.out⟩
theorem andNot1 {n : Int} (h : -9223372036854775808 ≤ n ∧ n ≤ 9223372036854775807) : (bits .andNot .i64 n 1 = 0) ↔ (n = 0 ∨ n = 1) := by
  have e0 : bits .andNot .i64 n 1 = IntKind.i64.wrap ((BitVec.ofInt 64 n &&& ~~~BitVec.ofInt 64 ((1 : Nat) : Int)).toNat : Int) := rfl
  rw [e0, BitVec.toNat_and, BitVec.toNat_not, ofInt_u64 1 (by omega), BitVec.toNat_ofInt]
  obtain ⟨m, hm⟩ : ∃ m : Nat, (n % ((2 ^ 64 : Nat) : Int)).toNat = m := ⟨_, rfl⟩
  rw [hm]
  have hm2 : m < 18446744073709551616 := by omega
  have e : 2 ^ 64 - 1 - 1 = 18446744073709551614 := by decide
  rw [e, nat_hi64_1, Nat.mod_eq_of_lt (by omega), IntKind.wrap_i64]
  omega
set_option maxHeartbeats 4000000 in
set_option maxRecDepth 20000 in
theorem right (w : World) (k n : Int) (s : ByteArray) (hs : s.size < 4294967281) (hb : -9223372036854775808 ≤ n ∧ n ≤ 9223372036854775807) (hm : MaxAt w) :
    Calls Tryd.prog 57 #[.agg #[.int .i64 k, .int .i64 n, .string s]] w fun e w' => e = .returned (.bool (rightB k n s.data.toList)) ∧ New w w' := by
  have CL := Lib.hid fun W (hW : New w W) => link W k n s hs (hm.new hW)
  have CP := Lib.hid fun W => plain W s
  have CN := Lib.hid fun W => name W s
  have hz : ∀ W, (zeroValue 75).run Tryd.prog W = .ok (.agg #[.string ⟨#[]⟩, .string ⟨#[]⟩, .string ⟨#[]⟩]) W := fun W => by kernel_rfl
  have m1 := (Chg.refl (fun _ => False) w).alloc (.cells #[.int .i64 k, .int .i64 n, .string s] 33)
  have HM := Lib.hid m1
  have han := andNot1 hb
  have HA := Lib.hid han
  obtain ⟨q, hq⟩ : ∃ q, bits .andNot .i64 n 1 = q := ⟨_, rfl⟩
  have HQ := Lib.hid hq
  rw [hq] at han
  have hemp : s.toList = [] ↔ s.data.toList = [] := by rw [toList_data]
  clear hm m1
  by_cases h0 : k = 0
  · subst h0
    clear CL CP CN han hq hz
    have hr : rightB 0 n s.data.toList = (decide (n = 0) && decide (s.data.toList = [])) := rfl
    rw [hr]
    by_cases hn : n = 0
    · subst hn
      by_cases he : s.toList = []
      · rw [decide_eq_true (hemp.1 he)]
        go_enter Tryd.func57, Tryd.ntmps57
        go_wp2_with fail
        go_ret
        exact ⟨by simp [he], HM.out⟩
      · rw [decide_eq_false (mt hemp.2 he)]
        go_enter Tryd.func57, Tryd.ntmps57
        go_wp2_with fail
        go_ret
        exact ⟨by simp [he], HM.out⟩
    · rw [decide_eq_false hn]
      go_enter Tryd.func57, Tryd.ntmps57
      go_wp2_with fail
      go_ret
      exact ⟨by simp, HM.out⟩
  by_cases h1 : k = 1
  · subst h1
    clear CL CP CN hz
    have hr : rightB 1 n s.data.toList = ((decide (n = 0) || decide (n = 1)) && decide (s.data.toList = [])) := rfl
    rw [hr]
    by_cases hn : n = 0 ∨ n = 1
    · have hq0 : q = 0 := han.2 hn
      have e1 : (decide (n = 0) || decide (n = 1)) = true := by simpa using hn
      rw [e1]
      clear hn han hb e1
      subst hq0
      by_cases he : s.toList = []
      · rw [decide_eq_true (hemp.1 he)]
        go_enter Tryd.func57, Tryd.ntmps57
        go_wp2_with fail
        go_ret
        exact ⟨by simp [he], HM.out⟩
      · rw [decide_eq_false (mt hemp.2 he)]
        go_enter Tryd.func57, Tryd.ntmps57
        go_wp2_with fail
        go_ret
        exact ⟨by simp [he], HM.out⟩
    · have hq0 : ¬ q = 0 := fun e => hn (han.1 e)
      have e1 : (decide (n = 0) || decide (n = 1)) = false := by simpa using hn
      rw [e1]
      clear hn han hb e1
      go_enter Tryd.func57, Tryd.ntmps57
      go_wp2_with fail
      go_ret
      exact ⟨by simp, HM.out⟩
  by_cases h2 : k = 2
  · subst h2
    clear CL CP CN hz han hq
    have hr : rightB 2 n s.data.toList = (decide (-1099511627776 ≤ n) && decide (n ≤ 1099511627776) && decide (s.data.toList = [])) := rfl
    rw [hr]
    by_cases hn1 : -1099511627776 ≤ n
    · by_cases hn2 : n ≤ 1099511627776
      · by_cases he : s.toList = []
        · rw [decide_eq_true (hemp.1 he), decide_eq_true hn1, decide_eq_true hn2]
          go_enter Tryd.func57, Tryd.ntmps57
          go_wp2_with fail
          go_ret
          exact ⟨by simp [he], HM.out⟩
        · rw [decide_eq_false (mt hemp.2 he)]
          go_enter Tryd.func57, Tryd.ntmps57
          go_wp2_with fail
          go_ret
          exact ⟨by simp [he], HM.out⟩
      · rw [decide_eq_false hn2]
        go_enter Tryd.func57, Tryd.ntmps57
        go_wp2_with fail
        go_ret
        exact ⟨by simp, HM.out⟩
    · rw [decide_eq_false hn1]
      go_enter Tryd.func57, Tryd.ntmps57
      go_wp2_with fail
      go_ret
      exact ⟨by simp, HM.out⟩
  by_cases h3 : k = 3
  · subst h3
    clear CL CN hz han hq
    have hr : rightB 3 n s.data.toList = (decide (n = 0) && plainB s.data.toList) := rfl
    rw [hr]
    by_cases hn : n = 0
    · subst hn
      go_enter Tryd.func57, Tryd.ntmps57
      go_wp2_with fail
      refine (CP.out _).mono ?_
      rintro e w1 ⟨rfl, n1⟩
      go_wp2_with fail
      go_ret
      exact ⟨by simp, HM.out.trans n1 fun _ _ => id⟩
    · rw [decide_eq_false hn]
      clear CP
      go_enter Tryd.func57, Tryd.ntmps57
      go_wp2_with fail
      go_ret
      exact ⟨by simp, HM.out⟩
  by_cases h4 : k = 4
  · subst h4
    clear CL CP hz han hq
    have hr : rightB 4 n s.data.toList = (decide (n = 0) && nameB s.data.toList) := rfl
    rw [hr]
    by_cases hn : n = 0
    · subst hn
      go_enter Tryd.func57, Tryd.ntmps57
      go_wp2_with fail
      refine (CN.out _).mono ?_
      rintro e w1 ⟨rfl, rfl⟩
      go_wp2_with fail
      go_ret
      exact ⟨by simp, HM.out⟩
    · rw [decide_eq_false hn]
      clear CN
      go_enter Tryd.func57, Tryd.ntmps57
      go_wp2_with fail
      go_ret
      exact ⟨by simp, HM.out⟩
  have hr : rightB k n s.data.toList = (decide (k = 5) && decide (n = 0) && linkB s.data.toList) := by
    unfold rightB
    rw [if_neg h0, if_neg h1, if_neg h2, if_neg h3, if_neg h4]
    by_cases h5 : k = 5
    · rw [if_pos h5, decide_eq_true h5]; rfl
    · rw [if_neg h5, decide_eq_false h5]; rfl
  rw [hr]
  clear CP CN han hq hr
  go_enter Tryd.func57, Tryd.ntmps57
  go_wp2_with fail
  refine (CL.out _ HM.out).mono ?_
  rintro e w1 ⟨a, b, c, rfl, n1⟩
  have HN := Lib.hid (HM.out.trans n1 fun _ _ => id)
  clear n1 CL
  go_wp2_with fail
  go_ret
  exact ⟨rfl, HN.out.alloc _⟩
end Val
end Go.Proofs.YtgfkopimjmggdaaDoor

/- value.Elem: which elements may be, if strings.Join joins (no condition beyond the sizes). -/
namespace Go.Proofs.YtgfkopimjmggdaaDoor
set_option linter.unusedSimpArgs false
set_option linter.unusedVariables false
open Go.ChangeShapes Go.WideShapes Go.RowKit Go.Deep
namespace Val
/-- what strings.Join gives of texts with nothing between them -/
def JoinC : Prop := ∀ (w : World) (bk n c : Nat) (xs : List ByteArray), Blk w bk 9 (xs.map Value.string).toArray → xs.length = n → 0 < n → n ≤ 4 → n ≤ c → (∀ x ∈ xs, x.size ≤ 1000000) →
  Calls Tryd.prog 61 #[.slice (some ⟨bk, 0, none⟩) n c, .string ⟨#[]⟩] w fun e w' => e = .returned (.string ⟨(Lib.join (xs.map (·.data.toList)) []).toArray⟩) ∧ New w w'
def emptyB (xs : List ByteArray) : Bool := xs.all fun x => decide (x.data.toList = [])
set_option maxHeartbeats 4000000 in
set_option maxRecDepth 20000 in
theorem empty (hJ : JoinC) (w : World) (bk n c : Nat) (xs : List ByteArray) (hb : Blk w bk 9 (xs.map Value.string).toArray) (hl : xs.length = n) (h0 : 0 < n) (hn : n ≤ 4) (hc : n ≤ c) (hs : ∀ x ∈ xs, x.size ≤ 1000000) :
    Calls Tryd.prog 56 #[.slice (some ⟨bk, 0, none⟩) n c] w fun e w' => e = .returned (.bool (emptyB xs)) ∧ New w w' := by
  have C := Lib.hid (hJ w bk n c xs hb hl h0 hn hc hs)
  have he : emptyB xs = decide (Lib.join (xs.map (·.data.toList)) [] = []) := by
    unfold emptyB
    rw [Bool.eq_iff_iff, List.all_eq_true, decide_eq_true_eq, join_nil_iff]
    simp
  rw [he]
  obtain ⟨j, hj⟩ : ∃ j, Lib.join (xs.map (·.data.toList)) [] = j := ⟨_, rfl⟩
  rw [hj] at C ⊢
  clear he hj hb hl hs
  cases j with
  | nil =>
    go_enter Tryd.func56, Tryd.ntmps56
    go_wp2_with fail
    with_reducible refine C.out.mono ?_
    rintro e w1 ⟨rfl, n1⟩
    have H := Lib.hid n1
    clear n1 C
    go_wp2_with fail
    go_ret
    exact ⟨rfl, H.out⟩
  | cons b l =>
    obtain ⟨x, hx⟩ : ∃ x : ByteArray, ⟨(b :: l).toArray⟩ = x := ⟨_, rfl⟩
    have hne : (x.toList == (⟨#[]⟩ : ByteArray).toList) = false := by
      rw [beq_eq_false_iff_ne]
      intro e
      rw [← hx, toList_data, toList_data] at e
      simp at e
    have hne2 : (x == (⟨#[]⟩ : ByteArray)) = false := by
      rw [Go.beq_toListBytes]; exact hne
    have hne3 : ¬ x = ⟨#[]⟩ := fun e => by rw [← hx] at e; simp at e
    have hne4 : ¬ x.toList = [] := fun e => by rw [← hx, toList_data] at e; simp at e
    rw [hx] at C
    clear hx
    go_enter Tryd.func56, Tryd.ntmps56
    go_wp2_with fail
    with_reducible refine C.out.mono ?_
    rintro e w1 ⟨rfl, n1⟩
    have H := Lib.hid n1
    clear n1 C
    go_wp2_with fail
    go_ret
    exact ⟨by simp [hne, hne2, hne3, hne4], H.out⟩
/-- texts that a call lays side by side -/
theorem laid {w : World} (xs : List ByteArray) : Blk (w.alloc (.cells (xs.map Value.string).toArray 9)) w.heap.size 9 (xs.map Value.string).toArray := Blk.new _ _ _
theorem laid_reads {w : World} {g : Nat} {xs : List ByteArray} (h : Blk w g 9 (xs.map Value.string).toArray) (n : Nat) (hl : xs.length = n) : Reads w (fun b => b < w.heap.size) 1 (some ⟨g, 0, none⟩) n (xs.map Value.string) := by
  have := Reads.of_blk (n := n) (size := 1) h (by simp [hl])
  exact this.mono fun b hb => by rw [hb]; exact h.lt
set_option maxHeartbeats 20000000 in
set_option maxRecDepth 20000 in
theorem elem (hJ : JoinC) (w : World) (k : Int) (a b c d : ByteArray) (hs : a.size ≤ 1000000 ∧ b.size ≤ 1000000 ∧ c.size ≤ 1000000 ∧ d.size ≤ 1000000) :
    Calls Tryd.prog 48 #[.agg #[.int .i64 k, .string a, .string b, .string c, .string d]] w fun e w' => e = .returned (.bool (elemB k a.data.toList b.data.toList c.data.toList d.data.toList)) ∧ New w w' := by
  obtain ⟨r, hr⟩ : ∃ r, elemB k a.data.toList b.data.toList c.data.toList d.data.toList = r := ⟨_, rfl⟩
  rw [hr]
  have HS := Lib.hid hs
  clear hs
  by_cases h1 : k = 1
  · subst h1
    have hb2 : Blk ((w.alloc (.cells #[.int .i64 1, .string a, .string b, .string c, .string d] 31)).alloc (.cells #[.string a] 9)) (w.heap.size + 1) 9 ([a].map Value.string).toArray := Blk.new1 w (.cells #[.int .i64 1, .string a, .string b, .string c, .string d] 31) 9 #[.string a]
    have CN := Lib.hid (names _ _ 1 1 [a] (laid_reads hb2 1 rfl) (by decide))
    simp only [List.all_cons, List.all_nil, Bool.and_true] at CN
    have hb3 : Blk (((w.alloc (.cells #[.int .i64 1, .string a, .string b, .string c, .string d] 31)).alloc (.cells #[.string a] 9)).alloc (.cells #[.string b, .string c, .string d] 9)) (w.heap.size + 2) 9 ([b, c, d].map Value.string).toArray := Blk.new2 w (.cells #[.int .i64 1, .string a, .string b, .string c, .string d] 31) (.cells #[.string a] 9) 9 #[.string b, .string c, .string d]
    have CE := Lib.hid (empty hJ _ _ 3 3 [b, c, d] hb3 rfl (by decide) (by decide) (by decide) (by simp [HS.out]))
    unfold emptyB at CE
    simp only [List.all_cons, List.all_nil, Bool.and_true] at CE
    obtain ⟨nb, hnb⟩ : ∃ x, (nameB a.data.toList) = x := ⟨_, rfl⟩
    obtain ⟨eb, heb⟩ : ∃ x, (decide (b.data.toList = []) && (decide (c.data.toList = []) && decide (d.data.toList = []))) = x := ⟨_, rfl⟩
    have hr : r = (nb && eb) := by rw [← hnb, ← heb, ← hr]; unfold elemB; simp only [reduceIte, Int.reduceEq, or_self, or_true, true_or, or_false, false_or]; simp only [Bool.and_assoc, Bool.and_comm, Bool.and_left_comm]
    rw [heb] at CE
    rw [hnb] at CN
    subst hr
    clear hnb hb2 heb hb3
    have N1 := Lib.hid (((Chg.refl (fun _ => False) w).alloc (.cells #[.int .i64 1, .string a, .string b, .string c, .string d] 31)).alloc (.cells #[.string a] 9))
    cases nb
    · go_enter Tryd.func48, Tryd.ntmps48
      go_wp2_with fail
      with_reducible refine CN.out.mono ?_
      rintro e w1 ⟨rfl, rfl⟩
      go_wp2_with fail
      go_ret
      exact ⟨rfl, N1.out⟩
    · go_enter Tryd.func48, Tryd.ntmps48
      go_wp2_with fail
      with_reducible refine CN.out.mono ?_
      rintro e w1 ⟨rfl, rfl⟩
      go_wp2_with fail
      with_reducible refine CE.out.mono ?_
      rintro e w2 ⟨rfl, n2⟩
      have N2 := Lib.hid ((N1.out.alloc (.cells #[.string b, .string c, .string d] 9)).trans n2 fun _ _ => id)
      clear n2 CE
      go_wp2_with fail
      go_ret
      exact ⟨rfl, N2.out⟩
  by_cases h2 : k = 2
  · subst h2
    have hb2 : Blk ((w.alloc (.cells #[.int .i64 2, .string a, .string b, .string c, .string d] 31)).alloc (.cells #[.string a, .string d] 9)) (w.heap.size + 1) 9 ([a, d].map Value.string).toArray := Blk.new1 w (.cells #[.int .i64 2, .string a, .string b, .string c, .string d] 31) 9 #[.string a, .string d]
    have CN := Lib.hid (names _ _ 2 2 [a, d] (laid_reads hb2 2 rfl) (by decide))
    simp only [List.all_cons, List.all_nil, Bool.and_true] at CN
    have hb3 : Blk (((w.alloc (.cells #[.int .i64 2, .string a, .string b, .string c, .string d] 31)).alloc (.cells #[.string a, .string d] 9)).alloc (.cells #[.string b, .string c] 9)) (w.heap.size + 2) 9 ([b, c].map Value.string).toArray := Blk.new2 w (.cells #[.int .i64 2, .string a, .string b, .string c, .string d] 31) (.cells #[.string a, .string d] 9) 9 #[.string b, .string c]
    have CE := Lib.hid (empty hJ _ _ 2 2 [b, c] hb3 rfl (by decide) (by decide) (by decide) (by simp [HS.out]))
    unfold emptyB at CE
    simp only [List.all_cons, List.all_nil, Bool.and_true] at CE
    obtain ⟨nb, hnb⟩ : ∃ x, (nameB a.data.toList && nameB d.data.toList) = x := ⟨_, rfl⟩
    obtain ⟨eb, heb⟩ : ∃ x, (decide (b.data.toList = []) && decide (c.data.toList = [])) = x := ⟨_, rfl⟩
    have hr : r = (nb && eb) := by rw [← hnb, ← heb, ← hr]; unfold elemB; simp only [reduceIte, Int.reduceEq, or_self, or_true, true_or, or_false, false_or]; simp only [Bool.and_assoc, Bool.and_comm, Bool.and_left_comm]
    rw [heb] at CE
    rw [hnb] at CN
    subst hr
    clear hnb hb2 heb hb3
    have N1 := Lib.hid (((Chg.refl (fun _ => False) w).alloc (.cells #[.int .i64 2, .string a, .string b, .string c, .string d] 31)).alloc (.cells #[.string a, .string d] 9))
    cases nb
    · go_enter Tryd.func48, Tryd.ntmps48
      go_wp2_with fail
      with_reducible refine CN.out.mono ?_
      rintro e w1 ⟨rfl, rfl⟩
      go_wp2_with fail
      go_ret
      exact ⟨rfl, N1.out⟩
    · go_enter Tryd.func48, Tryd.ntmps48
      go_wp2_with fail
      with_reducible refine CN.out.mono ?_
      rintro e w1 ⟨rfl, rfl⟩
      go_wp2_with fail
      with_reducible refine CE.out.mono ?_
      rintro e w2 ⟨rfl, n2⟩
      have N2 := Lib.hid ((N1.out.alloc (.cells #[.string b, .string c] 9)).trans n2 fun _ _ => id)
      clear n2 CE
      go_wp2_with fail
      go_ret
      exact ⟨rfl, N2.out⟩
  by_cases h4 : k = 4
  · subst h4
    have hb2 : Blk ((w.alloc (.cells #[.int .i64 4, .string a, .string b, .string c, .string d] 31)).alloc (.cells #[.string a, .string d] 9)) (w.heap.size + 1) 9 ([a, d].map Value.string).toArray := Blk.new1 w (.cells #[.int .i64 4, .string a, .string b, .string c, .string d] 31) 9 #[.string a, .string d]
    have CN := Lib.hid (names _ _ 2 2 [a, d] (laid_reads hb2 2 rfl) (by decide))
    simp only [List.all_cons, List.all_nil, Bool.and_true] at CN
    have hb3 : Blk (((w.alloc (.cells #[.int .i64 4, .string a, .string b, .string c, .string d] 31)).alloc (.cells #[.string a, .string d] 9)).alloc (.cells #[.string b, .string c] 9)) (w.heap.size + 2) 9 ([b, c].map Value.string).toArray := Blk.new2 w (.cells #[.int .i64 4, .string a, .string b, .string c, .string d] 31) (.cells #[.string a, .string d] 9) 9 #[.string b, .string c]
    have CE := Lib.hid (empty hJ _ _ 2 2 [b, c] hb3 rfl (by decide) (by decide) (by decide) (by simp [HS.out]))
    unfold emptyB at CE
    simp only [List.all_cons, List.all_nil, Bool.and_true] at CE
    obtain ⟨nb, hnb⟩ : ∃ x, (nameB a.data.toList && nameB d.data.toList) = x := ⟨_, rfl⟩
    obtain ⟨eb, heb⟩ : ∃ x, (decide (b.data.toList = []) && decide (c.data.toList = [])) = x := ⟨_, rfl⟩
    have hr : r = (nb && eb) := by rw [← hnb, ← heb, ← hr]; unfold elemB; simp only [reduceIte, Int.reduceEq, or_self, or_true, true_or, or_false, false_or]; simp only [Bool.and_assoc, Bool.and_comm, Bool.and_left_comm]
    rw [heb] at CE
    rw [hnb] at CN
    subst hr
    clear hnb hb2 heb hb3
    have N1 := Lib.hid (((Chg.refl (fun _ => False) w).alloc (.cells #[.int .i64 4, .string a, .string b, .string c, .string d] 31)).alloc (.cells #[.string a, .string d] 9))
    cases nb
    · go_enter Tryd.func48, Tryd.ntmps48
      go_wp2_with fail
      with_reducible refine CN.out.mono ?_
      rintro e w1 ⟨rfl, rfl⟩
      go_wp2_with fail
      go_ret
      exact ⟨rfl, N1.out⟩
    · go_enter Tryd.func48, Tryd.ntmps48
      go_wp2_with fail
      with_reducible refine CN.out.mono ?_
      rintro e w1 ⟨rfl, rfl⟩
      go_wp2_with fail
      with_reducible refine CE.out.mono ?_
      rintro e w2 ⟨rfl, n2⟩
      have N2 := Lib.hid ((N1.out.alloc (.cells #[.string b, .string c] 9)).trans n2 fun _ _ => id)
      clear n2 CE
      go_wp2_with fail
      go_ret
      exact ⟨rfl, N2.out⟩
  by_cases h3 : k = 3
  · subst h3
    have hb2 : Blk ((w.alloc (.cells #[.int .i64 3, .string a, .string b, .string c, .string d] 31)).alloc (.cells #[.string a, .string b, .string c] 9)) (w.heap.size + 1) 9 ([a, b, c].map Value.string).toArray := Blk.new1 w (.cells #[.int .i64 3, .string a, .string b, .string c, .string d] 31) 9 #[.string a, .string b, .string c]
    have CN := Lib.hid (names _ _ 3 3 [a, b, c] (laid_reads hb2 3 rfl) (by decide))
    simp only [List.all_cons, List.all_nil, Bool.and_true] at CN
    have hb3 : Blk (((w.alloc (.cells #[.int .i64 3, .string a, .string b, .string c, .string d] 31)).alloc (.cells #[.string a, .string b, .string c] 9)).alloc (.cells #[.string d] 9)) (w.heap.size + 2) 9 ([d].map Value.string).toArray := Blk.new2 w (.cells #[.int .i64 3, .string a, .string b, .string c, .string d] 31) (.cells #[.string a, .string b, .string c] 9) 9 #[.string d]
    have CE := Lib.hid (empty hJ _ _ 1 1 [d] hb3 rfl (by decide) (by decide) (by decide) (by simp [HS.out]))
    unfold emptyB at CE
    simp only [List.all_cons, List.all_nil, Bool.and_true] at CE
    obtain ⟨nb, hnb⟩ : ∃ x, (nameB a.data.toList && (nameB b.data.toList && nameB c.data.toList)) = x := ⟨_, rfl⟩
    obtain ⟨eb, heb⟩ : ∃ x, (decide (d.data.toList = [])) = x := ⟨_, rfl⟩
    have hr : r = (nb && eb) := by rw [← hnb, ← heb, ← hr]; unfold elemB; simp only [reduceIte, Int.reduceEq, or_self, or_true, true_or, or_false, false_or]; simp only [Bool.and_assoc, Bool.and_comm, Bool.and_left_comm]
    rw [heb] at CE
    rw [hnb] at CN
    subst hr
    clear hnb hb2 heb hb3
    have N1 := Lib.hid (((Chg.refl (fun _ => False) w).alloc (.cells #[.int .i64 3, .string a, .string b, .string c, .string d] 31)).alloc (.cells #[.string a, .string b, .string c] 9))
    cases nb
    · go_enter Tryd.func48, Tryd.ntmps48
      go_wp2_with fail
      with_reducible refine CN.out.mono ?_
      rintro e w1 ⟨rfl, rfl⟩
      go_wp2_with fail
      go_ret
      exact ⟨rfl, N1.out⟩
    · go_enter Tryd.func48, Tryd.ntmps48
      go_wp2_with fail
      with_reducible refine CN.out.mono ?_
      rintro e w1 ⟨rfl, rfl⟩
      go_wp2_with fail
      with_reducible refine CE.out.mono ?_
      rintro e w2 ⟨rfl, n2⟩
      have N2 := Lib.hid ((N1.out.alloc (.cells #[.string d] 9)).trans n2 fun _ _ => id)
      clear n2 CE
      go_wp2_with fail
      go_ret
      exact ⟨rfl, N2.out⟩
  by_cases h5 : k = 5
  · subst h5
    have hb2 : Blk ((w.alloc (.cells #[.int .i64 5, .string a, .string b, .string c, .string d] 31)).alloc (.cells #[.string a, .string b, .string c, .string d] 9)) (w.heap.size + 1) 9 ([a, b, c, d].map Value.string).toArray := Blk.new1 w (.cells #[.int .i64 5, .string a, .string b, .string c, .string d] 31) 9 #[.string a, .string b, .string c, .string d]
    have CN := Lib.hid (names _ _ 4 4 [a, b, c, d] (laid_reads hb2 4 rfl) (by decide))
    simp only [List.all_cons, List.all_nil, Bool.and_true] at CN
    obtain ⟨nb, hnb⟩ : ∃ x, (nameB a.data.toList && (nameB b.data.toList && (nameB c.data.toList && nameB d.data.toList))) = x := ⟨_, rfl⟩
    have hr : r = nb := by rw [← hnb, ← hr]; unfold elemB; simp only [reduceIte, Int.reduceEq, or_self, or_true, true_or, or_false, false_or]; simp only [Bool.and_assoc, Bool.and_comm, Bool.and_left_comm]
    rw [hnb] at CN
    subst hr
    clear hnb hb2
    have N1 := Lib.hid (((Chg.refl (fun _ => False) w).alloc (.cells #[.int .i64 5, .string a, .string b, .string c, .string d] 31)).alloc (.cells #[.string a, .string b, .string c, .string d] 9))
    go_enter Tryd.func48, Tryd.ntmps48
    go_wp2_with fail
    with_reducible refine CN.out.mono ?_
    rintro e w1 ⟨rfl, rfl⟩
    go_wp2_with fail
    go_ret
    exact ⟨rfl, N1.out⟩
  have hr : r = false := by rw [← hr]; unfold elemB; rw [if_neg h1, if_neg (by omega), if_neg h3, if_neg h5]
  subst hr
  have b1 : (k == 1) = false := by simpa using h1
  have b2 : (k == 2) = false := by simpa using h2
  have b3 : (k == 3) = false := by simpa using h3
  have b4 : (k == 4) = false := by simpa using h4
  have b5 : (k == 5) = false := by simpa using h5
  have N1 := Lib.hid ((Chg.refl (fun _ => False) w).alloc (.cells #[.int .i64 k, .string a, .string b, .string c, .string d] 31))
  go_enter Tryd.func48, Tryd.ntmps48
  go_wp2_with fail
  go_ret
  exact ⟨rfl, N1.out⟩
end Val
end Go.Proofs.YtgfkopimjmggdaaDoor

/- Which changes may be: kept, scalar, may, Change (no condition beyond the sizes, and that MaxLen holds a number). -/
namespace Go.Proofs.YtgfkopimjmggdaaDoor
set_option linter.unusedSimpArgs false
set_option linter.unusedVariables false
open Go.ChangeShapes Go.WideShapes Go.RowKit Go.Deep
namespace Evt
open Val (elemB rightB JoinC)
theorem loadOnly0 (p : Value) : Instr.loadAt 31 p = LoadRowV 31 p := rfl
attribute [local go_sem ↓] loadOnly0
theorem loadOnly1 (p : Value) : Instr.loadAt 33 p = LoadRowV 33 p := rfl
attribute [local go_sem ↓] loadOnly1
theorem loadOnly2 (p : Value) : Instr.loadAt 57 p = LoadRowV 57 p := rfl
attribute [local go_sem ↓] loadOnly2
abbrev elemV (k : Int) (a b c d : ByteArray) : Value := .agg #[.int .i64 k, .string a, .string b, .string c, .string d]
abbrev valV (k n : Int) (t : ByteArray) : Value := .agg #[.int .i64 k, .int .i64 n, .string t]
abbrev chV (op k : Int) (a b c d : ByteArray) (vk vn : Int) (vt : ByteArray) : Value := .agg #[.int .i64 op, .int .i64 k, .string a, .string b, .string c, .string d, .int .i64 vk, .int .i64 vn, .string vt]
def keptB (k : Int) : Bool := decide (k = 4) || decide (k = 5)
def scalarB (k n : Int) (t : List UInt8) : Bool := decide (1 ≤ k) && decide (k ≤ 3) && rightB k n t
def noneB (k n : Int) (t : List UInt8) : Bool := decide (k = 0) && decide (n = 0) && decide (t = [])
def changeB (op k : Int) (a b c d : List UInt8) (vk vn : Int) (vt : List UInt8) : Bool :=
  elemB k a b c d && (if op = 1 ∨ op = 2 then noneB vk vn vt && !keptB k else if op = 3 then keptB k && scalarB vk vn vt else if op = 4 then noneB vk vn vt && keptB k else false)
theorem kept (w : World) (k : Int) (a b c d : ByteArray) : Calls Tryd.prog 49 #[elemV k a b c d] w fun e w' => e = .returned (.bool (keptB k)) ∧ New w w' := by
  have N1 := Lib.hid ((Chg.refl (fun _ => False) w).alloc (.cells #[.int .i64 k, .string a, .string b, .string c, .string d] 31))
  by_cases h4 : k = 4
  · subst h4
    go_enter Tryd.func49, Tryd.ntmps49
    go_wp2_with fail
    go_ret
    exact ⟨rfl, N1.out⟩
  · have b4 : (k == 4) = false := by simpa using h4
    by_cases h5 : k = 5
    · subst h5
      go_enter Tryd.func49, Tryd.ntmps49
      go_wp2_with fail
      go_ret
      exact ⟨rfl, N1.out⟩
    · have b5 : (k == 5) = false := by simpa using h5
      rw [show keptB k = false by unfold keptB; simp [h4, h5]]
      go_enter Tryd.func49, Tryd.ntmps49
      go_wp2_with fail
      go_ret
      exact ⟨by simp [h5], N1.out⟩
theorem blk_val {w : World} {g : Nat} {k n : Int} {t : ByteArray} (h : Blk w g 33 #[.int .i64 k, .int .i64 n, .string t]) : (LoadRow 33 ⟨g, 0, none⟩).run Tryd.prog w = .ok (valV k n t) w :=
  run_LoadRow (P := Tryd.prog) (n := 3) (cs := [.int .i64 k, .int .i64 n, .string t]) Tryd.underlying33 rfl (by kernel_rfl) rfl (Blk.range_all (cs := [_, _, _]) h)
set_option maxHeartbeats 4000000 in
theorem scalar (w : World) (k n : Int) (t : ByteArray) (hs : t.size < 4294967281) (hb : -9223372036854775808 ≤ n ∧ n ≤ 9223372036854775807) (hm : Val.MaxAt w) :
    Calls Tryd.prog 50 #[valV k n t] w fun e w' => e = .returned (.bool (scalarB k n t.data.toList)) ∧ New w w' := by
  have n1 := (Chg.refl (fun _ => False) w).alloc (.cells #[.int .i64 k, .int .i64 n, .string t] 33)
  have hl := blk_val (Blk.new w 33 #[.int .i64 k, .int .i64 n, .string t])
  have N1 := Lib.hid n1
  have CR := Lib.hid (Val.right _ k n t hs hb (hm.new n1))
  obtain ⟨r, hr⟩ : ∃ r, rightB k n t.data.toList = r := ⟨_, rfl⟩
  rw [hr] at CR
  have HS := Lib.hid (show scalarB k n t.data.toList = (decide (1 ≤ k) && decide (k ≤ 3) && r) by unfold scalarB; rw [hr])
  rw [HS.out]
  clear hr hs hb hm n1
  by_cases h1 : 1 ≤ k
  · by_cases h3 : k ≤ 3
    · rw [show (decide (1 ≤ k) && decide (k ≤ 3) && r) = r by simp [h1, h3]]
      go_enter Tryd.func50, Tryd.ntmps50
      go_wp2_with fail
      with_reducible refine CR.out.mono ?_
      rintro e w2 ⟨rfl, n2⟩
      have N2 := Lib.hid (N1.out.trans n2 fun _ _ => id)
      clear n2
      go_wp2_with fail
      go_ret
      exact ⟨rfl, N2.out⟩
    · rw [show (decide (1 ≤ k) && decide (k ≤ 3) && r) = false by simp [h3]]
      go_enter Tryd.func50, Tryd.ntmps50
      go_wp2_with fail
      go_ret
      exact ⟨by simp [h3], N1.out⟩
  · rw [show (decide (1 ≤ k) && decide (k ≤ 3) && r) = false by simp [h1]]
    go_enter Tryd.func50, Tryd.ntmps50
    go_wp2_with fail
    go_ret
    exact ⟨by simp [h1], N1.out⟩
theorem eql_none (k n : Int) (t : ByteArray) (W : World) : (binOp .eql 33 (.agg #[.int .i64 k, .int .i64 n, .string t]) (.agg #[.int .i64 0, .int .i64 0, .string ⟨#[]⟩])).run Tryd.prog W = .ok (.bool (noneB k n t.data.toList)) W := by
  unfold noneB
  by_cases h1 : k = 0
  · subst h1
    by_cases h2 : n = 0
    · subst h2
      by_cases h3 : t.data.toList = []
      · obtain rfl : t = ⟨#[]⟩ := by
          apply ByteArray.ext
          exact Array.toList_inj.1 (by rw [h3])
        go_simp
      · have h4 : (t.toList == (⟨#[]⟩ : ByteArray).toList) = false := by
          rw [beq_eq_false_iff_ne, Val.toList_data, Val.toList_data]
          exact h3
        have h5 : ¬ t.toList = [] := by rw [Val.toList_data]; exact h3
        go_simp
    · have h4 : (n == 0) = false := by simpa using h2
      go_simp
  · have h4 : (k == 0) = false := by simpa using h1
    go_simp
theorem blk_ch {w : World} {g : Nat} {op k : Int} {a b c d : ByteArray} {vk vn : Int} {vt : ByteArray} (h : Blk w g 57 #[.int .i64 op, .int .i64 k, .string a, .string b, .string c, .string d, .int .i64 vk, .int .i64 vn, .string vt]) :
    (LoadRow 31 ⟨g, 1, none⟩).run Tryd.prog w = .ok (elemV k a b c d) w ∧ (LoadRow 33 ⟨g, 6, none⟩).run Tryd.prog w = .ok (valV vk vn vt) w ∧ w.cell? ⟨g, 0, none⟩ = some (.int .i64 op) ∧ (LoadRow 57 ⟨g, 0, none⟩).run Tryd.prog w = .ok (chV op k a b c d vk vn vt) w := by
  refine ⟨?_, ?_, h.cell 0, ?_⟩
  · exact run_LoadRow (P := Tryd.prog) (n := 5) (cs := [.int .i64 k, .string a, .string b, .string c, .string d]) Tryd.underlying31 rfl (by kernel_rfl) rfl (Blk.range (cs := [_, _, _, _, _, _, _, _, _]) h 1 _ fun j v hj => by
      match j, hj with
      | 0, hj => simpa using hj
      | 1, hj => simpa using hj
      | 2, hj => simpa using hj
      | 3, hj => simpa using hj
      | 4, hj => simpa using hj)
  · exact run_LoadRow (P := Tryd.prog) (n := 3) (cs := [.int .i64 vk, .int .i64 vn, .string vt]) Tryd.underlying33 rfl (by kernel_rfl) rfl (Blk.range (cs := [_, _, _, _, _, _, _, _, _]) h 6 _ fun j v hj => by
      match j, hj with
      | 0, hj => simpa using hj
      | 1, hj => simpa using hj
      | 2, hj => simpa using hj)
  · exact run_LoadRow (P := Tryd.prog) (n := 9) (cs := [.int .i64 op, .int .i64 k, .string a, .string b, .string c, .string d, .int .i64 vk, .int .i64 vn, .string vt]) Tryd.underlying57 rfl (by kernel_rfl) rfl (Blk.range_all (cs := [_, _, _, _, _, _, _, _, _]) h)
set_option maxHeartbeats 20000000 in
set_option maxRecDepth 20000 in
theorem may (hJ : JoinC) (w : World) (op k : Int) (a b c d : ByteArray) (vk vn : Int) (vt : ByteArray) (hs : a.size ≤ 1000000 ∧ b.size ≤ 1000000 ∧ c.size ≤ 1000000 ∧ d.size ≤ 1000000) (ht : vt.size ≤ 1000000) (hb : -9223372036854775808 ≤ vn ∧ vn ≤ 9223372036854775807) (hm : Val.MaxAt w) :
    Calls Tryd.prog 40 #[chV op k a b c d vk vn vt] w fun e w' => e = .returned (.bool (changeB op k a.data.toList b.data.toList c.data.toList d.data.toList vk vn vt.data.toList)) ∧ New w w' := by
  have n1 := (Chg.refl (fun _ => False) w).alloc (.cells #[.int .i64 op, .int .i64 k, .string a, .string b, .string c, .string d, .int .i64 vk, .int .i64 vn, .string vt] 57)
  have B1 := Blk.new w 57 #[.int .i64 op, .int .i64 k, .string a, .string b, .string c, .string d, .int .i64 vk, .int .i64 vn, .string vt]
  have l1 := (blk_ch B1).1
  have CE := Lib.hid (Val.elem hJ (w.alloc (.cells #[.int .i64 op, .int .i64 k, .string a, .string b, .string c, .string d, .int .i64 vk, .int .i64 vn, .string vt] 57)) k a b c d hs)
  have CK := Lib.hid fun W => kept W k a b c d
  have CSc := Lib.hid fun W (hW : New w W) => scalar W vk vn vt (by omega) hb (hm.new hW)
  have hz : ∀ W, (zeroValue 33).run Tryd.prog W = .ok (.agg #[.int .i64 0, .int .i64 0, .string ⟨#[]⟩]) W := fun W => by kernel_rfl
  have hq := eql_none vk vn vt
  obtain ⟨eb, heb⟩ : ∃ x, elemB k a.data.toList b.data.toList c.data.toList d.data.toList = x := ⟨_, rfl⟩
  obtain ⟨kb, hkb⟩ : ∃ x, keptB k = x := ⟨_, rfl⟩
  obtain ⟨sb, hsb⟩ : ∃ x, scalarB vk vn vt.data.toList = x := ⟨_, rfl⟩
  obtain ⟨nb, hnb⟩ : ∃ x, noneB vk vn vt.data.toList = x := ⟨_, rfl⟩
  have HR := Lib.hid (show changeB op k a.data.toList b.data.toList c.data.toList d.data.toList vk vn vt.data.toList = (eb && (if op = 1 ∨ op = 2 then nb && !kb else if op = 3 then kb && sb else if op = 4 then nb && kb else false)) by unfold changeB; rw [heb, hkb, hsb, hnb])
  rw [HR.out]
  rw [heb] at CE
  rw [hkb] at CK
  rw [hsb] at CSc
  rw [hnb] at hq
  have N1 := Lib.hid n1
  have HB := Lib.hid B1
  have hg1 := B1.lt
  clear n1 B1 heb hkb hsb hnb hs ht hb hm
  cases eb
  · rw [Bool.false_and]
    go_enter Tryd.func40, Tryd.ntmps40
    go_wp2_with fail
    with_reducible refine CE.out.mono ?_
    rintro e w2 ⟨rfl, n2⟩
    have N2 := Lib.hid (N1.out.trans n2 fun _ _ => id)
    clear n2
    go_wp2_with fail
    go_ret
    exact ⟨rfl, N2.out⟩
  rw [Bool.true_and]
  obtain ⟨r, hr⟩ : ∃ r, (if op = 1 ∨ op = 2 then nb && !kb else if op = 3 then kb && sb else if op = 4 then nb && kb else false) = r := ⟨_, rfl⟩
  rw [hr]
  have HRr := Lib.hid hr
  clear hr HR
  go_enter Tryd.func40, Tryd.ntmps40
  go_wp2_with fail
  with_reducible refine CE.out.mono ?_
  rintro e w2 ⟨rfl, n2⟩
  have HB2 := Lib.hid (HB.out.chg n2 id)
  have N2 := Lib.hid (N1.out.trans n2 fun _ _ => id)
  have l2 := (blk_ch HB2.out).1
  have m2 := (blk_ch HB2.out).2.1
  have c2 := (blk_ch HB2.out).2.2.1
  have g2 := HB2.out.lt
  clear n2 l1 CE
  by_cases h1 : op = 1
  · subst h1
    have hr := HRr.out
    rw [if_pos (by decide)] at hr
    have HX := Lib.hid hr
    clear hr HRr
    cases nb
    · go_wp2_with fail
      go_ret
      exact ⟨by rw [← HX.out] <;> first | rfl | simp, N2.out⟩
    · go_wp2_with fail
      with_reducible refine (CK.out _).mono ?_
      rintro e w3 ⟨rfl, n3⟩
      have HB3 := Lib.hid (HB2.out.chg n3 id)
      have N3 := Lib.hid (N2.out.trans n3 fun _ _ => id)
      clear n3
      go_wp2_with fail
      go_ret
      exact ⟨by rw [← HX.out] <;> first | rfl | simp, N3.out⟩
  by_cases h2 : op = 2
  · subst h2
    have hr := HRr.out
    rw [if_pos (by decide)] at hr
    have HX := Lib.hid hr
    clear hr HRr
    cases nb
    · go_wp2_with fail
      go_ret
      exact ⟨by rw [← HX.out] <;> first | rfl | simp, N2.out⟩
    · go_wp2_with fail
      with_reducible refine (CK.out _).mono ?_
      rintro e w3 ⟨rfl, n3⟩
      have HB3 := Lib.hid (HB2.out.chg n3 id)
      have N3 := Lib.hid (N2.out.trans n3 fun _ _ => id)
      clear n3
      go_wp2_with fail
      go_ret
      exact ⟨by rw [← HX.out] <;> first | rfl | simp, N3.out⟩
  by_cases h3 : op = 3
  · subst h3
    have hr := HRr.out
    rw [if_neg (by decide), if_pos rfl] at hr
    have HX := Lib.hid hr
    clear hr HRr
    go_wp2_with fail
    with_reducible refine (CK.out _).mono ?_
    rintro e w3 ⟨rfl, n3⟩
    have HB3 := Lib.hid (HB2.out.chg n3 id)
    have N3 := Lib.hid (N2.out.trans n3 fun _ _ => id)
    clear n3
    cases kb
    · go_wp2_with fail
      go_ret
      exact ⟨by rw [← HX.out] <;> first | rfl | simp, N3.out⟩
    · have m3 := (blk_ch HB3.out).2.1
      have C4 := Lib.hid (CSc.out w3 N3.out)
      go_wp2_with fail
      with_reducible refine C4.out.mono ?_
      rintro e w4 ⟨rfl, n4⟩
      have N3 := Lib.hid (N3.out.trans n4 fun _ _ => id)
      clear n4
      go_wp2_with fail
      go_ret
      exact ⟨by rw [← HX.out] <;> first | rfl | simp, N3.out⟩
  by_cases h4 : op = 4
  · subst h4
    have hr := HRr.out
    rw [if_neg (by decide), if_neg (by decide), if_pos rfl] at hr
    have HX := Lib.hid hr
    clear hr HRr
    cases nb
    · go_wp2_with fail
      go_ret
      exact ⟨by rw [← HX.out] <;> first | rfl | simp, N2.out⟩
    · go_wp2_with fail
      with_reducible refine (CK.out _).mono ?_
      rintro e w3 ⟨rfl, n3⟩
      have HB3 := Lib.hid (HB2.out.chg n3 id)
      have N3 := Lib.hid (N2.out.trans n3 fun _ _ => id)
      clear n3
      go_wp2_with fail
      go_ret
      exact ⟨by rw [← HX.out] <;> first | rfl | simp, N3.out⟩
  have hr := HRr.out
  rw [if_neg (by omega), if_neg h3, if_neg h4] at hr
  have HX := Lib.hid hr
  have b1 : (op == 1) = false := by simpa using h1
  have b2 : (op == 2) = false := by simpa using h2
  have b3 : (op == 3) = false := by simpa using h3
  have b4 : (op == 4) = false := by simpa using h4
  clear hr HRr
  go_wp2_with fail
  go_ret
  exact ⟨by rw [← HX.out] <;> first | rfl | simp, N2.out⟩
set_option maxHeartbeats 4000000 in
set_option maxRecDepth 20000 in
theorem change (hJ : JoinC) (w : World) (op k : Int) (a b c d : ByteArray) (vk vn : Int) (vt : ByteArray) (hs : a.size ≤ 1000000 ∧ b.size ≤ 1000000 ∧ c.size ≤ 1000000 ∧ d.size ≤ 1000000) (ht : vt.size ≤ 1000000) (hb : -9223372036854775808 ≤ vn ∧ vn ≤ 9223372036854775807) (hm : Val.MaxAt w) :
    Calls Tryd.prog 30 #[chV op k a b c d vk vn vt] w fun e w' => e = .returned (.int .i64 (if changeB op k a.data.toList b.data.toList c.data.toList d.data.toList vk vn vt.data.toList = true then 0 else 1)) ∧ New w w' := by
  have n1 := (Chg.refl (fun _ => False) w).alloc (.cells #[.int .i64 op, .int .i64 k, .string a, .string b, .string c, .string d, .int .i64 vk, .int .i64 vn, .string vt] 57)
  have l1 := (blk_ch (Blk.new w 57 #[.int .i64 op, .int .i64 k, .string a, .string b, .string c, .string d, .int .i64 vk, .int .i64 vn, .string vt])).2.2.2
  have C := Lib.hid (may hJ _ op k a b c d vk vn vt hs ht hb (hm.new n1))
  obtain ⟨r, hr⟩ : ∃ r, changeB op k a.data.toList b.data.toList c.data.toList d.data.toList vk vn vt.data.toList = r := ⟨_, rfl⟩
  rw [hr] at C ⊢
  have N1 := Lib.hid n1
  clear hr hs ht hb hm n1
  cases r
  · go_enter Tryd.func30, Tryd.ntmps30
    go_wp2_with fail
    with_reducible refine C.out.mono ?_
    rintro e w2 ⟨rfl, n2⟩
    have N2 := Lib.hid (N1.out.trans n2 fun _ _ => id)
    clear n2
    go_wp2_with fail
    go_ret
    exact ⟨rfl, N2.out⟩
  · go_enter Tryd.func30, Tryd.ntmps30
    go_wp2_with fail
    with_reducible refine C.out.mono ?_
    rintro e w2 ⟨rfl, n2⟩
    have N2 := Lib.hid (N1.out.trans n2 fun _ _ => id)
    clear n2
    go_wp2_with fail
    go_ret
    exact ⟨rfl, N2.out⟩
end Evt
end Go.Proofs.YtgfkopimjmggdaaDoor

/- Vectors as rows of 16 numbers: join, meet, below, order, sum, and the dots that one knows and the other one doesn't (no condition beyond the rows' lengths). -/
namespace Go.Proofs.YtgfkopimjmggdaaDoor
namespace Vec

def zeros : List Int := List.replicate 16 0
theorem zeros_length : zeros.length = 16 := rfl
/-- the first k places by g, the others as they are -/
def zl (g : Int → Int → Int) (xs ys : List Int) (k : Nat) : List Int := (List.range 16).map fun j => if j < k then g (xs.getD j 0) (ys.getD j 0) else xs.getD j 0
def zw (g : Int → Int → Int) (xs ys : List Int) : List Int := zl g xs ys 16
def join (xs ys : List Int) : List Int := zw max xs ys
def meet (xs ys : List Int) : List Int := zw min xs ys
theorem get_getD {a : List Int} {j : Nat} (h : j < a.length) : a[j]? = some (a.getD j 0) := by
  simp [List.getD_eq_getElem?_getD, List.getElem?_eq_getElem h]
theorem ext16 {a b : List Int} (ha : a.length = 16) (hb : b.length = 16) (h : ∀ i, i < 16 → a.getD i 0 = b.getD i 0) : a = b := by
  apply List.ext_getElem (by omega)
  intro i h1 h2
  have := h i (by omega)
  simpa [List.getD_eq_getElem?_getD, List.getElem?_eq_getElem h1, List.getElem?_eq_getElem h2] using this
theorem zl_length (g : Int → Int → Int) (xs ys : List Int) (k : Nat) : (zl g xs ys k).length = 16 := by simp [zl]
theorem zl_get (g : Int → Int → Int) (xs ys : List Int) (k j : Nat) (h : j < 16) : (zl g xs ys k)[j]? = some (if j < k then g (xs.getD j 0) (ys.getD j 0) else xs.getD j 0) := by
  simp [zl, h]
theorem zl_getD (g : Int → Int → Int) (xs ys : List Int) (k j : Nat) (h : j < 16) : (zl g xs ys k).getD j 0 = if j < k then g (xs.getD j 0) (ys.getD j 0) else xs.getD j 0 := by
  rw [List.getD_eq_getElem?_getD, zl_get _ _ _ _ _ h]
  rfl
theorem zl_zero (g : Int → Int → Int) {xs : List Int} (ys : List Int) (hx : xs.length = 16) : zl g xs ys 0 = xs := by
  refine ext16 (zl_length ..) hx fun i hi => ?_
  rw [zl_getD _ _ _ _ _ hi, if_neg (by omega)]
theorem zl_set (g : Int → Int → Int) (xs ys : List Int) (k : Nat) (h : k < 16) : (zl g xs ys k).set k (g (xs.getD k 0) (ys.getD k 0)) = zl g xs ys (k + 1) := by
  apply List.ext_getElem?
  intro j
  by_cases hj : j < 16
  · rw [List.getElem?_set, zl_length, zl_get _ _ _ _ _ hj, zl_get _ _ _ _ _ hj]
    by_cases e : k = j
    · subst e
      simp [h]
    · rw [if_neg e]
      have : j < k + 1 ↔ j < k := by omega
      simp only [this]
  · rw [List.getElem?_eq_none (by rw [List.length_set, zl_length]; omega), List.getElem?_eq_none (by rw [zl_length]; omega)]
theorem zw_length (g : Int → Int → Int) (xs ys : List Int) : (zw g xs ys).length = 16 := zl_length ..
theorem zw_getD (g : Int → Int → Int) (xs ys : List Int) (j : Nat) (h : j < 16) : (zw g xs ys).getD j 0 = g (xs.getD j 0) (ys.getD j 0) := by
  rw [zw, zl_getD _ _ _ _ _ h, if_pos h]
theorem join_length (xs ys : List Int) : (join xs ys).length = 16 := zl_length ..
theorem meet_length (xs ys : List Int) : (meet xs ys).length = 16 := zl_length ..
theorem join_getD (xs ys : List Int) (j : Nat) (h : j < 16) : (join xs ys).getD j 0 = max (xs.getD j 0) (ys.getD j 0) := zw_getD _ _ _ _ h
theorem meet_getD (xs ys : List Int) (j : Nat) (h : j < 16) : (meet xs ys).getD j 0 = min (xs.getD j 0) (ys.getD j 0) := zw_getD _ _ _ _ h
def below (xs ys : List Int) : Prop := ∀ i, i < 16 → xs.getD i 0 ≤ ys.getD i 0
def belowF (xs ys : List Int) : Bool := join xs ys == ys
theorem belowF_iff {xs ys : List Int} (hy : ys.length = 16) : belowF xs ys = true ↔ below xs ys := by
  unfold belowF
  rw [beq_iff_eq]
  constructor
  · intro h i hi
    have := join_getD xs ys i hi
    rw [h] at this
    omega
  · intro h
    refine ext16 (join_length ..) hy fun i hi => ?_
    rw [join_getD _ _ _ hi]
    have := h i hi
    omega
theorem meetF_iff {xs ys : List Int} (hx : xs.length = 16) : (meet xs ys == xs) = true ↔ below xs ys := by
  rw [beq_iff_eq]
  constructor
  · intro h i hi
    have := meet_getD xs ys i hi
    rw [h] at this
    omega
  · intro h
    refine ext16 (meet_length ..) hx fun i hi => ?_
    rw [meet_getD _ _ _ hi]
    have := h i hi
    omega
def order (xs ys : List Int) : Int := if xs == ys then 0 else if belowF xs ys then -1 else if belowF ys xs then 1 else 2
/-- the sum of the numbers from 0 on, held below 2^62 -/
def sumF : List Int → Int → Int
  | [], n => n
  | x :: l, n => if max x 0 > 4611686018427387904 - n then 4611686018427387904 else sumF l (n + max x 0)
def rightF (xs : List Int) : Bool := xs.all fun n => decide (0 ≤ n) && decide (n ≤ 1048576)
def dotF (r n : Int) : Bool := decide (0 ≤ r) && decide (r < 16) && decide (1 ≤ n) && decide (n ≤ 1048576)
def knowsF (xs : List Int) (r n : Int) : Bool := dotF r n && decide (n ≤ xs.getD r.toNat 0)
def nextF (xs : List Int) (r n : Int) : Bool := dotF r n && (xs.getD r.toNat 0 == n - 1)
def addF (xs : List Int) (r n : Int) : List Int := if dotF r n && !knowsF xs r n then xs.set r.toNat n else xs
def clamp (n : Int) : Int := min (max n 0) 1048576
end Vec
end Go.Proofs.YtgfkopimjmggdaaDoor

/- Arrays of whole numbers as arguments, by value (no condition beyond what can be read). -/
namespace Go.Proofs.YtgfkopimjmggdaaDoor
open Go.ChangeShapes Go.WideShapes Go.RowKit Go.Deep

section
variable {H : Type} {enc : TypeId × Value → H} {P : Program} {w w0 : World} {base b0 : Nat} {spare : Nat → Bool} {held : Bool} {r : Reach}
/-- an argument [n]int -/
theorem open_array_ints {t e : TypeId} {n : Nat} {v : Value} {d : DataW H} {ps : List MemPlace} (ht : P.underlying t = some (.array n e)) (he : P.underlying e = some (.int .i64)) (hC : P.cellsOf e = 1) (hCt : P.cellsOf t = n)
    (hval : Value.okWide P w0 r b0 t v) (hd : DataW.Trod enc P w base spare held t v d ps) :
    ∃ xs : List Int, v = .agg (ints xs).toArray ∧ xs.length = n ∧ ∀ x ∈ xs, -9223372036854775808 ≤ x ∧ x ≤ 9223372036854775807 := by
  unfold Value.okWide at hval
  rw [ht] at hval
  obtain ⟨cs, rfl, hs, _⟩ := hval
  obtain ⟨fuel, hf⟩ := hd
  obtain ⟨ys, m, rfl, _, hl, hyl, hx⟩ := DataW.trod_array ht hf
  rw [hC] at hx
  have hcs : (Value.agg cs).cells.toList = cs.toList := rfl
  rw [hcs] at hl hx
  rw [hCt] at hl
  have hone' : ∀ q, q < n → ∃ x : Int, cs.toList[q]? = some (.int .i64 x) ∧ -9223372036854775808 ≤ x ∧ x ≤ 9223372036854775807 := by
    intro q hq
    have h1 := hx q hq
    rw [Nat.mul_one, List.getElem?_eq_getElem (by omega), List.drop_eq_getElem_cons (by omega)] at h1
    simp only [List.take_succ_cons, List.take_zero] at h1
    obtain ⟨n', hw', h1, h2⟩ := DataW.trod_int he h1
    simp [Lit.wf, IntKind.min, IntKind.max, IntKind.signed, IntKind.bits] at h2
    refine ⟨n', ?_, by omega, by omega⟩
    rw [List.getElem?_eq_getElem (by omega)]
    simpa using hw'
  obtain ⟨f, hf'⟩ := Deep.choose_lt hone'
  refine ⟨(List.range n).map f, ?_, by simp, fun x hx => ?_⟩
  · congr 1
    apply Array.ext'
    simp only
    apply List.ext_getElem?
    intro j
    by_cases hj : j < n
    · rw [(hf' j hj).1, ints_get]
      simp [hj]
    · rw [List.getElem?_eq_none (by omega), List.getElem?_eq_none (by rw [ints_length]; simp; omega)]
  · obtain ⟨q, hq, rfl⟩ := List.mem_map.1 hx
    exact (hf' q (List.mem_range.1 hq)).2
end
end Go.Proofs.YtgfkopimjmggdaaDoor
