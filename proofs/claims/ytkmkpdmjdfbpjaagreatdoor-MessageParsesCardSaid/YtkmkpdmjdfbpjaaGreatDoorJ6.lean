/-
  Which changes may be: kept, scalar, may, Change (no condition beyond the sizes, and that MaxLen holds a number).
-/
import Derived.Test.YtkmkpdmjdfbpjaaGreatDoorJ5
import Derived.Shelf.Strings.Split
import Derived.Deep.CutBlock
import Derived.Deep.DeepCutAuto
/- Texts of printed signs, rows of names, edges' texts, values: what the program's calls compute (no condition but that MaxLen holds a number). -/
namespace Go.Proofs.YtkmkpdmjdfbpjaaGreatDoor
open Go.ChangeShapes Go.WideShapes Go.RowKit Go.Deep
def Spl.lays_ren : Go.Shelf.Ren := ⟨fun | 146 => 97 | 221 => 100 | 268 => 103 | 138 => 104 | 143 => 105 | 195 => 106 | 197 => 107 | 218 => 108 | 219 => 109 | 260 => 110 | 217 => 111 | 225 => 112 | 224 => 113 | 267 => 114 | 266 => 115 | 314 => 116 | n => n, fun | 9 => 9 | 31 => 70 | 3 => 3 | 4 => 4 | 0 => 0 | 105 => 142 | 21 => 21 | 5 => 5 | 46 => 69 | 119 => 145 | 139 => 148 | 138 => 147 | 146 => 149 | 51 => 74 | n => n, fun | 1 => 0 | 3 => 1 | 4 => 2 | n => n⟩
theorem Spl.lays : Go.Proofs.Lays.n146 Tryz.prog Spl.lays_ren := {
  mixed := by kernel_rfl
  f138 := Tryz.func104.trans (congrArg some (by kernel_rfl))
  f143 := Tryz.func105.trans (congrArg some (by kernel_rfl))
  f146 := Tryz.func97.trans (congrArg some (by kernel_rfl))
  f195 := Tryz.func106.trans (congrArg some (by kernel_rfl))
  f197 := Tryz.func107.trans (congrArg some (by kernel_rfl))
  f217 := Tryz.func111.trans (congrArg some (by kernel_rfl))
  f218 := Tryz.func108.trans (congrArg some (by kernel_rfl))
  f219 := Tryz.func109.trans (congrArg some (by kernel_rfl))
  f221 := Tryz.func100.trans (congrArg some (by kernel_rfl))
  f224 := Tryz.func113.trans (congrArg some (by kernel_rfl))
  f225 := Tryz.func112.trans (congrArg some (by kernel_rfl))
  f260 := Tryz.func110.trans (congrArg some (by kernel_rfl))
  f266 := Tryz.func115.trans (congrArg some (by kernel_rfl))
  f267 := Tryz.func114.trans (congrArg some (by kernel_rfl))
  f268 := Tryz.func103.trans (congrArg some (by kernel_rfl))
  f314 := Tryz.func116.trans (congrArg some (by kernel_rfl))
  t0 := Tryz.underlying0
  a0 := Tryz.isAgg0
  z0 := Tryz.sizeOf0
  v0 := Tryz.zeroValue0
  t3 := Tryz.underlying3
  a3 := Tryz.isAgg3
  z3 := Tryz.sizeOf3
  v3 := Tryz.zeroValue3
  t4 := Tryz.underlying4
  a4 := Tryz.isAgg4
  z4 := Tryz.sizeOf4
  v4 := Tryz.zeroValue4
  t5 := Tryz.underlying5
  a5 := Tryz.isAgg5
  z5 := Tryz.sizeOf5
  v5 := Tryz.zeroValue5
  t9 := Tryz.underlying9
  a9 := Tryz.isAgg9
  z9 := Tryz.sizeOf9
  v9 := Tryz.zeroValue9
  t21 := Tryz.underlying21
  a21 := Tryz.isAgg21
  z21 := Tryz.sizeOf21
  v21 := Tryz.zeroValue21
  t31 := Tryz.underlying70
  a31 := Tryz.isAgg70
  z31 := Tryz.sizeOf70
  v31 := Tryz.zeroValue70
  t46 := Tryz.underlying69
  a46 := Tryz.isAgg69
  z46 := Tryz.sizeOf69
  v46 := Tryz.zeroValue69
  t51 := Tryz.underlying74
  a51 := Tryz.isAgg74
  z51 := Tryz.sizeOf74
  v51 := Tryz.zeroValue74
  t105 := Tryz.underlying142
  a105 := Tryz.isAgg142
  z105 := Tryz.sizeOf142
  v105 := Tryz.zeroValue142
  t119 := Tryz.underlying145
  a119 := Tryz.isAgg145
  z119 := Tryz.sizeOf145
  t138 := Tryz.underlying147
  a138 := Tryz.isAgg147
  z138 := Tryz.sizeOf147
  v138 := Tryz.zeroValue147
  t139 := Tryz.underlying148
  a139 := Tryz.isAgg148
  z139 := Tryz.sizeOf148
  v139 := Tryz.zeroValue148
  t146 := Tryz.underlying149
  a146 := Tryz.isAgg149
  z146 := Tryz.sizeOf149
  v146 := Tryz.zeroValue149
  g1 := by kernel_rfl
  g3 := by kernel_rfl
  g4 := by kernel_rfl }
namespace Val
theorem New.iter {a w : World} (h : New a w) (s : ByteArray) (p : Nat) : New a (w.iter s p) := h.alloc _
set_option maxHeartbeats 1000000 in
theorem plain (w : World) (s : ByteArray) : Calls Tryz.prog 90 #[.string s] w fun e w' => e = .returned (.bool (plainB s.data.toList)) ∧ New w w' := by
  obtain ⟨n, hn⟩ : ∃ n, s.size = n := ⟨_, rfl⟩
  have hlen := size_list s
  rw [hn] at hlen
  go_enter Tryz.func90, Tryz.ntmps90
  go_wp2_with fail
  go_loopw [4] (fun _ wr => ∃ i : Nat, i ≤ n ∧ wr = w.iter s i ∧ (s.data.toList.take i).all signB = true) (fun _ wr => n - wr.iterPos w.heap.size)
  case atStart => exact ⟨0, by omega, rfl, by simp⟩
  case round =>
    obtain ⟨i, hi, rfl, hall⟩ := hrel
    by_cases hlt : i < n
    · have his : i < s.size := by omega
      have hmem : s[i]'his ∈ s.data.toList := List.mem_of_getElem? (at_list his)
      have htk : (s.data.toList.take (i + 1)).all signB = ((s.data.toList.take i).all signB && signB (s[i]'his)) := by
        rw [List.take_add_one, at_list his, List.all_append]
        simp
      by_cases hb : (s[i]'his).toNat < 128
      · have hnx := fun ty => run_next_any (P := Tryz.prog) w s i ty his
        rw [decode_ascii s i his hb] at hnx
        simp only [] at hnx
        obtain ⟨b, hbe⟩ : ∃ b, s[i]'his = b := ⟨_, rfl⟩
        rw [hbe] at hnx hmem htk hb
        by_cases h1 : (b.toNat : Int) < 32
        · have hf : s.data.toList.all signB = false := by
            rw [List.all_eq_false]
            refine ⟨b, hmem, ?_⟩
            unfold signB
            rw [decide_eq_false (show ¬ 32 ≤ b.toNat by omega)]
            simp
          have HF := Lib.hid hf
          obtain ⟨x, hx⟩ : ∃ x, b.toNat = x := ⟨_, rfl⟩
          rw [hx] at hnx h1
          clear htk hmem hall hf hbe hb hx
          go_wp2_with fail
          go_ret
          exact ⟨by rw [plainB, HF.out]; rfl, (Chg.refl _ w).alloc _⟩
        · by_cases h2 : (126 : Int) < (b.toNat : Int)
          · have hf : s.data.toList.all signB = false := by
              rw [List.all_eq_false]
              refine ⟨b, hmem, ?_⟩
              unfold signB
              rw [decide_eq_false (show ¬ b.toNat ≤ 126 by omega)]
              simp
            have HF := Lib.hid hf
            obtain ⟨x, hx⟩ : ∃ x, b.toNat = x := ⟨_, rfl⟩
            rw [hx] at hnx h1 h2
            clear htk hmem hall hf hbe hb hx
            go_wp2_with fail
            go_ret
            exact ⟨by rw [plainB, HF.out]; rfl, (Chg.refl _ w).alloc _⟩
          · have ht : (s.data.toList.take (i + 1)).all signB = true := by
              rw [htk, hall]
              unfold signB
              rw [decide_eq_true (show 32 ≤ b.toNat by omega), decide_eq_true (show b.toNat ≤ 126 by omega)]
              rfl
            have HT := Lib.hid ht
            obtain ⟨x, hx⟩ : ∃ x, b.toNat = x := ⟨_, rfl⟩
            rw [hx] at hnx h1 h2
            clear htk hmem hall ht hbe hb hx
            go_wp2_with fail
            go_roundw
            case rel => exact ⟨i + 1, by omega, by first | trivial | rfl, HT.out⟩
            case measure => simp; omega
      · have hnx := fun ty => run_next_any (P := Tryz.prog) w s i ty his
        have hh := decode_high s i his (by omega)
        obtain ⟨c, hc⟩ : ∃ c, (Utf8.decode s i).1 = c := ⟨_, rfl⟩
        rw [hc] at hnx hh
        have hf : s.data.toList.all signB = false := by
          rw [List.all_eq_false]
          refine ⟨_, hmem, ?_⟩
          unfold signB
          rw [decide_eq_false (show ¬ (s[i]'his).toNat ≤ 126 by omega)]
          simp
        have HF := Lib.hid hf
        have h1 : ¬ (c : Int) < 32 := by omega
        have h2 : (126 : Int) < (c : Int) := by omega
        obtain ⟨d, hd⟩ : ∃ d, (Utf8.decode s i).2 = d := ⟨_, rfl⟩
        rw [hd] at hnx
        clear htk hmem hall hf hb hh hc hd
        go_wp2_with fail
        go_ret
        exact ⟨by rw [plainB, HF.out]; rfl, (Chg.refl _ w).alloc _⟩
    · obtain rfl : n = i := by omega
      have hnx := fun ty => run_next_end (P := Tryz.prog) w s n ty (by omega)
      rw [List.take_of_length_le (by rw [hlen]; exact Nat.le_refl _)] at hall
      have HF := Lib.hid hall
      clear hall
      go_wp2_with fail
      go_ret
      refine ⟨?_, (Chg.refl _ w).alloc _⟩
      rw [plainB, HF.out, hlen, Bool.true_and]
      by_cases h : n ≤ 64
      · have h2 : (n : Int) ≤ 64 := by omega
        simp [h, h2]
      · have h2 : ¬ (n : Int) ≤ 64 := by omega
        simp [h, h2]
set_option maxHeartbeats 1000000 in
theorem names (w : World) (A : Option Addr) (n c : Nat) (xs : List ByteArray) (hr : Reads w (fun b => b < w.heap.size) 1 A n (xs.map Value.string)) (hn : n ≤ 100) :
    Calls Tryz.prog 85 #[.slice A n c] w fun e w' => e = .returned (.bool (xs.all fun x => nameB x.data.toList)) ∧ w' = w := by
  have hl : xs.length = n := by simpa using hr.len
  have HR := Lib.hid (And.intro hr hl)
  clear hr hl
  go_enter Tryz.func85, Tryz.ntmps85
  go_wp2_with fail
  go_loopw [4, 7] (fun _ iv wr => ∃ i : Nat, i ≤ n ∧ iv = .int .i64 i ∧ wr = w ∧ ((xs.take i).all fun x => nameB x.data.toList) = true) (fun _ iv _ => n - (intOf iv).toNat)
  case atStart => exact ⟨0, by omega, by go_num, rfl, by simp⟩
  case round =>
    obtain ⟨i, hi, rfl, rfl, hall⟩ := hrel
    by_cases hlt : i < n
    · have hix : i < xs.length := by have := HR.out.2; omega
      obtain ⟨ad, u, rfl, _, hu, hc⟩ := HR.out.1.at_ hlt
      obtain ⟨x, hx⟩ : ∃ x, xs[i]? = some x := ⟨_, List.getElem?_eq_getElem hix⟩
      rw [List.getElem?_map, hx, Option.map_some] at hu
      injection hu with hu
      subst hu
      have C := Lib.hid (name wr x)
      have htk : ((xs.take (i + 1)).all fun x => nameB x.data.toList) = (((xs.take i).all fun x => nameB x.data.toList) && nameB x.data.toList) := by
        rw [List.take_add_one, hx, List.all_append]
        simp
      have hmem : x ∈ xs := List.mem_of_getElem? hx
      obtain ⟨l, hl⟩ : ∃ l, nameB x.data.toList = l := ⟨_, rfl⟩
      rw [hl] at C htk
      have hii : (i : Int) < n := by omega
      cases l
      · have hf : (xs.all fun x => nameB x.data.toList) = false := by
          rw [List.all_eq_false]
          exact ⟨x, hmem, by rw [hl]; simp⟩
        have HF := Lib.hid hf
        clear htk hmem hall hf hl hx
        go_wp2_with fail
        refine C.out.mono ?_
        rintro e w2 ⟨rfl, rfl⟩
        go_wp2_with fail
        go_ret
        rw [HF.out]
        exact ⟨rfl, rfl⟩
      · have HT := Lib.hid (show ((xs.take (i + 1)).all fun x => nameB x.data.toList) = true by rw [htk, hall]; rfl)
        clear htk hmem hall hl hx
        go_wp2_with fail
        refine C.out.mono ?_
        rintro e w2 ⟨rfl, rfl⟩
        go_wp2_with fail
        go_roundw
        case rel => exact ⟨i + 1, by omega, by go_num, by first | trivial | rfl, HT.out⟩
        case measure => simp [intOf]; omega
    · obtain rfl : n = i := by omega
      rw [List.take_of_length_le (by rw [HR.out.2]; exact Nat.le_refl _)] at hall
      have HF := Lib.hid hall
      clear hall
      go_wp2_with fail
      go_ret
      rw [HF.out]
      exact ⟨rfl, rfl⟩
end Val
end Go.Proofs.YtkmkpdmjdfbpjaaGreatDoor

/- Edges' texts, and values: what the program's calls compute (no condition but that MaxLen holds a number, and that texts are not too long). -/
namespace Go.Proofs.YtkmkpdmjdfbpjaaGreatDoor
set_option linter.unusedSimpArgs false
set_option linter.unusedVariables false
open Go.ChangeShapes Go.WideShapes Go.RowKit Go.Deep
namespace Val
/-- the package variable MaxLen holds some number -/
def MaxAt (w : World) : Prop := ∃ m : Int, w.cell? ⟨0, 0, none⟩ = some (.int .i64 m)
theorem MaxAt.new {w w' : World} (h : MaxAt w) (hc : New w w') : MaxAt w' := by
  obtain ⟨m, hm⟩ := h
  have hlt := block_lt_of_cell hm
  exact ⟨m, (hc.cell hlt id).trans hm⟩
def gt_ : ByteArray := ⟨#[62]⟩
/-- the parts of an edge's text -/
def partsOf (s : ByteArray) : List ByteArray := Lib.splitB gt_ 0 (Lib.countB s gt_) s
theorem parts_data (s : ByteArray) : (partsOf s).map (·.data.toList) = cutAt 62 s.data.toList := by
  unfold partsOf
  rw [Lib.splitB_data, ← split_cut]
  rfl
theorem parts_len (s : ByteArray) : (partsOf s).length = Lib.countB s gt_ + 1 := Lib.splitB_all gt_ (by decide) 0 _ s rfl
theorem link_parts (s : ByteArray) : linkB s.data.toList = (decide ((partsOf s).length = 3) && (partsOf s).all fun x => nameB x.data.toList) := by
  have h := parts_data s
  have hl : (cutAt 62 s.data.toList).length = (partsOf s).length := by rw [← h]; simp
  have ha : ((cutAt 62 s.data.toList).all nameB) = (partsOf s).all fun x => nameB x.data.toList := by rw [← h, List.all_map]; rfl
  rw [← hl, ← ha]
  unfold linkB
  split
  · next a b c e => rw [e]; simp [Bool.and_assoc]
  · next hno =>
    have : (cutAt 62 s.data.toList).length ≠ 3 := fun e => by
      match hq : cutAt 62 s.data.toList, e with
      | [a, b, c], _ => exact hno a b c hq
    simp [this]
theorem split (w : World) (s : ByteArray) (hs : s.size < 4294967281) (hm : MaxAt w) : Calls Tryz.prog 97 #[.string s, .string ⟨#[62]⟩] w fun e w' =>
    e = .returned (.slice (some ⟨w.heap.size, 0, none⟩) (partsOf s).length (partsOf s).length) ∧ w' = w.alloc (.cells ((partsOf s).map Value.string).toArray 9) := by
  obtain ⟨m, hm⟩ := hm
  have := Any.strings_Split Spl.lays (by kernel_rfl) s ⟨#[62]⟩ m w hs hm (by decide)
  rw [parts_len]
  exact this
theorem resLk {fn : Func} {p q : Tmp} (h : fn.results = #[.cell p 112, .tmp q]) (tmps : Array Value) (w : World) (g : Nat) (t : TypeId) (x y z : Value)
    (hp : tmps.getD p undef = .pointer (some ⟨g, 0, none⟩)) (hg : Blk w g t #[x, y, z]) : (results fn tmps).run Tryz.prog w = .ok (.tuple #[.agg #[x, y, z], tmps.getD q undef]) w := by
  rw [results_cell_tmp h, hp]
  have := run_LoadRow (P := Tryz.prog) (t := 112) Tryz.underlying112 rfl (n := 3) (cs := [x, y, z]) (by kernel_rfl) rfl (hg.range_all (cs := [x, y, z]))
  unfold LoadRow at this
  simp only [asAddr, Sem.run_pure, Result.andThen_ok, this]
set_option maxHeartbeats 4000000 in
set_option maxRecDepth 20000 in
theorem link (w : World) (k n : Int) (s : ByteArray) (hs : s.size < 4294967281) (hm : MaxAt w) :
    Calls Tryz.prog 91 #[.agg #[.int .i64 k, .int .i64 n, .string s]] w fun e w' => ∃ a b c, e = .returned (.tuple #[.agg #[.string a, .string b, .string c], .bool (decide (k = 5) && decide (n = 0) && linkB s.data.toList)]) ∧ New w w' := by
  have C := Lib.hid fun W (hW : New w W) => split W s hs (hm.new hW)
  have hz : ∀ W, (zeroValue 112).run Tryz.prog W = .ok (.agg #[.string ⟨#[]⟩, .string ⟨#[]⟩, .string ⟨#[]⟩]) W := fun W => by kernel_rfl
  have hlp := link_parts s
  have hpl := parts_len s
  obtain ⟨xs, hxs⟩ : ∃ xs, partsOf s = xs := ⟨_, rfl⟩
  rw [hxs] at C hlp hpl
  obtain ⟨L, hL⟩ : ∃ L, xs.length = L := ⟨_, rfl⟩
  rw [hL] at C hlp hpl
  have HL := Lib.hid (And.intro hlp hL)
  have hLi : (0 : Int) < L := by omega
  clear hm hlp hpl hxs hL
  by_cases hk : k = 5
  · subst hk
    by_cases hn : n = 0
    · subst hn
      by_cases h3 : L = 3
      · subst h3
        go_enter Tryz.func91, Tryz.ntmps91
        go_wp2_with fail
        have M2 := ((Chg.refl (fun _ => False) w).alloc (.cells #[.int .i64 5, .int .i64 0, .string s] 46)).alloc (.cells #[.string ⟨#[]⟩, .string ⟨#[]⟩, .string ⟨#[]⟩] 112)
        refine (C.out _ M2).mono ?_
        rintro e w1 ⟨rfl, rfl⟩
        obtain ⟨a, b, c, hx⟩ : ∃ a b c, xs = [a, b, c] := by
          have := HL.out.2
          match xs, this with
          | [a, b, c], _ => exact ⟨a, b, c, rfl⟩
        subst hx
        have hblk : Blk ((((w.alloc (.cells #[.int .i64 5, .int .i64 0, .string s] 46)).alloc (.cells #[.string ⟨#[]⟩, .string ⟨#[]⟩, .string ⟨#[]⟩] 112))).alloc (.cells (([a, b, c] : List ByteArray).map Value.string).toArray 9)) (w.heap.size + 2) 9 #[.string a, .string b, .string c] := Blk.new2 _ _ _ _ _
        have CN := Lib.hid fun W (hW : New ((((w.alloc (.cells #[.int .i64 5, .int .i64 0, .string s] 46)).alloc (.cells #[.string ⟨#[]⟩, .string ⟨#[]⟩, .string ⟨#[]⟩] 112))).alloc (.cells (([a, b, c] : List ByteArray).map Value.string).toArray 9)) W) => names W _ 3 3 [a, b, c] ((Reads.of_blk (size := 1) (hblk.chg hW id) rfl).mono fun b hb => by rw [hb]; exact (hblk.chg hW id).lt) (by omega)
        have HB := Lib.hid hblk
        have M3 := M2.alloc (.cells (([a, b, c] : List ByteArray).map Value.string).toArray 9)
        have HM := Lib.hid M3
        clear hblk M2 M3 C
        go_wp2_with fail
        refine (CN.out _ (Chg.refl _ _)).mono ?_
        rintro e w2 ⟨rfl, rfl⟩
        obtain ⟨r, hr⟩ : ∃ r, (([a, b, c] : List ByteArray).all fun x => nameB x.data.toList) = r := ⟨_, rfl⟩
        rw [hr] at HL ⊢
        have hlr : linkB s.data.toList = r := by rw [HL.out.1]; simp
        have HR := Lib.hid hlr
        have hb2 := HB.out
        have ca := hb2.cell 0
        have cb := hb2.cell 1
        have cc := hb2.cell 2
        simp only [List.getElem?_toArray, List.getElem?_cons_zero, List.getElem?_cons_succ] at ca cb cc
        clear hr hlr CN hb2
        cases r
        · go_wp2_with fail
          refine bodyPost_ret (resLk rfl _ _ (w.heap.size + 1) _ _ _ _ rfl ((Blk.new1 _ _ _ _).alloc _)) rfl ⟨_, _, _, by rw [HR.out]; rfl, HM.out⟩
        · go_wp2_with fail
          refine wp_region_tail 10 (by kernel_rfl) (by kernel_rfl) ?_
          simp only [List.take_succ_cons, List.take_zero, List.drop_succ_cons, List.drop_zero]
          repeat still_step
          refine wpStill_nil ?_
          go_wp2_with fail
          exact bodyPost_ret (resLk rfl _ _ (w.heap.size + 1) _ _ _ _ rfl ((Blk.new1 _ _ _ _).alloc _).drew) rfl ⟨_, _, _, by rw [HR.out]; rfl, ((((Chg.refl _ w).alloc _).alloc _).alloc _).drew⟩
      · have h33 : ((L : Int) == 3) = false := by simp; omega
        have h34 : ¬ (L : Int) = 3 := by omega
        have hno : (decide ((5:Int) = 5) && decide ((0:Int) = 0) && linkB s.data.toList) = false := by rw [HL.out.1, decide_eq_false h3]; simp
        have HN := Lib.hid hno
        go_enter Tryz.func91, Tryz.ntmps91
        go_wp2_with fail
        have M2 := ((Chg.refl (fun _ => False) w).alloc (.cells #[.int .i64 5, .int .i64 0, .string s] 46)).alloc (.cells #[.string ⟨#[]⟩, .string ⟨#[]⟩, .string ⟨#[]⟩] 112)
        refine (C.out _ M2).mono ?_
        rintro e w1 ⟨rfl, rfl⟩
        have M3 := M2.alloc (.cells (xs.map Value.string).toArray 9)
        have HM := Lib.hid M3
        clear M2 M3 C
        go_wp2_with fail
        exact bodyPost_ret (resLk rfl _ _ (w.heap.size + 1) _ _ _ _ rfl ((Blk.new1 _ _ _ _).alloc _)) rfl ⟨_, _, _, by rw [HN.out]; rfl, HM.out⟩
    · have hn1 : (n == 0) = false := by simpa using hn
      have hno : (decide ((5:Int) = 5) && decide (n = 0) && linkB s.data.toList) = false := by rw [decide_eq_false hn]; simp
      have HN := Lib.hid hno
      go_enter Tryz.func91, Tryz.ntmps91
      go_wp2_with fail
      have M2 := ((Chg.refl (fun _ => False) w).alloc (.cells #[.int .i64 5, .int .i64 n, .string s] 46)).alloc (.cells #[.string ⟨#[]⟩, .string ⟨#[]⟩, .string ⟨#[]⟩] 112)
      refine (C.out _ M2).mono ?_
      rintro e w1 ⟨rfl, rfl⟩
      have M3 := M2.alloc (.cells (xs.map Value.string).toArray 9)
      have HM := Lib.hid M3
      clear M2 M3 C
      go_wp2_with fail
      exact bodyPost_ret (resLk rfl _ _ (w.heap.size + 1) _ _ _ _ rfl ((Blk.new1 _ _ _ _).alloc _)) rfl ⟨_, _, _, by rw [HN.out]; rfl, HM.out⟩
  · have hk1 : (k == 5) = false := by simpa using hk
    have hno : (decide (k = 5) && decide (n = 0) && linkB s.data.toList) = false := by rw [decide_eq_false hk]; simp
    have HN := Lib.hid hno
    go_enter Tryz.func91, Tryz.ntmps91
    go_wp2_with fail
    have M2 := ((Chg.refl (fun _ => False) w).alloc (.cells #[.int .i64 k, .int .i64 n, .string s] 46)).alloc (.cells #[.string ⟨#[]⟩, .string ⟨#[]⟩, .string ⟨#[]⟩] 112)
    refine (C.out _ M2).mono ?_
    rintro e w1 ⟨rfl, rfl⟩
    have M3 := M2.alloc (.cells (xs.map Value.string).toArray 9)
    have HM := Lib.hid M3
    clear M2 M3 C
    go_wp2_with fail
    exact bodyPost_ret (resLk rfl _ _ (w.heap.size + 1) _ _ _ _ rfl ((Blk.new1 _ _ _ _).alloc _)) rfl ⟨_, _, _, by rw [HN.out]; rfl, HM.out⟩
theorem andNot1 {n : Int} (h : -9223372036854775808 ≤ n ∧ n ≤ 9223372036854775807) : (bits .andNot .i64 n 1 = 0) ↔ (n = 0 ∨ n = 1) := by
  have e0 : bits .andNot .i64 n 1 = IntKind.i64.wrap ((BitVec.ofInt 64 n &&& ~~~BitVec.ofInt 64 ((1 : Nat) : Int)).toNat : Int) := rfl
  rw [e0, BitVec.toNat_and, BitVec.toNat_not, ofInt_u64 1 (by omega), BitVec.toNat_ofInt]
  obtain ⟨m, hm⟩ : ∃ m : Nat, (n % ((2 ^ 64 : Nat) : Int)).toNat = m := ⟨_, rfl⟩
  rw [hm]
  have hm2 : m < 18446744073709551616 := by omega
  have e : 2 ^ 64 - 1 - 1 = 18446744073709551614 := by decide
  rw [e, nat_hi64_1, Nat.mod_eq_of_lt (by omega), IntKind.wrap_i64]
  omega
set_option maxHeartbeats 4000000 in
set_option maxRecDepth 20000 in
theorem right (w : World) (k n : Int) (s : ByteArray) (hs : s.size < 4294967281) (hb : -9223372036854775808 ≤ n ∧ n ≤ 9223372036854775807) (hm : MaxAt w) :
    Calls Tryz.prog 87 #[.agg #[.int .i64 k, .int .i64 n, .string s]] w fun e w' => e = .returned (.bool (rightB k n s.data.toList)) ∧ New w w' := by
  have CL := Lib.hid fun W (hW : New w W) => link W k n s hs (hm.new hW)
  have CP := Lib.hid fun W => plain W s
  have CN := Lib.hid fun W => name W s
  have hz : ∀ W, (zeroValue 112).run Tryz.prog W = .ok (.agg #[.string ⟨#[]⟩, .string ⟨#[]⟩, .string ⟨#[]⟩]) W := fun W => by kernel_rfl
  have m1 := (Chg.refl (fun _ => False) w).alloc (.cells #[.int .i64 k, .int .i64 n, .string s] 46)
  have HM := Lib.hid m1
  have han := andNot1 hb
  have HA := Lib.hid han
  obtain ⟨q, hq⟩ : ∃ q, bits .andNot .i64 n 1 = q := ⟨_, rfl⟩
  have HQ := Lib.hid hq
  rw [hq] at han
  have hemp : s.toList = [] ↔ s.data.toList = [] := by rw [toList_data]
  clear hm m1
  by_cases h0 : k = 0
  · subst h0
    clear CL CP CN han hq hz
    have hr : rightB 0 n s.data.toList = (decide (n = 0) && decide (s.data.toList = [])) := rfl
    rw [hr]
    by_cases hn : n = 0
    · subst hn
      by_cases he : s.toList = []
      · rw [decide_eq_true (hemp.1 he)]
        go_enter Tryz.func87, Tryz.ntmps87
        go_wp2_with fail
        go_ret
        exact ⟨by simp [he], HM.out⟩
      · rw [decide_eq_false (mt hemp.2 he)]
        go_enter Tryz.func87, Tryz.ntmps87
        go_wp2_with fail
        go_ret
        exact ⟨by simp [he], HM.out⟩
    · rw [decide_eq_false hn]
      go_enter Tryz.func87, Tryz.ntmps87
      go_wp2_with fail
      go_ret
      exact ⟨by simp, HM.out⟩
  by_cases h1 : k = 1
  · subst h1
    clear CL CP CN hz
    have hr : rightB 1 n s.data.toList = ((decide (n = 0) || decide (n = 1)) && decide (s.data.toList = [])) := rfl
    rw [hr]
    by_cases hn : n = 0 ∨ n = 1
    · have hq0 : q = 0 := han.2 hn
      have e1 : (decide (n = 0) || decide (n = 1)) = true := by simpa using hn
      rw [e1]
      clear hn han hb e1
      subst hq0
      by_cases he : s.toList = []
      · rw [decide_eq_true (hemp.1 he)]
        go_enter Tryz.func87, Tryz.ntmps87
        go_wp2_with fail
        go_ret
        exact ⟨by simp [he], HM.out⟩
      · rw [decide_eq_false (mt hemp.2 he)]
        go_enter Tryz.func87, Tryz.ntmps87
        go_wp2_with fail
        go_ret
        exact ⟨by simp [he], HM.out⟩
    · have hq0 : ¬ q = 0 := fun e => hn (han.1 e)
      have e1 : (decide (n = 0) || decide (n = 1)) = false := by simpa using hn
      rw [e1]
      clear hn han hb e1
      go_enter Tryz.func87, Tryz.ntmps87
      go_wp2_with fail
      go_ret
      exact ⟨by simp, HM.out⟩
  by_cases h2 : k = 2
  · subst h2
    clear CL CP CN hz han hq
    have hr : rightB 2 n s.data.toList = (decide (-1099511627776 ≤ n) && decide (n ≤ 1099511627776) && decide (s.data.toList = [])) := rfl
    rw [hr]
    by_cases hn1 : -1099511627776 ≤ n
    · by_cases hn2 : n ≤ 1099511627776
      · by_cases he : s.toList = []
        · rw [decide_eq_true (hemp.1 he), decide_eq_true hn1, decide_eq_true hn2]
          go_enter Tryz.func87, Tryz.ntmps87
          go_wp2_with fail
          go_ret
          exact ⟨by simp [he], HM.out⟩
        · rw [decide_eq_false (mt hemp.2 he)]
          go_enter Tryz.func87, Tryz.ntmps87
          go_wp2_with fail
          go_ret
          exact ⟨by simp [he], HM.out⟩
      · rw [decide_eq_false hn2]
        go_enter Tryz.func87, Tryz.ntmps87
        go_wp2_with fail
        go_ret
        exact ⟨by simp, HM.out⟩
    · rw [decide_eq_false hn1]
      go_enter Tryz.func87, Tryz.ntmps87
      go_wp2_with fail
      go_ret
      exact ⟨by simp, HM.out⟩
  by_cases h3 : k = 3
  · subst h3
    clear CL CN hz han hq
    have hr : rightB 3 n s.data.toList = (decide (n = 0) && plainB s.data.toList) := rfl
    rw [hr]
    by_cases hn : n = 0
    · subst hn
      go_enter Tryz.func87, Tryz.ntmps87
      go_wp2_with fail
      refine (CP.out _).mono ?_
      rintro e w1 ⟨rfl, n1⟩
      go_wp2_with fail
      go_ret
      exact ⟨by simp, HM.out.trans n1 fun _ _ => id⟩
    · rw [decide_eq_false hn]
      clear CP
      go_enter Tryz.func87, Tryz.ntmps87
      go_wp2_with fail
      go_ret
      exact ⟨by simp, HM.out⟩
  by_cases h4 : k = 4
  · subst h4
    clear CL CP hz han hq
    have hr : rightB 4 n s.data.toList = (decide (n = 0) && nameB s.data.toList) := rfl
    rw [hr]
    by_cases hn : n = 0
    · subst hn
      go_enter Tryz.func87, Tryz.ntmps87
      go_wp2_with fail
      refine (CN.out _).mono ?_
      rintro e w1 ⟨rfl, rfl⟩
      go_wp2_with fail
      go_ret
      exact ⟨by simp, HM.out⟩
    · rw [decide_eq_false hn]
      clear CN
      go_enter Tryz.func87, Tryz.ntmps87
      go_wp2_with fail
      go_ret
      exact ⟨by simp, HM.out⟩
  have hr : rightB k n s.data.toList = (decide (k = 5) && decide (n = 0) && linkB s.data.toList) := by
    unfold rightB
    rw [if_neg h0, if_neg h1, if_neg h2, if_neg h3, if_neg h4]
    by_cases h5 : k = 5
    · rw [if_pos h5, decide_eq_true h5]; rfl
    · rw [if_neg h5, decide_eq_false h5]; rfl
  rw [hr]
  clear CP CN han hq hr
  go_enter Tryz.func87, Tryz.ntmps87
  go_wp2_with fail
  refine (CL.out _ HM.out).mono ?_
  rintro e w1 ⟨a, b, c, rfl, n1⟩
  have HN := Lib.hid (HM.out.trans n1 fun _ _ => id)
  clear n1 CL
  go_wp2_with fail
  go_ret
  exact ⟨rfl, HN.out.alloc _⟩
end Val
end Go.Proofs.YtkmkpdmjdfbpjaaGreatDoor

/- value.Elem: which elements may be, if strings.Join joins (no condition beyond the sizes). -/
namespace Go.Proofs.YtkmkpdmjdfbpjaaGreatDoor
set_option linter.unusedSimpArgs false
set_option linter.unusedVariables false
open Go.ChangeShapes Go.WideShapes Go.RowKit Go.Deep
namespace Val
/-- what strings.Join gives of texts with nothing between them -/
def JoinC : Prop := ∀ (w : World) (bk n c : Nat) (xs : List ByteArray), Blk w bk 9 (xs.map Value.string).toArray → xs.length = n → 0 < n → n ≤ 4 → n ≤ c → (∀ x ∈ xs, x.size ≤ 1000000) →
  Calls Tryz.prog 89 #[.slice (some ⟨bk, 0, none⟩) n c, .string ⟨#[]⟩] w fun e w' => e = .returned (.string ⟨(Lib.join (xs.map (·.data.toList)) []).toArray⟩) ∧ New w w'
def emptyB (xs : List ByteArray) : Bool := xs.all fun x => decide (x.data.toList = [])
set_option maxHeartbeats 4000000 in
set_option maxRecDepth 20000 in
theorem empty (hJ : JoinC) (w : World) (bk n c : Nat) (xs : List ByteArray) (hb : Blk w bk 9 (xs.map Value.string).toArray) (hl : xs.length = n) (h0 : 0 < n) (hn : n ≤ 4) (hc : n ≤ c) (hs : ∀ x ∈ xs, x.size ≤ 1000000) :
    Calls Tryz.prog 86 #[.slice (some ⟨bk, 0, none⟩) n c] w fun e w' => e = .returned (.bool (emptyB xs)) ∧ New w w' := by
  have C := Lib.hid (hJ w bk n c xs hb hl h0 hn hc hs)
  have he : emptyB xs = decide (Lib.join (xs.map (·.data.toList)) [] = []) := by
    unfold emptyB
    rw [Bool.eq_iff_iff, List.all_eq_true, decide_eq_true_eq, join_nil_iff]
    simp
  rw [he]
  obtain ⟨j, hj⟩ : ∃ j, Lib.join (xs.map (·.data.toList)) [] = j := ⟨_, rfl⟩
  rw [hj] at C ⊢
  clear he hj hb hl hs
  cases j with
  | nil =>
    go_enter Tryz.func86, Tryz.ntmps86
    go_wp2_with fail
    with_reducible refine C.out.mono ?_
    rintro e w1 ⟨rfl, n1⟩
    have H := Lib.hid n1
    clear n1 C
    go_wp2_with fail
    go_ret
    exact ⟨rfl, H.out⟩
  | cons b l =>
    obtain ⟨x, hx⟩ : ∃ x : ByteArray, ⟨(b :: l).toArray⟩ = x := ⟨_, rfl⟩
    have hne : (x.toList == (⟨#[]⟩ : ByteArray).toList) = false := by
      rw [beq_eq_false_iff_ne]
      intro e
      rw [← hx, toList_data, toList_data] at e
      simp at e
    have hne2 : (x == (⟨#[]⟩ : ByteArray)) = false := by
      rw [Go.beq_toListBytes]; exact hne
    have hne3 : ¬ x = ⟨#[]⟩ := fun e => by rw [← hx] at e; simp at e
    have hne4 : ¬ x.toList = [] := fun e => by rw [← hx, toList_data] at e; simp at e
    rw [hx] at C
    clear hx
    go_enter Tryz.func86, Tryz.ntmps86
    go_wp2_with fail
    with_reducible refine C.out.mono ?_
    rintro e w1 ⟨rfl, n1⟩
    have H := Lib.hid n1
    clear n1 C
    go_wp2_with fail
    go_ret
    exact ⟨by simp [hne, hne2, hne3, hne4], H.out⟩
/-- texts that a call lays side by side -/
theorem laid {w : World} (xs : List ByteArray) : Blk (w.alloc (.cells (xs.map Value.string).toArray 9)) w.heap.size 9 (xs.map Value.string).toArray := Blk.new _ _ _
theorem laid_reads {w : World} {g : Nat} {xs : List ByteArray} (h : Blk w g 9 (xs.map Value.string).toArray) (n : Nat) (hl : xs.length = n) : Reads w (fun b => b < w.heap.size) 1 (some ⟨g, 0, none⟩) n (xs.map Value.string) := by
  have := Reads.of_blk (n := n) (size := 1) h (by simp [hl])
  exact this.mono fun b hb => by rw [hb]; exact h.lt
set_option maxHeartbeats 20000000 in
set_option maxRecDepth 20000 in
theorem elem (hJ : JoinC) (w : World) (k : Int) (a b c d : ByteArray) (hs : a.size ≤ 1000000 ∧ b.size ≤ 1000000 ∧ c.size ≤ 1000000 ∧ d.size ≤ 1000000) :
    Calls Tryz.prog 79 #[.agg #[.int .i64 k, .string a, .string b, .string c, .string d]] w fun e w' => e = .returned (.bool (elemB k a.data.toList b.data.toList c.data.toList d.data.toList)) ∧ New w w' := by
  obtain ⟨r, hr⟩ : ∃ r, elemB k a.data.toList b.data.toList c.data.toList d.data.toList = r := ⟨_, rfl⟩
  rw [hr]
  have HS := Lib.hid hs
  clear hs
  by_cases h1 : k = 1
  · subst h1
    have hb2 : Blk ((w.alloc (.cells #[.int .i64 1, .string a, .string b, .string c, .string d] 44)).alloc (.cells #[.string a] 9)) (w.heap.size + 1) 9 ([a].map Value.string).toArray := Blk.new1 w (.cells #[.int .i64 1, .string a, .string b, .string c, .string d] 44) 9 #[.string a]
    have CN := Lib.hid (names _ _ 1 1 [a] (laid_reads hb2 1 rfl) (by decide))
    simp only [List.all_cons, List.all_nil, Bool.and_true] at CN
    have hb3 : Blk (((w.alloc (.cells #[.int .i64 1, .string a, .string b, .string c, .string d] 44)).alloc (.cells #[.string a] 9)).alloc (.cells #[.string b, .string c, .string d] 9)) (w.heap.size + 2) 9 ([b, c, d].map Value.string).toArray := Blk.new2 w (.cells #[.int .i64 1, .string a, .string b, .string c, .string d] 44) (.cells #[.string a] 9) 9 #[.string b, .string c, .string d]
    have CE := Lib.hid (empty hJ _ _ 3 3 [b, c, d] hb3 rfl (by decide) (by decide) (by decide) (by simp [HS.out]))
    unfold emptyB at CE
    simp only [List.all_cons, List.all_nil, Bool.and_true] at CE
    obtain ⟨nb, hnb⟩ : ∃ x, (nameB a.data.toList) = x := ⟨_, rfl⟩
    obtain ⟨eb, heb⟩ : ∃ x, (decide (b.data.toList = []) && (decide (c.data.toList = []) && decide (d.data.toList = []))) = x := ⟨_, rfl⟩
    have hr : r = (nb && eb) := by rw [← hnb, ← heb, ← hr]; unfold elemB; simp only [reduceIte, Int.reduceEq, or_self, or_true, true_or, or_false, false_or]; simp only [Bool.and_assoc, Bool.and_comm, Bool.and_left_comm]
    rw [heb] at CE
    rw [hnb] at CN
    subst hr
    clear hnb hb2 heb hb3
    have N1 := Lib.hid (((Chg.refl (fun _ => False) w).alloc (.cells #[.int .i64 1, .string a, .string b, .string c, .string d] 44)).alloc (.cells #[.string a] 9))
    cases nb
    · go_enter Tryz.func79, Tryz.ntmps79
      go_wp2_with fail
      with_reducible refine CN.out.mono ?_
      rintro e w1 ⟨rfl, rfl⟩
      go_wp2_with fail
      go_ret
      exact ⟨rfl, N1.out⟩
    · go_enter Tryz.func79, Tryz.ntmps79
      go_wp2_with fail
      with_reducible refine CN.out.mono ?_
      rintro e w1 ⟨rfl, rfl⟩
      go_wp2_with fail
      with_reducible refine CE.out.mono ?_
      rintro e w2 ⟨rfl, n2⟩
      have N2 := Lib.hid ((N1.out.alloc (.cells #[.string b, .string c, .string d] 9)).trans n2 fun _ _ => id)
      clear n2 CE
      go_wp2_with fail
      go_ret
      exact ⟨rfl, N2.out⟩
  by_cases h2 : k = 2
  · subst h2
    have hb2 : Blk ((w.alloc (.cells #[.int .i64 2, .string a, .string b, .string c, .string d] 44)).alloc (.cells #[.string a, .string d] 9)) (w.heap.size + 1) 9 ([a, d].map Value.string).toArray := Blk.new1 w (.cells #[.int .i64 2, .string a, .string b, .string c, .string d] 44) 9 #[.string a, .string d]
    have CN := Lib.hid (names _ _ 2 2 [a, d] (laid_reads hb2 2 rfl) (by decide))
    simp only [List.all_cons, List.all_nil, Bool.and_true] at CN
    have hb3 : Blk (((w.alloc (.cells #[.int .i64 2, .string a, .string b, .string c, .string d] 44)).alloc (.cells #[.string a, .string d] 9)).alloc (.cells #[.string b, .string c] 9)) (w.heap.size + 2) 9 ([b, c].map Value.string).toArray := Blk.new2 w (.cells #[.int .i64 2, .string a, .string b, .string c, .string d] 44) (.cells #[.string a, .string d] 9) 9 #[.string b, .string c]
    have CE := Lib.hid (empty hJ _ _ 2 2 [b, c] hb3 rfl (by decide) (by decide) (by decide) (by simp [HS.out]))
    unfold emptyB at CE
    simp only [List.all_cons, List.all_nil, Bool.and_true] at CE
    obtain ⟨nb, hnb⟩ : ∃ x, (nameB a.data.toList && nameB d.data.toList) = x := ⟨_, rfl⟩
    obtain ⟨eb, heb⟩ : ∃ x, (decide (b.data.toList = []) && decide (c.data.toList = [])) = x := ⟨_, rfl⟩
    have hr : r = (nb && eb) := by rw [← hnb, ← heb, ← hr]; unfold elemB; simp only [reduceIte, Int.reduceEq, or_self, or_true, true_or, or_false, false_or]; simp only [Bool.and_assoc, Bool.and_comm, Bool.and_left_comm]
    rw [heb] at CE
    rw [hnb] at CN
    subst hr
    clear hnb hb2 heb hb3
    have N1 := Lib.hid (((Chg.refl (fun _ => False) w).alloc (.cells #[.int .i64 2, .string a, .string b, .string c, .string d] 44)).alloc (.cells #[.string a, .string d] 9))
    cases nb
    · go_enter Tryz.func79, Tryz.ntmps79
      go_wp2_with fail
      with_reducible refine CN.out.mono ?_
      rintro e w1 ⟨rfl, rfl⟩
      go_wp2_with fail
      go_ret
      exact ⟨rfl, N1.out⟩
    · go_enter Tryz.func79, Tryz.ntmps79
      go_wp2_with fail
      with_reducible refine CN.out.mono ?_
      rintro e w1 ⟨rfl, rfl⟩
      go_wp2_with fail
      with_reducible refine CE.out.mono ?_
      rintro e w2 ⟨rfl, n2⟩
      have N2 := Lib.hid ((N1.out.alloc (.cells #[.string b, .string c] 9)).trans n2 fun _ _ => id)
      clear n2 CE
      go_wp2_with fail
      go_ret
      exact ⟨rfl, N2.out⟩
  by_cases h4 : k = 4
  · subst h4
    have hb2 : Blk ((w.alloc (.cells #[.int .i64 4, .string a, .string b, .string c, .string d] 44)).alloc (.cells #[.string a, .string d] 9)) (w.heap.size + 1) 9 ([a, d].map Value.string).toArray := Blk.new1 w (.cells #[.int .i64 4, .string a, .string b, .string c, .string d] 44) 9 #[.string a, .string d]
    have CN := Lib.hid (names _ _ 2 2 [a, d] (laid_reads hb2 2 rfl) (by decide))
    simp only [List.all_cons, List.all_nil, Bool.and_true] at CN
    have hb3 : Blk (((w.alloc (.cells #[.int .i64 4, .string a, .string b, .string c, .string d] 44)).alloc (.cells #[.string a, .string d] 9)).alloc (.cells #[.string b, .string c] 9)) (w.heap.size + 2) 9 ([b, c].map Value.string).toArray := Blk.new2 w (.cells #[.int .i64 4, .string a, .string b, .string c, .string d] 44) (.cells #[.string a, .string d] 9) 9 #[.string b, .string c]
    have CE := Lib.hid (empty hJ _ _ 2 2 [b, c] hb3 rfl (by decide) (by decide) (by decide) (by simp [HS.out]))
    unfold emptyB at CE
    simp only [List.all_cons, List.all_nil, Bool.and_true] at CE
    obtain ⟨nb, hnb⟩ : ∃ x, (nameB a.data.toList && nameB d.data.toList) = x := ⟨_, rfl⟩
    obtain ⟨eb, heb⟩ : ∃ x, (decide (b.data.toList = []) && decide (c.data.toList = [])) = x := ⟨_, rfl⟩
    have hr : r = (nb && eb) := by rw [← hnb, ← heb, ← hr]; unfold elemB; simp only [reduceIte, Int.reduceEq, or_self, or_true, true_or, or_false, false_or]; simp only [Bool.and_assoc, Bool.and_comm, Bool.and_left_comm]
    rw [heb] at CE
    rw [hnb] at CN
    subst hr
    clear hnb hb2 heb hb3
    have N1 := Lib.hid (((Chg.refl (fun _ => False) w).alloc (.cells #[.int .i64 4, .string a, .string b, .string c, .string d] 44)).alloc (.cells #[.string a, .string d] 9))
    cases nb
    · go_enter Tryz.func79, Tryz.ntmps79
      go_wp2_with fail
      with_reducible refine CN.out.mono ?_
      rintro e w1 ⟨rfl, rfl⟩
      go_wp2_with fail
      go_ret
      exact ⟨rfl, N1.out⟩
    · go_enter Tryz.func79, Tryz.ntmps79
      go_wp2_with fail
      with_reducible refine CN.out.mono ?_
      rintro e w1 ⟨rfl, rfl⟩
      go_wp2_with fail
      with_reducible refine CE.out.mono ?_
      rintro e w2 ⟨rfl, n2⟩
      have N2 := Lib.hid ((N1.out.alloc (.cells #[.string b, .string c] 9)).trans n2 fun _ _ => id)
      clear n2 CE
      go_wp2_with fail
      go_ret
      exact ⟨rfl, N2.out⟩
  by_cases h3 : k = 3
  · subst h3
    have hb2 : Blk ((w.alloc (.cells #[.int .i64 3, .string a, .string b, .string c, .string d] 44)).alloc (.cells #[.string a, .string b, .string c] 9)) (w.heap.size + 1) 9 ([a, b, c].map Value.string).toArray := Blk.new1 w (.cells #[.int .i64 3, .string a, .string b, .string c, .string d] 44) 9 #[.string a, .string b, .string c]
    have CN := Lib.hid (names _ _ 3 3 [a, b, c] (laid_reads hb2 3 rfl) (by decide))
    simp only [List.all_cons, List.all_nil, Bool.and_true] at CN
    have hb3 : Blk (((w.alloc (.cells #[.int .i64 3, .string a, .string b, .string c, .string d] 44)).alloc (.cells #[.string a, .string b, .string c] 9)).alloc (.cells #[.string d] 9)) (w.heap.size + 2) 9 ([d].map Value.string).toArray := Blk.new2 w (.cells #[.int .i64 3, .string a, .string b, .string c, .string d] 44) (.cells #[.string a, .string b, .string c] 9) 9 #[.string d]
    have CE := Lib.hid (empty hJ _ _ 1 1 [d] hb3 rfl (by decide) (by decide) (by decide) (by simp [HS.out]))
    unfold emptyB at CE
    simp only [List.all_cons, List.all_nil, Bool.and_true] at CE
    obtain ⟨nb, hnb⟩ : ∃ x, (nameB a.data.toList && (nameB b.data.toList && nameB c.data.toList)) = x := ⟨_, rfl⟩
    obtain ⟨eb, heb⟩ : ∃ x, (decide (d.data.toList = [])) = x := ⟨_, rfl⟩
    have hr : r = (nb && eb) := by rw [← hnb, ← heb, ← hr]; unfold elemB; simp only [reduceIte, Int.reduceEq, or_self, or_true, true_or, or_false, false_or]; simp only [Bool.and_assoc, Bool.and_comm, Bool.and_left_comm]
    rw [heb] at CE
    rw [hnb] at CN
    subst hr
    clear hnb hb2 heb hb3
    have N1 := Lib.hid (((Chg.refl (fun _ => False) w).alloc (.cells #[.int .i64 3, .string a, .string b, .string c, .string d] 44)).alloc (.cells #[.string a, .string b, .string c] 9))
    cases nb
    · go_enter Tryz.func79, Tryz.ntmps79
      go_wp2_with fail
      with_reducible refine CN.out.mono ?_
      rintro e w1 ⟨rfl, rfl⟩
      go_wp2_with fail
      go_ret
      exact ⟨rfl, N1.out⟩
    · go_enter Tryz.func79, Tryz.ntmps79
      go_wp2_with fail
      with_reducible refine CN.out.mono ?_
      rintro e w1 ⟨rfl, rfl⟩
      go_wp2_with fail
      with_reducible refine CE.out.mono ?_
      rintro e w2 ⟨rfl, n2⟩
      have N2 := Lib.hid ((N1.out.alloc (.cells #[.string d] 9)).trans n2 fun _ _ => id)
      clear n2 CE
      go_wp2_with fail
      go_ret
      exact ⟨rfl, N2.out⟩
  by_cases h5 : k = 5
  · subst h5
    have hb2 : Blk ((w.alloc (.cells #[.int .i64 5, .string a, .string b, .string c, .string d] 44)).alloc (.cells #[.string a, .string b, .string c, .string d] 9)) (w.heap.size + 1) 9 ([a, b, c, d].map Value.string).toArray := Blk.new1 w (.cells #[.int .i64 5, .string a, .string b, .string c, .string d] 44) 9 #[.string a, .string b, .string c, .string d]
    have CN := Lib.hid (names _ _ 4 4 [a, b, c, d] (laid_reads hb2 4 rfl) (by decide))
    simp only [List.all_cons, List.all_nil, Bool.and_true] at CN
    obtain ⟨nb, hnb⟩ : ∃ x, (nameB a.data.toList && (nameB b.data.toList && (nameB c.data.toList && nameB d.data.toList))) = x := ⟨_, rfl⟩
    have hr : r = nb := by rw [← hnb, ← hr]; unfold elemB; simp only [reduceIte, Int.reduceEq, or_self, or_true, true_or, or_false, false_or]; simp only [Bool.and_assoc, Bool.and_comm, Bool.and_left_comm]
    rw [hnb] at CN
    subst hr
    clear hnb hb2
    have N1 := Lib.hid (((Chg.refl (fun _ => False) w).alloc (.cells #[.int .i64 5, .string a, .string b, .string c, .string d] 44)).alloc (.cells #[.string a, .string b, .string c, .string d] 9))
    go_enter Tryz.func79, Tryz.ntmps79
    go_wp2_with fail
    with_reducible refine CN.out.mono ?_
    rintro e w1 ⟨rfl, rfl⟩
    go_wp2_with fail
    go_ret
    exact ⟨rfl, N1.out⟩
  have hr : r = false := by rw [← hr]; unfold elemB; rw [if_neg h1, if_neg (by omega), if_neg h3, if_neg h5]
  subst hr
  have b1 : (k == 1) = false := by simpa using h1
  have b2 : (k == 2) = false := by simpa using h2
  have b3 : (k == 3) = false := by simpa using h3
  have b4 : (k == 4) = false := by simpa using h4
  have b5 : (k == 5) = false := by simpa using h5
  have N1 := Lib.hid ((Chg.refl (fun _ => False) w).alloc (.cells #[.int .i64 k, .string a, .string b, .string c, .string d] 44))
  go_enter Tryz.func79, Tryz.ntmps79
  go_wp2_with fail
  go_ret
  exact ⟨rfl, N1.out⟩
end Val
end Go.Proofs.YtkmkpdmjdfbpjaaGreatDoor

/- Which changes may be: kept, scalar, may, Change (no condition beyond the sizes, and that MaxLen holds a number). -/
namespace Go.Proofs.YtkmkpdmjdfbpjaaGreatDoor
set_option linter.unusedSimpArgs false
set_option linter.unusedVariables false
open Go.ChangeShapes Go.WideShapes Go.RowKit Go.Deep
namespace Evt
open Val (elemB rightB JoinC)
theorem loadOnly0 (p : Value) : Instr.loadAt 44 p = LoadRowV 44 p := rfl
attribute [local go_sem ↓] loadOnly0
theorem loadOnly1 (p : Value) : Instr.loadAt 46 p = LoadRowV 46 p := rfl
attribute [local go_sem ↓] loadOnly1
theorem loadOnly2 (p : Value) : Instr.loadAt 78 p = LoadRowV 78 p := rfl
attribute [local go_sem ↓] loadOnly2
abbrev elemV (k : Int) (a b c d : ByteArray) : Value := .agg #[.int .i64 k, .string a, .string b, .string c, .string d]
abbrev valV (k n : Int) (t : ByteArray) : Value := .agg #[.int .i64 k, .int .i64 n, .string t]
abbrev chV (op k : Int) (a b c d : ByteArray) (vk vn : Int) (vt : ByteArray) : Value := .agg #[.int .i64 op, .int .i64 k, .string a, .string b, .string c, .string d, .int .i64 vk, .int .i64 vn, .string vt]
def keptB (k : Int) : Bool := decide (k = 4) || decide (k = 5)
def scalarB (k n : Int) (t : List UInt8) : Bool := decide (1 ≤ k) && decide (k ≤ 3) && rightB k n t
def noneB (k n : Int) (t : List UInt8) : Bool := decide (k = 0) && decide (n = 0) && decide (t = [])
def changeB (op k : Int) (a b c d : List UInt8) (vk vn : Int) (vt : List UInt8) : Bool :=
  elemB k a b c d && (if op = 1 ∨ op = 2 then noneB vk vn vt && !keptB k else if op = 3 then keptB k && scalarB vk vn vt else if op = 4 then noneB vk vn vt && keptB k else false)
theorem kept (w : World) (k : Int) (a b c d : ByteArray) : Calls Tryz.prog 80 #[elemV k a b c d] w fun e w' => e = .returned (.bool (keptB k)) ∧ New w w' := by
  have N1 := Lib.hid ((Chg.refl (fun _ => False) w).alloc (.cells #[.int .i64 k, .string a, .string b, .string c, .string d] 44))
  by_cases h4 : k = 4
  · subst h4
    go_enter Tryz.func80, Tryz.ntmps80
    go_wp2_with fail
    go_ret
    exact ⟨rfl, N1.out⟩
  · have b4 : (k == 4) = false := by simpa using h4
    by_cases h5 : k = 5
    · subst h5
      go_enter Tryz.func80, Tryz.ntmps80
      go_wp2_with fail
      go_ret
      exact ⟨rfl, N1.out⟩
    · have b5 : (k == 5) = false := by simpa using h5
      rw [show keptB k = false by unfold keptB; simp [h4, h5]]
      go_enter Tryz.func80, Tryz.ntmps80
      go_wp2_with fail
      go_ret
      exact ⟨by simp [h5], N1.out⟩
theorem blk_val {w : World} {g : Nat} {k n : Int} {t : ByteArray} (h : Blk w g 46 #[.int .i64 k, .int .i64 n, .string t]) : (LoadRow 46 ⟨g, 0, none⟩).run Tryz.prog w = .ok (valV k n t) w :=
  run_LoadRow (P := Tryz.prog) (n := 3) (cs := [.int .i64 k, .int .i64 n, .string t]) Tryz.underlying46 rfl (by kernel_rfl) rfl (Blk.range_all (cs := [_, _, _]) h)
set_option maxHeartbeats 4000000 in
theorem scalar (w : World) (k n : Int) (t : ByteArray) (hs : t.size < 4294967281) (hb : -9223372036854775808 ≤ n ∧ n ≤ 9223372036854775807) (hm : Val.MaxAt w) :
    Calls Tryz.prog 81 #[valV k n t] w fun e w' => e = .returned (.bool (scalarB k n t.data.toList)) ∧ New w w' := by
  have n1 := (Chg.refl (fun _ => False) w).alloc (.cells #[.int .i64 k, .int .i64 n, .string t] 46)
  have hl := blk_val (Blk.new w 46 #[.int .i64 k, .int .i64 n, .string t])
  have N1 := Lib.hid n1
  have CR := Lib.hid (Val.right _ k n t hs hb (hm.new n1))
  obtain ⟨r, hr⟩ : ∃ r, rightB k n t.data.toList = r := ⟨_, rfl⟩
  rw [hr] at CR
  have HS := Lib.hid (show scalarB k n t.data.toList = (decide (1 ≤ k) && decide (k ≤ 3) && r) by unfold scalarB; rw [hr])
  rw [HS.out]
  clear hr hs hb hm n1
  by_cases h1 : 1 ≤ k
  · by_cases h3 : k ≤ 3
    · rw [show (decide (1 ≤ k) && decide (k ≤ 3) && r) = r by simp [h1, h3]]
      go_enter Tryz.func81, Tryz.ntmps81
      go_wp2_with fail
      with_reducible refine CR.out.mono ?_
      rintro e w2 ⟨rfl, n2⟩
      have N2 := Lib.hid (N1.out.trans n2 fun _ _ => id)
      clear n2
      go_wp2_with fail
      go_ret
      exact ⟨rfl, N2.out⟩
    · rw [show (decide (1 ≤ k) && decide (k ≤ 3) && r) = false by simp [h3]]
      go_enter Tryz.func81, Tryz.ntmps81
      go_wp2_with fail
      go_ret
      exact ⟨by simp [h3], N1.out⟩
  · rw [show (decide (1 ≤ k) && decide (k ≤ 3) && r) = false by simp [h1]]
    go_enter Tryz.func81, Tryz.ntmps81
    go_wp2_with fail
    go_ret
    exact ⟨by simp [h1], N1.out⟩
theorem eql_none (k n : Int) (t : ByteArray) (W : World) : (binOp .eql 46 (.agg #[.int .i64 k, .int .i64 n, .string t]) (.agg #[.int .i64 0, .int .i64 0, .string ⟨#[]⟩])).run Tryz.prog W = .ok (.bool (noneB k n t.data.toList)) W := by
  unfold noneB
  by_cases h1 : k = 0
  · subst h1
    by_cases h2 : n = 0
    · subst h2
      by_cases h3 : t.data.toList = []
      · obtain rfl : t = ⟨#[]⟩ := by
          apply ByteArray.ext
          exact Array.toList_inj.1 (by rw [h3])
        go_simp
      · have h4 : (t.toList == (⟨#[]⟩ : ByteArray).toList) = false := by
          rw [beq_eq_false_iff_ne, Val.toList_data, Val.toList_data]
          exact h3
        have h5 : ¬ t.toList = [] := by rw [Val.toList_data]; exact h3
        go_simp
    · have h4 : (n == 0) = false := by simpa using h2
      go_simp
  · have h4 : (k == 0) = false := by simpa using h1
    go_simp
theorem blk_ch {w : World} {g : Nat} {op k : Int} {a b c d : ByteArray} {vk vn : Int} {vt : ByteArray} (h : Blk w g 78 #[.int .i64 op, .int .i64 k, .string a, .string b, .string c, .string d, .int .i64 vk, .int .i64 vn, .string vt]) :
    (LoadRow 44 ⟨g, 1, none⟩).run Tryz.prog w = .ok (elemV k a b c d) w ∧ (LoadRow 46 ⟨g, 6, none⟩).run Tryz.prog w = .ok (valV vk vn vt) w ∧ w.cell? ⟨g, 0, none⟩ = some (.int .i64 op) ∧ (LoadRow 78 ⟨g, 0, none⟩).run Tryz.prog w = .ok (chV op k a b c d vk vn vt) w := by
  refine ⟨?_, ?_, h.cell 0, ?_⟩
  · exact run_LoadRow (P := Tryz.prog) (n := 5) (cs := [.int .i64 k, .string a, .string b, .string c, .string d]) Tryz.underlying44 rfl (by kernel_rfl) rfl (Blk.range (cs := [_, _, _, _, _, _, _, _, _]) h 1 _ fun j v hj => by
      match j, hj with
      | 0, hj => simpa using hj
      | 1, hj => simpa using hj
      | 2, hj => simpa using hj
      | 3, hj => simpa using hj
      | 4, hj => simpa using hj)
  · exact run_LoadRow (P := Tryz.prog) (n := 3) (cs := [.int .i64 vk, .int .i64 vn, .string vt]) Tryz.underlying46 rfl (by kernel_rfl) rfl (Blk.range (cs := [_, _, _, _, _, _, _, _, _]) h 6 _ fun j v hj => by
      match j, hj with
      | 0, hj => simpa using hj
      | 1, hj => simpa using hj
      | 2, hj => simpa using hj)
  · exact run_LoadRow (P := Tryz.prog) (n := 9) (cs := [.int .i64 op, .int .i64 k, .string a, .string b, .string c, .string d, .int .i64 vk, .int .i64 vn, .string vt]) Tryz.underlying78 rfl (by kernel_rfl) rfl (Blk.range_all (cs := [_, _, _, _, _, _, _, _, _]) h)
set_option maxHeartbeats 20000000 in
set_option maxRecDepth 20000 in
theorem may (hJ : JoinC) (w : World) (op k : Int) (a b c d : ByteArray) (vk vn : Int) (vt : ByteArray) (hs : a.size ≤ 1000000 ∧ b.size ≤ 1000000 ∧ c.size ≤ 1000000 ∧ d.size ≤ 1000000) (ht : vt.size ≤ 1000000) (hb : -9223372036854775808 ≤ vn ∧ vn ≤ 9223372036854775807) (hm : Val.MaxAt w) :
    Calls Tryz.prog 67 #[chV op k a b c d vk vn vt] w fun e w' => e = .returned (.bool (changeB op k a.data.toList b.data.toList c.data.toList d.data.toList vk vn vt.data.toList)) ∧ New w w' := by
  have n1 := (Chg.refl (fun _ => False) w).alloc (.cells #[.int .i64 op, .int .i64 k, .string a, .string b, .string c, .string d, .int .i64 vk, .int .i64 vn, .string vt] 78)
  have B1 := Blk.new w 78 #[.int .i64 op, .int .i64 k, .string a, .string b, .string c, .string d, .int .i64 vk, .int .i64 vn, .string vt]
  have l1 := (blk_ch B1).1
  have CE := Lib.hid (Val.elem hJ (w.alloc (.cells #[.int .i64 op, .int .i64 k, .string a, .string b, .string c, .string d, .int .i64 vk, .int .i64 vn, .string vt] 78)) k a b c d hs)
  have CK := Lib.hid fun W => kept W k a b c d
  have CSc := Lib.hid fun W (hW : New w W) => scalar W vk vn vt (by omega) hb (hm.new hW)
  have hz : ∀ W, (zeroValue 46).run Tryz.prog W = .ok (.agg #[.int .i64 0, .int .i64 0, .string ⟨#[]⟩]) W := fun W => by kernel_rfl
  have hq := eql_none vk vn vt
  obtain ⟨eb, heb⟩ : ∃ x, elemB k a.data.toList b.data.toList c.data.toList d.data.toList = x := ⟨_, rfl⟩
  obtain ⟨kb, hkb⟩ : ∃ x, keptB k = x := ⟨_, rfl⟩
  obtain ⟨sb, hsb⟩ : ∃ x, scalarB vk vn vt.data.toList = x := ⟨_, rfl⟩
  obtain ⟨nb, hnb⟩ : ∃ x, noneB vk vn vt.data.toList = x := ⟨_, rfl⟩
  have HR := Lib.hid (show changeB op k a.data.toList b.data.toList c.data.toList d.data.toList vk vn vt.data.toList = (eb && (if op = 1 ∨ op = 2 then nb && !kb else if op = 3 then kb && sb else if op = 4 then nb && kb else false)) by unfold changeB; rw [heb, hkb, hsb, hnb])
  rw [HR.out]
  rw [heb] at CE
  rw [hkb] at CK
  rw [hsb] at CSc
  rw [hnb] at hq
  have N1 := Lib.hid n1
  have HB := Lib.hid B1
  have hg1 := B1.lt
  clear n1 B1 heb hkb hsb hnb hs ht hb hm
  cases eb
  · rw [Bool.false_and]
    go_enter Tryz.func67, Tryz.ntmps67
    go_wp2_with fail
    with_reducible refine CE.out.mono ?_
    rintro e w2 ⟨rfl, n2⟩
    have N2 := Lib.hid (N1.out.trans n2 fun _ _ => id)
    clear n2
    go_wp2_with fail
    go_ret
    exact ⟨rfl, N2.out⟩
  rw [Bool.true_and]
  obtain ⟨r, hr⟩ : ∃ r, (if op = 1 ∨ op = 2 then nb && !kb else if op = 3 then kb && sb else if op = 4 then nb && kb else false) = r := ⟨_, rfl⟩
  rw [hr]
  have HRr := Lib.hid hr
  clear hr HR
  go_enter Tryz.func67, Tryz.ntmps67
  go_wp2_with fail
  with_reducible refine CE.out.mono ?_
  rintro e w2 ⟨rfl, n2⟩
  have HB2 := Lib.hid (HB.out.chg n2 id)
  have N2 := Lib.hid (N1.out.trans n2 fun _ _ => id)
  have l2 := (blk_ch HB2.out).1
  have m2 := (blk_ch HB2.out).2.1
  have c2 := (blk_ch HB2.out).2.2.1
  have g2 := HB2.out.lt
  clear n2 l1 CE
  by_cases h1 : op = 1
  · subst h1
    have hr := HRr.out
    rw [if_pos (by decide)] at hr
    have HX := Lib.hid hr
    clear hr HRr
    cases nb
    · go_wp2_with fail
      go_ret
      exact ⟨by rw [← HX.out] <;> first | rfl | simp, N2.out⟩
    · go_wp2_with fail
      with_reducible refine (CK.out _).mono ?_
      rintro e w3 ⟨rfl, n3⟩
      have HB3 := Lib.hid (HB2.out.chg n3 id)
      have N3 := Lib.hid (N2.out.trans n3 fun _ _ => id)
      clear n3
      go_wp2_with fail
      go_ret
      exact ⟨by rw [← HX.out] <;> first | rfl | simp, N3.out⟩
  by_cases h2 : op = 2
  · subst h2
    have hr := HRr.out
    rw [if_pos (by decide)] at hr
    have HX := Lib.hid hr
    clear hr HRr
    cases nb
    · go_wp2_with fail
      go_ret
      exact ⟨by rw [← HX.out] <;> first | rfl | simp, N2.out⟩
    · go_wp2_with fail
      with_reducible refine (CK.out _).mono ?_
      rintro e w3 ⟨rfl, n3⟩
      have HB3 := Lib.hid (HB2.out.chg n3 id)
      have N3 := Lib.hid (N2.out.trans n3 fun _ _ => id)
      clear n3
      go_wp2_with fail
      go_ret
      exact ⟨by rw [← HX.out] <;> first | rfl | simp, N3.out⟩
  by_cases h3 : op = 3
  · subst h3
    have hr := HRr.out
    rw [if_neg (by decide), if_pos rfl] at hr
    have HX := Lib.hid hr
    clear hr HRr
    go_wp2_with fail
    with_reducible refine (CK.out _).mono ?_
    rintro e w3 ⟨rfl, n3⟩
    have HB3 := Lib.hid (HB2.out.chg n3 id)
    have N3 := Lib.hid (N2.out.trans n3 fun _ _ => id)
    clear n3
    cases kb
    · go_wp2_with fail
      go_ret
      exact ⟨by rw [← HX.out] <;> first | rfl | simp, N3.out⟩
    · have m3 := (blk_ch HB3.out).2.1
      have C4 := Lib.hid (CSc.out w3 N3.out)
      go_wp2_with fail
      with_reducible refine C4.out.mono ?_
      rintro e w4 ⟨rfl, n4⟩
      have N3 := Lib.hid (N3.out.trans n4 fun _ _ => id)
      clear n4
      go_wp2_with fail
      go_ret
      exact ⟨by rw [← HX.out] <;> first | rfl | simp, N3.out⟩
  by_cases h4 : op = 4
  · subst h4
    have hr := HRr.out
    rw [if_neg (by decide), if_neg (by decide), if_pos rfl] at hr
    have HX := Lib.hid hr
    clear hr HRr
    cases nb
    · go_wp2_with fail
      go_ret
      exact ⟨by rw [← HX.out] <;> first | rfl | simp, N2.out⟩
    · go_wp2_with fail
      with_reducible refine (CK.out _).mono ?_
      rintro e w3 ⟨rfl, n3⟩
      have HB3 := Lib.hid (HB2.out.chg n3 id)
      have N3 := Lib.hid (N2.out.trans n3 fun _ _ => id)
      clear n3
      go_wp2_with fail
      go_ret
      exact ⟨by rw [← HX.out] <;> first | rfl | simp, N3.out⟩
  have hr := HRr.out
  rw [if_neg (by omega), if_neg h3, if_neg h4] at hr
  have HX := Lib.hid hr
  have b1 : (op == 1) = false := by simpa using h1
  have b2 : (op == 2) = false := by simpa using h2
  have b3 : (op == 3) = false := by simpa using h3
  have b4 : (op == 4) = false := by simpa using h4
  clear hr HRr
  go_wp2_with fail
  go_ret
  exact ⟨by rw [← HX.out] <;> first | rfl | simp, N2.out⟩
set_option maxHeartbeats 4000000 in
set_option maxRecDepth 20000 in
theorem change (hJ : JoinC) (w : World) (op k : Int) (a b c d : ByteArray) (vk vn : Int) (vt : ByteArray) (hs : a.size ≤ 1000000 ∧ b.size ≤ 1000000 ∧ c.size ≤ 1000000 ∧ d.size ≤ 1000000) (ht : vt.size ≤ 1000000) (hb : -9223372036854775808 ≤ vn ∧ vn ≤ 9223372036854775807) (hm : Val.MaxAt w) :
    Calls Tryz.prog 45 #[chV op k a b c d vk vn vt] w fun e w' => e = .returned (.int .i64 (if changeB op k a.data.toList b.data.toList c.data.toList d.data.toList vk vn vt.data.toList = true then 0 else 1)) ∧ New w w' := by
  have n1 := (Chg.refl (fun _ => False) w).alloc (.cells #[.int .i64 op, .int .i64 k, .string a, .string b, .string c, .string d, .int .i64 vk, .int .i64 vn, .string vt] 78)
  have l1 := (blk_ch (Blk.new w 78 #[.int .i64 op, .int .i64 k, .string a, .string b, .string c, .string d, .int .i64 vk, .int .i64 vn, .string vt])).2.2.2
  have C := Lib.hid (may hJ _ op k a b c d vk vn vt hs ht hb (hm.new n1))
  obtain ⟨r, hr⟩ : ∃ r, changeB op k a.data.toList b.data.toList c.data.toList d.data.toList vk vn vt.data.toList = r := ⟨_, rfl⟩
  rw [hr] at C ⊢
  have N1 := Lib.hid n1
  clear hr hs ht hb hm n1
  cases r
  · go_enter Tryz.func45, Tryz.ntmps45
    go_wp2_with fail
    with_reducible refine C.out.mono ?_
    rintro e w2 ⟨rfl, n2⟩
    have N2 := Lib.hid (N1.out.trans n2 fun _ _ => id)
    clear n2
    go_wp2_with fail
    go_ret
    exact ⟨rfl, N2.out⟩
  · go_enter Tryz.func45, Tryz.ntmps45
    go_wp2_with fail
    with_reducible refine C.out.mono ?_
    rintro e w2 ⟨rfl, n2⟩
    have N2 := Lib.hid (N1.out.trans n2 fun _ _ => id)
    clear n2
    go_wp2_with fail
    go_ret
    exact ⟨rfl, N2.out⟩
end Evt
end Go.Proofs.YtkmkpdmjdfbpjaaGreatDoor
