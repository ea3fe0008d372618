/-
  Texts of printed signs, rows of names, edges' texts, values: what the program's calls compute (no condition but that MaxLen holds a number).
-/
import Derived.Test.YtjkjbbmbfobdaaaDoorVal
import Derived.Shelf.Strings.Split
namespace Go.Proofs.YtjkjbbmbfobdaaaDoor
open Go.ChangeShapes Go.WideShapes Go.RowKit Go.Deep
def Spl.lays_ren : Go.Shelf.Ren := ⟨fun | 146 => 58 | 221 => 61 | 268 => 64 | 138 => 65 | 143 => 66 | 195 => 67 | 197 => 68 | 218 => 69 | 219 => 70 | 260 => 71 | 217 => 72 | 225 => 73 | 224 => 74 | 267 => 75 | 266 => 76 | 314 => 77 | n => n, fun | 9 => 9 | 31 => 56 | 3 => 3 | 4 => 4 | 0 => 0 | 105 => 104 | 21 => 21 | 5 => 5 | 46 => 68 | 119 => 107 | 139 => 110 | 138 => 109 | 146 => 112 | 51 => 111 | n => n, fun | 1 => 0 | 3 => 1 | 4 => 2 | n => n⟩
theorem Spl.lays : Go.Proofs.Lays.n146 Tryd.prog Spl.lays_ren := {
  mixed := by kernel_rfl
  f138 := Tryd.func65.trans (congrArg some (by kernel_rfl))
  f143 := Tryd.func66.trans (congrArg some (by kernel_rfl))
  f146 := Tryd.func58.trans (congrArg some (by kernel_rfl))
  f195 := Tryd.func67.trans (congrArg some (by kernel_rfl))
  f197 := Tryd.func68.trans (congrArg some (by kernel_rfl))
  f217 := Tryd.func72.trans (congrArg some (by kernel_rfl))
  f218 := Tryd.func69.trans (congrArg some (by kernel_rfl))
  f219 := Tryd.func70.trans (congrArg some (by kernel_rfl))
  f221 := Tryd.func61.trans (congrArg some (by kernel_rfl))
  f224 := Tryd.func74.trans (congrArg some (by kernel_rfl))
  f225 := Tryd.func73.trans (congrArg some (by kernel_rfl))
  f260 := Tryd.func71.trans (congrArg some (by kernel_rfl))
  f266 := Tryd.func76.trans (congrArg some (by kernel_rfl))
  f267 := Tryd.func75.trans (congrArg some (by kernel_rfl))
  f268 := Tryd.func64.trans (congrArg some (by kernel_rfl))
  f314 := Tryd.func77.trans (congrArg some (by kernel_rfl))
  t0 := Tryd.underlying0
  a0 := Tryd.isAgg0
  z0 := Tryd.sizeOf0
  v0 := Tryd.zeroValue0
  t3 := Tryd.underlying3
  a3 := Tryd.isAgg3
  z3 := Tryd.sizeOf3
  v3 := Tryd.zeroValue3
  t4 := Tryd.underlying4
  a4 := Tryd.isAgg4
  z4 := Tryd.sizeOf4
  v4 := Tryd.zeroValue4
  t5 := Tryd.underlying5
  a5 := Tryd.isAgg5
  z5 := Tryd.sizeOf5
  v5 := Tryd.zeroValue5
  t9 := Tryd.underlying9
  a9 := Tryd.isAgg9
  z9 := Tryd.sizeOf9
  v9 := Tryd.zeroValue9
  t21 := Tryd.underlying21
  a21 := Tryd.isAgg21
  z21 := Tryd.sizeOf21
  v21 := Tryd.zeroValue21
  t31 := Tryd.underlying56
  a31 := Tryd.isAgg56
  z31 := Tryd.sizeOf56
  v31 := Tryd.zeroValue56
  t46 := Tryd.underlying68
  a46 := Tryd.isAgg68
  z46 := Tryd.sizeOf68
  v46 := Tryd.zeroValue68
  t51 := Tryd.underlying111
  a51 := Tryd.isAgg111
  z51 := Tryd.sizeOf111
  v51 := Tryd.zeroValue111
  t105 := Tryd.underlying104
  a105 := Tryd.isAgg104
  z105 := Tryd.sizeOf104
  v105 := Tryd.zeroValue104
  t119 := Tryd.underlying107
  a119 := Tryd.isAgg107
  z119 := Tryd.sizeOf107
  t138 := Tryd.underlying109
  a138 := Tryd.isAgg109
  z138 := Tryd.sizeOf109
  v138 := Tryd.zeroValue109
  t139 := Tryd.underlying110
  a139 := Tryd.isAgg110
  z139 := Tryd.sizeOf110
  v139 := Tryd.zeroValue110
  t146 := Tryd.underlying112
  a146 := Tryd.isAgg112
  z146 := Tryd.sizeOf112
  v146 := Tryd.zeroValue112
  g1 := by kernel_rfl
  g3 := by kernel_rfl
  g4 := by kernel_rfl }
namespace Val
theorem New.iter {a w : World} (h : New a w) (s : ByteArray) (p : Nat) : New a (w.iter s p) := h.alloc _
set_option maxHeartbeats 1000000 in
theorem plain (w : World) (s : ByteArray) : Calls Tryd.prog 51 #[.string s] w fun e w' => e = .returned (.bool (plainB s.data.toList)) ∧ New w w' := by
  obtain ⟨n, hn⟩ : ∃ n, s.size = n := ⟨_, rfl⟩
  have hlen := size_list s
  rw [hn] at hlen
  go_enter Tryd.func51, Tryd.ntmps51
  go_wp2_with fail
  go_loopw [4] (fun _ wr => ∃ i : Nat, i ≤ n ∧ wr = w.iter s i ∧ (s.data.toList.take i).all signB = true) (fun _ wr => n - wr.iterPos w.heap.size)
  case atStart => exact ⟨0, by omega, rfl, by simp⟩
  case round =>
    obtain ⟨i, hi, rfl, hall⟩ := hrel
    by_cases hlt : i < n
    · have his : i < s.size := by omega
      have hmem : s[i]'his ∈ s.data.toList := List.mem_of_getElem? (at_list his)
      have htk : (s.data.toList.take (i + 1)).all signB = ((s.data.toList.take i).all signB && signB (s[i]'his)) := by
        rw [List.take_add_one, at_list his, List.all_append]
        simp
      by_cases hb : (s[i]'his).toNat < 128
      · have hnx := fun ty => run_next_any (P := Tryd.prog) w s i ty his
        rw [decode_ascii s i his hb] at hnx
        simp only [] at hnx
        obtain ⟨b, hbe⟩ : ∃ b, s[i]'his = b := ⟨_, rfl⟩
        rw [hbe] at hnx hmem htk hb
        by_cases h1 : (b.toNat : Int) < 32
        · have hf : s.data.toList.all signB = false := by
            rw [List.all_eq_false]
            refine ⟨b, hmem, ?_⟩
            unfold signB
            rw [decide_eq_false (show ¬ 32 ≤ b.toNat by omega)]
            simp
          have HF := Lib.hid hf
          obtain ⟨x, hx⟩ : ∃ x, b.toNat = x := ⟨_, rfl⟩
          rw [hx] at hnx h1
          clear htk hmem hall hf hbe hb hx
          go_wp2_with fail
          go_ret
          exact ⟨by rw [plainB, HF.out]; rfl, (Chg.refl _ w).alloc _⟩
        · by_cases h2 : (126 : Int) < (b.toNat : Int)
          · have hf : s.data.toList.all signB = false := by
              rw [List.all_eq_false]
              refine ⟨b, hmem, ?_⟩
              unfold signB
              rw [decide_eq_false (show ¬ b.toNat ≤ 126 by omega)]
              simp
            have HF := Lib.hid hf
            obtain ⟨x, hx⟩ : ∃ x, b.toNat = x := ⟨_, rfl⟩
            rw [hx] at hnx h1 h2
            clear htk hmem hall hf hbe hb hx
            go_wp2_with fail
            go_ret
            exact ⟨by rw [plainB, HF.out]; rfl, (Chg.refl _ w).alloc _⟩
          · have ht : (s.data.toList.take (i + 1)).all signB = true := by
              rw [htk, hall]
              unfold signB
              rw [decide_eq_true (show 32 ≤ b.toNat by omega), decide_eq_true (show b.toNat ≤ 126 by omega)]
              rfl
            have HT := Lib.hid ht
            obtain ⟨x, hx⟩ : ∃ x, b.toNat = x := ⟨_, rfl⟩
            rw [hx] at hnx h1 h2
            clear htk hmem hall ht hbe hb hx
            go_wp2_with fail
            go_roundw
            case rel => exact ⟨i + 1, by omega, by first | trivial | rfl, HT.out⟩
            case measure => simp; omega
      · have hnx := fun ty => run_next_any (P := Tryd.prog) w s i ty his
        have hh := decode_high s i his (by omega)
        obtain ⟨c, hc⟩ : ∃ c, (Utf8.decode s i).1 = c := ⟨_, rfl⟩
        rw [hc] at hnx hh
        have hf : s.data.toList.all signB = false := by
          rw [List.all_eq_false]
          refine ⟨_, hmem, ?_⟩
          unfold signB
          rw [decide_eq_false (show ¬ (s[i]'his).toNat ≤ 126 by omega)]
          simp
        have HF := Lib.hid hf
        have h1 : ¬ (c : Int) < 32 := by omega
        have h2 : (126 : Int) < (c : Int) := by omega
        obtain ⟨d, hd⟩ : ∃ d, (Utf8.decode s i).2 = d := ⟨_, rfl⟩
        rw [hd] at hnx
        clear htk hmem hall hf hb hh hc hd
        go_wp2_with fail
        go_ret
        exact ⟨by rw [plainB, HF.out]; rfl, (Chg.refl _ w).alloc _⟩
    · obtain rfl : n = i := by omega
      have hnx := fun ty => run_next_end (P := Tryd.prog) w s n ty (by omega)
      rw [List.take_of_length_le (by rw [hlen]; exact Nat.le_refl _)] at hall
      have HF := Lib.hid hall
      clear hall
      go_wp2_with fail
      go_ret
      refine ⟨?_, (Chg.refl _ w).alloc _⟩
      rw [plainB, HF.out, hlen, Bool.true_and]
      by_cases h : n ≤ 64
      · have h2 : (n : Int) ≤ 64 := by omega
        simp [h, h2]
      · have h2 : ¬ (n : Int) ≤ 64 := by omega
        simp [h, h2]
set_option maxHeartbeats 1000000 in
theorem names (w : World) (A : Option Addr) (n c : Nat) (xs : List ByteArray) (hr : Reads w (fun b => b < w.heap.size) 1 A n (xs.map Value.string)) (hn : n ≤ 100) :
    Calls Tryd.prog 44 #[.slice A n c] w fun e w' => e = .returned (.bool (xs.all fun x => nameB x.data.toList)) ∧ w' = w := by
  have hl : xs.length = n := by simpa using hr.len
  have HR := Lib.hid (And.intro hr hl)
  clear hr hl
  go_enter Tryd.func44, Tryd.ntmps44
  go_wp2_with fail
  go_loopw [4, 7] (fun _ iv wr => ∃ i : Nat, i ≤ n ∧ iv = .int .i64 i ∧ wr = w ∧ ((xs.take i).all fun x => nameB x.data.toList) = true) (fun _ iv _ => n - (intOf iv).toNat)
  case atStart => exact ⟨0, by omega, by go_num, rfl, by simp⟩
  case round =>
    obtain ⟨i, hi, rfl, rfl, hall⟩ := hrel
    by_cases hlt : i < n
    · have hix : i < xs.length := by have := HR.out.2; omega
      obtain ⟨ad, u, rfl, _, hu, hc⟩ := HR.out.1.at_ hlt
      obtain ⟨x, hx⟩ : ∃ x, xs[i]? = some x := ⟨_, List.getElem?_eq_getElem hix⟩
      rw [List.getElem?_map, hx, Option.map_some] at hu
      injection hu with hu
      subst hu
      have C := Lib.hid (name wr x)
      have htk : ((xs.take (i + 1)).all fun x => nameB x.data.toList) = (((xs.take i).all fun x => nameB x.data.toList) && nameB x.data.toList) := by
        rw [List.take_add_one, hx, List.all_append]
        simp
      have hmem : x ∈ xs := List.mem_of_getElem? hx
      obtain ⟨l, hl⟩ : ∃ l, nameB x.data.toList = l := ⟨_, rfl⟩
      rw [hl] at C htk
      have hii : (i : Int) < n := by omega
      cases l
      · have hf : (xs.all fun x => nameB x.data.toList) = false := by
          rw [List.all_eq_false]
          exact ⟨x, hmem, by rw [hl]; simp⟩
        have HF := Lib.hid hf
        clear htk hmem hall hf hl hx
        go_wp2_with fail
        refine C.out.mono ?_
        rintro e w2 ⟨rfl, rfl⟩
        go_wp2_with fail
        go_ret
        rw [HF.out]
        exact ⟨rfl, rfl⟩
      · have HT := Lib.hid (show ((xs.take (i + 1)).all fun x => nameB x.data.toList) = true by rw [htk, hall]; rfl)
        clear htk hmem hall hl hx
        go_wp2_with fail
        refine C.out.mono ?_
        rintro e w2 ⟨rfl, rfl⟩
        go_wp2_with fail
        go_roundw
        case rel => exact ⟨i + 1, by omega, by go_num, by first | trivial | rfl, HT.out⟩
        case measure => simp [intOf]; omega
    · obtain rfl : n = i := by omega
      rw [List.take_of_length_le (by rw [HR.out.2]; exact Nat.le_refl _)] at hall
      have HF := Lib.hid hall
      clear hall
      go_wp2_with fail
      go_ret
      rw [HF.out]
      exact ⟨rfl, rfl⟩
end Val
end Go.Proofs.YtjkjbbmbfobdaaaDoor
