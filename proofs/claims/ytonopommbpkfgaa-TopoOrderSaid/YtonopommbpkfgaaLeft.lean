/-
  slices.Contains at numbers, and topo's Left: the walks (no condition beyond the sizes).
-/
import Derived.Test.YtonopommbpkfgaaOrder
namespace Go.Proofs.Ytonopommbpkfgaa
open Go.ChangeShapes Go.WideShapes Go.RowKit Go.Deep Heap
namespace Topo
set_option maxHeartbeats 1000000 in
theorem index (w : World) (lo : Nat) (v : Value) (l : List Int) (h : OwnI w lo v l) (x : Int) (hf : l.length ≤ 99999) :
    Calls Try.prog 20 #[v, .int .i64 x] w fun e w' => w' = w ∧ ((x ∈ l ∧ ∃ r : Nat, e = .returned (.int .i64 (r : Int))) ∨ (x ∉ l ∧ e = .returned (.int .i64 (-1)))) := by
  obtain ⟨A, c, hv⟩ := h.form
  obtain ⟨L, hL⟩ : ∃ L, l.length = L := ⟨_, rfl⟩
  rw [hL] at hv hf
  subst hv
  have H := Lib.hid (And.intro h hL)
  clear h hL
  go_enter Try.func20, Try.ntmps20
  go_wp2_with fail
  go_loopw [5, 8] (fun _ iv wr => ∃ i : Nat, i ≤ L ∧ iv = .int .i64 i ∧ wr = w ∧ ∀ j, j < i → l.getD j 0 ≠ x) (fun _ iv _ => L - (intOf iv).toNat)
  case atStart => exact ⟨0, by omega, by go_num, rfl, fun j hj => by omega⟩
  case round =>
    obtain ⟨i, hi, rfl, rfl, hno⟩ := hrel
    by_cases hlt : i < L
    · obtain ⟨g, rfl⟩ : ∃ g, A = some ⟨g, 0, none⟩ := by
        rcases H.out.1.2 with ⟨e, h0⟩ | ⟨g, cap, cur, e, _⟩
        · have := H.out.2; omega
        · injection e with e
          exact ⟨g, e⟩
      have hli : i < l.length := by rw [H.out.2]; exact hlt
      have hc := OwnI.cell H.out.1 (i := i) hli
      have hmem : l.getD i 0 ∈ l := by
        rw [List.getD_eq_getElem?_getD, List.getElem?_eq_getElem hli]
        exact List.getElem_mem hli
      obtain ⟨y, hy⟩ : ∃ y, l.getD i 0 = y := ⟨_, rfl⟩
      rw [hy] at hc hmem
      have HN := Lib.hid (And.intro hno hy)
      have hii : (i : Int) < L := by omega
      clear hno hy
      by_cases he : y = x
      · subst he
        have HM := Lib.hid hmem
        clear hmem
        go_wp2_with fail
        go_ret
        exact ⟨rfl, .inl ⟨HM.out, i, rfl⟩⟩
      · have hxy : ¬ x = y := fun e => he e.symm
        have h1 : decide (x = y) = false := decide_eq_false hxy
        have h2 : (x == y) = false := by simpa using hxy
        have HE := Lib.hid he
        clear hmem he
        go_wp2_with fail
        go_roundw
        case rel => exact ⟨i + 1, by omega, by go_num, by first | trivial | rfl, fun j hj => by
          by_cases e : j = i
          · rw [e, HN.out.2]; exact HE.out
          · exact HN.out.1 j (by omega)⟩
        case measure => simp [intOf]; omega
    · obtain rfl : L = i := by omega
      have hnm : x ∉ l := fun e => by
        obtain ⟨j, hj, rfl⟩ := List.mem_iff_getElem.1 e
        refine hno j (by rw [← H.out.2]; exact hj) ?_
        simp [List.getD_eq_getElem?_getD, List.getElem?_eq_getElem hj]
      have HN := Lib.hid hnm
      clear hno hnm
      go_wp2_with fail
      go_ret
      exact ⟨rfl, .inr ⟨HN.out, rfl⟩⟩
theorem contains (w : World) (lo : Nat) (v : Value) (l : List Int) (h : OwnI w lo v l) (x : Int) (hf : l.length ≤ 99999) :
    Calls Try.prog 15 #[v, .int .i64 x] w fun e w' => e = .returned (.bool (decide (x ∈ l))) ∧ w' = w := by
  have C := Lib.hid (index w lo v l h x hf)
  clear h
  go_enter Try.func15, Try.ntmps15
  go_wp2_with fail
  refine C.out.mono ?_
  rintro e w1 ⟨rfl, ⟨hm, r, rfl⟩ | ⟨hm, rfl⟩⟩
  · have HM := Lib.hid hm
    have hr : (0 : Int) ≤ r := by omega
    clear C hm
    go_wp2_with fail
    go_ret
    exact ⟨by rw [decide_eq_true HM.out]; simp, rfl⟩
  · have HM := Lib.hid hm
    clear C hm
    go_wp2_with fail
    go_ret
    exact ⟨by rw [decide_eq_false HM.out]; simp, rfl⟩
/-- those that can't come, in order -/
def lefts (out : List Int) (i : Nat) : List Int := ((List.range i).filter fun k : Nat => decide ((k : Int) ∉ out)).map fun k : Nat => (k : Int)
theorem lefts_len (out : List Int) (i : Nat) : (lefts out i).length ≤ i := by
  have := List.length_filter_le (fun k : Nat => decide ((k : Int) ∉ out)) (List.range i)
  simp only [List.length_range] at this
  simpa [lefts] using this
theorem lefts_yes {out : List Int} {i : Nat} (h : (i : Int) ∉ out) : lefts out (i + 1) = lefts out i ++ [(i : Int)] := by
  simp [lefts, List.range_succ, List.filter_append, h]
theorem lefts_not {out : List Int} {i : Nat} (h : (i : Int) ∈ out) : lefts out (i + 1) = lefts out i := by
  simp [lefts, List.range_succ, List.filter_append, h]
theorem left_no (w : World) (n : Int) (hn : n < 0 ∨ 256 < n) (v : Value) : Calls Try.prog 9 #[.int .i64 n, v] w fun e w' => e = .returned (.slice none 0 0) ∧ w' = w := by
  have C := Lib.hid (right_no w n hn)
  clear hn
  go_enter Try.func9, Try.ntmps9
  go_wp2_with fail
  refine C.out.mono ?_
  rintro e w1 ⟨rfl, rfl⟩
  clear C
  go_wp2_with fail
  go_ret
  exact ⟨rfl, rfl⟩
set_option maxHeartbeats 1000000 in
theorem left (w : World) (n m c : Nat) (hn : n ≤ 256) (A : Option Addr) (ps : List (Int × Int)) (hP : PAt w A ps) (hm : ps.length = m) (hf : m ≤ 200) :
    Calls Try.prog 9 #[.int .i64 (n : Int), .slice A m c] w fun e w' => ∃ v out x a V, e = .returned v ∧ OwnI w' w.heap.size v (lefts out n) ∧ Inv n ps out [] [] x a V ∧ New w w' := by
  have C := Lib.hid (right_yes w n hn)
  have CR := Lib.hid (run w n m c hn A ps hP hm hf)
  clear hP
  go_enter Try.func9, Try.ntmps9
  go_wp2_with fail
  refine C.out.mono ?_
  rintro e w1 ⟨rfl, rfl⟩
  clear C
  go_wp2_with fail
  refine CR.out.mono ?_
  rintro e w2 ⟨vo, gl, out, V, x, a, rfl, o2, _, inv, n2⟩
  have hol : out.length ≤ 256 := by have := inv.len; simp at this; omega
  have HI := Lib.hid (And.intro inv (And.intro o2 n2))
  clear inv o2 n2 CR
  go_wp2_with fail
  go_loopw [7, 8, 19] (fun v _ iv wr => ∃ i : Nat, i ≤ n ∧ iv = .int .i64 i ∧ OwnI wr w2.heap.size v (lefts out i) ∧ New w2 wr) (fun _ _ iv _ => n - (intOf iv).toNat)
  case atStart => exact ⟨0, by omega, by go_num, OwnI.nil _ _, Chg.refl _ _⟩
  case round =>
    obtain ⟨i, hi, rfl, o, nw⟩ := hrel
    have hll := lefts_len out i
    by_cases hlt : i < n
    · have CC := Lib.hid (contains wr _ vo out (own_chg HI.out.2.1 nw fun _ _ => id) (i : Int) (by omega))
      have H := Lib.hid (And.intro o nw)
      have hii : (i : Int) < n := by omega
      clear o nw
      go_wp2_with fail
      refine CC.out.mono ?_
      rintro e w3 ⟨rfl, rfl⟩
      clear CC
      by_cases hin : (i : Int) ∈ out
      · have HM := Lib.hid hin
        rw [decide_eq_true hin]
        clear hin
        go_wp2_with fail
        go_roundw
        case rel => exact ⟨i + 1, by omega, by go_num, by rw [lefts_not HM.out]; exact H.out.1, H.out.2⟩
        case measure => simp [intOf]; omega
      · have HM := Lib.hid hin
        rw [decide_eq_false hin]
        clear hin
        go_wp2_with (at_builtin; refine stop ?_)
        delta Stop
        have m3 := (Chg.refl (fun _ => False) w3).alloc (.cells #[.int .i64 (i : Int)] 3)
        have o3 := own_chg H.out.1 m3 fun _ _ => id
        refine append_ints _ rfl _ _ 24 Try.underlying24 rfl w2.heap.size _ (lefts out i) rfl o3 _ _ _ _ [(i : Int)] rfl (Reads.of_row (n := 1) (size := 1) (heap_alloc_new w3 _) (by simp)) (by omega) (by have := m3.size; have := H.out.2.size; omega) ?_
        intro v6 w6 o6 g6 a6
        have n6 := (H.out.2.trans m3 fun _ _ => id).trans ((Chg.refl (fun k => u7.ownBlock = some k) _).grown g6 fun k e _ => e) fun g hg e => by
          have := (own_lt o3 e).1
          omega
        have HZ := Lib.hid (And.intro o6 n6)
        clear m3 o3 o6 g6 a6 n6
        go_wp2_with fail
        go_roundw
        case rel => exact ⟨i + 1, by omega, by go_num, by rw [lefts_yes HM.out]; exact HZ.out.1, HZ.out.2⟩
        case measure => simp [intOf]; omega
    · obtain rfl : n = i := by omega
      have HZ := Lib.hid (And.intro (own_mono o HI.out.2.2.size) (HI.out.2.2.trans nw fun _ _ => id))
      clear o nw
      go_wp2_with fail
      go_ret
      exact ⟨_, out, x, a, _, rfl, HZ.out.1, HI.out.1, HZ.out.2⟩
end Topo
end Go.Proofs.Ytonopommbpkfgaa
