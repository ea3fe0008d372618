/-
  Which events may come, and which are taken one by one, in plain words (no condition).
-/
import Derived.Test.YtgfkopimjmggdaaDoorJ3
/- What the program's vector package computes of events' pasts and dots: Dot, Right, Next (no condition beyond the rows' lengths). -/
namespace Go.Proofs.YtgfkopimjmggdaaDoor
set_option linter.unusedSimpArgs false
set_option linter.unusedVariables false
open Go.ChangeShapes Go.WideShapes Go.RowKit
namespace Vec
theorem loadRow0 (p : Value) : Instr.loadAt 23 p = LoadRowV 23 p := rfl
theorem storeRow0 (p v : Value) : Instr.storeAt 23 p v = StoreRowV 23 p v := rfl
attribute [local go_sem ↓] loadRow0 storeRow0
/-- a vector as a value -/
abbrev vec (xs : List Int) : Value := .agg (ints xs).toArray
abbrev TV : TypeId := 23
noncomputable def intI : TypeInfo := ((Tryd.prog.info? 3).getD default)
theorem intInfo : Tryd.prog.info? 3 = some intI ∧ intI.size = 1 := ⟨by kernel_rfl, by kernel_rfl⟩
theorem zero_vec (w : World) : (zeroValue 23).run Tryd.prog w = .ok (.agg (ints (zeros)).toArray) w := by kernel_rfl
theorem ldV {w : World} {b o : Nat} {xs : List Int} (hl : xs.length = 16) (h : w.rangeAt b o (ints xs)) : (LoadRow 23 ⟨b, o, none⟩).run Tryd.prog w = .ok (vec xs) w :=
  run_LoadRow (P := Tryd.prog) (t := 23) Tryd.underlying23 rfl (n := 16) (by kernel_rfl) (by rw [ints_length, hl]) h
theorem ldB {w : World} {b : Nat} {t : TypeId} {xs : List Int} (hl : xs.length = 16) (h : Blk w b t (ints xs).toArray) : (LoadRow 23 ⟨b, 0, none⟩).run Tryd.prog w = .ok (vec xs) w := ldV hl h.range_all
theorem ixV {xs : List Int} (hl : xs.length = 16) {k : Nat} (hk : k < 16) (w : World) : (Instr.index 23 (vec xs) (.int .i64 (k : Int))).run Tryd.prog w = .ok (.int .i64 (xs.getD k 0)) w :=
  run_index_ints (P := Tryd.prog) (t := 23) Tryd.underlying23 intInfo.1 intInfo.2 ⟨_, Tryd.underlying3, rfl⟩ hl hk w
theorem eqV {xs ys : List Int} (hx : xs.length = 16) (hy : ys.length = 16) (w : World) : (binOp .eql 23 (vec xs) (vec ys)).run Tryd.prog w = .ok (.bool (xs == ys)) w :=
  run_eql_ints (P := Tryd.prog) Tryd.underlying23 Tryd.underlying3 intInfo.1 intInfo.2 xs ys hx hy w
theorem eqG (x y : Operand) (a b : Array Value) (w : World) : (eqGuard .eql 23 x y (.agg a) (.agg b)).run Tryd.prog w = .ok () w := run_eqGuard_agg (by kernel_rfl) x y a b w
/-- a dot as a value -/
abbrev dotV (r n : Int) : Value := .agg #[.int .i64 r, .int .i64 n]
theorem dotF_true {r n : Int} : dotF r n = true ↔ 0 ≤ r ∧ r < 16 ∧ 1 ≤ n ∧ n ≤ 1048576 := by
  simp [dotF, and_assoc]
theorem dotF_false {r n : Int} (h : ¬ (0 ≤ r ∧ r < 16 ∧ 1 ≤ n ∧ n ≤ 1048576)) : dotF r n = false := by
  cases hd : dotF r n with
  | false => rfl
  | true => exact absurd (dotF_true.1 hd) h
set_option maxHeartbeats 1000000 in
set_option maxRecDepth 20000 in
theorem dot_ (w : World) (r n : Int) : Calls Tryd.prog 32 #[dotV r n] w fun e w' => e = .returned (.bool (dotF r n)) ∧ w' = w.alloc (.cells #[.int .i64 r, .int .i64 n] 29) := by
  by_cases h1 : 0 ≤ r
  · by_cases h2 : r < 16
    · by_cases h3 : 1 ≤ n
      · by_cases h4 : n ≤ 1048576
        · rw [dotF_true.2 ⟨h1, h2, h3, h4⟩]
          go_enter Tryd.func32, Tryd.ntmps32
          go_wp2
          go_ret
          exact ⟨rfl, rfl⟩
        · rw [dotF_false (by omega)]
          go_enter Tryd.func32, Tryd.ntmps32
          go_wp2
          go_ret
          exact ⟨rfl, rfl⟩
      · rw [dotF_false (by omega)]
        go_enter Tryd.func32, Tryd.ntmps32
        go_wp2
        go_ret
        exact ⟨rfl, rfl⟩
    · rw [dotF_false (by omega)]
      go_enter Tryd.func32, Tryd.ntmps32
      go_wp2
      go_ret
      exact ⟨rfl, rfl⟩
  · rw [dotF_false (by omega)]
    go_enter Tryd.func32, Tryd.ntmps32
    go_wp2
    go_ret
    exact ⟨rfl, rfl⟩

theorem dot_new (w : World) (r n : Int) : Calls Tryd.prog 32 #[dotV r n] w fun e w' => e = .returned (.bool (dotF r n)) ∧ New w w' :=
  (dot_ w r n).mono fun _ _ ⟨h1, h2⟩ => ⟨h1, h2 ▸ (Chg.refl _ _).alloc _⟩
theorem drop_cons {xs : List Int} {k : Nat} (h : k < xs.length) : xs.drop k = xs.getD k 0 :: xs.drop (k + 1) := by
  rw [List.drop_eq_getElem_cons h]
  simp [List.getD_eq_getElem?_getD, List.getElem?_eq_getElem h]
set_option maxHeartbeats 1000000 in
set_option maxRecDepth 20000 in
theorem right_ (w : World) (xs : List Int) (hx : xs.length = 16) : Calls Tryd.prog 29 #[vec xs] w fun e w' => e = .returned (.bool (rightF xs)) ∧ New w w' := by
  have l1 := ldB hx (Blk.new w 23 (ints xs).toArray)
  have HX := Lib.hid hx
  clear hx
  go_enter Tryd.func29, Tryd.ntmps29
  go_wp2
  go_loop [4, 6] (fun _ i => ∃ (k : Nat), k ≤ 16 ∧ i = .int .i64 k ∧ Hid (rightF xs = rightF (xs.drop k))) (fun _ i => 16 - (intOf i).toNat)
  case atStart => exact ⟨0, by omega, rfl, rfl⟩
  case round =>
    obtain ⟨k, hk, rfl, hs⟩ := hrel
    by_cases hlt : k < 16
    · have hix := ixV HX.out hlt
      have hd := drop_cons (show k < xs.length by rw [HX.out]; exact hlt)
      rw [hd] at hs
      clear hd
      generalize xs.getD k 0 = x at *
      by_cases h0 : x < 0
      · have hf : rightF (x :: xs.drop (k + 1)) = false := by
          have : decide (0 ≤ x) = false := by simp; omega
          simp [rightF, this]
        rw [hf] at hs
        go_wp2
        go_ret
        exact ⟨by rw [hs.out]; rfl, (Chg.refl _ _).alloc _⟩
      · by_cases h1 : 1048576 < x
        · have hf : rightF (x :: xs.drop (k + 1)) = false := by
            have : decide (x ≤ 1048576) = false := by simp; omega
            simp [rightF, this]
          rw [hf] at hs
          go_wp2
          go_ret
          exact ⟨by rw [hs.out]; rfl, (Chg.refl _ _).alloc _⟩
        · have hf : rightF (x :: xs.drop (k + 1)) = rightF (xs.drop (k + 1)) := by
            have h2 : decide (0 ≤ x) = true := by simp; omega
            have h3 : decide (x ≤ 1048576) = true := by simp; omega
            simp [rightF, h2, h3]
          rw [hf] at hs
          go_wp2
          go_round
          case rel => exact ⟨k + 1, by omega, by go_num, hs⟩
          case measure => simp [intOf]; omega
    · obtain rfl : k = 16 := by omega
      have hd : xs.drop 16 = [] := List.drop_eq_nil_of_le (by rw [HX.out]; exact Nat.le_refl _)
      rw [hd] at hs
      go_wp2
      go_ret
      exact ⟨by rw [hs.out]; rfl, (Chg.refl _ _).alloc _⟩

set_option maxHeartbeats 1000000 in
set_option maxRecDepth 20000 in
theorem next_ (w : World) (xs : List Int) (r n : Int) (hx : xs.length = 16) : Calls Tryd.prog 20 #[vec xs, dotV r n] w fun e w' => e = .returned (.bool (nextF xs r n)) ∧ New w w' := by
  have b1 := (Blk.new w 23 (ints xs).toArray).alloc (.cells #[.int .i64 r, .int .i64 n] 29)
  have b2 := Blk.new1 w (.cells (ints xs).toArray 23) 29 #[.int .i64 r, .int .i64 n]
  have d0 := fun x : ChgW (fun _ => False) ((w.alloc (.cells (ints xs).toArray 23)).alloc (.cells #[.int .i64 r, .int .i64 n] 29)) => (b2.chg x.chg id).cell 0
  have d1 := fun x : ChgW (fun _ => False) ((w.alloc (.cells (ints xs).toArray 23)).alloc (.cells #[.int .i64 r, .int .i64 n] 29)) => (b2.chg x.chg id).cell 1
  simp only [List.getElem?_toArray, List.getElem?_cons_zero, List.getElem?_cons_succ] at d0 d1
  cases hd : dotF r n with
  | false =>
    have hk : nextF xs r n = false := by simp [nextF, hd]
    rw [hk]
    have HC := Lib.hid (fun W => dot_new W r n)
    rw [hd] at HC
    clear hd hk b1 b2
    go_enter Tryd.func20, Tryd.ntmps20
    go_wp2_with fail
    refine wp_region_chg (fun _ => False) (by kernel_rfl) (by kernel_rfl) ?_
    repeat (go_big_quiet_step ((go_at_call 32; exact calls_new (HC.out _))))
    refine wpQuiet_nil ?_
    rintro ⟨wq, hq⟩
    simp only []
    go_wp2
    go_ret
    exact ⟨rfl, ((Chg.refl _ _).alloc _).alloc _ |>.trans hq (fun _ _ => False.elim)⟩
  | true =>
    obtain ⟨h1, h2, h3, h4⟩ := dotF_true.1 hd
    obtain ⟨i, rfl⟩ := Int.eq_ofNat_of_zero_le h1
    have hk : nextF xs i n = (xs.getD i 0 == n - 1) := by simp [nextF, hd]
    rw [hk]
    have HC := Lib.hid (fun W => dot_new W i n)
    rw [hd] at HC
    have ca := fun x : ChgW (fun _ => False) ((w.alloc (.cells (ints xs).toArray 23)).alloc (.cells #[.int .i64 i, .int .i64 n] 29)) => (b1.chg x.chg id).cell i
    rw [List.getElem?_toArray, ints_get, get_getD (by omega)] at ca
    simp only [Option.map_some] at ca
    generalize xs.getD i 0 = x at *
    have ew : IntKind.i64.wrap (n - 1) = n - 1 := IntWalk.i64_in _ (by omega)
    clear hd hk h1 hx b1 b2
    go_enter Tryd.func20, Tryd.ntmps20
    go_wp2_with fail
    refine wp_region_chg (fun _ => False) (by kernel_rfl) (by kernel_rfl) ?_
    repeat (go_big_quiet_step ((go_at_call 32; exact calls_new (HC.out _))))
    refine wpQuiet_nil ?_
    rintro ⟨wq, hq⟩
    simp only []
    go_wp2
    go_ret
    exact ⟨rfl, ((Chg.refl _ _).alloc _).alloc _ |>.trans hq (fun _ _ => False.elim)⟩

end Vec
end Go.Proofs.YtgfkopimjmggdaaDoor

/- event.Of, Make, Right, Bytes: what they compute (no condition beyond the sizes, and that MaxLen holds a number). -/
namespace Go.Proofs.YtgfkopimjmggdaaDoor
set_option linter.unusedSimpArgs false
set_option linter.unusedVariables false
open Go.ChangeShapes Go.WideShapes Go.RowKit Go.Deep
namespace Evt
open Val (elemB rightB JoinC)
open Vec
theorem loadDot (p : Value) : Instr.loadAt 29 p = LoadRowV 29 p := rfl
theorem loadVec (p : Value) : Instr.loadAt 23 p = LoadRowV 23 p := rfl
attribute [local go_sem ↓] loadDot loadVec loadRow0 storeRow0
attribute [local go_sem ↓] loadOnly0 loadOnly1 loadOnly2
theorem sub_range {w : World} {g : Nat} {t : TypeId} {cs : List Value} (h : Blk w g t cs.toArray) (o n : Nat) : w.rangeAt g o ((cs.drop o).take n) := Blk.range h o _ fun j v hj => by
  rw [List.getElem?_take] at hj
  split at hj
  · rwa [List.getElem?_drop] at hj
  · cases hj
abbrev Ev.dot (e : Ev) : Value := dotV (e.n 0) (e.n 1)
abbrev Ev.pastV (e : Ev) : Value := .agg #[.int .i64 (e.n 2), .int .i64 (e.n 3), .int .i64 (e.n 4), .int .i64 (e.n 5), .int .i64 (e.n 6), .int .i64 (e.n 7), .int .i64 (e.n 8), .int .i64 (e.n 9), .int .i64 (e.n 10), .int .i64 (e.n 11), .int .i64 (e.n 12), .int .i64 (e.n 13), .int .i64 (e.n 14), .int .i64 (e.n 15), .int .i64 (e.n 16), .int .i64 (e.n 17)]
abbrev Ev.ch (e : Ev) : Value := chV (e.n 18) (e.n 19) (e.t 20) (e.t 21) (e.t 22) (e.t 23) (e.n 24) (e.n 25) (e.t 26)
theorem blk_ev {w : World} {g : Nat} {t : TypeId} {e : Ev} (h : Blk w g t e.cs.toArray) :
    (LoadRow 29 ⟨g, 0, none⟩).run Tryd.prog w = .ok e.dot w ∧ (LoadRow 23 ⟨g, 2, none⟩).run Tryd.prog w = .ok e.pastV w ∧ w.cell? ⟨g, 18, none⟩ = some (.int .i64 (e.n 18)) ∧
    (LoadRow 31 ⟨g, 19, none⟩).run Tryd.prog w = .ok (elemV (e.n 19) (e.t 20) (e.t 21) (e.t 22) (e.t 23)) w ∧ (LoadRow 33 ⟨g, 24, none⟩).run Tryd.prog w = .ok (valV (e.n 24) (e.n 25) (e.t 26)) w := by
  refine ⟨?_, ?_, h.cell 18, ?_, ?_⟩
  · exact run_LoadRow (P := Tryd.prog) (n := 2) (cs := (e.cs.drop 0).take 2) Tryd.underlying29 rfl (by kernel_rfl) rfl (sub_range h 0 2)
  · exact run_LoadRow (P := Tryd.prog) (n := 16) (cs := (e.cs.drop 2).take 16) Tryd.underlying23 rfl (by kernel_rfl) rfl (sub_range h 2 16)
  · exact run_LoadRow (P := Tryd.prog) (n := 5) (cs := (e.cs.drop 19).take 5) Tryd.underlying31 rfl (by kernel_rfl) rfl (sub_range h 19 5)
  · exact run_LoadRow (P := Tryd.prog) (n := 3) (cs := (e.cs.drop 24).take 3) Tryd.underlying33 rfl (by kernel_rfl) rfl (sub_range h 24 3)
theorem resCh {fn : Func} {p : Tmp} (h : fn.results = #[.cell p 57]) (tmps : Array Value) (w : World) (g : Nat) (t : TypeId) (op k : Int) (a b c d : ByteArray) (vk vn : Int) (vt : ByteArray)
    (hp : tmps.getD p undef = .pointer (some ⟨g, 0, none⟩)) (hg : Blk w g t #[.int .i64 op, .int .i64 k, .string a, .string b, .string c, .string d, .int .i64 vk, .int .i64 vn, .string vt]) : (results fn tmps).run Tryd.prog w = .ok (chV op k a b c d vk vn vt) w :=
  results_cell_row h tmps w g t _ (0, 0) _ hp hg Tryd.underlying57 rfl (by kernel_rfl)
set_option maxHeartbeats 4000000 in
set_option maxRecDepth 20000 in
theorem of_ (w : World) (e : Ev) : Calls Tryd.prog 31 #[e.val] w fun x w' => x = .returned e.ch ∧ New w w' := by
  have hz : ∀ W, (zeroValue 57).run Tryd.prog W = .ok (.agg #[.int .i64 0, .int .i64 0, .string ⟨#[]⟩, .string ⟨#[]⟩, .string ⟨#[]⟩, .string ⟨#[]⟩, .int .i64 0, .int .i64 0, .string ⟨#[]⟩]) W := fun W => by kernel_rfl
  have B := (Blk.new w 35 e.cs.toArray).alloc (.cells #[.int .i64 0, .int .i64 0, .string ⟨#[]⟩, .string ⟨#[]⟩, .string ⟨#[]⟩, .string ⟨#[]⟩, .int .i64 0, .int .i64 0, .string ⟨#[]⟩] 57)
  obtain ⟨_, _, c18, l19, l24⟩ := blk_ev B
  have g0 := B.lt
  clear B
  go_enter Tryd.func31, Tryd.ntmps31
  go_wp2_with fail
  exact bodyPost_ret (resCh rfl _ _ (w.heap.size + 1) _ _ _ _ _ _ _ _ _ _ rfl (Blk.new1 _ _ _ _)) rfl ⟨rfl, ((Chg.refl _ w).alloc _).alloc _⟩
end Evt
end Go.Proofs.YtgfkopimjmggdaaDoor

/- event.Right: what it computes (no condition beyond the sizes, and that MaxLen holds a number). -/
namespace Go.Proofs.YtgfkopimjmggdaaDoor
set_option linter.unusedSimpArgs false
set_option linter.unusedVariables false
open Go.ChangeShapes Go.WideShapes Go.RowKit Go.Deep
namespace Evt
open Val (elemB rightB JoinC)
open Vec Num
attribute [local go_sem ↓] loadDot loadVec loadRow0 storeRow0 loadOnly0 loadOnly1 loadOnly2
def chB (e : Ev) : Bool := changeB (e.n 18) (e.n 19) (e.t 20).data.toList (e.t 21).data.toList (e.t 22).data.toList (e.t 23).data.toList (e.n 24) (e.n 25) (e.t 26).data.toList
def rightE (e : Ev) : Bool := nextF (past e) (e.n 0) (e.n 1) && rightF (past e) && chB e
/-- what is asked of an event's texts and number -/
structure Fit (e : Ev) : Prop where
  t : ∀ i, (e.t i).size ≤ 1000000
  n : -9223372036854775808 ≤ e.n 25 ∧ e.n 25 ≤ 9223372036854775807
set_option maxHeartbeats 8000000 in
set_option maxRecDepth 20000 in
theorem right (hJ : JoinC) (w : World) (e : Ev) (h : Fit e) (hm : Val.MaxAt w) : Calls Tryd.prog 18 #[e.val] w fun x w' => x = .returned (.int .i64 (if rightE e = true then 0 else 1)) ∧ New w w' := by
  have n1 := (Chg.refl (fun _ => False) w).alloc (.cells e.cs.toArray 35)
  have B1 := Blk.new w 35 e.cs.toArray
  have CN : Calls Tryd.prog 20 #[e.pastV, e.dot] (w.alloc (.cells e.cs.toArray 35)) fun x w' => x = .returned (.bool (nextF (past e) (e.n 0) (e.n 1))) ∧ New (w.alloc (.cells e.cs.toArray 35)) w' := Vec.next_ _ (past e) (e.n 0) (e.n 1) rfl
  have CR : ∀ W, Calls Tryd.prog 29 #[e.pastV] W fun x w' => x = .returned (.bool (rightF (past e))) ∧ New W w' := fun W => Vec.right_ W (past e) rfl
  have CO := fun W => of_ W e
  have CC := fun W (hW : New w W) => change hJ W (e.n 18) (e.n 19) (e.t 20) (e.t 21) (e.t 22) (e.t 23) (e.n 24) (e.n 25) (e.t 26) ⟨h.t 20, h.t 21, h.t 22, h.t 23⟩ (h.t 26) h.n (hm.new hW)
  obtain ⟨xb, hx⟩ : ∃ x, nextF (past e) (e.n 0) (e.n 1) = x := ⟨_, rfl⟩
  obtain ⟨yb, hy⟩ : ∃ x, rightF (past e) = x := ⟨_, rfl⟩
  have hz : changeB (e.n 18) (e.n 19) (e.t 20).data.toList (e.t 21).data.toList (e.t 22).data.toList (e.t 23).data.toList (e.n 24) (e.n 25) (e.t 26).data.toList = chB e := rfl
  obtain ⟨zb, hzb⟩ : ∃ x, chB e = x := ⟨_, rfl⟩
  rw [hx] at CN
  simp only [hy] at CR
  simp only [hz, hzb] at CC
  have hr : rightE e = (xb && yb && zb) := by unfold rightE; rw [hx, hy, hzb]
  rw [hr]
  obtain ⟨q, hq⟩ : ∃ q : Int, (if zb = true then 0 else 1) = q := ⟨_, rfl⟩
  simp only [hq] at CC
  have HQ := Lib.hid hq
  clear hq
  have CN := Lib.hid CN
  have CR := Lib.hid CR
  have CO := Lib.hid CO
  have CC := Lib.hid CC
  have HB := Lib.hid B1
  have N1 := Lib.hid n1
  obtain ⟨l0, l2, _⟩ := blk_ev B1
  have g1 := B1.lt
  clear n1 B1 hx hy hz hzb hr h hm
  cases xb
  · go_enter Tryd.func18, Tryd.ntmps18
    go_wp2_with fail
    with_reducible refine CN.out.mono ?_
    rintro x w2 ⟨rfl, n2⟩
    have N2 := Lib.hid (N1.out.trans n2 fun _ _ => id)
    clear n2
    go_wp2_with fail
    go_ret
    exact ⟨rfl, N2.out⟩
  obtain ⟨q2, hq2⟩ : ∃ q : Int, (if (true && yb && zb) = true then 0 else 1) = q := ⟨_, rfl⟩
  rw [hq2]
  have HQ2 := Lib.hid hq2
  clear hq2
  cases yb
  · go_enter Tryd.func18, Tryd.ntmps18
    go_wp2_with fail
    with_reducible refine CN.out.mono ?_
    rintro x w2 ⟨rfl, n2⟩
    have N2 := Lib.hid (N1.out.trans n2 fun _ _ => id)
    have l3 := (blk_ev (HB.out.chg n2 id)).2.1
    clear n2
    go_wp2_with fail
    with_reducible refine (CR.out _).mono ?_
    rintro x w3 ⟨rfl, n3⟩
    have N3 := Lib.hid (N2.out.trans n3 fun _ _ => id)
    clear n3
    go_wp2_with fail
    go_ret
    exact ⟨by rw [← HQ2.out] <;> rfl, N3.out⟩
  · go_enter Tryd.func18, Tryd.ntmps18
    go_wp2_with fail
    with_reducible refine CN.out.mono ?_
    rintro x w2 ⟨rfl, n2⟩
    have N2 := Lib.hid (N1.out.trans n2 fun _ _ => id)
    have HB2 := Lib.hid (HB.out.chg n2 id)
    have l3 := (blk_ev HB2.out).2.1
    clear n2
    go_wp2_with fail
    with_reducible refine (CR.out _).mono ?_
    rintro x w3 ⟨rfl, n3⟩
    have N3 := Lib.hid (N2.out.trans n3 fun _ _ => id)
    have l4 := ldE (HB2.out.chg n3 id)
    clear n3
    go_wp2_with fail
    with_reducible refine (CO.out _).mono ?_
    rintro x w4 ⟨rfl, n4⟩
    have N4 := Lib.hid (N3.out.trans n4 fun _ _ => id)
    clear n4
    go_wp2_with fail
    with_reducible refine (CC.out _ N4.out).mono ?_
    rintro x w5 ⟨rfl, n5⟩
    have N5 := Lib.hid (N4.out.trans n5 fun _ _ => id)
    clear n5
    go_wp2_with fail
    go_ret
    exact ⟨by rw [← HQ2.out, Bool.true_and, Bool.true_and, HQ.out] <;> rfl, N5.out⟩
end Evt
end Go.Proofs.YtgfkopimjmggdaaDoor

/- What Parse tells, in plain words; what is read is no longer than what there was (no condition). -/
namespace Go.Proofs.YtgfkopimjmggdaaDoor
set_option linter.unusedSimpArgs false
set_option linter.unusedVariables false
open Go.ChangeShapes Go.WideShapes Go.RowKit Go.Deep
namespace Evt
open Val (elemB rightB JoinC)
open Vec Num
attribute [local go_sem ↓] loadDot loadVec loadRow0 storeRow0 loadOnly0 loadOnly1 loadOnly2
theorem numP_shrink (most : Int) (s : Rd) : (numP most s).2.l.length ≤ s.l.length := by
  unfold numP
  split
  · exact Nat.le_refl _
  · split
    · exact Nat.le_refl _
    · split
      · exact Nat.le_refl _
      · simp only [List.length_drop]; omega
theorem textP_shrink (most : Int) (s : Rd) : (textP most s).2.l.length ≤ s.l.length ∧ (textP most s).1.length ≤ s.l.length := by
  have h := numP_shrink most s
  unfold textP
  split
  · exact ⟨h, Nat.zero_le _⟩
  · split
    · exact ⟨h, Nat.zero_le _⟩
    · simp only [List.length_drop, List.length_take]
      omega
theorem read_fit (x : It) (s : Rd) : (x.read s).2.l.length ≤ s.l.length ∧ (bytes (x.read s).1).size ≤ s.l.length ∧ -9223372036854775808 ≤ int (x.read s).1 ∧ int (x.read s).1 ≤ 9223372036854775807 := by
  cases x with
  | n v =>
    have := numP_range 4611686018427387903 (by decide) s
    exact ⟨numP_shrink _ s, Nat.zero_le _, by simp only [It.read, int]; omega, by simp only [It.read, int]; omega⟩
  | z v =>
    have := numP_range 2305843009213693952 (by decide) s
    refine ⟨numP_shrink _ s, Nat.zero_le _, ?_, ?_⟩ <;> simp only [It.read, int, signedP] <;> split <;> omega
  | t v =>
    have := textP_shrink 1048576 s
    exact ⟨this.1, by simp only [It.read, bytes]; exact this.2, by simp only [It.read, int]; decide, by simp only [It.read, int]; decide⟩
theorem readAll_fit : ∀ (xs : List It) (s : Rd), ∀ y ∈ (readAll xs s).1, (bytes y).size ≤ s.l.length ∧ -9223372036854775808 ≤ int y ∧ int y ≤ 9223372036854775807
  | [], _, y, h => by cases h
  | x :: xs, s, y, h => by
    have h1 := read_fit x s
    unfold readAll at h
    rcases List.mem_cons.1 h with rfl | h
    · exact h1.2
    · have := readAll_fit xs (x.read s).2 y h
      exact ⟨by omega, this.2⟩
theorem next_fit (s : Rd) (hs : s.l.length ≤ 1000000) : Fit (nextP s).1 := by
  have h := readAll_fit shape s
  have hd : ∀ i, (bytes ((readAll shape s).1.getD i (.n 0))).size ≤ s.l.length ∧ -9223372036854775808 ≤ int ((readAll shape s).1.getD i (.n 0)) ∧ int ((readAll shape s).1.getD i (.n 0)) ≤ 9223372036854775807 := fun i => by
    rw [List.getD_eq_getElem?_getD]
    cases hq : (readAll shape s).1[i]? with
    | none => exact ⟨Nat.zero_le _, by decide, by decide⟩
    | some y => exact h y (List.mem_of_getElem? hq)
  exact ⟨fun i => Nat.le_trans (hd i).1 hs, (hd 25).2⟩
/-- what Parse tells -/
def parseP (l : List UInt8) : Ev × Int :=
  if (!(nextP ⟨l, false⟩).2.bad && decide ((nextP ⟨l, false⟩).2.l.length = 0)) = true then (if rightE (nextP ⟨l, false⟩).1 = true then ((nextP ⟨l, false⟩).1, 0) else (zero, 1)) else (zero, 2)
theorem resEI {fn : Func} {p q : Tmp} (h : fn.results = #[.cell p 35, .tmp q]) (tmps : Array Value) (w : World) (g : Nat) (t : TypeId) (e : Ev)
    (hp : tmps.getD p undef = .pointer (some ⟨g, 0, none⟩)) (hg : Blk w g t e.cs.toArray) : (results fn tmps).run Tryd.prog w = .ok (.tuple #[e.val, tmps.getD q undef]) w := by
  rw [results_cell_tmp h, hp]
  have := ldE hg
  unfold LoadRow at this
  simp only [asAddr, Sem.run_pure, Result.andThen_ok, this]
/-- an event stored in a variable just made -/
theorem new_ev (w : World) (e : Ev) : ∃ W, (StoreRow 35 ⟨w.heap.size, 0, none⟩ e.val).run Tryd.prog (w.alloc (.cells zero.cs.toArray 35)) = .ok () W ∧ Blk W w.heap.size 35 e.cs.toArray ∧ New w W ∧ w.heap.size < (w.alloc (.cells zero.cs.toArray 35)).heap.size := by
  have bz := Blk.new w 35 zero.cs.toArray
  have hst := stE zero e bz
  exact ⟨_, hst.1, hst.2, Chg.setCells (S := fun _ => False) (a := w) (g := w.heap.size) e.cs 0 _ ((Chg.refl (fun _ => False) w).alloc (.cells zero.cs.toArray 35)) (fun h => by omega), bz.lt⟩
end Evt
end Go.Proofs.YtgfkopimjmggdaaDoor

/- Of an event that may be: its bytes are read as it was; of a part of them, or with more behind, nothing (no condition). -/
namespace Go.Proofs.YtgfkopimjmggdaaDoor
set_option linter.unusedSimpArgs false
set_option linter.unusedVariables false
open Go.ChangeShapes Go.WideShapes Go.RowKit Go.Deep
namespace Evt
open Val (elemB rightB nameB nameB_len plainB)
open Vec Num
theorem name_len {l : List UInt8} (h : nameB l = true) : l.length ≤ 16 := (nameB_len h).2
theorem elem_len {k : Int} {a b c d : List UInt8} (h : elemB k a b c d = true) : (1 ≤ k ∧ k ≤ 5) ∧ a.length ≤ 16 ∧ b.length ≤ 16 ∧ c.length ≤ 16 ∧ d.length ≤ 16 := by
  unfold elemB at h
  split at h
  · simp only [Bool.and_eq_true, decide_eq_true_eq] at h
    obtain ⟨⟨⟨h1, rfl⟩, rfl⟩, rfl⟩ := h
    exact ⟨by omega, name_len h1, by simp, by simp, by simp⟩
  · split at h
    · simp only [Bool.and_eq_true, decide_eq_true_eq] at h
      obtain ⟨⟨⟨h1, rfl⟩, rfl⟩, h2⟩ := h
      exact ⟨by omega, name_len h1, by simp, by simp, name_len h2⟩
    · split at h
      · simp only [Bool.and_eq_true, decide_eq_true_eq] at h
        obtain ⟨⟨⟨h1, h2⟩, h3⟩, rfl⟩ := h
        exact ⟨by omega, name_len h1, name_len h2, name_len h3, by simp⟩
      · split at h
        · simp only [Bool.and_eq_true] at h
          obtain ⟨⟨⟨h1, h2⟩, h3⟩, h4⟩ := h
          exact ⟨by omega, name_len h1, name_len h2, name_len h3, name_len h4⟩
        · cases h
theorem none_len {k n : Int} {t : List UInt8} (h : noneB k n t = true) : k = 0 ∧ n = 0 ∧ t = [] := by
  unfold noneB at h
  simp only [Bool.and_eq_true, decide_eq_true_eq] at h
  exact ⟨h.1.1, h.1.2, h.2⟩
theorem scalar_len {k n : Int} {t : List UInt8} (h : scalarB k n t = true) : (1 ≤ k ∧ k ≤ 3) ∧ (-1099511627776 ≤ n ∧ n ≤ 1099511627776) ∧ t.length ≤ 64 := by
  unfold scalarB at h
  simp only [Bool.and_eq_true, decide_eq_true_eq] at h
  obtain ⟨⟨h1, h3⟩, h⟩ := h
  unfold rightB at h
  rw [if_neg (by omega)] at h
  split at h
  · simp only [Bool.and_eq_true, Bool.or_eq_true, decide_eq_true_eq] at h
    obtain ⟨h4, rfl⟩ := h
    exact ⟨⟨h1, h3⟩, by omega, by simp⟩
  · split at h
    · simp only [Bool.and_eq_true, decide_eq_true_eq] at h
      obtain ⟨h4, rfl⟩ := h
      exact ⟨⟨h1, h3⟩, by omega, by simp⟩
    · split at h
      · unfold plainB at h
        simp only [Bool.and_eq_true, decide_eq_true_eq] at h
        exact ⟨⟨h1, h3⟩, by omega, h.2.2⟩
      · omega
theorem change_len {op k : Int} {a b c d : List UInt8} {vk vn : Int} {vt : List UInt8} (h : changeB op k a b c d vk vn vt = true) :
    (1 ≤ op ∧ op ≤ 4) ∧ ((1 ≤ k ∧ k ≤ 5) ∧ a.length ≤ 16 ∧ b.length ≤ 16 ∧ c.length ≤ 16 ∧ d.length ≤ 16) ∧ (0 ≤ vk ∧ vk ≤ 3) ∧ (-1099511627776 ≤ vn ∧ vn ≤ 1099511627776) ∧ vt.length ≤ 64 := by
  unfold changeB at h
  rw [Bool.and_eq_true] at h
  obtain ⟨h1, h⟩ := h
  have h1 := elem_len h1
  split at h
  · rw [Bool.and_eq_true] at h
    obtain ⟨rfl, rfl, rfl⟩ := none_len h.1
    exact ⟨by omega, h1, by decide, by decide, by simp⟩
  · split at h
    · rw [Bool.and_eq_true] at h
      have h2 := scalar_len h.2
      exact ⟨by omega, h1, by omega, h2.2.1, h2.2.2⟩
    · split at h
      · rw [Bool.and_eq_true] at h
        obtain ⟨rfl, rfl, rfl⟩ := none_len h.1
        exact ⟨by omega, h1, by decide, by decide, by simp⟩
      · cases h
theorem right_ok {e : Ev} (h : rightE e = true) : ∀ x ∈ e.items, x.ok := by
  unfold rightE at h
  simp only [Bool.and_eq_true] at h
  obtain ⟨⟨h1, h2⟩, h3⟩ := h
  unfold chB at h3
  obtain ⟨ho, ⟨hk, ha, hb, hc, hd⟩, hvk, hvn, hvt⟩ := change_len h3
  unfold nextF at h1
  rw [Bool.and_eq_true] at h1
  have hdot := dotF_true.1 h1.1
  have hp : ∀ i, 2 ≤ i → i < 18 → 0 ≤ e.n i ∧ e.n i ≤ 1048576 := fun i hi hj => by
    unfold rightF at h2
    rw [List.all_eq_true] at h2
    have := h2 (e.n i) (by
      rcases (show i = 2 ∨ i = 3 ∨ i = 4 ∨ i = 5 ∨ i = 6 ∨ i = 7 ∨ i = 8 ∨ i = 9 ∨ i = 10 ∨ i = 11 ∨ i = 12 ∨ i = 13 ∨ i = 14 ∨ i = 15 ∨ i = 16 ∨ i = 17 by omega) with rfl | rfl | rfl | rfl | rfl | rfl | rfl | rfl | rfl | rfl | rfl | rfl | rfl | rfl | rfl | rfl <;> simp [past])
    simpa using this
  intro x hx
  simp only [Ev.items, List.mem_cons, List.not_mem_nil, or_false] at hx
  rcases hx with rfl | rfl | rfl | rfl | rfl | rfl | rfl | rfl | rfl | rfl | rfl | rfl | rfl | rfl | rfl | rfl | rfl | rfl | rfl | rfl | rfl | rfl | rfl | rfl | rfl | rfl | rfl
  · exact ⟨by omega, by omega⟩
  · exact ⟨by omega, by omega⟩
  · have := hp 2 (by decide) (by decide); exact ⟨by omega, by omega⟩
  · have := hp 3 (by decide) (by decide); exact ⟨by omega, by omega⟩
  · have := hp 4 (by decide) (by decide); exact ⟨by omega, by omega⟩
  · have := hp 5 (by decide) (by decide); exact ⟨by omega, by omega⟩
  · have := hp 6 (by decide) (by decide); exact ⟨by omega, by omega⟩
  · have := hp 7 (by decide) (by decide); exact ⟨by omega, by omega⟩
  · have := hp 8 (by decide) (by decide); exact ⟨by omega, by omega⟩
  · have := hp 9 (by decide) (by decide); exact ⟨by omega, by omega⟩
  · have := hp 10 (by decide) (by decide); exact ⟨by omega, by omega⟩
  · have := hp 11 (by decide) (by decide); exact ⟨by omega, by omega⟩
  · have := hp 12 (by decide) (by decide); exact ⟨by omega, by omega⟩
  · have := hp 13 (by decide) (by decide); exact ⟨by omega, by omega⟩
  · have := hp 14 (by decide) (by decide); exact ⟨by omega, by omega⟩
  · have := hp 15 (by decide) (by decide); exact ⟨by omega, by omega⟩
  · have := hp 16 (by decide) (by decide); exact ⟨by omega, by omega⟩
  · have := hp 17 (by decide) (by decide); exact ⟨by omega, by omega⟩
  · exact ⟨by omega, by omega⟩
  · exact ⟨by omega, by omega⟩
  · exact Nat.le_trans ha (by decide)
  · exact Nat.le_trans hb (by decide)
  · exact Nat.le_trans hc (by decide)
  · exact Nat.le_trans hd (by decide)
  · exact ⟨by omega, by omega⟩
  · exact ⟨by omega, by omega⟩
  · exact Nat.le_trans hvt (by decide)
theorem evOf_cs (e : Ev) : (evOf e.items).cs = e.cs := cs_evOf e.kinds
theorem right_evOf (e : Ev) : rightE (evOf e.items) = rightE e := rfl
theorem next_bytes {e : Ev} (h : rightE e = true) (rest : List UInt8) : nextP ⟨e.bytes ++ rest, false⟩ = (evOf e.items, ⟨rest, false⟩) := by
  unfold nextP
  rw [← readAll_shape e]
  have := readAll_put (right_ok h) rest
  unfold Ev.bytes
  rw [this]
theorem parse_bytes {e : Ev} (h : rightE e = true) : parseP e.bytes = (evOf e.items, 0) := by
  have := next_bytes h []
  rw [List.append_nil] at this
  unfold parseP
  rw [this]
  dsimp only
  rw [if_pos (by simp), right_evOf, if_pos h]
theorem parse_more {e : Ev} (h : rightE e = true) {q : List UInt8} (hq : q ≠ []) : parseP (e.bytes ++ q) = (zero, 2) := by
  unfold parseP
  rw [next_bytes h q]
  dsimp only
  rw [if_neg]
  simpa using hq
theorem parse_cut {e : Ev} (h : rightE e = true) {p q : List UInt8} (hp : e.bytes = p ++ q) (hq : q ≠ []) : parseP p = (zero, 2) := by
  have := readAll_cut (right_ok h) hp hq
  rw [readAll_shape e] at this
  unfold parseP nextP
  dsimp only
  rw [this, if_neg (by simp)]
theorem bytes_pos (e : Ev) (h : rightE e = true) : 0 < e.bytes.length := by
  have h0 := right_ok h (.n (e.n 0)) (by simp [Ev.items])
  have h0 : 0 ≤ e.n 0 ∧ e.n 0 ≤ 4611686018427387903 := h0
  have hp : 0 < (putB (e.n 0)).length := by
    unfold putB
    rw [if_pos h0]
    exact digits_pos _
  have := put_pre e 1
  have e1 : putAll (e.items.take 1) = putAll (e.items.take 0) ++ putB (e.n 0) := put_one (e := e) (i := 0) rfl
  rw [e1] at this
  simp only [List.take_zero, putAll, List.flatMap_nil, List.nil_append] at this
  omega
def tl : It → Nat
  | .n _ => 0
  | .z _ => 0
  | .t v => v.length
theorem putAll_len : ∀ xs : List It, (putAll xs).length ≤ 9 * xs.length + (xs.map tl).sum
  | [] => by simp [putAll]
  | x :: xs => by
    have ih := putAll_len xs
    have hx : x.put.length ≤ 9 + tl x := by
      cases x with
      | n v => exact putB_len v
      | z v => exact signedB_len v
      | t v => have := textB_len v; simp only [It.put, tl]; omega
    have e : putAll (x :: xs) = x.put ++ putAll xs := by simp [putAll]
    rw [e, List.length_append, List.length_cons, List.map_cons, List.sum_cons]
    omega
theorem items_len (e : Ev) : e.bytes.length ≤ 243 + ((e.t 20).size + (e.t 21).size + (e.t 22).size + (e.t 23).size + (e.t 26).size) := by
  have h := putAll_len e.items
  have hs : ∀ x : ByteArray, x.data.toList.length = x.size := fun x => Array.length_toList
  have h2 : (e.items.map tl).sum = (e.t 20).size + ((e.t 21).size + ((e.t 22).size + ((e.t 23).size + (e.t 26).size))) := by
    simp only [Ev.items, List.map_cons, List.map_nil, tl, List.sum_cons, List.sum_nil, hs]
    omega
  have h3 : e.items.length = 27 := rfl
  unfold Ev.bytes
  omega
end Evt
end Go.Proofs.YtgfkopimjmggdaaDoor

/- vector.Knows (no condition beyond the row's length). -/
namespace Go.Proofs.YtgfkopimjmggdaaDoor
set_option linter.unusedSimpArgs false
set_option linter.unusedVariables false
open Go.ChangeShapes Go.WideShapes Go.RowKit
namespace Vec
attribute [local go_sem ↓] loadRow0 storeRow0
set_option maxRecDepth 20000 in
set_option maxHeartbeats 1000000 in
theorem knows_ (w : World) (xs : List Int) (r n : Int) (hx : xs.length = 16) : Calls Tryd.prog 19 #[vec xs, dotV r n] w fun e w' => e = .returned (.bool (knowsF xs r n)) ∧ New w w' := by
  have b1 := (Blk.new w 23 (ints xs).toArray).alloc (.cells #[.int .i64 r, .int .i64 n] 29)
  have b2 := Blk.new1 w (.cells (ints xs).toArray 23) 29 #[.int .i64 r, .int .i64 n]
  have d0 := fun x : ChgW (fun _ => False) ((w.alloc (.cells (ints xs).toArray 23)).alloc (.cells #[.int .i64 r, .int .i64 n] 29)) => (b2.chg x.chg id).cell 0
  have d1 := fun x : ChgW (fun _ => False) ((w.alloc (.cells (ints xs).toArray 23)).alloc (.cells #[.int .i64 r, .int .i64 n] 29)) => (b2.chg x.chg id).cell 1
  simp only [List.getElem?_toArray, List.getElem?_cons_zero, List.getElem?_cons_succ] at d0 d1
  cases hd : dotF r n with
  | false =>
    have hk : knowsF xs r n = false := by simp [knowsF, hd]
    rw [hk]
    have HC := Lib.hid (fun W => dot_new W r n)
    rw [hd] at HC
    clear hd hk b1 b2
    go_enter Tryd.func19, Tryd.ntmps19
    go_wp2_with fail
    refine wp_region_chg (fun _ => False) (by kernel_rfl) (by kernel_rfl) ?_
    repeat (go_big_quiet_step ((go_at_call 32; exact calls_new (HC.out _))))
    refine wpQuiet_nil ?_
    rintro ⟨wq, hq⟩
    simp only []
    go_wp2
    go_ret
    exact ⟨rfl, ((Chg.refl _ _).alloc _).alloc _ |>.trans hq (fun _ _ => False.elim)⟩
  | true =>
    obtain ⟨h1, h2, h3, h4⟩ := dotF_true.1 hd
    obtain ⟨i, rfl⟩ := Int.eq_ofNat_of_zero_le h1
    have hk : knowsF xs i n = decide (n ≤ xs.getD i 0) := by simp [knowsF, hd]
    rw [hk]
    have HC := Lib.hid (fun W => dot_new W i n)
    rw [hd] at HC
    have ca := fun x : ChgW (fun _ => False) ((w.alloc (.cells (ints xs).toArray 23)).alloc (.cells #[.int .i64 i, .int .i64 n] 29)) => (b1.chg x.chg id).cell i
    rw [List.getElem?_toArray, ints_get, get_getD (by omega)] at ca
    simp only [Option.map_some] at ca
    generalize xs.getD i 0 = x at *
    clear hd hk h1 hx b1 b2
    go_enter Tryd.func19, Tryd.ntmps19
    go_wp2_with fail
    refine wp_region_chg (fun _ => False) (by kernel_rfl) (by kernel_rfl) ?_
    repeat (go_big_quiet_step ((go_at_call 32; exact calls_new (HC.out _))))
    refine wpQuiet_nil ?_
    rintro ⟨wq, hq⟩
    simp only []
    go_wp2
    go_ret
    exact ⟨rfl, ((Chg.refl _ _).alloc _).alloc _ |>.trans hq (fun _ _ => False.elim)⟩
end Vec
end Go.Proofs.YtgfkopimjmggdaaDoor

/- What the program's vector package computes of events' pasts and dots: Join, Below, Sum, Add (no condition beyond the rows' lengths and the numbers' sizes). -/
namespace Go.Proofs.YtgfkopimjmggdaaDoor
set_option linter.unusedSimpArgs false
set_option linter.unusedVariables false
set_option maxRecDepth 20000
open Go.ChangeShapes Go.WideShapes Go.RowKit
namespace Vec
attribute [local go_sem ↓] loadRow0 storeRow0
/-- a vector stored over a block of 16 cells -/
theorem stB {w : World} {b : Nat} {t : TypeId} {old xs : List Int} (ho : old.length = 16) (hl : xs.length = 16) (h : Blk w b t (ints old).toArray) :
    (StoreRow 23 ⟨b, 0, none⟩ (vec xs)).run Tryd.prog w = .ok () (w.setCells b 0 (ints xs)) ∧ Blk (w.setCells b 0 (ints xs)) b t (ints xs).toArray := by
  refine ⟨run_StoreRow (P := Tryd.prog) (t := 23) (n := 16) (by kernel_rfl) (by rw [ints_length, hl]) (ints_one _) h (by rw [ints_length, ho]; exact Nat.le_refl _), ?_⟩
  have := Blk.setCells (ints xs) 0 _ _ h (by rw [ints_length, ints_length, hl, ho]; exact Nat.le_refl _)
  have h2 : (ints old).drop (0 + (ints xs).length) = [] := List.drop_eq_nil_of_le (by rw [ints_length, ints_length]; omega)
  rw [h2] at this
  simpa using this
theorem resV {fn : Func} {p : Tmp} (h : fn.results = #[.cell p 23]) (tmps : Array Value) (w : World) (g : Nat) (t : TypeId) (xs : List Int) (hl : xs.length = 16)
    (hp : tmps.getD p undef = .pointer (some ⟨g, 0, none⟩)) (hg : Blk w g t (ints xs).toArray) : (results fn tmps).run Tryd.prog w = .ok (vec xs) w :=
  results_cell_row h tmps w g t _ (0, 0) _ hp hg Tryd.underlying23 rfl (by rw [List.size_toArray, ints_length, hl]; kernel_rfl)
theorem max_ (x y : Int) (w : World) : Calls Tryd.prog 42 #[.int .i64 x, .int .i64 y] w fun e w' => e = .returned (.int .i64 (max x y)) ∧ w' = w := by
  by_cases h : x < y
  · rw [show max x y = y by omega]
    go_enter Tryd.func42, Tryd.ntmps42
    go_wp2
    go_ret
    first | exact ⟨rfl, rfl⟩ | exact ⟨by show Ending.returned (.int .i64 (max x y)) = _; rw [show max x y = y by omega], rfl⟩
  · rw [show max x y = x by omega]
    go_enter Tryd.func42, Tryd.ntmps42
    go_wp2
    go_ret
    first | exact ⟨rfl, rfl⟩ | exact ⟨by show Ending.returned (.int .i64 (max x y)) = _; rw [show max x y = x by omega], rfl⟩
set_option maxHeartbeats 1000000 in
theorem each_max (w : World) (xs ys : List Int) (hx : xs.length = 16) (hy : ys.length = 16) :
    Calls Tryd.prog 41 #[vec xs, vec ys, .func (.func 42) #[] #[]] w fun e w' => e = .returned (vec (join xs ys)) ∧ New w w' := by
  have hz := zero_vec
  have HX := Lib.hid hx
  have HY := Lib.hid hy
  go_enter Tryd.func41, Tryd.ntmps41
  go_wp2
  go_loopw [7, 8] (fun _ i wr => ∃ (k : Nat), k ≤ 16 ∧ i = .int .i64 k ∧ Blk wr w.heap.size 23 (ints (zl max xs ys k)).toArray ∧ Blk wr (w.heap.size + 1) 23 (ints ys).toArray ∧ Blk wr (w.heap.size + 2) 23 (ints zeros).toArray ∧ New w wr) (fun _ i _ => 16 - (intOf i).toNat)
  case atStart =>
    refine ⟨0, by omega, rfl, ?_, ?_, ?_, (((Chg.refl _ _).alloc _).alloc _).alloc _⟩
    · rw [zl_zero _ _ hx]
      exact ((Blk.new w _ _).alloc _).alloc _
    · exact (Blk.new1 w _ _ _).alloc _
    · exact Blk.new2 w _ _ _ _
  case round =>
    clear hz hx hy
    obtain ⟨k, hk, rfl, ha, hb, hr, hn⟩ := hrel
    by_cases hlt : k < 16
    · have hki : (k : Int) < 16 := by omega
      have ca : wr.cell? ⟨w.heap.size, k, none⟩ = some (.int .i64 (xs.getD k 0)) := by
        rw [ha.cell, List.getElem?_toArray, ints_get, zl_get _ _ _ _ _ hlt, if_neg (by omega)]; rfl
      have cb : wr.cell? ⟨w.heap.size + 1, k, none⟩ = some (.int .i64 (ys.getD k 0)) := by
        rw [hb.cell, List.getElem?_toArray, ints_get, get_getD (by rw [HY.out]; exact hlt)]; rfl
      have fa := ha.frozen k
      have HS := Lib.hid (zl_set max xs ys k hlt)
      have HA := Lib.hid ha
      have HB := Lib.hid hb
      have HR := Lib.hid hr
      clear ha hb hr
      generalize xs.getD k 0 = x at *
      generalize ys.getD k 0 = y at *
      go_wp2
      refine wp_region_tail 10 (by kernel_rfl) (by kernel_rfl) ?_
      simp only [List.take_succ_cons, List.take_zero, List.drop_succ_cons, List.drop_zero]
      repeat (first | still_step | still_call (max_ _ _ _))
      refine wpStill_nil ?_
      go_wp2
      go_roundw
      case rel =>
        refine ⟨k + 1, by omega, by go_num, ?_, (HB.out.far (p := ⟨w.heap.size, k, none⟩) (by simp) _).drew, (HR.out.far (p := ⟨w.heap.size, k, none⟩) (by simp) _).drew, (hn.setCell (p := ⟨w.heap.size, k, none⟩) (fun h => by simp at h) _).drew⟩
        have := (HA.out.set_ k (.int .i64 (max x y))).drew
        rwa [setIfInBounds_toArray, ints_set, HS.out] at this
      case measure => simp [intOf]; omega
    · obtain rfl : k = 16 := by omega
      have hl := ldB (zl_length ..) ha
      obtain ⟨hs, hb2⟩ := stB zeros_length (zl_length max xs ys 16) hr
      have HB2 := Lib.hid hb2
      clear hb2 ha hb hr
      go_wp2
      exact bodyPost_ret (resV rfl _ _ (w.heap.size + 2) _ _ (zl_length ..) rfl HB2.out) rfl ⟨rfl, Chg.setCells _ _ _ hn (fun h => by omega)⟩
set_option maxHeartbeats 1000000 in
theorem join_ (w : World) (xs ys : List Int) (hx : xs.length = 16) (hy : ys.length = 16) :
    Calls Tryd.prog 33 #[vec xs, vec ys] w fun e w' => e = .returned (vec (join xs ys)) ∧ New w w' := by
  have hz := zero_vec
  have l1 := ldB (w := ((w.alloc (.cells (ints xs).toArray 23)).alloc (.cells (ints ys).toArray 23)).alloc (.cells (ints zeros).toArray 23)) hx (((Blk.new w _ _).alloc _).alloc _)
  have l2 := ldB (w := ((w.alloc (.cells (ints xs).toArray 23)).alloc (.cells (ints ys).toArray 23)).alloc (.cells (ints zeros).toArray 23)) hy ((Blk.new1 w _ _ _).alloc _)
  have HR := Lib.hid (Blk.new2 w (.cells (ints xs).toArray 23) (.cells (ints ys).toArray 23) 23 (ints zeros).toArray)
  have HC := Lib.hid (fun W => each_max W xs ys hx hy)
  clear hx hy
  go_enter Tryd.func33, Tryd.ntmps33
  go_wp2_with fail
  refine (HC.out _).mono ?_
  rintro e w1 ⟨rfl, hn1⟩
  obtain ⟨hs, hb2⟩ := stB zeros_length (join_length xs ys) (HR.out.chg hn1 id)
  have HB2 := Lib.hid hb2
  have hn := (((Chg.refl (fun _ => False) w).alloc _).alloc _).alloc _ |>.trans hn1 (fun _ _ => False.elim)
  clear hb2 l1 l2
  go_wp2
  exact bodyPost_ret (resV rfl _ _ (w.heap.size + 2) _ _ (join_length ..) rfl HB2.out) rfl ⟨rfl, Chg.setCells _ _ _ hn (fun h => by omega)⟩
attribute [local go_sem ↓] loadRow0 storeRow0

set_option maxHeartbeats 1000000 in
theorem below_ (w : World) (xs ys : List Int) (hx : xs.length = 16) (hy : ys.length = 16) :
    Calls Tryd.prog 21 #[vec xs, vec ys] w fun e w' => e = .returned (.bool (belowF xs ys)) ∧ New w w' := by
  have b1 := (Blk.new w 23 (ints xs).toArray).alloc (.cells (ints ys).toArray 23)
  have b2 := Blk.new1 w (.cells (ints xs).toArray 23) 23 (ints ys).toArray
  have l1 := ldB hx b1.drew
  have l2 := ldB hy b2.drew
  have HB := Lib.hid b2
  have HY := Lib.hid hy
  have HC := Lib.hid (fun W => join_ W xs ys hx hy)
  have eg := eqG
  have ev := fun W => eqV (join_length xs ys) hy W
  clear hx hy b1 b2
  go_enter Tryd.func21, Tryd.ntmps21
  go_wp2_with fail
  go_region_with (go_at_call 33; refine (HC.out _).mono ?_; rintro e w1 ⟨rfl, hn1⟩; have l3 := ldB HY.out (HB.out.chg ((Chg.refl (fun _ => False) _).drew.trans hn1 (fun _ _ => False.elim)) id))
  all_goals go_wp2
  all_goals go_ret
  all_goals exact ⟨rfl, ((((Chg.refl _ _).alloc _).alloc _).drew).trans hn1 (fun _ _ => False.elim)⟩
/-- numbers of Go's int -/
def I64 (xs : List Int) : Prop := ∀ x ∈ xs, -9223372036854775808 ≤ x ∧ x ≤ 9223372036854775807
theorem I64.at {xs : List Int} (h : I64 xs) (k : Nat) : -9223372036854775808 ≤ xs.getD k 0 ∧ xs.getD k 0 ≤ 9223372036854775807 := by
  by_cases hk : k < xs.length
  · have : xs.getD k 0 = xs[k] := by simp [List.getD_eq_getElem?_getD, List.getElem?_eq_getElem hk]
    rw [this]
    exact h _ (List.getElem_mem hk)
  · have : xs.getD k 0 = 0 := by simp [List.getD_eq_getElem?_getD, List.getElem?_eq_none (show xs.length ≤ k by omega)]
    rw [this]
    omega
theorem sumF_stop {x n : Int} {l : List Int} (h : 4611686018427387904 - n < max x 0) : sumF (x :: l) n = 4611686018427387904 := by unfold sumF; rw [if_pos h]
theorem sumF_go {x n : Int} {l : List Int} (h : ¬ 4611686018427387904 - n < max x 0) : sumF (x :: l) n = sumF l (n + max x 0) := by
  rw [sumF]; rw [if_neg h]
set_option maxHeartbeats 1000000 in
theorem sum_ (w : World) (xs : List Int) (hx : xs.length = 16) (hi : I64 xs) : Calls Tryd.prog 39 #[vec xs] w fun e w' => e = .returned (.int .i64 (sumF xs 0)) ∧ New w w' := by
  have l1 := ldB hx (Blk.new w 23 (ints xs).toArray)
  have HX := Lib.hid hx
  clear hx
  go_enter Tryd.func39, Tryd.ntmps39
  go_wp2
  go_loop [3, 5, 7] (fun s _ i => ∃ (k : Nat) (n : Int), k ≤ 16 ∧ i = .int .i64 k ∧ s = .int .i64 n ∧ 0 ≤ n ∧ n ≤ 4611686018427387904 ∧ Hid (sumF xs 0 = sumF (xs.drop k) n)) (fun _ _ i => 16 - (intOf i).toNat)
  case atStart => exact ⟨0, 0, by omega, rfl, rfl, by omega, by omega, rfl⟩
  case round =>
    obtain ⟨k, n, hk, rfl, rfl, hn0, hn1, hs⟩ := hrel
    by_cases hlt : k < 16
    · have hix := ixV HX.out hlt
      have hxb := hi.at k
      have hd := drop_cons (show k < xs.length by rw [HX.out]; exact hlt)
      rw [hd] at hs
      clear hd hi
      generalize xs.getD k 0 = x at *
      by_cases h0 : x < 0
      · have hg : ¬ 4611686018427387904 - n < max x 0 := by omega
        rw [sumF_go hg, show max x 0 = 0 by omega] at hs
        go_wp2
        go_round
        case rel => exact ⟨k + 1, n + 0, by omega, by go_num, by go_num, by omega, by omega, hs⟩
        case measure => simp [intOf]; omega
      · by_cases h1 : 4611686018427387904 - n < x
        · rw [sumF_stop (by omega)] at hs
          go_wp2
          go_ret
          exact ⟨by rw [hs.out]; rfl, (Chg.refl _ _).alloc _⟩
        · rw [sumF_go (by omega), show max x 0 = x by omega] at hs
          go_wp2
          go_round
          case rel => exact ⟨k + 1, n + x, by omega, by go_num, by go_num, by omega, by omega, hs⟩
          case measure => simp [intOf]; omega
    · obtain rfl : k = 16 := by omega
      have hd : xs.drop 16 = [] := List.drop_eq_nil_of_le (by rw [HX.out]; exact Nat.le_refl _)
      rw [hd] at hs
      go_wp2
      go_ret
      exact ⟨by rw [hs.out]; rfl, (Chg.refl _ _).alloc _⟩
theorem addF_no {xs : List Int} {r n : Int} (h : dotF r n = false) : addF xs r n = xs := by simp [addF, h]
theorem addF_known {xs : List Int} {r n : Int} (h : knowsF xs r n = true) : addF xs r n = xs := by simp [addF, h]
theorem addF_yes {xs : List Int} {r n : Int} (h : dotF r n = true) (h1 : knowsF xs r n = false) : addF xs r n = xs.set r.toNat n := by simp [addF, h, h1]
set_option maxHeartbeats 2000000 in
theorem add_ (w : World) (xs : List Int) (r n : Int) (hx : xs.length = 16) : Calls Tryd.prog 23 #[vec xs, dotV r n] w fun e w' => e = .returned (vec (addF xs r n)) ∧ New w w' := by
  have hz := zero_vec
  have b1 := ((Blk.new w 23 (ints xs).toArray).alloc (.cells #[.int .i64 r, .int .i64 n] 29)).alloc (.cells (ints zeros).toArray 23)
  have b2 := (Blk.new1 w (.cells (ints xs).toArray 23) 29 #[.int .i64 r, .int .i64 n]).alloc (.cells (ints zeros).toArray 23)
  have b3 := Blk.new2 w (.cells (ints xs).toArray 23) (.cells #[.int .i64 r, .int .i64 n] 29) 23 (ints zeros).toArray
  have hn0 : New w (((w.alloc (.cells (ints xs).toArray 23)).alloc (.cells #[.int .i64 r, .int .i64 n] 29)).alloc (.cells (ints zeros).toArray 23)) := ((Chg.refl _ _).alloc _).alloc _ |>.alloc _
  have C1 := Lib.hid (fun W => dot_new W r n)
  have C2 := Lib.hid (fun W => knows_ W xs r n hx)
  have HX := Lib.hid hx
  have B1 := Lib.hid b1
  have B2 := Lib.hid b2
  have B3 := Lib.hid b3
  have HN := Lib.hid hn0
  clear hx b1 b2 b3 hn0
  cases hd : dotF r n with
  | false =>
    rw [addF_no hd]
    rw [hd] at C1
    clear hd
    go_enter Tryd.func23, Tryd.ntmps23
    go_wp2_with fail
    refine (C1.out _).mono ?_
    rintro e w1 ⟨rfl, hn1⟩
    have l1 := ldB HX.out (B1.out.chg hn1 id)
    obtain ⟨s1, hb2⟩ := stB zeros_length HX.out (B3.out.chg hn1 id)
    have HB2 := Lib.hid hb2
    clear hb2
    go_wp2
    exact bodyPost_ret (resV rfl _ _ (w.heap.size + 2) _ _ HX.out rfl HB2.out) rfl ⟨rfl, Chg.setCells _ _ _ (HN.out.trans hn1 (fun _ _ => False.elim)) (fun h => by omega)⟩
  | true =>
    rw [hd] at C1
    cases hk : knowsF xs r n with
    | true =>
      rw [addF_known hk]
      rw [hk] at C2
      clear hd hk
      go_enter Tryd.func23, Tryd.ntmps23
      go_wp2_with fail
      refine (C1.out _).mono ?_
      rintro e w1 ⟨rfl, hn1⟩
      have l1 := ldB HX.out (B1.out.chg hn1 id)
      have c0 := (B2.out.chg hn1 id).cell 0
      have c1 := (B2.out.chg hn1 id).cell 1
      simp only [List.getElem?_toArray, List.getElem?_cons_zero, List.getElem?_cons_succ] at c0 c1
      go_wp2_with fail
      refine (C2.out _).mono ?_
      rintro e w2 ⟨rfl, hn2⟩
      have l2 := ldB HX.out ((B1.out.chg hn1 id).chg hn2 id)
      obtain ⟨s1, hb2⟩ := stB zeros_length HX.out ((B3.out.chg hn1 id).chg hn2 id)
      have HB2 := Lib.hid hb2
      clear hb2
      go_wp2
      exact bodyPost_ret (resV rfl _ _ (w.heap.size + 2) _ _ HX.out rfl HB2.out) rfl ⟨rfl, Chg.setCells _ _ _ ((HN.out.trans hn1 (fun _ _ => False.elim)).trans hn2 (fun _ _ => False.elim)) (fun h => by omega)⟩
    | false =>
      rw [addF_yes hd hk]
      rw [hk] at C2
      obtain ⟨h1, h2, h3, h4⟩ := dotF_true.1 hd
      obtain ⟨i, rfl⟩ := Int.eq_ofNat_of_zero_le h1
      rw [Int.toNat_natCast]
      clear hd hk
      go_enter Tryd.func23, Tryd.ntmps23
      go_wp2_with fail
      refine (C1.out _).mono ?_
      rintro e w1 ⟨rfl, hn1⟩
      have l1 := ldB HX.out (B1.out.chg hn1 id)
      have c0 := (B2.out.chg hn1 id).cell 0
      have c1 := (B2.out.chg hn1 id).cell 1
      simp only [List.getElem?_toArray, List.getElem?_cons_zero, List.getElem?_cons_succ] at c0 c1
      go_wp2_with fail
      refine (C2.out _).mono ?_
      rintro e w2 ⟨rfl, hn2⟩
      have k1 := (B1.out.chg hn1 id).chg hn2 id
      have k2 := (B2.out.chg hn1 id).chg hn2 id
      have k3 := (B3.out.chg hn1 id).chg hn2 id
      have m0 := k2.cell 0
      have m1 := k2.cell 1
      simp only [List.getElem?_toArray, List.getElem?_cons_zero, List.getElem?_cons_succ] at m0 m1
      have ci := k1.cell i
      rw [List.getElem?_toArray, ints_get, get_getD (by rw [HX.out]; omega)] at ci
      simp only [Option.map_some] at ci
      have fi := k1.frozen i
      have hsl : (xs.set i n).length = 16 := by rw [List.length_set]; exact HX.out
      have k4 := k1.set_ i (.int .i64 n)
      rw [setIfInBounds_toArray, ints_set] at k4
      have l2 := ldB hsl k4
      obtain ⟨s1, hb2⟩ := stB zeros_length hsl (k3.far (p := ⟨w.heap.size, i, none⟩) (by simp) (.int .i64 n))
      have HB2 := Lib.hid hb2
      have HS := Lib.hid hsl
      have HCH := Lib.hid (((HN.out.trans hn1 (fun _ _ => False.elim)).trans hn2 (fun _ _ => False.elim)).setCell (p := ⟨w.heap.size, i, none⟩) (fun h => by simp at h) (.int .i64 n))
      clear hb2 k1 k2 k3 k4 hsl hn1 hn2
      go_wp2
      exact bodyPost_ret (resV rfl _ _ (w.heap.size + 2) _ _ HS.out rfl HB2.out) rfl ⟨rfl, Chg.setCells _ _ _ HCH.out (fun h => by omega)⟩
end Vec
end Go.Proofs.YtgfkopimjmggdaaDoor

/- Which events may come, and which are taken one by one, in plain words (no condition). -/
namespace Go.Proofs.YtgfkopimjmggdaaDoor
set_option linter.unusedSimpArgs false
set_option linter.unusedVariables false
namespace Acc
open Evt Vec
/-- may an event come? -/
def oneF (v : List Int) (e : Ev) : Int := if rightE e = true then (if knowsF v (e.n 0) (e.n 1) = true then 5 else if (nextF v (e.n 0) (e.n 1) && belowF (past e) v) = true then 0 else 8) else 1
/-- those taken, what is known then, and what stops it -/
def allF : List Int → List Ev → List Ev × List Int × Int
  | v, [] => ([], v, 0)
  | v, e :: l => if oneF v e = 0 then (e :: (allF (addF v (e.n 0) (e.n 1)) l).1, (allF (addF v (e.n 0) (e.n 1)) l).2) else if oneF v e = 5 then allF v l else ([], v, oneF v e)
def lacksF (v : List Int) (l : List Ev) : List Ev := l.filter fun e => !knowsF v (e.n 0) (e.n 1)
def rowF (l : List Ev) : Bool := decide ((allF zeros l).2.2 = 0) && decide ((allF zeros l).1.length = l.length)
theorem allF_take {v : List Int} {e : Ev} {l : List Ev} (h : oneF v e = 0) : allF v (e :: l) = (e :: (allF (addF v (e.n 0) (e.n 1)) l).1, (allF (addF v (e.n 0) (e.n 1)) l).2) := by rw [allF, if_pos h]
theorem allF_skip {v : List Int} {e : Ev} {l : List Ev} (h : oneF v e = 5) : allF v (e :: l) = allF v l := by rw [allF, if_neg (by omega), if_pos h]
theorem allF_stop {v : List Int} {e : Ev} {l : List Ev} (h : oneF v e ≠ 0) (h5 : oneF v e ≠ 5) : allF v (e :: l) = ([], v, oneF v e) := by rw [allF, if_neg h, if_neg h5]
theorem addF_len (v : List Int) (r n : Int) : (addF v r n).length = v.length := by
  unfold addF
  split
  · exact List.length_set ..
  · rfl
theorem allF_vlen : ∀ (l : List Ev) (v : List Int), (allF v l).2.1.length = v.length
  | [], v => rfl
  | e :: l, v => by
    by_cases h : oneF v e = 0
    · rw [allF_take h]
      show (allF (addF v (e.n 0) (e.n 1)) l).2.1.length = _
      rw [allF_vlen l, addF_len]
    · by_cases h5 : oneF v e = 5
      · rw [allF_skip h5, allF_vlen l]
      · rw [allF_stop h h5]
theorem allF_len : ∀ (l : List Ev) (v : List Int), (allF v l).1.length ≤ l.length
  | [], v => Nat.le_refl _
  | e :: l, v => by
    by_cases h : oneF v e = 0
    · rw [allF_take h]
      have := allF_len l (addF v (e.n 0) (e.n 1))
      simp only [List.length_cons]
      omega
    · by_cases h5 : oneF v e = 5
      · rw [allF_skip h5]
        have := allF_len l v
        simp only [List.length_cons]
        omega
      · rw [allF_stop h h5]
        exact Nat.zero_le _
/-- what knows one when the other one does -/
def Geq (w v : List Int) : Prop := ∀ r n, knowsF v r n = true → knowsF w r n = true
theorem Geq.refl (v : List Int) : Geq v v := fun _ _ => id
theorem Geq.trans {u v w : List Int} (h : Geq w v) (k : Geq v u) : Geq w u := fun r n hn => h r n (k r n hn)
theorem knowsF_iff {v : List Int} {r n : Int} : knowsF v r n = true ↔ (0 ≤ r ∧ r < 16 ∧ 1 ≤ n ∧ n ≤ 1048576) ∧ n ≤ v.getD r.toNat 0 := by
  unfold knowsF
  rw [Bool.and_eq_true, dotF_true, decide_eq_true_iff]
theorem add_getD {v : List Int} (hv : v.length = 16) {r n : Int} (hd : dotF r n = true) (hk : knowsF v r n = false) (i : Nat) : (addF v r n).getD i 0 = if i = r.toNat then n else v.getD i 0 := by
  rw [addF_yes hd hk]
  obtain ⟨h0, h1, _⟩ := dotF_true.1 hd
  simp only [List.getD_eq_getElem?_getD]
  by_cases hi : i = r.toNat
  · subst hi
    rw [if_pos rfl, List.getElem?_set_self (by omega)]
    rfl
  · rw [if_neg hi, List.getElem?_set_ne (fun h => hi h.symm)]
theorem add_geq {v : List Int} (hv : v.length = 16) {r n : Int} (hd : dotF r n = true) (hk : knowsF v r n = false) : Geq (addF v r n) v := fun s m h => by
  rw [knowsF_iff] at h ⊢
  refine ⟨h.1, ?_⟩
  rw [add_getD hv hd hk]
  split
  · rename_i he
    have h1 := h.2
    rw [he] at h1
    have hn : ¬ n ≤ v.getD r.toNat 0 := fun hn => by
      have := knowsF_iff.2 ⟨dotF_true.1 hd, hn⟩
      rw [hk] at this
      cases this
    omega
  · exact h.2
theorem add_knows {v : List Int} (hv : v.length = 16) {r n : Int} (hd : dotF r n = true) (hk : knowsF v r n = false) : knowsF (addF v r n) r n = true := by
  rw [knowsF_iff, add_getD hv hd hk, if_pos rfl]
  exact ⟨dotF_true.1 hd, Int.le_refl _⟩
theorem one_zero {v : List Int} {e : Ev} (h : oneF v e = 0) : rightE e = true ∧ knowsF v (e.n 0) (e.n 1) = false ∧ nextF v (e.n 0) (e.n 1) = true ∧ belowF (past e) v = true := by
  unfold oneF at h
  split at h
  · rename_i hr
    split at h
    · omega
    · rename_i hk
      split at h
      · rename_i hn
        rw [Bool.and_eq_true] at hn
        exact ⟨hr, by simpa using hk, hn⟩
      · omega
  · omega
theorem one_dot {e : Ev} (h : rightE e = true) : dotF (e.n 0) (e.n 1) = true := by
  unfold rightE nextF at h
  simp only [Bool.and_eq_true] at h
  exact h.1.1.1
/-- what is taken is known then, and wasn't; what was known is -/
theorem all_known : ∀ (l : List Ev) (v : List Int), v.length = 16 → Geq (allF v l).2.1 v ∧ ∀ e ∈ (allF v l).1, rightE e = true ∧ knowsF (allF v l).2.1 (e.n 0) (e.n 1) = true ∧ knowsF v (e.n 0) (e.n 1) = false
  | [], v, _ => ⟨Geq.refl v, fun e he => by cases he⟩
  | e :: l, v, hv => by
    by_cases h : oneF v e = 0
    · rw [allF_take h]
      obtain ⟨hr, hk, _, _⟩ := one_zero h
      have hd := one_dot hr
      obtain ⟨ih1, ih2⟩ := all_known l (addF v (e.n 0) (e.n 1)) (by rw [addF_len]; exact hv)
      have hg := add_geq hv hd hk
      refine ⟨ih1.trans hg, fun x hx => ?_⟩
      rcases List.mem_cons.1 hx with rfl | hx
      · exact ⟨hr, ih1 _ _ (add_knows hv hd hk), hk⟩
      · obtain ⟨h1, h2, h3⟩ := ih2 x hx
        refine ⟨h1, h2, ?_⟩
        cases hq : knowsF v (x.n 0) (x.n 1)
        · rfl
        · rw [hg _ _ hq] at h3
          cases h3
    · by_cases h5 : oneF v e = 5
      · rw [allF_skip h5]
        exact all_known l v hv
      · rw [allF_stop h h5]
        exact ⟨Geq.refl v, fun x hx => by cases hx⟩
theorem all_again : ∀ (l : List Ev) (w : List Int), (∀ e ∈ l, rightE e = true ∧ knowsF w (e.n 0) (e.n 1) = true) → allF w l = ([], w, 0)
  | [], w, _ => rfl
  | e :: l, w, h => by
    have h1 := h e (List.mem_cons_self ..)
    rw [allF_skip (by unfold oneF; rw [if_pos h1.1, if_pos h1.2])]
    exact all_again l w fun x hx => h x (List.mem_cons_of_mem _ hx)
theorem again (v : List Int) (l : List Ev) (hv : v.length = 16) : allF (allF v l).2.1 (allF v l).1 = ([], (allF v l).2.1, 0) ∧ lacksF (allF v l).2.1 (allF v l).1 = [] ∧ lacksF v (allF v l).1 = (allF v l).1 := by
  obtain ⟨_, h⟩ := all_known l v hv
  refine ⟨all_again _ _ fun e he => ⟨(h e he).1, (h e he).2.1⟩, ?_, ?_⟩
  · unfold lacksF
    rw [List.filter_eq_nil_iff]
    intro e he
    rw [(h e he).2.1]
    decide
  · unfold lacksF
    rw [List.filter_eq_self]
    intro e he
    rw [(h e he).2.2]
    rfl
/-- those of a row that may come, each behind all that its past knows -/
def causalF : List Int → List Ev → List Ev × List Int
  | v, [] => ([], v)
  | v, e :: l => if oneF v e = 0 then (e :: (causalF (addF v (e.n 0) (e.n 1)) l).1, (causalF (addF v (e.n 0) (e.n 1)) l).2) else causalF v l
theorem causal_take {v : List Int} {e : Ev} {l : List Ev} (h : oneF v e = 0) : causalF v (e :: l) = (e :: (causalF (addF v (e.n 0) (e.n 1)) l).1, (causalF (addF v (e.n 0) (e.n 1)) l).2) := by rw [causalF, if_pos h]
theorem causal_skip {v : List Int} {e : Ev} {l : List Ev} (h : oneF v e ≠ 0) : causalF v (e :: l) = causalF v l := by rw [causalF, if_neg h]
theorem causal_len : ∀ (l : List Ev) (v : List Int), (causalF v l).1.length ≤ l.length
  | [], v => Nat.le_refl _
  | e :: l, v => by
    by_cases h : oneF v e = 0
    · rw [causal_take h]
      have := causal_len l (addF v (e.n 0) (e.n 1))
      simp only [List.length_cons]
      omega
    · rw [causal_skip h]
      have := causal_len l v
      simp only [List.length_cons]
      omega
/-- all come just if all of the row may -/
theorem row_iff : ∀ (l : List Ev) (v : List Int), ((allF v l).2.2 = 0 ∧ (allF v l).1.length = l.length) ↔ (causalF v l).1.length = l.length
  | [], v => by simp [allF, causalF]
  | e :: l, v => by
    by_cases h : oneF v e = 0
    · rw [allF_take h, causal_take h]
      have := row_iff l (addF v (e.n 0) (e.n 1))
      simp only [List.length_cons]
      omega
    · rw [causal_skip h]
      have h1 := causal_len l v
      by_cases h5 : oneF v e = 5
      · rw [allF_skip h5]
        have := allF_len l v
        simp only [List.length_cons]
        omega
      · rw [allF_stop h h5]
        simp only [List.length_cons, List.length_nil]
        omega
theorem rowF_eq (l : List Ev) : rowF l = decide ((causalF zeros l).1.length = l.length) := by
  unfold rowF
  rw [← Bool.decide_and, decide_eq_decide]
  exact row_iff l zeros
end Acc
end Go.Proofs.YtgfkopimjmggdaaDoor
